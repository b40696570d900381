/- What calls of functions do, where functions do what they are known to; no condition. -/
import Derived.Test.YtbkhhfekdpkhbaaAbR
namespace Go.Proofs.Ytbkhhfekdpkhbaa.Ab
open Go

/-- The names of the rows that are handed in. -/
def inK (k n : Nat) : Bool := Nat.ble 1000000 n && Nat.blt n (1000000 + k)

/-- What a call ends with. -/
def Ends (K : Nat → Bool) (ρ : Nat → Hd) (G : Nat → Prop) (heap : Nat → Option Row) (w : World) (e : Eff) : Ending → World → Prop
  | .returned v, w' => ∃ ρ' G', HRel (mark K e.new) ρ' G' (news (puts heap e.put) e.new) w' ∧ Rep (mark K e.new) ρ' G' w' e.val v ∧ Evo K ρ G heap w (mark K e.new) ρ' G' (news (puts heap e.put) e.new) w'
  | _, _ => False

/-- A function does what it is known to. -/
structure SumOK (P : Program) (F : FuncId) (s : Sum) : Prop where
  enters : ∀ (args : Array Value) (w : World), (callFunc F args).run P w = .ok (.enter F args) w
  calls : ∀ (k : Nat) (l : List V) (heap : Nat → Option Row) (e : Eff), s.f k l heap = some e → effOk k e = true → e.need → ∀ (ρ : Nat → Hd) (G : Nat → Prop) (w : World) (args : List Value),
    HRel (inK k) ρ G heap w → (∀ n r, heap n = some r → rowFree r = true) → Reps (inK k) ρ G w l args → Calls P F args.toArray w (Ends (inK k) ρ G heap w e)

theorem memb_iff (l : List Nat) (h : Nat) : memb l h = true ↔ h ∈ l := by
  induction l with
  | nil => simp [memb]
  | cons x l ih =>
    simp only [memb, Bool.or_eq_true, ih, List.mem_cons]
    constructor
    · rintro (e | e)
      · exact .inl (Nat.eq_of_beq_eq_true e).symm
      · exact .inr e
    · rintro (e | e)
      · subst e; exact .inl (Nat.beq_refl _)
      · exact .inr e
theorem nodup_iff (l : List Nat) : nodup l = true ↔ l.Nodup := by
  induction l with
  | nil => simp [nodup]
  | cons x l ih =>
    simp only [nodup, Bool.and_eq_true, Bool.not_eq_true', ih, List.nodup_cons, ← Bool.not_eq_true, memb_iff]
theorem pos_get {l : List Nat} {h : Nat} (m : h ∈ l) : l[pos l h]? = some h := by
  induction l with
  | nil => cases m
  | cons x l ih =>
    simp only [pos]
    cases e : Nat.beq x h with
    | true => simp [Nat.eq_of_beq_eq_true e]
    | false =>
      simp only [cond_false, List.getElem?_cons_succ]
      rcases List.mem_cons.1 m with m | m
      · subst m; rw [Nat.beq_refl] at e; cases e
      · exact ih m
theorem pos_lt {l : List Nat} {h : Nat} (m : h ∈ l) : pos l h < l.length := (List.getElem?_eq_some_iff.1 (pos_get m)).1

theorem puts_not : ∀ (l : List (Nat × Option Row)) (heap : Nat → Option Row) (h : Nat), h ∉ l.map (·.1) → puts heap l h = heap h
  | [], _, _, _ => rfl
  | (q, r) :: l, heap, h, hn => by
    simp only [List.map_cons, List.mem_cons, not_or] at hn
    simp only [puts]
    rw [puts_not l _ h hn.2, upd_ne _ _ _ hn.1]
theorem puts_mem : ∀ (l : List (Nat × Option Row)) (heap : Nat → Option Row) (h : Nat) (r : Option Row), (l.map (·.1)).Nodup → (h, r) ∈ l → puts heap l h = r
  | (q, s) :: l, heap, h, r, hd, hm => by
    simp only [List.map_cons, List.nodup_cons] at hd
    simp only [puts]
    rcases List.mem_cons.1 hm with e | e
    · cases e
      rw [puts_not l _ _ hd.1, upd_same]
    · exact puts_mem l _ h r hd.2 e
theorem news_not : ∀ (l : List (Nat × Row)) (heap : Nat → Option Row) (h : Nat), h ∉ l.map (·.1) → news heap l h = heap h
  | [], _, _, _ => rfl
  | (q, r) :: l, heap, h, hn => by
    simp only [List.map_cons, List.mem_cons, not_or] at hn
    simp only [news]
    rw [news_not l _ h hn.2, upd_ne _ _ _ hn.1]
theorem news_mem : ∀ (l : List (Nat × Row)) (heap : Nat → Option Row) (h : Nat) (r : Row), (l.map (·.1)).Nodup → (h, r) ∈ l → news heap l h = some r
  | (q, s) :: l, heap, h, r, hd, hm => by
    simp only [List.map_cons, List.nodup_cons] at hd
    simp only [news]
    rcases List.mem_cons.1 hm with e | e
    · cases e
      rw [news_not l _ _ hd.1, upd_same]
    · exact news_mem l _ h r hd.2 e
theorem mark_iff : ∀ (l : List (Nat × Row)) (K : Nat → Bool) (h : Nat), mark K l h = true ↔ K h = true ∨ h ∈ l.map (·.1)
  | [], _, _ => by simp [mark]
  | (q, r) :: l, K, h => by
    simp only [mark, List.map_cons, List.mem_cons]
    rw [mark_iff l]
    by_cases e : h = q
    · subst e; simp [upd_same]
    · rw [upd_ne _ _ _ e]; simp [e]
theorem fresh_iff : ∀ (l : List (Nat × Row)) (K : Nat → Bool), fresh K l = true ↔ (∀ h ∈ l.map (·.1), K h = false) ∧ (l.map (·.1)).Nodup
  | [], K => by simp [fresh]
  | (q, r) :: l, K => by
    simp only [fresh, Bool.and_eq_true, Bool.not_eq_true', List.map_cons, List.mem_cons, List.nodup_cons]
    rw [fresh_iff l]
    constructor
    · rintro ⟨h1, h2, h3⟩
      have hq : q ∉ l.map (·.1) := fun hm => by have := h2 q hm; rw [upd_same] at this; cases this
      refine ⟨?_, hq, h3⟩
      rintro h (e | e)
      · rw [e]; exact h1
      · have := h2 h e
        by_cases e' : h = q
        · rw [e']; exact h1
        · rwa [upd_ne _ _ _ e'] at this
    · rintro ⟨h1, h2, h3⟩
      refine ⟨h1 q (.inl rfl), fun h hm => ?_, h3⟩
      have e' : h ≠ q := fun e => h2 (e ▸ hm)
      rw [upd_ne _ _ _ e']
      exact h1 h (.inr hm)

theorem renNew_get : ∀ (l : List (Nat × Row)) (d j i : Nat) (n : Nat) (r : Row), l[i]? = some (n, r) → (renNew d j l)[i]? = some (d + 100000 * (j + i), r)
  | [], _, _, _, _, _, h => by simp at h
  | (q, s) :: l, d, j, 0, n, r, h => by
    simp only [List.getElem?_cons_zero, Option.some.injEq, Prod.mk.injEq] at h
    simp [renNew, h.2]
  | (q, s) :: l, d, j, i + 1, n, r, h => by
    simp only [List.getElem?_cons_succ] at h
    simp only [renNew, List.getElem?_cons_succ]
    rw [renNew_get l d (j + 1) i n r h]
    congr 3; omega
theorem renNew_length : ∀ (l : List (Nat × Row)) (d j : Nat), (renNew d j l).length = l.length
  | [], _, _ => rfl
  | (_, _) :: l, d, j => by simp [renNew, renNew_length l d (j + 1)]

section
variable {P : Program} {ti : TypeId → TyI} {Γ : FuncId → Option Sum} {K : Nat → Bool} {ρ : Nat → Hd} {G : Nat → Prop} {heap : Nat → Option Row} {w : World}

theorem enc_closed (t : DT) (x : t.T) (ns : Nat → Bool) (j : Nat) (c : V) (h : (enc t x)[j]? = some c) : closed0 ns c = true := by
  have hm := List.mem_of_getElem? h
  have hh : ∀ (l : List UInt8) (c : V), c ∈ hashV l → closed0 ns c = true := by
    intro l c hc
    unfold hashV at hc
    obtain ⟨i, _, rfl⟩ := List.mem_map.1 hc
    rfl
  cases t <;> simp only [enc, List.mem_cons, List.mem_append, List.not_mem_nil, or_false] at hm
  case en => rcases hm with rfl | hm | rfl | rfl | hm | hm <;> first | rfl | exact hh _ _ hm
  case sta => rcases hm with rfl | rfl | rfl | rfl | rfl | hm <;> first | rfl | exact hh _ _ hm
  all_goals (rcases hm with hm; first | (subst hm; rfl) | (rcases hm with rfl | hm <;> first | rfl | (rcases hm with rfl | hm <;> first | rfl | (rcases hm with rfl | hm <;> first | rfl | (subst hm; rfl)) | (subst hm; rfl)) | (subst hm; rfl)))

/-- Under other names. -/
theorem Rep.ren0 {K' : Nat → Bool} {ρ' : Nat → Hd} {ns : Nat → Bool} {σ : Nat → Nat} (hσ : ∀ h, ns h = true → K' (σ h) = true ∧ ρ' (σ h) = ρ h) {c : V} {u : Value} (r : Rep K ρ G w c u) (hc : closed0 ns c = true) :
    Rep K' ρ' G w (Ab.ren0 σ c) u := by
  induction r with
  | any x => exact .any x
  | v x => exact .v x
  | b x => exact .b x
  | fl n h => exact .fl n h
  | cx x y hx hy => exact .cx x y hx hy
  | ptr h off hk hn => have := hσ h hc; rw [← this.2]; exact .ptr _ off this.1 (by rw [this.2]; exact hn)
  | pe h base n s i sub hk hn => have := hσ h hc; rw [← this.2]; exact .pe _ base n s i sub this.1 (by rw [this.2]; exact hn)
  | dp t xs i sub blk o g hGb hcc _ ih => exact .dp t xs i sub blk o g hGb hcc (fun q hq j c h => by
      have e := enc_closed t _ (fun _ => false) j c h
      have e' := enc_closed t _ ns j c h
      have := ih q hq j c h e'
      have e2 : Ab.ren0 σ c = c := by cases c <;> first | rfl | (simp [closed0] at e)
      rwa [e2] at this)
  | own h base s off len c lim a hk hn hl ha hlim htot =>
    have := hσ h hc
    exact .own _ base s off len c lim a this.1 (by rw [this.2]; exact hn) hl (by rw [this.2]; exact ha) hlim (by rw [this.2]; exact htot)
  | ownNil h base s lim hk hn => have := hσ h hc; exact .ownNil _ base s lim this.1 (by rw [this.2]; exact hn)
  | ow h hk hn => have := hσ h hc; rw [← this.2]; exact .ow _ this.1 (by rw [this.2]; exact hn)
  | owNil h hk hn => have := hσ h hc; exact .owNil _ this.1 (by rw [this.2]; exact hn)
  | deep t xs blk o c g hl hGb hcc _ ih => exact .deep t xs blk o c g hl hGb hcc (fun q hq j c h => by
      have e := enc_closed t _ (fun _ => false) j c h
      have e' := enc_closed t _ ns j c h
      have := ih q hq j c h e'
      have e2 : Ab.ren0 σ c = c := by cases c <;> first | rfl | (simp [closed0] at e)
      rwa [e2] at this)
  | deepE t a c ha => exact .deepE t a c ha
  | agg l cs hl _ ih => cases hc
  | vec t n xs cs hl hs _ ih => exact .vec t n xs cs hl hs (fun q hq j c h => by
      have e := enc_closed t _ (fun _ => false) j c h
      have e' := enc_closed t _ ns j c h
      have := ih q hq j c h e'
      have e2 : Ab.ren0 σ c = c := by cases c <;> first | rfl | (simp [closed0] at e)
      rwa [e2] at this)
  | tup l cs hl _ ih => cases hc
  | fn f l m cs ds hl hm h h' ih ih' =>
    simp only [closed0, Bool.and_eq_true, List.isEmpty_iff] at hc
    obtain ⟨rfl, rfl⟩ := hc
    exact .fn f [] [] cs ds hl hm (fun j c h => by simp at h) (fun j c h => by simp at h)

theorem Rep.renA {K' : Nat → Bool} {ρ' : Nat → Hd} {ns : Nat → Bool} {σ : Nat → Nat} (hσ : ∀ h, ns h = true → K' (σ h) = true ∧ ρ' (σ h) = ρ h) {c : V} {u : Value} (r : Rep K ρ G w c u) (hc : closedA ns c = true) :
    Rep K' ρ' G w (Ab.renA σ c) u := by
  cases c with
  | agg l =>
    cases r with
    | agg _ cs hl hr =>
      have rl : Reps K ρ G w l cs := ⟨hl, hr⟩
      have : Reps K' ρ' G w (l.map (Ab.ren0 σ)) cs := Reps.mk (by simpa using hl) fun j c hj => by
        rw [List.getElem?_map] at hj
        cases hx : l[j]? with
        | none => rw [hx] at hj; cases hj
        | some x =>
          rw [hx] at hj; cases hj
          obtain ⟨u, h1, h2⟩ := rl.get hx
          exact ⟨u, h1, h2.ren0 hσ (List.all_eq_true.1 hc x (List.mem_of_getElem? hx))⟩
      exact .agg _ cs this.1 this.2
  | _ => exact r.ren0 hσ hc

theorem Rep.ren {K' : Nat → Bool} {ρ' : Nat → Hd} {ns : Nat → Bool} {σ : Nat → Nat} (hσ : ∀ h, ns h = true → K' (σ h) = true ∧ ρ' (σ h) = ρ h) {c : V} {u : Value} (r : Rep K ρ G w c u) (hc : closed ns c = true) :
    Rep K' ρ' G w (Ab.ren σ c) u := by
  cases c with
  | tup l =>
    cases r with
    | tup _ cs hl hr =>
      have rl : Reps K ρ G w l cs := ⟨hl, hr⟩
      have : Reps K' ρ' G w (l.map (Ab.renA σ)) cs := Reps.mk (by simpa using hl) fun j c hj => by
        rw [List.getElem?_map] at hj
        cases hx : l[j]? with
        | none => rw [hx] at hj; cases hj
        | some x =>
          rw [hx] at hj; cases hj
          obtain ⟨u, h1, h2⟩ := rl.get hx
          exact ⟨u, h1, h2.renA hσ (List.all_eq_true.1 hc x (List.mem_of_getElem? hx))⟩
      exact .tup _ cs this.1 this.2
  | _ => exact r.renA hσ hc

/-- What names no row says the same under any names. -/
theorem Rep.free {K' : Nat → Bool} {ρ' : Nat → Hd} {c : V} {u : Value} (r : Rep K ρ G w c u) (hc : closed0 (fun _ => false) c = true) : Rep K' ρ' G w c u := by
  have := r.ren0 (K' := K') (ρ' := ρ') (σ := id) (ns := fun _ => false) (fun h e => by cases e) hc
  have e2 : Ab.ren0 id c = c := by cases c <;> rfl
  rwa [e2] at this

theorem Elems.free {K' : Nat → Bool} {ρ' : Nat → Hd} {t : DT} {xs : List t.T} {cs : Array Value} (e : Elems K ρ G w t xs cs) : Elems K' ρ' G w t xs cs := by
  intro q hq j c h
  obtain ⟨u, h1, h2⟩ := e q hq j c h
  exact ⟨u, h1, h2.free (enc_closed t _ _ j c h)⟩

theorem RowRep.free {K' : Nat → Bool} {ρ' : Nat → Hd} {h n : Nat} (e : ρ' n = ρ h) {r : Row} (hr : RowRep K ρ G w h r) (hf : rowFree r = true) : RowRep K' ρ' G w n r := by
  cases r with
  | lit el l =>
    obtain ⟨h1, h2, h3, cs, fz, h4, h5, h6⟩ := hr
    exact ⟨by rw [e]; exact h1, by rw [e]; exact h2, h3, cs, fz, by rw [e]; exact h4, h5, Reps.mk h6.1 fun j c hj => by
      obtain ⟨u, u1, u2⟩ := h6.get hj
      exact ⟨u, u1, u2.free (List.all_eq_true.1 hf c (List.mem_of_getElem? hj))⟩⟩
  | arr el t xs =>
    obtain ⟨h1, h2, cs, fz, h4, h5, h6, h7⟩ := hr
    exact ⟨by rw [e]; exact h1, by rw [e]; exact h2, cs, fz, by rw [e]; exact h4, h5, h6, h7.free⟩
  | buf el t xs =>
    obtain ⟨h1, h2⟩ := hr
    refine ⟨by rw [e]; exact h1, ?_⟩
    rw [e]
    rcases h2 with h2 | ⟨a1, a2, a3, cs, fz, a4, a5, a6, a7⟩
    · exact .inl h2
    · exact .inr ⟨a1, a2, a3, cs, fz, a4, a5, a6, a7.free⟩

theorem flat0_rep {K' : Nat → Bool} {ρ' : Nat → Hd} {G' : Nat → Prop} {w' : World} {c : V} {u : Value} (r : Rep K ρ G w c u) (h : flatOne c = true) : Rep K' ρ' G' w' c u := by
  cases r with
  | v => exact .v _
  | b => exact .b _
  | fl n hs => exact .fl n hs
  | cx x y hx hy => exact .cx x y hx hy
  | vec t n xs cs hl hs hr =>
    refine .vec t n xs cs hl hs fun q hq j c hc => ?_
    have := hr q hq j c hc
    cases t with
    | u8 =>
      have hm := List.mem_of_getElem? hc
      simp only [enc, List.mem_singleton] at hm
      subst hm
      generalize cs.getD _ _ = z at this
      cases this; exact .b _
    | int k =>
      have hm := List.mem_of_getElem? hc
      simp only [enc, List.mem_singleton] at hm
      subst hm
      generalize cs.getD _ _ = z at this
      cases this; exact .v _
    | _ => simp [flatOne] at h
  | _ => simp [flatOne] at h

theorem flat_rep {K' : Nat → Bool} {ρ' : Nat → Hd} {G' : Nat → Prop} {w' : World} {c : V} {u : Value} (r : Rep K ρ G w c u) (h : flatV c = true) : Rep K' ρ' G' w' c u := by
  have agg : ∀ {l : List V} {u : Value}, Rep K ρ G w (.agg l) u → l.all flatOne = true → Rep K' ρ' G' w' (.agg l) u := by
    intro l u r h
    cases r with
    | agg _ cs hl hr =>
      have rl : Reps K ρ G w l cs := ⟨hl, hr⟩
      have : Reps K' ρ' G' w' l cs := Reps.mk hl fun j c hj => by
        obtain ⟨u, h1, h2⟩ := rl.get hj
        exact ⟨u, h1, flat0_rep h2 (List.all_eq_true.1 h c (List.mem_of_getElem? hj))⟩
      exact .agg _ cs this.1 this.2
  cases c with
  | agg l => exact agg r h
  | tup l =>
    cases r with
    | tup _ cs hl hr =>
      have rl : Reps K ρ G w l cs := ⟨hl, hr⟩
      have : Reps K' ρ' G' w' l cs := Reps.mk hl fun j c hj => by
        obtain ⟨u, h1, h2⟩ := rl.get hj
        have hc := List.all_eq_true.1 h c (List.mem_of_getElem? hj)
        refine ⟨u, h1, ?_⟩
        cases c <;> first | exact agg h2 hc | exact flat0_rep h2 hc
      exact .tup _ cs this.1 this.2
  | _ => exact flat0_rep r h

theorem argsOf_ok (m : HRel K ρ G heap w) {G' : Nat → Prop} (hG : ∀ b, G b → G' b) : ∀ (bs : List Bool) (xs l : List V) (us : List Value) (p : Prop) (a : List Nat), Reps K ρ G w xs us → argsOf ti heap bs xs = some (p, l, a) → p →
    (∀ b, Blk ρ heap a b → G' b) → Reps K ρ G' w l us := by
  intro bs
  induction bs with
  | nil =>
    intro xs l us p a r h hp _
    cases xs with
    | nil => simp only [argsOf] at h; cases h; exact ⟨r.1, fun j c hj => by simp at hj⟩
    | cons x xs => simp only [argsOf] at h; cases h
  | cons b bs ih =>
    intro xs l us p a r h hp hB
    cases xs with
    | nil => cases b <;> (simp only [argsOf] at h; cases h)
    | cons x xs =>
      obtain ⟨u, us', rfl⟩ : ∃ u us', us = u :: us' := by
        cases us with
        | nil => have := r.1; simp at this
        | cons u us => exact ⟨u, us, rfl⟩
      have r0 : Rep K ρ G w x u := by simpa using r.2 0 x rfl
      have r1 : Reps K ρ G w xs us' := ⟨by have := r.1; simpa using this, fun j c hj => by simpa using r.2 (j + 1) c (by simpa using hj)⟩
      have cons : ∀ {y : V} {l' : List V}, Rep K ρ G' w y u → Reps K ρ G' w l' us' → Reps K ρ G' w (y :: l') (u :: us') := by
        intro y l' h1 h2
        refine ⟨by simp [h2.1], fun j c hj => ?_⟩
        cases j with
        | zero => simp at hj; subst hj; simpa using h1
        | succ j => simpa using h2.2 j c (by simpa using hj)
      cases b with
      | true =>
        simp only [argsOf] at h
        split at h
        · rename_i p' l' a' h'
          cases h
          exact cons (r0.up hG) (ih xs l' us' p a r1 h' hp hB)
        · cases h
      | false =>
        simp only [argsOf] at h
        split at h
        · rename_i p1 y a1 q l' a' h1 h2
          cases h
          have hB' := Blk.append hB
          exact cons (imm_ok m r0 h1 hp.1 hG hB'.1) (ih xs l' us' q a' r1 h2 hp.2 hB'.2)
        · cases h
end
end Go.Proofs.Ytbkhhfekdpkhbaa.Ab
