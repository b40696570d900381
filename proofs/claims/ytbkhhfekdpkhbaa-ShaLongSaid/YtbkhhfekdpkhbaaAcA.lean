/- A function, from its entry to its end; one condition: what floats of small numbers are. -/
import Derived.Test.YtbkhhfekdpkhbaaAbZ
namespace Go.Proofs.Ytbkhhfekdpkhbaa.Ab
open Go

def argEnv : Nat → List V → Nat → V
  | _, [], _ => .v (.tuple #[])
  | i, x :: l, t => bif Nat.beq t i then x else argEnv (i + 1) l t
def start (n k : Nat) (l : List V) (heap : Nat → Option Row) : St := { n := n, env := argEnv 0 l, heap := heap, used := inK k }

section
variable (ti : TypeId → TyI)
def resV (S : St) : ResultVar → Option (Prop × V)
  | .tmp t => some (True, S.env t)
  | .cell a T => bif known ti T then (match vecL ti S T (S.env a) with
    | some e => some (e.need, e.val)
    | none => match loadC ti S T (S.env a) with
      | some (p, c, _) => some (p, asAgg ti T c)
      | none => none) else none
def resAll (S : St) : List ResultVar → Option (Prop × List V)
  | [] => some (True, [])
  | x :: l => match resV ti S x, resAll S l with
    | some (p, y), some (q, ys) => some (p ∧ q, y :: ys)
    | _, _ => none
def tupOf : List V → V
  | [x] => x
  | l => .tup l
def immTs (heap : Nat → Option Row) : List V → Option (Prop × List V × List Nat)
  | [] => some (True, [], [])
  | c :: r => match imm ti heap c, immTs heap r with
    | some (p, x, a), some (q, xs, b) => some (p ∧ q, x :: xs, a ++ b)
    | _, _ => none
def immT (heap : Nat → Option Row) : V → Option (Prop × V × List Nat)
  | .tup l => match immTs ti heap l with
    | some (p, l, a) => some (p, .tup l, a)
    | none => none
  | x => imm ti heap x
def entP (heap heap' : Nat → Option Row) : Nat → Prop
  | 0 => True
  | i + 1 => entP heap heap' i ∧ heap (1000000 + i) = heap' (1000000 + i)
def compsOf : V → List V
  | .tup l => l
  | x => [x]
def tupOk : V → Bool
  | .tup [_] => false
  | _ => true
def zipI : Nat → List V → List (Nat × V)
  | _, [] => []
  | i, x :: l => (i, x) :: zipI (i + 1) l
/-- Names one behind the other. -/
def consec : Nat → List (Nat × Row) → Bool
  | _, [] => true
  | b, (n, _) :: l => Nat.beq n b && consec (b + 1) l
/-- Entry rows that are known. -/
def entsOf (heap : Nat → Option Row) : Nat → List (Nat × Row)
  | 0 => []
  | i + 1 => match heap (1000000 + i) with
    | some r => (1000000 + i, r) :: entsOf heap i
    | none => entsOf heap i
def resS (S : St) (l : List V) : St := { n := l.length, env := fun t => l.getD t .any, heap := S.heap, used := S.used }
def retL (k : Nat) (heap : Nat → Option Row) (e : Eff) : LS := { env := zipI 0 (compsOf e.val), rows := e.new.map (·.2), ents := entsOf (puts heap e.put) k }
def retFlat (k : Nat) (heap : Nat → Option Row) (e : Eff) (S : St) (l : List V) : Prop :=
  match immT ti S.heap (tupOf l) with
  | none => False
  | some (q, x, a) => q ∧ leV x e.val ∧ entP (puts heap e.put) (strike S.heap a) k
def retNew (k : Nat) (heap : Nat → Option Row) (e : Eff) (S : St) (l : List V) : Prop :=
  match e.new with
  | [] => False
  | (b, _) :: _ => bif consec b e.new && tupOk e.val && Nat.beq (compsOf e.val).length l.length then fitN l.length k b (resS S l) (retL k heap e) else False
/-- What is to hold where a function returns. -/
def retP (k : Nat) (heap : Nat → Option Row) (rs : List ResultVar) (e : Eff) (S : St) : Prop :=
  match resAll ti S rs with
  | none => False
  | some (p, l) => p ∧ (bif e.new.isEmpty then retFlat ti k heap e S l else retNew k heap e S l)
end

section
variable {P : Program} {ti : TypeId → TyI} {Γ : FuncId → Option Sum} {K : Nat → Bool} {ρ : Nat → Hd} {G : Nat → Prop} {heap : Nat → Option Row} {w : World}

theorem argEnv_get : ∀ (l : List V) (i t : Nat), i ≤ t → argEnv i l t = (l[t - i]?).getD (.v (.tuple #[]))
  | [], _, _, _ => by simp [argEnv]
  | x :: l, i, t, h => by
    simp only [argEnv]
    by_cases e : t = i
    · subst e; simp [Nat.beq_refl]
    · have : Nat.beq t i = false := by
        cases hb : Nat.beq t i with
        | false => rfl
        | true => exact absurd (Nat.eq_of_beq_eq_true hb) e
      rw [this]
      simp only [cond_false]
      rw [argEnv_get l (i + 1) t (by omega)]
      have : t - i = (t - (i + 1)) + 1 := by omega
      rw [this, List.getElem?_cons_succ]

theorem resV_ok (hti : TiOK P ti) {S : St} {a : Act} (h : Rel ρ G S a w) {f : ResultVar → Sem Value} (f1 : ∀ t, f (.tmp t) = pure (a.tmps.getD t undef)) (f2 : ∀ ad t, f (.cell ad t) = (do loadVar t (← asAddr (a.tmps.getD ad undef))))
    {r : ResultVar} {p : Prop} {x : V} (hr : resV ti S r = some (p, x)) (hp : p) : ∃ u, (f r).run P w = .ok u w ∧ Rep S.used ρ G w x u := by
  cases r with
  | tmp t =>
    simp only [resV] at hr
    cases hr
    exact ⟨_, by rw [f1]; rfl, h.env t⟩
  | cell ad T =>
    simp only [resV] at hr
    obtain ⟨hk, hr⟩ := bif_some hr
    split at hr
    · rename_i ev hv
      cases hr
      obtain ⟨_, u, hrun, hz⟩ := vecL_ok (P := P) hti S h.mem hk (h.env ad) hv hp
      refine ⟨u, ?_, hz⟩
      have hx : ∃ ad', a.tmps.getD ad undef = .pointer (some ad') := by
        have hr0 := h.env ad
        unfold vecL at hv
        split at hv
        · rename_i hh off e0
          rw [e0] at hr0
          generalize a.tmps.getD ad undef = v at hr0 ⊢
          cases hr0
          exact ⟨_, rfl⟩
        · cases hv
      obtain ⟨ad', hx⟩ := hx
      rw [hx] at hrun
      simp only [Instr.loadAt, Instr.sureAddr, Sem.run_bind, Sem.run_pure, Result.andThen_ok] at hrun
      simp only [f2, hx, asAddr, Sem.run_bind, Sem.run_pure, Result.andThen_ok]
      exact hrun
    · split at hr
      · rename_i q c rd hl
        cases hr
        obtain ⟨b, o, hx, hlen, us, hus, hcs⟩ := loadC_at hti S h.mem hk (h.env ad) hl hp
        have hrun := run_loadAt (hti T hk) b o us (by rw [hus.1, hlen]) hcs
        refine ⟨valOf ti T us, ?_, Rep.asAgg (hti T hk) hlen hus⟩
        simp only [Instr.loadAt, Instr.sureAddr, Sem.run_bind, Sem.run_pure, Result.andThen_ok] at hrun
        simp only [f2, hx, asAddr, Sem.run_bind, Sem.run_pure, Result.andThen_ok]
        exact hrun
      · cases hr

theorem resAll_ok (hti : TiOK P ti) {S : St} {a : Act} (h : Rel ρ G S a w) {f : ResultVar → Sem Value} (f1 : ∀ t, f (.tmp t) = pure (a.tmps.getD t undef)) (f2 : ∀ ad t, f (.cell ad t) = (do loadVar t (← asAddr (a.tmps.getD ad undef)))) :
    ∀ (rs : List ResultVar) (p : Prop) (l : List V), resAll ti S rs = some (p, l) → p → ∃ us : List Value, (rs.mapM f).run P w = .ok us w ∧ Reps S.used ρ G w l us
  | [], p, l, hr, _ => by
    simp only [resAll] at hr
    cases hr
    exact ⟨[], by simp, rfl, fun j c hj => by simp at hj⟩
  | r :: rs, p, l, hr, hp => by
    simp only [resAll] at hr
    split at hr
    · rename_i p1 y q ys h1 h2
      cases hr
      obtain ⟨u, u1, u2⟩ := resV_ok hti h f1 f2 h1 hp.1
      obtain ⟨us, v1, v2⟩ := resAll_ok hti h f1 f2 rs q ys h2 hp.2
      refine ⟨u :: us, ?_, ?_⟩
      · simp only [List.mapM_cons, Sem.run_bind, u1, Result.andThen_ok, v1, Sem.run_pure]
      · refine ⟨by simp [v2.1], fun j c hj => ?_⟩
        cases j with
        | zero => simp at hj; subst hj; simpa using u2
        | succ j => simpa using v2.2 j c (by simpa using hj)
    · cases hr

theorem tupOf_ok {l : List V} {us : List Value} (r : Reps K ρ G w l us) : Rep K ρ G w (tupOf l) (if h : us.toArray.size = 1 then us.toArray[0] else .tuple us.toArray) := by
  match l, us, r with
  | [x], [u], r => exact by simpa [tupOf] using r.2 0 x rfl
  | [], [], r => exact .tup [] [] rfl r.2
  | [], _ :: _, r => have := r.1; simp at this
  | [_], [], r => have := r.1; simp at this
  | [_], _ :: _ :: _, r => have := r.1; simp at this
  | _ :: _ :: _, [], r => have := r.1; simp at this
  | _ :: _ :: _, [_], r => have := r.1; simp at this
  | x :: y :: l, u :: v :: us, r =>
    have : ¬ (u :: v :: us).toArray.size = 1 := by simp
    rw [dif_neg this]
    exact .tup (x :: y :: l) (u :: v :: us) r.1 r.2

theorem immTs_ok (m : HRel K ρ G heap w) {G' : Nat → Prop} (hG : ∀ b, G b → G' b) : ∀ (l l' : List V) (cs : List Value) (p : Prop) (a : List Nat), Reps K ρ G w l cs → immTs ti heap l = some (p, l', a) → p →
    (∀ b, Blk ρ heap a b → G' b) → Reps K ρ G' w l' cs := by
  intro l
  induction l with
  | nil =>
    intro l' cs p a r h hp _
    simp only [immTs] at h; cases h
    exact ⟨r.1, fun j c hj => by simp at hj⟩
  | cons x xs ih =>
    intro l' us p a r h hp hB
    obtain ⟨u, us', rfl⟩ : ∃ u us', us = u :: us' := by
      cases us with
      | nil => have := r.1; simp at this
      | cons u us => exact ⟨u, us, rfl⟩
    have r0 : Rep K ρ G w x u := by simpa using r.2 0 x rfl
    have r1 : Reps K ρ G w xs us' := ⟨by have := r.1; simpa using this, fun j c hj => by simpa using r.2 (j + 1) c (by simpa using hj)⟩
    simp only [immTs] at h
    split at h
    · rename_i p1 y a1 q l1 a2 h1 h2
      cases h
      have hB' := Blk.append hB
      have e1 := imm_ok m r0 h1 hp.1 hG hB'.1
      have e2 := ih l1 us' q a2 r1 h2 hp.2 hB'.2
      refine ⟨by simp [e2.1], fun j c hj => ?_⟩
      cases j with
      | zero => simp at hj; subst hj; simpa using e1
      | succ j => simpa using e2.2 j c (by simpa using hj)
    · cases h

theorem immT_ok (m : HRel K ρ G heap w) {c c' : V} {x : Value} (r : Rep K ρ G w c x) {p : Prop} {a : List Nat} (h : immT ti heap c = some (p, c', a)) (hp : p)
    {G' : Nat → Prop} (hG : ∀ b, G b → G' b) (hB : ∀ b, Blk ρ heap a b → G' b) : Rep K ρ G' w c' x := by
  cases c with
  | tup l =>
    simp only [immT] at h
    split at h
    · rename_i p1 l1 a1 h1
      cases h
      cases r with
      | tup _ cs hl hr =>
        have := immTs_ok m hG l l1 cs p a ⟨hl, hr⟩ h1 hp hB
        exact .tup l1 cs this.1 this.2
    · cases h
  | _ => exact imm_ok (ti := ti) m r h hp hG hB

theorem entP_get {h h' : Nat → Option Row} : ∀ {k : Nat}, entP h h' k → ∀ n, inK k n = true → h n = h' n
  | 0, _, n, hn => by have := inK_iff.1 hn; omega
  | k + 1, e, n, hn => by
    have := inK_iff.1 hn
    by_cases c : n = 1000000 + k
    · rw [c]; exact e.2
    · exact entP_get e.1 n (inK_iff.2 ⟨this.1, by omega⟩)

theorem zipI_look : ∀ (l : List V) (i t : Nat), i ≤ t → lookE (zipI i l) t = (l[t - i]?).getD .any
  | [], _, _, _ => by simp [zipI, lookE]
  | x :: l, i, t, h => by
    simp only [zipI, lookE]
    by_cases e : t = i
    · subst e; simp [Nat.beq_refl]
    · have : Nat.beq i t = false := by
        cases hb : Nat.beq i t with
        | false => rfl
        | true => exact absurd (Nat.eq_of_beq_eq_true hb).symm e
      rw [this]
      simp only [cond_false]
      rw [zipI_look l (i + 1) t (by omega)]
      have : t - i = (t - (i + 1)) + 1 := by omega
      rw [this, List.getElem?_cons_succ]
theorem tupOf_comps {x : V} (h : tupOk x = true) : tupOf (compsOf x) = x := by
  cases x with
  | tup l => match l, h with
    | [], _ => rfl
    | [_], h => cases h
    | _ :: _ :: _, _ => rfl
  | _ => rfl
theorem consec_mem : ∀ {l : List (Nat × Row)} {b : Nat}, consec b l = true → ∀ n, n ∈ l.map (·.1) ↔ b ≤ n ∧ n < b + l.length
  | [], _, _, n => by simp
  | (m, r) :: l, b, h, n => by
    simp only [consec, Bool.and_eq_true] at h
    have h1 := Nat.eq_of_beq_eq_true h.1
    have ih := consec_mem h.2 n
    simp only [List.map_cons, List.mem_cons, ih, List.length_cons]
    omega
theorem consec_get : ∀ {l : List (Nat × Row)} {b : Nat}, consec b l = true → ∀ n r, (n, r) ∈ l → (l.map (·.2))[n - b]? = some r ∧ b ≤ n
  | (m, s) :: l, b, h, n, r, hm => by
    simp only [consec, Bool.and_eq_true] at h
    have h1 := Nat.eq_of_beq_eq_true h.1
    rcases List.mem_cons.1 hm with e | e
    · cases e
      simp [h1]
    · obtain ⟨a1, a2⟩ := consec_get h.2 n r e
      refine ⟨?_, by omega⟩
      have : n - b = (n - (b + 1)) + 1 := by omega
      rw [this, List.map_cons, List.getElem?_cons_succ]
      exact a1
theorem entsOf_look {H : Nat → Option Row} : ∀ {k n : Nat} {r : Row}, inK k n = true → H n = some r → lookR (entsOf H k) n = some r
  | 0, n, _, h, _ => by have := inK_iff.1 h; omega
  | k + 1, n, r, h, hr => by
    have h' := inK_iff.1 h
    simp only [entsOf]
    by_cases c : n = 1000000 + k
    · subst c
      rw [hr]
      simp only [lookR, Nat.beq_refl, cond_true]
    · have ih := entsOf_look (k := k) (inK_iff.2 ⟨h'.1, by omega⟩) hr
      split
      · simp only [lookR]
        have : Nat.beq (1000000 + k) n = false := by
          cases hb : Nat.beq (1000000 + k) n with
          | false => rfl
          | true => exact absurd (Nat.eq_of_beq_eq_true hb).symm c
        rw [this]
        exact ih
      · exact ih
theorem HRel.less {K' : Nat → Bool} {heap' : Nat → Option Row} (m : HRel K ρ G heap w) (hK : ∀ n, K n = true → K' n = true) (hh : ∀ n r, heap' n = some r → heap n = some r) : HRel K' ρ G heap' w := by
  constructor
  · intro n r hr
    obtain ⟨h1, h2, h3⟩ := m.row n r (hh n r hr)
    exact ⟨hK n h1, h2.mono (fun n hn => ⟨hK n hn, rfl⟩) (fun _ h => h) (fun _ _ => rfl) rfl (fun _ => rfl), h3⟩
  · intro n n' hs hs' hn hn' he
    obtain ⟨r, hr⟩ := Option.isSome_iff_exists.1 hs
    obtain ⟨r', hr'⟩ := Option.isSome_iff_exists.1 hs'
    exact m.inj n n' (by simp [hh n r hr]) (by simp [hh n' r' hr']) hn hn' he
  · exact m.old

theorem ren_id (x : V) : Ab.ren id x = x := by
  have e0 : ∀ c : V, Ab.ren0 id c = c := fun c => by cases c <;> rfl
  have eA : ∀ c : V, Ab.renA id c = c := by
    intro c
    cases c with
    | agg l =>
      show V.agg (l.map (Ab.ren0 id)) = V.agg l
      rw [List.map_congr_left (g := id) fun y _ => e0 y, List.map_id]
    | _ => rfl
  cases x with
  | tup l =>
    show V.tup (l.map (Ab.renA id)) = V.tup l
    rw [List.map_congr_left (g := id) fun y _ => eA y, List.map_id]
  | agg l => exact eA (.agg l)
  | _ => rfl

theorem retFlat_ok {k : Nat} {heap0 : Nat → Option Row} {e : Eff} {S : St} {l : List V} {us : List Value} {ρ0 : Nat → Hd} {G0 : Nat → Prop} {w0 : World} (hne : e.new = []) (hr : retFlat ti k heap0 e S l) (m : HRel S.used ρ G S.heap w) (hu : Reps S.used ρ G w l us)
    (hev : Evo (inK k) ρ0 G0 heap0 w0 S.used ρ G S.heap w) (hok : effOk k e = true) (m0 : HRel (inK k) ρ0 G0 heap0 w0) (hfree : ∀ n r, heap0 n = some r → rowFree r = true) :
    Ends (inK k) ρ0 G0 heap0 w0 e (.returned (if h : us.toArray.size = 1 then us.toArray[0] else .tuple us.toArray)) w := by
  unfold retFlat at hr
  split at hr
  · exact hr.elim
  · rename_i q x av himm
    obtain ⟨hq, hx, hent⟩ := hr
    have ht := tupOf_ok hu
    have himm' : Rep S.used ρ (plus G ρ S.heap av) w e.val (if h : us.toArray.size = 1 then us.toArray[0] else .tuple us.toArray) := leV_ok hx (immT_ok m ht himm hq (fun _ h => .inl h) (fun b hb => .inr hb))
    have m1 := m.strike av
    have e1 := hev.trans (Evo.strike (K := S.used) (ρ := ρ) (G := G) (heap := S.heap) (w := w) av)
    unfold effOk at hok
    rw [hne] at hok
    simp only [Bool.and_eq_true] at hok
    obtain ⟨⟨⟨⟨k1, k2⟩, _⟩, _⟩, k5⟩ := hok
    have k2 := (nodup_iff _).1 k2
    have hput : ∀ q ∈ e.put, inK k q.1 = true ∧ ∀ r, q.2 = some r → rowFree r = true := by
      intro q hq
      have := List.all_eq_true.1 k1 q hq
      simp only [Bool.and_eq_true] at this
      refine ⟨inK_iff.2 ⟨Nat.le_of_ble_eq_true this.1.1, lt_of_blt this.1.2⟩, fun r hr => ?_⟩
      have t := this.2
      rw [hr] at t; exact t
    have heapAt : ∀ n r, puts heap0 e.put n = some r → Ab.strike S.heap av n = some r ∧ rowFree r = true ∧ inK k n = true := by
      intro n r hr
      have hin : inK k n = true := by
        by_cases hm' : n ∈ e.put.map (·.1)
        · obtain ⟨q, hq, rfl⟩ := List.mem_map.1 hm'
          exact (hput q hq).1
        · rw [puts_not _ _ _ hm'] at hr
          exact (m0.row n r hr).1
      refine ⟨by rw [← entP_get hent n hin]; exact hr, ?_, hin⟩
      by_cases hm' : n ∈ e.put.map (·.1)
      · obtain ⟨⟨n', r'⟩, hq, rfl⟩ := List.mem_map.1 hm'
        rw [puts_mem _ _ _ r' k2 hq] at hr
        exact (hput _ hq).2 r hr
      · rw [puts_not _ _ _ hm'] at hr
        exact hfree n r hr
    show ∃ ρ' G', _
    rw [hne]
    refine ⟨ρ, plus G ρ S.heap av, ?_, ?_, ?_⟩
    · constructor
      · intro n r hr
        obtain ⟨h1, h2, h3⟩ := heapAt n r hr
        obtain ⟨_, b2, b3⟩ := m1.row n r h1
        exact ⟨h3, b2.free rfl h2, b3⟩
      · intro n n' hs hs' hn hn' he
        obtain ⟨r, hr⟩ := Option.isSome_iff_exists.1 hs
        obtain ⟨r', hr'⟩ := Option.isSome_iff_exists.1 hs'
        exact m1.inj n n' (by simp [(heapAt n r hr).1]) (by simp [(heapAt n' r' hr').1]) hn hn' he
      · exact m1.old
    · have hcl : closed (inK k) e.val = true := by
        have : (fun n => (Nat.ble 1000000 n && Nat.blt n (1000000 + k)) || memb (([] : List (Nat × Row)).map (·.1)) n) = inK k := by
          funext n
          show (inK k n || false) = inK k n
          rw [Bool.or_false]
        rw [this] at k5; exact k5
      have := himm'.ren (K' := inK k) (ρ' := ρ) (σ := id) (ns := inK k) (fun n hn => ⟨hn, rfl⟩) hcl
      rwa [ren_id] at this
    · refine ⟨e1.os, e1.tape, e1.output, e1.size, e1.keep, fun n hn => ⟨hn, (e1.names n hn).2⟩, e1.mono, e1.newG, fun b hb => ?_⟩
      obtain ⟨n, hs, hn, hb⟩ := hb
      obtain ⟨r, hr⟩ := Option.isSome_iff_exists.1 hs
      exact e1.lives b ⟨n, by simp [(heapAt n r hr).1], hn, hb⟩

theorem retNew_ok {k : Nat} {heap0 : Nat → Option Row} {e : Eff} {S : St} {l : List V} {us : List Value} {ρ0 : Nat → Hd} {G0 : Nat → Prop} {w0 : World} (hr : retNew k heap0 e S l) (m : HRel S.used ρ G S.heap w) (hu : Reps S.used ρ G w l us)
    (hev : Evo (inK k) ρ0 G0 heap0 w0 S.used ρ G S.heap w) (hok : effOk k e = true) (m0 : HRel (inK k) ρ0 G0 heap0 w0) :
    Ends (inK k) ρ0 G0 heap0 w0 e (.returned (if h : us.toArray.size = 1 then us.toArray[0] else .tuple us.toArray)) w := by
  unfold retNew at hr
  split at hr
  · exact hr.elim
  · rename_i b r0 rest hnew
    cases hb : (consec b e.new && tupOk e.val && Nat.beq (compsOf e.val).length l.length) with
    | false => rw [hb] at hr; exact hr.elim
    | true =>
      rw [hb] at hr
      simp only [cond_true] at hr
      simp only [Bool.and_eq_true] at hb
      obtain ⟨⟨c1, c2⟩, c3⟩ := hb
      have c3 := Nat.eq_of_beq_eq_true c3
      have hS : RelE k ρ0 G0 heap0 w0 (resS S l) { tmps := us.toArray, defers := [] } w := by
        refine ⟨ρ, G, ?_, hev⟩
        constructor
        · show us.toArray.size = l.length
          rw [List.size_toArray, hu.1]
        · rfl
        · intro t
          show Rep S.used ρ G w (l.getD t .any) (us.toArray.getD t undef)
          by_cases ht : t < l.length
          · have hc : l[t]? = some l[t] := List.getElem?_eq_getElem ht
            obtain ⟨u, u1, u2⟩ := hu.get hc
            have e1 : l.getD t .any = l[t] := by simp [List.getD, ht]
            have e2 : us.toArray.getD t undef = u := by
              rw [Array.getD_eq_getD_getElem?, List.getElem?_toArray, u1]; rfl
            rw [e1, e2]; exact u2
          · have e1 : l.getD t .any = .any := by simp [List.getD, List.getElem?_eq_none (Nat.le_of_not_lt ht)]
            rw [e1]; exact .any _
        · exact m
      obtain ⟨ρ2, G2, r2, e2⟩ := fitN_ok hr hS
      unfold effOk at hok
      simp only [Bool.and_eq_true] at hok
      obtain ⟨⟨⟨⟨k1, k2⟩, k3⟩, k4⟩, _⟩ := hok
      have k4 := (nodup_iff _).1 k4
      have hputK : ∀ q ∈ e.put, inK k q.1 = true := by
        intro q hq
        have := List.all_eq_true.1 k1 q hq
        simp only [Bool.and_eq_true] at this
        exact inK_iff.2 ⟨Nat.le_of_ble_eq_true this.1.1, lt_of_blt this.1.2⟩
      have hKs : ∀ n, mkUsed k b (retL k heap0 e).rows.length n = true → mark (inK k) e.new n = true := by
        intro n hn
        unfold mkUsed at hn
        simp only [Bool.or_eq_true, Bool.and_eq_true] at hn
        refine (mark_iff _ _ _).2 (hn.imp id fun hn => (consec_mem c1 n).2 ⟨Nat.le_of_ble_eq_true hn.1, ?_⟩)
        have := lt_of_blt hn.2
        simpa [retL] using this
      have hHs : ∀ n r, news (puts heap0 e.put) e.new n = some r → mkHeap b (retL k heap0 e) n = some r := by
        intro n r hr
        by_cases hm : n ∈ e.new.map (·.1)
        · obtain ⟨⟨n', r'⟩, hq, rfl⟩ := List.mem_map.1 hm
          rw [news_mem _ _ _ r' k4 hq] at hr
          cases hr
          have hlt := List.all_eq_true.1 k3 _ hq
          simp only [Bool.and_eq_true] at hlt
          have hlt := lt_of_blt hlt.1
          obtain ⟨g1, g2⟩ := consec_get c1 n' r hq
          have h1 : Nat.ble 1000000 n' = false := by
            cases hc : Nat.ble 1000000 n' with
            | false => rfl
            | true => have := Nat.le_of_ble_eq_true hc; omega
          show mkHeap b (retL k heap0 e) n' = some r
          unfold mkHeap
          rw [h1, Nat.ble_eq_true_of_le g2]
          exact g1
        · rw [news_not _ _ _ hm] at hr
          have hin : inK k n = true := by
            by_cases hm' : n ∈ e.put.map (·.1)
            · obtain ⟨q, hq, rfl⟩ := List.mem_map.1 hm'
              exact hputK q hq
            · rw [puts_not _ _ _ hm'] at hr
              exact (m0.row n r hr).1
          have := (inK_iff.1 hin).1
          unfold mkHeap
          rw [Nat.ble_eq_true_of_le this]
          exact entsOf_look hin hr
      refine ⟨ρ2, G2, r2.mem.less hKs hHs, ?_, ?_⟩
      · have hcomp : Reps (mark (inK k) e.new) ρ2 G2 w (compsOf e.val) us := by
          refine Reps.mk (by rw [c3]; exact hu.1) fun j c hj => ?_
          have hlt : j < us.length := by
            have := (List.getElem?_eq_some_iff.1 hj).1
            rw [c3, ← hu.1] at this; exact this
          refine ⟨us[j], by simp [hlt], ?_⟩
          have := r2.env j
          have e3 : (mkS l.length k b (retL k heap0 e)).env j = c := by
            show lookE (zipI 0 (compsOf e.val)) j = c
            rw [zipI_look _ _ _ (Nat.zero_le _), Nat.sub_zero, hj]; rfl
          have e4 : us.toArray.getD j undef = us[j] := by
            rw [Array.getD_eq_getD_getElem?, List.getElem?_toArray, List.getElem?_eq_getElem hlt]; rfl
          rw [e3] at this
          have this' : Rep (mkUsed k b (retL k heap0 e).rows.length) ρ2 G2 w c (us.toArray.getD j undef) := this
          rw [e4] at this'
          exact this'.mono (fun n hn => ⟨hKs n hn, rfl⟩) (fun _ h => h) (fun _ _ => rfl)
        have := tupOf_ok hcomp
        rwa [tupOf_comps c2] at this
      · refine ⟨e2.os, e2.tape, e2.output, e2.size, e2.keep, fun n hn => ⟨(mark_iff _ _ _).2 (.inl hn), (e2.names n hn).2⟩, e2.mono, e2.newG, fun b' hb' => ?_⟩
        obtain ⟨n, hs, hn, hb'⟩ := hb'
        obtain ⟨r, hr⟩ := Option.isSome_iff_exists.1 hs
        have h1 := hHs n r hr
        exact e2.lives b' ⟨n, by rw [show (mkS l.length k b (retL k heap0 e)).heap n = some r from h1]; rfl, hn, hb'⟩

/-- A function does what it is known to, where its body does. -/
theorem fun_ok (hti : TiOK P ti) (fl : FlOK) (hΓ : ∀ F s, Γ F = some s → SumOK P F s) (hmix : P.follows .mixedOrders = true) {F : FuncId} {fn : Func} {c : Code} (hf : P.funcs[F]? = some fn) (hb : fn.body = some c)
    (hname : (fn.name == "runtime.NumGoroutine") = false) {s : Sum}
    (h : ∀ (k : Nat) (l : List V) (heap : Nat → Option Row) (e : Eff), s.f k l heap = some e → effOk k e = true → e.need → (∀ n r, heap n = some r → rowFree r = true) → (∀ n r, heap n = some r → inK k n = true) →
      ∃ l' Λ f, Subs l l' ∧ Nat.ble l'.length fn.ntmps = true ∧ awpC ti Γ k Λ f c ⟨retP ti k heap fn.results.toList e, fun _ _ => False, retP ti k heap fn.results.toList e, fun _ _ => False⟩ (start fn.ntmps k l' heap)) : SumOK P F s where
  enters args w := by
    have hne : ¬ fn.name = "runtime.NumGoroutine" := by simpa using hname
    unfold callFunc
    simp [hf, hne, hb]
  calls k l₀ heap e he hok hn ρ G w args m hfree ra₀ := by
    obtain ⟨l, Λ, f, hsub, hle, hawp⟩ := h k l₀ heap e he hok hn hfree fun n r hr => (m.row n r hr).1
    have ra : Reps (inK k) ρ G w l args := by
      refine Reps.mk (ra₀.1.trans hsub.1) fun j c hj => ?_
      obtain ⟨c', h1, h2⟩ := hsub.2 j c hj
      obtain ⟨u, u1, u2⟩ := ra₀.get h1
      exact ⟨u, u1, h2 _ _ _ _ _ u2⟩
    have hle := Nat.le_of_ble_eq_true hle
    refine calls_of_wp hf hb ?_
    have h0 : Rel ρ G (start fn.ntmps k l heap) { tmps := args.toArray ++ Array.replicate (fn.ntmps - args.toArray.size) undef, defers := [] } w := by
      have hl := ra.1
      constructor
      · simp [start]; omega
      · rfl
      · intro t
        show Rep (inK k) ρ G w (argEnv 0 l t) _
        rw [argEnv_get l 0 t (Nat.zero_le _), Nat.sub_zero]
        by_cases hlt : t < l.length
        · have hc : l[t]? = some l[t] := List.getElem?_eq_getElem hlt
          obtain ⟨u, u1, u2⟩ := ra.get hc
          rw [hc]
          have hlt2 : t < args.length := by omega
          have : (args.toArray ++ Array.replicate (fn.ntmps - args.toArray.size) undef).getD t undef = u := by
            rw [Array.getD_eq_getD_getElem?, Array.getElem?_append_left (by simpa using hlt2), List.getElem?_toArray, u1]; rfl
          rw [this]; exact u2
        · rw [List.getElem?_eq_none (by omega)]
          have : (args.toArray ++ Array.replicate (fn.ntmps - args.toArray.size) undef).getD t undef = undef := by
            rw [Array.getD_eq_getD_getElem?, Array.getElem?_append_right (by simp; omega)]
            simp only [Array.getElem?_replicate]
            split <;> rfl
          rw [this]; exact .v _
      · exact m
    have key : ∀ (a : Act) (w' : World) (S : St), retP ti k heap fn.results.toList e S → RelE k ρ G heap w S a w' → a.defers = [] ∧ ∃ v, (results fn a.tmps).run P w' = .ok v w' ∧ Ends (inK k) ρ G heap w e (.returned v) w' := by
      intro a w' S hr hrel
      obtain ⟨ρ1, G1, hrel, hev⟩ := hrel
      refine ⟨hrel.defers, ?_⟩
      unfold retP at hr
      split at hr
      · exact hr.elim
      · rename_i p lv hres
        obtain ⟨hp, hr⟩ := hr
        have hall : ∃ us : List Value, (results fn a.tmps).run P w' = .ok (if h : us.toArray.size = 1 then us.toArray[0] else .tuple us.toArray) w' ∧ Reps S.used ρ1 G1 w' lv us := by
          have go : ∀ (f : ResultVar → Sem Value), (∀ t, f (.tmp t) = pure (a.tmps.getD t undef)) → (∀ ad t, f (.cell ad t) = (do loadVar t (← asAddr (a.tmps.getD ad undef)))) →
              ∃ us : List Value, (do let vs ← fn.results.mapM f; pure (if h : vs.size = 1 then vs[0] else .tuple vs) : Sem Value).run P w' = .ok (if h : us.toArray.size = 1 then us.toArray[0] else .tuple us.toArray) w' ∧ Reps S.used ρ1 G1 w' lv us := by
            intro f f1 f2
            obtain ⟨us, hu1, hu2⟩ := resAll_ok hti hrel f1 f2 _ _ _ hres hp
            refine ⟨us, ?_, hu2⟩
            have hmm : (fn.results.mapM f).run P w' = .ok us.toArray w' := by
              rw [← Array.toArray_toList (xs := fn.results), List.mapM_toArray, Sem.run_map, hu1]
              rfl
            simp only [Sem.run_bind, hmm, Result.andThen_ok, Sem.run_pure]
          unfold results
          exact go _ (fun _ => rfl) (fun _ _ => rfl)
        obtain ⟨us, hu1, hu2⟩ := hall
        refine ⟨_, hu1, ?_⟩
        cases hne : e.new.isEmpty with
        | true =>
          rw [hne] at hr
          simp only [cond_true] at hr
          exact retFlat_ok (List.isEmpty_iff.1 hne) hr hrel.mem hu2 hev hok m hfree
        | false =>
          rw [hne] at hr
          simp only [cond_false] at hr
          exact retNew_ok hr hrel.mem hu2 hev hok m
    refine wp_mono (awpC_ok (ρ0 := ρ) (G0 := G) (heap0 := heap) (w0 := w) hti fl hΓ hmix f c _ _ _ _ hawp ⟨ρ, G, h0, Evo.refl _ _ _ _ _⟩) ?_
    intro en a w' hq
    cases en with
    | normal => obtain ⟨S, h1, h2⟩ := hq; exact key a w' S h1 h2
    | ret => obtain ⟨S, h1, h2⟩ := hq; exact key a w' S h1 h2
    | exit id => obtain ⟨S, h1, h2⟩ := hq; exact h1.elim
    | goto l => obtain ⟨_, h1, _⟩ := hq; exact h1.elim
    | panic ch => exact hq.elim
    | outgrown => exact hq.elim
end
end Go.Proofs.Ytbkhhfekdpkhbaa.Ab
