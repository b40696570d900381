/- Values that change no more, and stores; no condition. -/
import Derived.Test.YtbkhhfekdpkhbaaAbE
namespace Go.Proofs.Ytbkhhfekdpkhbaa.Ab
open Go

section
variable {P : Program} {ti : TypeId → TyI} {K : Nat → Bool} {ρ : Nat → Hd} {G : Nat → Prop} {heap : Nat → Option Row} {w : World}

theorem Rep.deep' {t : DT} {xs : List t.T} {blk o c : Nat} (hl : xs.length ≤ c) (hG : G blk)
    (h : ∀ (q : Nat) (hq : q < xs.length) (j : Nat) (d : V), (enc t xs[q])[j]? = some d → ∃ u, w.cell? ⟨blk, o + q * t.size + j, none⟩ = some u ∧ Rep K ρ G w d u) : Rep K ρ G w (.deep t xs) (.slice (some ⟨blk, o, none⟩) xs.length c) := by
  refine .deep t xs blk o c (fun q j => (w.cell? ⟨blk, o + q * t.size + j, none⟩).getD default) hl hG (fun q hq j d hd => ?_) (fun q hq j d hd => ?_)
  · obtain ⟨u, h1, _⟩ := h q hq j d hd; simp [h1]
  · obtain ⟨u, h1, h2⟩ := h q hq j d hd; simpa [h1] using h2

/-- A slice of a row's elements, as a list that changes no more. -/
theorem Rep.part {t : DT} {xs : List t.T} {blk base off len c : Nat} {a : Addr} (hle : off + len ≤ xs.length) (hl : len ≤ c) (ha : c ≠ 0 → a = ⟨blk, base + off * t.size, none⟩) (hG : G blk)
    (h : ∀ (q : Nat) (hq : q < xs.length) (j : Nat) (d : V), (enc t xs[q])[j]? = some d → ∃ u, w.cell? ⟨blk, base + q * t.size + j, none⟩ = some u ∧ Rep K ρ G w d u) :
    Rep K ρ G w (.deep t ((xs.drop off).take len)) (.slice (some a) len c) := by
  have hlen : ((xs.drop off).take len).length = len := by simp; omega
  by_cases h0 : len = 0
  · subst h0
    simp only [List.take_zero]
    exact .deepE t (some a) c (fun h => by cases h)
  · rw [ha (by omega)]
    have := Rep.deep' (K := K) (ρ := ρ) (G := G) (w := w) (t := t) (xs := (xs.drop off).take len) (blk := blk) (o := base + off * t.size) (c := c) (by omega) hG (fun q hq j d hd => by
      have hq' : q < len := by omega
      obtain ⟨u, h1, h2⟩ := h (off + q) (by omega) j d (by simpa using hd)
      refine ⟨u, ?_, h2⟩
      rw [← h1]
      congr 2
      rw [Nat.add_mul]; omega)
    rwa [hlen] at this

theorem immOne_ok (m : HRel K ρ G heap w) {c c' : V} {x : Value} (r : Rep K ρ G w c x) {p : Prop} {a : List Nat} (h : immOne ti heap c = some (p, c', a)) (hp : p)
    {G' : Nat → Prop} (hG : ∀ b, G b → G' b) (hB : ∀ b, Blk ρ heap a b → G' b) : Rep K ρ G' w c' x := by
  have up : ∀ {d : V} {u : Value}, Rep K ρ G w d u → Rep K ρ G' w d u := fun r => r.mono (fun _ h => ⟨h, rfl⟩) hG (fun _ _ => rfl)
  cases r <;> (try (simp only [immOne] at h; cases h; done))
  case ow hh hk hn =>
    simp only [immOne] at h
    split at h
    · rename_i e t xs hr
      cases h
      obtain ⟨hlen, hrow⟩ := (m.row hh _ hr).2.1
      rcases hrow with ⟨hnil, _⟩ | ⟨_, _, hcap, cs, fz, hb, _, hsz, hel⟩
      · rw [hn] at hnil; cases hnil
      rw [← hlen]
      exact Rep.deep' hcap (hB _ ⟨hh, by simp, by simp [hr], hn, rfl⟩) (fun q hq j d hd => by
        obtain ⟨u, h1, h2⟩ := hel q hq j d hd
        exact ⟨u, by rw [cell_heap hb]; simpa using h1, up h2⟩)
    · cases h
  case owNil hh hk hn =>
    simp only [immOne] at h
    split at h
    · rename_i e t xs hr
      cases h
      obtain ⟨hlen, hrow⟩ := (m.row hh _ hr).2.1
      rcases hrow with ⟨_, rfl⟩ | ⟨hnil, _⟩
      · exact .deepE t none 0 (fun _ => rfl)
      · rw [hn] at hnil; cases hnil
    · cases h
  case ownNil hh base s lim hk hn =>
    simp only [immOne] at h
    split at h
    · rename_i e t xs hr
      replace h := bif_some h; obtain ⟨_, h⟩ := h
      cases h
      simp only [List.take_zero]
      exact .deepE t none 0 (fun _ => rfl)
    · rename_i e t xs hr
      have := (m.row hh _ hr).2.1.1
      rw [hn] at this; cases this
    · rename_i e l hr
      have := (m.row hh _ hr).2.1.1
      rw [hn] at this; cases this
    · cases h
  case own hh base s off len c0 lim ad hk hn hl ha hlim htot =>
    simp only [immOne] at h
    split at h
    · rename_i e t xs hr
      replace h := bif_some h; obtain ⟨hc, h⟩ := h
      simp only [Bool.and_eq_true] at hc
      have h0 := Nat.eq_of_beq_eq_true hc.1
      have h1 := Nat.eq_of_beq_eq_true hc.2
      subst h0; subst h1
      obtain ⟨hlen, hrow⟩ := (m.row hh _ hr).2.1
      rcases hrow with ⟨hnil, _⟩ | ⟨_, _, hcap, cs, fz, hb, _, hsz, hel⟩
      · rw [hn] at hnil; cases hnil
      have fin : a = [hh] → off + len ≤ xs.length → Rep K ρ G' w (.deep t ((xs.drop off).take len)) (.slice (some ad) len c0) := by
        intro ea hle
        subst ea
        exact Rep.part hle hl (fun h => ha (.inl h)) (hB _ ⟨hh, by simp, by simp [hr], hn, rfl⟩) (fun q hq j d hd => by
          obtain ⟨u, h1, h2⟩ := hel q hq j d hd
          exact ⟨u, by rw [cell_heap hb]; simpa using h1, up h2⟩)
      cases h
      exact fin rfl hp
    · rename_i e t xs hr
      replace h := bif_some h; obtain ⟨hc, h⟩ := h
      simp only [Bool.and_eq_true] at hc
      have h0 := Nat.eq_of_beq_eq_true hc.1
      have h1 := Nat.eq_of_beq_eq_true hc.2
      subst h0; subst h1
      obtain ⟨_, _, cs, fz, hb, _, hsz, hel⟩ := (m.row hh _ hr).2.1
      have fin : a = [hh] → off + len ≤ xs.length → Rep K ρ G' w (.deep t ((xs.drop off).take len)) (.slice (some ad) len c0) := by
        intro ea hle
        subst ea
        exact Rep.part hle hl (fun h => ha (.inl h)) (hB _ ⟨hh, by simp, by simp [hr], hn, rfl⟩) (fun q hq j d hd => by
          obtain ⟨u, h1, h2⟩ := hel q hq j d hd
          exact ⟨u, by rw [cell_heap hb]; simpa using h1, up h2⟩)
      cases lim with
      | none => simp only at h; cases h; exact fin rfl hp
      | some n =>
        simp only at h
        cases ho : (Nat.beq off 0 && Nat.beq len n) with
        | true =>
          simp only [ho, cond_true] at h
          cases h
          simp only [Bool.and_eq_true] at ho
          have e0 := Nat.eq_of_beq_eq_true ho.1
          have e1 := Nat.eq_of_beq_eq_true ho.2
          subst e0; subst e1
          have := fin rfl (by omega)
          rw [List.drop_zero, List.take_of_length_le (by omega)] at this
          exact this
        | false =>
          simp only [ho, cond_false] at h
          cases h
          exact fin rfl hp
    · rename_i e l hr
      split at h
      · cases h
      rename_i t ht
      replace h := bif_some h; obtain ⟨hs, h⟩ := h
      have hs' := Nat.eq_of_beq_eq_true hs
      subst hs'
      obtain ⟨_, htl, hok, cs, fz, hb, _, hcs⟩ := (m.row hh _ hr).2.1
      generalize room lim base t.size l.length = n at h
      split at h
      · rename_i p' xs hd
        have fin : ∀ (q : p'), a = [hh] → off + len ≤ n → xs.length = n ∧ Rep K ρ G' w (.deep t ((xs.drop off).take len)) (.slice (some ad) len c0) := by
          intro q ea hle
          subst ea
          obtain ⟨hxl, hcell⟩ := decAll_cell t n (l.drop base) p' xs hd q
          refine ⟨hxl, Rep.part (by omega) hl (fun h => ha (.inl h)) (hB _ ⟨hh, by simp, by simp [hr], hn, rfl⟩) (fun q hq j d hd => ?_)⟩
          obtain ⟨c1, h1, h2⟩ := hcell q hq j d hd
          rw [List.getElem?_drop] at h1
          obtain ⟨u, h3, h4⟩ := hcs.get h1
          exact ⟨u, by rw [cell_heap hb]; simpa [Nat.add_assoc] using h3, h2 _ _ _ _ _ (up h4)⟩
        cases ho : (Nat.beq off 0 && Nat.beq len n) with
        | true =>
          simp only [ho, cond_true] at h
          cases h
          simp only [Bool.and_eq_true] at ho
          have e0 := Nat.eq_of_beq_eq_true ho.1
          have e1 := Nat.eq_of_beq_eq_true ho.2
          subst e0; subst e1
          obtain ⟨hxl, this⟩ := fin hp rfl (by omega)
          rw [List.drop_zero, List.take_of_length_le (by omega)] at this
          exact this
        | false =>
          simp only [ho, cond_false] at h
          cases h
          exact (fin hp.1 rfl hp.2).2
      · cases h
    · cases h
  all_goals (simp only [immOne] at h; cases h; apply up; constructor <;> assumption)

theorem Blk.append {a b : List Nat} {G' : Nat → Prop} (h : ∀ x, Blk ρ heap (a ++ b) x → G' x) : (∀ x, Blk ρ heap a x → G' x) ∧ (∀ x, Blk ρ heap b x → G' x) :=
  ⟨fun x ⟨q, h1, h2⟩ => h x ⟨q, by simp [h1], h2⟩, fun x ⟨q, h1, h2⟩ => h x ⟨q, by simp [h1], h2⟩⟩

theorem immAll_ok (m : HRel K ρ G heap w) {G' : Nat → Prop} (hG : ∀ b, G b → G' b) : ∀ (l l' : List V) (cs : List Value) (p : Prop) (a : List Nat), Reps K ρ G w l cs → immAll ti heap l = some (p, l', a) → p →
    (∀ b, Blk ρ heap a b → G' b) → Reps K ρ G' w l' cs := by
  intro l
  induction l with
  | nil => intro l' cs p a r h _ _; simp only [immAll] at h; cases h; exact ⟨r.1, fun j c h => by simp at h⟩
  | cons c l ih =>
    intro l' cs p a r h hp hB
    simp only [immAll] at h
    cases h1 : immOne ti heap c with
    | none => simp only [h1] at h; cases h
    | some e =>
      cases h2 : immAll ti heap l with
      | none => simp only [h1, h2] at h; cases h
      | some f =>
        simp only [h1, h2] at h
        cases h
        match cs, r with
        | u :: cs, r =>
          have r0 : Rep K ρ G w c u := r.2 0 c rfl
          have rr : Reps K ρ G w l cs := ⟨by have := r.1; simp at this; exact this, fun j c h => by simpa using r.2 (j + 1) c (by simpa using h)⟩
          obtain ⟨b1, b2⟩ := Blk.append hB
          have s0 := immOne_ok m r0 h1 hp.1 hG b1
          have s1 := ih _ cs _ _ rr h2 hp.2 b2
          refine ⟨by simp [s1.1], fun j d hd => ?_⟩
          cases j with
          | zero => simp at hd; subst hd; simpa using s0
          | succ j => simpa using s1.2 j d (by simpa using hd)
        | [], r => have := r.1; simp at this

theorem immIn_ok (m : HRel K ρ G heap w) {h base s off len : Nat} {lim : Option Nat} {c' : V} {x : Value} (r : Rep K ρ G w (.own h base s off len lim) x) {p : Prop} {a : List Nat} (e : immIn ti heap h base s off len lim = some (p, c', a)) (hp : p)
    {G' : Nat → Prop} (hG : ∀ b, G b → G' b) (hB : ∀ b, Blk ρ heap a b → G' b) : Rep K ρ G' w c' x := by
  unfold immIn at e
  split at e
  · rename_i el l hr
    split at e
    · cases e
    rename_i t ht
    replace e := bif_some e; obtain ⟨hs, e⟩ := e
    have hs' := Nat.eq_of_beq_eq_true hs
    subst hs'
    obtain ⟨hnn, htl, hok, cs, fz, hb, _, hcs⟩ := (m.row h _ hr).2.1
    split at e
    · rename_i p1 l' a1 him
      generalize room lim base t.size l.length = n at e
      cases r with
      | ownNil _ _ _ _ hk hn => rw [hn] at hnn; cases hnn
      | own _ _ _ _ _ c0 _ ad hk hn hl ha hlim htot =>
        have hdrop : Reps K ρ G w (l.drop base) (cs.toList.drop base) := by
          refine Reps.mk (by rw [List.length_drop, List.length_drop, hcs.1]) fun j d hj => ?_
          rw [List.getElem?_drop] at hj
          obtain ⟨u, h3, h4⟩ := hcs.get hj
          exact ⟨u, by rw [List.getElem?_drop]; exact h3, h4⟩
        split at e
        · rename_i q1 xs hd
          have fin : p1 → q1 → a = h :: a1 → off + len ≤ n → xs.length = n ∧ Rep K ρ G' w (.deep t ((xs.drop off).take len)) (.slice (some ad) len c0) := by
            intro hp1 hq1 ea hle
            subst ea
            have hB1 : ∀ b, Blk ρ heap a1 b → G' b := fun b ⟨q, hq, h1⟩ => hB b ⟨q, List.mem_cons_of_mem _ hq, h1⟩
            have him' := immAll_ok m hG _ _ _ _ _ hdrop him hp1 hB1
            obtain ⟨hxl, hcell⟩ := decAll_cell t n l' q1 xs hd hq1
            refine ⟨hxl, Rep.part (by omega) hl (fun h => ha (.inl h)) (hB _ ⟨h, by simp, by simp [hr], hn, rfl⟩) (fun q hq j d hd => ?_)⟩
            obtain ⟨c1, h1, h2⟩ := hcell q hq j d hd
            obtain ⟨u, h3, h4⟩ := him'.get h1
            rw [List.getElem?_drop] at h3
            exact ⟨u, by rw [cell_heap hb]; simpa [Nat.add_assoc] using h3, h2 _ _ _ _ _ h4⟩
          cases ho : (Nat.beq off 0 && Nat.beq len n) with
          | true =>
            simp only [ho, cond_true] at e
            cases e
            simp only [Bool.and_eq_true] at ho
            have e0 := Nat.eq_of_beq_eq_true ho.1
            have e1 := Nat.eq_of_beq_eq_true ho.2
            subst e0; subst e1
            obtain ⟨hxl, this⟩ := fin hp.1 hp.2 rfl (by omega)
            rw [List.drop_zero, List.take_of_length_le (by omega)] at this
            exact this
          | false =>
            simp only [ho, cond_false] at e
            cases e
            exact (fin hp.1 hp.2.1 rfl hp.2.2).2
        · cases e
    · cases e
  · cases e

theorem imm_ok (m : HRel K ρ G heap w) {c c' : V} {x : Value} (r : Rep K ρ G w c x) {p : Prop} {a : List Nat} (h : imm ti heap c = some (p, c', a)) (hp : p)
    {G' : Nat → Prop} (hG : ∀ b, G b → G' b) (hB : ∀ b, Blk ρ heap a b → G' b) : Rep K ρ G' w c' x := by
  unfold imm at h
  split at h
  · rename_i l
    split at h
    · rename_i p' l' a' h1
      cases h
      cases r with
      | agg _ cs hl hr =>
        have := immAll_ok m hG l l' cs _ _ ⟨hl, hr⟩ h1 hp hB
        exact .agg l' cs this.1 this.2
    · cases h
  · split at h
    · rename_i r1 h1
      cases h
      exact immOne_ok m r h1 hp hG hB
    · exact immIn_ok m r h hp hG hB
  · exact immOne_ok m r h hp hG hB

/-! Stores. -/
theorem run_storeCells_fz (P : Program) (g o : Nat) (t : TypeId) (fz : Nat × Nat) : ∀ (vs : List Value) (i : Nat) (cur : Array Value) (w : World), w.heap[g]? = some (.cells cur t fz) → Clear cur.size fz →
    o + i + vs.length ≤ cur.size → (∀ v ∈ vs, v.oneCell' = true) →
    (storeCells ⟨g, o, none⟩ vs i).run P w = .ok () (w.setRow g (cur.toList.take (o + i) ++ vs ++ cur.toList.drop (o + i + vs.length)).toArray)
  | [], i, cur, w, hg, _, _, _ => by
    simp only [storeCells, List.append_nil, List.length_nil, Nat.add_zero, List.take_append_drop, Array.toArray_toList]
    rw [setRow_self w g cur t fz hg]
    rfl
  | v :: rest, i, cur, w, hg, hcl, hl, h1 => by
    have hi : o + i < cur.size := by simp at hl; omega
    have hadd : (⟨g, o, none⟩ : Addr).add i = ⟨g, o + i, none⟩ := add_at g o i
    have hcell : w.cell? ⟨g, o + i, none⟩ = some cur[o + i] := by simp [World.cell?, hg, hi]
    have hfro : w.frozen? ⟨g, o + i, none⟩ = false := by
      have := hcl.out (o + i) hi
      simp only [World.frozen?, hg]
      simpa using this
    have hst : (store ((⟨g, o, none⟩ : Addr).add i) v).run P w = .ok () (w.setRow g (cur.setIfInBounds (o + i) v)) := by
      rw [hadd, run_store P w _ v _ (h1 v (by simp)), hcell]
      simp [hfro, setCell_eq_setRow w g (o + i) cur t fz v hg]
    have ih := run_storeCells_fz P g o t fz rest (i + 1) (cur.setIfInBounds (o + i) v) (w.setRow g (cur.setIfInBounds (o + i) v)) (setRow_heap w g cur _ t _ hg) (by simpa using hcl) (by simp at hl ⊢; omega) (fun x hx => h1 x (by simp [hx]))
    simp only [storeCells, Sem.run_bind, hst, Result.andThen_ok, ih, setRow_setRow]
    congr 3
    have e := list_seg_step cur.toList (o + i) v rest (by simp at hl ⊢; omega)
    simpa [Array.toList_setIfInBounds, Nat.add_assoc] using e

theorem Reps.splice {l : List V} {cs : List Value} (r : Reps K ρ G w l cs) {o : Nat} {c : List V} {us : List Value} (s : Reps K ρ G w c us) (h : o + c.length ≤ l.length) :
    Reps K ρ G w (splice l o c) (cs.take o ++ us ++ cs.drop (o + us.length)) := by
  have h1 := r.1
  have h2 := s.1
  unfold Ab.splice
  refine Reps.mk (by simp; omega) fun j d hd => ?_
  rw [h2]
  rw [List.append_assoc, List.getElem?_append] at hd ⊢
  simp only [List.length_take] at hd ⊢
  have e1 : min o l.length = o := by omega
  have e2 : min o cs.length = o := by omega
  rw [e1] at hd
  rw [e2]
  split at hd
  · rename_i hj
    rw [if_pos hj, List.getElem?_take, if_pos hj]
    rw [List.getElem?_take, if_pos hj] at hd
    exact r.get hd
  · rename_i hj
    rw [if_neg hj]
    rw [List.getElem?_append] at hd ⊢
    rw [h2]
    split at hd
    · rename_i hj2; rw [if_pos hj2]; exact s.get hd
    · rename_i hj2
      rw [if_neg hj2]
      rw [List.getElem?_drop] at hd ⊢
      exact r.get hd

theorem merge_true (x y : V) : Sub x (merge true x y) := by
  unfold merge
  split
  · split
    · rename_i e; exact Sub.refl _
    · exact Sub.refl _
  · exact Sub.refl _
  · exact Sub.refl _
  · exact Sub.refl _
theorem merge_false (x y : V) : Sub y (merge false x y) := by
  unfold merge
  split
  · split
    · rename_i e; subst e; exact Sub.refl _
    · exact Sub.refl _
  · exact Sub.refl _
  · intro K ρ G w u r; cases r; exact .v _
  · exact Sub.refl _
theorem merge_ok (c : Bool) {x y : V} (hx : cellOk x = true) (hy : cellOk y = true) : cellOk (merge c x y) = true := by
  unfold merge
  split
  · split
    · rfl
    · cases c <;> rfl
  · rfl
  · rfl
  · cases c <;> simp [hx, hy]
end
end Go.Proofs.Ytbkhhfekdpkhbaa.Ab
