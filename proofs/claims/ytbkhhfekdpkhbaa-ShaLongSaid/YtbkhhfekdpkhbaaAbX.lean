/- Regions, in whatever order; one condition: what floats of small numbers are. -/
import Derived.Test.YtbkhhfekdpkhbaaAbW
namespace Go.Proofs.Ytbkhhfekdpkhbaa.Ab
open Go

section
variable {P : Program} {ti : TypeId → TyI} {Γ : FuncId → Option Sum} {ρ : Nat → Hd} {G : Nat → Prop} {w : World}

theorem testBit_one_shl (n i : Nat) (h : (1 <<< n).testBit i = true) : i = n := by
  rw [Nat.testBit_shiftLeft] at h
  simp only [Bool.and_eq_true, decide_eq_true_eq] at h
  have h2 := h.2
  have : i - n = 0 := by
    cases hk : i - n with
    | zero => rfl
    | succ k => rw [hk, Nat.testBit_succ] at h2; simp at h2
  omega

theorem maskOf_spec (md : Region.Mode) (masks : List Nat) (i : Nat) : ∀ (l : List Edge) (m : Nat), (l.foldl (fun m e => bif Region.binds md e then m ||| (1 <<< e.on) ||| masks.getD e.on 0 else m) m).testBit i = true →
    m.testBit i = true ∨ ∃ e ∈ l, Region.binds md e = true ∧ (i = e.on ∨ (masks.getD e.on 0).testBit i = true)
  | [], m, h => .inl h
  | e :: l, m, h => by
    simp only [List.foldl_cons] at h
    rcases maskOf_spec md masks i l _ h with h1 | ⟨e', h1, h2⟩
    · cases hb : Region.binds md e with
      | false => rw [hb] at h1; exact .inl h1
      | true =>
        rw [hb] at h1
        simp only [cond_true, Nat.testBit_or, Bool.or_eq_true] at h1
        rcases h1 with (h1 | h1) | h1
        · exact .inl h1
        · exact .inr ⟨e, by simp, hb, .inl (testBit_one_shl _ _ h1)⟩
        · exact .inr ⟨e, by simp, hb, .inr h1⟩
    · exact .inr ⟨e', by simp [h1], h2⟩

theorem masksOk_spec {md : Region.Mode} {masks : List Nat} : ∀ (l : List Oper) (j : Nat), masksOk md masks j l = true → ∀ (q : Nat) (o : Oper), l[q]? = some o →
    (∀ i, (masks.getD (j + q) 0).testBit i = true → ∃ e ∈ o.after, Region.binds md e = true ∧ (i = e.on ∨ (masks.getD e.on 0).testBit i = true)) ∧ ∀ e ∈ o.after, Region.binds md e = true → e.on < j + q
  | [], _, _, _, _, h => by simp at h
  | o :: l, j, hm, 0, o', h => by
    simp only [List.getElem?_cons_zero, Option.some.injEq] at h
    subst h
    simp only [masksOk, Bool.and_eq_true] at hm
    obtain ⟨⟨h1, h2⟩, _⟩ := hm
    rw [Nat.add_zero]
    refine ⟨fun i hi => ?_, fun e he hb => ?_⟩
    · rw [Nat.eq_of_beq_eq_true h1] at hi
      rcases maskOf_spec md masks i _ _ hi with h | ⟨e, he, h⟩
      · simp at h
      · exact ⟨e, by simpa using he, h⟩
    · have := List.all_eq_true.1 h2 e (by simpa using he)
      rw [hb] at this
      exact lt_of_blt this
  | o :: l, j, hm, q + 1, o', h => by
    simp only [List.getElem?_cons_succ] at h
    simp only [masksOk, Bool.and_eq_true] at hm
    have := masksOk_spec l (j + 1) hm.2 q o' h
    rwa [show j + 1 + q = j + (q + 1) by omega] at this

theorem pairsB_spec {ops : Array Oper} {masks : List Nat} : ∀ (l : List (Nat × Oper × FP)), pairsB ops masks l = true → l.Pairwise fun y x => (masks.getD x.1 0).testBit y.1 = true ∨ indepB ops y x = true
  | [], _ => .nil
  | y :: l, h => by
    simp only [pairsB, Bool.and_eq_true, List.all_eq_true, Bool.or_eq_true] at h
    exact .cons h.1 (pairsB_spec l h.2)

theorem mkTr_at : ∀ (l : List Oper) (i : Nat) (fs : List FP), fs.length = l.length → ∀ x ∈ mkTr i l fs, i ≤ x.1 ∧ l[x.1 - i]? = some x.2.1
  | [], _, [], _, x, hx => by simp [mkTr] at hx
  | o :: l, i, f :: fs, hl, x, hx => by
    simp only [mkTr, List.mem_cons] at hx
    rcases hx with rfl | hx
    · simp
    · obtain ⟨h1, h2⟩ := mkTr_at l (i + 1) fs (by simpa using hl) x hx
      refine ⟨by omega, ?_⟩
      have : x.1 - i = (x.1 - (i + 1)) + 1 := by omega
      rw [this, List.getElem?_cons_succ]; exact h2
theorem mkTr_fst : ∀ (l : List Oper) (i : Nat) (fs : List FP), fs.length = l.length → (mkTr i l fs).map (·.1) = List.range' i l.length
  | [], _, [], _ => rfl
  | o :: l, i, f :: fs, hl => by
    simp only [mkTr, List.map_cons, List.length_cons, List.range'_succ, List.cons.injEq, true_and]
    exact mkTr_fst l (i + 1) fs (by simpa using hl)

/-- Whatever the order: the same comes of it. -/
theorem any_ok (hti : TiOK P ti) (fl : FlOK) (hΓ : ∀ F s, Γ F = some s → SumOK P F s) {ops : Array Oper} {md : Region.Mode} {masks : List Nat} (hm : masksOk md masks 0 ops.toList = true) {Q : Exit → Act → World → Prop} {S' : St} :
    ∀ (fuel : Nat) (listed : Array Bool) (c : List (Nat × Oper × FP)) (S : St) (a : Act) (w : World) (ρ : Nat → Hd) (G : Nat → Prop), Run ti Γ ops.toList c S S' → (∀ x ∈ c, ops[x.1]? = some x.2.1) →
    (c.map (·.1)).Pairwise (· < ·) → listed.size = ops.size → (∀ i, i < ops.size → (listed.getD i true = false ↔ i ∈ c.map (·.1))) → (∀ k, listed.getD k false = true → ∀ i, (masks.getD k 0).testBit i = true → listed.getD i false = true) →
    (c.Pairwise fun y x => (masks.getD x.1 0).testBit y.1 = true ∨ indepB ops y x = true) → c.length ≤ fuel → Rel ρ G S a w →
    (∀ a' w' ρ' G', Rel ρ' G' S' a' w' → Evo S.used ρ G S.heap w S'.used ρ' G' S'.heap w' → Q .normal a' w') → wpAny P md ops Q fuel listed a w := by
  intro fuel
  induction fuel with
  | zero =>
    intro listed c S a w ρ G run hat hsort hsize hlist hdown hpair hlen hrel hfin
    have hc : c = [] := List.eq_nil_of_length_eq_zero (by omega)
    subst hc
    cases run
    refine ⟨?_, hfin a w ρ G hrel (Evo.refl _ _ _ _ _)⟩
    cases hr : Region.ready md ops listed with
    | nil => rfl
    | cons i l =>
      have hi : i ∈ Region.ready md ops listed := by rw [hr]; simp
      obtain ⟨h1, o, ho, _⟩ := mem_ready.1 hi
      have := (hlist i (Array.getElem?_eq_some_iff.1 ho).1).1 h1
      simp at this
  | succ fuel ih =>
    intro listed c S a w ρ G run hat hsort hsize hlist hdown hpair hlen hrel hfin
    constructor
    · -- nothing is left
      intro hr
      cases c with
      | nil => cases run; exact hfin a w ρ G hrel (Evo.refl _ _ _ _ _)
      | cons x c =>
        exfalso
        have hx := hat x (by simp)
        have hlt : x.1 < ops.size := (Array.getElem?_eq_some_iff.1 hx).1
        have : x.1 ∈ Region.ready md ops listed := by
          refine mem_ready.2 ⟨(hlist _ hlt).2 (by simp), x.2.1, hx, fun e he hb => ?_⟩
          have hon := (masksOk_spec ops.toList 0 hm x.1 x.2.1 (by rw [Array.getElem?_toList]; exact hx)).2 e he hb
          rw [Nat.zero_add] at hon
          have hlt2 : e.on < ops.size := by omega
          have hnot : ¬ listed.getD e.on true = false := by
            rw [hlist _ hlt2]
            intro hmem
            simp only [List.map_cons, List.mem_cons] at hmem
            rcases hmem with hmem | hmem
            · omega
            · simp only [List.map_cons, List.pairwise_cons] at hsort
              have := hsort.1 _ hmem
              omega
          have hs : e.on < listed.size := by omega
          simp only [Array.getD, hs, ↓reduceDIte] at hnot ⊢
          simpa using hnot
        rw [hr] at this; cases this
    · intro i hi
      obtain ⟨h1, o, ho, hall⟩ := mem_ready.1 hi
      have hlt : i < ops.size := (Array.getElem?_eq_some_iff.1 ho).1
      have hmem := (hlist i hlt).1 h1
      obtain ⟨x, hxc, hxi⟩ := List.mem_map.1 hmem
      obtain ⟨l1, l2, rfl⟩ := List.append_of_mem hxc
      subst hxi
      have hxo := hat x hxc
      rw [ho] at hxo
      have hxo' : x.2.1 = o := by injection hxo with e; exact e.symm
      -- those ahead of it may be passed
      have hpass : ∀ y ∈ l1, indepB ops y x = true := by
        intro y hy
        have hp := (List.pairwise_append.1 hpair).2.2 y hy x (by simp)
        rcases hp with hp | hp
        · exfalso
          have hspec := (masksOk_spec ops.toList 0 hm x.1 o (by rw [Array.getElem?_toList]; exact ho)).1 y.1 (by rw [Nat.zero_add]; exact hp)
          obtain ⟨e, he, hb, hor⟩ := hspec
          have hl := hall e he hb
          have hly : listed.getD y.1 false = true := by
            rcases hor with hor | hor
            · rw [hor]; exact hl
            · exact hdown e.on hl y.1 hor
          have hylt : y.1 < ops.size := (Array.getElem?_eq_some_iff.1 (hat y (by simp [hy]))).1
          have := (hlist y.1 hylt).2 (List.mem_map.2 ⟨y, by simp [hy], rfl⟩)
          have hs : y.1 < listed.size := by omega
          simp only [Array.getD, hs, ↓reduceDIte] at this hly
          rw [this] at hly; cases hly
        · exact hp
      have run' := Run.front l1 l2 S S' run hpass
      obtain ⟨ix, ox, fx⟩ := x
      simp only at hxo' ho hxo h1 hall hlt hmem hi ⊢
      subst hxo'
      cases run' with
      | cons hstep hp rest =>
        rename_i S1 p
        refine stepR_ok hti fl hΓ hrel ho hstep hp fun a' w' ρ' G' hrel' hev => ?_
        have hnd : ((l1 ++ (ix, ox, fx) :: l2).map (·.1)).Nodup := hsort.imp (fun h => Nat.ne_of_lt h)
        have hsub : (l1 ++ l2).Sublist (l1 ++ (ix, ox, fx) :: l2) := List.Sublist.append_left (List.sublist_cons_self _ _) _
        refine ih _ (l1 ++ l2) S1 a' w' ρ' G' rest (fun y hy => hat y (hsub.subset hy)) (hsort.sublist (hsub.map _)) (by simpa using hsize) (fun j hj => ?_) (fun k hk j hj => ?_) (hpair.sublist hsub) (by simp at hlen ⊢; omega) hrel'
          (fun a2 w2 ρ2 G2 r2 e2 => hfin a2 w2 ρ2 G2 r2 (hev.trans e2))
        · have hne : j ∈ (l1 ++ (ix, ox, fx) :: l2).map (·.1) ↔ j = ix ∨ j ∈ (l1 ++ l2).map (·.1) := by
            simp only [List.map_append, List.map_cons, List.mem_append, List.mem_cons]
            constructor
            · rintro (h | h | h) <;> simp [h]
            · rintro (h | h | h) <;> simp [h]
          by_cases e : j = ix
          · subst e
            have hs : j < listed.size := by omega
            have hnot : j ∉ (l1 ++ l2).map (·.1) := by
              simp only [List.map_append, List.map_cons] at hnd
              have h3 := List.nodup_append.1 hnd
              simp only [List.map_append, List.mem_append, not_or]
              refine ⟨fun hx => h3.2.2 _ hx _ (by simp) rfl, fun hx => ?_⟩
              have := h3.2.1
              simp only [List.nodup_cons] at this
              exact this.1 hx
            have h5 : (listed.setIfInBounds j true).getD j true = true := by simp [hs]
            rw [h5]
            simp only [Bool.true_eq_false, false_iff]
            exact hnot
          · rw [getD_set_ne true (fun h => e h.symm), hlist j hj, hne]
            simp [e]
        · by_cases e : k = ix
          · subst e
            have hspec := (masksOk_spec ops.toList 0 hm k ox (by rw [Array.getElem?_toList]; exact ho)).1 j (by rw [Nat.zero_add]; exact hj)
            obtain ⟨e, he, hb, hor⟩ := hspec
            have hl := hall e he hb
            rcases hor with rfl | hor
            · exact getD_set_true hl
            · exact getD_set_true (hdown e.on hl j hor)
          · rw [getD_set_ne false (fun h => e h.symm)] at hk
            exact getD_set_true (hdown k hk j hj)
end
end Go.Proofs.Ytbkhhfekdpkhbaa.Ab
