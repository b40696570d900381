/- What calls of functions do, where functions do what they are known to; no condition. -/
import Derived.Test.YtbkhhfekdpkhbaaAbS
namespace Go.Proofs.Ytbkhhfekdpkhbaa.Ab
open Go

section
variable {P : Program} {ti : TypeId → TyI} {Γ : FuncId → Option Sum} {K : Nat → Bool} {ρ : Nat → Hd} {G : Nat → Prop} {heap : Nat → Option Row} {w : World}

theorem inK_iff {k n : Nat} : inK k n = true ↔ 1000000 ≤ n ∧ n < 1000000 + k := by
  unfold inK
  simp only [Bool.and_eq_true]
  constructor
  · rintro ⟨h1, h2⟩; exact ⟨Nat.le_of_ble_eq_true h1, lt_of_blt h2⟩
  · rintro ⟨h1, h2⟩; exact ⟨Nat.ble_eq_true_of_le h1, Nat.ble_eq_true_of_le h2⟩

theorem inH_some {ns : List Nat} {n : Nat} {r : Row} (h : inH ns heap n = some r) : ∃ q, 1000000 ≤ n ∧ ns[n - 1000000]? = some q ∧ heap q = some r := by
  unfold inH at h
  replace h := bif_some h; obtain ⟨h1, h⟩ := h
  split at h
  · rename_i q hq
    exact ⟨q, Nat.le_of_ble_eq_true h1, hq, h⟩
  · cases h
theorem inH_at {ns : List Nat} {i h : Nat} (hi : ns[i]? = some h) : inH ns heap (1000000 + i) = heap h := by
  unfold inH
  rw [Nat.ble_eq_true_of_le (by omega : 1000000 ≤ 1000000 + i)]
  simp only [cond_true, Nat.add_sub_cancel_left, hi]

theorem nodup_inj {l : List Nat} (h : l.Nodup) {i j x : Nat} (hi : l[i]? = some x) (hj : l[j]? = some x) : i = j := by
  obtain ⟨hi1, hi2⟩ := List.getElem?_eq_some_iff.1 hi
  obtain ⟨hj1, hj2⟩ := List.getElem?_eq_some_iff.1 hj
  have hp := List.pairwise_iff_getElem.1 h
  rcases Nat.lt_trichotomy i j with e | e | e
  · exact absurd (by rw [hi2, hj2]) (hp i j hi1 hj1 e)
  · exact e
  · exact absurd (by rw [hi2, hj2]) (hp j i hj1 hi1 e)

theorem nodup_map_on {f : Nat → Nat} : ∀ (l : List Nat), (∀ x ∈ l, ∀ y ∈ l, f x = f y → x = y) → l.Nodup → (l.map f).Nodup
  | [], _, _ => by simp
  | a :: l, hf, h => by
    simp only [List.nodup_cons] at h
    simp only [List.map_cons, List.nodup_cons]
    refine ⟨fun hm => ?_, nodup_map_on l (fun x hx y hy => hf x (List.mem_cons_of_mem _ hx) y (List.mem_cons_of_mem _ hy)) h.2⟩
    obtain ⟨b, hb, he⟩ := List.mem_map.1 hm
    have := hf b (List.mem_cons_of_mem _ hb) a (List.mem_cons_self) he
    subst this
    exact h.1 hb

/-- What the function sees. -/
theorem HRel.handed (m : HRel K ρ G heap w) {ns : List Nat} (hd : ns.Nodup) (hrow : ∀ h ∈ ns, ∃ r, heap h = some r ∧ rowFree r = true) :
    HRel (inK ns.length) (fun n => ρ (ns.getD (n - 1000000) 0)) G (inH ns heap) w := by
  constructor
  · intro n r hr
    obtain ⟨q, h1, h2, h3⟩ := inH_some hr
    have hq : ns.getD (n - 1000000) 0 = q := by simp [List.getD, h2]
    have hlt := (List.getElem?_eq_some_iff.1 h2).1
    obtain ⟨r', hr', hf⟩ := hrow q (List.mem_of_getElem? h2)
    rw [h3] at hr'; cases hr'
    obtain ⟨a1, a2, a3⟩ := m.row q r h3
    refine ⟨inK_iff.2 ⟨h1, by omega⟩, a2.free (by simp only [hq]) hf, ?_⟩
    simp only [hq]; exact a3
  · intro n n' hs hs' hn hn' he
    obtain ⟨r, hr⟩ := Option.isSome_iff_exists.1 hs
    obtain ⟨r', hr'⟩ := Option.isSome_iff_exists.1 hs'
    obtain ⟨q, h1, h2, h3⟩ := inH_some hr
    obtain ⟨q', h1', h2', h3'⟩ := inH_some hr'
    have hq : ns.getD (n - 1000000) 0 = q := by simp [List.getD, h2]
    have hq' : ns.getD (n' - 1000000) 0 = q' := by simp [List.getD, h2']
    simp only [hq] at hn he
    simp only [hq'] at hn' he
    have e := m.inj q q' (by simp [h3]) (by simp [h3']) hn hn' he
    subst e
    have := nodup_inj hd h2 h2'
    omega
  · exact m.old

/-- The call, taken over. -/
theorem callV_ok (hΓ : ∀ F s, Γ F = some s → SumOK P F s) (S : St) (m : HRel K ρ G S.heap w) {d : Nat} {F : FuncId} {args : List V} {us : List Value} (ra : Reps K ρ G w args us) {e : Eff}
    (h : callV ti Γ S d F args = some e) (hn : e.need) (hf : fresh K e.new = true) : (callFunc F us.toArray).run P w = .ok (.enter F us.toArray) w ∧ Calls P F us.toArray w (Ends K ρ G S.heap w e) := by
  unfold callV at h
  split at h
  · cases h
  · rename_i s hs
    have sok := hΓ F s hs
    refine ⟨sok.enters _ _, ?_⟩
    split at h
    · cases h
    · rename_i p l a hargs
      replace h := bif_some h; obtain ⟨hc, h⟩ := h
      simp only [Bool.and_eq_true] at hc
      obtain ⟨⟨c1, c2⟩, c3⟩ := hc
      generalize hns : namesOf s.asis args = ns at *
      have hnd := (nodup_iff ns).1 c1
      have hrow : ∀ q ∈ ns, q ∉ a ∧ ∃ r, S.heap q = some r ∧ rowFree r = true := by
        intro q hq
        have := List.all_eq_true.1 c2 q hq
        simp only [Bool.and_eq_true, Bool.not_eq_true', ← Bool.not_eq_true, memb_iff] at this
        obtain ⟨t1, t2⟩ := this
        refine ⟨t1, ?_⟩
        cases hr : S.heap q with
        | none => rw [hr] at t2; cases t2
        | some r => rw [hr] at t2; exact ⟨r, rfl, t2⟩
      split at h
      · cases h
      · rename_i e0 he0
        replace h := bif_some h; obtain ⟨hok, h⟩ := h
        have m1 := m.strike a
        have hstr : ∀ q ∈ ns, Ab.strike S.heap a q = S.heap q := by
          intro q hq
          obtain ⟨r, hr, _⟩ := (hrow q hq).2
          rw [hr]; exact strike_some.2 ⟨(hrow q hq).1, hr⟩
        have hin : inH ns (Ab.strike S.heap a) = inH ns S.heap := by
          funext n
          unfold inH
          cases Nat.ble 1000000 n with
          | false => rfl
          | true =>
            simp only [cond_true]
            split
            · rename_i q hq; exact hstr q (List.mem_of_getElem? hq)
            · rfl
        have hp : p := by
          revert h hn
          cases s.flat && flatV e0.val && e0.put.isEmpty && e0.new.isEmpty && ns.isEmpty <;> (intro hn h; simp only [cond_true, cond_false] at h; cases h; exact hn.1)
        have hneed : e0.need := by
          revert h hn
          cases s.flat && flatV e0.val && e0.put.isEmpty && e0.new.isEmpty && ns.isEmpty <;> (intro hn h; simp only [cond_true, cond_false] at h; cases h; exact hn.2)
        have r1 : Reps K ρ (plus G ρ S.heap a) w l us := argsOf_ok m (fun _ h => .inl h) _ _ _ _ _ _ ra hargs hp (fun b hb => .inr hb)
        have m0 : HRel (inK ns.length) (fun n => ρ (ns.getD (n - 1000000) 0)) (plus G ρ S.heap a) (inH ns S.heap) w := by
          have := m1.handed hnd (fun q hq => by
            obtain ⟨r, hr, hf⟩ := (hrow q hq).2
            exact ⟨r, by rw [hstr q hq]; exact hr, hf⟩)
          rwa [hin] at this
        have r0 : Reps (inK ns.length) (fun n => ρ (ns.getD (n - 1000000) 0)) (plus G ρ S.heap a) w (l.map (ren (outN ns))) us := Reps.mk (by simpa using r1.1) fun j c hj => by
          rw [List.getElem?_map] at hj
          cases hx : l[j]? with
          | none => rw [hx] at hj; cases hj
          | some x =>
            rw [hx] at hj; cases hj
            obtain ⟨u, u1, u2⟩ := r1.get hx
            refine ⟨u, u1, u2.ren (ns := memb ns) (fun q hq => ?_) (List.all_eq_true.1 c3 x (List.mem_of_getElem? hx))⟩
            have hq' := (memb_iff ns q).1 hq
            have hp := pos_get hq'
            have hl := pos_lt hq'
            refine ⟨inK_iff.2 ⟨by unfold outN; omega, by unfold outN; omega⟩, ?_⟩
            simp only [outN, Nat.add_sub_cancel_left, List.getD, hp, Option.getD_some]
        have hcall := sok.calls ns.length _ _ e0 he0 hok hneed _ _ w us m0 (fun n r hr => by
          obtain ⟨q, c1, c2, c3⟩ := inH_some hr
          obtain ⟨r', hr', hfr⟩ := (hrow q (List.mem_of_getElem? c2)).2
          rw [c3] at hr'; cases hr'; exact hfr) r0
        refine Calls.mono hcall fun en w' hen => ?_
        cases en with
        | panicked _ => exact hen.elim
        | outgrown => exact hen.elim
        | returned v =>
          obtain ⟨ρ1, G2, q1, q2, q3⟩ := hen
          have hGkeep : ∀ b, plus G ρ S.heap a b → w'.heap[b]? = w.heap[b]? := by
            intro b hb
            refine q3.keep b (m0.old b hb) ?_
            rintro ⟨n, hn1, hn2, hn3⟩
            obtain ⟨r, hr⟩ := Option.isSome_iff_exists.1 hn1
            exact ((m0.row n r hr).2.2 hn2).1 (hn3 ▸ hb)
          cases hbor : (s.flat && flatV e0.val && e0.put.isEmpty && e0.new.isEmpty && ns.isEmpty) with
          | true =>
            rw [hbor] at h
            simp only [cond_true] at h
            cases h
            simp only [Bool.and_eq_true, List.isEmpty_iff] at hbor
            obtain ⟨⟨⟨⟨_, b2⟩, b3⟩, b4⟩, b5⟩ := hbor
            have hno : ∀ b, ¬ Lives (fun n => ρ (ns.getD (n - 1000000) 0)) (inH ns S.heap) b := by
              rintro b ⟨n, hn1, _, _⟩
              obtain ⟨r, hr⟩ := Option.isSome_iff_exists.1 hn1
              obtain ⟨q, _, hq, _⟩ := inH_some hr
              rw [b5] at hq; simp at hq
            have keep : ∀ b, b < w.heap.size → w'.heap[b]? = w.heap[b]? := fun b hb => q3.keep b hb (hno b)
            refine ⟨ρ, G, ?_, flat_rep q2 b2, ?_⟩
            · simp only [mark, news, puts]
              constructor
              · intro q r hr
                obtain ⟨a1, a2, a3⟩ := m.row q r hr
                refine ⟨a1, a2.mono (fun _ h => ⟨h, rfl⟩) (fun _ h => h) (fun b hb => keep b (m.old b hb)) rfl (fun hn => keep _ (a3 hn).2), fun hn => ⟨(a3 hn).1, Nat.lt_of_lt_of_le (a3 hn).2 q3.size⟩⟩
              · exact m.inj
              · exact fun b hb => Nat.lt_of_lt_of_le (m.old b hb) q3.size
            · simp only [mark, news, puts]
              exact ⟨q3.os, q3.tape, q3.output, q3.size, fun b hb _ => keep b hb, fun _ h => ⟨h, rfl⟩, fun _ h => h, fun _ h => .inl h, fun _ h => .inl h⟩
          | false =>
            rw [hbor] at h
            simp only [cond_false] at h
            cases h
            simp only at hf
            -- what is made
            unfold effOk at hok
            simp only [Bool.and_eq_true] at hok
            obtain ⟨⟨⟨⟨k1, k2⟩, k3⟩, k4⟩, k5⟩ := hok
            have k2 := (nodup_iff _).1 k2
            have k4 := (nodup_iff _).1 k4
            have hput : ∀ q ∈ e0.put, 1000000 ≤ q.1 ∧ q.1 < 1000000 + ns.length ∧ ∀ r, q.2 = some r → rowFree r = true := by
              intro q hq
              have := List.all_eq_true.1 k1 q hq
              simp only [Bool.and_eq_true] at this
              refine ⟨Nat.le_of_ble_eq_true this.1.1, lt_of_blt this.1.2, fun r hr => ?_⟩
              have t := this.2
              rw [hr] at t; exact t
            have hnew : ∀ q ∈ e0.new, q.1 < 1000000 ∧ rowFree q.2 = true := by
              intro q hq
              have := List.all_eq_true.1 k3 q hq
              simp only [Bool.and_eq_true] at this
              exact ⟨lt_of_blt this.1, this.2⟩
            obtain ⟨f1, f2⟩ := (fresh_iff _ _).1 hf
            generalize hβ : backN ns (e0.new.map (·.1)) d = β at *
            -- names of theirs are names of ours
            have βin : ∀ i q, ns[i]? = some q → β (1000000 + i) = q := by
              intro i q hi
              rw [← hβ]; unfold backN
              rw [Nat.ble_eq_true_of_le (by omega : 1000000 ≤ 1000000 + i)]
              simp only [cond_true, Nat.add_sub_cancel_left, List.getD, hi, Option.getD_some]
            have βnew : ∀ n, n ∈ e0.new.map (·.1) → β n = d + 100000 * pos (e0.new.map (·.1)) n := by
              intro n hn
              obtain ⟨q, hq, rfl⟩ := List.mem_map.1 hn
              rw [← hβ]; unfold backN
              have : Nat.ble 1000000 q.1 = false := by
                cases hb : Nat.ble 1000000 q.1 with
                | false => rfl
                | true => have := Nat.le_of_ble_eq_true hb; have := (hnew q hq).1; omega
              rw [this]; rfl
            have newAt : ∀ n r, (n, r) ∈ e0.new → (β n, r) ∈ renNew d 0 e0.new := by
              intro n r hnr
              have hm : n ∈ e0.new.map (·.1) := List.mem_map.2 ⟨_, hnr, rfl⟩
              obtain ⟨i, hi, hi'⟩ := List.getElem_of_mem hnr
              have hi2 : e0.new[i]? = some (n, r) := by rw [List.getElem?_eq_getElem hi, hi']
              have hp := pos_get hm
              have hi3 : (e0.new.map (·.1))[i]? = some n := by rw [List.getElem?_map, hi2]; rfl
              have e1 := nodup_inj k4 hp hi3
              rw [βnew n hm, e1]
              have := renNew_get e0.new d 0 i n r hi2
              rw [Nat.zero_add] at this
              exact List.mem_of_getElem? this
            have newBack : ∀ x r, (x, r) ∈ renNew d 0 e0.new → ∃ n, (n, r) ∈ e0.new ∧ β n = x := by
              intro x r hx
              obtain ⟨i, hi, hi'⟩ := List.getElem_of_mem hx
              have hl : i < e0.new.length := by rw [renNew_length] at hi; exact hi
              have hi2 : e0.new[i]? = some ((e0.new[i]).1, (e0.new[i]).2) := by rw [List.getElem?_eq_getElem hl]
              have h3 := renNew_get e0.new d 0 i _ _ hi2
              rw [List.getElem?_eq_getElem hi, hi'] at h3
              cases h3
              refine ⟨(e0.new[i]).1, List.getElem_mem hl, ?_⟩
              have hm : (e0.new[i]).1 ∈ e0.new.map (·.1) := List.mem_map.2 ⟨_, List.getElem_mem hl, rfl⟩
              rw [βnew _ hm]
              have hi3 : (e0.new.map (·.1))[i]? = some (e0.new[i]).1 := by rw [List.getElem?_map, hi2]; rfl
              rw [nodup_inj k4 (pos_get hm) hi3, Nat.zero_add]
            have keyNew : ∀ n, n ∈ e0.new.map (·.1) → β n ∈ (renNew d 0 e0.new).map (·.1) := by
              intro n hn
              obtain ⟨⟨n', r⟩, hq, rfl⟩ := List.mem_map.1 hn
              exact List.mem_map.2 ⟨_, newAt _ _ hq, rfl⟩
            have keyBack : ∀ x, x ∈ (renNew d 0 e0.new).map (·.1) → ∃ n, n ∈ e0.new.map (·.1) ∧ β n = x := by
              intro x hx
              obtain ⟨⟨x', r⟩, hq, rfl⟩ := List.mem_map.1 hx
              obtain ⟨n, h1, h2⟩ := newBack _ _ hq
              exact ⟨n, List.mem_map.2 ⟨_, h1, rfl⟩, h2⟩
            have nsK : ∀ q ∈ ns, K q = true := by
              intro q hq
              obtain ⟨r, hr, _⟩ := (hrow q hq).2
              exact (m.row q r hr).1
            -- the names that the function knows
            let N : Nat → Prop := fun n => inK ns.length n = true ∨ n ∈ e0.new.map (·.1)
            have βK : ∀ n, inK ns.length n = true → ∃ q, ns[n - 1000000]? = some q ∧ q ∈ ns ∧ β n = q := by
              intro n hn
              obtain ⟨h1, h2⟩ := inK_iff.1 hn
              have hl : n - 1000000 < ns.length := by omega
              refine ⟨ns[n - 1000000], List.getElem?_eq_getElem hl, List.getElem_mem hl, ?_⟩
              have := βin (n - 1000000) _ (List.getElem?_eq_getElem hl)
              rwa [show 1000000 + (n - 1000000) = n by omega] at this
            have βinj : ∀ n n', N n → N n' → β n = β n' → n = n' := by
              intro n n' hn hn' he
              rcases hn with hn | hn <;> rcases hn' with hn' | hn'
              · obtain ⟨q, a1, a2, a3⟩ := βK n hn
                obtain ⟨q', b1, b2, b3⟩ := βK n' hn'
                rw [a3, b3] at he
                subst he
                have := nodup_inj hnd a1 b1
                have := (inK_iff.1 hn).1
                have := (inK_iff.1 hn').1
                omega
              · obtain ⟨q, a1, a2, a3⟩ := βK n hn
                have := f1 _ (keyNew n' hn')
                rw [← he, a3, nsK q a2] at this; cases this
              · obtain ⟨q, a1, a2, a3⟩ := βK n' hn'
                have := f1 _ (keyNew n hn)
                rw [he, a3, nsK q a2] at this; cases this
              · rw [βnew n hn, βnew n' hn'] at he
                have e1 : pos (e0.new.map (·.1)) n = pos (e0.new.map (·.1)) n' := by omega
                have p1 := pos_get hn
                have p2 := pos_get hn'
                rw [e1, p2] at p1
                cases p1; rfl
            -- memory, by our names
            generalize hheap' : news (puts S.heap (a.map (fun h => (h, none)) ++ e0.put.map fun q => (β q.1, q.2))) (renNew d 0 e0.new) = heap'
            generalize hheapc : news (puts (inH ns S.heap) e0.put) e0.new = heapc at q1 q3
            have notNewIn : ∀ n, inK ns.length n = true → n ∉ e0.new.map (·.1) := by
              intro n hn hm
              obtain ⟨q, hq, rfl⟩ := List.mem_map.1 hm
              have := (hnew q hq).1
              have := (inK_iff.1 hn).1
              omega
            have putNodup : (e0.put.map fun q => (β q.1, q.2)).map (·.1) = (e0.put.map (·.1)).map β := by simp [List.map_map]
            have putND : ((e0.put.map fun q => (β q.1, q.2)).map (·.1)).Nodup := by
              rw [putNodup]
              refine nodup_map_on _ ?_ k2
              intro x hx y hy hxy
              obtain ⟨q, hq, rfl⟩ := List.mem_map.1 hx
              obtain ⟨q', hq', rfl⟩ := List.mem_map.1 hy
              have h1 := hput q hq
              have h2 := hput q' hq'
              exact βinj _ _ (.inl (inK_iff.2 ⟨h1.1, h1.2.1⟩)) (.inl (inK_iff.2 ⟨h2.1, h2.2.1⟩)) hxy
            have at_in : ∀ n, N n → heap' (β n) = heapc n := by
              intro n hn
              rcases hn with hn | hn
              · obtain ⟨q, a1, a2, a3⟩ := βK n hn
                have x1 : β n ∉ (renNew d 0 e0.new).map (·.1) := by
                  intro hm
                  have := f1 _ hm
                  rw [a3, nsK q a2] at this; cases this
                rw [← hheap', ← hheapc, news_not _ _ _ x1, news_not _ _ _ (notNewIn n hn), puts_append, puts_strike]
                by_cases hm : n ∈ e0.put.map (·.1)
                · obtain ⟨⟨n', r⟩, hq, rfl⟩ := List.mem_map.1 hm
                  rw [puts_mem _ _ _ r putND (List.mem_map.2 ⟨_, hq, rfl⟩), puts_mem _ _ _ r k2 hq]
                · rw [puts_not _ _ n hm, puts_not]
                  · rw [a3, hstr q a2]
                    have := inH_at (heap := S.heap) a1
                    rw [show 1000000 + (n - 1000000) = n by have := (inK_iff.1 hn).1; omega] at this
                    exact this.symm
                  · rw [putNodup]
                    intro hx
                    obtain ⟨n', hn', he⟩ := List.mem_map.1 hx
                    obtain ⟨q', hq', rfl⟩ := List.mem_map.1 hn'
                    have h1 := hput q' hq'
                    have := βinj _ _ (.inl (inK_iff.2 ⟨h1.1, h1.2.1⟩)) (.inl hn) he
                    subst this
                    exact hm hn'
              · obtain ⟨⟨n', r⟩, hq, rfl⟩ := List.mem_map.1 hn
                rw [← hheap', ← hheapc, news_mem _ _ _ r k4 hq, news_mem _ _ _ r f2 (newAt _ _ hq)]
            have at_out : ∀ x, (¬ ∃ n, N n ∧ β n = x) → heap' x = Ab.strike S.heap a x := by
              intro x hx
              have x1 : x ∉ (renNew d 0 e0.new).map (·.1) := by
                intro hm
                obtain ⟨n, h1, h2⟩ := keyBack x hm
                exact hx ⟨n, .inr h1, h2⟩
              rw [← hheap', news_not _ _ _ x1, puts_append, puts_strike, puts_not]
              rw [putNodup]
              intro hm
              obtain ⟨n', hn', he⟩ := List.mem_map.1 hm
              obtain ⟨q', hq', rfl⟩ := List.mem_map.1 hn'
              have h1 := hput q' hq'
              exact hx ⟨q'.1, .inl (inK_iff.2 ⟨h1.1, h1.2.1⟩), he⟩
            have rowc : ∀ n r, heapc n = some r → N n ∧ rowFree r = true := by
              intro n r hr
              rw [← hheapc] at hr
              by_cases hm : n ∈ e0.new.map (·.1)
              · obtain ⟨⟨n', r'⟩, hq, rfl⟩ := List.mem_map.1 hm
                rw [news_mem _ _ _ r' k4 hq] at hr
                cases hr
                exact ⟨.inr hm, (hnew _ hq).2⟩
              · rw [news_not _ _ _ hm] at hr
                by_cases hm' : n ∈ e0.put.map (·.1)
                · obtain ⟨⟨n', r'⟩, hq, rfl⟩ := List.mem_map.1 hm'
                  rw [puts_mem _ _ _ r' k2 hq] at hr
                  have h1 := hput _ hq
                  exact ⟨.inl (inK_iff.2 ⟨h1.1, h1.2.1⟩), h1.2.2 r hr⟩
                · rw [puts_not _ _ _ hm'] at hr
                  obtain ⟨q, c1, c2, c3⟩ := inH_some hr
                  obtain ⟨r', hr', hfr⟩ := (hrow q (List.mem_of_getElem? c2)).2
                  rw [c3] at hr'; cases hr'
                  exact ⟨.inl (inK_iff.2 ⟨c1, by have := (List.getElem?_eq_some_iff.1 c2).1; omega⟩), hfr⟩
            -- where rows lie, by our names
            let ρ' : Nat → Hd := fun x => if K x = true then ρ x else ρ1 ((e0.new.map (·.1)).getD ((x - d) / 100000) 0)
            have ρnew : ∀ n, n ∈ e0.new.map (·.1) → ρ' (β n) = ρ1 n := by
              intro n hn
              have hk : ¬ K (β n) = true := by rw [f1 _ (keyNew n hn)]; simp
              show (if K (β n) = true then _ else _) = _
              rw [if_neg hk, βnew n hn, Nat.add_sub_cancel_left, Nat.mul_div_cancel_left _ (by omega)]
              simp only [List.getD, pos_get hn, Option.getD_some]
            have ρin : ∀ n, N n → ρ' (β n) = ρ1 n := by
              intro n hn
              rcases hn with hn | hn
              · obtain ⟨q, a1, a2, a3⟩ := βK n hn
                have h1 := (q3.names n hn).2
                show (if K (β n) = true then _ else _) = _
                rw [a3, if_pos (nsK q a2), h1]
                simp only [List.getD, a1, Option.getD_some]
              · exact ρnew n hn
            have ρold : ∀ x, K x = true → ρ' x = ρ x := fun x hx => if_pos hx
            have Kin : ∀ n, N n → mark K (renNew d 0 e0.new) (β n) = true := by
              intro n hn
              rw [mark_iff]
              rcases hn with hn | hn
              · obtain ⟨q, a1, a2, a3⟩ := βK n hn
                rw [a3]; exact .inl (nsK q a2)
              · exact .inr (keyNew n hn)
            have Kold : ∀ x, K x = true → mark K (renNew d 0 e0.new) x = true ∧ ρ' x = ρ x := fun x hx => ⟨(mark_iff _ _ _).2 (.inl hx), ρold x hx⟩
            have cblk : ∀ n r, heapc n = some r → (ρ1 n).nil = false → ¬ G2 (ρ1 n).b ∧ (ρ1 n).b < w'.heap.size := fun n r hr hn => (q1.row n r hr).2.2 hn
            -- our own rows lie in other blocks than theirs
            have apart : ∀ x r n, Ab.strike S.heap a x = some r → (¬ ∃ n, N n ∧ β n = x) → (ρ x).nil = false → ¬ Lives (fun n => ρ (ns.getD (n - 1000000) 0)) (inH ns S.heap) (ρ x).b ∧
                (∀ r', heapc n = some r' → (ρ1 n).nil = false → (ρ1 n).b ≠ (ρ x).b) := by
              intro x r n hx hout hnil
              have hno : ¬ Lives (fun n => ρ (ns.getD (n - 1000000) 0)) (inH ns S.heap) (ρ x).b := by
                rintro ⟨n', hs', hn', hb'⟩
                obtain ⟨r', hr'⟩ := Option.isSome_iff_exists.1 hs'
                obtain ⟨q, c1, c2, c3⟩ := inH_some hr'
                have hq : ns.getD (n' - 1000000) 0 = q := by simp [List.getD, c2]
                simp only [hq] at hn' hb'
                have := m.inj q x (by simp [c3]) (by simp [(strike_some.1 hx).2]) hn' hnil hb'
                subst this
                refine hout ⟨n', .inl (inK_iff.2 ⟨c1, by have := (List.getElem?_eq_some_iff.1 c2).1; omega⟩), ?_⟩
                have := βin _ _ c2
                rwa [show 1000000 + (n' - 1000000) = n' by omega] at this
              refine ⟨hno, fun r' hr' hn' he => ?_⟩
              rcases q3.lives (ρ x).b ⟨n, by simp [hr'], hn', he⟩ with hl | hl
              · exact hno hl
              · have := ((m.row x r (strike_some.1 hx).2).2.2 hnil).2
                omega
            refine ⟨ρ', G2, ?_⟩
            simp only [hheap']
            refine ⟨?_, ?_, ?_⟩
            · -- the relation
              constructor
              · intro x r hr
                by_cases hx : ∃ n, N n ∧ β n = x
                · obtain ⟨n, hn, rfl⟩ := hx
                  rw [at_in n hn] at hr
                  refine ⟨Kin n hn, (q1.row n r hr).2.1.free (ρin n hn) (rowc n r hr).2, fun hnil => ?_⟩
                  rw [ρin n hn] at hnil ⊢
                  exact cblk n r hr hnil
                · rw [at_out x hx] at hr
                  obtain ⟨b1, b2, b3⟩ := m1.row x r hr
                  refine ⟨(Kold x b1).1, b2.mono Kold q3.mono hGkeep (ρold x b1) (fun hnil => ?_), fun hnil => ?_⟩
                  · exact q3.keep _ (b3 hnil).2 (apart x r 0 hr hx hnil).1
                  · rw [ρold x b1] at hnil ⊢
                    refine ⟨fun hg => ?_, Nat.lt_of_lt_of_le (b3 hnil).2 q3.size⟩
                    rcases q3.newG _ hg with hg | hg | hg
                    · exact (b3 hnil).1 hg
                    · exact (apart x r 0 hr hx hnil).1 hg
                    · have := (b3 hnil).2; omega
              · intro x y hs hs' hn hn' he
                obtain ⟨r, hr⟩ := Option.isSome_iff_exists.1 hs
                obtain ⟨r', hr'⟩ := Option.isSome_iff_exists.1 hs'
                by_cases hx : ∃ n, N n ∧ β n = x <;> by_cases hy : ∃ n, N n ∧ β n = y
                · obtain ⟨n, n1, rfl⟩ := hx
                  obtain ⟨n', n1', rfl⟩ := hy
                  rw [at_in n n1] at hr
                  rw [at_in n' n1'] at hr'
                  rw [ρin n n1] at hn he
                  rw [ρin n' n1'] at hn' he
                  rw [q1.inj n n' (by simp [hr]) (by simp [hr']) hn hn' he]
                · obtain ⟨n, n1, rfl⟩ := hx
                  rw [at_in n n1] at hr
                  rw [at_out y hy] at hr'
                  rw [ρin n n1] at hn he
                  rw [ρold y (m1.row y r' hr').1] at hn' he
                  exact absurd he ((apart y r' n hr' hy hn').2 r hr hn)
                · obtain ⟨n, n1, rfl⟩ := hy
                  rw [at_out x hx] at hr
                  rw [at_in n n1] at hr'
                  rw [ρold x (m1.row x r hr).1] at hn he
                  rw [ρin n n1] at hn' he
                  exact absurd he.symm ((apart x r n hr hx hn).2 r' hr' hn')
                · rw [at_out x hx] at hr
                  rw [at_out y hy] at hr'
                  rw [ρold x (m1.row x r hr).1] at hn he
                  rw [ρold y (m1.row y r' hr').1] at hn' he
                  exact m1.inj x y (by simp [hr]) (by simp [hr']) hn hn' he
              · exact q1.old
            · -- the answer
              refine q2.ren (ns := fun n => (Nat.ble 1000000 n && Nat.blt n (1000000 + ns.length)) || memb (e0.new.map (·.1)) n) (fun n hn => ?_) k5
              have hN : N n := by
                rcases Bool.or_eq_true _ _ ▸ hn with hn | hn
                · exact .inl hn
                · exact .inr ((memb_iff _ _).1 hn)
              exact ⟨Kin n hN, ρin n hN⟩
            · refine ⟨q3.os, q3.tape, q3.output, q3.size, fun b hb hl => ?_, Kold, fun b hb => q3.mono b (.inl hb), fun b hb => ?_, fun b hb => ?_⟩
              · refine q3.keep b hb ?_
                rintro ⟨n', hs', hn', hb'⟩
                obtain ⟨r', hr'⟩ := Option.isSome_iff_exists.1 hs'
                obtain ⟨q, c1, c2, c3⟩ := inH_some hr'
                have hq : ns.getD (n' - 1000000) 0 = q := by simp [List.getD, c2]
                simp only [hq] at hn' hb'
                exact hl ⟨q, by simp [c3], hn', hb'⟩
              · rcases q3.newG b hb with hb | hb | hb
                · rcases hb with hb | ⟨q, _, hs, hn, hb⟩
                  · exact .inl hb
                  · exact .inr (.inl ⟨q, hs, hn, hb⟩)
                · obtain ⟨n', hs', hn', hb'⟩ := hb
                  obtain ⟨r', hr'⟩ := Option.isSome_iff_exists.1 hs'
                  obtain ⟨q, c1, c2, c3⟩ := inH_some hr'
                  have hq : ns.getD (n' - 1000000) 0 = q := by simp [List.getD, c2]
                  simp only [hq] at hn' hb'
                  exact .inr (.inl ⟨q, by simp [c3], hn', hb'⟩)
                · exact .inr (.inr hb)
              · obtain ⟨x, hs, hn, hb⟩ := hb
                obtain ⟨r, hr⟩ := Option.isSome_iff_exists.1 hs
                by_cases hx : ∃ n, N n ∧ β n = x
                · obtain ⟨n, n1, rfl⟩ := hx
                  rw [at_in n n1] at hr
                  rw [ρin n n1] at hn hb
                  rcases q3.lives b ⟨n, by simp [hr], hn, hb⟩ with hl | hl
                  · obtain ⟨n', hs', hn', hb'⟩ := hl
                    obtain ⟨r', hr'⟩ := Option.isSome_iff_exists.1 hs'
                    obtain ⟨q, c1, c2, c3⟩ := inH_some hr'
                    have hq : ns.getD (n' - 1000000) 0 = q := by simp [List.getD, c2]
                    simp only [hq] at hn' hb'
                    exact .inl ⟨q, by simp [c3], hn', hb'⟩
                  · exact .inr hl
                · rw [at_out x hx] at hr
                  rw [ρold x (m1.row x r hr).1] at hn hb
                  exact .inl ⟨x, by simp [(strike_some.1 hr).2], hn, hb⟩
end
end Go.Proofs.Ytbkhhfekdpkhbaa.Ab
