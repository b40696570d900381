/- What a store does; no condition. -/
import Derived.Test.YtbkhhfekdpkhbaaAbF
namespace Go.Proofs.Ytbkhhfekdpkhbaa.Ab
open Go

theorem lt_of_blt {a b : Nat} (h : Nat.blt a b = true) : a < b := Nat.le_of_ble_eq_true h

theorem seg_get {α : Type} (L us : List α) (o j : Nat) (h : o + us.length ≤ L.length) :
    (L.take o ++ us ++ L.drop (o + us.length))[j]? = if j < o then L[j]? else if j < o + us.length then us[j - o]? else L[j]? := by
  rw [List.append_assoc, List.getElem?_append]
  have e1 : (L.take o).length = o := by simp; omega
  rw [e1]
  split
  · rename_i hj; rw [List.getElem?_take, if_pos hj]
  · rename_i hj
    rw [List.getElem?_append]
    split
    · rename_i hj2; rw [if_pos (by omega)]
    · rename_i hj2; rw [if_neg (by omega), List.getElem?_drop]; congr 1; omega

section
variable {P : Program} {ti : TypeId → TyI} {K : Nat → Bool} {ρ : Nat → Hd} {G : Nat → Prop} {heap : Nat → Option Row} {w : World}

theorem HRel.keepsG (m : HRel K ρ G heap w) {h : Nat} {r : Row} (hh : heap h = some r) (hn : (ρ h).nil = false) (cs : Array Value) : ∀ b, G b → (w.setRow (ρ h).b cs).heap[b]? = w.heap[b]? :=
  fun b hb => setRow_other w _ b cs fun e => ((m.row h r hh).2.2 hn).1 (e ▸ hb)

theorem store_turn (m : HRel K ρ G heap w) {T : TypeId} (hT : TOK P ti T) {h : Nat} {r r' : Row} (hh : heap h = some r) (hn : (ρ h).nil = false) {cs : Array Value} {e : TypeId} {fz : Nat × Nat}
    (hb : w.heap[(ρ h).b]? = some (.cells cs e fz)) (hc : Clear cs.size fz) {o : Nat} {y : Value} (hl : y.cells.size = (ti T).size) (ho : o + y.cells.size ≤ cs.size) (h1 : ∀ v ∈ y.cells.toList, v.oneCell' = true)
    (hr : RowRep K ρ G (w.setRow (ρ h).b (cs.toList.take o ++ y.cells.toList ++ cs.toList.drop (o + y.cells.toList.length)).toArray) h r') :
    ∃ w', (Instr.storeAt T (.pointer (some ⟨(ρ h).b, o, none⟩)) y).run P w = .ok () w' ∧ HRel K ρ G (upd heap h (some r')) w' ∧ Evo K ρ G heap w K ρ G (upd heap h (some r')) w' := by
  refine ⟨w.setRow (ρ h).b (cs.toList.take o ++ y.cells.toList ++ cs.toList.drop (o + y.cells.toList.length)).toArray, ?_, m.turn hh hn rfl rfl rfl (by simp) (fun b hb => setRow_other w _ b _ hb) hr⟩
  have hst := run_storeCells_fz P (ρ h).b o e fz y.cells.toList 0 cs w hb hc (by simpa using ho) h1
  simp only [Nat.add_zero] at hst
  simp only [Instr.storeAt, Instr.sureAddr, storeVar, Sem.run_bind, Sem.run_pure, Result.andThen_ok, hT.sizeOf, hl, ne_eq, not_true_eq_false, ↓reduceIte, hst]

/-- The elements behind a store into one of them. -/
theorem Elems.stored {t : DT} {xs : List t.T} {cs : Array Value} (el : Elems K ρ G w t xs cs) {i sub : Nat} (hi : i < xs.length) {c : List V} {us : List Value} (r : Reps K ρ G w c us) (hsub : sub + c.length ≤ t.size)
    (hsz : (i + 1) * t.size ≤ cs.size) {p : Prop} {y : t.T} (hd : dec t (splice (enc t (xs.getD i t.dflt)) sub c) = some (p, y)) (hp : p) :
    Elems K ρ G w t (xs.set i y) (cs.toList.take (i * t.size + sub) ++ us ++ cs.toList.drop (i * t.size + sub + us.length)).toArray := by
  intro q hq j d hdj
  have hj : j < t.size := by have := (List.getElem?_eq_some_iff.1 hdj).1; rwa [enc_length] at this
  have hul := r.1
  rw [Nat.add_mul, Nat.one_mul] at hsz
  have hseg : i * t.size + sub + us.length ≤ cs.toList.length := by simp; omega
  simp only [List.getElem?_toArray, seg_get _ _ _ _ hseg]
  by_cases hqi : q = i
  · subst hqi
    have e0 : (xs.set q y)[q] = y := by simp
    rw [e0] at hdj
    obtain ⟨c1, h1, h2⟩ := (dec_sub t _ p y hd hp).2 j d hdj
    have old : Reps K ρ G w (enc t (xs.getD q t.dflt)) ((cs.toList.drop (q * t.size)).take t.size) := by
      refine Reps.mk (by simp [enc_length]; omega) fun k d' hk => ?_
      rw [List.getD_eq_getElem?_getD, List.getElem?_eq_getElem hi, Option.getD_some] at hk
      obtain ⟨u, a1, a2⟩ := el q hi k d' hk
      have hk' : k < t.size := by have := (List.getElem?_eq_some_iff.1 hk).1; rwa [enc_length] at this
      exact ⟨u, by rw [List.getElem?_take, if_pos hk', List.getElem?_drop]; simpa using a1, a2⟩
    have new := old.splice r (o := sub) (by rw [enc_length]; exact hsub)
    obtain ⟨u, a1, a2⟩ := new.get h1
    refine ⟨u, ?_, h2 _ _ _ _ _ a2⟩
    rw [seg_get _ _ _ _ (by simp; omega)] at a1
    rw [← a1]
    by_cases c1 : j < sub
    · rw [if_pos (by omega), if_pos c1, List.getElem?_take, if_pos hj, List.getElem?_drop]
    · rw [if_neg (by omega), if_neg c1]
      by_cases c2 : j < sub + us.length
      · rw [if_pos (by omega), if_pos c2]; congr 1; omega
      · rw [if_neg (by omega), if_neg c2, List.getElem?_take, if_pos hj, List.getElem?_drop]
  · have hq' : q < xs.length := by simpa using hq
    have e0 : (xs.set i y)[q] = xs[q] := by rw [List.getElem_set_ne (fun e => hqi e.symm)]
    rw [e0] at hdj
    obtain ⟨u, a1, a2⟩ := el q hq' j d hdj
    refine ⟨u, ?_, a2⟩
    have hlt : q < i ∨ i < q := by omega
    rcases hlt with hlt | hlt
    · have : (q + 1) * t.size ≤ i * t.size := Nat.mul_le_mul_right _ hlt
      rw [Nat.add_mul, Nat.one_mul] at this
      rw [if_pos (by omega)]; simpa using a1
    · have : (i + 1) * t.size ≤ q * t.size := Nat.mul_le_mul_right _ hlt
      rw [Nat.add_mul, Nat.one_mul] at this
      rw [if_neg (by omega), if_neg (by omega)]; simpa using a1

theorem splice_length (l : List V) (o : Nat) (c : List V) (h : o + c.length ≤ l.length) : (splice l o c).length = l.length := by
  unfold splice; simp; omega
theorem splice_ok (l : List V) (o : Nat) (c : List V) (hl : l.all cellOk = true) (hc : c.all cellOk = true) : (splice l o c).all cellOk = true := by
  unfold splice
  simp only [List.all_append, Bool.and_eq_true, hc, and_true]
  simp only [List.all_eq_true] at hl ⊢
  exact ⟨fun x hx => hl x (List.mem_of_mem_take hx), fun x hx => hl x (List.mem_of_mem_drop hx)⟩

theorem spread_get (l : List V) (base n s i sub : Nat) (c : List V) (q : Nat) (hq : q < l.length) : (spread l base n s i sub c)[q]? = some
    (bif Nat.ble base q && Nat.blt q (base + n * s) && Nat.ble sub ((q - base) % s) && Nat.blt ((q - base) % s) (sub + c.length) then
      merge (Nat.beq i ((q - base) / s)) (c.getD ((q - base) % s - sub) .any) (l.getD q .any)
    else l.getD q .any) := by
  unfold spread
  simp [List.getElem?_range hq]

theorem storeC_ok (hti : TiOK P ti) (S : St) (m : HRel K ρ G S.heap w) {T : TypeId} (hk : known ti T = true) {c v : V} {x y : Value} (rc : Rep K ρ G w c x) (rv : Rep K ρ G w v y)
    (hok : (cells v).all cellOk = true) {p : Prop} {h : Nat} {r : Row} {k : List Nat} (hs : storeC ti S T (cells v) c = some (p, h, r, k)) (hp : p) (hkh : k.contains h = false) :
    ∃ w', (Instr.storeAt T x y).run P w = .ok () w' ∧ HRel K ρ (plus G ρ S.heap k) (upd (Ab.strike S.heap k) h (some r)) w' ∧
      Evo K ρ G S.heap w K ρ (plus G ρ S.heap k) (upd (Ab.strike S.heap k) h (some r)) w' := by
  have hT := hti T hk
  have rcells := rv.cells hok
  have h1 : ∀ u ∈ y.cells.toList, u.oneCell' = true := by
    intro u hu
    obtain ⟨j, hj⟩ := List.mem_iff_getElem?.1 hu
    have hjl : j < (cells v).length := by rw [← rcells.1]; exact (List.getElem?_eq_some_iff.1 hj).1
    have hc := rcells.2 j (cells v)[j] (by simp [hjl])
    rw [List.getD_eq_getElem?_getD, hj, Option.getD_some] at hc
    exact hc.oneCell (List.all_eq_true.1 hok _ (List.getElem_mem hjl))
  have hsz : y.cells.size = (cells v).length := by have := rcells.1; simpa using this
  have e1 := Evo.strike (K := K) (ρ := ρ) (G := G) (heap := S.heap) (w := w) k
  have m1 := m.strike k
  have hknot : h ∉ k := by intro hm; simp [hm] at hkh
  -- what follows from a row that is turned
  have fin : ∀ {r0 : Row} {cs : Array Value} {e : TypeId} {fz : Nat × Nat} {o : Nat}, S.heap h = some r0 → (ρ h).nil = false → w.heap[(ρ h).b]? = some (.cells cs e fz) → Clear cs.size fz →
      (cells v).length = (ti T).size → o + (cells v).length ≤ cs.size →
      (RowRep K ρ (plus G ρ S.heap k) (w.setRow (ρ h).b (cs.toList.take o ++ y.cells.toList ++ cs.toList.drop (o + y.cells.toList.length)).toArray) h r) →
      x = .pointer (some ⟨(ρ h).b, o, none⟩) → ∃ w', (Instr.storeAt T x y).run P w = .ok () w' ∧ HRel K ρ (plus G ρ S.heap k) (upd (Ab.strike S.heap k) h (some r)) w' ∧
      Evo K ρ G S.heap w K ρ (plus G ρ S.heap k) (upd (Ab.strike S.heap k) h (some r)) w' := by
    intro r0 cs e fz o hh hn hb hcl hl ho hr hx
    subst hx
    obtain ⟨w', a1, a2, a3⟩ := store_turn m1 hT (strike_some.2 ⟨hknot, hh⟩) hn hb hcl (by rw [hsz, hl]) (by rw [hsz]; exact ho) h1 hr
    exact ⟨w', a1, a2, e1.trans a3⟩
  -- what is in the cells says the same behind the store
  have up : ∀ {r0 : Row} (cs : Array Value) {d : V} {u : Value}, S.heap h = some r0 → (ρ h).nil = false → Rep K ρ (plus G ρ S.heap k) w d u → Rep K ρ (plus G ρ S.heap k) (w.setRow (ρ h).b cs) d u := by
    intro r0 cs d u hh hn hr
    exact hr.mono (fun _ h => ⟨h, rfl⟩) (fun _ h => h) (m1.keepsG (strike_some.2 ⟨hknot, hh⟩) hn cs)
  have upG : ∀ {d : V} {u : Value}, Rep K ρ G w d u → Rep K ρ (plus G ρ S.heap k) w d u := fun hr => hr.mono (fun _ h => ⟨h, rfl⟩) (fun _ h => .inl h) (fun _ _ => rfl)
  cases rc <;> (try (simp only [storeC] at hs; cases hs; done))
  case ptr hh off hK hn =>
    simp only [storeC] at hs
    split at hs
    · rename_i e l hr
      replace hs := bif_some hs; obtain ⟨hc, hs⟩ := hs
      cases hs
      simp only [Bool.and_eq_true] at hc
      have a1 := Nat.le_of_ble_eq_true hc.1
      have a2 := Nat.eq_of_beq_eq_true hc.2
      obtain ⟨_, htot, hlok, cs, fz, hb, hcl, hcs⟩ := (m.row _ _ hr).2.1
      have hlen := hcs.1
      simp only [Array.length_toList] at hlen
      refine fin hr hn hb hcl a2 (by omega) ⟨hn, by rw [splice_length _ _ _ a1]; exact htot, splice_ok _ _ _ hlok hok, _, fz, setRow_heap w _ cs _ e fz hb, ?_, ?_⟩ rfl
      · simp only [List.size_toArray, List.length_append, List.length_take, List.length_drop, Array.length_toList]
        have : min off cs.size + y.cells.size + (cs.size - (off + y.cells.size)) = cs.size := by omega
        rw [this]; exact hcl
      · have := hcs.splice rcells (o := off) a1
        exact ⟨this.1, fun j d hd => up _ hr hn (upG (this.2 j d hd))⟩
    · rename_i e t xs hr
      obtain ⟨_, htot, cs, fz, hb, hcl, hcsz, hel⟩ := (m.row _ _ hr).2.1
      split at hs
      · rename_i n e' hkk
        replace hs := bif_some hs; obtain ⟨hc, hs⟩ := hs
        simp only [Bool.and_eq_true] at hc
        have a1 := Nat.eq_of_beq_eq_true hc.1
        have a2 := Nat.eq_of_beq_eq_true hc.2
        split at hs
        · rename_i p' ys hd
          replace hs := bif_some hs; obtain ⟨hl, hs⟩ := hs
          have a3 := Nat.eq_of_beq_eq_true hl
          cases hs
          subst a1
          obtain ⟨hyl, hcell⟩ := decAll_cell t n (cells v) p' ys hd hp.1
          have hall : cs.toList.take 0 ++ y.cells.toList ++ cs.toList.drop (0 + y.cells.toList.length) = y.cells.toList := by
            rw [List.take_zero, List.nil_append, Nat.zero_add, List.drop_of_length_le, List.append_nil]
            simp only [Array.length_toList, hsz, a3, ← a2, hcsz, hp.2]; exact Nat.le_refl _
          refine fin (o := 0) hr hn hb hcl a3 (by rw [a3, ← a2, hcsz, hp.2]; omega) ?_ rfl
          rw [hall]
          refine ⟨hn, by rw [htot, hyl, hp.2], _, fz, setRow_heap w _ cs _ e fz hb, ?_, ?_, ?_⟩
          · simp only [Array.toArray_toList, hsz, a3, ← a2]; rw [← hp.2, ← hcsz]; exact hcl
          · simp only [Array.toArray_toList, hsz, a3, ← a2, hyl]
          · intro q hq j d hdj
            obtain ⟨c1, b1, b2⟩ := hcell q hq j d hdj
            obtain ⟨u, b3, b4⟩ := rcells.get b1
            exact ⟨u, by simpa using b3, up _ hr hn (upG (b2 _ _ _ _ _ b4))⟩
        · cases hs
      · replace hs := bif_some hs; obtain ⟨hc, hs⟩ := hs
        simp only [Bool.and_eq_true] at hc
        have a1 := Nat.eq_of_beq_eq_true hc.1
        have a2 := Nat.eq_of_beq_eq_true hc.2
        split at hs
        · rename_i p' y' hd
          cases hs
          have hsub := dec_sub t _ p' y' hd hp.1
          have hl1 : (cells v).length = 1 := by rw [hsub.1, enc_length, a1]
          have hd2 : dec t (splice (enc t (xs.getD off t.dflt)) 0 (cells v)) = some (p', y') := by
            have : splice (enc t (xs.getD off t.dflt)) 0 (cells v) = cells v := by
              unfold splice
              rw [List.take_zero, List.nil_append, List.drop_of_length_le (by rw [enc_length, a1, hl1]; omega), List.append_nil]
            rw [this]; exact hd
          have hel2 := hel.stored hp.2 (sub := 0) rcells (by omega) (by rw [hcsz, a1]; have := hp.2; omega) hd2 hp.1
          refine fin (o := off * t.size + 0) hr hn hb hcl (by rw [hl1, a2]) (by rw [hcsz, a1, hl1]; have := hp.2; omega) ?_ (by simp [a1])
          refine ⟨hn, by simpa using htot, _, fz, setRow_heap w _ cs _ e fz hb, ?_, ?_, ?_⟩
          · simp only [List.size_toArray, List.length_append, List.length_take, List.length_drop, Array.length_toList]
            have : min (off * t.size + 0) cs.size + y.cells.size + (cs.size - (off * t.size + 0 + y.cells.size)) = cs.size := by rw [hsz, hl1, hcsz, a1]; have := hp.2; omega
            rw [this]; exact hcl
          · simp only [List.size_toArray, List.length_append, List.length_take, List.length_drop, Array.length_toList, List.length_set]
            rw [hsz, hl1, hcsz, a1]; have := hp.2; omega
          · intro q hq j d hdj
            obtain ⟨u, b1, b2⟩ := hel2 q hq j d hdj
            exact ⟨u, b1, up _ hr hn (upG b2)⟩
        · cases hs
    · cases hs
  case pe hh base n s i sub hK hn =>
    simp only [storeC] at hs
    split at hs
    · rename_i e l hr
      replace hs := bif_some hs; obtain ⟨hc, hs⟩ := hs
      cases hs
      simp only [Bool.and_eq_true] at hc
      have a1 := Nat.le_of_ble_eq_true hc.1.1
      have a2 := Nat.le_of_ble_eq_true hc.1.2
      have a3 := Nat.eq_of_beq_eq_true hc.2
      obtain ⟨_, htot, hlok, cs, fz, hb, hcl, hcs⟩ := (m.row _ _ hr).2.1
      have hlen := hcs.1
      simp only [Array.length_toList] at hlen
      have hi : i * s + s ≤ n * s := by rw [← Nat.succ_mul]; exact Nat.mul_le_mul_right _ hp
      have hpos : 0 < (ti T).size := lt_of_blt hk
      have hspos : 0 < s := by omega
      have hll : (spread l base n s i sub (cells v)).length = l.length := by unfold spread; simp
      have hseg : base + i * s + sub + y.cells.toList.length ≤ cs.toList.length := by simp only [Array.length_toList, hsz]; omega
      refine fin (o := base + i * s + sub) hr hn hb hcl a3 (by omega) ⟨hn, by rw [hll]; exact htot, ?_, _, fz, setRow_heap w _ cs _ e fz hb, ?_, ?_⟩ rfl
      · rw [List.all_eq_true]
        intro d hd
        obtain ⟨q, hq⟩ := List.mem_iff_getElem?.1 hd
        have hql : q < l.length := by rw [← hll]; exact (List.getElem?_eq_some_iff.1 hq).1
        rw [spread_get _ _ _ _ _ _ _ _ hql] at hq
        cases hq
        have hold : cellOk (l.getD q .any) = true := by
          rw [List.getD_eq_getElem?_getD, List.getElem?_eq_getElem hql, Option.getD_some]; exact List.all_eq_true.1 hlok _ (List.getElem_mem hql)
        cases hcond : (Nat.ble base q && Nat.blt q (base + n * s) && Nat.ble sub ((q - base) % s) && Nat.blt ((q - base) % s) (sub + (cells v).length)) with
        | false => simpa using hold
        | true =>
          simp only [cond_true]
          simp only [Bool.and_eq_true] at hcond
          have c4 := lt_of_blt hcond.2
          have c3 := Nat.le_of_ble_eq_true hcond.1.2
          refine merge_ok _ ?_ hold
          rw [List.getD_eq_getElem?_getD, List.getElem?_eq_getElem (by omega), Option.getD_some]
          exact List.all_eq_true.1 hok _ (List.getElem_mem _)
      · simp only [List.size_toArray, List.length_append, List.length_take, List.length_drop, Array.length_toList]
        have : min (base + i * s + sub) cs.size + y.cells.size + (cs.size - (base + i * s + sub + y.cells.size)) = cs.size := by omega
        rw [this]; exact hcl
      · refine Reps.mk (by rw [hll]; simp; omega) fun q d hd => ?_
        have hql : q < l.length := by rw [← hll]; exact (List.getElem?_eq_some_iff.1 hd).1
        rw [spread_get _ _ _ _ _ _ _ _ hql] at hd
        cases hd
        have hold : l[q]? = some (l.getD q .any) := by rw [List.getD_eq_getElem?_getD, List.getElem?_eq_getElem hql]; rfl
        obtain ⟨u0, b0, b1⟩ := hcs.get hold
        simp only [seg_get _ _ _ _ hseg]
        simp only [Array.length_toList, hsz]
        cases hcond : (Nat.ble base q && Nat.blt q (base + n * s) && Nat.ble sub ((q - base) % s) && Nat.blt ((q - base) % s) (sub + (cells v).length)) with
        | false =>
          simp only [cond_false]
          refine ⟨u0, ?_, up _ hr hn (upG b1)⟩
          by_cases c1 : q < base + i * s + sub
          · rw [if_pos c1]; exact b0
          · rw [if_neg c1]
            by_cases c2 : q < base + i * s + sub + (cells v).length
            · exfalso
              have eqq : q - base = s * i + (q - base - i * s) := by rw [Nat.mul_comm]; omega
              have hm : (q - base) % s = q - base - i * s := by
                rw [eqq, Nat.mul_add_mod, Nat.mod_eq_of_lt (by omega)]; rw [Nat.mul_comm]; omega
              have t1 : Nat.ble base q = true := Nat.ble_eq_true_of_le (by omega)
              have t2 : Nat.blt q (base + n * s) = true := Nat.ble_eq_true_of_le (by omega)
              have t3 : Nat.ble sub ((q - base) % s) = true := Nat.ble_eq_true_of_le (by omega)
              have t4 : Nat.blt ((q - base) % s) (sub + (cells v).length) = true := Nat.ble_eq_true_of_le (by omega)
              simp [t1, t2, t3, t4] at hcond
            · rw [if_neg c2]; exact b0
        | true =>
          simp only [cond_true]
          simp only [Bool.and_eq_true] at hcond
          have t1 := Nat.le_of_ble_eq_true hcond.1.1.1
          have t2 := lt_of_blt hcond.1.1.2
          have t3 := Nat.le_of_ble_eq_true hcond.1.2
          have t4 := lt_of_blt hcond.2
          have hdm := Nat.div_add_mod (q - base) s
          cases hbeq : Nat.beq i ((q - base) / s) with
          | true =>
            have ei := Nat.eq_of_beq_eq_true hbeq
            have hq2 : q = base + i * s + (q - base) % s := by rw [ei, Nat.mul_comm]; omega
            rw [if_neg (by omega), if_pos (by omega)]
            have hidx : q - (base + i * s + sub) = (q - base) % s - sub := by omega
            rw [hidx]
            have hget : (cells v)[(q - base) % s - sub]? = some ((cells v).getD ((q - base) % s - sub) .any) := by
              rw [List.getD_eq_getElem?_getD, List.getElem?_eq_getElem (by omega)]; rfl
            obtain ⟨u, d1, d2⟩ := rcells.get hget
            exact ⟨u, d1, merge_true _ _ _ _ _ _ _ (up _ hr hn (upG d2))⟩
          | false =>
            have ei : i ≠ (q - base) / s := fun h => by rw [← h] at hbeq; simp at hbeq
            refine ⟨u0, ?_, merge_false _ _ _ _ _ _ _ (up _ hr hn (upG b1))⟩
            have hlt := Nat.mod_lt (q - base) hspos
            rcases Nat.lt_or_gt_of_ne ei with hgt | hgt
            · have : (i + 1) * s ≤ (q - base) / s * s := Nat.mul_le_mul_right _ hgt
              rw [Nat.add_mul, Nat.one_mul] at this
              rw [Nat.mul_comm] at hdm
              rw [if_neg (by omega), if_neg (by omega)]; exact b0
            · have : ((q - base) / s + 1) * s ≤ i * s := Nat.mul_le_mul_right _ hgt
              rw [Nat.add_mul, Nat.one_mul] at this
              rw [Nat.mul_comm] at hdm
              rw [if_pos (by omega)]; exact b0
    · rename_i e t xs hr
      replace hs := bif_some hs; obtain ⟨hc, hs⟩ := hs
      simp only [Bool.and_eq_true] at hc
      have a1 := Nat.eq_of_beq_eq_true hc.1.1.1
      have a2 := Nat.eq_of_beq_eq_true hc.1.1.2
      have a3 := Nat.le_of_ble_eq_true hc.1.2
      have a4 := Nat.eq_of_beq_eq_true hc.2
      subst a1; subst a2
      obtain ⟨_, htot, cs, fz, hb, hcl, hcsz, hel⟩ := (m.row _ _ hr).2.1
      split at hs
      · rename_i p' c' a' him
        split at hs
        · rename_i q' y' hd
          cases hs
          have rc' : Reps K ρ (plus G ρ S.heap k) w c' y.cells.toList := immAll_ok m (fun _ h => .inl h) _ _ _ _ _ rcells him hp.1 (fun b hb => .inr hb)
          have hc'l : c'.length = (cells v).length := by rw [← rc'.1, rcells.1]
          have hi1 : (i + 1) * t.size ≤ cs.size := by rw [hcsz]; exact Nat.mul_le_mul_right _ hp.2.2
          have el1 : Elems K ρ (plus G ρ S.heap k) w t xs cs := hel.mono (fun _ h => ⟨h, rfl⟩) (fun _ h => .inl h) (fun _ _ => rfl)
          have hel2 := el1.stored hp.2.2 (sub := sub) rc' (by omega) hi1 hd hp.2.1
          rw [Nat.add_mul, Nat.one_mul] at hi1
          refine fin (o := i * t.size + sub) hr hn hb hcl a4 (by omega) ?_ (by simp)
          refine ⟨hn, by simpa using htot, _, fz, setRow_heap w _ cs _ e fz hb, ?_, ?_, ?_⟩
          · simp only [List.size_toArray, List.length_append, List.length_take, List.length_drop, Array.length_toList]
            have : min (i * t.size + sub) cs.size + y.cells.size + (cs.size - (i * t.size + sub + y.cells.size)) = cs.size := by omega
            rw [this]; exact hcl
          · simp only [List.size_toArray, List.length_append, List.length_take, List.length_drop, Array.length_toList, List.length_set]
            rw [← hcsz]; omega
          · intro q hq j d hdj
            obtain ⟨u, b1, b2⟩ := hel2 q hq j d hdj
            exact ⟨u, b1, up _ hr hn b2⟩
        · cases hs
      · cases hs
    · rename_i e t xs hr
      replace hs := bif_some hs; obtain ⟨hc, hs⟩ := hs
      simp only [Bool.and_eq_true] at hc
      have a1 := Nat.eq_of_beq_eq_true hc.1.1.1
      have a2 := Nat.eq_of_beq_eq_true hc.1.1.2
      have a3 := Nat.le_of_ble_eq_true hc.1.2
      have a4 := Nat.eq_of_beq_eq_true hc.2
      subst a1; subst a2
      obtain ⟨hlen, hrow⟩ := (m.row _ _ hr).2.1
      rcases hrow with ⟨hnil, _⟩ | ⟨_, htot, hcap, cs, fz, hb, hcl, hcsz, hel⟩
      · rw [hn] at hnil; cases hnil
      split at hs
      · rename_i p' c' a' him
        split at hs
        · rename_i q' y' hd
          cases hs
          have rc' : Reps K ρ (plus G ρ S.heap k) w c' y.cells.toList := immAll_ok m (fun _ h => .inl h) _ _ _ _ _ rcells him hp.1 (fun b hb => .inr hb)
          have hc'l : c'.length = (cells v).length := by rw [← rc'.1, rcells.1]
          have hi1 : (i + 1) * t.size ≤ cs.size := by rw [hcsz]; exact Nat.mul_le_mul_right _ (by have := hp.2.2; omega)
          have el1 : Elems K ρ (plus G ρ S.heap k) w t xs cs := hel.mono (fun _ h => ⟨h, rfl⟩) (fun _ h => .inl h) (fun _ _ => rfl)
          have hel2 := el1.stored hp.2.2 (sub := sub) rc' (by omega) hi1 hd hp.2.1
          rw [Nat.add_mul, Nat.one_mul] at hi1
          refine fin (o := i * t.size + sub) hr hn hb hcl a4 (by omega) ?_ (by simp)
          refine ⟨by simpa using hlen, .inr ⟨hn, htot, by simpa using hcap, _, fz, setRow_heap w _ cs _ e fz hb, ?_, ?_, ?_⟩⟩
          · simp only [List.size_toArray, List.length_append, List.length_take, List.length_drop, Array.length_toList]
            have : min (i * t.size + sub) cs.size + y.cells.size + (cs.size - (i * t.size + sub + y.cells.size)) = cs.size := by omega
            rw [this]; exact hcl
          · simp only [List.size_toArray, List.length_append, List.length_take, List.length_drop, Array.length_toList]
            rw [← hcsz]; omega
          · intro q hq j d hdj
            obtain ⟨u, b1, b2⟩ := hel2 q hq j d hdj
            exact ⟨u, b1, up _ hr hn b2⟩
        · cases hs
      · cases hs
    · cases hs
end
end Go.Proofs.Ytbkhhfekdpkhbaa.Ab
