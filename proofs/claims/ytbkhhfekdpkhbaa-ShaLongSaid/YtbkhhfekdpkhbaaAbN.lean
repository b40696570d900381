/- Slices of strings and arrays, fields, indexes; no condition. -/
import Derived.Test.YtbkhhfekdpkhbaaAbM
namespace Go.Proofs.Ytbkhhfekdpkhbaa.Ab
open Go

section
variable {P : Program} {ti : TypeId → TyI} {K : Nat → Bool} {ρ : Nat → Hd} {G : Nat → Prop} {heap : Nat → Option Row} {w : World}

theorem sliceV_ok (hti : TiOK P ti) (S : St) (m : HRel K ρ G S.heap w) {T : TypeId} (hk : known ti T = true) {x : V} {u : Value} (r : Rep K ρ G w x u)
    {lo hi : Option V} {lo' hi' : Option Value}
    (hlo : match lo, lo' with
      | none, none => True
      | some x, some u => Rep K ρ G w x u
      | _, _ => False)
    (hhi : match hi, hi' with
      | none, none => True
      | some x, some u => Rep K ρ G w x u
      | _, _ => False) {e : Eff} (h : sliceV ti S T x lo hi = some e) (hn : e.need) : Ok P K ρ G S.heap w e (Instr.sliceAt T u lo' hi' none) := by
  have hu := (hti T hk).und
  unfold sliceV at h
  split at h
  · rename_i hkk
    rw [hkk] at hu
    split at h
    · rename_i s
      split at h
      · rename_i p l q hh e1 e2
        simp only [Eff.if] at h; cases h
        obtain ⟨h0, h1, h2⟩ := hn
        cases r
        have hb := bounds_ok (P := P) (cap := s.size) false hlo hhi e1 e2 h0 h1 h2 (Nat.le_refl _)
        refine Ok.pure m ⟨rfl, rfl⟩ ⟨_, ?_, .v _⟩
        simp [Instr.sliceAt, Instr.slice, run_underlying hu.1, hb]
      · cases h
    · cases h
  · rename_i el hkk
    rw [hkk] at hu
    replace h := bif_some h; obtain ⟨hke, h⟩ := h
    exact sliceS_ok S m hu.1 ((hti el hke).sizeOf w) r hlo hhi h hn
  · rename_i n el hkk
    rw [hkk] at hu
    split at h
    · rename_i hd off
      split at h
      · rename_i p l q hh e1 e2
        simp only [Eff.if] at h; cases h
        obtain ⟨h0, h1, h2⟩ := hn
        cases r with
        | ptr _ _ hk1 hn1 =>
          have hb := bounds_ok (P := P) (cap := n) false hlo hhi e1 e2 h0 h1 h2 (Nat.le_refl _)
          have hs := (hti el hu.2.1).sizeOf (P := P) w
          refine Ok.pure m ⟨rfl, rfl⟩ ⟨.slice (some (if n = l.toNat then ⟨(ρ hd).b, off, none⟩ else (⟨(ρ hd).b, off, none⟩ : Addr).add (l.toNat * (ti el).size))) (hh.toNat - l.toNat) (n - l.toNat), ?_, ?_⟩
          · simp [Instr.sliceAt, Instr.sureAddr, run_underlying hu.1, hb, hs]
          · refine .own hd off (ti el).size l.toNat (hh.toNat - l.toNat) (n - l.toNat) (some n) _ hk1 hn1 (by omega) (fun hne => by
              rcases hne with hne | hne
              · rw [if_neg (by omega), add_at]
              · rw [hne]; simp [add_at]) (fun n' hn' => by cases hn'; omega) (fun hn' => by cases hn')
      · cases h
    · cases h
  · cases h

theorem fieldA_ok (hti : TiOK P ti) (m : HRel K ρ G heap w) {T : TypeId} (hk : known ti T = true) {x : V} {u : Value} (r : Rep K ρ G w x u) {f : Nat} {e : Eff} (h : fieldA ti T x f = some e) :
    Ok P K ρ G heap w e (Instr.fieldAt T u f) := by
  have hu := (hti T hk).und
  unfold fieldA at h
  split at h
  · rename_i fs hkk
    rw [hkk] at hu
    obtain ⟨F, h1, h2, h3⟩ := hu
    split at h
    · rename_i o ft hf
      have hF : ∃ fl : Field, F[f]? = some fl ∧ fl.offset = o ∧ fl.type = ft := by
        rw [← h2, List.getElem?_map, Array.getElem?_toList] at hf
        cases hx : F[f]? with
        | none => rw [hx] at hf; cases hf
        | some fl => rw [hx] at hf; cases hf; exact ⟨fl, rfl, rfl, rfl⟩
      obtain ⟨fl, hF1, hF2, hF3⟩ := hF
      have hkf : known ti ft = true := by
        have := List.all_eq_true.1 h3 (o, ft) (List.mem_of_getElem? hf)
        exact this
      have hs := (hti ft hkf).sizeOf (P := P) w
      have hpos : (ti ft).size ≠ 0 := by have := lt_of_blt hkf; omega
      have hrun : ∀ a : Addr, (Instr.fieldAt T (.pointer (some a)) f).run P w = .ok (.pointer (some (a.add o))) w := by
        intro a
        simp [Instr.fieldAt, Instr.sureAddr, run_underlying h1, hF1, fieldPlace, hF3, hs, hpos, hF2]
      cases hz : Nat.beq (ti ft).size 0 with
      | true => exact absurd (Nat.eq_of_beq_eq_true hz) hpos
      | false =>
        rw [hz] at h
        simp only [cond_false] at h
        split at h
        · simp only [Eff.pure] at h; cases h
          cases r with
          | ptr _ _ hk1 hn1 =>
            refine Ok.pure m ⟨rfl, rfl⟩ ⟨_, hrun _, ?_⟩
            rw [add_at]
            exact .ptr _ _ hk1 hn1
        · simp only [Eff.pure] at h; cases h
          cases r with
          | pe _ _ _ _ _ _ hk1 hn1 =>
            refine Ok.pure m ⟨rfl, rfl⟩ ⟨_, hrun _, ?_⟩
            rw [add_at, Nat.add_assoc]
            exact .pe _ _ _ _ _ _ hk1 hn1
        · simp only [Eff.pure] at h; cases h
          cases r with
          | dp _ _ _ _ blk b g hG hc hr =>
            refine Ok.pure m ⟨rfl, rfl⟩ ⟨_, hrun _, ?_⟩
            rw [add_at, Nat.add_assoc]
            exact .dp _ _ _ _ blk b g hG hc hr
        · cases h
    · cases h
  · cases h

theorem run_part {T : TypeId} (h : TOK P ti T) {cs : List Value} {o : Nat} (hl : o + (ti T).size ≤ cs.length) :
    (part T cs.toArray o).run P w = .ok (valOf ti T ((cs.drop o).take (ti T).size)) w := by
  unfold part
  simp only [Sem.run_bind, h.isAgg w, Result.andThen_ok]
  by_cases ha : aggT ti T = true
  · simp only [ha, ↓reduceIte, Sem.run_bind, h.sizeOf, Result.andThen_ok, Sem.run_pure, valOf]
    congr 2
    apply Array.ext'
    simp [List.extract_eq_take_drop]
  · have hs := h.one (by simpa using ha)
    simp only [ha, valOf, Bool.false_eq_true, ↓reduceIte]
    have ho : o < cs.length := by omega
    rw [hs]
    simp [ho]

theorem fieldV_ok (hti : TiOK P ti) (m : HRel K ρ G heap w) {T : TypeId} (hk : known ti T = true) {x : V} {u : Value} (r : Rep K ρ G w x u) {f : Nat} {e : Eff} (h : fieldV ti T x f = some e) :
    Ok P K ρ G heap w e (Instr.field T u f) := by
  have hu := (hti T hk).und
  unfold fieldV at h
  split at h
  · rename_i fs l hkk
    rw [hkk] at hu
    obtain ⟨F, h1, h2, h3⟩ := hu
    split at h
    · rename_i o ft hf
      replace h := bif_some h; obtain ⟨hle, h⟩ := h
      have hle := Nat.le_of_ble_eq_true hle
      have hF : ∃ fl : Field, F[f]? = some fl ∧ fl.offset = o ∧ fl.type = ft := by
        rw [← h2, List.getElem?_map, Array.getElem?_toList] at hf
        cases hx : F[f]? with
        | none => rw [hx] at hf; cases hf
        | some fl => rw [hx] at hf; cases hf; exact ⟨fl, rfl, rfl, rfl⟩
      obtain ⟨fl, hF1, hF2, hF3⟩ := hF
      have hkf : known ti ft = true := List.all_eq_true.1 h3 (o, ft) (List.mem_of_getElem? hf)
      simp only [Eff.pure] at h; cases h
      cases r with
      | agg _ cs hl hr =>
        have rl : Reps K ρ G w l cs := ⟨hl, hr⟩
        refine Ok.pure m ⟨rfl, rfl⟩ ⟨valOf ti ft ((cs.drop o).take (ti ft).size), ?_, ?_⟩
        · have hp := run_part (P := P) (w := w) (hti ft hkf) (cs := cs) (o := o) (by omega)
          simp [Instr.field, run_underlying h1, hF1, Go.asAgg, hF2, hF3, hp]
        · exact Rep.asAgg (hti ft hkf) (by simp; omega) (rl.drop_take o _)
    · cases h
  · cases h

theorem intOfV_ok {x : V} {u : Value} (r : Rep K ρ G w x u) {i : Int} (h : intOfV x = some i) : ∃ k, u = .int k i := by
  unfold intOfV at h
  split at h
  · cases h; cases r; exact ⟨_, rfl⟩
  · cases h; cases r; exact ⟨_, rfl⟩
  · cases h

theorem indexA_ok (hti : TiOK P ti) (S : St) (m : HRel K ρ G S.heap w) {T : TypeId} (hk : known ti T = true) {x : V} {u : Value} (r : Rep K ρ G w x u) {k : IntKind} {i : Int} {e : Eff}
    (h : indexA ti S T x i = some e) (hn : e.need) : Ok P K ρ G S.heap w e (Instr.indexAt T u (.int k i)) := by
  have hu := (hti T hk).und
  have hsl : ∀ {el : TypeId} {a : Addr} {n c : Nat}, P.underlying T = some (.slice el) → known ti el = true → 0 ≤ i → i < n → (Instr.indexAt T (.slice (some a) n c) (.int k i)).run P w = .ok (.pointer (some (a.add (i.toNat * (ti el).size)))) w := by
    intro el a n c h1 h2 h3 h4
    simp [Instr.indexAt, asIntOf, run_underlying h1, h3, h4, (hti el h2).sizeOf (P := P)]
  unfold indexA at h
  split at h
  · rename_i el hd base s off len lim hkk
    rw [hkk] at hu
    replace h := bif_some h; obtain ⟨hc, h⟩ := h
    simp only [Bool.and_eq_true] at hc
    have hs := Nat.eq_of_beq_eq_true hc.1
    subst hs
    simp only [Eff.if] at h; cases h
    obtain ⟨h0, h1⟩ := hn
    cases r with
    | own _ _ _ _ _ c _ a hk1 hn1 hl ha hlim htot =>
      refine Ok.pure m ⟨rfl, rfl⟩ ⟨_, hsl hu.1 hc.2 h0 h1, ?_⟩
      rw [ha (.inl (by omega)), add_at]
      have := Rep.pe (K := K) (ρ := ρ) (G := G) (w := w) hd base (off + len) (ti el).size (off + i.toNat) 0 hk1 hn1
      rwa [Nat.add_mul, Nat.add_zero, ← Nat.add_assoc] at this
    | ownNil => simp at h1; omega
  · rename_i el hd hkk
    rw [hkk] at hu
    split at h
    · rename_i e' t xs hr
      replace h := bif_some h; obtain ⟨hc, h⟩ := h
      simp only [Bool.and_eq_true] at hc
      have hs := Nat.eq_of_beq_eq_true hc.1
      cases h
      obtain ⟨h0, h1⟩ := hn
      obtain ⟨hlen, hrow⟩ := (m.row hd _ hr).2.1
      cases r with
      | ow _ hk1 hn1 =>
        refine Ok.pure m ⟨rfl, rfl⟩ ⟨_, hsl hu.1 hc.2 h0 (by rw [← hlen]; exact h1), ?_⟩
        rw [add_at, ← hs]
        have := Rep.pe (K := K) (ρ := ρ) (G := G) (w := w) hd 0 0 t.size i.toNat 0 hk1 hn1
        rwa [Nat.add_zero] at this
      | owNil _ hk1 hn1 =>
        rcases hrow with ⟨_, rfl⟩ | ⟨hnil, _⟩
        · simp at h1; omega
        · rw [hn1] at hnil; cases hnil
    · cases h
  · rename_i el t xs hkk
    rw [hkk] at hu
    replace h := bif_some h; obtain ⟨hc, h⟩ := h
    simp only [Bool.and_eq_true] at hc
    have hs := Nat.eq_of_beq_eq_true hc.1
    simp only [Eff.if] at h; cases h
    obtain ⟨h0, h1⟩ := hn
    cases r with
    | deep _ _ blk o c g hl hG hcl hr =>
      refine Ok.pure m ⟨rfl, rfl⟩ ⟨_, hsl hu.1 hc.2 h0 h1, ?_⟩
      rw [add_at, ← hs]
      have := Rep.dp (K := K) (ρ := ρ) (G := G) (w := w) t xs i.toNat 0 blk o g hG hcl hr
      rwa [Nat.add_zero] at this
    | deepE => simp at h1; omega
  · rename_i n el hd off hkk
    rw [hkk] at hu
    simp only [Eff.if] at h; cases h
    obtain ⟨h0, h1⟩ := hn
    cases r with
    | ptr _ _ hk1 hn1 =>
      refine Ok.pure m ⟨rfl, rfl⟩ ⟨.pointer (some ((⟨(ρ hd).b, off, none⟩ : Addr).add (i.toNat * (ti el).size))), ?_, ?_⟩
      · simp [Instr.indexAt, Instr.sureAddr, asIntOf, run_underlying hu.1, h0, h1, (hti el hu.2.1).sizeOf (P := P)]
      · rw [add_at]
        have := Rep.pe (K := K) (ρ := ρ) (G := G) (w := w) hd off n (ti el).size i.toNat 0 hk1 hn1
        rwa [Nat.add_zero] at this
  · cases h

theorem indexV_ok (hti : TiOK P ti) (m : HRel K ρ G heap w) {T : TypeId} (hk : known ti T = true) {x : V} {u : Value} (r : Rep K ρ G w x u) {k : IntKind} {i : Int} {e : Eff}
    (h : indexV ti T x i = some e) (hn : e.need) : Ok P K ρ G heap w e (Instr.index T u (.int k i)) := by
  have hu := (hti T hk).und
  unfold indexV at h
  split at h
  · rename_i n el l hkk
    rw [hkk] at hu
    replace h := bif_some h; obtain ⟨hc, h⟩ := h
    have hs := Nat.eq_of_beq_eq_true hc
    simp only [Eff.if] at h; cases h
    obtain ⟨h0, h1⟩ := hn
    cases r with
    | agg _ cs hl hr =>
      have rl : Reps K ρ G w l cs := ⟨hl, hr⟩
      have hin : i.toNat * (ti el).size + (ti el).size ≤ l.length := by
        rw [hs]
        have : (i.toNat + 1) * (ti el).size ≤ n * (ti el).size := Nat.mul_le_mul_right _ (by omega)
        rwa [Nat.add_mul, Nat.one_mul] at this
      refine Ok.pure m ⟨rfl, rfl⟩ ⟨valOf ti el ((cs.drop (i.toNat * (ti el).size)).take (ti el).size), ?_, ?_⟩
      · have hp := run_part (P := P) (w := w) (hti el hu.2.1) (cs := cs) (o := i.toNat * (ti el).size) (by omega)
        simp [Instr.index, asIntOf, run_underlying hu.1, h0, h1, (hti el hu.2.1).sizeOf (P := P), hp]
      · refine Rep.asAgg (hti el hu.2.1) (by simp) (Reps.mk (by simp; omega) fun j c hc => ?_)
        rw [List.getElem?_map] at hc
        cases hj : (List.range (ti el).size)[j]? with
        | none => rw [hj] at hc; cases hc
        | some q =>
          rw [hj] at hc
          have hjq : j < (ti el).size ∧ q = j := by
            obtain ⟨a, b⟩ := List.getElem?_eq_some_iff.1 hj
            simp at a b
            exact ⟨a, b.symm⟩
          obtain ⟨hjl, rfl⟩ := hjq
          cases hc
          have hlt : i.toNat * (ti el).size + q < l.length := by omega
          have hm : ((List.range n).map fun j => l.getD (j * (ti el).size + q) .any)[i.toNat]? = some (l.getD (i.toNat * (ti el).size + q) .any) := by
            rw [List.getElem?_map, List.getElem?_range (by omega)]; rfl
          obtain ⟨v, hv1, hv2⟩ := rl.get (j := i.toNat * (ti el).size + q) (c := l.getD (i.toNat * (ti el).size + q) .any) (by simp [List.getD, hlt])
          refine ⟨v, ?_, sel_sub _ _ _ hm _ _ _ _ _ hv2⟩
          rw [List.getElem?_take, if_pos hjl, List.getElem?_drop]
          exact hv1
  · rename_i s hkk
    rw [hkk] at hu
    simp only [Eff.if] at h; cases h
    obtain ⟨h0, h1⟩ := hn
    cases r
    have hlt : i.toNat < s.size := by omega
    refine Ok.pure m ⟨rfl, rfl⟩ ⟨.int .u8 ((s.data.toList.getD i.toNat 0).toNat : Int), ?_, .b _⟩
    have hlt' : i.toNat < s.data.size := hlt
    have : s[i.toNat]? = some (s.data.toList.getD i.toNat 0) := by
      rw [getElem?_pos s i.toNat hlt]
      rw [List.getD_eq_getElem?_getD, Array.getElem?_toList, Array.getElem?_eq_getElem hlt']
      rfl
    simp [Instr.index, asIntOf, run_underlying hu.1, h0, this]
  · cases h
end
end Go.Proofs.Ytbkhhfekdpkhbaa.Ab
