/- What operations on values do, the rest; no condition. -/
import Derived.Test.YtbkhhfekdpkhbaaAbI
namespace Go.Proofs.Ytbkhhfekdpkhbaa.Ab
open Go

section
variable {P : Program} {ti : TypeId → TyI} {K : Nat → Bool} {ρ : Nat → Hd} {G : Nat → Prop} {heap : Nat → Option Row} {w : World}

theorem zeros_cells {T : TypeId} {z : Value} (hz : z.cells.toList.map V.v = (ti T).zero) (hs : z.cells.size = (ti T).size) :
    ∀ n, (zeros ti T n).length = n * (ti T).size ∧ Reps K ρ G w (zeros ti T n) (madeCells z.cells (n * (ti T).size)).toList := by
  have hzl : (ti T).zero.length = (ti T).size := by rw [← hz, List.length_map, Array.length_toList, hs]
  have hmade : ∀ (N j : Nat), (madeCells z.cells N).toList[j]? = if j < N then some (z.cells[j % z.cells.size]!) else none := by
    intro N j
    unfold madeCells
    simp only [Array.toList_map, List.getElem?_map, Array.toList_range]
    by_cases hj : j < N
    · rw [List.getElem?_range hj, if_pos hj]; rfl
    · rw [List.getElem?_eq_none (by simp; omega), if_neg hj]; rfl
  have hlen : ∀ n, (zeros ti T n).length = n * (ti T).size := by
    intro n
    induction n with
    | zero => simp [zeros]
    | succ n ih => simp only [zeros, List.length_append, ih, hzl, Nat.add_mul]; omega
  have hget : ∀ n j c, (zeros ti T n)[j]? = some c → c = .v (z.cells[j % z.cells.size]!) ∧ j < n * (ti T).size := by
    intro n
    induction n with
    | zero => intro j c h; simp [zeros] at h
    | succ n ih =>
      intro j c h
      simp only [zeros] at h
      rw [List.getElem?_append, hzl] at h
      split at h
      · rename_i hj
        rw [← hz, List.getElem?_map] at h
        have hj' : j < z.cells.size := by omega
        rw [List.getElem?_eq_getElem (by simpa using hj')] at h
        simp only [Option.map_some, Option.some.injEq] at h
        rw [Nat.mod_eq_of_lt hj', ← h]
        refine ⟨by simp [hj'], ?_⟩
        have : (ti T).size ≤ (n + 1) * (ti T).size := Nat.le_mul_of_pos_left _ (by omega)
        omega
      · rename_i hj
        obtain ⟨h1, h2⟩ := ih _ c h
        refine ⟨?_, by rw [Nat.add_mul]; omega⟩
        rw [h1, hs]
        congr 2
        exact (Nat.mod_eq_sub_mod (by omega)).symm
  intro n
  refine ⟨hlen n, Reps.mk (by simp [hlen, size_madeCells]) fun j c hc => ?_⟩
  obtain ⟨h1, h2⟩ := hget n j c hc
  subst h1
  exact ⟨_, by rw [hmade, if_pos h2], .v _⟩

theorem zeros_ok {T : TypeId} {z : Value} (h : z.cells.toList.map V.v = (ti T).zero) (h1 : (z.cells.toList.all (·.oneCell')) = true) : ∀ n, (zeros ti T n).all cellOk = true := by
  intro n
  induction n with
  | zero => rfl
  | succ n ih => simp only [zeros, List.all_append, ih, zero_ok h h1, Bool.and_self]

theorem buildS_ok (hti : TiOK P ti) (m : HRel K ρ G heap w) {d : Nat} (hK : K d = false) {T : TypeId} {len : Nat} {parts : List (Nat × V)} {vals : Array (Nat × Value)} (hl : vals.size = parts.length)
    (hv : ∀ (j : Nat) (q : Nat × V), parts[j]? = some q → ∃ u, vals.toList[j]? = some (q.1, u) ∧ Rep K ρ G w q.2 u) {e : Eff} (h : buildS ti d T len parts = some e) : Ok P K ρ G heap w e (Instr.buildSlice T len vals) := by
  unfold buildS at h
  split at h
  · rename_i el hkk
    split at h
    · rename_i l' hf
      replace h := bif_some h; obtain ⟨hc, h⟩ := h
      cases h
      simp only [Bool.and_eq_true] at hc
      have a1 := Nat.le_of_ble_eq_true hc.1.1
      have hT := hti T hc.2
      have hE := hti el hc.1.2
      have hu := hT.und
      rw [hkk] at hu
      obtain ⟨z, hz, hzc, hzs, hz1⟩ := hE.zero
      obtain ⟨zl, zr⟩ := zeros_cells (K := K) (ρ := ρ) (G := G) (w := w) hzc hzs len
      obtain ⟨cs', b1, b2, b3, b4⟩ := fill_ok (ti := ti) (fun i => some (i * (ti el).size, (ti el).size)) parts vals.toList (zeros ti el len) l' (madeCells z.cells (len * (ti el).size)) (by simpa using hl) hv zr (zeros_ok hzc hz1 len) hf
      have hsz : cs'.size = len * (ti el).size := by rw [b3, size_madeCells]
      have up : Reps (upd K d true) (upd ρ d ⟨w.heap.size, len * (ti el).size, len, len, false⟩) G (w.alloc (.cells cs' el)) l' cs'.toList :=
        b2.mono (mono_new hK) (fun _ h => h) (fun b hb => RowKit.Below.heap_alloc _ _ _ (m.old b hb))
      refine Ok.made m rfl rfl hK (Ext.alloc w (.cells cs' el)) ⟨w.heap.size, len * (ti el).size, len, len, false⟩ (fun _ => ⟨Nat.le_refl _, by simp⟩) (z := .slice (some ⟨w.heap.size, 0, none⟩) len len) ?_ ?_ ?_
      · simp only [RowRep, upd_same]
        have hll := b2.1
        simp only [Array.length_toList] at hll
        exact ⟨trivial, by rw [← hll, hsz], b4, cs', (0, 0), heap_alloc_at _ _, clear0 _, up⟩
      · have hbig : ¬ (2 ^ 24 < len * (ti el).size) := by omega
        have hfill : Instr.fill (fun i => some (i * (ti el).size, (ti el).size)) ((Array.range (len * (ti el).size)).map (z.cells[· % z.cells.size]!)) vals.toList = some cs' := b1
        by_cases h0 : len * (ti el).size = 0
        · have hr0 : (Array.range (len * (ti el).size)).map (z.cells[· % z.cells.size]!) = #[] := by rw [h0]; simp
          rw [hr0] at hfill
          have hr2 : ((Array.range 0).map fun i => (#[] : Array Value)[i % (#[] : Array Value).size]!) = #[] := by simp
          have hb0 : ¬ (2 ^ 24 < 0) := by omega
          simp only [Instr.buildSlice, Sem.run_bind, run_underlying hu.1, Result.andThen_ok, hE.sizeOf, gt_iff_lt, h0, hb0, ↓reduceIte]
          simp only [Sem.run_bind, Sem.run_pure, Result.andThen_ok, hr2, hfill, newRow, run_newObj, World.alloc_eq]
        · simp only [Instr.buildSlice, Sem.run_bind, run_underlying hu.1, Result.andThen_ok, hE.sizeOf, gt_iff_lt, hbig, h0, ↓reduceIte, hz, Sem.run_pure]
          simp only [hfill, newRow, Sem.run_bind, run_newObj, Result.andThen_ok, Sem.run_pure, World.alloc_eq]
      · refine .own d 0 (ti el).size 0 len len none ⟨w.heap.size, 0, none⟩ (by rw [upd_same]) (by rw [upd_same]) (Nat.le_refl _) (fun _ => by rw [upd_same]; simp) (fun n hn => by cases hn) (fun _ => by rw [upd_same]; simp)
    · cases h
  · cases h

theorem make_ok (hti : TiOK P ti) (m : HRel K ρ G heap w) {d : Nat} (hK : K d = false) {T : TypeId} (hkT : known ti T = true) {k k' : IntKind} {l c : Int} {e : Eff} (h : makeV ti d T l c = some e) (hn : e.need) :
    Ok P K ρ G heap w e (Instr.makeSlice T (.int k l) (.int k' c)) := by
  unfold makeV at h
  split at h
  · rename_i el hkk
    split at h
    · rename_i t ht
      replace h := bif_some h; obtain ⟨hc, h⟩ := h
      cases h
      simp only [Bool.and_eq_true] at hc
      have a1 := Nat.eq_of_beq_eq_true hc.1
      have hu := (hti T hkT).und
      rw [hkk] at hu
      have hE := hti el hc.2
      obtain ⟨h1, h2, h3, h4⟩ := hn
      obtain ⟨d1, d2⟩ := hE.dt t ht
      obtain ⟨i, z, i1, i2, i3, i4, i5, i6, i7⟩ := hE.info
      have hzl : z.cells.toList = zeroOf t := map_v_inj (by rw [i5, d2])
      have hrun := run_make (P := P) w T el i z hu.1 i1 i4 k k' l c h1 h2 (by rw [i3]; omega) h3
      have hpos : 0 < t.size := by rw [d1]; exact lt_of_blt hc.2
      refine Ok.made m rfl rfl hK (Ext.alloc w _) ⟨w.heap.size, c.toNat * t.size, l.toNat, c.toNat, false⟩ (fun _ => ⟨Nat.le_refl _, by simp⟩) ?_ hrun ?_
      · simp only [RowRep, upd_same]
        refine ⟨by simp, .inr ⟨trivial, trivial, by simp; omega, _, (0, 0), heap_alloc_at _ _, clear0 _, by rw [size_madeCells, i2, d1], fun q hq j cc hcc => ?_⟩⟩
        have hq' : q < l.toNat := by simpa using hq
        rw [List.getElem_replicate] at hcc
        have hj : j < t.size := by have := (List.getElem?_eq_some_iff.1 hcc).1; rwa [enc_length] at this
        obtain ⟨u, u1, u2⟩ := dflt_ok t j cc hcc
        refine ⟨u, ?_, u2 _ _ _ _⟩
        have hzs : z.cells.size = t.size := by rw [i6, d1]
        have hlt : q * t.size + j < c.toNat * t.size := by
          have : (q + 1) * t.size ≤ c.toNat * t.size := Nat.mul_le_mul_right _ (by omega)
          rw [Nat.add_mul, Nat.one_mul] at this
          omega
        unfold madeCells
        rw [Array.getElem?_map, i2, ← d1]
        have : (Array.range (c.toNat * t.size))[q * t.size + j]? = some (q * t.size + j) := by simp [hlt]
        rw [this, Option.map_some, hzs, Nat.mul_comm q, Nat.mul_add_mod, Nat.mod_eq_of_lt hj]
        have hzj : z.cells[j]? = some u := by rw [← Array.getElem?_toList, hzl]; exact u1
        rw [getElem!_def, hzj]
      · have := Rep.ow (K := upd K d true) (ρ := upd ρ d ⟨w.heap.size, c.toNat * t.size, l.toNat, c.toNat, false⟩) (G := G) (w := w.alloc (.cells (madeCells z.cells (c.toNat * i.size)) el)) d (by rw [upd_same]) (by rw [upd_same])
        rwa [upd_same] at this
    · cases h
  · cases h

theorem unV_ok {op : UnOp} {x : V} {u : Value} (r : Rep K ρ G w x u) {e : Eff} (h : unV op x = some e) : e.plain ∧ ∃ z, (Op.unary op u).run P w = .ok z w ∧ Rep K ρ G w e.val z := by
  unfold unV at h
  split at h
  · simp only [Eff.pure] at h; cases h; cases r; exact ⟨⟨rfl, rfl⟩, _, rfl, .v _⟩
  · simp only [Eff.pure] at h; cases h; cases r; exact ⟨⟨rfl, rfl⟩, _, rfl, .v _⟩
  · simp only [Eff.pure] at h; cases h; cases r; exact ⟨⟨rfl, rfl⟩, _, rfl, .v _⟩
  · cases h

theorem len_ok (hti : TiOK P ti) (S : St) (m : HRel K ρ G S.heap w) {T ty : TypeId} (hk : known ti T = true) {x : V} {u : Value} (r : Rep K ρ G w x u) {e : Eff} (h : lenV ti S T x = some e) :
    e.plain ∧ ∃ z, (Builtin.len_ #[T] ty #[u]).run P w = .ok z w ∧ Rep K ρ G w e.val z := by
  have hu := (hti T hk).und
  unfold lenV at h
  split at h
  · rename_i n el hkk
    rw [hkk] at hu
    simp only [Eff.pure] at h; cases h
    exact ⟨⟨rfl, rfl⟩, goInt n, by simp [Builtin.len_, run_underlying hu.1], .v _⟩
  · rename_i hkk
    rw [hkk] at hu
    split at h
    · rename_i s
      simp only [Eff.pure] at h; cases h; cases r
      exact ⟨⟨rfl, rfl⟩, goInt s.size, by simp [Builtin.len_, run_underlying hu.1], .v _⟩
    · cases h
  · rename_i el hkk
    rw [hkk] at hu
    have run : ∀ (a : Option Addr) (n c : Nat), (Builtin.len_ #[T] ty #[.slice a n c]).run P w = .ok (goInt n) w := fun a n c => by simp [Builtin.len_, run_underlying hu.1]
    split at h
    · simp only [Eff.pure] at h; cases h; cases r
      · exact ⟨⟨rfl, rfl⟩, _, run _ _ _, .v _⟩
      · exact ⟨⟨rfl, rfl⟩, _, run _ _ _, .v _⟩
    · simp only [Eff.pure] at h; cases h; cases r
      · exact ⟨⟨rfl, rfl⟩, _, run _ _ _, .v _⟩
      · exact ⟨⟨rfl, rfl⟩, _, run _ _ _, .v _⟩
    · rename_i hh
      split at h
      · rename_i e' t xs hr
        cases h
        obtain ⟨hl, hrow⟩ := (m.row hh _ hr).2.1
        cases r with
        | ow => rw [hl]; exact ⟨⟨rfl, rfl⟩, _, run _ _ _, .v _⟩
        | owNil _ _ hn =>
          rcases hrow with ⟨_, rfl⟩ | ⟨h2, _⟩
          · exact ⟨⟨rfl, rfl⟩, _, run _ _ _, .v _⟩
          · rw [hn] at h2; cases h2
      · cases h
    · simp only [Eff.pure] at h; cases h; cases r
      exact ⟨⟨rfl, rfl⟩, _, run _ _ _, .v _⟩
    · cases h
  · cases h
end
end Go.Proofs.Ytbkhhfekdpkhbaa.Ab
