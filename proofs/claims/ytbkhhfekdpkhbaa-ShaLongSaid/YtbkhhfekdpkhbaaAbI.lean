/- What operations on values do, and those that make a row; no condition. -/
import Derived.Test.YtbkhhfekdpkhbaaAbH
import Derived.Lib.ConvBytes
namespace Go.Proofs.Ytbkhhfekdpkhbaa.Ab
open Go

section
variable {P : Program} {ti : TypeId → TyI} {K : Nat → Bool} {ρ : Nat → Hd} {G : Nat → Prop} {heap : Nat → Option Row} {w : World}

/-- An operation comes to what its effect says. -/
def Ok (P : Program) (K : Nat → Bool) (ρ : Nat → Hd) (G : Nat → Prop) (heap : Nat → Option Row) (w : World) (e : Eff) (s : Sem Value) : Prop :=
  ∃ x w' ρ' G', s.run P w = .ok x w' ∧ HRel (mark K e.new) ρ' G' (news (puts heap e.put) e.new) w' ∧ Rep (mark K e.new) ρ' G' w' e.val x ∧
    Evo K ρ G heap w (mark K e.new) ρ' G' (news (puts heap e.put) e.new) w'

theorem Ok.pure (m : HRel K ρ G heap w) {e : Eff} (h : e.plain) {s : Sem Value} (k : ∃ z, s.run P w = .ok z w ∧ Rep K ρ G w e.val z) : Ok P K ρ G heap w e s := by
  obtain ⟨z, h1, h2⟩ := k
  obtain ⟨e1, e2⟩ := h
  refine ⟨z, w, ρ, G, h1, ?_, ?_, ?_⟩ <;> rw [e2] <;> simp only [mark] <;> try exact h2
  · rw [e1]; exact m
  · rw [e1]; exact Evo.refl _ _ _ _ _

/-- A row that is made. -/
theorem Ok.made (m : HRel K ρ G heap w) {e : Eff} {d : Nat} {r : Row} (hp : e.put = []) (hnew : e.new = [(d, r)]) (hK : K d = false) {w1 : World} (x : Ext w w1) (hd : Hd)
    (hb : hd.nil = false → w.heap.size ≤ hd.b ∧ hd.b < w1.heap.size) (hr : RowRep (upd K d true) (upd ρ d hd) G w1 d r) {s : Sem Value} {z : Value} (hs : s.run P w = .ok z w1)
    (hz : Rep (upd K d true) (upd ρ d hd) G w1 e.val z) : Ok P K ρ G heap w e s := by
  obtain ⟨a1, a2⟩ := m.new x hd hK hb hr
  refine ⟨z, w1, upd ρ d hd, G, hs, ?_, ?_, ?_⟩ <;> rw [hnew] <;> simp only [mark, news] <;> try exact hz
  · rw [hp]; exact a1
  · rw [hp]; exact a2

theorem mono_new {d : Nat} {hd : Hd} (hK : K d = false) : ∀ h, K h = true → upd K d true h = true ∧ upd ρ d hd h = ρ h := by
  intro h hh
  have : h ≠ d := by rintro rfl; simp [hK] at hh
  rw [upd_ne _ _ _ this, upd_ne _ _ _ this]; exact ⟨hh, rfl⟩

theorem heap_alloc_at (w : World) (o : Obj) : (w.alloc o).heap[w.heap.size]? = some o := heap_alloc_new w o

theorem clear0 (n : Nat) : Clear n (0, 0) := .inl rfl

/-- A new row of the very cells. -/
theorem newRow_rep (m : HRel K ρ G heap w) {d : Nat} (hK : K d = false) {T : TypeId} {c : List V} {us : List Value} (r : Reps K ρ G w c us) (hok : c.all cellOk = true) {p : Prop} {row : Row} (h : newRowOf ti T c = some (p, row)) (hp : p) (n cap : Nat) :
    RowRep (upd K d true) (upd ρ d ⟨w.heap.size, us.length, n, cap, false⟩) G (w.alloc (.cells us.toArray T)) d row := by
  have up : Reps (upd K d true) (upd ρ d ⟨w.heap.size, us.length, n, cap, false⟩) G (w.alloc (.cells us.toArray T)) c us :=
    r.mono (mono_new hK) (fun _ h => h) (fun b hb => RowKit.Below.heap_alloc _ _ _ (m.old b hb))
  have lit : RowRep (upd K d true) (upd ρ d ⟨w.heap.size, us.length, n, cap, false⟩) G (w.alloc (.cells us.toArray T)) d (.lit T c) := by
    simp only [RowRep, upd_same]
    exact ⟨trivial, r.1, hok, us.toArray, (0, 0), heap_alloc_at _ _, clear0 _, by simpa using up⟩
  unfold newRowOf at h
  split at h
  · rename_i n' e hk
    split at h
    · rename_i t ht
      split at h
      · rename_i p' xs hd
        replace h := bif_some h; obtain ⟨hl, h⟩ := h
        cases h
        have hl' := Nat.eq_of_beq_eq_true hl
        obtain ⟨hxl, hcell⟩ := decAll_cell t n' c p xs hd hp
        simp only [RowRep, upd_same]
        refine ⟨trivial, by rw [hxl, hl', r.1], us.toArray, (0, 0), heap_alloc_at _ _, clear0 _, by simp only [List.size_toArray]; rw [hxl, hl', r.1], fun q hq j dd hdj => ?_⟩
        obtain ⟨c1, h1, h2⟩ := hcell q hq j dd hdj
        obtain ⟨u, h3, h4⟩ := up.get h1
        exact ⟨u, by simpa using h3, h2 _ _ _ _ _ h4⟩
      · cases h; exact lit
    · cases h; exact lit
  · cases h; exact lit

theorem zero_reps {T : TypeId} {z : Value} (h : z.cells.toList.map V.v = (ti T).zero) : Reps K ρ G w (ti T).zero z.cells.toList := by
  rw [← h]
  refine Reps.mk (by simp) fun j c hc => ?_
  rw [List.getElem?_map] at hc
  cases hz : z.cells.toList[j]? with
  | none => rw [hz] at hc; cases hc
  | some u => rw [hz] at hc; cases hc; exact ⟨u, rfl, .v u⟩
theorem zero_ok {T : TypeId} {z : Value} (h : z.cells.toList.map V.v = (ti T).zero) (h1 : (z.cells.toList.all (·.oneCell')) = true) : (ti T).zero.all cellOk = true := by
  rw [← h, List.all_map]
  rw [List.all_eq_true] at h1 ⊢
  intro x hx
  have := h1 x hx
  cases x <;> first | rfl | (simp [Value.oneCell'] at this)

theorem map_v_inj : ∀ {l m : List Value}, l.map V.v = m.map V.v → l = m := by
  intro l
  induction l with
  | nil => intro m h; cases m <;> simp_all
  | cons a l ih =>
    intro m h
    cases m with
    | nil => simp at h
    | cons b m => simp only [List.map_cons, List.cons.injEq, V.v.injEq] at h; rw [h.1, ih h.2]

/-- The cells of an element's zero. -/
theorem dflt_ok (t : DT) : ∀ (j : Nat) (c : V), (enc t t.dflt)[j]? = some c → ∃ u, (zeroOf t)[j]? = some u ∧ ∀ (K : Nat → Bool) (ρ : Nat → Hd) (G : Nat → Prop) (w : World), Rep K ρ G w c u := by
  have hz : ∀ (k : Nat), (hashZ)[k]? = if k < 32 then some (.int .u8 0) else none := by
    intro k; unfold hashZ; rw [List.getElem?_replicate]
  have hv : ∀ (k : Nat) (c : V), (hashV [])[k]? = some c → k < 32 ∧ c = .b 0 := by
    intro k c h
    unfold hashV at h
    rw [List.getElem?_map] at h
    by_cases hk : k < 32
    · rw [List.getElem?_range hk] at h; simp at h; exact ⟨hk, h.symm⟩
    · rw [List.getElem?_eq_none (by simp; omega)] at h; cases h
  have rel : ∀ {l : List V} {m : List Value}, (l.length = m.length ∧ ∀ (j : Nat) (c : V), l[j]? = some c → ∃ u, m[j]? = some u ∧ ∀ (K : Nat → Bool) (ρ : Nat → Hd) (G : Nat → Prop) (w : World), Rep K ρ G w c u) →
      ∀ {c : V} {u : Value}, (∀ (K : Nat → Bool) (ρ : Nat → Hd) (G : Nat → Prop) (w : World), Rep K ρ G w c u) →
      ((c :: l).length = (u :: m).length ∧ ∀ (j : Nat) (d : V), (c :: l)[j]? = some d → ∃ v, (u :: m)[j]? = some v ∧ ∀ (K : Nat → Bool) (ρ : Nat → Hd) (G : Nat → Prop) (w : World), Rep K ρ G w d v) := by
    intro l m h c u hc
    refine ⟨by simp [h.1], fun j d hd => ?_⟩
    cases j with
    | zero => simp at hd; subst hd; exact ⟨u, rfl, hc⟩
    | succ j => simpa using h.2 j d (by simpa using hd)
  have relH : ∀ {l : List V} {m : List Value}, (l.length = m.length ∧ ∀ (j : Nat) (c : V), l[j]? = some c → ∃ u, m[j]? = some u ∧ ∀ (K : Nat → Bool) (ρ : Nat → Hd) (G : Nat → Prop) (w : World), Rep K ρ G w c u) →
      ((hashV [] ++ l).length = (hashZ ++ m).length ∧ ∀ (j : Nat) (d : V), (hashV [] ++ l)[j]? = some d → ∃ v, (hashZ ++ m)[j]? = some v ∧ ∀ (K : Nat → Bool) (ρ : Nat → Hd) (G : Nat → Prop) (w : World), Rep K ρ G w d v) := by
    intro l m h
    have l1 : (hashV []).length = 32 := by simp [hashV]
    have l2 : hashZ.length = 32 := by simp [hashZ]
    refine ⟨by simp [l1, l2, h.1], fun j d hd => ?_⟩
    rw [List.getElem?_append, l1] at hd
    rw [List.getElem?_append, l2]
    split at hd
    · rename_i hj
      rw [if_pos hj, hz, if_pos hj]
      obtain ⟨_, rfl⟩ := hv _ _ hd
      exact ⟨_, rfl, fun _ _ _ _ => .b 0⟩
    · rename_i hj
      rw [if_neg hj]
      exact h.2 _ _ hd
  have base : (([] : List V).length = ([] : List Value).length ∧ ∀ (j : Nat) (c : V), ([] : List V)[j]? = some c → ∃ u, ([] : List Value)[j]? = some u ∧ ∀ (K : Nat → Bool) (ρ : Nat → Hd) (G : Nat → Prop) (w : World), Rep K ρ G w c u) :=
    ⟨rfl, fun j c h => by simp at h⟩
  have hd : ∀ (t : DT) (K : Nat → Bool) (ρ : Nat → Hd) (G : Nat → Prop) (w : World), Rep K ρ G w (.deep t []) (.slice none 0 0) := fun t _ _ _ _ => .deepE t none 0 (fun _ => rfl)
  have hH := relH base
  simp only [List.append_nil] at hH
  cases t with
  | u8 => exact (rel base (fun _ _ _ _ => .b 0)).2
  | int k => exact (rel base (fun _ _ _ _ => .v _)).2
  | comp => exact (rel (rel (rel base (fun _ _ _ _ => .v _)) (fun _ _ _ _ => .v _)) (fun _ _ _ _ => .v _)).2
  | ua => exact (rel (rel base (fun _ _ _ _ => .v _)) (fun _ _ _ _ => .v _)).2
  | bytes => exact (rel base (hd .u8)).2
  | en => exact (rel (relH (rel (rel (relH hH) (hd .comp)) (fun _ _ _ _ => .v _))) (hd .u8)).2
  | sta => exact (rel (rel (rel (rel (rel hH (fun _ _ _ _ => .v _)) (hd .ua)) (fun _ _ _ _ => .v _)) (fun _ _ _ _ => .v _)) (fun _ _ _ _ => .v _)).2
  | stp => exact (rel (rel (rel (rel base (hd (.int .i64))) (fun _ _ _ _ => .v _)) (fun _ _ _ _ => .v _)) (fun _ _ _ _ => .v _)).2

theorem alloc_ok (hti : TiOK P ti) (m : HRel K ρ G heap w) {d : Nat} (hK : K d = false) {T : TypeId} (hk : known ti T = true) {e : Eff} (h : allocV ti d T = some e) (old : Value) :
    Ok P K ρ G heap w e (Instr.alloc T true old) := by
  have hT := hti T hk
  obtain ⟨z, hz, hzc, hzs, hz1⟩ := hT.zero
  have hrun : (Instr.alloc T true old).run P w = .ok (.pointer (some ⟨w.heap.size, 0, none⟩)) (w.alloc (.cells z.cells T)) := by
    simp [Instr.alloc, hz, newVar, newRow]
  have hal : z.cells.toList.toArray = z.cells := by simp
  have key : ∀ {r : Row} {e : Eff}, e.put = [] → e.new = [(d, r)] → e.val = .ptr d 0 → RowRep (upd K d true) (upd ρ d ⟨w.heap.size, z.cells.toList.length, 0, 0, false⟩) G (w.alloc (.cells z.cells T)) d r → Ok P K ρ G heap w e (Instr.alloc T true old) := by
    intro r e h1 h2 h3 h4
    refine Ok.made m h1 h2 hK (Ext.alloc w _) ⟨w.heap.size, z.cells.toList.length, 0, 0, false⟩ (fun _ => ⟨Nat.le_refl _, by simp⟩) h4 hrun ?_
    rw [h3]
    have := Rep.ptr (K := upd K d true) (ρ := upd ρ d ⟨w.heap.size, z.cells.toList.length, 0, 0, false⟩) (G := G) (w := w.alloc (.cells z.cells T)) d 0 (by rw [upd_same]) (by rw [upd_same])
    rwa [upd_same] at this
  have lit : RowRep (upd K d true) (upd ρ d ⟨w.heap.size, z.cells.toList.length, 0, 0, false⟩) G (w.alloc (.cells z.cells T)) d (.lit T (ti T).zero) := by
    have up : Reps (upd K d true) (upd ρ d ⟨w.heap.size, z.cells.toList.length, 0, 0, false⟩) G (w.alloc (.cells z.cells T)) (ti T).zero z.cells.toList := zero_reps hzc
    simp only [RowRep, upd_same]
    exact ⟨trivial, up.1, zero_ok hzc hz1, z.cells, (0, 0), heap_alloc_at _ _, clear0 _, up⟩
  unfold allocV at h
  split at h
  · rename_i n e' hkk
    split at h
    · rename_i t ht
      cases hs : Nat.beq t.size 1 with
      | false => simp only [hs, cond_false] at h; cases h; exact key rfl rfl rfl lit
      | true =>
        simp only [hs, cond_true] at h; cases h
        have hs1 := Nat.eq_of_beq_eq_true hs
        have hu := hT.und
        rw [hkk] at hu
        obtain ⟨_, hke, hsz, hzz⟩ := hu
        obtain ⟨d1, d2⟩ := (hti e' hke).dt t ht
        refine key rfl rfl rfl ?_
        -- the zero cells
        have hze : ∃ z0 : Value, zeroOf t = [z0] := by
          have : (zeroOf t).length = 1 := by
            have := congrArg List.length d2
            obtain ⟨z', _, h1, h2, _⟩ := (hti e' hke).zero
            have h3 := congrArg List.length h1
            simp only [List.length_map, Array.length_toList] at h3 this
            omega
          match zeroOf t, this with
          | [z0], _ => exact ⟨z0, rfl⟩
        obtain ⟨z0, hz0⟩ := hze
        have hrep : ∀ n, zeros ti e' n = (List.replicate n z0).map V.v := by
          intro n
          induction n with
          | zero => rfl
          | succ n ih => simp only [zeros, ih, d2, hz0, List.replicate_succ, List.map_cons, List.map_nil, List.cons_append, List.nil_append]
        have hcells : z.cells.toList = List.replicate n z0 := map_v_inj (by rw [hzc, hzz, hrep])
        simp only [RowRep, upd_same]
        refine ⟨trivial, by rw [hcells]; simp [hs1], z.cells, (0, 0), heap_alloc_at _ _, clear0 _, by rw [← Array.length_toList, hcells]; simp [hs1], fun q hq j c hc => ?_⟩
        have hq' : q < n := by simpa using hq
        rw [List.getElem_replicate] at hc
        obtain ⟨u, h1, h2⟩ := dflt_ok t j c hc
        rw [hz0] at h1
        cases j with
        | zero =>
          simp at h1; subst h1
          refine ⟨z0, ?_, h2 _ _ _ _⟩
          rw [← Array.getElem?_toList, hcells, List.getElem?_replicate, if_pos (by rw [hs1]; omega)]
        | succ j => simp at h1
    · cases h; exact key rfl rfl rfl lit
  · cases h; exact key rfl rfl rfl lit

theorem box_ok (m : HRel K ρ G heap w) {d : Nat} (hK : K d = false) {T : TypeId} {x : V} {u : Value} (r : Rep K ρ G w x u) (hok : (cells x).all cellOk = true) {e : Eff} (h : boxV ti d T x = some e) (hn : e.need) :
    Ok P K ρ G heap w e (Instr.box T u) := by
  unfold boxV at h
  split at h
  · rename_i p row hr
    cases h
    have rc := r.cells hok
    have := newRow_rep m hK (T := T) rc hok hr hn 0 0
    simp only [Array.toArray_toList] at this
    refine Ok.made m rfl rfl hK (Ext.alloc w (.cells u.cells T)) ⟨w.heap.size, u.cells.toList.length, 0, 0, false⟩ (fun _ => ⟨Nat.le_refl _, by simp⟩) this (z := .pointer (some ⟨w.heap.size, 0, none⟩)) ?_ ?_
    · simp [Instr.box, newVar, newRow]
    · have := Rep.ptr (K := upd K d true) (ρ := upd ρ d ⟨w.heap.size, u.cells.toList.length, 0, 0, false⟩) (G := G) (w := w.alloc (.cells u.cells T)) d 0 (by rw [upd_same]) (by rw [upd_same])
      rwa [upd_same] at this
  · cases h

/-! Values made of parts. -/
theorem foldl_set : ∀ (us : List Value) (k off : Nat) (cs : Array Value), (us.zipIdx k).foldl (fun cs (x : Value × Nat) => cs.setIfInBounds (off + x.2) x.1) cs =
    (us.foldl (fun (s : Array Value × Nat) u => (s.1.setIfInBounds (off + s.2) u, s.2 + 1)) (cs, k)).1 := by
  intro us
  induction us with
  | nil => intro k off cs; rfl
  | cons u us ih => intro k off cs; simp only [List.zipIdx_cons, List.foldl_cons]; exact ih _ _ _

theorem foldl_splice : ∀ (us : List Value) (k off : Nat) (cs : Array Value), off + k + us.length ≤ cs.size →
    ((us.zipIdx k).foldl (fun cs (x : Value × Nat) => cs.setIfInBounds (off + x.2) x.1) cs).toList = cs.toList.take (off + k) ++ us ++ cs.toList.drop (off + k + us.length) := by
  intro us
  induction us with
  | nil => intro k off cs _; simp
  | cons u us ih =>
    intro k off cs h
    simp only [List.zipIdx_cons, List.foldl_cons]
    rw [ih (k + 1) off _ (by simp at h ⊢; omega)]
    have := list_seg_step cs.toList (off + k) u us (by simp at h ⊢; omega)
    simpa [Array.toList_setIfInBounds, Nat.add_assoc] using this

theorem fill_ok (place : Nat → Option (Nat × Nat)) : ∀ (parts : List (Nat × V)) (vals : List (Nat × Value)) (l l' : List V) (cs : Array Value),
    vals.length = parts.length → (∀ (j : Nat) (q : Nat × V), parts[j]? = some q → ∃ u, vals[j]? = some (q.1, u) ∧ Rep K ρ G w q.2 u) → Reps K ρ G w l cs.toList → l.all cellOk = true → fillV ti place l parts = some l' →
    ∃ cs', Instr.fill place cs vals = some cs' ∧ Reps K ρ G w l' cs'.toList ∧ cs'.size = cs.size ∧ l'.all cellOk = true := by
  intro parts
  induction parts with
  | nil =>
    intro vals l l' cs hl _ r hok h
    simp only [fillV] at h; cases h
    have : vals = [] := List.eq_nil_of_length_eq_zero hl
    subst this
    exact ⟨cs, rfl, r, rfl, hok⟩
  | cons q parts ih =>
    intro vals l l' cs hl hv r hok h
    obtain ⟨i, x⟩ := q
    match vals, hl with
    | (i', u) :: vals, hl =>
      obtain ⟨u', h1, h2⟩ := hv 0 (i, x) rfl
      simp at h1
      obtain ⟨rfl, rfl⟩ := h1
      simp only [fillV] at h
      cases hp : place i' with
      | none => simp only [hp] at h; cases h
      | some os =>
        obtain ⟨o, s⟩ := os
        simp only [hp] at h
        replace h := bif_some h; obtain ⟨hc, h⟩ := h
        simp only [Bool.and_eq_true] at hc
        have a1 := Nat.eq_of_beq_eq_true hc.1.1
        have a2 := Nat.le_of_ble_eq_true hc.1.2
        have rc := h2.cells hc.2
        have hrl := r.1
        have hul := rc.1
        simp only [Array.length_toList] at hrl hul
        have hs : o + (cells x).length ≤ l.length := by omega
        have hlen : ((u.cells.zipIdx.toList.foldl (fun cs (x : Value × Nat) => cs.setIfInBounds (o + x.2) x.1) cs)).toList = cs.toList.take o ++ u.cells.toList ++ cs.toList.drop (o + u.cells.toList.length) := by
          have := foldl_splice u.cells.toList 0 o cs (by simp only [Array.length_toList]; omega)
          simpa using this
        have hsize : (u.cells.zipIdx.toList.foldl (fun cs (x : Value × Nat) => cs.setIfInBounds (o + x.2) x.1) cs).size = cs.size := by
          rw [← Array.length_toList, hlen]; simp; omega
        obtain ⟨cs', b1, b2, b3, b4⟩ := ih vals _ l' (u.cells.zipIdx.toList.foldl (fun cs (x : Value × Nat) => cs.setIfInBounds (o + x.2) x.1) cs) (by simpa using hl) (fun j q hq => by simpa using hv (j + 1) q (by simpa using hq))
          (by rw [hlen]; exact r.splice rc hs) (splice_ok _ _ _ hok hc.2) h
        refine ⟨cs', ?_, b2, by rw [b3, hsize], b4⟩
        simp only [Instr.fill, hp]
        rw [if_neg (by simp; omega)]
        rw [← b1, ← Array.foldl_toList]

theorem vals_of {ps : Array (Nat × Operand)} {ρv : Operand → Value} {ev : Operand → V} (h : ∀ o, Rep K ρ G w (ev o) (ρv o)) :
    ∀ (j : Nat) (q : Nat × V), (ps.toList.map fun p => (p.1, ev p.2))[j]? = some q → ∃ u, (ps.map fun p => (p.1, ρv p.2)).toList[j]? = some (q.1, u) ∧ Rep K ρ G w q.2 u := by
  intro j q hq
  rw [List.getElem?_map] at hq
  cases hp : ps.toList[j]? with
  | none => rw [hp] at hq; cases hq
  | some p => rw [hp] at hq; cases hq; exact ⟨ρv p.2, by simp [hp], h p.2⟩

theorem build_ok (hti : TiOK P ti) (m : HRel K ρ G heap w) {T : TypeId} (hk : known ti T = true) {parts : List (Nat × V)} {vals : Array (Nat × Value)} (hl : vals.size = parts.length)
    (hv : ∀ (j : Nat) (q : Nat × V), parts[j]? = some q → ∃ u, vals.toList[j]? = some (q.1, u) ∧ Rep K ρ G w q.2 u) {e : Eff} (h : buildV ti T parts = some e) : Ok P K ρ G heap w e (Instr.build T vals) := by
  have hT := hti T hk
  obtain ⟨z, hz, hzc, hzs, hz1⟩ := hT.zero
  have hu := hT.und
  unfold buildV at h
  split at h
  · rename_i fs hkk
    rw [hkk] at hu
    obtain ⟨F, h1, h2, h3⟩ := hu
    split at h
    · rename_i l' hf
      simp only [Eff.pure] at h; cases h
      -- the fields' places
      have hpl : ∀ w, (F.mapM fun f => (do pure (f.offset, ← sizeOf f.type) : Sem (Nat × Nat))).run P w = .ok (F.map fun f => (f.offset, (ti f.type).size)) w := by
        intro w
        have hall : ∀ f ∈ F.toList, known ti f.type = true := by
          intro f hf'
          have : (f.offset, f.type) ∈ fs := by rw [← h2]; exact List.mem_map.2 ⟨f, hf', rfl⟩
          exact List.all_eq_true.1 h3 _ this
        have : ∀ (L : List Field), (∀ f ∈ L, known ti f.type = true) → (L.mapM fun f => (do pure (f.offset, ← sizeOf f.type) : Sem (Nat × Nat))).run P w = .ok (L.map fun f => (f.offset, (ti f.type).size)) w := by
          intro L
          induction L with
          | nil => intro _; simp
          | cons f L ih =>
            intro hL
            have e1 := (hti f.type (hL f (by simp))).sizeOf (P := P) w
            simp only [List.mapM_cons, Sem.run_bind, e1, Result.andThen_ok, Sem.run_pure, ih (fun g hg => hL g (by simp [hg])), List.map_cons]
        rw [← Array.toArray_toList (xs := F), List.mapM_toArray, Sem.run_map, this F.toList hall]
        simp only [Result.andThen_ok]
        congr 1
        exact Array.ext' (by simp)
      have hplace : ∀ (i : Nat), (F.map fun f => (f.offset, (ti f.type).size))[i]? = (fs[i]?).map fun f => (f.1, (ti f.2).size) := by
        intro i
        rw [← h2]
        simp only [← Array.getElem?_toList, Array.toList_map, List.getElem?_map, Option.map_map]
        rfl
      obtain ⟨cs', b1, b2, b3, b4⟩ := fill_ok (ti := ti) (fun (i : Nat) => (fs[i]?).map fun (f : Nat × TypeId) => (f.1, (ti f.2).size)) parts vals.toList (ti T).zero l' z.cells (by simpa using hl) hv (zero_reps hzc) (zero_ok hzc hz1) hf
      refine Ok.pure m ⟨rfl, rfl⟩ ⟨.agg cs', ?_, ?_⟩
      · have : (fun (i : Nat) => (F.map fun f => (f.offset, (ti f.type).size))[i]?) = fun (i : Nat) => (fs[i]?).map fun (f : Nat × TypeId) => (f.1, (ti f.2).size) := funext hplace
        simp only [Instr.build, Sem.run_bind, hz, Result.andThen_ok, run_underlying h1, hpl]
        simp only [this, b1, Sem.run_pure]
      · have := Rep.agg l' cs'.toList b2.1 b2.2
        simpa using this
    · cases h
  · rename_i n e' hkk
    rw [hkk] at hu
    obtain ⟨h1, hke, _⟩ := hu
    split at h
    · rename_i l' hf
      simp only [Eff.pure] at h; cases h
      obtain ⟨cs', b1, b2, b3, b4⟩ := fill_ok (ti := ti) (fun i => some (i * (ti e').size, (ti e').size)) parts vals.toList (ti T).zero l' z.cells (by simpa using hl) hv (zero_reps hzc) (zero_ok hzc hz1) hf
      refine Ok.pure m ⟨rfl, rfl⟩ ⟨.agg cs', ?_, ?_⟩
      · simp only [Instr.build, Sem.run_bind, hz, Result.andThen_ok, run_underlying h1, (hti e' hke).sizeOf]
        simp only [b1, Sem.run_pure]
      · have := Rep.agg l' cs'.toList b2.1 b2.2
        simpa using this
    · cases h
  · cases h
end
end Go.Proofs.Ytbkhhfekdpkhbaa.Ab
