/- Conversions, slices of slices, fields, indexes; one condition: what floats of small numbers are. -/
import Derived.Test.YtbkhhfekdpkhbaaAbL
namespace Go.Proofs.Ytbkhhfekdpkhbaa.Ab
open Go

section
variable {P : Program} {ti : TypeId → TyI} {K : Nat → Bool} {ρ : Nat → Hd} {G : Nat → Prop} {heap : Nat → Option Row} {w : World}

theorem conv_ok (hti : TiOK P ti) (fl : FlOK) (S : St) (m : HRel K ρ G S.heap w) {d : Nat} {src dst : TypeId} (hs : known ti src = true) (hd : known ti dst = true)
    {x : V} {u : Value} (r : Rep K ρ G w x u) {e : Eff} (h : convV ti S d src dst x = some e) (hn : e.need) (hf : fresh K e.new = true) : Ok P K ρ G S.heap w e (convert src dst u) := by
  obtain ⟨us, hus⟩ := (hti src hs).some
  have hu := (hti dst hd).und
  unfold convV at h
  split at h
  · rename_i k k' n hk
    rw [hk] at hu
    simp only [Eff.pure] at h; cases h; cases r
    refine Ok.pure m ⟨rfl, rfl⟩ ⟨.int k (k.wrap n), ?_, .v _⟩
    simp [convert, run_underlying hus, run_underlying hu.1, Conv.intToInt]
  · rename_i k n hk
    rw [hk] at hu
    split at h
    · rename_i e8
      subst e8
      simp only [Eff.pure] at h; cases h; cases r
      refine Ok.pure m ⟨rfl, rfl⟩ ⟨.int .u8 (n.toNat : Int), ?_, .b _⟩
      have : IntKind.u8.wrap (n.toNat : Int) = (n.toNat : Int) := by
        have := n.toNat_lt
        simp only [IntKind.wrap, IntKind.bits, IntKind.signed, Bool.false_and, Bool.false_eq_true, ↓reduceIte]
        omega
      simp [convert, run_underlying hus, run_underlying hu.1, Conv.intToInt, this]
    · simp only [Eff.pure] at h; cases h; cases r
      refine Ok.pure m ⟨rfl, rfl⟩ ⟨.int k (k.wrap (n.toNat : Int)), ?_, .v _⟩
      simp [convert, run_underlying hus, run_underlying hu.1, Conv.intToInt]
  · rename_i k n hk
    rw [hk] at hu
    simp only [Eff.if] at h; cases h
    cases r
    rename_i hsm
    refine Ok.pure m ⟨rfl, rfl⟩ ⟨.int k n, ?_, .v _⟩
    have hb := fl.back n hsm
    simp [convert, run_underlying hus, run_underlying hu.1, Conv.floatToInt, hb, hn.2.1, hn.2.2]
  · rename_i k n hk
    rw [hk] at hu
    simp only [Eff.if] at h; cases h
    cases r
    refine Ok.pure m ⟨rfl, rfl⟩ ⟨.float .f64 (FloatKind.f64.nearest n), ?_, .fl n hn⟩
    simp [convert, run_underlying hus, run_underlying hu.1, Conv.intToFloat]
  · rename_i s hk
    rw [hk] at hu
    simp only [Eff.pure] at h; cases h; cases r
    refine Ok.pure m ⟨rfl, rfl⟩ ⟨.string s, ?_, .v _⟩
    simp [convert, run_underlying hus, run_underlying hu.1]
  · rename_i hk hnot
    rw [hk] at hu
    replace h := bif_some h; obtain ⟨hb, h⟩ := h
    obtain ⟨el, _, hsl, hel⟩ := byteT_ok hti hb
    split at h
    · rename_i p xs a hl
      cases h
      have src := listOf_ok (P := P) m r hl hn
      rcases listOf_slice r hl with ⟨s, rfl⟩ | ⟨ao, n, c, rfl⟩
      · exact absurd rfl (hnot _)
      · refine Ok.pure m ⟨rfl, rfl⟩ ⟨.string ⟨xs.toArray⟩, ?_, .v _⟩
        rw [run_convert_bytes_string w _ _ el ao n c hsl hel hu.1]
        exact string_ok src
    · cases h
  · rename_i el s hk
    rw [hk] at hu
    split at h
    · rename_i hks hdt
      replace h := bif_some h; obtain ⟨hb, h⟩ := h
      obtain ⟨el', hk', hsl, hel⟩ := byteT_ok hti hb
      rw [hk] at hk'; cases hk'
      cases h; cases r
      have hK : K d = false := by simpa [fresh] using hf
      have hrun := Lib.run_convert_string_bytes (P := P) w src dst el s hus hsl hel
      have hsz : (Lib.bytesCells w el s).size = grownCap w s.size 0 el := by
        have := grownCap_ge w s.size 0 el
        have e1 : s.data.size = s.size := rfl
        simp only [Lib.bytesCells, Array.size_append, Array.size_map, Array.size_replicate, e1]
        omega
      have hlen : s.data.toList.length = s.size := Array.length_toList
      refine Ok.made m rfl rfl hK (w1 := Lib.bytesWorld w el s) ⟨?_, ?_, ?_, ?_, fun b hb => Lib.bytesWorld_at_old w el s b hb⟩ ⟨w.heap.size, grownCap w s.size 0 el, s.size, grownCap w s.size 0 el, false⟩
        (fun _ => ⟨Nat.le_refl _, by rw [Lib.bytesWorld_size]; exact Nat.lt_succ_self _⟩) ?_ hrun ?_
      · simp [Lib.bytesWorld, World.freeze, World.alloc, World.drew, -World.alloc_eq, -World.drew_eq]
      · simp [Lib.bytesWorld, World.freeze, World.alloc, World.drew, -World.alloc_eq, -World.drew_eq]
      · simp [Lib.bytesWorld, World.freeze, World.alloc, World.drew, -World.alloc_eq, -World.drew_eq]
      · rw [Lib.bytesWorld_size]; omega
      · simp only [RowRep, upd_same]
        refine ⟨hlen, .inr ⟨trivial, by simp [DT.size], ?_, _, _, Lib.bytesWorld_at_new w el s, .inr (Nat.le_refl _), by rw [hsz]; simp [DT.size], fun q hq j c hc => ?_⟩⟩
        · exact hlen ▸ grownCap_ge w s.size 0 el
        · have hq' : q < s.data.toList.length := hq
          match j, hc with
          | 0, hc =>
            cases hc
            refine ⟨.int .u8 (s.data.toList[q].toNat : Int), ?_, .b _⟩
            have hq2 : q < s.data.size := by rw [← Array.length_toList]; exact hq'
            have : (Lib.bytesCells w el s)[q]? = some (.int .u8 (s.data.toList[q].toNat : Int)) := by
              unfold Lib.bytesCells
              rw [Array.getElem?_append_left (by simpa using hq2)]
              rw [Array.getElem?_map, Array.getElem?_eq_getElem hq2]; simp
            simpa [DT.size] using this
          | j + 1, hc => exact absurd hc (by simp [enc])
      · have := Rep.ow (K := upd K d true) (ρ := upd ρ d ⟨w.heap.size, grownCap w s.size 0 el, s.size, grownCap w s.size 0 el, false⟩) (G := G) (w := Lib.bytesWorld w el s) d (by rw [upd_same]) (by rw [upd_same])
        rwa [upd_same] at this
    · cases h
  · rename_i el hh base s off len hk
    split at h
    · rename_i e2 l hr
      replace h := bif_some h; obtain ⟨hb, h⟩ := h
      simp only [Bool.and_eq_true] at hb
      have hsd := Nat.eq_of_beq_eq_true hb.1.1.1.1
      subst hsd
      obtain ⟨el', hk', hsl, hel⟩ := byteT_ok hti hb.1.1.1.2
      rw [hk] at hk'; cases hk'
      cases h
      have hb0 := Nat.eq_of_beq_eq_true hb.1.1.2
      have ho0 := Nat.eq_of_beq_eq_true hb.1.2
      have hl0 := lt_of_blt hb.2
      subst hb0; subst ho0
      have hnil := (m.row _ _ hr).2.1.1
      cases r with
      | ownNil _ _ _ _ _ hnn => rw [hnn] at hnil; cases hnil
      | own _ _ _ _ _ c _ a hk1 hn1 hl1 ha1 hlim htot =>
        by_cases hc : c = 0
        · have h1 := htot rfl
          have h2 := (m.row _ _ hr).2.1.2.1
          rw [hc] at h1
          simp at h1
          omega
        · obtain ⟨w', a1, a2, a3⟩ := mark_turn (P := P) m hr a (by rw [ha1 (.inl hc)])
          refine ⟨.slice (some a) len c, w', ρ, G, ?_, a2, ?_, a3⟩
          · show (convert src src (.slice (some a) len c)).run P w = .ok (.slice (some a) len c) w'
            simp [convert, run_underlying hsl, run_underlying hel, a1]
          · exact a3.rep m (.own hh 0 s 0 len c none a hk1 hn1 hl1 ha1 hlim htot)
    · cases h
  · cases h

/-- Bounds of a slice. -/
theorem bounds_ok {lo hi : Option V} {lo' hi' : Option Value} {n cap : Nat} {p q : Prop} {l h : Int} (b : Bool)
    (hlo : match lo, lo' with
      | none, none => True
      | some x, some u => Rep K ρ G w x u
      | _, _ => False)
    (hhi : match hi, hi' with
      | none, none => True
      | some x, some u => Rep K ρ G w x u
      | _, _ => False) (e1 : bound lo 0 = some (p, l)) (e2 : bound hi n = some (q, h)) (h0 : 0 ≤ l) (h1 : l ≤ h) (h2 : h ≤ n) (h3 : n ≤ cap) :
    (Instr.sliceBounds b n cap lo' hi' none).run P w = .ok (l.toNat, h.toNat, cap) w := by
  have k1 : ∀ {x : V} {u : Value} {d : Nat} {p : Prop} {i : Int}, Rep K ρ G w x u → bound (some x) d = some (p, i) → ∃ k, u = .int k i := by
    intro x u d p i r hb
    unfold bound at hb
    split at hb
    · rename_i e; cases e
    · rename_i e; cases e; cases hb; cases r; exact ⟨_, rfl⟩
    · rename_i e; cases e; cases hb; cases r; exact ⟨_, rfl⟩
    · cases hb
  have hh : ∃ x : Nat, (h = x) := ⟨h.toNat, by omega⟩
  have hl : ∃ x : Nat, (l = x) := ⟨l.toNat, by omega⟩
  obtain ⟨hx, rfl⟩ := hh
  obtain ⟨lx, rfl⟩ := hl
  match lo, lo', hi, hi', hlo, hhi, e1, e2 with
  | none, none, none, none, _, _, e1, e2 =>
    simp only [bound, Option.some.injEq, Prod.mk.injEq] at e1 e2
    have a1 := e1.2
    have a2 := e2.2
    have b1 : lx = 0 := by omega
    have b2 : hx = n := by omega
    subst b1; subst b2
    simp [Instr.sliceBounds]
  | none, none, some y, some v, _, ry, e1, e2 =>
    simp only [bound, Option.some.injEq, Prod.mk.injEq] at e1
    have a1 := e1.2
    have b1 : lx = 0 := by omega
    subst b1
    obtain ⟨k, rfl⟩ := k1 ry e2
    simp [Instr.sliceBounds, run_sliceBound, show hx ≤ cap by omega]
  | some x, some u, none, none, rx, _, e1, e2 =>
    simp only [bound, Option.some.injEq, Prod.mk.injEq] at e2
    have a2 := e2.2
    have b2 : hx = n := by omega
    subst b2
    obtain ⟨k, rfl⟩ := k1 rx e1
    simp [Instr.sliceBounds, run_sliceBound, show lx ≤ hx by omega]
  | some x, some u, some y, some v, rx, ry, e1, e2 =>
    obtain ⟨k, rfl⟩ := k1 rx e1
    obtain ⟨k', rfl⟩ := k1 ry e2
    simp [Instr.sliceBounds, run_sliceBound, show lx ≤ hx by omega, show hx ≤ cap by omega]

theorem cut_eq {α : Type} {xs : List α} {lo hi : Option V} {p q : Prop} {l h : Int} (e1 : bound lo 0 = some (p, l)) (e2 : bound hi xs.length = some (q, h)) (h0 : 0 ≤ l) (h1 : l ≤ h) :
    cut xs lo hi l h = (xs.drop l.toNat).take (h.toNat - l.toNat) := by
  match lo, hi, e1, e2 with
  | none, none, e1, e2 =>
    simp only [bound, Option.some.injEq, Prod.mk.injEq] at e1 e2
    have a1 := e1.2
    have a2 := e2.2
    subst a1; subst a2
    simp [cut]
  | none, some y, e1, e2 =>
    simp only [bound, Option.some.injEq, Prod.mk.injEq] at e1
    have a1 := e1.2
    subst a1
    simp [cut]
  | some x, none, e1, e2 =>
    simp only [bound, Option.some.injEq, Prod.mk.injEq] at e2
    have a2 := e2.2
    subst a2
    simp only [cut]
    rw [List.take_of_length_le]
    simp
  | some x, some y, e1, e2 =>
    simp only [cut]
    rw [List.drop_take]

/-- A slice of a slice. -/
theorem run_slice_as {T el : TypeId} (hu : P.underlying T = some (.slice el)) {sz : Nat} (hs : (sizeOf el).run P w = .ok sz w) {a : Option Addr} {n cap l h : Nat} {lo' hi' : Option Value}
    (hb : (Instr.sliceBounds true n cap lo' hi' none).run P w = .ok (l, h, cap) w) :
    (Instr.sliceAt T (.slice a n cap) lo' hi' none).run P w = .ok (.slice (if cap = l then a else a.map (·.add (l * sz))) (h - l) (cap - l)) w := by
  have e1 : (Instr.sliceAt T (.slice a n cap) lo' hi' none).run P w = (Instr.slice T (.slice a n cap) lo' hi' none).run P w := by
    simp [Instr.sliceAt, run_underlying hu]
  rw [e1]
  simp [Instr.slice, run_underlying hu, hb, hs]

theorem sliceS_ok (S : St) (m : HRel K ρ G S.heap w) {T el : TypeId} (hu : P.underlying T = some (.slice el)) {sz : Nat} (hs : (sizeOf el).run P w = .ok sz w) {x : V} {u : Value} (r : Rep K ρ G w x u)
    {lo hi : Option V} {lo' hi' : Option Value}
    (hlo : match lo, lo' with
      | none, none => True
      | some x, some u => Rep K ρ G w x u
      | _, _ => False)
    (hhi : match hi, hi' with
      | none, none => True
      | some x, some u => Rep K ρ G w x u
      | _, _ => False) {e : Eff} (h : sliceS S sz x lo hi = some e) (hn : e.need) : Ok P K ρ G S.heap w e (Instr.sliceAt T u lo' hi' none) := by
  unfold sliceS at h
  split at h
  · rename_i t xs
    split at h
    · rename_i p l q hh e1 e2
      replace h := bif_some h; obtain ⟨hsz, h⟩ := h
      have hsz := Nat.eq_of_beq_eq_true hsz
      simp only [Eff.if] at h; cases h
      obtain ⟨h0, h1, h2⟩ := hn
      cases r with
      | deep _ _ blk o c g hl hG hc hr =>
        have hb := bounds_ok (P := P) (cap := c) true hlo hhi e1 e2 h0 h1 h2 hl
        have hrun := run_slice_as (P := P) hu hs (a := some ⟨blk, o, none⟩) hb
        refine Ok.pure m ⟨rfl, rfl⟩ ⟨_, hrun, ?_⟩
        simp only
        rw [cut_eq e1 e2 h0 h1]
        have hif : (if c = l.toNat then some (⟨blk, o, none⟩ : Addr) else Option.map (fun (x : Addr) => x.add (l.toNat * sz)) (some ⟨blk, o, none⟩)) = some (if c = l.toNat then ⟨blk, o, none⟩ else ⟨blk, o + l.toNat * t.size, none⟩) := by
          split
          · rfl
          · rw [hsz]; simp [add_at]
        rw [hif]
        refine Rep.part (blk := blk) (base := o) (by omega) (by omega) (fun hne => ?_) hG (fun q hq j d hd => ⟨g q j, hc q hq j d hd, hr q hq j d hd⟩)
        rw [if_neg (by omega)]
      | deepE _ a c ha =>
        simp only [List.length_nil] at h2
        have hb := bounds_ok (P := P) (n := 0) (cap := c) true hlo hhi e1 e2 h0 h1 h2 (Nat.zero_le _)
        have hrun := run_slice_as (P := P) hu hs (a := a) hb
        have hl0 : l = 0 := by omega
        have hh0 : hh = 0 := by omega
        subst hl0; subst hh0
        refine Ok.pure m ⟨rfl, rfl⟩ ⟨_, hrun, ?_⟩
        simp only
        rw [cut_eq e1 e2 h0 h1]
        simp only [List.drop_nil, List.take_nil]
        exact .deepE t _ _ (fun ea => by
          cases a with
          | none => simp [ha rfl]
          | some a => split at ea <;> simp at ea)
    · cases h
  · split at h
    · rename_i p l q hh e1 e2
      simp only [Eff.if] at h; cases h
      obtain ⟨h0, h1, h2⟩ := hn
      cases r
      have hb := bounds_ok (P := P) (n := 0) (cap := 0) true hlo hhi e1 e2 h0 h1 h2 (Nat.zero_le _)
      have hrun := run_slice_as (P := P) hu hs (a := none) hb
      have hl0 : l = 0 := by omega
      have hh0 : hh = 0 := by omega
      subst hl0; subst hh0
      refine Ok.pure m ⟨rfl, rfl⟩ ⟨_, hrun, ?_⟩
      simp only [Int.toNat_zero, if_pos]
      exact .v _
    · cases h
  · rename_i hd
    split at h
    · rename_i e' t xs hr
      split at h
      · rename_i p l q hh e1 e2
        replace h := bif_some h; obtain ⟨hsz, h⟩ := h
        have hsz := Nat.eq_of_beq_eq_true hsz
        cases h
        obtain ⟨h0, h1, h2⟩ := hn
        obtain ⟨hlen, hrow⟩ := (m.row hd _ hr).2.1
        cases r with
        | ow _ hk hnn =>
          rcases hrow with ⟨hnil, _⟩ | ⟨_, htot, hcap, _⟩
          · rw [hnn] at hnil; cases hnil
          rw [hlen] at e2 h2 hcap
          have hb := bounds_ok (P := P) (cap := (ρ hd).cap) true hlo hhi e1 e2 h0 h1 h2 hcap
          have hrun := run_slice_as (P := P) hu hs (a := some ⟨(ρ hd).b, 0, none⟩) hb
          refine Ok.pure m ⟨rfl, rfl⟩ ⟨_, hrun, ?_⟩
          have hif : (if (ρ hd).cap = l.toNat then some (⟨(ρ hd).b, 0, none⟩ : Addr) else Option.map (fun (x : Addr) => x.add (l.toNat * sz)) (some ⟨(ρ hd).b, 0, none⟩)) = some (if (ρ hd).cap = l.toNat then ⟨(ρ hd).b, 0, none⟩ else ⟨(ρ hd).b, 0 + l.toNat * t.size, none⟩) := by
            split
            · rfl
            · rw [hsz]; simp [add_at]
          rw [hif]
          exact .own hd 0 t.size l.toNat (hh.toNat - l.toNat) ((ρ hd).cap - l.toNat) none _ hk hnn (by omega) (fun hne => by
            rcases hne with hne | hne
            · rw [if_neg (by omega)]
            · rw [hne]; simp) (fun n hn => by cases hn)
            (fun _ => by rw [htot, Nat.zero_add]; congr 1; omega)
        | owNil _ hk hnn =>
          rcases hrow with ⟨_, rfl⟩ | ⟨hnil, _⟩
          · simp only [List.length_nil] at h2
            have hb := bounds_ok (P := P) (n := 0) (cap := 0) true hlo hhi e1 e2 h0 h1 h2 (Nat.zero_le _)
            have hrun := run_slice_as (P := P) hu hs (a := none) hb
            have hl0 : l = 0 := by omega
            have hh0 : hh = 0 := by omega
            subst hl0; subst hh0
            refine Ok.pure m ⟨rfl, rfl⟩ ⟨_, hrun, ?_⟩
            simp only [Int.toNat_zero, if_pos]
            exact .ownNil hd 0 t.size none hk hnn
          · rw [hnn] at hnil; cases hnil
      · cases h
    · cases h
  · rename_i hd base s off len lim
    split at h
    · rename_i p l q hh e1 e2
      replace h := bif_some h; obtain ⟨hsz, h⟩ := h
      have hsz := Nat.eq_of_beq_eq_true hsz
      simp only [Eff.if] at h; cases h
      obtain ⟨h0, h1, h2⟩ := hn
      cases r with
      | own _ _ _ _ _ c _ a hk hnn hl ha hlim htot =>
        have hb := bounds_ok (P := P) (cap := c) true hlo hhi e1 e2 h0 h1 h2 hl
        have hrun := run_slice_as (P := P) hu hs (a := some a) hb
        refine Ok.pure m ⟨rfl, rfl⟩ ⟨_, hrun, ?_⟩
        have hif : (if c = l.toNat then some a else Option.map (fun (x : Addr) => x.add (l.toNat * sz)) (some a)) = some (if c = l.toNat then a else a.add (l.toNat * sz)) := by
          split <;> rfl
        rw [hif]
        refine .own hd base s (off + l.toNat) (hh.toNat - l.toNat) (c - l.toNat) lim _ hk hnn (by omega) (fun hne => ?_) (fun n hn => by have := hlim n hn; omega)
            (fun hn => by rw [← htot hn]; congr 2; omega)
        rcases hne with hne | hne
        · rw [if_neg (by omega), ha (.inl (by omega)), add_at, hsz, Nat.add_mul, Nat.add_assoc]
        · have e1 : off = 0 := by omega
          have e2 : l.toNat = 0 := by omega
          rw [ha (.inr e1), e1, e2]
          split <;> simp [add_at]
      | ownNil _ _ _ _ hk hnn =>
        have hb := bounds_ok (P := P) (n := 0) (cap := 0) true hlo hhi e1 e2 h0 h1 h2 (Nat.zero_le _)
        have hrun := run_slice_as (P := P) hu hs (a := none) hb
        have hl0 : l = 0 := by omega
        have hh0 : hh = 0 := by omega
        subst hl0; subst hh0
        refine Ok.pure m ⟨rfl, rfl⟩ ⟨_, hrun, ?_⟩
        simp only [Int.toNat_zero, if_pos]
        exact .ownNil hd base s lim hk hnn
    · cases h
  · cases h
end
end Go.Proofs.Ytbkhhfekdpkhbaa.Ab
