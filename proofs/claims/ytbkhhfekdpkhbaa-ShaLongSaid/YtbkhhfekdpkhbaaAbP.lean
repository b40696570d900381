/- What append and copy do; no condition. -/
import Derived.Test.YtbkhhfekdpkhbaaAbO
namespace Go.Proofs.Ytbkhhfekdpkhbaa.Ab
open Go

section
variable {P : Program} {ti : TypeId → TyI} {K : Nat → Bool} {ρ : Nat → Hd} {G : Nat → Prop} {heap : Nat → Option Row} {w : World}

theorem run_append_room' {T T' ty el : TypeId} (hT : P.underlying T = some (.slice el)) (hT' : (∃ e', P.underlying T' = some (.slice e')) ∨ P.underlying T' = some .string) {sz : Nat} (hsz : ∀ w, (sizeOf el).run P w = .ok sz w)
    {b n cap m : Nat} {v : Value} {us : List Value} (hlen : ∀ w', (Builtin.lenOf v).run P w' = .ok m w') (hc : (Builtin.firstCells sz m v).run P w = .ok us.toArray w) (hroom : n + m ≤ cap) {cs : Array Value} {e : TypeId} {fz : Nat × Nat}
    (hb : w.heap[b]? = some (.cells cs e fz)) (hcl : Clear cs.size fz) (hin : n * sz + us.length ≤ cs.size) (h1 : ∀ u ∈ us, u.oneCell' = true) :
    (Builtin.append_ #[T, T'] ty #[.slice (some ⟨b, 0, none⟩) n cap, v]).run P w = .ok (.slice (some ⟨b, 0, none⟩) (n + m) cap) (w.setRow b (cs.toList.take (n * sz) ++ us ++ cs.toList.drop (n * sz + us.length)).toArray) := by
  have hst := run_storeCells_fz P b (n * sz) e fz us 0 cs w hb hcl (by simpa using hin) h1
  simp only [Nat.add_zero] at hst
  rcases hT' with ⟨_, hd'⟩ | hd' <;> simp [Builtin.append_, run_underlying hT, run_underlying hd', hsz, hlen, hroom, hc, Addr.add_lit, hst]

theorem run_append_none' {T T' ty el : TypeId} (hT : P.underlying T = some (.slice el)) (hT' : (∃ e', P.underlying T' = some (.slice e')) ∨ P.underlying T' = some .string) {sz : Nat} (hsz : ∀ w, (sizeOf el).run P w = .ok sz w)
    {n cap : Nat} {v : Value} {us : Array Value} (hlen : ∀ w', (Builtin.lenOf v).run P w' = .ok 0 w') (hc : (Builtin.firstCells sz 0 v).run P w = .ok us w) (hroom : n ≤ cap) :
    (Builtin.append_ #[T, T'] ty #[.slice none n cap, v]).run P w = .ok (.slice none n cap) w := by
  rcases hT' with ⟨_, hd'⟩ | hd' <;> simp [Builtin.append_, run_underlying hT, run_underlying hd', hsz, hlen, hroom, hc]

theorem run_append_grow' {T T' ty el : TypeId} (hT : P.underlying T = some (.slice el)) (hT' : (∃ e', P.underlying T' = some (.slice e')) ∨ P.underlying T' = some .string) {i : TypeInfo} {z : Value}
    (hi : P.info? el = some i) (hz : i.zero = some z) {base : Option Addr} {n cap m : Nat} {v : Value} {olds us : List Value} (hlen : ∀ w', (Builtin.lenOf v).run P w' = .ok m w')
    (hold : (Builtin.firstCells i.size n (.slice base n cap)).run P w.drew = .ok olds.toArray w.drew) (hc : (Builtin.firstCells i.size m v).run P w.drew = .ok us.toArray w.drew) (hg : cap < n + m) (h63 : n + m ≤ 9223372036854775807)
    (hfit : Builtin.nextslicecap (n + m) cap * i.bytes ≤ 281474976710656) :
    (Builtin.append_ #[T, T'] ty #[.slice base n cap, v]).run P w = .ok (.slice (some ⟨w.heap.size, 0, none⟩) (n + m) (grownCap w (n + m) cap el))
        (w.drew.alloc (.cells ((olds ++ us).toArray ++ Builtin.zeroCells z.cells (grownCap w (n + m) cap el - (n + m))) el)) := by
  have hn : ¬ (n + m ≤ cap) := by omega
  have h63' : ¬ (9223372036854775807 < ((n : Int) + (m : Int))) := by omega
  have h48' : ¬ (281474976710656 < Builtin.nextslicecap (n + m) cap * i.bytes) := by omega
  rcases hT' with ⟨_, hd'⟩ | hd' <;>
    (simp [Builtin.append_, run_underlying hT, run_underlying hd', sizeOf, typeInfo, zeroValue, hi, hz, hlen, hn, h63', h48', Question.forced, hc, hold, newRow, grownCap]
     congr 2
     apply Array.ext'
     simp [List.append_assoc])

theorem run_append_zero0 {T T' ty el : TypeId} {k' : IntKind} (hT : P.underlying T = some (.slice el)) (hT' : P.underlying T' = some (.int k')) {i : TypeInfo}
    (hi : P.info? el = some i) : (Builtin.append_ #[T, T'] ty #[.slice none 0 0, .int .i64 0]).run P w = .ok (.slice none 0 0) w := by
  have h0 : IntKind.i64.wrap 0 = 0 := by decide
  simp [Builtin.append_, run_underlying hT, run_underlying hT', sizeOf, typeInfo, hi, asInt, asIntOf, h0]

theorem run_append_zeros {T T' ty el : TypeId} {k' : IntKind} (hT : P.underlying T = some (.slice el)) (hT' : P.underlying T' = some (.int k')) {i : TypeInfo} {z : Value}
    (hi : P.info? el = some i) (hz : i.zero = some z) {n : Nat} (h0 : 0 < n) (hs : 0 < i.size) (h63 : n ≤ 9223372036854775807) (hb : n * i.bytes ≤ 140737488355328) :
    (Builtin.append_ #[T, T'] ty #[.slice none 0 0, .int .i64 (n : Int)]).run P w = .ok (.slice (some ⟨w.heap.size, 0, none⟩) n (grownCap w n 0 el))
        (w.drew.alloc (.cells (Builtin.zeroCells z.cells n ++ Builtin.zeroCells z.cells (grownCap w n 0 el - n)) el)) := by
  have hw : IntKind.i64.wrap (n : Int) = n := by
    simp only [IntKind.wrap, IntKind.bits, IntKind.signed]
    simp; omega
  have hn1 : ¬ ((n : Int) < 0) := by omega
  have hb0 : ((n : Int) * (i.bytes : Int)) = ((n * i.bytes : Nat) : Int) := by rw [Int.natCast_mul]
  have hb1 : ¬ (281474976710656 < (n : Int) * (i.bytes : Int)) := by rw [hb0]; omega
  have hn2 : ¬ n = 0 := by omega
  have h63' : ¬ (9223372036854775807 < (n : Int)) := by omega
  have hcap : Builtin.nextslicecap n 0 = n := by unfold Builtin.nextslicecap; rw [if_pos (by omega)]
  have h48 : ¬ (281474976710656 < n * i.bytes) := by omega
  simp [Builtin.append_, run_underlying hT, run_underlying hT', sizeOf, typeInfo, zeroValue, hi, hz, asInt, asIntOf, hw, hn1, hb1, hn2, h63', hcap, h48, Question.forced, newRow, grownCap, Builtin.firstCells]
  intro h
  exact absurd h (Nat.ne_of_gt (Nat.mul_pos h0 hs))

theorem rowT_ok (hti : TiOK P ti) {T : TypeId} (h : rowT ti T = true) : (∃ e, P.underlying T = some (.slice e)) ∨ P.underlying T = some .string := by
  unfold rowT at h
  simp only [Bool.and_eq_true] at h
  obtain ⟨h1, h2⟩ := h
  have hu := (hti T h1).und
  split at h2
  · rename_i hk; rw [hk] at hu; exact .inl ⟨_, hu.1⟩
  · rename_i hk; rw [hk] at hu; exact .inr hu.1
  · cases h2

theorem append_ok (hti : TiOK P ti) (S : St) (m : HRel K ρ G S.heap w) {d : Nat} (hK : K d = false) {T T' ty : TypeId} (hk : known ti T = true) (hT' : rowT ti T' = true) {x y : V} {u v : Value} (rx : Rep K ρ G w x u) (ry : Rep K ρ G w y v)
    {e : Eff} (h : appendV ti S d T x y = some e) (hn : e.need) : Ok P K ρ G S.heap w e (Builtin.append_ #[T, T'] ty #[u, v]) := by
  have t1 := rowT_ok hti hT'
  have hu := (hti T hk).und
  unfold appendV at h
  split at h
  · rename_i el hkk
    rw [hkk] at hu
    split at h
    · rename_i t ht
      replace h := bif_some h; obtain ⟨hc, h⟩ := h
      simp only [Bool.and_eq_true] at hc
      have hsz := Nat.eq_of_beq_eq_true hc.1
      have hE := hti el hc.2
      split at h
      · rename_i p xs a b q ys a' b' hx hy
        replace h := bif_some h; obtain ⟨hdis, h⟩ := h
        cases h
        obtain ⟨hp, hq, hbytes, h63⟩ := hn
        obtain ⟨ao, cap, rfl, sx, hcap, hao⟩ := headOf_ok S m rx hx hp
        have sy := listOf_ok (P := P) m ry hy hq
        have upG : ∀ {f : List Nat}, (∀ z ∈ f, z ∈ b ++ b') → ∀ b0, plus G ρ S.heap f b0 → plus G ρ S.heap (b ++ b') b0 := by
          intro f hf b0 hb0
          rcases hb0 with hb0 | ⟨z, hz, hs, hn, hb1⟩
          · exact .inl hb0
          · exact .inr ⟨z, hf z hz, hs, hn, hb1⟩
        obtain ⟨xus, x1, x2, x3⟩ := sx.cells
        obtain ⟨yus, y1, y2, y3⟩ := sy.cells
        have one : ∀ {zs : List t.T} {us : List Value} {f : List Nat}, us.length = zs.length * t.size → (∀ (q : Nat) (hq : q < zs.length) (j : Nat) (c : V), (enc t zs[q])[j]? = some c → ∃ u, us[q * t.size + j]? = some u ∧ Rep K ρ (plus G ρ S.heap f) w c u) → ∀ u ∈ us, u.oneCell' = true := by
          intro zs us f hl hz u hu
          obtain ⟨k, hk1, hk2⟩ := List.getElem_of_mem hu
          have hpos := dt_pos t
          have hq : k / t.size < zs.length := Nat.div_lt_of_lt_mul (by rw [Nat.mul_comm]; omega)
          have hr : k % t.size < t.size := Nat.mod_lt _ hpos
          have hc0 : (enc t zs[k / t.size])[k % t.size]? = some ((enc t zs[k / t.size])[k % t.size]'(by rw [enc_length]; exact hr)) := by rw [List.getElem?_eq_getElem]
          obtain ⟨u', h1, h2⟩ := hz _ hq _ _ hc0
          rw [Nat.mul_comm, Nat.div_add_mod, List.getElem?_eq_getElem hk1] at h1
          cases h1
          rw [← hk2]
          exact one_of_enc hc0 h2
        have yone := one y1 y2
        -- the elements of both in cells
        have both : ∀ {w1 : World} {hd : Hd} {cs : Array Value}, (∀ b0, plus G ρ S.heap (b ++ b') b0 → w1.heap[b0]? = w.heap[b0]?) → (∀ (j : Nat) (u : Value), xus[j]? = some u → cs[j]? = some u) → (∀ (j : Nat) (u : Value), yus[j]? = some u → cs[xs.length * t.size + j]? = some u) →
            Elems (upd K d true) (upd ρ d hd) (plus G ρ S.heap (b ++ b')) w1 t (xs ++ ys) cs := by
          intro w1 hd cs hw hxc hyc q hq j c hcc
          by_cases hqx : q < xs.length
          · rw [List.getElem_append_left hqx] at hcc
            obtain ⟨u, h1, h2⟩ := x2 q hqx j c hcc
            exact ⟨u, hxc _ _ h1, h2.mono (mono_new hK) (upG fun z hz => List.mem_append_left _ hz) (fun b0 hb0 => hw b0 (upG (fun z hz => List.mem_append_left _ hz) b0 hb0))⟩
          · have hq' : q - xs.length < ys.length := by rw [List.length_append] at hq; omega
            rw [List.getElem_append_right (by omega)] at hcc
            obtain ⟨u, h1, h2⟩ := y2 _ hq' j c hcc
            refine ⟨u, ?_, h2.mono (mono_new hK) (upG fun z hz => List.mem_append_right _ hz) (fun b0 hb0 => hw b0 (upG (fun z hz => List.mem_append_right _ hz) b0 hb0))⟩
            have := hyc _ _ h1
            rw [← this]
            congr 1
            rw [← Nat.add_assoc, ← Nat.add_mul]
            congr 2
            omega
        have hsub : ∀ z ∈ b ++ b', z ∈ a ++ (b ++ b') := fun z hz => List.mem_append_right _ hz
        have fin : ∀ {w1 : World} {hd : Hd} {vl : Value}, (Builtin.append_ #[T, T'] ty #[.slice ao xs.length cap, v]).run P w = .ok vl w1 →
            HRel (upd K d true) (upd ρ d hd) (plus G ρ S.heap (b ++ b')) (upd (strike S.heap (a ++ (b ++ b'))) d (some (.buf el t (xs ++ ys)))) w1 ∧
              Evo K ρ G S.heap w (upd K d true) (upd ρ d hd) (plus G ρ S.heap (b ++ b')) (upd (strike S.heap (a ++ (b ++ b'))) d (some (.buf el t (xs ++ ys)))) w1 →
            Rep (upd K d true) (upd ρ d hd) (plus G ρ S.heap (b ++ b')) w1 (.ow d) vl →
            Ok P K ρ G S.heap w { need := p ∧ q ∧ (xs.length + ys.length) * (ti el).bytes ≤ 140737488355328 ∧ xs.length + ys.length ≤ 9223372036854775807, val := .ow d, put := (a ++ (b ++ b')).map fun h => (h, none), new := [(d, .buf el t (xs ++ ys))], rd := a' }
              (Builtin.append_ #[T, T'] ty #[.slice ao xs.length cap, v]) := by
          intro w1 hd vl hrun hre hv
          refine ⟨vl, w1, upd ρ d hd, plus G ρ S.heap (b ++ b'), hrun, ?_, ?_, ?_⟩
          · simp only [mark, news, puts_strike]; exact hre.1
          · simp only [mark]; exact hv
          · simp only [mark, news, puts_strike]; exact hre.2
        have ylen : yus.take (ys.length * t.size) = yus := List.take_of_length_le (by omega)
        have xlen : xus.take (xs.length * t.size) = xus := List.take_of_length_le (by omega)
        by_cases hroom : xs.length + ys.length ≤ cap
        · -- there is room
          have hcy := y3 ys.length (Nat.le_refl _) w (fun _ => rfl)
          rw [ylen] at hcy
          rcases hao with ⟨rfl, rfl⟩ | ⟨qh, cs, fz, rfl, hqs, hqn, rfl, hb, hcl, hcs⟩
          · -- nothing onto nil
            have hx0 : xs = [] := List.eq_nil_of_length_eq_zero (by omega)
            have hy0 : ys = [] := List.eq_nil_of_length_eq_zero (by omega)
            subst hx0; subst hy0
            have hrun := run_append_none' (ty := ty) (n := 0) (cap := 0) hu.1 t1 hE.sizeOf sy.len (hsz ▸ hcy) (Nat.le_refl _)
            refine fin (hd := ⟨0, 0, 0, 0, true⟩) hrun (HRel.take m _ _ hsub hK ⟨0, 0, 0, 0, true⟩ rfl rfl rfl (Nat.le_refl _) (fun h => by cases h) (fun _ _ _ => rfl) (fun _ => ?_)) ?_
            · simp only [RowRep, upd_same]
              exact ⟨rfl, .inl ⟨trivial, rfl⟩⟩
            · exact .owNil d (by rw [upd_same]) (by rw [upd_same])
          · have hin : xs.length * t.size + yus.length ≤ cs.size := by
              rw [y1, hcs, ← Nat.add_mul]; exact Nat.mul_le_mul_right _ hroom
            have hrun := run_append_room' (ty := ty) (n := xs.length) (cap := cap) (e := el) hu.1 t1 hE.sizeOf sy.len (hsz ▸ hcy) hroom hb hcl (by rw [← hsz]; exact hin) yone
            rw [← hsz] at hrun
            have hcx := sx.cells
            have hlt : (ρ qh).b < w.heap.size := (Array.getElem?_eq_some_iff.1 hb).1
            have hqf : qh ∉ b ++ b' := by
              intro hq
              have := List.all_eq_true.1 hdis qh hq
              simp at this
            -- the elements that were there
            have hxcs : ∀ (j : Nat) (u : Value), xus[j]? = some u → cs[j]? = some u := by
              have hf1 := x3 xs.length (Nat.le_refl _) w (fun _ => rfl)
              rw [xlen] at hf1
              have hle : xs.length * t.size ≤ cs.size := by rw [hcs]; exact Nat.mul_le_mul_right _ hcap
              have hf2 := run_firstCells_some (P := P) w t.size xs.length ⟨(ρ qh).b, 0, none⟩ xs.length cap (cs.toList.take (xs.length * t.size)) (by simp; omega) (fun j u hu => by
                rw [add_at, cell_heap hb]
                rw [List.getElem?_take] at hu
                split at hu
                · simpa using hu
                · cases hu)
              rw [hf1] at hf2
              simp only [Result.ok.injEq, and_true] at hf2
              have hf3 : xus = cs.toList.take (xs.length * t.size) := by simpa using congrArg Array.toList hf2
              intro j u hj
              rw [hf3, List.getElem?_take] at hj
              split at hj
              · simpa using hj
              · cases hj
            have hnew : ∀ j : Nat, ((cs.toList.take (xs.length * t.size) ++ yus ++ cs.toList.drop (xs.length * t.size + yus.length)).toArray)[j]? = if j < xs.length * t.size then cs[j]? else if j < xs.length * t.size + yus.length then yus[j - xs.length * t.size]? else cs[j]? := by
              intro j
              have := seg_get cs.toList yus (xs.length * t.size) j (by simpa using hin)
              rw [List.getElem?_toArray, this, Array.getElem?_toList]
            refine fin (hd := ⟨(ρ qh).b, cap * t.size, xs.length + ys.length, cap, false⟩) hrun (HRel.take m _ _ hsub hK ⟨(ρ qh).b, cap * t.size, xs.length + ys.length, cap, false⟩ rfl rfl rfl (by simp) (fun _ => ⟨by simpa using hlt, .inr ⟨qh, by simp, hqf, hqs, hqn, rfl⟩⟩)
              (fun b0 _ hb1 => setRow_other w _ b0 _ (hb1 rfl)) (fun hw => ?_)) ?_
            · simp only [RowRep, upd_same]
              refine ⟨List.length_append, .inr ⟨trivial, trivial, by rw [List.length_append]; exact hroom, _, fz, setRow_heap w _ cs _ el fz hb, ?_, ?_, ?_⟩⟩
              · have : (cs.toList.take (xs.length * t.size) ++ yus ++ cs.toList.drop (xs.length * t.size + yus.length)).toArray.size = cs.size := by simp; omega
                rw [this]; exact hcl
              · rw [← hcs]; simp; omega
              · refine both hw (fun j u hj => ?_) (fun j u hj => ?_)
                · have hj' : j < xs.length * t.size := by have := (List.getElem?_eq_some_iff.1 hj).1; omega
                  rw [hnew, if_pos hj']; exact hxcs j u hj
                · have hj' : j < yus.length := (List.getElem?_eq_some_iff.1 hj).1
                  rw [hnew, if_neg (by omega), if_pos (by omega), Nat.add_sub_cancel_left]; exact hj
            · have := Rep.ow (K := upd K d true) (ρ := upd ρ d ⟨(ρ qh).b, cap * t.size, xs.length + ys.length, cap, false⟩) (G := plus G ρ S.heap (b ++ b')) (w := w.setRow (ρ qh).b (cs.toList.take (xs.length * t.size) ++ yus ++ cs.toList.drop (xs.length * t.size + yus.length)).toArray) d (by rw [upd_same]) (by rw [upd_same])
              rw [upd_same] at this
              exact this
        · -- there is none
          have hg : cap < xs.length + ys.length := by omega
          obtain ⟨i, z, i1, i2, i3, i4, i5, i6, i7⟩ := hE.info
          have hdrew : ∀ ad, w.drew.cell? ad = w.cell? ad := fun _ => rfl
          have hcy := y3 ys.length (Nat.le_refl _) w.drew hdrew
          have hcx := x3 xs.length (Nat.le_refl _) w.drew hdrew
          rw [ylen] at hcy
          rw [xlen] at hcx
          have hi2 : i.size = t.size := by rw [i2, hsz]
          have hrun := run_append_grow' (ty := ty) (base := ao) (n := xs.length) (cap := cap) hu.1 t1 i1 i4 sy.len (hi2 ▸ hcx) (hi2 ▸ hcy) hg h63 (growslice_fits hg (by rw [i3]; exact hbytes))
          have hge := grownCap_ge w (xs.length + ys.length) cap el
          have hzs : z.cells.size = t.size := by rw [i6, ← hsz]
          have hsize : (((xus ++ yus).toArray ++ Builtin.zeroCells z.cells (grownCap w (xs.length + ys.length) cap el - (xs.length + ys.length)))).size = grownCap w (xs.length + ys.length) cap el * t.size := by
            have : (Builtin.zeroCells z.cells (grownCap w (xs.length + ys.length) cap el - (xs.length + ys.length))).size = (grownCap w (xs.length + ys.length) cap el - (xs.length + ys.length)) * t.size := by
              unfold Builtin.zeroCells; simp [hzs]
            rw [Array.size_append, this, List.size_toArray, List.length_append, x1, y1, ← Nat.add_mul, ← Nat.add_mul]
            congr 1; omega
          refine fin (hd := ⟨w.heap.size, grownCap w (xs.length + ys.length) cap el * t.size, xs.length + ys.length, grownCap w (xs.length + ys.length) cap el, false⟩) hrun
            (HRel.take m _ _ hsub hK ⟨w.heap.size, grownCap w (xs.length + ys.length) cap el * t.size, xs.length + ys.length, grownCap w (xs.length + ys.length) cap el, false⟩ rfl rfl rfl (by simp) (fun _ => ⟨by simp, .inl (Nat.le_refl _)⟩)
              (fun b0 hb0 _ => RowKit.Below.heap_alloc w.drew _ b0 (by simpa using hb0)) (fun hw => ?_)) ?_
          · simp only [RowRep, upd_same]
            refine ⟨List.length_append, .inr ⟨trivial, trivial, by rw [List.length_append]; exact hge, _, (0, 0), heap_alloc_at w.drew _, clear0 _, hsize, both hw (fun j u hj => ?_) (fun j u hj => ?_)⟩⟩
            · have hj' : j < xus.length := (List.getElem?_eq_some_iff.1 hj).1
              rw [Array.getElem?_append_left (by simp; omega), List.getElem?_toArray, List.getElem?_append_left hj', hj]
            · have hj' : j < yus.length := (List.getElem?_eq_some_iff.1 hj).1
              rw [Array.getElem?_append_left (by simp; omega), List.getElem?_toArray, List.getElem?_append_right (by omega), x1, Nat.add_sub_cancel_left, hj]
          · have := Rep.ow (K := upd K d true) (ρ := upd ρ d ⟨w.heap.size, grownCap w (xs.length + ys.length) cap el * t.size, xs.length + ys.length, grownCap w (xs.length + ys.length) cap el, false⟩) (G := plus G ρ S.heap (b ++ b'))
              (w := w.drew.alloc (.cells ((xus ++ yus).toArray ++ Builtin.zeroCells z.cells (grownCap w (xs.length + ys.length) cap el - (xs.length + ys.length))) el)) d (by rw [upd_same]) (by rw [upd_same])
            rw [upd_same] at this
            exact this
      · cases h
    · cases h
  · cases h

theorem intT_ok (hti : TiOK P ti) {T : TypeId} (h : intT ti T = true) : ∃ k, P.underlying T = some (.int k) := by
  unfold intT at h
  simp only [Bool.and_eq_true] at h
  obtain ⟨h1, h2⟩ := h
  have hu := (hti T h1).und
  split at h2
  · rename_i k hk; rw [hk] at hu; exact ⟨k, hu.1⟩
  · cases h2

theorem zeroCells_size (z : Array Value) (n : Nat) : (Builtin.zeroCells z n).size = n * z.size := by
  unfold Builtin.zeroCells; simp
theorem zeroCells_get (z : Array Value) (n q j : Nat) (hq : q < n) (hj : j < z.size) : (Builtin.zeroCells z n)[q * z.size + j]? = z[j]? := by
  unfold Builtin.zeroCells
  have hlt : q * z.size + j < n * z.size := by
    have : (q + 1) * z.size ≤ n * z.size := Nat.mul_le_mul_right _ (by omega)
    rw [Nat.add_mul, Nat.one_mul] at this
    omega
  rw [Array.getElem?_map]
  have : (Array.range (n * z.size))[q * z.size + j]? = some (q * z.size + j) := by simp [hlt]
  rw [this, Option.map_some, Nat.mul_comm q, Nat.mul_add_mod, Nat.mod_eq_of_lt hj, getElem!_def, Array.getElem?_eq_getElem hj]

theorem appendZ_ok (hti : TiOK P ti) (m : HRel K ρ G heap w) {d : Nat} (hK : K d = false) {T T' ty : TypeId} (hk : known ti T = true) (hT' : intT ti T' = true) {x y : V} {u v : Value} (rx : Rep K ρ G w x u) (ry : Rep K ρ G w y v)
    {e : Eff} (h : appendZ ti d T x y = some e) (hn : e.need) : Ok P K ρ G heap w e (Builtin.append_ #[T, T'] ty #[u, v]) := by
  obtain ⟨k', t1⟩ := intT_ok hti hT'
  have hu := (hti T hk).und
  unfold appendZ at h
  split at h
  · rename_i el hkk
    rw [hkk] at hu
    split at h
    · rename_i t ht
      replace h := bif_some h; obtain ⟨hc, h⟩ := h
      simp only [Bool.and_eq_true] at hc
      have hsz := Nat.eq_of_beq_eq_true hc.1
      have hE := hti el hc.2
      obtain ⟨i, z, i1, i2, i3, i4, i5, i6, i7⟩ := hE.info
      obtain ⟨d1, d2⟩ := hE.dt t ht
      have hzl : z.cells.toList = zeroOf t := map_v_inj (by rw [i5, d2])
      have hzs : z.cells.size = t.size := by rw [i6, d1]
      have hpos := dt_pos t
      split at h
      · rename_i n
        cases h
        cases rx
        cases ry
        obtain ⟨hn0, hn1, hn2⟩ := hn
        obtain ⟨m', rfl⟩ : ∃ m' : Nat, n = (m' : Int) := ⟨n.toNat, by omega⟩
        rw [Int.toNat_natCast]
        by_cases hz : m' = 0
        · subst hz
          refine Ok.made m rfl rfl hK (Ext.refl w) ⟨0, 0, 0, 0, true⟩ (fun h => by cases h) ?_ (run_append_zero0 (ty := ty) hu.1 t1 i1) (.owNil d (by rw [upd_same]) (by rw [upd_same]))
          simp only [RowRep, upd_same]
          exact ⟨rfl, .inl ⟨trivial, rfl⟩⟩
        · have hb : m' * i.bytes ≤ 140737488355328 := by
            have e : ((m' * i.bytes : Nat) : Int) = (m' : Int) * ((ti el).bytes : Int) := by rw [← i3]; exact Int.natCast_mul _ _
            omega
          have hrun := run_append_zeros (w := w) (ty := ty) hu.1 t1 i1 i4 (n := m') (by omega) (by rw [i2, ← d1]; exact hpos) (by omega) hb
          have hge := grownCap_ge w m' 0 el
          have hsize : (Builtin.zeroCells z.cells m' ++ Builtin.zeroCells z.cells (grownCap w m' 0 el - m')).size = grownCap w m' 0 el * t.size := by
            rw [Array.size_append, zeroCells_size, zeroCells_size, hzs, ← Nat.add_mul]
            congr 1; omega
          refine Ok.made m rfl rfl hK ((Ext.drew w).trans (Ext.alloc w.drew _)) ⟨w.heap.size, grownCap w m' 0 el * t.size, m', grownCap w m' 0 el, false⟩ (fun _ => ⟨Nat.le_refl _, by simp⟩) ?_ hrun ?_
          · simp only [RowRep, upd_same]
            refine ⟨by simp, .inr ⟨trivial, trivial, by simpa using hge, _, (0, 0), heap_alloc_at _ _, clear0 _, hsize, fun q hq j cc hcc => ?_⟩⟩
            have hq' : q < m' := by simpa using hq
            rw [List.getElem_replicate] at hcc
            have hj : j < t.size := by have := (List.getElem?_eq_some_iff.1 hcc).1; rwa [enc_length] at this
            obtain ⟨u, u1, u2⟩ := dflt_ok t j cc hcc
            refine ⟨u, ?_, u2 _ _ _ _⟩
            have h1 := zeroCells_get z.cells m' q j hq' (by omega)
            rw [hzs] at h1
            have hzj : z.cells[j]? = some u := by rw [← Array.getElem?_toList, hzl]; exact u1
            rw [hzj] at h1
            rw [Array.getElem?_append_left (Array.getElem?_eq_some_iff.1 h1).1]
            exact h1
          · have := Rep.ow (K := upd K d true) (ρ := upd ρ d ⟨w.heap.size, grownCap w m' 0 el * t.size, m', grownCap w m' 0 el, false⟩) (G := G) (w := w.drew.alloc (.cells (Builtin.zeroCells z.cells m' ++ Builtin.zeroCells z.cells (grownCap w m' 0 el - m')) el)) d (by rw [upd_same]) (by rw [upd_same])
            rw [upd_same] at this
            exact this
      · cases h
    · cases h
  · cases h

theorem capV_ok (hti : TiOK P ti) {T ty : TypeId} (hk : known ti T = true) {x : V} {u : Value} (r : Rep K ρ G w x u) {e : Eff} (h : capV ti T x = some e) :
    e.plain ∧ ∃ z, (Builtin.cap_ #[T] ty #[u]).run P w = .ok z w ∧ Rep K ρ G w e.val z := by
  have hu := (hti T hk).und
  unfold capV at h
  split at h
  · rename_i el hkk
    rw [hkk] at hu
    simp only [Eff.pure] at h; cases h
    cases r
    exact ⟨⟨rfl, rfl⟩, .int .i64 0, by simp [Builtin.cap_, run_underlying hu.1, goInt], .v _⟩
  · cases h
end
end Go.Proofs.Ytbkhhfekdpkhbaa.Ab
