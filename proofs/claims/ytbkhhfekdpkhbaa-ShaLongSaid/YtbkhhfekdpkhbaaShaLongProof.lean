/- ShaLong: bytes of each length about the ends of blocks are summed as the document says, whatever the input; no condition. -/
import Derived.Test.YtbkhhfekdpkhbaaRows
import Derived.Test.YtbkhhfekdpkhbaaBaJ
import Derived.Test.YtbkhhfekdpkhbaaBaK
import Derived.Test.YtbkhhfekdpkhbaaBaL
namespace Go.Proofs.Ytbkhhfekdpkhbaa.shaLong
open Go
set_option linter.unusedSimpArgs false
set_option linter.unusedVariables false
set_option maxRecDepth 100000
open Go.ChangeShapes Go.WideShapes Go.ChangeAt Go.RowKit
open Go.Proofs.Ytbkhhfekdpkhbaa.Ab

theorem own : ownKnob Try.prog.godebug = none := by kernel_rfl

theorem rep_byte {K : Nat → Bool} {ρ : Nat → Hd} {G : Nat → Prop} {w : World} {a : Int} (h : (Lit.int .u8 a).wf = true) : ∃ b : UInt8, Rep K ρ G w (.b b) (.int .u8 a) := by
  have hr : 0 ≤ a ∧ a < 256 := by
    have h' : (decide (IntKind.u8.min ≤ a) && decide (a ≤ IntKind.u8.max)) = true := h
    simp only [Bool.and_eq_true, decide_eq_true_eq] at h'
    have e1 : IntKind.u8.min = 0 := by decide
    have e2 : IntKind.u8.max = 255 := by decide
    omega
  have : ((UInt8.ofNat a.toNat).toNat : Int) = a := by
    rw [UInt8.toNat_ofNat']
    omega
  refine ⟨UInt8.ofNat a.toNat, ?_⟩
  have r := Rep.b (K := K) (ρ := ρ) (G := G) (w := w) (UInt8.ofNat a.toNat)
  rwa [this] at r

theorem walk (a0 : Int) (a1 : Int) (a2 : Int) (a3 : Int) (w1 : (Lit.int .u8 a1).wf = true) (w3 : (Lit.int .u8 a3).wf = true) (w : World) :
    Calls Try.prog 3 #[.int .i64 a0, .int .u8 a1, .int .i64 a2, .int .u8 a3] w fun e w' => e = .returned (.bool true) ∧ Below w.heap.size w w' := by
  obtain ⟨b1, r1⟩ := rep_byte (K := inK 0) (ρ := noHd) (G := allG w) (w := w) w1
  obtain ⟨b3, r3⟩ := rep_byte (K := inK 0) (ρ := noHd) (G := allG w) (w := w) w3
  exact calls0 okLong (l := [.v (.int .i64 a0), .b b1, .v (.int .i64 a2), .b b3]) (args := [.int .i64 a0, .int .u8 a1, .int .i64 a2, .int .u8 a3]) rfl rfl trivial
    ⟨rfl, fun j c hj => match j, hj with
      | 0, hj => by cases hj; exact .v _
      | 1, hj => by cases hj; exact r1
      | 2, hj => by cases hj; exact .v _
      | 3, hj => by cases hj; exact r3
      | j + 4, hj => by simp at hj⟩ rfl

theorem lifted (os : Os) (started : os.Started) (H : Type) (enc : TypeId × Value → H) :
    ReturnsInHanded {} Try.checked os 3 .any (Rows.shaLongSpec.pre6 enc Try.prog Try.f3 Rows.shaLongRow.domain false) (Rows.shaLongSpec.post enc Try.prog Try.f3 false true false false) := by
  refine returnsInHanded_of_change (C := Try.checked) own started (by kernel_rfl) Try.func3
    (ChangeSpec.witness6 (enc := enc) (C := Try.checked) false ⟨#[], #[.int .i64 0, .int .u8 0, .int .i64 0, .int .u8 0], []⟩ 8 (by kernel_rfl) (by kernel_rfl) (by kernel_rfl) (by kernel_rfl)) ?_
  intro W base args ds gs before hval0 hW hcnd _
  have hval : ∀ (j : Nat) t v, Try.f3.params[j]? = some t → args[j]? = some v → Value.okWide Try.prog W .any base t v := hval0
  have hW' := hW
  obtain ⟨p, q, hA0, hV, rfl, hfz, hnd⟩ := hW
  have hA : DataW.TrodAll enc Try.prog W 0 (fun _ => true) true Try.f3.params.toList args.toList ds p := hA0
  rw [Try.params3] at hA hval
  obtain ⟨v0, vs0, d0, ds0, p0, q0, hargs, rfl, rfl, h0, r0⟩ := trodAll_cons hA
  obtain ⟨v1, vs1, d1, ds1, p1, q1, rfl, rfl, rfl, h1, r1⟩ := trodAll_cons r0
  obtain ⟨v2, vs2, d2, ds2, p2, q2, rfl, rfl, rfl, h2, r2⟩ := trodAll_cons r1
  obtain ⟨v3, vs3, d3, ds3, p3, q3, rfl, rfl, rfl, h3, r3⟩ := trodAll_cons r2
  obtain ⟨rfl, rfl, rfl⟩ := trodAll_nil r3
  obtain rfl : args = #[v0, v1, v2, v3] := by cases args; simp_all
  obtain ⟨rfl, rfl⟩ := trodVars_none hV
  obtain ⟨a0, rfl, rfl, rfl, w0⟩ := open_int Try.underlying3 (hval 0 3 v0 rfl rfl) h0
  obtain ⟨a1, rfl, rfl, rfl, w1⟩ := open_int Try.underlying5 (hval 1 5 v1 rfl rfl) h1
  obtain ⟨a2, rfl, rfl, rfl, w2⟩ := open_int Try.underlying3 (hval 2 3 v2 rfl rfl) h2
  obtain ⟨a3, rfl, rfl, rfl, w3⟩ := open_int Try.underlying5 (hval 3 5 v3 rfl rfl) h3
  clear hA0 hval0
  simp only [List.append_nil] at hW'
  refine (walk a0 a1 a2 a3 w1 w3 W).mono fun e W' ⟨he, hg⟩ => ?_
  subst he
  exact ⟨_, rfl, post_below (pa := []) (pv := []) hW' (fun _ _ _ => (trodAll_cons_mk (shut_bool Try.underlying4 _) trodAll_mk0)) (fun sp _ => (trodAll_cons_mk (shut_int Try.underlying3 w0) (trodAll_cons_mk (shut_int Try.underlying5 w1) (trodAll_cons_mk (shut_int Try.underlying3 w2) (trodAll_cons_mk (shut_int Try.underlying5 w3) trodAll_mk0))))) (fun _ _ => rfl) rfl
    hg (ok_one (by kernel_rfl) rfl (okWide_bool_mk Try.underlying4 _))⟩

theorem closed : joinedFacts Try.pinned.checked.prog 3 Try.f3 Rows.shaLongSpec Rows.shaLongRow = true := by
  have hm : (Try.pinned.checked.prog.make == some Rows.shaLongRow.make) = true := p_make
  unfold joinedFacts
  simp only [hm, p_enter, p_lifts, p_laid, p_maps, p_heard, p_plain, Bool.and_true]
  refine of_decide_eq_true ?_
  kernel_rfl

theorem over : Rows.shaLongRow.holds Try.pinned (OpenSpec.ofChange Rows.shaLongSpec) :=
  OpenClaim.holds_of_wide 3 Try.f3 rfl rfl rfl rfl rfl rfl rfl ⟨rfl, rfl, rfl, rfl, rfl⟩ rfl rfl rfl rfl rfl (by kernel_rfl) Try.func3 closed
    (of_decide_eq_true (by kernel_rfl)) (by unfold Func.isWrapper; first | (rw [if_pos (by decide +kernel)]; kernel_rfl) | (rw [if_neg (by decide +kernel)]; exact ⟨rfl, rfl⟩))
    (fun os started H enc _ => lifted os started H enc)

theorem proved : Rows.ShaLongSaid := over
#print axioms proved
end Go.Proofs.Ytbkhhfekdpkhbaa.shaLong
