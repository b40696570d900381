/- sha.Hex, and the chapter's example; no condition. -/
import Derived.Test.YtbkhhfekdpkhbaaBaH
namespace Go.Proofs.Ytbkhhfekdpkhbaa.Ab
open Go
set_option linter.unusedSimpArgs false
set_option linter.unusedVariables false
set_option maxRecDepth 100000

def digitsB : List UInt8 := [48, 49, 50, 51, 52, 53, 54, 55, 56, 57, 97, 98, 99, 100, 101, 102]
def hexA (h : List UInt8) : Nat → List UInt8
  | 0 => []
  | i + 1 => hexA h i ++ [digitsB.getD ((h.getD i 0).toNat / 16) 0, digitsB.getD ((h.getD i 0).toNat % 16) 0]
def zeros32 : List UInt8 := List.replicate 32 0
def sHex : Sum := { asis := [false], flat := true, f := fun k l _ => match k, l with
  | 0, [.vec .u8 32 h] => some { need := h.length = 32 ∧ h ≠ zeros32, val := .v (.string ⟨(hexA h 32).toArray⟩) }
  | _, _ => none }
noncomputable def lamHex (h : List UInt8) : Nat → Option Lp
  | 5 => some (.inv { α := Nat, inv := fun i => i ≤ 32, mu := fun i => 32 - i, base := 500000, st := fun i => { env := [(3, .ow 500000), (10, .vec .u8 32 h), (11, .v (.int .i64 (i : Int)))], rows := [.buf 5 .u8 (hexA h i)], ents := [] } })
  | _ => none
def sKnown2 : Sum := { asis := [], flat := true, f := fun k l _ => match k, l with
  | 0, [] => some { need := True, val := .v (.bool true) }
  | _, _ => none }

theorem vcHex (h : List UInt8) (r : ByteArray) (p : Prop) (heap : Nat → Option Row) :
  goalOf Try.f72 (lookS []) 0 (noS (lamHex h)) [.vec .u8 32 h] { need := p, val := .v (.string r) } heap =
  (True ∧ True ∧ h.length = (32 : Nat) ∧ True ∧ (((0 : Int) ≤ (0 : Int) ∧ (0 : Int) < (256 : Int)) ∧ ((0 : Int) ≤ (0 : Int) ∧ (0 : Int) < (256 : Int)) ∧ ((0 : Int) ≤ (0 : Int) ∧ (0 : Int) < (256 : Int))
  ∧ ((0 : Int) ≤ (0 : Int) ∧ (0 : Int) < (256 : Int)) ∧ ((0 : Int) ≤ (0 : Int) ∧ (0 : Int) < (256 : Int)) ∧ ((0 : Int) ≤ (0 : Int) ∧ (0 : Int) < (256 : Int)) ∧ ((0 : Int) ≤ (0 : Int) ∧ (0 : Int) < (256
  : Int)) ∧ ((0 : Int) ≤ (0 : Int) ∧ (0 : Int) < (256 : Int)) ∧ ((0 : Int) ≤ (0 : Int) ∧ (0 : Int) < (256 : Int)) ∧ ((0 : Int) ≤ (0 : Int) ∧ (0 : Int) < (256 : Int)) ∧ ((0 : Int) ≤ (0 : Int) ∧ (0 : Int)
  < (256 : Int)) ∧ ((0 : Int) ≤ (0 : Int) ∧ (0 : Int) < (256 : Int)) ∧ ((0 : Int) ≤ (0 : Int) ∧ (0 : Int) < (256 : Int)) ∧ ((0 : Int) ≤ (0 : Int) ∧ (0 : Int) < (256 : Int)) ∧ ((0 : Int) ≤ (0 : Int) ∧ (0
  : Int) < (256 : Int)) ∧ ((0 : Int) ≤ (0 : Int) ∧ (0 : Int) < (256 : Int)) ∧ ((0 : Int) ≤ (0 : Int) ∧ (0 : Int) < (256 : Int)) ∧ ((0 : Int) ≤ (0 : Int) ∧ (0 : Int) < (256 : Int)) ∧ ((0 : Int) ≤ (0 :
  Int) ∧ (0 : Int) < (256 : Int)) ∧ ((0 : Int) ≤ (0 : Int) ∧ (0 : Int) < (256 : Int)) ∧ ((0 : Int) ≤ (0 : Int) ∧ (0 : Int) < (256 : Int)) ∧ ((0 : Int) ≤ (0 : Int) ∧ (0 : Int) < (256 : Int)) ∧ ((0 : Int)
  ≤ (0 : Int) ∧ (0 : Int) < (256 : Int)) ∧ ((0 : Int) ≤ (0 : Int) ∧ (0 : Int) < (256 : Int)) ∧ ((0 : Int) ≤ (0 : Int) ∧ (0 : Int) < (256 : Int)) ∧ ((0 : Int) ≤ (0 : Int) ∧ (0 : Int) < (256 : Int)) ∧ ((0
  : Int) ≤ (0 : Int) ∧ (0 : Int) < (256 : Int)) ∧ ((0 : Int) ≤ (0 : Int) ∧ (0 : Int) < (256 : Int)) ∧ ((0 : Int) ≤ (0 : Int) ∧ (0 : Int) < (256 : Int)) ∧ ((0 : Int) ≤ (0 : Int) ∧ (0 : Int) < (256 :
  Int)) ∧ ((0 : Int) ≤ (0 : Int) ∧ (0 : Int) < (256 : Int)) ∧ ((0 : Int) ≤ (0 : Int) ∧ (0 : Int) < (256 : Int)) ∧ True) ∧ bif eqU8 h [(0 : UInt8), (0 : UInt8), (0 : UInt8), (0 : UInt8), (0 : UInt8), (0
  : UInt8), (0 : UInt8), (0 : UInt8), (0 : UInt8), (0 : UInt8), (0 : UInt8), (0 : UInt8), (0 : UInt8), (0 : UInt8), (0 : UInt8), (0 : UInt8), (0 : UInt8), (0 : UInt8), (0 : UInt8), (0 : UInt8), (0 :
  UInt8), (0 : UInt8), (0 : UInt8), (0 : UInt8), (0 : UInt8), (0 : UInt8), (0 : UInt8), (0 : UInt8), (0 : UInt8), (0 : UInt8), (0 : UInt8), (0 : UInt8)] then False else True ∧ h.length = (32 : Nat) ∧
  True ∧ (∃ (x : Nat), x ≤ (32 : Nat) ∧ True ∧ (V.ow (500000 : Nat) = V.ow (500000 : Nat) ∧ V.vec DT.u8 (32 : Nat) h = V.vec DT.u8 (32 : Nat) h ∧ V.v (Value.int IntKind.i64 (0 : Int)) = V.v (Value.int
  IntKind.i64 (↑x : Int))) ∧ Row.buf (5 : Nat) DT.u8 [] = Row.buf (5 : Nat) DT.u8 (hexA h x) ∧ True) ∧ ∀ (x : Nat), x ≤ (32 : Nat) → True ∧ bif decide ((↑x : Int) < (32 : Int)) then ((0 : Int) ≤ (↑x :
  Int) ∧ (↑x : Int) < (↑(32 : Nat) : Int)) ∧ True ∧ True ∧ True ∧ (16 : Int) ≠ (0 : Int) ∧ ((0 : Int) ≤ IntKind.u8.wrap ((↑(UInt8.toNat (h.getD (↑x : Int).toNat (0 : UInt8))) : Int).tdiv (16 : Int)) ∧
  IntKind.u8.wrap ((↑(UInt8.toNat (h.getD (↑x : Int).toNat (0 : UInt8))) : Int).tdiv (16 : Int)) < (↑(ByteArray.mk #[(48 : UInt8), (49 : UInt8), (50 : UInt8), (51 : UInt8), (52 : UInt8), (53 : UInt8),
  (54 : UInt8), (55 : UInt8), (56 : UInt8), (57 : UInt8), (97 : UInt8), (98 : UInt8), (99 : UInt8), (100 : UInt8), (101 : UInt8), (102 : UInt8)]).size : Int)) ∧ True ∧ (16 : Int) ≠ (0 : Int) ∧ ((0 :
  Int) ≤ (↑(UInt8.toNat (h.getD (↑x : Int).toNat (0 : UInt8))) : Int).tmod (16 : Int) ∧ (↑(UInt8.toNat (h.getD (↑x : Int).toNat (0 : UInt8))) : Int).tmod (16 : Int) < (↑(ByteArray.mk #[(48 : UInt8), (49
  : UInt8), (50 : UInt8), (51 : UInt8), (52 : UInt8), (53 : UInt8), (54 : UInt8), (55 : UInt8), (56 : UInt8), (57 : UInt8), (97 : UInt8), (98 : UInt8), (99 : UInt8), (100 : UInt8), (101 : UInt8), (102 :
  UInt8)]).size : Int)) ∧ True ∧ (True ∧ ((True ∧ True ∧ True) ∧ True ∧ True ∧ True) ∧ ((hexA h x).length + (2 : Nat)) * (1 : Nat) ≤ (140737488355328 : Nat) ∧ (hexA h x).length + (2 : Nat) ≤
  (9223372036854775807 : Nat)) ∧ True ∧ True ∧ True ∧ ∃ (y : Nat), y ≤ (32 : Nat) ∧ (32 : Nat) - y < (32 : Nat) - x ∧ (V.ow (500000 : Nat) = V.ow (500000 : Nat) ∧ V.vec DT.u8 (32 : Nat) h = V.vec DT.u8
  (32 : Nat) h ∧ V.v (Value.int IntKind.i64 (IntKind.i64.wrap ((↑x : Int) + (1 : Int)))) = V.v (Value.int IntKind.i64 (↑y : Int))) ∧ Row.buf (5 : Nat) DT.u8 (hexA h x ++ [#[(48 : UInt8), (49 : UInt8),
  (50 : UInt8), (51 : UInt8), (52 : UInt8), (53 : UInt8), (54 : UInt8), (55 : UInt8), (56 : UInt8), (57 : UInt8), (97 : UInt8), (98 : UInt8), (99 : UInt8), (100 : UInt8), (101 : UInt8), (102 :
  UInt8)].toList.getD (IntKind.u8.wrap ((↑(UInt8.toNat (h.getD (↑x : Int).toNat (0 : UInt8))) : Int).tdiv (16 : Int))).toNat (0 : UInt8), #[(48 : UInt8), (49 : UInt8), (50 : UInt8), (51 : UInt8), (52 :
  UInt8), (53 : UInt8), (54 : UInt8), (55 : UInt8), (56 : UInt8), (57 : UInt8), (97 : UInt8), (98 : UInt8), (99 : UInt8), (100 : UInt8), (101 : UInt8), (102 : UInt8)].toList.getD ((↑(UInt8.toNat (h.getD
  (↑x : Int).toNat (0 : UInt8))) : Int).tmod (16 : Int)).toNat (0 : UInt8)]) = Row.buf (5 : Nat) DT.u8 (hexA h y) ∧ True else True ∧ True ∧ True ∧ (True ∧ True) ∧ True ∧ V.v (Value.string (ByteArray.mk
  (hexA h x).toArray)) = V.v (Value.string r) ∧ True) := by kernel_rfl

theorem vcKnown2 (p : Prop) (heap : Nat → Option Row) :
  goalOf Try.f21 (lookS [(23, sSum), (72, sHex)]) 0 (noS (fun _ => none)) [] { need := p, val := .v (.bool true) } heap =
  (True ∧ True ∧ True ∧ True ∧ True ∧ True ∧ (((((((0 : Int) ≤ (97 : Int) ∧ (97 : Int) < (256 : Int)) ∧ True) ∧ (((0 : Int) ≤ (98 : Int) ∧ (98 : Int) < (256 : Int)) ∧ ((0 : Int) ≤ (99 : Int) ∧ (99 : Int)
  < (256 : Int)) ∧ True) ∧ True) ∧ True ∧ True ∧ True) ∧ True) ∧ [[(97 : UInt8)], [(98 : UInt8), (99 : UInt8)]].flatten.length ≤ (140737488355000 : Nat) ∧ (2 : Nat) ≤ (140737488355328 : Nat)) ∧ ((True ∧
  True) ∧ (32 : Nat) = (32 : Nat) ∧ shaL [[(97 : UInt8)], [(98 : UInt8), (99 : UInt8)]].flatten ≠ zeros32) ∧ True ∧ True ∧ True ∧ True ∧ True ∧ True ∧ ((0 : Int) ≤ (↑(0 : Nat) : Int) ∧ (↑(0 : Nat) :
  Int) ≤ (8 : Int) ∧ (8 : Int) ≤ (↑(ByteArray.mk (hexA (shaL [[(97 : UInt8)], [(98 : UInt8), (99 : UInt8)]].flatten) (32 : Nat)).toArray).size : Int)) ∧ True ∧ True ∧ True ∧ (True ∧ True) ∧ True ∧ V.v
  (Value.bool (((ByteArray.mk (hexA (shaL [[(97 : UInt8)], [(98 : UInt8), (99 : UInt8)]].flatten) (32 : Nat)).toArray).extract (0 : Nat) (8 : Nat)).toList == (ByteArray.mk #[(98 : UInt8), (97 : UInt8),
  (55 : UInt8), (56 : UInt8), (49 : UInt8), (54 : UInt8), (98 : UInt8), (102 : UInt8)]).toList)) = V.v (Value.bool true) ∧ True) := by kernel_rfl


theorem okHex : SumOK Try.prog 72 sHex := by
  refine fn_ok0 Try.func72 (c := Try.f72.body.getD .skip) (by kernel_rfl) (by kernel_rfl) ok0 ?_
  intro k l heap e he hn hin
  clear hin
  simp only [sHex] at he
  split at he
  · rename_i h
    cases he
    obtain ⟨hl, hz⟩ : h.length = 32 ∧ h ≠ zeros32 := hn
    refine ⟨_, rfl, Eq.mpr (vcHex h _ _ heap) ?_⟩
    simp only [true_and, and_true, V.v.injEq, V.b.injEq, V.deep.injEq, V.agg.injEq, V.vec.injEq, V.tup.injEq, V.ow.injEq, V.own.injEq, V.ptr.injEq, V.fl.injEq, V.cx.injEq, Row.arr.injEq, Row.buf.injEq, Row.lit.injEq, Value.int.injEq, Value.bool.injEq, Value.string.injEq, Option.some.injEq, List.cons.injEq, heq_eq_eq]
    have hq : ∀ v : UInt8, IntKind.u8.wrap ((v.toNat : Int).tdiv 16) = ((v.toNat / 16 : Nat) : Int) ∧ ((v.toNat : Int)).tmod 16 = ((v.toNat % 16 : Nat) : Int) := by
      intro v
      have hv := v.toNat_lt
      have e1 : (v.toNat : Int).tdiv 16 = ((v.toNat / 16 : Nat) : Int) := by rw [Int.tdiv_eq_ediv_of_nonneg (by omega)]; rfl
      have e2 : (v.toNat : Int).tmod 16 = ((v.toNat % 16 : Nat) : Int) := by rw [Int.tmod_eq_emod_of_nonneg (by omega)]; rfl
      exact ⟨by rw [e1, wrap_u8 (by omega)], e2⟩
    have h16 : (ByteArray.mk #[(48 : UInt8), 49, 50, 51, 52, 53, 54, 55, 56, 57, 97, 98, 99, 100, 101, 102]).size = 16 := rfl
    have hexl : ∀ i, (hexA h i).length = 2 * i := by
      intro i
      induction i with
      | zero => rfl
      | succ i ih => simp only [hexA, List.length_append, ih, List.length_cons, List.length_nil]; omega
    refine ⟨hl, ?_, cond_prop (fun he => ?_) (fun _ => ⟨hl, ⟨0, by omega, rfl, rfl⟩, fun x hx => cond_dec (fun hlt => ?_) (fun hge => ?_)⟩)⟩
    · and_intros
      all_goals omega
    · exact hz (eq_of_beq he)
    · have hv := (h.getD x 0).toNat_lt
      simp only [Int.toNat_natCast, hq, h16, hexl]
      refine ⟨by omega, by omega, by omega, by omega, by omega, by omega, x + 1, by omega, by omega, by rw [wrap_i64 (by omega)]; omega, rfl⟩
    · have : x = 32 := by omega
      rw [this]
  · cases he

theorem sha_abc : shaL [97, 98, 99] = [186, 120, 22, 191, 143, 1, 207, 234, 65, 65, 64, 222, 93, 174, 34, 35, 176, 3, 97, 163, 150, 23, 122, 156, 180, 16, 255, 97, 242, 0, 21, 173] := by kernel_rfl

theorem okKnown2 : SumOK Try.prog 21 sKnown2 := by
  refine fn_ok0 Try.func21 (c := Try.f21.body.getD .skip) (by kernel_rfl) (by kernel_rfl) (ok1 okSum (ok1 okHex ok0)) ?_
  intro k l heap e he hn hin
  clear hin
  simp only [sKnown2] at he
  split at he
  · cases he
    refine ⟨_, rfl, Eq.mpr (vcKnown2 _ heap) ?_⟩
    simp only [true_and, and_true, V.v.injEq, V.b.injEq, V.deep.injEq, V.agg.injEq, V.vec.injEq, V.tup.injEq, V.ow.injEq, V.own.injEq, V.ptr.injEq, V.fl.injEq, V.cx.injEq, Row.arr.injEq, Row.buf.injEq, Row.lit.injEq, Value.int.injEq, Value.bool.injEq, Value.string.injEq, Option.some.injEq, List.cons.injEq, heq_eq_eq]
    have e : [[97], [98, 99]].flatten = [(97 : UInt8), 98, 99] := rfl
    rw [e, sha_abc]
    refine ⟨⟨by omega, by decide, by decide⟩, by decide, ?_, by kernel_rfl⟩
    decide
  · cases he
end Go.Proofs.Ytbkhhfekdpkhbaa.Ab
