/- comitialaw2.ShaLong; no condition. -/
import Derived.Test.YtbkhhfekdpkhbaaBaI
namespace Go.Proofs.Ytbkhhfekdpkhbaa.Ab
open Go
set_option linter.unusedSimpArgs false
set_option linter.unusedVariables false
set_option maxRecDepth 100000

def sLong : Sum := { asis := [false, false, false, false], flat := true, f := fun k l _ => match k, l with
  | 0, [.v (.int .i64 _), .b _, .v (.int .i64 _), .b _] => some { need := True, val := .v (.bool true) }
  | _, _ => none }
noncomputable def lamLong (n : Nat) (S : St) : Option Lp := match n with
  | 6 => some (.inv { α := Nat × List UInt8, inv := fun x => x.1 ≤ (getI (S.env 0)).toNat ∧ x.2.length = (getI (S.env 0)).toNat, mu := fun x => (getI (S.env 0)).toNat - x.1, base := 500000, st := fun x => keepLS S 500000 [0, 1, 2, 3, 9] [(10, .v (.int .i64 (x.1 : Int)))] [(nameV (S.env 9), .buf 5 .u8 x.2)] })
  | _ => none

theorem vcLong (n at_ : Int) (b t : UInt8) (p : Prop) (heap : Nat → Option Row) :
  goalOf Try.f3 (lookS [(21, sKnown2), (22, sWithin), (23, sSum), (24, sRefSum)]) 0 lamLong [.v (.int .i64 n), .b b, .v (.int .i64 at_), .b t] { need := p, val := .v (.bool true) } heap =
  (True ∧ (True ∧ True) ∧ True ∧ True ∧ ((True ∧ True ∧ True) ∧ (300 : Int) ≠ (0 : Int)) ∧ True ∧ True ∧ ((0 : Int) ≤ within n (300 : Int) ∧ within n (300 : Int) ≤ within n (300 : Int) ∧ within n (300 :
  Int) ≤ (9223372036854775807 : Int) ∧ (↑(1 : Nat) : Int) * within n (300 : Int) ≤ (140737488355328 : Int)) ∧ True ∧ True ∧ (∃ (x : Nat × List UInt8), (x.fst ≤ (within n (300 : Int)).toNat ∧
  x.snd.length = (within n (300 : Int)).toNat) ∧ (V.v (Value.int IntKind.i64 (within n (300 : Int))) = V.v (Value.int IntKind.i64 (within n (300 : Int))) ∧ V.b b = V.b b ∧ V.v (Value.int IntKind.i64
  at_) = V.v (Value.int IntKind.i64 at_) ∧ V.b t = V.b t ∧ V.ow (500000 : Nat) = V.ow (500000 : Nat) ∧ V.v (Value.int IntKind.i64 (0 : Int)) = V.v (Value.int IntKind.i64 (↑x.fst : Int))) ∧ Row.buf (5 :
  Nat) DT.u8 (List.replicate (within n (300 : Int)).toNat (0 : UInt8)) = Row.buf (5 : Nat) DT.u8 x.snd ∧ True) ∧ ∀ (x : Nat × List UInt8), x.fst ≤ (within n (300 : Int)).toNat ∧ x.snd.length = (within n
  (300 : Int)).toNat → True ∧ True ∧ True ∧ bif decide ((↑x.fst : Int) < within n (300 : Int)) then True ∧ True ∧ True ∧ True ∧ True ∧ True ∧ ((0 : Int) ≤ (↑x.fst : Int) ∧ (↑x.fst : Int) <
  (↑x.snd.length : Int)) ∧ ((True ∧ True) ∧ ((0 : Int) ≤ IntKind.u8.wrap ((↑b.toNat : Int) + IntKind.u8.wrap (↑x.fst : Int)) ∧ IntKind.u8.wrap ((↑b.toNat : Int) + IntKind.u8.wrap (↑x.fst : Int)) < (256
  : Int)) ∧ (↑x.fst : Int).toNat < x.snd.length) ∧ True ∧ True ∧ True ∧ ∃ (y : Nat × List UInt8), (y.fst ≤ (within n (300 : Int)).toNat ∧ y.snd.length = (within n (300 : Int)).toNat) ∧ (within n (300 :
  Int)).toNat - y.fst < (within n (300 : Int)).toNat - x.fst ∧ (V.v (Value.int IntKind.i64 (within n (300 : Int))) = V.v (Value.int IntKind.i64 (within n (300 : Int))) ∧ V.b b = V.b b ∧ V.v (Value.int
  IntKind.i64 at_) = V.v (Value.int IntKind.i64 at_) ∧ V.b t = V.b t ∧ V.ow (500000 : Nat) = V.ow (500000 : Nat) ∧ V.v (Value.int IntKind.i64 (IntKind.i64.wrap ((↑x.fst : Int) + (1 : Int)))) = V.v
  (Value.int IntKind.i64 (↑y.fst : Int))) ∧ Row.buf (5 : Nat) DT.u8 (x.snd.set (↑x.fst : Int).toNat (UInt8.ofNat (IntKind.u8.wrap ((↑b.toNat : Int) + IntKind.u8.wrap (↑x.fst : Int))).toNat)) = Row.buf
  (5 : Nat) DT.u8 y.snd ∧ True else True ∧ True ∧ ((((True ∧ True) ∧ True ∧ True) ∧ True) ∧ [x.snd].flatten.length ≤ (140737488355000 : Nat) ∧ (1 : Nat) ≤ (140737488355328 : Nat)) ∧ True ∧ ((True ∧
  True) ∧ x.snd.length ≤ (140737488355000 : Nat)) ∧ True ∧ bif !eqU8 (shaL [x.snd].flatten) (shaL x.snd) then True ∧ (True ∧ True) ∧ True ∧ V.v (Value.bool false) = V.v (Value.bool true) ∧ True else
  True ∧ True ∧ bif decide (within n (300 : Int) > (0 : Int)) then True ∧ True ∧ True ∧ ((True ∧ True ∧ True) ∧ within n (300 : Int) ≠ (0 : Int)) ∧ ((0 : Int) ≤ within at_ (within n (300 : Int)) ∧
  within at_ (within n (300 : Int)) < (↑x.snd.length : Int)) ∧ (within at_ (within n (300 : Int))).toNat < x.snd.length ∧ True ∧ True ∧ ((0 : Int) ≤ within at_ (within n (300 : Int)) ∧ within at_
  (within n (300 : Int)) < (↑x.snd.length : Int)) ∧ ((True ∧ True) ∧ ((0 : Int) ≤ IntKind.u8.wrap ((↑(UInt8.toNat (x.snd.getD (within at_ (within n (300 : Int))).toNat (0 : UInt8))) : Int) + (↑t.toNat :
  Int)) ∧ IntKind.u8.wrap ((↑(UInt8.toNat (x.snd.getD (within at_ (within n (300 : Int))).toNat (0 : UInt8))) : Int) + (↑t.toNat : Int)) < (256 : Int)) ∧ (within at_ (within n (300 : Int))).toNat <
  x.snd.length) ∧ True ∧ True ∧ ((((True ∧ True) ∧ True ∧ True) ∧ True) ∧ [x.snd.set (within at_ (within n (300 : Int))).toNat (UInt8.ofNat (IntKind.u8.wrap ((↑(UInt8.toNat (x.snd.getD (within at_
  (within n (300 : Int))).toNat (0 : UInt8))) : Int) + (↑t.toNat : Int))).toNat)].flatten.length ≤ (140737488355000 : Nat) ∧ (1 : Nat) ≤ (140737488355328 : Nat)) ∧ True ∧ ((True ∧ True) ∧ (x.snd.set
  (within at_ (within n (300 : Int))).toNat (UInt8.ofNat (IntKind.u8.wrap ((↑(UInt8.toNat (x.snd.getD (within at_ (within n (300 : Int))).toNat (0 : UInt8))) : Int) + (↑t.toNat : Int))).toNat)).length ≤
  (140737488355000 : Nat)) ∧ True ∧ True ∧ (True ∧ True) ∧ True ∧ V.v (Value.bool (eqU8 (shaL [x.snd.set (within at_ (within n (300 : Int))).toNat (UInt8.ofNat (IntKind.u8.wrap ((↑(UInt8.toNat
  (x.snd.getD (within at_ (within n (300 : Int))).toNat (0 : UInt8))) : Int) + (↑t.toNat : Int))).toNat)].flatten) (shaL (x.snd.set (within at_ (within n (300 : Int))).toNat (UInt8.ofNat
  (IntKind.u8.wrap ((↑(UInt8.toNat (x.snd.getD (within at_ (within n (300 : Int))).toNat (0 : UInt8))) : Int) + (↑t.toNat : Int))).toNat))))) = V.v (Value.bool true) ∧ True else True ∧ True ∧ ((((True ∧
  True) ∧ True ∧ True) ∧ True) ∧ [x.snd].flatten.length ≤ (140737488355000 : Nat) ∧ (1 : Nat) ≤ (140737488355328 : Nat)) ∧ True ∧ ((True ∧ True) ∧ x.snd.length ≤ (140737488355000 : Nat)) ∧ True ∧ True ∧
  (True ∧ True) ∧ True ∧ V.v (Value.bool (eqU8 (shaL [x.snd].flatten) (shaL x.snd))) = V.v (Value.bool true) ∧ True) := by kernel_rfl


theorem within_range (a m : Int) (h0 : 0 < m) (h : m ≤ 4611686018427387904) : 0 ≤ within a m ∧ within a m < m := by
  unfold within
  have h1 := Int.lt_tmod_of_pos a h0
  have h2 := Int.tmod_lt_of_pos a h0
  by_cases c : a.tmod m < 0
  · rw [bif_true (decide_eq_true c), wrap_i64 (by omega)]; omega
  · rw [bif_false (decide_eq_false c)]; omega
theorem eqU8_self (l : List UInt8) : eqU8 l l = true := by unfold eqU8; exact beq_self_eq_true l
theorem flat1 (l : List UInt8) : [l].flatten = l := by simp

theorem okLong : SumOK Try.prog 3 sLong := by
  refine fn_ok0 Try.func3 (c := Try.f3.body.getD .skip) (by kernel_rfl) (by kernel_rfl) (ok1 okKnown2 (ok1 okWithin (ok1 okSum (ok1 okRefSum ok0)))) ?_
  intro k l heap e he hn hin
  clear hin
  simp only [sLong] at he
  split at he
  · rename_i n b a t
    cases he
    refine ⟨_, rfl, Eq.mpr (vcLong n a b t _ heap) ?_⟩
    simp only [true_and, and_true, V.v.injEq, V.b.injEq, V.deep.injEq, V.agg.injEq, V.vec.injEq, V.tup.injEq, V.ow.injEq, V.own.injEq, V.ptr.injEq, V.fl.injEq, V.cx.injEq, Row.arr.injEq, Row.buf.injEq, Row.lit.injEq, Value.int.injEq, Value.bool.injEq, Value.string.injEq, Option.some.injEq, List.cons.injEq, heq_eq_eq]
    obtain ⟨h0, h1⟩ := within_range n 300 (by omega) (by omega)
    generalize within n 300 = m at *
    refine ⟨by omega, by omega, ⟨(0, List.replicate m.toNat 0), ⟨(by first | omega | (dsimp only; omega)), by simp⟩, rfl, rfl⟩, ?_⟩
    rintro ⟨i, l⟩ ⟨hi, hl⟩
    simp only at hi hl ⊢
    simp only [flat1, eqU8_self, Bool.not_true, cond_false]
    refine cond_dec (fun hlt => ?_) (fun hge => ⟨by omega, by omega, cond_dec (fun hm => ?_) (fun hm => ⟨by omega, by omega, trivial⟩)⟩)
    · refine ⟨by omega, ⟨wrap_u8_range _, by rw [Int.toNat_natCast]; omega⟩, (i + 1, l.set i _), ⟨(by first | omega | (dsimp only; omega)), ?_⟩, (by first | omega | (dsimp only; omega)), by rw [wrap_i64 (by omega)]; first | omega | (dsimp only; omega), rfl⟩
      rw [List.length_set]; exact hl
    · obtain ⟨a0, a1⟩ := within_range a m (by omega) (by omega)
      simp only [List.length_set]
      refine ⟨by omega, by omega, by omega, by omega, ⟨wrap_u8_range _, by omega⟩, by omega, by omega, trivial⟩
  · cases he
end Go.Proofs.Ytbkhhfekdpkhbaa.Ab
