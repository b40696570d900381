/- slices.Grow of nil, slices.Concat of bytes, sha.padded; no condition. -/
import Derived.Test.YtbkhhfekdpkhbaaBaD
namespace Go.Proofs.Ytbkhhfekdpkhbaa.Ab
open Go
set_option linter.unusedSimpArgs false
set_option linter.unusedVariables false
set_option maxRecDepth 100000

def nilV : V := .v (.slice none 0 0)
def sGrow (e : TypeId) (t : DT) (b : Nat) : Sum := { asis := [false, false], flat := false, f := fun k l _ => match k, l with
  | 0, [.v (.slice none 0 0), .v (.int .i64 n)] => some { need := 0 ≤ n ∧ n * b ≤ 140737488355328, val := .own 500000 0 t.size 0 0 none, new := [(500000, .buf e t (List.replicate n.toNat t.dflt))] }
  | _, _ => none }


/-- All parts, one behind the other. -/
def sConcatB : Sum := { asis := [false], flat := false, f := fun k l _ => match k, l with
  | 0, [.deep .bytes xs] => some { need := xs.flatten.length ≤ 140737488355328 ∧ xs.length ≤ 140737488355328, val := .ow 500000, new := [(500000, .buf 5 .u8 xs.flatten)] }
  | _, _ => none }
noncomputable def lamConcatB (xs : List (List UInt8)) : Nat → Option Lp
  | 3 => some (.inv { α := Nat, inv := fun i => i ≤ xs.length, mu := fun i => xs.length - i, base := 500000, st := fun i => { env := [(0, .deep .bytes xs), (3, .v (.int .i64 ((xs.take i).flatten.length : Int))), (9, .deep .bytes xs), (10, .v (.int .i64 (xs.length : Int))), (11, .v (.int .i64 (i : Int)))], rows := [], ents := [] } })
  | 11 => some (.inv { α := Nat, inv := fun i => i ≤ xs.length, mu := fun i => xs.length - i, base := 500000, st := fun i => { env := [(6, .ow 500000), (25, .deep .bytes xs), (26, .v (.int .i64 (xs.length : Int))), (27, .v (.int .i64 (i : Int)))], rows := [.buf 5 .u8 (xs.take i).flatten], ents := [] } })
  | _ => none

theorem vcConcatB (xs : List (List UInt8)) (p : Prop) (heap : Nat → Option Row) :
  goalOf Try.f75 (lookS [(130, sGrow 5 .u8 1)]) 0 (noS (lamConcatB xs)) [.deep .bytes xs] { need := p, val := .ow 500000, new := [(500000, .buf 5 .u8 xs.flatten)] } heap =
  (True ∧ True ∧ True ∧ True ∧ True ∧ (∃ (x : Nat), x ≤ xs.length ∧ (V.deep DT.bytes xs = V.deep DT.bytes xs ∧ V.v (Value.int IntKind.i64 (0 : Int)) = V.v (Value.int IntKind.i64 (↑(List.take x
  xs).flatten.length : Int)) ∧ V.deep DT.bytes xs = V.deep DT.bytes xs ∧ V.v (Value.int IntKind.i64 (↑xs.length : Int)) = V.v (Value.int IntKind.i64 (↑xs.length : Int)) ∧ V.v (Value.int IntKind.i64 (0 :
  Int)) = V.v (Value.int IntKind.i64 (↑x : Int))) ∧ True ∧ True) ∧ ∀ (x : Nat), x ≤ xs.length → True ∧ bif decide ((↑x : Int) < (↑xs.length : Int)) then ((0 : Int) ≤ (↑x : Int) ∧ (↑x : Int) <
  (↑xs.length : Int)) ∧ (↑x : Int).toNat < xs.length ∧ True ∧ True ∧ True ∧ True ∧ True ∧ True ∧ True ∧ True ∧ bif decide (IntKind.i64.wrap ((↑(List.take x xs).flatten.length : Int) + (↑(List.length
  (xs.getD (↑x : Int).toNat [])) : Int)) < (0 : Int)) then False else True ∧ True ∧ ∃ (y : Nat), y ≤ xs.length ∧ xs.length - y < xs.length - x ∧ (V.deep DT.bytes xs = V.deep DT.bytes xs ∧ V.v (Value.int
  IntKind.i64 (IntKind.i64.wrap ((↑(List.take x xs).flatten.length : Int) + (↑(List.length (xs.getD (↑x : Int).toNat [])) : Int)))) = V.v (Value.int IntKind.i64 (↑(List.take y xs).flatten.length : Int))
  ∧ V.deep DT.bytes xs = V.deep DT.bytes xs ∧ V.v (Value.int IntKind.i64 (↑xs.length : Int)) = V.v (Value.int IntKind.i64 (↑xs.length : Int)) ∧ V.v (Value.int IntKind.i64 (IntKind.i64.wrap ((↑x : Int) +
  (1 : Int)))) = V.v (Value.int IntKind.i64 (↑y : Int))) ∧ True ∧ True else True ∧ ((True ∧ True ∧ True) ∧ (0 : Int) ≤ (↑(List.take x xs).flatten.length : Int) ∧ (↑(List.take x xs).flatten.length : Int)
  * (↑(1 : Nat) : Int) ≤ (140737488355328 : Int)) ∧ True ∧ True ∧ True ∧ True ∧ (∃ (x_1 : Nat), x_1 ≤ xs.length ∧ (0 : Nat) ≤ (List.replicate (↑(List.take x xs).flatten.length : Int).toNat (0 :
  UInt8)).length ∧ (V.ow (500000 : Nat) = V.ow (500000 : Nat) ∧ V.deep DT.bytes xs = V.deep DT.bytes xs ∧ V.v (Value.int IntKind.i64 (↑xs.length : Int)) = V.v (Value.int IntKind.i64 (↑xs.length : Int))
  ∧ V.v (Value.int IntKind.i64 (0 : Int)) = V.v (Value.int IntKind.i64 (↑x_1 : Int))) ∧ Row.buf (5 : Nat) DT.u8 (List.take (0 : Nat) (List.replicate (↑(List.take x xs).flatten.length : Int).toNat (0 :
  UInt8))) = Row.buf (5 : Nat) DT.u8 (List.take x_1 xs).flatten ∧ True) ∧ ∀ (x : Nat), x ≤ xs.length → True ∧ bif decide ((↑x : Int) < (↑xs.length : Int)) then ((0 : Int) ≤ (↑x : Int) ∧ (↑x : Int) <
  (↑xs.length : Int)) ∧ (↑x : Int).toNat < xs.length ∧ True ∧ True ∧ True ∧ (True ∧ True ∧ ((List.take x xs).flatten.length + List.length (xs.getD (↑x : Int).toNat [])) * (1 : Nat) ≤ (140737488355328 :
  Nat) ∧ (List.take x xs).flatten.length + List.length (xs.getD (↑x : Int).toNat []) ≤ (9223372036854775807 : Nat)) ∧ True ∧ True ∧ True ∧ ∃ (y : Nat), y ≤ xs.length ∧ xs.length - y < xs.length - x ∧
  (V.ow (500000 : Nat) = V.ow (500000 : Nat) ∧ V.deep DT.bytes xs = V.deep DT.bytes xs ∧ V.v (Value.int IntKind.i64 (↑xs.length : Int)) = V.v (Value.int IntKind.i64 (↑xs.length : Int)) ∧ V.v (Value.int
  IntKind.i64 (IntKind.i64.wrap ((↑x : Int) + (1 : Int)))) = V.v (Value.int IntKind.i64 (↑y : Int))) ∧ Row.buf (5 : Nat) DT.u8 ((List.take x xs).flatten ++ xs.getD (↑x : Int).toNat []) = Row.buf (5 :
  Nat) DT.u8 (List.take y xs).flatten ∧ True else True ∧ True ∧ (True ∧ True) ∧ V.ow (500000 : Nat) = V.ow (500000 : Nat) ∧ Row.buf (5 : Nat) DT.u8 (List.take x xs).flatten = Row.buf (5 : Nat) DT.u8
  xs.flatten ∧ True) := by kernel_rfl

theorem vcGrow (n : Int) (p : Prop) (heap : Nat → Option Row) :
  goalOf Try.f130 (lookS []) 0 (noS (fun _ => none)) [.v (.slice none 0 0), .v (.int .i64 n)] { need := p, val := .own 500000 0 1 0 0 none, new := [(500000, .buf 5 .u8 (List.replicate n.toNat (0 : UInt8)))] } heap =
  (True ∧ True ∧ True ∧ bif decide (n < (0 : Int)) then False else True ∧ True ∧ True ∧ True ∧ True ∧ True ∧ True ∧ True ∧ True ∧ True ∧ bif decide (IntKind.i64.wrap (n - IntKind.i64.wrap ((0 : Int) - (0
  : Int))) > (0 : Int)) then True ∧ True ∧ True ∧ ((0 : Int) ≤ (↑(0 : Nat) : Int) ∧ (↑(0 : Nat) : Int) ≤ (0 : Int) ∧ (0 : Int) ≤ (0 : Int)) ∧ True ∧ ((0 : Int) ≤ IntKind.i64.wrap (n - IntKind.i64.wrap
  ((0 : Int) - (0 : Int))) ∧ IntKind.i64.wrap (n - IntKind.i64.wrap ((0 : Int) - (0 : Int))) ≤ (9223372036854775807 : Int) ∧ IntKind.i64.wrap (n - IntKind.i64.wrap ((0 : Int) - (0 : Int))) * (↑(1 : Nat)
  : Int) ≤ (140737488355328 : Int)) ∧ True ∧ True ∧ ((0 : Int) ≤ (↑(0 : Nat) : Int) ∧ (↑(0 : Nat) : Int) ≤ (0 : Int) ∧ (0 : Int) ≤ (↑(List.replicate (IntKind.i64.wrap (n - IntKind.i64.wrap ((0 : Int) -
  (0 : Int)))).toNat (0 : UInt8)).length : Int)) ∧ True ∧ True ∧ True ∧ (True ∧ True) ∧ V.own (500000 : Nat) (0 : Nat) (1 : Nat) (0 : Nat) (0 : Nat) none = V.own (500000 : Nat) (0 : Nat) (1 : Nat) (0 :
  Nat) (0 : Nat) none ∧ Row.buf (5 : Nat) DT.u8 (List.replicate (IntKind.i64.wrap (n - IntKind.i64.wrap ((0 : Int) - (0 : Int)))).toNat (0 : UInt8)) = Row.buf (5 : Nat) DT.u8 (List.replicate n.toNat (0
  : UInt8)) ∧ True else True ∧ True ∧ (True ∧ True) ∧ True ∧ V.own (500000 : Nat) (0 : Nat) (1 : Nat) (0 : Nat) (0 : Nat) none = V.own (500000 : Nat) (0 : Nat) (1 : Nat) (0 : Nat) (0 : Nat) none ∧
  Row.buf (5 : Nat) DT.u8 [] = Row.buf (5 : Nat) DT.u8 (List.replicate n.toNat (0 : UInt8)) ∧ True) := by kernel_rfl


theorem okGrow : SumOK Try.prog 130 (sGrow 5 .u8 1) := by
  refine fn_ok0 Try.func130 (c := Try.f130.body.getD .skip) (by kernel_rfl) (by kernel_rfl) ok0 ?_
  intro k l heap e he hn hin
  clear hin
  simp only [sGrow] at he
  split at he
  · rename_i n
    cases he
    refine ⟨_, rfl, Eq.mpr (vcGrow n _ heap) ?_⟩
    simp only [true_and, and_true, V.v.injEq, V.b.injEq, V.deep.injEq, V.agg.injEq, V.vec.injEq, V.tup.injEq, V.ow.injEq, V.own.injEq, V.ptr.injEq, V.fl.injEq, V.cx.injEq, Row.arr.injEq, Row.buf.injEq, Row.lit.injEq, Value.int.injEq, Value.bool.injEq, Value.string.injEq, Option.some.injEq, List.cons.injEq, heq_eq_eq]
    obtain ⟨h0, h1⟩ : 0 ≤ n ∧ n * 1 ≤ 140737488355328 := hn
    have e : IntKind.i64.wrap (n - IntKind.i64.wrap (0 - 0)) = n := by
      rw [wrap_i64 (n := 0 - 0) (by omega), wrap_i64 (by omega)]; omega
    rw [e]
    refine cond_dec (fun h => by omega) (fun _ => cond_dec (fun h => ?_) (fun h => ?_))
    · and_intros
      all_goals first | omega | rfl | skip
    · have : n = 0 := by omega
      subst this; rfl
  · cases he

theorem take_flat (xs : List (List UInt8)) (i : Nat) (h : i < xs.length) : (xs.take (i + 1)).flatten = (xs.take i).flatten ++ xs.getD i [] := by
  rw [List.take_succ_eq_append_getElem h, List.flatten_append]
  simp [List.getD, h]
theorem take_flat_le (xs : List (List UInt8)) (i : Nat) : (xs.take i).flatten.length ≤ xs.flatten.length := by
  conv => rhs; rw [← List.take_append_drop i xs, List.flatten_append, List.length_append]
  omega

theorem okConcatB : SumOK Try.prog 75 sConcatB := by
  refine fn_ok0 Try.func75 (c := Try.f75.body.getD .skip) (by kernel_rfl) (by kernel_rfl) (ok1 okGrow ok0) ?_
  intro k l heap e he hn hin
  clear hin
  simp only [sConcatB] at he
  split at he
  · rename_i xs
    cases he
    refine ⟨_, rfl, Eq.mpr (vcConcatB xs _ heap) ?_⟩
    simp only [true_and, and_true, V.v.injEq, V.b.injEq, V.deep.injEq, V.agg.injEq, V.vec.injEq, V.tup.injEq, V.ow.injEq, V.own.injEq, V.ptr.injEq, V.fl.injEq, V.cx.injEq, Row.arr.injEq, Row.buf.injEq, Row.lit.injEq, Value.int.injEq, Value.bool.injEq, Value.string.injEq, Option.some.injEq, List.cons.injEq, heq_eq_eq]
    obtain ⟨h0, h1⟩ : xs.flatten.length ≤ 140737488355328 ∧ xs.length ≤ 140737488355328 := hn
    refine ⟨⟨0, by omega, rfl, rfl⟩, fun x hx => cond_dec (fun hlt => ?_) (fun hge => ?_)⟩
    · have hlt' : x < xs.length := by omega
      have hle := take_flat_le xs (x + 1)
      have hs := take_flat xs x hlt'
      have hl : (xs.take x).flatten.length + (xs.getD x []).length = (xs.take (x + 1)).flatten.length := by rw [hs, List.length_append]
      simp only [Int.toNat_natCast]
      refine ⟨by omega, hlt', cond_dec (fun h => ?_) (fun _ => ⟨x + 1, by omega, by omega, ?_, ?_⟩)⟩
      · rw [wrap_i64 (by omega)] at h; omega
      · rw [wrap_i64 (by omega)]; omega
      · rw [wrap_i64 (by omega)]; omega
    · have hle := take_flat_le xs x
      refine ⟨by omega, ⟨0, by omega, by omega, rfl, rfl⟩, fun x hx => cond_dec (fun hlt => ?_) (fun hge => ?_)⟩
      · have hlt' : x < xs.length := by omega
        have hle := take_flat_le xs (x + 1)
        have hs := take_flat xs x hlt'
        have hl : (xs.take x).flatten.length + (xs.getD x []).length = (xs.take (x + 1)).flatten.length := by rw [hs, List.length_append]
        simp only [Int.toNat_natCast]
        refine ⟨by omega, hlt', by omega, x + 1, by omega, by omega, ?_, hs.symm⟩
        rw [wrap_i64 (by omega)]; omega
      · have : x = xs.length := by omega
        rw [this, List.take_length]
  · cases he
end Go.Proofs.Ytbkhhfekdpkhbaa.Ab
