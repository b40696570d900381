/- sha.Sum; no condition. -/
import Derived.Test.YtbkhhfekdpkhbaaBaF
namespace Go.Proofs.Ytbkhhfekdpkhbaa.Ab
open Go
set_option linter.unusedSimpArgs false
set_option linter.unusedVariables false
set_option maxRecDepth 100000

/-- Pieces are taken, one behind the other. -/
def pieces (s : List Int) (b : List UInt8) : Nat → List Int
  | 0 => s
  | i + 1 => addL (pieces s b i) ((b.drop (64 * i)).take 64)
def outB (s : List Int) (i : Nat) : UInt8 := UInt8.ofNat (IntKind.u8.wrap (shrI .u32 (s.getD (i / 4) 0) ((24 - 8 * (i % 4) : Nat) : Int))).toNat
def outL (s : List Int) : Nat → List UInt8
  | 0 => List.replicate 32 0
  | i + 1 => (outL s i).set i (outB s i)
def rounds (b : List UInt8) : Nat := (padL b).length / 64
/-- SHA-256. -/
def shaL (b : List UInt8) : List UInt8 := outL (pieces begunL (padL b) (rounds b)) 32
def sSum : Sum := { asis := [false], flat := true, f := fun k l _ => match k, l with
  | 0, [.deep .bytes xs] => some { need := xs.flatten.length ≤ 140737488355000 ∧ xs.length ≤ 140737488355328, val := .vec .u8 32 (shaL xs.flatten) }
  | _, _ => none }

noncomputable def lamSum (b : List UInt8) : Nat → Option Lp
  | 3 => some (.inv { α := Nat, inv := fun i => i ≤ rounds b, mu := fun i => rounds b - i, base := 500000, st := fun i => { env := [(2, .ptr 500000 0), (3, .ptr 500001 0), (4, .own 500002 0 1 (64 * i) ((padL b).length - 64 * i) none)], rows := [.arr 26 .u8 (List.replicate 32 (0 : UInt8)), .arr 119 (.int .u32) (pieces begunL (padL b) i), .buf 5 .u8 (padL b)], ents := [] } })
  | 8 => some (.inv { α := Nat, inv := fun i => i ≤ 32, mu := fun i => 32 - i, base := 500000, st := fun i => { env := [(2, .ptr 500000 0), (3, .ptr 500001 0), (5, .ptr 500002 0), (20, .v (.int .i64 (i : Int)))], rows := [.arr 26 .u8 (List.replicate 32 (0 : UInt8)), .arr 119 (.int .u32) (pieces begunL (padL b) (rounds b)), .arr 26 .u8 (outL (pieces begunL (padL b) (rounds b)) i)], ents := [] } })
  | _ => none

theorem vcSum (xs : List (List UInt8)) (r : List UInt8) (p : Prop) (heap : Nat → Option Row) :
  goalOf Try.f23 (lookS [(73, sBegun), (75, sConcatB), (74, sPadded), (76, sAdd)]) 0 (noS (lamSum xs.flatten)) [.deep .bytes xs] { need := p, val := .vec .u8 32 r } heap =
  (True ∧ (True ∧ True) ∧ True ∧ (8 : Nat) = (8 : Nat) ∧ True ∧ ((True ∧ True) ∧ xs.flatten.length ≤ (140737488355328 : Nat) ∧ xs.length ≤ (140737488355328 : Nat)) ∧ (True ∧ xs.flatten.length ≤
  (140737488355000 : Nat)) ∧ True ∧ (∃ (x : Nat), x ≤ rounds xs.flatten ∧ True ∧ (V.ptr (500000 : Nat) (0 : Nat) = V.ptr (500000 : Nat) (0 : Nat) ∧ V.ptr (500001 : Nat) (0 : Nat) = V.ptr (500001 : Nat)
  (0 : Nat) ∧ V.own (500002 : Nat) (0 : Nat) (1 : Nat) (0 : Nat) (padL xs.flatten).length none = V.own (500002 : Nat) (0 : Nat) (1 : Nat) ((64 : Nat) * x) ((padL xs.flatten).length - (64 : Nat) * x)
  none) ∧ (Row.arr (26 : Nat) DT.u8 (List.replicate (32 : Nat) (0 : UInt8)) = Row.arr (26 : Nat) DT.u8 (List.replicate (32 : Nat) (0 : UInt8)) ∧ Row.arr (119 : Nat) (DT.int IntKind.u32) begunL = Row.arr
  (119 : Nat) (DT.int IntKind.u32) (pieces begunL (padL xs.flatten) x) ∧ Row.buf (5 : Nat) DT.u8 (padL xs.flatten) = Row.buf (5 : Nat) DT.u8 (padL xs.flatten)) ∧ True) ∧ ∀ (x : Nat), x ≤ rounds
  xs.flatten → True ∧ True ∧ True ∧ bif decide ((↑((padL xs.flatten).length - (64 : Nat) * x) : Int) > (0 : Int)) then (pieces begunL (padL xs.flatten) x).length = (8 : Nat) ∧ True ∧ ((0 : Int) ≤ (↑(0 :
  Nat) : Int) ∧ (↑(0 : Nat) : Int) ≤ (64 : Int) ∧ (64 : Int) ≤ (↑((padL xs.flatten).length - (64 : Nat) * x) : Int)) ∧ ((True ∧ (64 : Nat) * x + (↑(0 : Nat) : Int).toNat + (Int.toNat (64 : Int) - (↑(0 :
  Nat) : Int).toNat) ≤ (padL xs.flatten).length ∧ True) ∧ (pieces begunL (padL xs.flatten) x).length = (8 : Nat) ∧ (List.take (Int.toNat (64 : Int) - (↑(0 : Nat) : Int).toNat) (List.drop ((64 : Nat) * x
  + (↑(0 : Nat) : Int).toNat) (padL xs.flatten))).length = (64 : Nat)) ∧ (pieces begunL (padL xs.flatten) x).length = (8 : Nat) ∧ True ∧ ((0 : Int) ≤ (64 : Int) ∧ (64 : Int) ≤ (↑((padL
  xs.flatten).length - (64 : Nat) * x) : Int) ∧ (↑((padL xs.flatten).length - (64 : Nat) * x) : Int) ≤ (↑((padL xs.flatten).length - (64 : Nat) * x) : Int)) ∧ True ∧ ∃ (y : Nat), y ≤ rounds xs.flatten ∧
  rounds xs.flatten - y < rounds xs.flatten - x ∧ (V.ptr (500000 : Nat) (0 : Nat) = V.ptr (500000 : Nat) (0 : Nat) ∧ V.ptr (500001 : Nat) (0 : Nat) = V.ptr (500001 : Nat) (0 : Nat) ∧ V.own (500002 :
  Nat) (0 : Nat) (1 : Nat) ((64 : Nat) * x + Int.toNat (64 : Int)) ((↑((padL xs.flatten).length - (64 : Nat) * x) : Int).toNat - Int.toNat (64 : Int)) none = V.own (500002 : Nat) (0 : Nat) (1 : Nat)
  ((64 : Nat) * y) ((padL xs.flatten).length - (64 : Nat) * y) none) ∧ (Row.arr (26 : Nat) DT.u8 (List.replicate (32 : Nat) (0 : UInt8)) = Row.arr (26 : Nat) DT.u8 (List.replicate (32 : Nat) (0 :
  UInt8)) ∧ Row.arr (119 : Nat) (DT.int IntKind.u32) (addL (pieces begunL (padL xs.flatten) x) (List.take (Int.toNat (64 : Int) - (↑(0 : Nat) : Int).toNat) (List.drop ((64 : Nat) * x + (↑(0 : Nat) :
  Int).toNat) (padL xs.flatten)))) = Row.arr (119 : Nat) (DT.int IntKind.u32) (pieces begunL (padL xs.flatten) y) ∧ Row.buf (5 : Nat) DT.u8 (padL xs.flatten) = Row.buf (5 : Nat) DT.u8 (padL xs.flatten))
  ∧ True else True ∧ True ∧ (∃ (x_1 : Nat), x_1 ≤ (32 : Nat) ∧ (V.ptr (500000 : Nat) (0 : Nat) = V.ptr (500000 : Nat) (0 : Nat) ∧ V.ptr (500001 : Nat) (0 : Nat) = V.ptr (500001 : Nat) (0 : Nat) ∧ V.ptr
  (500002 : Nat) (0 : Nat) = V.ptr (500002 : Nat) (0 : Nat) ∧ V.v (Value.int IntKind.i64 (0 : Int)) = V.v (Value.int IntKind.i64 (↑x_1 : Int))) ∧ (Row.arr (26 : Nat) DT.u8 (List.replicate (32 : Nat) (0
  : UInt8)) = Row.arr (26 : Nat) DT.u8 (List.replicate (32 : Nat) (0 : UInt8)) ∧ Row.arr (119 : Nat) (DT.int IntKind.u32) (pieces begunL (padL xs.flatten) x) = Row.arr (119 : Nat) (DT.int IntKind.u32)
  (pieces begunL (padL xs.flatten) (rounds xs.flatten)) ∧ Row.arr (26 : Nat) DT.u8 (List.replicate (32 : Nat) (0 : UInt8)) = Row.arr (26 : Nat) DT.u8 (outL (pieces begunL (padL xs.flatten) (rounds
  xs.flatten)) x_1)) ∧ True) ∧ ∀ (x : Nat), x ≤ (32 : Nat) → True ∧ bif decide ((↑x : Int) < (32 : Int)) then True ∧ True ∧ True ∧ True ∧ (4 : Int) ≠ (0 : Int) ∧ ((0 : Int) ≤ IntKind.i64.wrap ((↑x :
  Int).tdiv (4 : Int)) ∧ IntKind.i64.wrap ((↑x : Int).tdiv (4 : Int)) < (↑(8 : Nat) : Int)) ∧ (IntKind.i64.wrap ((↑x : Int).tdiv (4 : Int))).toNat < (pieces begunL (padL xs.flatten) (rounds
  xs.flatten)).length ∧ True ∧ (4 : Int) ≠ (0 : Int) ∧ True ∧ True ∧ (0 : Int) ≤ IntKind.i64.wrap ((24 : Int) - IntKind.i64.wrap ((8 : Int) * (↑x : Int).tmod (4 : Int))) ∧ True ∧ ((0 : Int) ≤ (↑x : Int)
  ∧ (↑x : Int) < (↑(32 : Nat) : Int)) ∧ ((True ∧ True) ∧ ((0 : Int) ≤ IntKind.u8.wrap (shrI IntKind.u32 ((pieces begunL (padL xs.flatten) (rounds xs.flatten)).getD (IntKind.i64.wrap ((↑x : Int).tdiv (4
  : Int))).toNat (0 : Int)) (IntKind.i64.wrap ((24 : Int) - IntKind.i64.wrap ((8 : Int) * (↑x : Int).tmod (4 : Int))))) ∧ IntKind.u8.wrap (shrI IntKind.u32 ((pieces begunL (padL xs.flatten) (rounds
  xs.flatten)).getD (IntKind.i64.wrap ((↑x : Int).tdiv (4 : Int))).toNat (0 : Int)) (IntKind.i64.wrap ((24 : Int) - IntKind.i64.wrap ((8 : Int) * (↑x : Int).tmod (4 : Int))))) < (256 : Int)) ∧ (↑x :
  Int).toNat < (outL (pieces begunL (padL xs.flatten) (rounds xs.flatten)) x).length) ∧ True ∧ True ∧ ∃ (y : Nat), y ≤ (32 : Nat) ∧ (32 : Nat) - y < (32 : Nat) - x ∧ (V.ptr (500000 : Nat) (0 : Nat) =
  V.ptr (500000 : Nat) (0 : Nat) ∧ V.ptr (500001 : Nat) (0 : Nat) = V.ptr (500001 : Nat) (0 : Nat) ∧ V.ptr (500002 : Nat) (0 : Nat) = V.ptr (500002 : Nat) (0 : Nat) ∧ V.v (Value.int IntKind.i64
  (IntKind.i64.wrap ((↑x : Int) + (1 : Int)))) = V.v (Value.int IntKind.i64 (↑y : Int))) ∧ (Row.arr (26 : Nat) DT.u8 (List.replicate (32 : Nat) (0 : UInt8)) = Row.arr (26 : Nat) DT.u8 (List.replicate
  (32 : Nat) (0 : UInt8)) ∧ Row.arr (119 : Nat) (DT.int IntKind.u32) (pieces begunL (padL xs.flatten) (rounds xs.flatten)) = Row.arr (119 : Nat) (DT.int IntKind.u32) (pieces begunL (padL xs.flatten)
  (rounds xs.flatten)) ∧ Row.arr (26 : Nat) DT.u8 ((outL (pieces begunL (padL xs.flatten) (rounds xs.flatten)) x).set (↑x : Int).toNat (UInt8.ofNat (IntKind.u8.wrap (shrI IntKind.u32 ((pieces begunL
  (padL xs.flatten) (rounds xs.flatten)).getD (IntKind.i64.wrap ((↑x : Int).tdiv (4 : Int))).toNat (0 : Int)) (IntKind.i64.wrap ((24 : Int) - IntKind.i64.wrap ((8 : Int) * (↑x : Int).tmod (4 :
  Int)))))).toNat)) = Row.arr (26 : Nat) DT.u8 (outL (pieces begunL (padL xs.flatten) (rounds xs.flatten)) y)) ∧ True else (outL (pieces begunL (padL xs.flatten) (rounds xs.flatten)) x).length = (32 :
  Nat) ∧ (32 : Nat) = (32 : Nat) ∧ ((outL (pieces begunL (padL xs.flatten) (rounds xs.flatten)) x).length = (32 : Nat) ∧ True) ∧ True ∧ V.vec DT.u8 (32 : Nat) (outL (pieces begunL (padL xs.flatten)
  (rounds xs.flatten)) x) = V.vec DT.u8 (32 : Nat) r ∧ True) := by kernel_rfl


theorem pieces_len (b : List UInt8) : ∀ i, (pieces begunL b i).length = 8
  | 0 => rfl
  | i + 1 => rfl
theorem outL_len (s : List Int) : ∀ i, (outL s i).length = 32
  | 0 => rfl
  | i + 1 => by simp only [outL, List.length_set, outL_len s i]
theorem padL_len (b : List UInt8) : (padL b).length = b.length + 9 + zpad b.length := by
  simp only [padL, List.length_append, List.length_replicate, List.length_cons, List.length_nil, lens_len]; omega
theorem padL_rounds (b : List UInt8) : (padL b).length = 64 * rounds b := by
  unfold rounds
  rw [padL_len]
  unfold zpad
  omega

theorem okSum : SumOK Try.prog 23 sSum := by
  refine fn_ok0 Try.func23 (c := Try.f23.body.getD .skip) (by kernel_rfl) (by kernel_rfl) (ok1 okBegun (ok1 okConcatB (ok1 okPadded (ok1 okAdd ok0)))) ?_
  intro k l heap e he hn hin
  clear hin
  simp only [sSum] at he
  split at he
  · rename_i xs
    cases he
    refine ⟨_, rfl, Eq.mpr (vcSum xs _ _ heap) ?_⟩
    simp only [true_and, and_true, V.v.injEq, V.b.injEq, V.deep.injEq, V.agg.injEq, V.vec.injEq, V.tup.injEq, V.ow.injEq, V.own.injEq, V.ptr.injEq, V.fl.injEq, V.cx.injEq, Row.arr.injEq, Row.buf.injEq, Row.lit.injEq, Value.int.injEq, Value.bool.injEq, Value.string.injEq, Option.some.injEq, List.cons.injEq, heq_eq_eq]
    obtain ⟨h0, h1⟩ : xs.flatten.length ≤ 140737488355000 ∧ xs.length ≤ 140737488355328 := hn
    have hR := padL_rounds xs.flatten
    have hL := padL_len xs.flatten
    have hz : zpad xs.flatten.length < 64 := Nat.mod_lt _ (by omega)
    have hP := pieces_len (padL xs.flatten)
    refine ⟨⟨by omega, h1⟩, h0, ⟨0, by omega, by omega, rfl⟩, fun x hx => cond_dec (fun hlt => ?_) (fun hge => ?_)⟩
    · have e0 : ((0 : Nat) : Int).toNat = 0 := rfl
      have e64 : Int.toNat 64 = 64 := rfl
      simp only [e0, e64, Nat.sub_zero, Nat.add_zero, hP, Int.toNat_natCast]
      have hlt' : x < rounds xs.flatten := by omega
      have hd : (List.take 64 (List.drop (64 * x) (padL xs.flatten))).length = 64 := by
        rw [List.length_take, List.length_drop]; omega
      exact ⟨trivial, by omega, ⟨by omega, trivial, hd⟩, trivial, by omega, x + 1, by omega, by omega, by omega, rfl⟩
    · have hx' : x = rounds xs.flatten := by omega
      subst hx'
      refine ⟨⟨0, by omega, rfl, rfl, rfl⟩, fun x hx => cond_dec (fun hlt => ?_) (fun hge => ?_)⟩
      · have hlt' : x < 32 := by omega
        have e1 : ((x : Int)).tdiv 4 = ((x / 4 : Nat) : Int) := by rw [Int.tdiv_eq_ediv_of_nonneg (by omega)]; rfl
        have e2 : ((x : Int)).tmod 4 = ((x % 4 : Nat) : Int) := by rw [Int.tmod_eq_emod_of_nonneg (by omega)]; rfl
        have e3 : IntKind.i64.wrap ((x / 4 : Nat) : Int) = ((x / 4 : Nat) : Int) := wrap_i64 (by omega)
        have e4 : IntKind.i64.wrap (24 - IntKind.i64.wrap (8 * ((x % 4 : Nat) : Int))) = ((24 - 8 * (x % 4) : Nat) : Int) := by
          rw [wrap_i64 (n := 8 * ((x % 4 : Nat) : Int)) (by omega), wrap_i64 (by omega)]; omega
        simp only [e1, e2, e3, e4, hP, outL_len, Int.toNat_natCast]
        exact ⟨by omega, by omega, by omega, by omega, by omega, by omega, ⟨wrap_u8_range _, hlt'⟩, x + 1, by omega, by omega, by rw [wrap_i64 (by omega)]; omega, rfl⟩
      · have hx' : x = 32 := by omega
        subst hx'
        exact ⟨outL_len _ _, outL_len _ _, rfl⟩
  · cases he
end Go.Proofs.Ytbkhhfekdpkhbaa.Ab
