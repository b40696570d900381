/- comitialaw2.within, and how a word is turned; no condition. -/
import Derived.Test.YtbkhhfekdpkhbaaBaA
namespace Go.Proofs.Ytbkhhfekdpkhbaa.Ab
open Go
set_option linter.unusedSimpArgs false
set_option linter.unusedVariables false
set_option maxRecDepth 100000

def within (a b : Int) : Int := bif decide (a.tmod b < 0) then IntKind.i64.wrap (a.tmod b + b) else a.tmod b

def sWithin : Sum := { asis := [false, false], flat := true, f := fun k l _ => match k, l with
  | 0, [.v (.int .i64 a), .v (.int .i64 b)] => some { need := b ≠ 0, val := .v (.int .i64 (within a b)) }
  | _, _ => none }

/-- A word turned to the right. -/
def rot (a n : Int) : Int := bitsI .or .u32 (shrI .u32 a n) (shlI .u32 a (32 - n))
def sRotL : Sum := { asis := [false, false], flat := true, f := fun k l _ => match k, l with
  | 0, [.v (.int .u32 a), .v (.int .i64 n)] => some { need := 0 < -n ∧ -n < 32, val := .v (.int .u32 (rot a (-n))) }
  | _, _ => none }
def sRight : Sum := { asis := [false, false], flat := true, f := fun k l _ => match k, l with
  | 0, [.v (.int .u32 a), .v (.int .i64 n)] => some { need := 0 < n ∧ n < 32, val := .v (.int .u32 (rot a n)) }
  | _, _ => none }
def sRot : Sum := { asis := [false, false], flat := true, f := fun k l _ => match k, l with
  | 0, [.v (.int .u32 a), .v (.int .u64 n)] => some { need := 0 < n ∧ n < 32, val := .v (.int .u32 (rot a n)) }
  | _, _ => none }
def begunL : List Int := [1779033703, 3144134277, 1013904242, 2773480762, 1359893119, 2600822924, 528734635, 1541459225]
def sBegun : Sum := { asis := [], flat := true, f := fun k l _ => match k, l with
  | 0, [] => some { need := True, val := .vec (.int .u32) 8 begunL }
  | _, _ => none }

theorem vcWithin (a b r : Int) (heap : Nat → Option Row) :
  goalOf Try.f22 (lookS []) 0 (noS (fun _ => none)) [.v (.int .i64 a), .v (.int .i64 b)] { need := b ≠ 0, val := .v (.int .i64 r) } heap =
  (True ∧ True ∧ True ∧ b ≠ (0 : Int) ∧ True ∧ True ∧ True ∧ bif decide (a.tmod b < (0 : Int)) then True ∧ True ∧ True ∧ True ∧ True ∧ True ∧ (True ∧ True) ∧ True ∧ V.v (Value.int IntKind.i64
  (IntKind.i64.wrap (a.tmod b + b))) = V.v (Value.int IntKind.i64 r) ∧ True else True ∧ True ∧ (True ∧ True) ∧ True ∧ V.v (Value.int IntKind.i64 (a.tmod b)) = V.v (Value.int IntKind.i64 r) ∧ True) := by kernel_rfl

theorem vcRotL (a n r : Int) (p : Prop) (heap : Nat → Option Row) :
  goalOf Try.f164 (lookS []) 0 (noS (fun _ => none)) [.v (.int .u32 a), .v (.int .i64 n)] { need := p, val := .v (.int .u32 r) } heap =
  (True ∧ True ∧ True ∧ True ∧ True ∧ True ∧ True ∧ (0 : Int) ≤ bitsI BinOp.and IntKind.u64 (IntKind.u64.wrap n) (31 : Int) ∧ True ∧ True ∧ True ∧ (0 : Int) ≤ IntKind.u64.wrap ((32 : Int) - bitsI
  BinOp.and IntKind.u64 (IntKind.u64.wrap n) (31 : Int)) ∧ True ∧ True ∧ (True ∧ True) ∧ True ∧ V.v (Value.int IntKind.u32 (bitsI BinOp.or IntKind.u32 (shlI IntKind.u32 a (bitsI BinOp.and IntKind.u64
  (IntKind.u64.wrap n) (31 : Int))) (shrI IntKind.u32 a (IntKind.u64.wrap ((32 : Int) - bitsI BinOp.and IntKind.u64 (IntKind.u64.wrap n) (31 : Int)))))) = V.v (Value.int IntKind.u32 r) ∧ True) := by kernel_rfl

theorem vcRight (a n r : Int) (p : Prop) (heap : Nat → Option Row) :
  goalOf Try.f133 (lookS [(164, sRotL)]) 0 (noS (fun _ => none)) [.v (.int .u32 a), .v (.int .i64 n)] { need := p, val := .v (.int .u32 r) } heap =
  (True ∧ True ∧ True ∧ True ∧ ((True ∧ True ∧ True) ∧ (0 : Int) < -IntKind.i64.wrap ((0 : Int) - n) ∧ -IntKind.i64.wrap ((0 : Int) - n) < (32 : Int)) ∧ True ∧ (True ∧ True) ∧ True ∧ V.v (Value.int
  IntKind.u32 (rot a (-IntKind.i64.wrap ((0 : Int) - n)))) = V.v (Value.int IntKind.u32 r) ∧ True) := by kernel_rfl

theorem vcRot (a n r : Int) (p : Prop) (heap : Nat → Option Row) :
  goalOf Try.f78 (lookS []) 0 (noS (fun _ => none)) [.v (.int .u32 a), .v (.int .u64 n)] { need := p, val := .v (.int .u32 r) } heap =
  (True ∧ True ∧ True ∧ (0 : Int) ≤ n ∧ True ∧ True ∧ True ∧ (0 : Int) ≤ IntKind.u64.wrap ((32 : Int) - n) ∧ True ∧ True ∧ (True ∧ True) ∧ True ∧ V.v (Value.int IntKind.u32 (bitsI BinOp.or IntKind.u32
  (shrI IntKind.u32 a n) (shlI IntKind.u32 a (IntKind.u64.wrap ((32 : Int) - n))))) = V.v (Value.int IntKind.u32 r) ∧ True) := by kernel_rfl

theorem vcBegun (p : Prop) (r : List Int) (heap : Nat → Option Row) :
  goalOf Try.f73 (lookS []) 0 (noS (fun _ => none)) [] { need := p, val := .vec (.int .u32) 8 r } heap =
  (True ∧ True ∧ ((True ∧ True ∧ True ∧ True ∧ True ∧ True ∧ True ∧ True ∧ True) ∧ (8 : Nat) = (8 : Nat)) ∧ ((8 : Nat) = (8 : Nat) ∧ True) ∧ True ∧ V.vec (DT.int IntKind.u32) (8 : Nat) [(1779033703 :
  Int), (3144134277 : Int), (1013904242 : Int), (2773480762 : Int), (1359893119 : Int), (2600822924 : Int), (528734635 : Int), (1541459225 : Int)] = V.vec (DT.int IntKind.u32) (8 : Nat) r ∧ True) := by kernel_rfl


theorem okWithin : SumOK Try.prog 22 sWithin := by
  refine fn_ok0 Try.func22 (c := Try.f22.body.getD .skip) (by kernel_rfl) (by kernel_rfl) ok0 ?_
  intro k l heap e he hn hin
  clear hin
  simp only [sWithin] at he
  split at he
  · rename_i a b
    cases he
    refine ⟨_, rfl, Eq.mpr (vcWithin a b (within a b) heap) ?_⟩
    simp only [true_and, and_true]
    refine ⟨hn, ?_⟩
    unfold within
    cases decide (a.tmod b < 0) <;> rfl
  · cases he

theorem or_comm (k : IntKind) (a b : Int) : bitsI .or k a b = bitsI .or k b a := by
  unfold bitsI
  simp only [BitVec.or_comm]

theorem small32 {n : Int} (h : 0 < n ∧ n < 32) : n = 1 ∨ n = 2 ∨ n = 3 ∨ n = 4 ∨ n = 5 ∨ n = 6 ∨ n = 7 ∨ n = 8 ∨ n = 9 ∨ n = 10 ∨ n = 11 ∨ n = 12 ∨ n = 13 ∨ n = 14 ∨ n = 15 ∨ n = 16 ∨ n = 17 ∨ n = 18 ∨ n = 19 ∨ n = 20 ∨ n = 21 ∨ n = 22 ∨ n = 23 ∨ n = 24 ∨ n = 25 ∨ n = 26 ∨ n = 27 ∨ n = 28 ∨ n = 29 ∨ n = 30 ∨ n = 31 := by omega

theorem turn31 {m : Int} (h : 0 < m ∧ m < 32) : bitsI BinOp.and IntKind.u64 (IntKind.u64.wrap (-m)) (31 : Int) = 32 - m ∧ IntKind.u64.wrap ((32 : Int) - (32 - m)) = m := by
  rcases small32 h with h | h | h | h | h | h | h | h | h | h | h | h | h | h | h | h | h | h | h | h | h | h | h | h | h | h | h | h | h | h | h <;> subst h <;> decide

theorem okRotL : SumOK Try.prog 164 sRotL := by
  refine fn_ok0 Try.func164 (c := Try.f164.body.getD .skip) (by kernel_rfl) (by kernel_rfl) ok0 ?_
  intro k l heap e he hn hin
  clear hin
  simp only [sRotL] at he
  split at he
  · rename_i a n
    cases he
    refine ⟨_, rfl, Eq.mpr (vcRotL a n (rot a (-n)) _ heap) ?_⟩
    simp only [true_and, and_true]
    obtain ⟨m, rfl⟩ : ∃ m, n = -m := ⟨-n, by omega⟩
    rw [Int.neg_neg] at *
    obtain ⟨h1, h2⟩ := turn31 hn
    rw [h1, h2]
    have hn' : 0 < m ∧ m < 32 := hn
    refine ⟨by omega, by omega, ?_⟩
    unfold rot
    rw [or_comm]
  · cases he

theorem okRight : SumOK Try.prog 133 sRight := by
  refine fn_ok0 Try.func133 (c := Try.f133.body.getD .skip) (by kernel_rfl) (by kernel_rfl) (ok1 okRotL ok0) ?_
  intro k l heap e he hn hin
  clear hin
  simp only [sRight] at he
  split at he
  · rename_i a n
    cases he
    refine ⟨_, rfl, Eq.mpr (vcRight a n (rot a n) _ heap) ?_⟩
    simp only [true_and, and_true]
    have hn' : 0 < n ∧ n < 32 := hn
    have h1 : IntKind.i64.wrap (0 - n) = -n := by rw [wrap_i64 (by omega)]; omega
    rw [h1, Int.neg_neg]
    exact ⟨hn', rfl⟩
  · cases he

theorem okRot : SumOK Try.prog 78 sRot := by
  refine fn_ok0 Try.func78 (c := Try.f78.body.getD .skip) (by kernel_rfl) (by kernel_rfl) ok0 ?_
  intro k l heap e he hn hin
  clear hin
  simp only [sRot] at he
  split at he
  · rename_i a n
    cases he
    refine ⟨_, rfl, Eq.mpr (vcRot a n (rot a n) _ heap) ?_⟩
    simp only [true_and, and_true]
    have hn' : 0 < n ∧ n < 32 := hn
    rw [wrap_u64 (by omega)]
    exact ⟨by omega, by omega, rfl⟩
  · cases he

theorem okBegun : SumOK Try.prog 73 sBegun := by
  refine fn_ok0 Try.func73 (c := Try.f73.body.getD .skip) (by kernel_rfl) (by kernel_rfl) ok0 ?_
  intro k l heap e he hn hin
  clear hin
  simp only [sBegun] at he
  split at he
  · cases he
    refine ⟨_, rfl, Eq.mpr (vcBegun _ _ heap) ?_⟩
    simp only [true_and, and_true]
    rfl
  · cases he
end Go.Proofs.Ytbkhhfekdpkhbaa.Ab
