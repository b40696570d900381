/- A piece is taken into a sum; no condition. -/
import Derived.Test.YtbkhhfekdpkhbaaBaC
namespace Go.Proofs.Ytbkhhfekdpkhbaa.Ab
open Go
set_option linter.unusedSimpArgs false
set_option linter.unusedVariables false
set_option maxRecDepth 100000

def chW (e f g : Int) : Int := bitsI .xor .u32 (bitsI .and .u32 e f) (bitsI .and .u32 (bitsI .xor .u32 IntKind.u32.max e) g)
def majW (a b c : Int) : Int := bitsI .xor .u32 (bitsI .xor .u32 (bitsI .and .u32 a b) (bitsI .and .u32 a c)) (bitsI .and .u32 b c)
def big1 (e : Int) : Int := bitsI .xor .u32 (bitsI .xor .u32 (rot e 6) (rot e 11)) (rot e 25)
def big0 (a : Int) : Int := bitsI .xor .u32 (bitsI .xor .u32 (rot a 2) (rot a 13)) (rot a 22)
def txW (t : List Int) (k w : Int) : Int := addW (addW (addW (addW (t.getD 7 0) (big1 (t.getD 4 0))) (chW (t.getD 4 0) (t.getD 5 0) (t.getD 6 0))) k) w
def tyW (t : List Int) : Int := addW (big0 (t.getD 0 0)) (majW (t.getD 0 0) (t.getD 1 0) (t.getD 2 0))
/-- A round. -/
def roundL (t : List Int) (k w : Int) : List Int := [addW (txW t k w) (tyW t), t.getD 0 0, t.getD 1 0, t.getD 2 0, addW (t.getD 3 0) (txW t k w), t.getD 4 0, t.getD 5 0, t.getD 6 0]
def roundsL (w t : List Int) : Nat → List Int
  | 0 => t
  | i + 1 => roundL (roundsL w t i) (keysL.getD i 0) (w.getD i 0)
def plus8 (s t : List Int) : Nat → List Int
  | 0 => t
  | i + 1 => (plus8 s t i).set i (addW ((plus8 s t i).getD i 0) (s.getD i 0))
def sum8 (s t : List Int) : List Int := [addW (s.getD 0 0) (t.getD 0 0), addW (s.getD 1 0) (t.getD 1 0), addW (s.getD 2 0) (t.getD 2 0), addW (s.getD 3 0) (t.getD 3 0), addW (s.getD 4 0) (t.getD 4 0), addW (s.getD 5 0) (t.getD 5 0), addW (s.getD 6 0) (t.getD 6 0), addW (s.getD 7 0) (t.getD 7 0)]
/-- A piece is taken. -/
def addL (s : List Int) (b : List UInt8) : List Int := sum8 s (roundsL (spreadL b) s 64)

noncomputable def lamAdd (s : List Int) (xs : List UInt8) : Nat → Option Lp
  | 4 => some (.inv { α := Nat, inv := fun i => i ≤ 64, mu := fun i => 64 - i, base := 500000, st := fun i => { env := [(2, .ptr 500000 0), (4, .ptr 500001 0), (5, .ptr 500002 0), (6, .ptr 500003 0), (7, .ptr 500004 0), (18, .v (.int .i64 (i : Int)))], rows := [.arr 119 (.int .u32) s, .arr 119 (.int .u32) (List.replicate 8 (0 : Int)), .arr 124 (.int .u32) (spreadL xs), .arr 124 (.int .u32) keysL, .arr 119 (.int .u32) (roundsL (spreadL xs) s i)], ents := [] } })
  | 12 => some (.inv { α := Nat, inv := fun i => i ≤ 8, mu := fun i => 8 - i, base := 500000, st := fun i => { env := [(2, .ptr 500000 0), (4, .ptr 500001 0), (7, .ptr 500002 0), (100, .v (.int .i64 (i : Int)))], rows := [.arr 119 (.int .u32) s, .arr 119 (.int .u32) (List.replicate 8 (0 : Int)), .arr 119 (.int .u32) (plus8 s (roundsL (spreadL xs) s 64) i)], ents := [] } })
  | _ => none

def sAdd : Sum := { asis := [false, false], flat := true, f := fun k l _ => match k, l with
  | 0, [.vec (.int .u32) 8 s, .deep .u8 xs] => some { need := s.length = 8 ∧ xs.length = 64, val := .vec (.int .u32) 8 (addL s xs) }
  | _, _ => none }

theorem vcAdd (s : List Int) (xs : List UInt8) (r : List Int) (p : Prop) (heap : Nat → Option Row) :
  goalOf Try.f76 (lookS [(133, sRight), (131, sSpread), (132, sKeys)]) 0 (noS (lamAdd s xs)) [.vec (.int .u32) 8 s, .deep .u8 xs] { need := p, val := .vec (.int .u32) 8 r } heap =
  (True ∧ True ∧ True ∧ ((True ∧ True) ∧ xs.length = (64 : Nat)) ∧ (True ∧ True) ∧ True ∧ True ∧ (64 : Nat) = (64 : Nat) ∧ (64 : Nat) = (64 : Nat) ∧ s.length = (8 : Nat) ∧ True ∧ (8 : Nat) = (8 : Nat) ∧
  True ∧ (∃ (x : Nat), x ≤ (64 : Nat) ∧ (V.ptr (500000 : Nat) (0 : Nat) = V.ptr (500000 : Nat) (0 : Nat) ∧ V.ptr (500001 : Nat) (0 : Nat) = V.ptr (500001 : Nat) (0 : Nat) ∧ V.ptr (500002 : Nat) (0 :
  Nat) = V.ptr (500002 : Nat) (0 : Nat) ∧ V.ptr (500003 : Nat) (0 : Nat) = V.ptr (500003 : Nat) (0 : Nat) ∧ V.ptr (500004 : Nat) (0 : Nat) = V.ptr (500004 : Nat) (0 : Nat) ∧ V.v (Value.int IntKind.i64
  (0 : Int)) = V.v (Value.int IntKind.i64 (↑x : Int))) ∧ (Row.arr (119 : Nat) (DT.int IntKind.u32) s = Row.arr (119 : Nat) (DT.int IntKind.u32) s ∧ Row.arr (119 : Nat) (DT.int IntKind.u32)
  (List.replicate (8 : Nat) (0 : Int)) = Row.arr (119 : Nat) (DT.int IntKind.u32) (List.replicate (8 : Nat) (0 : Int)) ∧ Row.arr (124 : Nat) (DT.int IntKind.u32) (spreadL xs) = Row.arr (124 : Nat)
  (DT.int IntKind.u32) (spreadL xs) ∧ Row.arr (124 : Nat) (DT.int IntKind.u32) keysL = Row.arr (124 : Nat) (DT.int IntKind.u32) keysL ∧ Row.arr (119 : Nat) (DT.int IntKind.u32) s = Row.arr (119 : Nat)
  (DT.int IntKind.u32) (roundsL (spreadL xs) s x)) ∧ True) ∧ ∀ (x : Nat), x ≤ (64 : Nat) → True ∧ bif decide ((↑x : Int) < (64 : Int)) then True ∧ True ∧ ((0 : Int) ≤ (4 : Int) ∧ (4 : Int) < (↑(8 : Nat)
  : Int)) ∧ Int.toNat (4 : Int) < (roundsL (spreadL xs) s x).length ∧ ((0 : Int) ≤ (0 : Int) ∧ (0 : Int) < (↑(8 : Nat) : Int)) ∧ Int.toNat (0 : Int) < (roundsL (spreadL xs) s x).length ∧ True ∧ True ∧
  ((0 : Int) ≤ (7 : Int) ∧ (7 : Int) < (↑(8 : Nat) : Int)) ∧ Int.toNat (7 : Int) < (roundsL (spreadL xs) s x).length ∧ True ∧ ((True ∧ True ∧ True) ∧ (0 : Int) < (6 : Int) ∧ (6 : Int) < (32 : Int)) ∧
  True ∧ ((True ∧ True ∧ True) ∧ (0 : Int) < (11 : Int) ∧ (11 : Int) < (32 : Int)) ∧ True ∧ True ∧ ((True ∧ True ∧ True) ∧ (0 : Int) < (25 : Int) ∧ (25 : Int) < (32 : Int)) ∧ True ∧ True ∧ True ∧ ((0 :
  Int) ≤ (5 : Int) ∧ (5 : Int) < (↑(8 : Nat) : Int)) ∧ Int.toNat (5 : Int) < (roundsL (spreadL xs) s x).length ∧ True ∧ True ∧ True ∧ ((0 : Int) ≤ (6 : Int) ∧ (6 : Int) < (↑(8 : Nat) : Int)) ∧ Int.toNat
  (6 : Int) < (roundsL (spreadL xs) s x).length ∧ True ∧ True ∧ True ∧ True ∧ ((0 : Int) ≤ (↑x : Int) ∧ (↑x : Int) < (↑(64 : Nat) : Int)) ∧ (↑x : Int).toNat < keysL.length ∧ True ∧ True ∧ ((0 : Int) ≤
  (↑x : Int) ∧ (↑x : Int) < (↑(64 : Nat) : Int)) ∧ (↑x : Int).toNat < (spreadL xs).length ∧ True ∧ True ∧ True ∧ ((True ∧ True ∧ True) ∧ (0 : Int) < (2 : Int) ∧ (2 : Int) < (32 : Int)) ∧ True ∧ ((True ∧
  True ∧ True) ∧ (0 : Int) < (13 : Int) ∧ (13 : Int) < (32 : Int)) ∧ True ∧ True ∧ ((True ∧ True ∧ True) ∧ (0 : Int) < (22 : Int) ∧ (22 : Int) < (32 : Int)) ∧ True ∧ True ∧ ((0 : Int) ≤ (1 : Int) ∧ (1 :
  Int) < (↑(8 : Nat) : Int)) ∧ Int.toNat (1 : Int) < (roundsL (spreadL xs) s x).length ∧ True ∧ True ∧ ((0 : Int) ≤ (2 : Int) ∧ (2 : Int) < (↑(8 : Nat) : Int)) ∧ Int.toNat (2 : Int) < (roundsL (spreadL
  xs) s x).length ∧ True ∧ True ∧ ((0 : Int) ≤ (1 : Int) ∧ (1 : Int) < (↑(8 : Nat) : Int)) ∧ Int.toNat (1 : Int) < (roundsL (spreadL xs) s x).length ∧ ((0 : Int) ≤ (2 : Int) ∧ (2 : Int) < (↑(8 : Nat) :
  Int)) ∧ Int.toNat (2 : Int) < (roundsL (spreadL xs) s x).length ∧ True ∧ True ∧ True ∧ True ∧ True ∧ True ∧ True ∧ ((0 : Int) ≤ (0 : Int) ∧ (0 : Int) < (↑(8 : Nat) : Int)) ∧ Int.toNat (0 : Int) <
  (roundsL (spreadL xs) s x).length ∧ ((0 : Int) ≤ (1 : Int) ∧ (1 : Int) < (↑(8 : Nat) : Int)) ∧ Int.toNat (1 : Int) < (roundsL (spreadL xs) s x).length ∧ ((0 : Int) ≤ (2 : Int) ∧ (2 : Int) < (↑(8 :
  Nat) : Int)) ∧ Int.toNat (2 : Int) < (roundsL (spreadL xs) s x).length ∧ ((0 : Int) ≤ (3 : Int) ∧ (3 : Int) < (↑(8 : Nat) : Int)) ∧ Int.toNat (3 : Int) < (roundsL (spreadL xs) s x).length ∧ True ∧
  True ∧ ((0 : Int) ≤ (4 : Int) ∧ (4 : Int) < (↑(8 : Nat) : Int)) ∧ Int.toNat (4 : Int) < (roundsL (spreadL xs) s x).length ∧ ((0 : Int) ≤ (5 : Int) ∧ (5 : Int) < (↑(8 : Nat) : Int)) ∧ Int.toNat (5 :
  Int) < (roundsL (spreadL xs) s x).length ∧ ((0 : Int) ≤ (6 : Int) ∧ (6 : Int) < (↑(8 : Nat) : Int)) ∧ Int.toNat (6 : Int) < (roundsL (spreadL xs) s x).length ∧ True ∧ ((True ∧ True ∧ True ∧ True ∧
  True ∧ True ∧ True ∧ True ∧ True) ∧ (roundsL (spreadL xs) s x).length = (8 : Nat)) ∧ True ∧ True ∧ ∃ (y : Nat), y ≤ (64 : Nat) ∧ (64 : Nat) - y < (64 : Nat) - x ∧ (V.ptr (500000 : Nat) (0 : Nat) =
  V.ptr (500000 : Nat) (0 : Nat) ∧ V.ptr (500001 : Nat) (0 : Nat) = V.ptr (500001 : Nat) (0 : Nat) ∧ V.ptr (500002 : Nat) (0 : Nat) = V.ptr (500002 : Nat) (0 : Nat) ∧ V.ptr (500003 : Nat) (0 : Nat) =
  V.ptr (500003 : Nat) (0 : Nat) ∧ V.ptr (500004 : Nat) (0 : Nat) = V.ptr (500004 : Nat) (0 : Nat) ∧ V.v (Value.int IntKind.i64 (IntKind.i64.wrap ((↑x : Int) + (1 : Int)))) = V.v (Value.int IntKind.i64
  (↑y : Int))) ∧ (Row.arr (119 : Nat) (DT.int IntKind.u32) s = Row.arr (119 : Nat) (DT.int IntKind.u32) s ∧ Row.arr (119 : Nat) (DT.int IntKind.u32) (List.replicate (8 : Nat) (0 : Int)) = Row.arr (119 :
  Nat) (DT.int IntKind.u32) (List.replicate (8 : Nat) (0 : Int)) ∧ Row.arr (124 : Nat) (DT.int IntKind.u32) (spreadL xs) = Row.arr (124 : Nat) (DT.int IntKind.u32) (spreadL xs) ∧ Row.arr (124 : Nat)
  (DT.int IntKind.u32) keysL = Row.arr (124 : Nat) (DT.int IntKind.u32) keysL ∧ Row.arr (119 : Nat) (DT.int IntKind.u32) [IntKind.u32.wrap (IntKind.u32.wrap (IntKind.u32.wrap (IntKind.u32.wrap
  (IntKind.u32.wrap ((roundsL (spreadL xs) s x).getD (Int.toNat (7 : Int)) (0 : Int) + bitsI BinOp.xor IntKind.u32 (bitsI BinOp.xor IntKind.u32 (rot ((roundsL (spreadL xs) s x).getD (Int.toNat (4 :
  Int)) (0 : Int)) (6 : Int)) (rot ((roundsL (spreadL xs) s x).getD (Int.toNat (4 : Int)) (0 : Int)) (11 : Int))) (rot ((roundsL (spreadL xs) s x).getD (Int.toNat (4 : Int)) (0 : Int)) (25 : Int))) +
  bitsI BinOp.xor IntKind.u32 (bitsI BinOp.and IntKind.u32 ((roundsL (spreadL xs) s x).getD (Int.toNat (4 : Int)) (0 : Int)) ((roundsL (spreadL xs) s x).getD (Int.toNat (5 : Int)) (0 : Int))) (bitsI
  BinOp.and IntKind.u32 (bitsI BinOp.xor IntKind.u32 (if IntKind.u32.signed = true then (-1 : Int) else IntKind.u32.max) ((roundsL (spreadL xs) s x).getD (Int.toNat (4 : Int)) (0 : Int))) ((roundsL
  (spreadL xs) s x).getD (Int.toNat (6 : Int)) (0 : Int)))) + keysL.getD (↑x : Int).toNat (0 : Int)) + (spreadL xs).getD (↑x : Int).toNat (0 : Int)) + IntKind.u32.wrap (bitsI BinOp.xor IntKind.u32
  (bitsI BinOp.xor IntKind.u32 (rot ((roundsL (spreadL xs) s x).getD (Int.toNat (0 : Int)) (0 : Int)) (2 : Int)) (rot ((roundsL (spreadL xs) s x).getD (Int.toNat (0 : Int)) (0 : Int)) (13 : Int))) (rot
  ((roundsL (spreadL xs) s x).getD (Int.toNat (0 : Int)) (0 : Int)) (22 : Int)) + bitsI BinOp.xor IntKind.u32 (bitsI BinOp.xor IntKind.u32 (bitsI BinOp.and IntKind.u32 ((roundsL (spreadL xs) s x).getD
  (Int.toNat (0 : Int)) (0 : Int)) ((roundsL (spreadL xs) s x).getD (Int.toNat (1 : Int)) (0 : Int))) (bitsI BinOp.and IntKind.u32 ((roundsL (spreadL xs) s x).getD (Int.toNat (0 : Int)) (0 : Int))
  ((roundsL (spreadL xs) s x).getD (Int.toNat (2 : Int)) (0 : Int)))) (bitsI BinOp.and IntKind.u32 ((roundsL (spreadL xs) s x).getD (Int.toNat (1 : Int)) (0 : Int)) ((roundsL (spreadL xs) s x).getD
  (Int.toNat (2 : Int)) (0 : Int))))), (roundsL (spreadL xs) s x).getD (Int.toNat (0 : Int)) (0 : Int), (roundsL (spreadL xs) s x).getD (Int.toNat (1 : Int)) (0 : Int), (roundsL (spreadL xs) s x).getD
  (Int.toNat (2 : Int)) (0 : Int), IntKind.u32.wrap ((roundsL (spreadL xs) s x).getD (Int.toNat (3 : Int)) (0 : Int) + IntKind.u32.wrap (IntKind.u32.wrap (IntKind.u32.wrap (IntKind.u32.wrap ((roundsL
  (spreadL xs) s x).getD (Int.toNat (7 : Int)) (0 : Int) + bitsI BinOp.xor IntKind.u32 (bitsI BinOp.xor IntKind.u32 (rot ((roundsL (spreadL xs) s x).getD (Int.toNat (4 : Int)) (0 : Int)) (6 : Int)) (rot
  ((roundsL (spreadL xs) s x).getD (Int.toNat (4 : Int)) (0 : Int)) (11 : Int))) (rot ((roundsL (spreadL xs) s x).getD (Int.toNat (4 : Int)) (0 : Int)) (25 : Int))) + bitsI BinOp.xor IntKind.u32 (bitsI
  BinOp.and IntKind.u32 ((roundsL (spreadL xs) s x).getD (Int.toNat (4 : Int)) (0 : Int)) ((roundsL (spreadL xs) s x).getD (Int.toNat (5 : Int)) (0 : Int))) (bitsI BinOp.and IntKind.u32 (bitsI BinOp.xor
  IntKind.u32 (if IntKind.u32.signed = true then (-1 : Int) else IntKind.u32.max) ((roundsL (spreadL xs) s x).getD (Int.toNat (4 : Int)) (0 : Int))) ((roundsL (spreadL xs) s x).getD (Int.toNat (6 :
  Int)) (0 : Int)))) + keysL.getD (↑x : Int).toNat (0 : Int)) + (spreadL xs).getD (↑x : Int).toNat (0 : Int))), (roundsL (spreadL xs) s x).getD (Int.toNat (4 : Int)) (0 : Int), (roundsL (spreadL xs) s
  x).getD (Int.toNat (5 : Int)) (0 : Int), (roundsL (spreadL xs) s x).getD (Int.toNat (6 : Int)) (0 : Int)] = Row.arr (119 : Nat) (DT.int IntKind.u32) (roundsL (spreadL xs) s y)) ∧ True else True ∧ (∃
  (x_1 : Nat), x_1 ≤ (8 : Nat) ∧ (V.ptr (500000 : Nat) (0 : Nat) = V.ptr (500000 : Nat) (0 : Nat) ∧ V.ptr (500001 : Nat) (0 : Nat) = V.ptr (500001 : Nat) (0 : Nat) ∧ V.ptr (500002 : Nat) (0 : Nat) =
  V.ptr (500002 : Nat) (0 : Nat) ∧ V.v (Value.int IntKind.i64 (0 : Int)) = V.v (Value.int IntKind.i64 (↑x_1 : Int))) ∧ (Row.arr (119 : Nat) (DT.int IntKind.u32) s = Row.arr (119 : Nat) (DT.int
  IntKind.u32) s ∧ Row.arr (119 : Nat) (DT.int IntKind.u32) (List.replicate (8 : Nat) (0 : Int)) = Row.arr (119 : Nat) (DT.int IntKind.u32) (List.replicate (8 : Nat) (0 : Int)) ∧ Row.arr (119 : Nat)
  (DT.int IntKind.u32) (roundsL (spreadL xs) s x) = Row.arr (119 : Nat) (DT.int IntKind.u32) (plus8 s (roundsL (spreadL xs) s (64 : Nat)) x_1)) ∧ True) ∧ ∀ (x : Nat), x ≤ (8 : Nat) → True ∧ bif decide
  ((↑x : Int) < (8 : Int)) then True ∧ True ∧ True ∧ ((0 : Int) ≤ (↑x : Int) ∧ (↑x : Int) < (↑(8 : Nat) : Int)) ∧ (↑x : Int).toNat < (plus8 s (roundsL (spreadL xs) s (64 : Nat)) x).length ∧ True ∧ ((0 :
  Int) ≤ (↑x : Int) ∧ (↑x : Int) < (↑(8 : Nat) : Int)) ∧ (↑x : Int).toNat < s.length ∧ True ∧ ((0 : Int) ≤ (↑x : Int) ∧ (↑x : Int) < (↑(8 : Nat) : Int)) ∧ ((True ∧ True) ∧ True ∧ (↑x : Int).toNat <
  (plus8 s (roundsL (spreadL xs) s (64 : Nat)) x).length) ∧ True ∧ True ∧ ∃ (y : Nat), y ≤ (8 : Nat) ∧ (8 : Nat) - y < (8 : Nat) - x ∧ (V.ptr (500000 : Nat) (0 : Nat) = V.ptr (500000 : Nat) (0 : Nat) ∧
  V.ptr (500001 : Nat) (0 : Nat) = V.ptr (500001 : Nat) (0 : Nat) ∧ V.ptr (500002 : Nat) (0 : Nat) = V.ptr (500002 : Nat) (0 : Nat) ∧ V.v (Value.int IntKind.i64 (IntKind.i64.wrap ((↑x : Int) + (1 :
  Int)))) = V.v (Value.int IntKind.i64 (↑y : Int))) ∧ (Row.arr (119 : Nat) (DT.int IntKind.u32) s = Row.arr (119 : Nat) (DT.int IntKind.u32) s ∧ Row.arr (119 : Nat) (DT.int IntKind.u32) (List.replicate
  (8 : Nat) (0 : Int)) = Row.arr (119 : Nat) (DT.int IntKind.u32) (List.replicate (8 : Nat) (0 : Int)) ∧ Row.arr (119 : Nat) (DT.int IntKind.u32) ((plus8 s (roundsL (spreadL xs) s (64 : Nat)) x).set (↑x
  : Int).toNat (IntKind.u32.wrap ((plus8 s (roundsL (spreadL xs) s (64 : Nat)) x).getD (↑x : Int).toNat (0 : Int) + s.getD (↑x : Int).toNat (0 : Int)))) = Row.arr (119 : Nat) (DT.int IntKind.u32) (plus8
  s (roundsL (spreadL xs) s (64 : Nat)) y)) ∧ True else (plus8 s (roundsL (spreadL xs) s (64 : Nat)) x).length = (8 : Nat) ∧ (8 : Nat) = (8 : Nat) ∧ ((plus8 s (roundsL (spreadL xs) s (64 : Nat))
  x).length = (8 : Nat) ∧ True) ∧ True ∧ V.vec (DT.int IntKind.u32) (8 : Nat) (plus8 s (roundsL (spreadL xs) s (64 : Nat)) x) = V.vec (DT.int IntKind.u32) (8 : Nat) r ∧ True) := by kernel_rfl


theorem roundsL_len (w t : List Int) (h : t.length = 8) : ∀ i, (roundsL w t i).length = 8
  | 0 => h
  | i + 1 => rfl
theorem plus8_len (s t : List Int) : ∀ i, (plus8 s t i).length = t.length
  | 0 => rfl
  | i + 1 => by simp only [plus8, List.length_set, plus8_len s t i]
theorem addW_comm (a b : Int) : addW a b = addW b a := by unfold addW; rw [Int.add_comm]
theorem len8 {l : List Int} (h : l.length = 8) : ∃ a b c d e f g i, l = [a, b, c, d, e, f, g, i] := by
  match l, h with
  | [a, b, c, d, e, f, g, i], _ => exact ⟨a, b, c, d, e, f, g, i, rfl⟩
theorem plus8_eq (s t : List Int) (hs : s.length = 8) (ht : t.length = 8) : plus8 s t 8 = sum8 s t := by
  obtain ⟨a, b, c, d, e, f, g, i, rfl⟩ := len8 hs
  obtain ⟨a', b', c', d', e', f', g', i', rfl⟩ := len8 ht
  simp [plus8, sum8, List.getD, addW_comm]

theorem okAdd : SumOK Try.prog 76 sAdd := by
  refine fn_ok0 Try.func76 (c := Try.f76.body.getD .skip) (by kernel_rfl) (by kernel_rfl) (ok1 okRight (ok1 okSpread (ok1 okKeys ok0))) ?_
  intro k l heap e he hn hin
  clear hin
  simp only [sAdd] at he
  split at he
  · rename_i s xs
    cases he
    obtain ⟨hs, hlen⟩ : s.length = 8 ∧ xs.length = 64 := hn
    refine ⟨_, rfl, Eq.mpr (vcAdd s xs (addL s xs) _ heap) ?_⟩
    simp only [true_and, and_true, V.v.injEq, V.b.injEq, V.deep.injEq, V.agg.injEq, V.vec.injEq, V.tup.injEq, V.ow.injEq, V.own.injEq, V.ptr.injEq, V.fl.injEq, V.cx.injEq, Row.arr.injEq, Row.buf.injEq, Row.lit.injEq, Value.int.injEq, Value.bool.injEq, Value.string.injEq, Option.some.injEq, List.cons.injEq, heq_eq_eq]
    refine ⟨hlen, hs, ⟨0, by omega, rfl, rfl⟩, fun x hx => cond_dec (fun hlt => ?_) (fun hge => ?_)⟩
    · have hr := roundsL_len (spreadL xs) s hs x
      have hk : keysL.length = 64 := rfl
      have hw := spreadL_len xs
      and_intros
      all_goals first | omega | skip
      exact ⟨x + 1, by omega, by omega, by rw [wrap_i64 (by omega)]; omega, rfl⟩
    · have hx64 : x = 64 := by omega
      subst hx64
      have hr := roundsL_len (spreadL xs) s hs 64
      refine ⟨⟨0, by omega, rfl, rfl⟩, fun x hx => cond_dec (fun hlt => ?_) (fun hge => ?_)⟩
      · have hp := plus8_len s (roundsL (spreadL xs) s 64) x
        and_intros
        all_goals first | omega | skip
        exact ⟨x + 1, by omega, by omega, by rw [wrap_i64 (by omega)]; omega, rfl⟩
      · have hx8 : x = 8 := by omega
        subst hx8
        have hp := plus8_len s (roundsL (spreadL xs) s 64) 8
        exact ⟨by omega, by omega, plus8_eq s _ hs hr⟩
  · cases he
end Go.Proofs.Ytbkhhfekdpkhbaa.Ab
