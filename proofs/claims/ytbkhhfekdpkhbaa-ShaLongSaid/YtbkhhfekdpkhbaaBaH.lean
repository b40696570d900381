/- comitiaref2.Sum; no condition. -/
import Derived.Test.YtbkhhfekdpkhbaaBaG
namespace Go.Proofs.Ytbkhhfekdpkhbaa.Ab
open Go
set_option linter.unusedSimpArgs false
set_option linter.unusedVariables false
set_option maxRecDepth 100000

def pieceAt (b : List UInt8) (n : Nat) : List UInt8 := ((padL b).drop n).take 64
def piece (b : List UInt8) (p : Nat) : List UInt8 := pieceAt b (64 * p)
def sRefSum : Sum := { asis := [false], flat := true, f := fun k l _ => match k, l with
  | 0, [x] => match decD .u8 x with
    | some b => some { need := b.length ≤ 140737488355000, val := .vec .u8 32 (shaL b) }
    | none => none
  | _, _ => none }
/-- The words, upon whatever stood there. -/
def wordsOn (b : List UInt8) (p : Nat) (w : List Int) : List Int := more (first (piece b p) w 16) 48

noncomputable def lamRef (b : List UInt8) (n : Nat) (S : St) : Option Lp := match n with
  | 5 => some (.inv { α := Nat, inv := fun i => i ≤ zpad b.length, mu := fun i => zpad b.length - i, base := 500000, st := fun i => { env := [(0, .deep .u8 b), (2, .ptr 500000 0), (3, .ptr 500001 0), (4, .ptr 500002 0), (5, .ow 500003)], rows := [.arr 26 .u8 (List.replicate 32 (0 : UInt8)), .arr 124 (.int .u32) keysL, .arr 118 (.int .u32) begunL, .buf 5 .u8 (b ++ [128] ++ List.replicate i 0)], ents := [] } })
  | 9 => some (.inv { α := Nat, inv := fun i => i ≤ 8, mu := fun i => 8 - i, base := 500000, st := fun i => { env := [(2, .ptr 500000 0), (3, .ptr 500001 0), (4, .ptr 500002 0), (5, .ow 500003), (6, .v (.int .u64 (bits b))), (7, .v (.int .i64 (7 - (i : Int))))], rows := [.arr 26 .u8 (List.replicate 32 (0 : UInt8)), .arr 124 (.int .u32) keysL, .arr 118 (.int .u32) begunL, .buf 5 .u8 (b ++ [128] ++ List.replicate (zpad b.length) 0 ++ lens (bits b) i)], ents := [] } })
  | 14 => some (.inv { α := Nat × List Int, inv := fun x => x.1 ≤ rounds b ∧ x.2.length = 64, mu := fun x => rounds b - x.1, base := 500000, st := fun x => { env := [(2, .ptr 500000 0), (3, .ptr 500001 0), (4, .ptr 500002 0), (5, .ow 500003), (8, .ptr 500004 0), (9, .v (.int .i64 ((64 * x.1 : Nat) : Int)))], rows := [.arr 26 .u8 (List.replicate 32 (0 : UInt8)), .arr 124 (.int .u32) keysL, .arr 118 (.int .u32) (pieces begunL (padL b) x.1), .buf 5 .u8 (padL b), .arr 124 (.int .u32) x.2], ents := [] } })
  | 17 => some (.inv { α := Nat, inv := fun i => i ≤ 16, mu := fun i => 16 - i, base := 500000, st := fun i => keepLS S 500000 [2, 3, 4, 5, 8, 9] [(10, .v (.int .i64 (i : Int)))] [(nameV (S.env 8), .arr 124 (.int .u32) (first (pieceAt b (getI (S.env 9)).toNat) (rowI (S.heap (nameV (S.env 8)))) i))] })
  | 22 => some (.inv { α := Nat, inv := fun i => i ≤ 48, mu := fun i => 48 - i, base := 500000, st := fun i => keepLS S 500000 [2, 3, 4, 5, 8, 9] [(12, .v (.int .i64 ((16 + i : Nat) : Int)))] [(nameV (S.env 8), .arr 124 (.int .u32) (more (rowI (S.heap (nameV (S.env 8)))) i))] })
  | 28 => some (.inv { α := Nat, inv := fun i => i ≤ 64, mu := fun i => 64 - i, base := 500000, st := fun i => keepLS S 500000 [2, 3, 4, 5, 8, 9, 15] [(16, .v (.int .i64 (i : Int)))] [(nameV (S.env 15), .arr 118 (.int .u32) (roundsL (rowI (S.heap (nameV (S.env 8)))) (rowI (S.heap (nameV (S.env 15)))) i))] })
  | 35 => some (.inv { α := Nat, inv := fun i => i ≤ 8, mu := fun i => 8 - i, base := 500000, st := fun i => keepLS S 500000 [2, 3, 4, 5, 8, 9, 15] [(20, .v (.int .i64 (i : Int)))] [(nameV (S.env 4), .arr 118 (.int .u32) (plus8 (rowI (S.heap (nameV (S.env 15)))) (rowI (S.heap (nameV (S.env 4)))) i))] })
  | 40 => some (.inv { α := Nat, inv := fun i => i ≤ 8, mu := fun i => 8 - i, base := 500000, st := fun i => { env := [(2, .ptr 500000 0), (4, .ptr 500001 0), (21, .ptr 500002 0), (22, .v (.int .i64 (i : Int)))], rows := [.arr 26 .u8 (List.replicate 32 (0 : UInt8)), .arr 118 (.int .u32) (pieces begunL (padL b) (rounds b)), .arr 26 .u8 (outL (pieces begunL (padL b) (rounds b)) (4 * i))], ents := [] } })
  | _ => none

theorem vcRefSum (b : List UInt8) (r : List UInt8) (p : Prop) (heap : Nat → Option Row) :
  goalOf Try.f24 (lookS [(77, sKeys), (78, sRot)]) 0 (lamRef b) [.deep .u8 b] { need := p, val := .vec .u8 32 r } heap =
  (True ∧ (True ∧ True) ∧ True ∧ (64 : Nat) = (64 : Nat) ∧ True ∧ True ∧ ((True ∧ True ∧ True ∧ True ∧ True ∧ True ∧ True ∧ True ∧ True) ∧ (8 : Nat) = (8 : Nat)) ∧ True ∧ True ∧ ((True ∧ True) ∧ True ∧
  ((0 : Nat) + b.length) * (1 : Nat) ≤ (140737488355328 : Nat) ∧ (0 : Nat) + b.length ≤ (9223372036854775807 : Nat)) ∧ True ∧ True ∧ True ∧ (True ∧ ((True ∧ True) ∧ ((0 : Int) ≤ (128 : Int) ∧ (128 :
  Int) < (256 : Int)) ∧ True) ∧ (([] ++ b).length + [UInt8.ofNat (Int.toNat (128 : Int))].length) * (1 : Nat) ≤ (140737488355328 : Nat) ∧ ([] ++ b).length + [UInt8.ofNat (Int.toNat (128 : Int))].length
  ≤ (9223372036854775807 : Nat)) ∧ True ∧ (∃ (x : Nat), x ≤ zpad b.length ∧ (V.deep DT.u8 b = V.deep DT.u8 b ∧ V.ptr (500000 : Nat) (0 : Nat) = V.ptr (500000 : Nat) (0 : Nat) ∧ V.ptr (500001 : Nat) (0 :
  Nat) = V.ptr (500001 : Nat) (0 : Nat) ∧ V.ptr (500002 : Nat) (0 : Nat) = V.ptr (500002 : Nat) (0 : Nat) ∧ V.ow (500003 : Nat) = V.ow (500003 : Nat)) ∧ (Row.arr (26 : Nat) DT.u8 (List.replicate (32 :
  Nat) (0 : UInt8)) = Row.arr (26 : Nat) DT.u8 (List.replicate (32 : Nat) (0 : UInt8)) ∧ Row.arr (124 : Nat) (DT.int IntKind.u32) keysL = Row.arr (124 : Nat) (DT.int IntKind.u32) keysL ∧ Row.arr (118 :
  Nat) (DT.int IntKind.u32) [(1779033703 : Int), (3144134277 : Int), (1013904242 : Int), (2773480762 : Int), (1359893119 : Int), (2600822924 : Int), (528734635 : Int), (1541459225 : Int)] = Row.arr (118
  : Nat) (DT.int IntKind.u32) begunL ∧ Row.buf (5 : Nat) DT.u8 ([] ++ b ++ [UInt8.ofNat (Int.toNat (128 : Int))]) = Row.buf (5 : Nat) DT.u8 (b ++ [(128 : UInt8)] ++ List.replicate x (0 : UInt8))) ∧
  True) ∧ ∀ (x : Nat), x ≤ zpad b.length → True ∧ True ∧ (64 : Int) ≠ (0 : Int) ∧ True ∧ bif (↑(b ++ [(128 : UInt8)] ++ List.replicate x (0 : UInt8)).length : Int).tmod (64 : Int) != (56 : Int) then
  True ∧ True ∧ (True ∧ ((True ∧ True) ∧ ((0 : Int) ≤ (0 : Int) ∧ (0 : Int) < (256 : Int)) ∧ True) ∧ ((b ++ [(128 : UInt8)] ++ List.replicate x (0 : UInt8)).length + [UInt8.ofNat (Int.toNat (0 :
  Int))].length) * (1 : Nat) ≤ (140737488355328 : Nat) ∧ (b ++ [(128 : UInt8)] ++ List.replicate x (0 : UInt8)).length + [UInt8.ofNat (Int.toNat (0 : Int))].length ≤ (9223372036854775807 : Nat)) ∧ True
  ∧ ∃ (y : Nat), y ≤ zpad b.length ∧ zpad b.length - y < zpad b.length - x ∧ (V.deep DT.u8 b = V.deep DT.u8 b ∧ V.ptr (500000 : Nat) (0 : Nat) = V.ptr (500000 : Nat) (0 : Nat) ∧ V.ptr (500001 : Nat) (0
  : Nat) = V.ptr (500001 : Nat) (0 : Nat) ∧ V.ptr (500002 : Nat) (0 : Nat) = V.ptr (500002 : Nat) (0 : Nat) ∧ V.ow (500003 : Nat) = V.ow (500003 : Nat)) ∧ (Row.arr (26 : Nat) DT.u8 (List.replicate (32 :
  Nat) (0 : UInt8)) = Row.arr (26 : Nat) DT.u8 (List.replicate (32 : Nat) (0 : UInt8)) ∧ Row.arr (124 : Nat) (DT.int IntKind.u32) keysL = Row.arr (124 : Nat) (DT.int IntKind.u32) keysL ∧ Row.arr (118 :
  Nat) (DT.int IntKind.u32) begunL = Row.arr (118 : Nat) (DT.int IntKind.u32) begunL ∧ Row.buf (5 : Nat) DT.u8 (b ++ [(128 : UInt8)] ++ List.replicate x (0 : UInt8) ++ [UInt8.ofNat (Int.toNat (0 :
  Int))]) = Row.buf (5 : Nat) DT.u8 (b ++ [(128 : UInt8)] ++ List.replicate y (0 : UInt8))) ∧ True else True ∧ True ∧ True ∧ True ∧ True ∧ True ∧ (∃ (x_1 : Nat), x_1 ≤ (8 : Nat) ∧ (V.ptr (500000 : Nat)
  (0 : Nat) = V.ptr (500000 : Nat) (0 : Nat) ∧ V.ptr (500001 : Nat) (0 : Nat) = V.ptr (500001 : Nat) (0 : Nat) ∧ V.ptr (500002 : Nat) (0 : Nat) = V.ptr (500002 : Nat) (0 : Nat) ∧ V.ow (500003 : Nat) =
  V.ow (500003 : Nat) ∧ V.v (Value.int IntKind.u64 (IntKind.u64.wrap (IntKind.u64.wrap (↑b.length : Int) * (8 : Int)))) = V.v (Value.int IntKind.u64 (bits b)) ∧ V.v (Value.int IntKind.i64 (7 : Int)) =
  V.v (Value.int IntKind.i64 ((7 : Int) - (↑x_1 : Int)))) ∧ (Row.arr (26 : Nat) DT.u8 (List.replicate (32 : Nat) (0 : UInt8)) = Row.arr (26 : Nat) DT.u8 (List.replicate (32 : Nat) (0 : UInt8)) ∧ Row.arr
  (124 : Nat) (DT.int IntKind.u32) keysL = Row.arr (124 : Nat) (DT.int IntKind.u32) keysL ∧ Row.arr (118 : Nat) (DT.int IntKind.u32) begunL = Row.arr (118 : Nat) (DT.int IntKind.u32) begunL ∧ Row.buf (5
  : Nat) DT.u8 (b ++ [(128 : UInt8)] ++ List.replicate x (0 : UInt8)) = Row.buf (5 : Nat) DT.u8 (b ++ [(128 : UInt8)] ++ List.replicate (zpad b.length) (0 : UInt8) ++ lens (bits b) x_1)) ∧ True) ∧ ∀ (x
  : Nat), x ≤ (8 : Nat) → True ∧ True ∧ bif decide ((7 : Int) - (↑x : Int) ≥ (0 : Int)) then True ∧ True ∧ True ∧ True ∧ True ∧ (0 : Int) ≤ IntKind.u64.wrap ((8 : Int) * IntKind.u64.wrap ((7 : Int) -
  (↑x : Int))) ∧ True ∧ True ∧ (True ∧ ((True ∧ True) ∧ ((0 : Int) ≤ IntKind.u8.wrap (shrI IntKind.u64 (bits b) (IntKind.u64.wrap ((8 : Int) * IntKind.u64.wrap ((7 : Int) - (↑x : Int))))) ∧
  IntKind.u8.wrap (shrI IntKind.u64 (bits b) (IntKind.u64.wrap ((8 : Int) * IntKind.u64.wrap ((7 : Int) - (↑x : Int))))) < (256 : Int)) ∧ True) ∧ ((b ++ [(128 : UInt8)] ++ List.replicate (zpad b.length)
  (0 : UInt8) ++ lens (bits b) x).length + [UInt8.ofNat (IntKind.u8.wrap (shrI IntKind.u64 (bits b) (IntKind.u64.wrap ((8 : Int) * IntKind.u64.wrap ((7 : Int) - (↑x : Int)))))).toNat].length) * (1 :
  Nat) ≤ (140737488355328 : Nat) ∧ (b ++ [(128 : UInt8)] ++ List.replicate (zpad b.length) (0 : UInt8) ++ lens (bits b) x).length + [UInt8.ofNat (IntKind.u8.wrap (shrI IntKind.u64 (bits b)
  (IntKind.u64.wrap ((8 : Int) * IntKind.u64.wrap ((7 : Int) - (↑x : Int)))))).toNat].length ≤ (9223372036854775807 : Nat)) ∧ True ∧ True ∧ True ∧ True ∧ ∃ (y : Nat), y ≤ (8 : Nat) ∧ (8 : Nat) - y < (8
  : Nat) - x ∧ (V.ptr (500000 : Nat) (0 : Nat) = V.ptr (500000 : Nat) (0 : Nat) ∧ V.ptr (500001 : Nat) (0 : Nat) = V.ptr (500001 : Nat) (0 : Nat) ∧ V.ptr (500002 : Nat) (0 : Nat) = V.ptr (500002 : Nat)
  (0 : Nat) ∧ V.ow (500003 : Nat) = V.ow (500003 : Nat) ∧ V.v (Value.int IntKind.u64 (bits b)) = V.v (Value.int IntKind.u64 (bits b)) ∧ V.v (Value.int IntKind.i64 (IntKind.i64.wrap ((7 : Int) - (↑x :
  Int) - (1 : Int)))) = V.v (Value.int IntKind.i64 ((7 : Int) - (↑y : Int)))) ∧ (Row.arr (26 : Nat) DT.u8 (List.replicate (32 : Nat) (0 : UInt8)) = Row.arr (26 : Nat) DT.u8 (List.replicate (32 : Nat) (0
  : UInt8)) ∧ Row.arr (124 : Nat) (DT.int IntKind.u32) keysL = Row.arr (124 : Nat) (DT.int IntKind.u32) keysL ∧ Row.arr (118 : Nat) (DT.int IntKind.u32) begunL = Row.arr (118 : Nat) (DT.int IntKind.u32)
  begunL ∧ Row.buf (5 : Nat) DT.u8 (b ++ [(128 : UInt8)] ++ List.replicate (zpad b.length) (0 : UInt8) ++ lens (bits b) x ++ [UInt8.ofNat (IntKind.u8.wrap (shrI IntKind.u64 (bits b) (IntKind.u64.wrap
  ((8 : Int) * IntKind.u64.wrap ((7 : Int) - (↑x : Int)))))).toNat]) = Row.buf (5 : Nat) DT.u8 (b ++ [(128 : UInt8)] ++ List.replicate (zpad b.length) (0 : UInt8) ++ lens (bits b) y)) ∧ True else True ∧
  True ∧ (∃ (x_1 : Nat × List Int), (x_1.fst ≤ rounds b ∧ x_1.snd.length = (64 : Nat)) ∧ (V.ptr (500000 : Nat) (0 : Nat) = V.ptr (500000 : Nat) (0 : Nat) ∧ V.ptr (500001 : Nat) (0 : Nat) = V.ptr (500001
  : Nat) (0 : Nat) ∧ V.ptr (500002 : Nat) (0 : Nat) = V.ptr (500002 : Nat) (0 : Nat) ∧ V.ow (500003 : Nat) = V.ow (500003 : Nat) ∧ V.ptr (500004 : Nat) (0 : Nat) = V.ptr (500004 : Nat) (0 : Nat) ∧ V.v
  (Value.int IntKind.i64 (0 : Int)) = V.v (Value.int IntKind.i64 (↑((64 : Nat) * x_1.fst) : Int))) ∧ (Row.arr (26 : Nat) DT.u8 (List.replicate (32 : Nat) (0 : UInt8)) = Row.arr (26 : Nat) DT.u8
  (List.replicate (32 : Nat) (0 : UInt8)) ∧ Row.arr (124 : Nat) (DT.int IntKind.u32) keysL = Row.arr (124 : Nat) (DT.int IntKind.u32) keysL ∧ Row.arr (118 : Nat) (DT.int IntKind.u32) begunL = Row.arr
  (118 : Nat) (DT.int IntKind.u32) (pieces begunL (padL b) x_1.fst) ∧ Row.buf (5 : Nat) DT.u8 (b ++ [(128 : UInt8)] ++ List.replicate (zpad b.length) (0 : UInt8) ++ lens (bits b) x) = Row.buf (5 : Nat)
  DT.u8 (padL b) ∧ Row.arr (124 : Nat) (DT.int IntKind.u32) (List.replicate (64 : Nat) (0 : Int)) = Row.arr (124 : Nat) (DT.int IntKind.u32) x_1.snd) ∧ True) ∧ ∀ (x : Nat × List Int), x.fst ≤ rounds b ∧
  x.snd.length = (64 : Nat) → True ∧ True ∧ True ∧ True ∧ bif decide ((↑((64 : Nat) * x.fst) : Int) < (↑(padL b).length : Int)) then True ∧ (∃ (x_1 : Nat), x_1 ≤ (16 : Nat) ∧ (V.ptr (500000 : Nat) (0 :
  Nat) = V.ptr (500000 : Nat) (0 : Nat) ∧ V.ptr (500001 : Nat) (0 : Nat) = V.ptr (500001 : Nat) (0 : Nat) ∧ V.ptr (500002 : Nat) (0 : Nat) = V.ptr (500002 : Nat) (0 : Nat) ∧ V.ow (500003 : Nat) = V.ow
  (500003 : Nat) ∧ V.ptr (500004 : Nat) (0 : Nat) = V.ptr (500004 : Nat) (0 : Nat) ∧ V.v (Value.int IntKind.i64 (↑((64 : Nat) * x.fst) : Int)) = V.v (Value.int IntKind.i64 (↑((64 : Nat) * x.fst) : Int))
  ∧ V.v (Value.int IntKind.i64 (0 : Int)) = V.v (Value.int IntKind.i64 (↑x_1 : Int))) ∧ (Row.arr (26 : Nat) DT.u8 (List.replicate (32 : Nat) (0 : UInt8)) = Row.arr (26 : Nat) DT.u8 (List.replicate (32 :
  Nat) (0 : UInt8)) ∧ Row.arr (124 : Nat) (DT.int IntKind.u32) keysL = Row.arr (124 : Nat) (DT.int IntKind.u32) keysL ∧ Row.arr (118 : Nat) (DT.int IntKind.u32) (pieces begunL (padL b) x.fst) = Row.arr
  (118 : Nat) (DT.int IntKind.u32) (pieces begunL (padL b) x.fst) ∧ Row.buf (5 : Nat) DT.u8 (padL b) = Row.buf (5 : Nat) DT.u8 (padL b) ∧ Row.arr (124 : Nat) (DT.int IntKind.u32) x.snd = Row.arr (124 :
  Nat) (DT.int IntKind.u32) (first (pieceAt b (↑((64 : Nat) * x.fst) : Int).toNat) x.snd x_1)) ∧ True) ∧ ∀ (x_1 : Nat), x_1 ≤ (16 : Nat) → True ∧ True ∧ bif decide ((↑x_1 : Int) < (16 : Int)) then True
  ∧ True ∧ True ∧ True ∧ True ∧ True ∧ True ∧ True ∧ ((0 : Int) ≤ IntKind.i64.wrap ((↑((64 : Nat) * x.fst) : Int) + IntKind.i64.wrap ((4 : Int) * (↑x_1 : Int))) ∧ IntKind.i64.wrap ((↑((64 : Nat) *
  x.fst) : Int) + IntKind.i64.wrap ((4 : Int) * (↑x_1 : Int))) < (↑(padL b).length : Int)) ∧ (IntKind.i64.wrap ((↑((64 : Nat) * x.fst) : Int) + IntKind.i64.wrap ((4 : Int) * (↑x_1 : Int)))).toNat <
  (padL b).length ∧ True ∧ (0 : Int) ≤ (24 : Int) ∧ True ∧ True ∧ True ∧ ((0 : Int) ≤ IntKind.i64.wrap (IntKind.i64.wrap ((↑((64 : Nat) * x.fst) : Int) + IntKind.i64.wrap ((4 : Int) * (↑x_1 : Int))) +
  (1 : Int)) ∧ IntKind.i64.wrap (IntKind.i64.wrap ((↑((64 : Nat) * x.fst) : Int) + IntKind.i64.wrap ((4 : Int) * (↑x_1 : Int))) + (1 : Int)) < (↑(padL b).length : Int)) ∧ (IntKind.i64.wrap
  (IntKind.i64.wrap ((↑((64 : Nat) * x.fst) : Int) + IntKind.i64.wrap ((4 : Int) * (↑x_1 : Int))) + (1 : Int))).toNat < (padL b).length ∧ True ∧ (0 : Int) ≤ (16 : Int) ∧ True ∧ True ∧ True ∧ True ∧ ((0
  : Int) ≤ IntKind.i64.wrap (IntKind.i64.wrap ((↑((64 : Nat) * x.fst) : Int) + IntKind.i64.wrap ((4 : Int) * (↑x_1 : Int))) + (2 : Int)) ∧ IntKind.i64.wrap (IntKind.i64.wrap ((↑((64 : Nat) * x.fst) :
  Int) + IntKind.i64.wrap ((4 : Int) * (↑x_1 : Int))) + (2 : Int)) < (↑(padL b).length : Int)) ∧ (IntKind.i64.wrap (IntKind.i64.wrap ((↑((64 : Nat) * x.fst) : Int) + IntKind.i64.wrap ((4 : Int) * (↑x_1
  : Int))) + (2 : Int))).toNat < (padL b).length ∧ True ∧ (0 : Int) ≤ (8 : Int) ∧ True ∧ True ∧ True ∧ True ∧ ((0 : Int) ≤ IntKind.i64.wrap (IntKind.i64.wrap ((↑((64 : Nat) * x.fst) : Int) +
  IntKind.i64.wrap ((4 : Int) * (↑x_1 : Int))) + (3 : Int)) ∧ IntKind.i64.wrap (IntKind.i64.wrap ((↑((64 : Nat) * x.fst) : Int) + IntKind.i64.wrap ((4 : Int) * (↑x_1 : Int))) + (3 : Int)) < (↑(padL
  b).length : Int)) ∧ (IntKind.i64.wrap (IntKind.i64.wrap ((↑((64 : Nat) * x.fst) : Int) + IntKind.i64.wrap ((4 : Int) * (↑x_1 : Int))) + (3 : Int))).toNat < (padL b).length ∧ True ∧ True ∧ ((0 : Int) ≤
  (↑x_1 : Int) ∧ (↑x_1 : Int) < (↑(64 : Nat) : Int)) ∧ ((True ∧ True) ∧ True ∧ (↑x_1 : Int).toNat < (first (pieceAt b (↑((64 : Nat) * x.fst) : Int).toNat) x.snd x_1).length) ∧ True ∧ True ∧ True ∧ ∃ (y
  : Nat), y ≤ (16 : Nat) ∧ (16 : Nat) - y < (16 : Nat) - x_1 ∧ (V.ptr (500000 : Nat) (0 : Nat) = V.ptr (500000 : Nat) (0 : Nat) ∧ V.ptr (500001 : Nat) (0 : Nat) = V.ptr (500001 : Nat) (0 : Nat) ∧ V.ptr
  (500002 : Nat) (0 : Nat) = V.ptr (500002 : Nat) (0 : Nat) ∧ V.ow (500003 : Nat) = V.ow (500003 : Nat) ∧ V.ptr (500004 : Nat) (0 : Nat) = V.ptr (500004 : Nat) (0 : Nat) ∧ V.v (Value.int IntKind.i64
  (↑((64 : Nat) * x.fst) : Int)) = V.v (Value.int IntKind.i64 (↑((64 : Nat) * x.fst) : Int)) ∧ V.v (Value.int IntKind.i64 (IntKind.i64.wrap ((↑x_1 : Int) + (1 : Int)))) = V.v (Value.int IntKind.i64 (↑y
  : Int))) ∧ (Row.arr (26 : Nat) DT.u8 (List.replicate (32 : Nat) (0 : UInt8)) = Row.arr (26 : Nat) DT.u8 (List.replicate (32 : Nat) (0 : UInt8)) ∧ Row.arr (124 : Nat) (DT.int IntKind.u32) keysL =
  Row.arr (124 : Nat) (DT.int IntKind.u32) keysL ∧ Row.arr (118 : Nat) (DT.int IntKind.u32) (pieces begunL (padL b) x.fst) = Row.arr (118 : Nat) (DT.int IntKind.u32) (pieces begunL (padL b) x.fst) ∧
  Row.buf (5 : Nat) DT.u8 (padL b) = Row.buf (5 : Nat) DT.u8 (padL b) ∧ Row.arr (124 : Nat) (DT.int IntKind.u32) ((first (pieceAt b (↑((64 : Nat) * x.fst) : Int).toNat) x.snd x_1).set (↑x_1 : Int).toNat
  (bitsI BinOp.or IntKind.u32 (bitsI BinOp.or IntKind.u32 (bitsI BinOp.or IntKind.u32 (shlI IntKind.u32 (IntKind.u32.wrap (↑(UInt8.toNat ((padL b).getD (IntKind.i64.wrap ((↑((64 : Nat) * x.fst) : Int) +
  IntKind.i64.wrap ((4 : Int) * (↑x_1 : Int)))).toNat (0 : UInt8))) : Int)) (24 : Int)) (shlI IntKind.u32 (IntKind.u32.wrap (↑(UInt8.toNat ((padL b).getD (IntKind.i64.wrap (IntKind.i64.wrap ((↑((64 :
  Nat) * x.fst) : Int) + IntKind.i64.wrap ((4 : Int) * (↑x_1 : Int))) + (1 : Int))).toNat (0 : UInt8))) : Int)) (16 : Int))) (shlI IntKind.u32 (IntKind.u32.wrap (↑(UInt8.toNat ((padL b).getD
  (IntKind.i64.wrap (IntKind.i64.wrap ((↑((64 : Nat) * x.fst) : Int) + IntKind.i64.wrap ((4 : Int) * (↑x_1 : Int))) + (2 : Int))).toNat (0 : UInt8))) : Int)) (8 : Int))) (IntKind.u32.wrap (↑(UInt8.toNat
  ((padL b).getD (IntKind.i64.wrap (IntKind.i64.wrap ((↑((64 : Nat) * x.fst) : Int) + IntKind.i64.wrap ((4 : Int) * (↑x_1 : Int))) + (3 : Int))).toNat (0 : UInt8))) : Int)))) = Row.arr (124 : Nat)
  (DT.int IntKind.u32) (first (pieceAt b (↑((64 : Nat) * x.fst) : Int).toNat) x.snd y)) ∧ True else True ∧ (∃ (x_2 : Nat), x_2 ≤ (48 : Nat) ∧ (V.ptr (500000 : Nat) (0 : Nat) = V.ptr (500000 : Nat) (0 :
  Nat) ∧ V.ptr (500001 : Nat) (0 : Nat) = V.ptr (500001 : Nat) (0 : Nat) ∧ V.ptr (500002 : Nat) (0 : Nat) = V.ptr (500002 : Nat) (0 : Nat) ∧ V.ow (500003 : Nat) = V.ow (500003 : Nat) ∧ V.ptr (500004 :
  Nat) (0 : Nat) = V.ptr (500004 : Nat) (0 : Nat) ∧ V.v (Value.int IntKind.i64 (↑((64 : Nat) * x.fst) : Int)) = V.v (Value.int IntKind.i64 (↑((64 : Nat) * x.fst) : Int)) ∧ V.v (Value.int IntKind.i64 (16
  : Int)) = V.v (Value.int IntKind.i64 (↑((16 : Nat) + x_2) : Int))) ∧ (Row.arr (26 : Nat) DT.u8 (List.replicate (32 : Nat) (0 : UInt8)) = Row.arr (26 : Nat) DT.u8 (List.replicate (32 : Nat) (0 :
  UInt8)) ∧ Row.arr (124 : Nat) (DT.int IntKind.u32) keysL = Row.arr (124 : Nat) (DT.int IntKind.u32) keysL ∧ Row.arr (118 : Nat) (DT.int IntKind.u32) (pieces begunL (padL b) x.fst) = Row.arr (118 :
  Nat) (DT.int IntKind.u32) (pieces begunL (padL b) x.fst) ∧ Row.buf (5 : Nat) DT.u8 (padL b) = Row.buf (5 : Nat) DT.u8 (padL b) ∧ Row.arr (124 : Nat) (DT.int IntKind.u32) (first (pieceAt b (↑((64 :
  Nat) * x.fst) : Int).toNat) x.snd x_1) = Row.arr (124 : Nat) (DT.int IntKind.u32) (more (first (pieceAt b (↑((64 : Nat) * x.fst) : Int).toNat) x.snd x_1) x_2)) ∧ True) ∧ ∀ (x_2 : Nat), x_2 ≤ (48 :
  Nat) → True ∧ True ∧ bif decide ((↑((16 : Nat) + x_2) : Int) < (64 : Int)) then True ∧ True ∧ ((0 : Int) ≤ IntKind.i64.wrap ((↑((16 : Nat) + x_2) : Int) - (15 : Int)) ∧ IntKind.i64.wrap ((↑((16 : Nat)
  + x_2) : Int) - (15 : Int)) < (↑(64 : Nat) : Int)) ∧ (IntKind.i64.wrap ((↑((16 : Nat) + x_2) : Int) - (15 : Int))).toNat < (more (first (pieceAt b (↑((64 : Nat) * x.fst) : Int).toNat) x.snd x_1)
  x_2).length ∧ True ∧ True ∧ ((0 : Int) ≤ IntKind.i64.wrap ((↑((16 : Nat) + x_2) : Int) - (2 : Int)) ∧ IntKind.i64.wrap ((↑((16 : Nat) + x_2) : Int) - (2 : Int)) < (↑(64 : Nat) : Int)) ∧
  (IntKind.i64.wrap ((↑((16 : Nat) + x_2) : Int) - (2 : Int))).toNat < (more (first (pieceAt b (↑((64 : Nat) * x.fst) : Int).toNat) x.snd x_1) x_2).length ∧ True ∧ True ∧ True ∧ True ∧ ((True ∧ True ∧
  True) ∧ (0 : Int) < (17 : Int) ∧ (17 : Int) < (32 : Int)) ∧ True ∧ ((True ∧ True ∧ True) ∧ (0 : Int) < (19 : Int) ∧ (19 : Int) < (32 : Int)) ∧ True ∧ True ∧ (0 : Int) ≤ (10 : Int) ∧ True ∧ True ∧ True
  ∧ ((0 : Int) ≤ IntKind.i64.wrap ((↑((16 : Nat) + x_2) : Int) - (7 : Int)) ∧ IntKind.i64.wrap ((↑((16 : Nat) + x_2) : Int) - (7 : Int)) < (↑(64 : Nat) : Int)) ∧ (IntKind.i64.wrap ((↑((16 : Nat) + x_2)
  : Int) - (7 : Int))).toNat < (more (first (pieceAt b (↑((64 : Nat) * x.fst) : Int).toNat) x.snd x_1) x_2).length ∧ True ∧ True ∧ ((True ∧ True ∧ True) ∧ (0 : Int) < (7 : Int) ∧ (7 : Int) < (32 : Int))
  ∧ True ∧ ((True ∧ True ∧ True) ∧ (0 : Int) < (18 : Int) ∧ (18 : Int) < (32 : Int)) ∧ True ∧ True ∧ (0 : Int) ≤ (3 : Int) ∧ True ∧ True ∧ True ∧ True ∧ ((0 : Int) ≤ IntKind.i64.wrap ((↑((16 : Nat) +
  x_2) : Int) - (16 : Int)) ∧ IntKind.i64.wrap ((↑((16 : Nat) + x_2) : Int) - (16 : Int)) < (↑(64 : Nat) : Int)) ∧ (IntKind.i64.wrap ((↑((16 : Nat) + x_2) : Int) - (16 : Int))).toNat < (more (first
  (pieceAt b (↑((64 : Nat) * x.fst) : Int).toNat) x.snd x_1) x_2).length ∧ True ∧ ((0 : Int) ≤ (↑((16 : Nat) + x_2) : Int) ∧ (↑((16 : Nat) + x_2) : Int) < (↑(64 : Nat) : Int)) ∧ ((True ∧ True) ∧ True ∧
  (↑((16 : Nat) + x_2) : Int).toNat < (more (first (pieceAt b (↑((64 : Nat) * x.fst) : Int).toNat) x.snd x_1) x_2).length) ∧ True ∧ True ∧ True ∧ ∃ (y : Nat), y ≤ (48 : Nat) ∧ (48 : Nat) - y < (48 :
  Nat) - x_2 ∧ (V.ptr (500000 : Nat) (0 : Nat) = V.ptr (500000 : Nat) (0 : Nat) ∧ V.ptr (500001 : Nat) (0 : Nat) = V.ptr (500001 : Nat) (0 : Nat) ∧ V.ptr (500002 : Nat) (0 : Nat) = V.ptr (500002 : Nat)
  (0 : Nat) ∧ V.ow (500003 : Nat) = V.ow (500003 : Nat) ∧ V.ptr (500004 : Nat) (0 : Nat) = V.ptr (500004 : Nat) (0 : Nat) ∧ V.v (Value.int IntKind.i64 (↑((64 : Nat) * x.fst) : Int)) = V.v (Value.int
  IntKind.i64 (↑((64 : Nat) * x.fst) : Int)) ∧ V.v (Value.int IntKind.i64 (IntKind.i64.wrap ((↑((16 : Nat) + x_2) : Int) + (1 : Int)))) = V.v (Value.int IntKind.i64 (↑((16 : Nat) + y) : Int))) ∧
  (Row.arr (26 : Nat) DT.u8 (List.replicate (32 : Nat) (0 : UInt8)) = Row.arr (26 : Nat) DT.u8 (List.replicate (32 : Nat) (0 : UInt8)) ∧ Row.arr (124 : Nat) (DT.int IntKind.u32) keysL = Row.arr (124 :
  Nat) (DT.int IntKind.u32) keysL ∧ Row.arr (118 : Nat) (DT.int IntKind.u32) (pieces begunL (padL b) x.fst) = Row.arr (118 : Nat) (DT.int IntKind.u32) (pieces begunL (padL b) x.fst) ∧ Row.buf (5 : Nat)
  DT.u8 (padL b) = Row.buf (5 : Nat) DT.u8 (padL b) ∧ Row.arr (124 : Nat) (DT.int IntKind.u32) ((more (first (pieceAt b (↑((64 : Nat) * x.fst) : Int).toNat) x.snd x_1) x_2).set (↑((16 : Nat) + x_2) :
  Int).toNat (IntKind.u32.wrap (IntKind.u32.wrap (IntKind.u32.wrap (bitsI BinOp.xor IntKind.u32 (bitsI BinOp.xor IntKind.u32 (rot ((more (first (pieceAt b (↑((64 : Nat) * x.fst) : Int).toNat) x.snd x_1)
  x_2).getD (IntKind.i64.wrap ((↑((16 : Nat) + x_2) : Int) - (2 : Int))).toNat (0 : Int)) (17 : Int)) (rot ((more (first (pieceAt b (↑((64 : Nat) * x.fst) : Int).toNat) x.snd x_1) x_2).getD
  (IntKind.i64.wrap ((↑((16 : Nat) + x_2) : Int) - (2 : Int))).toNat (0 : Int)) (19 : Int))) (shrI IntKind.u32 ((more (first (pieceAt b (↑((64 : Nat) * x.fst) : Int).toNat) x.snd x_1) x_2).getD
  (IntKind.i64.wrap ((↑((16 : Nat) + x_2) : Int) - (2 : Int))).toNat (0 : Int)) (10 : Int)) + (more (first (pieceAt b (↑((64 : Nat) * x.fst) : Int).toNat) x.snd x_1) x_2).getD (IntKind.i64.wrap ((↑((16
  : Nat) + x_2) : Int) - (7 : Int))).toNat (0 : Int)) + bitsI BinOp.xor IntKind.u32 (bitsI BinOp.xor IntKind.u32 (rot ((more (first (pieceAt b (↑((64 : Nat) * x.fst) : Int).toNat) x.snd x_1) x_2).getD
  (IntKind.i64.wrap ((↑((16 : Nat) + x_2) : Int) - (15 : Int))).toNat (0 : Int)) (7 : Int)) (rot ((more (first (pieceAt b (↑((64 : Nat) * x.fst) : Int).toNat) x.snd x_1) x_2).getD (IntKind.i64.wrap
  ((↑((16 : Nat) + x_2) : Int) - (15 : Int))).toNat (0 : Int)) (18 : Int))) (shrI IntKind.u32 ((more (first (pieceAt b (↑((64 : Nat) * x.fst) : Int).toNat) x.snd x_1) x_2).getD (IntKind.i64.wrap ((↑((16
  : Nat) + x_2) : Int) - (15 : Int))).toNat (0 : Int)) (3 : Int))) + (more (first (pieceAt b (↑((64 : Nat) * x.fst) : Int).toNat) x.snd x_1) x_2).getD (IntKind.i64.wrap ((↑((16 : Nat) + x_2) : Int) -
  (16 : Int))).toNat (0 : Int)))) = Row.arr (124 : Nat) (DT.int IntKind.u32) (more (first (pieceAt b (↑((64 : Nat) * x.fst) : Int).toNat) x.snd x_1) y)) ∧ True else (pieces begunL (padL b) x.fst).length
  = (8 : Nat) ∧ True ∧ (8 : Nat) = (8 : Nat) ∧ True ∧ (∃ (x_3 : Nat), x_3 ≤ (64 : Nat) ∧ (V.ptr (500000 : Nat) (0 : Nat) = V.ptr (500000 : Nat) (0 : Nat) ∧ V.ptr (500001 : Nat) (0 : Nat) = V.ptr (500001
  : Nat) (0 : Nat) ∧ V.ptr (500002 : Nat) (0 : Nat) = V.ptr (500002 : Nat) (0 : Nat) ∧ V.ow (500003 : Nat) = V.ow (500003 : Nat) ∧ V.ptr (500004 : Nat) (0 : Nat) = V.ptr (500004 : Nat) (0 : Nat) ∧ V.v
  (Value.int IntKind.i64 (↑((64 : Nat) * x.fst) : Int)) = V.v (Value.int IntKind.i64 (↑((64 : Nat) * x.fst) : Int)) ∧ V.ptr (500005 : Nat) (0 : Nat) = V.ptr (500005 : Nat) (0 : Nat) ∧ V.v (Value.int
  IntKind.i64 (0 : Int)) = V.v (Value.int IntKind.i64 (↑x_3 : Int))) ∧ (Row.arr (26 : Nat) DT.u8 (List.replicate (32 : Nat) (0 : UInt8)) = Row.arr (26 : Nat) DT.u8 (List.replicate (32 : Nat) (0 :
  UInt8)) ∧ Row.arr (124 : Nat) (DT.int IntKind.u32) keysL = Row.arr (124 : Nat) (DT.int IntKind.u32) keysL ∧ Row.arr (118 : Nat) (DT.int IntKind.u32) (pieces begunL (padL b) x.fst) = Row.arr (118 :
  Nat) (DT.int IntKind.u32) (pieces begunL (padL b) x.fst) ∧ Row.buf (5 : Nat) DT.u8 (padL b) = Row.buf (5 : Nat) DT.u8 (padL b) ∧ Row.arr (124 : Nat) (DT.int IntKind.u32) (more (first (pieceAt b (↑((64
  : Nat) * x.fst) : Int).toNat) x.snd x_1) x_2) = Row.arr (124 : Nat) (DT.int IntKind.u32) (more (first (pieceAt b (↑((64 : Nat) * x.fst) : Int).toNat) x.snd x_1) x_2) ∧ Row.arr (118 : Nat) (DT.int
  IntKind.u32) (pieces begunL (padL b) x.fst) = Row.arr (118 : Nat) (DT.int IntKind.u32) (roundsL (more (first (pieceAt b (↑((64 : Nat) * x.fst) : Int).toNat) x.snd x_1) x_2) (pieces begunL (padL b)
  x.fst) x_3)) ∧ True) ∧ ∀ (x_3 : Nat), x_3 ≤ (64 : Nat) → True ∧ True ∧ bif decide ((↑x_3 : Int) < (64 : Int)) then ((0 : Int) ≤ (4 : Int) ∧ (4 : Int) < (↑(8 : Nat) : Int)) ∧ Int.toNat (4 : Int) <
  (roundsL (more (first (pieceAt b (↑((64 : Nat) * x.fst) : Int).toNat) x.snd x_1) x_2) (pieces begunL (padL b) x.fst) x_3).length ∧ True ∧ ((0 : Int) ≤ (7 : Int) ∧ (7 : Int) < (↑(8 : Nat) : Int)) ∧
  Int.toNat (7 : Int) < (roundsL (more (first (pieceAt b (↑((64 : Nat) * x.fst) : Int).toNat) x.snd x_1) x_2) (pieces begunL (padL b) x.fst) x_3).length ∧ True ∧ ((True ∧ True ∧ True) ∧ (0 : Int) < (6 :
  Int) ∧ (6 : Int) < (32 : Int)) ∧ True ∧ ((True ∧ True ∧ True) ∧ (0 : Int) < (11 : Int) ∧ (11 : Int) < (32 : Int)) ∧ True ∧ True ∧ ((True ∧ True ∧ True) ∧ (0 : Int) < (25 : Int) ∧ (25 : Int) < (32 :
  Int)) ∧ True ∧ True ∧ True ∧ ((0 : Int) ≤ (5 : Int) ∧ (5 : Int) < (↑(8 : Nat) : Int)) ∧ Int.toNat (5 : Int) < (roundsL (more (first (pieceAt b (↑((64 : Nat) * x.fst) : Int).toNat) x.snd x_1) x_2)
  (pieces begunL (padL b) x.fst) x_3).length ∧ True ∧ True ∧ True ∧ ((0 : Int) ≤ (6 : Int) ∧ (6 : Int) < (↑(8 : Nat) : Int)) ∧ Int.toNat (6 : Int) < (roundsL (more (first (pieceAt b (↑((64 : Nat) *
  x.fst) : Int).toNat) x.snd x_1) x_2) (pieces begunL (padL b) x.fst) x_3).length ∧ True ∧ True ∧ True ∧ True ∧ ((0 : Int) ≤ (↑x_3 : Int) ∧ (↑x_3 : Int) < (↑(64 : Nat) : Int)) ∧ (↑x_3 : Int).toNat <
  keysL.length ∧ True ∧ True ∧ ((0 : Int) ≤ (↑x_3 : Int) ∧ (↑x_3 : Int) < (↑(64 : Nat) : Int)) ∧ (↑x_3 : Int).toNat < (more (first (pieceAt b (↑((64 : Nat) * x.fst) : Int).toNat) x.snd x_1) x_2).length
  ∧ True ∧ True ∧ ((0 : Int) ≤ (0 : Int) ∧ (0 : Int) < (↑(8 : Nat) : Int)) ∧ Int.toNat (0 : Int) < (roundsL (more (first (pieceAt b (↑((64 : Nat) * x.fst) : Int).toNat) x.snd x_1) x_2) (pieces begunL
  (padL b) x.fst) x_3).length ∧ ((True ∧ True ∧ True) ∧ (0 : Int) < (2 : Int) ∧ (2 : Int) < (32 : Int)) ∧ ((0 : Int) ≤ (0 : Int) ∧ (0 : Int) < (↑(8 : Nat) : Int)) ∧ Int.toNat (0 : Int) < (roundsL (more
  (first (pieceAt b (↑((64 : Nat) * x.fst) : Int).toNat) x.snd x_1) x_2) (pieces begunL (padL b) x.fst) x_3).length ∧ ((True ∧ True ∧ True) ∧ (0 : Int) < (13 : Int) ∧ (13 : Int) < (32 : Int)) ∧ True ∧
  ((0 : Int) ≤ (0 : Int) ∧ (0 : Int) < (↑(8 : Nat) : Int)) ∧ Int.toNat (0 : Int) < (roundsL (more (first (pieceAt b (↑((64 : Nat) * x.fst) : Int).toNat) x.snd x_1) x_2) (pieces begunL (padL b) x.fst)
  x_3).length ∧ ((True ∧ True ∧ True) ∧ (0 : Int) < (22 : Int) ∧ (22 : Int) < (32 : Int)) ∧ True ∧ ((0 : Int) ≤ (0 : Int) ∧ (0 : Int) < (↑(8 : Nat) : Int)) ∧ Int.toNat (0 : Int) < (roundsL (more (first
  (pieceAt b (↑((64 : Nat) * x.fst) : Int).toNat) x.snd x_1) x_2) (pieces begunL (padL b) x.fst) x_3).length ∧ ((0 : Int) ≤ (1 : Int) ∧ (1 : Int) < (↑(8 : Nat) : Int)) ∧ Int.toNat (1 : Int) < (roundsL
  (more (first (pieceAt b (↑((64 : Nat) * x.fst) : Int).toNat) x.snd x_1) x_2) (pieces begunL (padL b) x.fst) x_3).length ∧ True ∧ ((0 : Int) ≤ (0 : Int) ∧ (0 : Int) < (↑(8 : Nat) : Int)) ∧ Int.toNat (0
  : Int) < (roundsL (more (first (pieceAt b (↑((64 : Nat) * x.fst) : Int).toNat) x.snd x_1) x_2) (pieces begunL (padL b) x.fst) x_3).length ∧ ((0 : Int) ≤ (2 : Int) ∧ (2 : Int) < (↑(8 : Nat) : Int)) ∧
  Int.toNat (2 : Int) < (roundsL (more (first (pieceAt b (↑((64 : Nat) * x.fst) : Int).toNat) x.snd x_1) x_2) (pieces begunL (padL b) x.fst) x_3).length ∧ True ∧ True ∧ ((0 : Int) ≤ (1 : Int) ∧ (1 :
  Int) < (↑(8 : Nat) : Int)) ∧ Int.toNat (1 : Int) < (roundsL (more (first (pieceAt b (↑((64 : Nat) * x.fst) : Int).toNat) x.snd x_1) x_2) (pieces begunL (padL b) x.fst) x_3).length ∧ ((0 : Int) ≤ (2 :
  Int) ∧ (2 : Int) < (↑(8 : Nat) : Int)) ∧ Int.toNat (2 : Int) < (roundsL (more (first (pieceAt b (↑((64 : Nat) * x.fst) : Int).toNat) x.snd x_1) x_2) (pieces begunL (padL b) x.fst) x_3).length ∧ True ∧
  True ∧ True ∧ True ∧ True ∧ True ∧ True ∧ ((0 : Int) ≤ (0 : Int) ∧ (0 : Int) < (↑(8 : Nat) : Int)) ∧ Int.toNat (0 : Int) < (roundsL (more (first (pieceAt b (↑((64 : Nat) * x.fst) : Int).toNat) x.snd
  x_1) x_2) (pieces begunL (padL b) x.fst) x_3).length ∧ ((0 : Int) ≤ (1 : Int) ∧ (1 : Int) < (↑(8 : Nat) : Int)) ∧ Int.toNat (1 : Int) < (roundsL (more (first (pieceAt b (↑((64 : Nat) * x.fst) :
  Int).toNat) x.snd x_1) x_2) (pieces begunL (padL b) x.fst) x_3).length ∧ ((0 : Int) ≤ (2 : Int) ∧ (2 : Int) < (↑(8 : Nat) : Int)) ∧ Int.toNat (2 : Int) < (roundsL (more (first (pieceAt b (↑((64 : Nat)
  * x.fst) : Int).toNat) x.snd x_1) x_2) (pieces begunL (padL b) x.fst) x_3).length ∧ ((0 : Int) ≤ (3 : Int) ∧ (3 : Int) < (↑(8 : Nat) : Int)) ∧ Int.toNat (3 : Int) < (roundsL (more (first (pieceAt b
  (↑((64 : Nat) * x.fst) : Int).toNat) x.snd x_1) x_2) (pieces begunL (padL b) x.fst) x_3).length ∧ True ∧ True ∧ ((0 : Int) ≤ (4 : Int) ∧ (4 : Int) < (↑(8 : Nat) : Int)) ∧ Int.toNat (4 : Int) <
  (roundsL (more (first (pieceAt b (↑((64 : Nat) * x.fst) : Int).toNat) x.snd x_1) x_2) (pieces begunL (padL b) x.fst) x_3).length ∧ ((0 : Int) ≤ (5 : Int) ∧ (5 : Int) < (↑(8 : Nat) : Int)) ∧ Int.toNat
  (5 : Int) < (roundsL (more (first (pieceAt b (↑((64 : Nat) * x.fst) : Int).toNat) x.snd x_1) x_2) (pieces begunL (padL b) x.fst) x_3).length ∧ ((0 : Int) ≤ (6 : Int) ∧ (6 : Int) < (↑(8 : Nat) : Int))
  ∧ Int.toNat (6 : Int) < (roundsL (more (first (pieceAt b (↑((64 : Nat) * x.fst) : Int).toNat) x.snd x_1) x_2) (pieces begunL (padL b) x.fst) x_3).length ∧ True ∧ ((True ∧ True ∧ True ∧ True ∧ True ∧
  True ∧ True ∧ True ∧ True) ∧ (roundsL (more (first (pieceAt b (↑((64 : Nat) * x.fst) : Int).toNat) x.snd x_1) x_2) (pieces begunL (padL b) x.fst) x_3).length = (8 : Nat)) ∧ True ∧ True ∧ True ∧ ∃ (y :
  Nat), y ≤ (64 : Nat) ∧ (64 : Nat) - y < (64 : Nat) - x_3 ∧ (V.ptr (500000 : Nat) (0 : Nat) = V.ptr (500000 : Nat) (0 : Nat) ∧ V.ptr (500001 : Nat) (0 : Nat) = V.ptr (500001 : Nat) (0 : Nat) ∧ V.ptr
  (500002 : Nat) (0 : Nat) = V.ptr (500002 : Nat) (0 : Nat) ∧ V.ow (500003 : Nat) = V.ow (500003 : Nat) ∧ V.ptr (500004 : Nat) (0 : Nat) = V.ptr (500004 : Nat) (0 : Nat) ∧ V.v (Value.int IntKind.i64
  (↑((64 : Nat) * x.fst) : Int)) = V.v (Value.int IntKind.i64 (↑((64 : Nat) * x.fst) : Int)) ∧ V.ptr (500005 : Nat) (0 : Nat) = V.ptr (500005 : Nat) (0 : Nat) ∧ V.v (Value.int IntKind.i64
  (IntKind.i64.wrap ((↑x_3 : Int) + (1 : Int)))) = V.v (Value.int IntKind.i64 (↑y : Int))) ∧ (Row.arr (26 : Nat) DT.u8 (List.replicate (32 : Nat) (0 : UInt8)) = Row.arr (26 : Nat) DT.u8 (List.replicate
  (32 : Nat) (0 : UInt8)) ∧ Row.arr (124 : Nat) (DT.int IntKind.u32) keysL = Row.arr (124 : Nat) (DT.int IntKind.u32) keysL ∧ Row.arr (118 : Nat) (DT.int IntKind.u32) (pieces begunL (padL b) x.fst) =
  Row.arr (118 : Nat) (DT.int IntKind.u32) (pieces begunL (padL b) x.fst) ∧ Row.buf (5 : Nat) DT.u8 (padL b) = Row.buf (5 : Nat) DT.u8 (padL b) ∧ Row.arr (124 : Nat) (DT.int IntKind.u32) (more (first
  (pieceAt b (↑((64 : Nat) * x.fst) : Int).toNat) x.snd x_1) x_2) = Row.arr (124 : Nat) (DT.int IntKind.u32) (more (first (pieceAt b (↑((64 : Nat) * x.fst) : Int).toNat) x.snd x_1) x_2) ∧ Row.arr (118 :
  Nat) (DT.int IntKind.u32) [IntKind.u32.wrap (IntKind.u32.wrap (IntKind.u32.wrap (IntKind.u32.wrap (IntKind.u32.wrap ((roundsL (more (first (pieceAt b (↑((64 : Nat) * x.fst) : Int).toNat) x.snd x_1)
  x_2) (pieces begunL (padL b) x.fst) x_3).getD (Int.toNat (7 : Int)) (0 : Int) + bitsI BinOp.xor IntKind.u32 (bitsI BinOp.xor IntKind.u32 (rot ((roundsL (more (first (pieceAt b (↑((64 : Nat) * x.fst) :
  Int).toNat) x.snd x_1) x_2) (pieces begunL (padL b) x.fst) x_3).getD (Int.toNat (4 : Int)) (0 : Int)) (6 : Int)) (rot ((roundsL (more (first (pieceAt b (↑((64 : Nat) * x.fst) : Int).toNat) x.snd x_1)
  x_2) (pieces begunL (padL b) x.fst) x_3).getD (Int.toNat (4 : Int)) (0 : Int)) (11 : Int))) (rot ((roundsL (more (first (pieceAt b (↑((64 : Nat) * x.fst) : Int).toNat) x.snd x_1) x_2) (pieces begunL
  (padL b) x.fst) x_3).getD (Int.toNat (4 : Int)) (0 : Int)) (25 : Int))) + bitsI BinOp.xor IntKind.u32 (bitsI BinOp.and IntKind.u32 ((roundsL (more (first (pieceAt b (↑((64 : Nat) * x.fst) :
  Int).toNat) x.snd x_1) x_2) (pieces begunL (padL b) x.fst) x_3).getD (Int.toNat (4 : Int)) (0 : Int)) ((roundsL (more (first (pieceAt b (↑((64 : Nat) * x.fst) : Int).toNat) x.snd x_1) x_2) (pieces
  begunL (padL b) x.fst) x_3).getD (Int.toNat (5 : Int)) (0 : Int))) (bitsI BinOp.and IntKind.u32 (bitsI BinOp.xor IntKind.u32 (if IntKind.u32.signed = true then (-1 : Int) else IntKind.u32.max)
  ((roundsL (more (first (pieceAt b (↑((64 : Nat) * x.fst) : Int).toNat) x.snd x_1) x_2) (pieces begunL (padL b) x.fst) x_3).getD (Int.toNat (4 : Int)) (0 : Int))) ((roundsL (more (first (pieceAt b
  (↑((64 : Nat) * x.fst) : Int).toNat) x.snd x_1) x_2) (pieces begunL (padL b) x.fst) x_3).getD (Int.toNat (6 : Int)) (0 : Int)))) + keysL.getD (↑x_3 : Int).toNat (0 : Int)) + (more (first (pieceAt b
  (↑((64 : Nat) * x.fst) : Int).toNat) x.snd x_1) x_2).getD (↑x_3 : Int).toNat (0 : Int)) + IntKind.u32.wrap (bitsI BinOp.xor IntKind.u32 (bitsI BinOp.xor IntKind.u32 (rot ((roundsL (more (first
  (pieceAt b (↑((64 : Nat) * x.fst) : Int).toNat) x.snd x_1) x_2) (pieces begunL (padL b) x.fst) x_3).getD (Int.toNat (0 : Int)) (0 : Int)) (2 : Int)) (rot ((roundsL (more (first (pieceAt b (↑((64 :
  Nat) * x.fst) : Int).toNat) x.snd x_1) x_2) (pieces begunL (padL b) x.fst) x_3).getD (Int.toNat (0 : Int)) (0 : Int)) (13 : Int))) (rot ((roundsL (more (first (pieceAt b (↑((64 : Nat) * x.fst) :
  Int).toNat) x.snd x_1) x_2) (pieces begunL (padL b) x.fst) x_3).getD (Int.toNat (0 : Int)) (0 : Int)) (22 : Int)) + bitsI BinOp.xor IntKind.u32 (bitsI BinOp.xor IntKind.u32 (bitsI BinOp.and
  IntKind.u32 ((roundsL (more (first (pieceAt b (↑((64 : Nat) * x.fst) : Int).toNat) x.snd x_1) x_2) (pieces begunL (padL b) x.fst) x_3).getD (Int.toNat (0 : Int)) (0 : Int)) ((roundsL (more (first
  (pieceAt b (↑((64 : Nat) * x.fst) : Int).toNat) x.snd x_1) x_2) (pieces begunL (padL b) x.fst) x_3).getD (Int.toNat (1 : Int)) (0 : Int))) (bitsI BinOp.and IntKind.u32 ((roundsL (more (first (pieceAt
  b (↑((64 : Nat) * x.fst) : Int).toNat) x.snd x_1) x_2) (pieces begunL (padL b) x.fst) x_3).getD (Int.toNat (0 : Int)) (0 : Int)) ((roundsL (more (first (pieceAt b (↑((64 : Nat) * x.fst) : Int).toNat)
  x.snd x_1) x_2) (pieces begunL (padL b) x.fst) x_3).getD (Int.toNat (2 : Int)) (0 : Int)))) (bitsI BinOp.and IntKind.u32 ((roundsL (more (first (pieceAt b (↑((64 : Nat) * x.fst) : Int).toNat) x.snd
  x_1) x_2) (pieces begunL (padL b) x.fst) x_3).getD (Int.toNat (1 : Int)) (0 : Int)) ((roundsL (more (first (pieceAt b (↑((64 : Nat) * x.fst) : Int).toNat) x.snd x_1) x_2) (pieces begunL (padL b)
  x.fst) x_3).getD (Int.toNat (2 : Int)) (0 : Int))))), (roundsL (more (first (pieceAt b (↑((64 : Nat) * x.fst) : Int).toNat) x.snd x_1) x_2) (pieces begunL (padL b) x.fst) x_3).getD (Int.toNat (0 :
  Int)) (0 : Int), (roundsL (more (first (pieceAt b (↑((64 : Nat) * x.fst) : Int).toNat) x.snd x_1) x_2) (pieces begunL (padL b) x.fst) x_3).getD (Int.toNat (1 : Int)) (0 : Int), (roundsL (more (first
  (pieceAt b (↑((64 : Nat) * x.fst) : Int).toNat) x.snd x_1) x_2) (pieces begunL (padL b) x.fst) x_3).getD (Int.toNat (2 : Int)) (0 : Int), IntKind.u32.wrap ((roundsL (more (first (pieceAt b (↑((64 :
  Nat) * x.fst) : Int).toNat) x.snd x_1) x_2) (pieces begunL (padL b) x.fst) x_3).getD (Int.toNat (3 : Int)) (0 : Int) + IntKind.u32.wrap (IntKind.u32.wrap (IntKind.u32.wrap (IntKind.u32.wrap ((roundsL
  (more (first (pieceAt b (↑((64 : Nat) * x.fst) : Int).toNat) x.snd x_1) x_2) (pieces begunL (padL b) x.fst) x_3).getD (Int.toNat (7 : Int)) (0 : Int) + bitsI BinOp.xor IntKind.u32 (bitsI BinOp.xor
  IntKind.u32 (rot ((roundsL (more (first (pieceAt b (↑((64 : Nat) * x.fst) : Int).toNat) x.snd x_1) x_2) (pieces begunL (padL b) x.fst) x_3).getD (Int.toNat (4 : Int)) (0 : Int)) (6 : Int)) (rot
  ((roundsL (more (first (pieceAt b (↑((64 : Nat) * x.fst) : Int).toNat) x.snd x_1) x_2) (pieces begunL (padL b) x.fst) x_3).getD (Int.toNat (4 : Int)) (0 : Int)) (11 : Int))) (rot ((roundsL (more
  (first (pieceAt b (↑((64 : Nat) * x.fst) : Int).toNat) x.snd x_1) x_2) (pieces begunL (padL b) x.fst) x_3).getD (Int.toNat (4 : Int)) (0 : Int)) (25 : Int))) + bitsI BinOp.xor IntKind.u32 (bitsI
  BinOp.and IntKind.u32 ((roundsL (more (first (pieceAt b (↑((64 : Nat) * x.fst) : Int).toNat) x.snd x_1) x_2) (pieces begunL (padL b) x.fst) x_3).getD (Int.toNat (4 : Int)) (0 : Int)) ((roundsL (more
  (first (pieceAt b (↑((64 : Nat) * x.fst) : Int).toNat) x.snd x_1) x_2) (pieces begunL (padL b) x.fst) x_3).getD (Int.toNat (5 : Int)) (0 : Int))) (bitsI BinOp.and IntKind.u32 (bitsI BinOp.xor
  IntKind.u32 (if IntKind.u32.signed = true then (-1 : Int) else IntKind.u32.max) ((roundsL (more (first (pieceAt b (↑((64 : Nat) * x.fst) : Int).toNat) x.snd x_1) x_2) (pieces begunL (padL b) x.fst)
  x_3).getD (Int.toNat (4 : Int)) (0 : Int))) ((roundsL (more (first (pieceAt b (↑((64 : Nat) * x.fst) : Int).toNat) x.snd x_1) x_2) (pieces begunL (padL b) x.fst) x_3).getD (Int.toNat (6 : Int)) (0 :
  Int)))) + keysL.getD (↑x_3 : Int).toNat (0 : Int)) + (more (first (pieceAt b (↑((64 : Nat) * x.fst) : Int).toNat) x.snd x_1) x_2).getD (↑x_3 : Int).toNat (0 : Int))), (roundsL (more (first (pieceAt b
  (↑((64 : Nat) * x.fst) : Int).toNat) x.snd x_1) x_2) (pieces begunL (padL b) x.fst) x_3).getD (Int.toNat (4 : Int)) (0 : Int), (roundsL (more (first (pieceAt b (↑((64 : Nat) * x.fst) : Int).toNat)
  x.snd x_1) x_2) (pieces begunL (padL b) x.fst) x_3).getD (Int.toNat (5 : Int)) (0 : Int), (roundsL (more (first (pieceAt b (↑((64 : Nat) * x.fst) : Int).toNat) x.snd x_1) x_2) (pieces begunL (padL b)
  x.fst) x_3).getD (Int.toNat (6 : Int)) (0 : Int)] = Row.arr (118 : Nat) (DT.int IntKind.u32) (roundsL (more (first (pieceAt b (↑((64 : Nat) * x.fst) : Int).toNat) x.snd x_1) x_2) (pieces begunL (padL
  b) x.fst) y)) ∧ True else True ∧ (∃ (x_4 : Nat), x_4 ≤ (8 : Nat) ∧ (V.ptr (500000 : Nat) (0 : Nat) = V.ptr (500000 : Nat) (0 : Nat) ∧ V.ptr (500001 : Nat) (0 : Nat) = V.ptr (500001 : Nat) (0 : Nat) ∧
  V.ptr (500002 : Nat) (0 : Nat) = V.ptr (500002 : Nat) (0 : Nat) ∧ V.ow (500003 : Nat) = V.ow (500003 : Nat) ∧ V.ptr (500004 : Nat) (0 : Nat) = V.ptr (500004 : Nat) (0 : Nat) ∧ V.v (Value.int
  IntKind.i64 (↑((64 : Nat) * x.fst) : Int)) = V.v (Value.int IntKind.i64 (↑((64 : Nat) * x.fst) : Int)) ∧ V.ptr (500005 : Nat) (0 : Nat) = V.ptr (500005 : Nat) (0 : Nat) ∧ V.v (Value.int IntKind.i64 (0
  : Int)) = V.v (Value.int IntKind.i64 (↑x_4 : Int))) ∧ (Row.arr (26 : Nat) DT.u8 (List.replicate (32 : Nat) (0 : UInt8)) = Row.arr (26 : Nat) DT.u8 (List.replicate (32 : Nat) (0 : UInt8)) ∧ Row.arr
  (124 : Nat) (DT.int IntKind.u32) keysL = Row.arr (124 : Nat) (DT.int IntKind.u32) keysL ∧ Row.arr (118 : Nat) (DT.int IntKind.u32) (pieces begunL (padL b) x.fst) = Row.arr (118 : Nat) (DT.int
  IntKind.u32) (plus8 (roundsL (more (first (pieceAt b (↑((64 : Nat) * x.fst) : Int).toNat) x.snd x_1) x_2) (pieces begunL (padL b) x.fst) x_3) (pieces begunL (padL b) x.fst) x_4) ∧ Row.buf (5 : Nat)
  DT.u8 (padL b) = Row.buf (5 : Nat) DT.u8 (padL b) ∧ Row.arr (124 : Nat) (DT.int IntKind.u32) (more (first (pieceAt b (↑((64 : Nat) * x.fst) : Int).toNat) x.snd x_1) x_2) = Row.arr (124 : Nat) (DT.int
  IntKind.u32) (more (first (pieceAt b (↑((64 : Nat) * x.fst) : Int).toNat) x.snd x_1) x_2) ∧ Row.arr (118 : Nat) (DT.int IntKind.u32) (roundsL (more (first (pieceAt b (↑((64 : Nat) * x.fst) :
  Int).toNat) x.snd x_1) x_2) (pieces begunL (padL b) x.fst) x_3) = Row.arr (118 : Nat) (DT.int IntKind.u32) (roundsL (more (first (pieceAt b (↑((64 : Nat) * x.fst) : Int).toNat) x.snd x_1) x_2) (pieces
  begunL (padL b) x.fst) x_3)) ∧ True) ∧ ∀ (x_4 : Nat), x_4 ≤ (8 : Nat) → True ∧ True ∧ bif decide ((↑x_4 : Int) < (8 : Int)) then True ∧ ((0 : Int) ≤ (↑x_4 : Int) ∧ (↑x_4 : Int) < (↑(8 : Nat) : Int)) ∧
  (↑x_4 : Int).toNat < (plus8 (roundsL (more (first (pieceAt b (↑((64 : Nat) * x.fst) : Int).toNat) x.snd x_1) x_2) (pieces begunL (padL b) x.fst) x_3) (pieces begunL (padL b) x.fst) x_4).length ∧ True
  ∧ ((0 : Int) ≤ (↑x_4 : Int) ∧ (↑x_4 : Int) < (↑(8 : Nat) : Int)) ∧ (↑x_4 : Int).toNat < (roundsL (more (first (pieceAt b (↑((64 : Nat) * x.fst) : Int).toNat) x.snd x_1) x_2) (pieces begunL (padL b)
  x.fst) x_3).length ∧ True ∧ ((0 : Int) ≤ (↑x_4 : Int) ∧ (↑x_4 : Int) < (↑(8 : Nat) : Int)) ∧ ((True ∧ True) ∧ True ∧ (↑x_4 : Int).toNat < (plus8 (roundsL (more (first (pieceAt b (↑((64 : Nat) * x.fst)
  : Int).toNat) x.snd x_1) x_2) (pieces begunL (padL b) x.fst) x_3) (pieces begunL (padL b) x.fst) x_4).length) ∧ True ∧ True ∧ True ∧ ∃ (y : Nat), y ≤ (8 : Nat) ∧ (8 : Nat) - y < (8 : Nat) - x_4 ∧
  (V.ptr (500000 : Nat) (0 : Nat) = V.ptr (500000 : Nat) (0 : Nat) ∧ V.ptr (500001 : Nat) (0 : Nat) = V.ptr (500001 : Nat) (0 : Nat) ∧ V.ptr (500002 : Nat) (0 : Nat) = V.ptr (500002 : Nat) (0 : Nat) ∧
  V.ow (500003 : Nat) = V.ow (500003 : Nat) ∧ V.ptr (500004 : Nat) (0 : Nat) = V.ptr (500004 : Nat) (0 : Nat) ∧ V.v (Value.int IntKind.i64 (↑((64 : Nat) * x.fst) : Int)) = V.v (Value.int IntKind.i64
  (↑((64 : Nat) * x.fst) : Int)) ∧ V.ptr (500005 : Nat) (0 : Nat) = V.ptr (500005 : Nat) (0 : Nat) ∧ V.v (Value.int IntKind.i64 (IntKind.i64.wrap ((↑x_4 : Int) + (1 : Int)))) = V.v (Value.int
  IntKind.i64 (↑y : Int))) ∧ (Row.arr (26 : Nat) DT.u8 (List.replicate (32 : Nat) (0 : UInt8)) = Row.arr (26 : Nat) DT.u8 (List.replicate (32 : Nat) (0 : UInt8)) ∧ Row.arr (124 : Nat) (DT.int
  IntKind.u32) keysL = Row.arr (124 : Nat) (DT.int IntKind.u32) keysL ∧ Row.arr (118 : Nat) (DT.int IntKind.u32) ((plus8 (roundsL (more (first (pieceAt b (↑((64 : Nat) * x.fst) : Int).toNat) x.snd x_1)
  x_2) (pieces begunL (padL b) x.fst) x_3) (pieces begunL (padL b) x.fst) x_4).set (↑x_4 : Int).toNat (IntKind.u32.wrap ((plus8 (roundsL (more (first (pieceAt b (↑((64 : Nat) * x.fst) : Int).toNat)
  x.snd x_1) x_2) (pieces begunL (padL b) x.fst) x_3) (pieces begunL (padL b) x.fst) x_4).getD (↑x_4 : Int).toNat (0 : Int) + (roundsL (more (first (pieceAt b (↑((64 : Nat) * x.fst) : Int).toNat) x.snd
  x_1) x_2) (pieces begunL (padL b) x.fst) x_3).getD (↑x_4 : Int).toNat (0 : Int)))) = Row.arr (118 : Nat) (DT.int IntKind.u32) (plus8 (roundsL (more (first (pieceAt b (↑((64 : Nat) * x.fst) :
  Int).toNat) x.snd x_1) x_2) (pieces begunL (padL b) x.fst) x_3) (pieces begunL (padL b) x.fst) y) ∧ Row.buf (5 : Nat) DT.u8 (padL b) = Row.buf (5 : Nat) DT.u8 (padL b) ∧ Row.arr (124 : Nat) (DT.int
  IntKind.u32) (more (first (pieceAt b (↑((64 : Nat) * x.fst) : Int).toNat) x.snd x_1) x_2) = Row.arr (124 : Nat) (DT.int IntKind.u32) (more (first (pieceAt b (↑((64 : Nat) * x.fst) : Int).toNat) x.snd
  x_1) x_2) ∧ Row.arr (118 : Nat) (DT.int IntKind.u32) (roundsL (more (first (pieceAt b (↑((64 : Nat) * x.fst) : Int).toNat) x.snd x_1) x_2) (pieces begunL (padL b) x.fst) x_3) = Row.arr (118 : Nat)
  (DT.int IntKind.u32) (roundsL (more (first (pieceAt b (↑((64 : Nat) * x.fst) : Int).toNat) x.snd x_1) x_2) (pieces begunL (padL b) x.fst) x_3)) ∧ True else True ∧ True ∧ True ∧ ∃ (y : Nat × List Int),
  (y.fst ≤ rounds b ∧ y.snd.length = (64 : Nat)) ∧ rounds b - y.fst < rounds b - x.fst ∧ (V.ptr (500000 : Nat) (0 : Nat) = V.ptr (500000 : Nat) (0 : Nat) ∧ V.ptr (500001 : Nat) (0 : Nat) = V.ptr (500001
  : Nat) (0 : Nat) ∧ V.ptr (500002 : Nat) (0 : Nat) = V.ptr (500002 : Nat) (0 : Nat) ∧ V.ow (500003 : Nat) = V.ow (500003 : Nat) ∧ V.ptr (500004 : Nat) (0 : Nat) = V.ptr (500004 : Nat) (0 : Nat) ∧ V.v
  (Value.int IntKind.i64 (IntKind.i64.wrap ((↑((64 : Nat) * x.fst) : Int) + (64 : Int)))) = V.v (Value.int IntKind.i64 (↑((64 : Nat) * y.fst) : Int))) ∧ (Row.arr (26 : Nat) DT.u8 (List.replicate (32 :
  Nat) (0 : UInt8)) = Row.arr (26 : Nat) DT.u8 (List.replicate (32 : Nat) (0 : UInt8)) ∧ Row.arr (124 : Nat) (DT.int IntKind.u32) keysL = Row.arr (124 : Nat) (DT.int IntKind.u32) keysL ∧ Row.arr (118 :
  Nat) (DT.int IntKind.u32) (plus8 (roundsL (more (first (pieceAt b (↑((64 : Nat) * x.fst) : Int).toNat) x.snd x_1) x_2) (pieces begunL (padL b) x.fst) x_3) (pieces begunL (padL b) x.fst) x_4) = Row.arr
  (118 : Nat) (DT.int IntKind.u32) (pieces begunL (padL b) y.fst) ∧ Row.buf (5 : Nat) DT.u8 (padL b) = Row.buf (5 : Nat) DT.u8 (padL b) ∧ Row.arr (124 : Nat) (DT.int IntKind.u32) (more (first (pieceAt b
  (↑((64 : Nat) * x.fst) : Int).toNat) x.snd x_1) x_2) = Row.arr (124 : Nat) (DT.int IntKind.u32) y.snd) ∧ True else True ∧ True ∧ (∃ (x_1 : Nat), x_1 ≤ (8 : Nat) ∧ (V.ptr (500000 : Nat) (0 : Nat) =
  V.ptr (500000 : Nat) (0 : Nat) ∧ V.ptr (500001 : Nat) (0 : Nat) = V.ptr (500001 : Nat) (0 : Nat) ∧ V.ptr (500002 : Nat) (0 : Nat) = V.ptr (500002 : Nat) (0 : Nat) ∧ V.v (Value.int IntKind.i64 (0 :
  Int)) = V.v (Value.int IntKind.i64 (↑x_1 : Int))) ∧ (Row.arr (26 : Nat) DT.u8 (List.replicate (32 : Nat) (0 : UInt8)) = Row.arr (26 : Nat) DT.u8 (List.replicate (32 : Nat) (0 : UInt8)) ∧ Row.arr (118
  : Nat) (DT.int IntKind.u32) (pieces begunL (padL b) x.fst) = Row.arr (118 : Nat) (DT.int IntKind.u32) (pieces begunL (padL b) (rounds b)) ∧ Row.arr (26 : Nat) DT.u8 (List.replicate (32 : Nat) (0 :
  UInt8)) = Row.arr (26 : Nat) DT.u8 (outL (pieces begunL (padL b) (rounds b)) ((4 : Nat) * x_1))) ∧ True) ∧ ∀ (x : Nat), x ≤ (8 : Nat) → True ∧ True ∧ bif decide ((↑x : Int) < (8 : Int)) then True ∧
  True ∧ True ∧ True ∧ True ∧ True ∧ True ∧ True ∧ True ∧ True ∧ True ∧ True ∧ ((0 : Int) ≤ (↑x : Int) ∧ (↑x : Int) < (↑(8 : Nat) : Int)) ∧ (↑x : Int).toNat < (pieces begunL (padL b) (rounds b)).length
  ∧ (0 : Int) ≤ (24 : Int) ∧ True ∧ True ∧ ((0 : Int) ≤ (↑x : Int) ∧ (↑x : Int) < (↑(8 : Nat) : Int)) ∧ (↑x : Int).toNat < (pieces begunL (padL b) (rounds b)).length ∧ (0 : Int) ≤ (16 : Int) ∧ True ∧
  True ∧ ((0 : Int) ≤ (↑x : Int) ∧ (↑x : Int) < (↑(8 : Nat) : Int)) ∧ (↑x : Int).toNat < (pieces begunL (padL b) (rounds b)).length ∧ (0 : Int) ≤ (8 : Int) ∧ True ∧ True ∧ ((0 : Int) ≤ (↑x : Int) ∧ (↑x
  : Int) < (↑(8 : Nat) : Int)) ∧ (↑x : Int).toNat < (pieces begunL (padL b) (rounds b)).length ∧ True ∧ ((0 : Int) ≤ IntKind.i64.wrap ((4 : Int) * (↑x : Int)) ∧ IntKind.i64.wrap ((4 : Int) * (↑x : Int))
  < (↑(32 : Nat) : Int)) ∧ ((True ∧ True) ∧ ((0 : Int) ≤ IntKind.u8.wrap (shrI IntKind.u32 ((pieces begunL (padL b) (rounds b)).getD (↑x : Int).toNat (0 : Int)) (24 : Int)) ∧ IntKind.u8.wrap (shrI
  IntKind.u32 ((pieces begunL (padL b) (rounds b)).getD (↑x : Int).toNat (0 : Int)) (24 : Int)) < (256 : Int)) ∧ (IntKind.i64.wrap ((4 : Int) * (↑x : Int))).toNat < (outL (pieces begunL (padL b) (rounds
  b)) ((4 : Nat) * x)).length) ∧ ((0 : Int) ≤ IntKind.i64.wrap (IntKind.i64.wrap ((4 : Int) * (↑x : Int)) + (1 : Int)) ∧ IntKind.i64.wrap (IntKind.i64.wrap ((4 : Int) * (↑x : Int)) + (1 : Int)) < (↑(32
  : Nat) : Int)) ∧ ((True ∧ True) ∧ ((0 : Int) ≤ IntKind.u8.wrap (shrI IntKind.u32 ((pieces begunL (padL b) (rounds b)).getD (↑x : Int).toNat (0 : Int)) (16 : Int)) ∧ IntKind.u8.wrap (shrI IntKind.u32
  ((pieces begunL (padL b) (rounds b)).getD (↑x : Int).toNat (0 : Int)) (16 : Int)) < (256 : Int)) ∧ (IntKind.i64.wrap (IntKind.i64.wrap ((4 : Int) * (↑x : Int)) + (1 : Int))).toNat < ((outL (pieces
  begunL (padL b) (rounds b)) ((4 : Nat) * x)).set (IntKind.i64.wrap ((4 : Int) * (↑x : Int))).toNat (UInt8.ofNat (IntKind.u8.wrap (shrI IntKind.u32 ((pieces begunL (padL b) (rounds b)).getD (↑x :
  Int).toNat (0 : Int)) (24 : Int))).toNat)).length) ∧ ((0 : Int) ≤ IntKind.i64.wrap (IntKind.i64.wrap ((4 : Int) * (↑x : Int)) + (2 : Int)) ∧ IntKind.i64.wrap (IntKind.i64.wrap ((4 : Int) * (↑x : Int))
  + (2 : Int)) < (↑(32 : Nat) : Int)) ∧ ((True ∧ True) ∧ ((0 : Int) ≤ IntKind.u8.wrap (shrI IntKind.u32 ((pieces begunL (padL b) (rounds b)).getD (↑x : Int).toNat (0 : Int)) (8 : Int)) ∧ IntKind.u8.wrap
  (shrI IntKind.u32 ((pieces begunL (padL b) (rounds b)).getD (↑x : Int).toNat (0 : Int)) (8 : Int)) < (256 : Int)) ∧ (IntKind.i64.wrap (IntKind.i64.wrap ((4 : Int) * (↑x : Int)) + (2 : Int))).toNat <
  (((outL (pieces begunL (padL b) (rounds b)) ((4 : Nat) * x)).set (IntKind.i64.wrap ((4 : Int) * (↑x : Int))).toNat (UInt8.ofNat (IntKind.u8.wrap (shrI IntKind.u32 ((pieces begunL (padL b) (rounds
  b)).getD (↑x : Int).toNat (0 : Int)) (24 : Int))).toNat)).set (IntKind.i64.wrap (IntKind.i64.wrap ((4 : Int) * (↑x : Int)) + (1 : Int))).toNat (UInt8.ofNat (IntKind.u8.wrap (shrI IntKind.u32 ((pieces
  begunL (padL b) (rounds b)).getD (↑x : Int).toNat (0 : Int)) (16 : Int))).toNat)).length) ∧ ((0 : Int) ≤ IntKind.i64.wrap (IntKind.i64.wrap ((4 : Int) * (↑x : Int)) + (3 : Int)) ∧ IntKind.i64.wrap
  (IntKind.i64.wrap ((4 : Int) * (↑x : Int)) + (3 : Int)) < (↑(32 : Nat) : Int)) ∧ ((True ∧ True) ∧ ((0 : Int) ≤ IntKind.u8.wrap ((pieces begunL (padL b) (rounds b)).getD (↑x : Int).toNat (0 : Int)) ∧
  IntKind.u8.wrap ((pieces begunL (padL b) (rounds b)).getD (↑x : Int).toNat (0 : Int)) < (256 : Int)) ∧ (IntKind.i64.wrap (IntKind.i64.wrap ((4 : Int) * (↑x : Int)) + (3 : Int))).toNat < ((((outL
  (pieces begunL (padL b) (rounds b)) ((4 : Nat) * x)).set (IntKind.i64.wrap ((4 : Int) * (↑x : Int))).toNat (UInt8.ofNat (IntKind.u8.wrap (shrI IntKind.u32 ((pieces begunL (padL b) (rounds b)).getD (↑x
  : Int).toNat (0 : Int)) (24 : Int))).toNat)).set (IntKind.i64.wrap (IntKind.i64.wrap ((4 : Int) * (↑x : Int)) + (1 : Int))).toNat (UInt8.ofNat (IntKind.u8.wrap (shrI IntKind.u32 ((pieces begunL (padL
  b) (rounds b)).getD (↑x : Int).toNat (0 : Int)) (16 : Int))).toNat)).set (IntKind.i64.wrap (IntKind.i64.wrap ((4 : Int) * (↑x : Int)) + (2 : Int))).toNat (UInt8.ofNat (IntKind.u8.wrap (shrI
  IntKind.u32 ((pieces begunL (padL b) (rounds b)).getD (↑x : Int).toNat (0 : Int)) (8 : Int))).toNat)).length) ∧ True ∧ True ∧ True ∧ ∃ (y : Nat), y ≤ (8 : Nat) ∧ (8 : Nat) - y < (8 : Nat) - x ∧ (V.ptr
  (500000 : Nat) (0 : Nat) = V.ptr (500000 : Nat) (0 : Nat) ∧ V.ptr (500001 : Nat) (0 : Nat) = V.ptr (500001 : Nat) (0 : Nat) ∧ V.ptr (500002 : Nat) (0 : Nat) = V.ptr (500002 : Nat) (0 : Nat) ∧ V.v
  (Value.int IntKind.i64 (IntKind.i64.wrap ((↑x : Int) + (1 : Int)))) = V.v (Value.int IntKind.i64 (↑y : Int))) ∧ (Row.arr (26 : Nat) DT.u8 (List.replicate (32 : Nat) (0 : UInt8)) = Row.arr (26 : Nat)
  DT.u8 (List.replicate (32 : Nat) (0 : UInt8)) ∧ Row.arr (118 : Nat) (DT.int IntKind.u32) (pieces begunL (padL b) (rounds b)) = Row.arr (118 : Nat) (DT.int IntKind.u32) (pieces begunL (padL b) (rounds
  b)) ∧ Row.arr (26 : Nat) DT.u8 (((((outL (pieces begunL (padL b) (rounds b)) ((4 : Nat) * x)).set (IntKind.i64.wrap ((4 : Int) * (↑x : Int))).toNat (UInt8.ofNat (IntKind.u8.wrap (shrI IntKind.u32
  ((pieces begunL (padL b) (rounds b)).getD (↑x : Int).toNat (0 : Int)) (24 : Int))).toNat)).set (IntKind.i64.wrap (IntKind.i64.wrap ((4 : Int) * (↑x : Int)) + (1 : Int))).toNat (UInt8.ofNat
  (IntKind.u8.wrap (shrI IntKind.u32 ((pieces begunL (padL b) (rounds b)).getD (↑x : Int).toNat (0 : Int)) (16 : Int))).toNat)).set (IntKind.i64.wrap (IntKind.i64.wrap ((4 : Int) * (↑x : Int)) + (2 :
  Int))).toNat (UInt8.ofNat (IntKind.u8.wrap (shrI IntKind.u32 ((pieces begunL (padL b) (rounds b)).getD (↑x : Int).toNat (0 : Int)) (8 : Int))).toNat)).set (IntKind.i64.wrap (IntKind.i64.wrap ((4 :
  Int) * (↑x : Int)) + (3 : Int))).toNat (UInt8.ofNat (IntKind.u8.wrap ((pieces begunL (padL b) (rounds b)).getD (↑x : Int).toNat (0 : Int))).toNat)) = Row.arr (26 : Nat) DT.u8 (outL (pieces begunL
  (padL b) (rounds b)) ((4 : Nat) * y))) ∧ True else (outL (pieces begunL (padL b) (rounds b)) ((4 : Nat) * x)).length = (32 : Nat) ∧ (32 : Nat) = (32 : Nat) ∧ ((outL (pieces begunL (padL b) (rounds b))
  ((4 : Nat) * x)).length = (32 : Nat) ∧ True) ∧ True ∧ V.vec DT.u8 (32 : Nat) (outL (pieces begunL (padL b) (rounds b)) ((4 : Nat) * x)) = V.vec DT.u8 (32 : Nat) r ∧ True) := by kernel_rfl


theorem piece_is (b : List UInt8) (p : Nat) : pieceAt b (64 * p) = piece b p := rfl
theorem piece_get (b : List UInt8) (p k : Nat) (hk : k < 64) : (padL b).getD (64 * p + k) 0 = (piece b p).getD k 0 := by
  unfold piece pieceAt
  simp only [List.getD]
  rw [List.getElem?_take, if_pos hk, List.getElem?_drop]
theorem same_first (b : List UInt8) (w v : List Int) (h : w.length = v.length) : ∀ i, i ≤ w.length → ∀ j, j < i → (first b w i)[j]? = (first b v i)[j]?
  | 0, _, j, hj => by omega
  | i + 1, hi, j, hj => by
    simp only [first]
    by_cases c : i = j
    · subst c
      rw [List.getElem?_set_self (by rw [first_len]; omega), List.getElem?_set_self (by rw [first_len]; omega)]
    · rw [List.getElem?_set_ne c, List.getElem?_set_ne c]
      exact same_first b w v h i (by omega) j (by omega)
theorem same_more (w v : List Int) (hw : w.length = 64) (hv : v.length = 64) (h : ∀ j, j < 16 → w[j]? = v[j]?) : ∀ i, i ≤ 48 → ∀ j, j < 16 + i → (more w i)[j]? = (more v i)[j]?
  | 0, _, j, hj => h j (by omega)
  | i + 1, hi, j, hj => by
    have ih := same_more w v hw hv h i (by omega)
    simp only [more]
    by_cases c : 16 + i = j
    · subst c
      have e : mix (more w i) (16 + i) = mix (more v i) (16 + i) := by
        unfold mix
        simp only [List.getD]
        rw [ih (16 + i - 16) (by omega), ih (16 + i - 15) (by omega), ih (16 + i - 7) (by omega), ih (16 + i - 2) (by omega)]
      rw [List.getElem?_set_self (by rw [more_len]; omega), List.getElem?_set_self (by rw [more_len]; omega), e]
    · rw [List.getElem?_set_ne c, List.getElem?_set_ne c]
      exact ih j (by omega)
theorem wordsOn_eq (b : List UInt8) (p : Nat) (w : List Int) (hw : w.length = 64) : wordsOn b p w = spreadL (piece b p) := by
  unfold wordsOn spreadL
  have hz : zeros64.length = 64 := rfl
  refine List.ext_getElem? fun j => ?_
  by_cases c : j < 64
  · exact same_more _ _ (by rw [first_len, hw]) (by rw [first_len, hz]) (fun j hj => same_first _ w zeros64 (by rw [hw, hz]) 16 (by omega) j hj) 48 (Nat.le_refl _) j (by omega)
  · rw [List.getElem?_eq_none (by rw [more_len, first_len]; omega), List.getElem?_eq_none (by rw [more_len, first_len]; omega)]
theorem addW_is (a b : Int) : addW a b = (a + b) % 4294967296 := by
  unfold addW
  simp [IntKind.wrap, IntKind.bits, IntKind.signed]
theorem addW4 (a b c d : Int) : addW (addW (addW a b) c) d = addW (addW (addW d c) b) a := by
  simp only [addW_is]; omega
theorem shr0 (k : IntKind) (x : Int) : shrI k x 0 = x := by
  unfold shrI
  simp
theorem outL4 (s : List Int) (i : Nat) : outL s (4 * (i + 1)) = ((((outL s (4 * i)).set (4 * i) (outB s (4 * i))).set (4 * i + 1) (outB s (4 * i + 1))).set (4 * i + 2) (outB s (4 * i + 2))).set (4 * i + 3) (outB s (4 * i + 3)) := rfl
theorem outB_is (s : List Int) (i j : Nat) (hj : j < 4) : outB s (4 * i + j) = UInt8.ofNat (IntKind.u8.wrap (shrI .u32 (s.getD i 0) ((24 - 8 * j : Nat) : Int))).toNat := by
  unfold outB
  rw [show (4 * i + j) / 4 = i by omega, show (4 * i + j) % 4 = j by omega]
theorem sum8_comm (s t : List Int) : sum8 s t = sum8 t s := by
  unfold sum8
  simp only [addW_comm]
theorem first_step (b : List UInt8) (p : Nat) (w : List Int) (i : Nat) (hi : i < 16) : (first (piece b p) w i).set i (be4 ((padL b).getD (64 * p + 4 * i) 0) ((padL b).getD (64 * p + 4 * i + 1) 0) ((padL b).getD (64 * p + 4 * i + 2) 0) ((padL b).getD (64 * p + 4 * i + 3) 0)) = first (piece b p) w (i + 1) := by
  simp only [first, be]
  rw [Nat.add_assoc, Nat.add_assoc, Nat.add_assoc, piece_get b p _ (by omega), piece_get b p _ (by omega), piece_get b p _ (by omega), piece_get b p _ (by omega)]

set_option maxHeartbeats 1000000 in
theorem okRefSum : SumOK Try.prog 24 sRefSum := by
  refine fn_ok Try.func24 (c := Try.f24.body.getD .skip) (by kernel_rfl) (by kernel_rfl) (ok1 okWords (ok1 okRot ok0)) ?_
  intro k l heap e he _ hn hin
  clear hin
  simp only [sRefSum] at he
  split at he
  · rename_i x
    split at he
    · rename_i b hb
      cases he
      have hlen : b.length ≤ 140737488355000 := hn
      refine ⟨[.deep .u8 b], _, Subs.cons (decD_sub hb) Subs.nil, rfl, Eq.mpr (vcRefSum b _ _ heap) ?_⟩
      simp only [true_and, and_true, V.v.injEq, V.b.injEq, V.deep.injEq, V.agg.injEq, V.vec.injEq, V.tup.injEq, V.ow.injEq, V.own.injEq, V.ptr.injEq, V.fl.injEq, V.cx.injEq, Row.arr.injEq, Row.buf.injEq, Row.lit.injEq, Value.int.injEq, Value.bool.injEq, Value.string.injEq, Option.some.injEq, List.cons.injEq, heq_eq_eq]
      have hR := padL_rounds b
      have hL := padL_len b
      have hz : zpad b.length < 64 := Nat.mod_lt _ (by omega)
      have hzs : ∀ i, i ≤ zpad b.length → ((b.length + 1 + i) % 64 ≠ 56 ↔ i < zpad b.length) := by
        intro i hi; unfold zpad at hi ⊢; omega
      have hbits : IntKind.u64.wrap (IntKind.u64.wrap (b.length : Int) * 8) = bits b := by
        unfold bits; rw [wrap_u64 (n := (b.length : Int)) (by omega), wrap_u64 (by omega)]; omega
      have h128 : UInt8.ofNat (Int.toNat 128) = 128 := rfl
      have h00 : UInt8.ofNat (Int.toNat 0) = 0 := rfl
      have hP := pieces_len (padL b)
      simp only [h128, h00, hbits, List.nil_append, List.length_append, List.length_replicate, List.length_cons, List.length_nil, lens_len]
      refine ⟨by omega, ⟨by omega, by omega, by omega⟩, ⟨0, by omega, rfl, by simp⟩, fun x hx => ⟨by omega, cond_prop (fun h => ⟨⟨by omega, by omega, by omega⟩, x + 1, ?_, ?_, ?_⟩) (fun h => ⟨⟨0, by omega, ⟨trivial, rfl⟩, ?_⟩, fun i hi => cond_dec (fun hge => ?_) (fun hlt => ?_)⟩)⟩⟩
      · have := ne_56.1 h
        have := (hzs x hx).1 this
        omega
      · have := ne_56.1 h
        have := (hzs x hx).1 this
        omega
      · simp only [List.replicate_succ', List.append_assoc]
      · have : ¬ (b.length + 1 + x) % 64 ≠ 56 := fun c => by rw [ne_56.2 c] at h; cases h
        have h0 : zpad b.length = x := by
          have := mt (hzs x hx).2 this
          omega
        rw [h0]; simp [lens]
      · have e1 : IntKind.u64.wrap (8 * IntKind.u64.wrap (7 - (i : Int))) = 56 - 8 * (i : Int) := by
          rw [wrap_u64 (n := 7 - (i : Int)) (by omega), wrap_u64 (by omega)]; omega
        rw [e1]
        refine ⟨by omega, ⟨wrap_u8_range _, by omega, by omega⟩, i + 1, by omega, by omega, by rw [wrap_i64 (by omega)]; omega, ?_⟩
        simp only [lens, lenByte, List.append_assoc]
      · have hi8 : i = 8 := by omega
        subst hi8
        refine ⟨⟨(0, zeros64), ⟨(by first | omega | (dsimp only; omega)), rfl⟩, rfl, rfl, rfl, rfl⟩, ?_⟩
        rintro ⟨p, w⟩ ⟨hp, hw⟩
        simp only at hp hw ⊢
        simp only [Int.toNat_natCast, piece_is]
        have hPp := hP p
        refine cond_dec (fun hplt => ?_) (fun hpge => ?_)
        · refine ⟨⟨0, by omega, rfl, rfl⟩, fun i hi => cond_dec (fun hilt => ?_) (fun hige => ?_)⟩
          · have w0 : IntKind.i64.wrap (((64 * p : Nat) : Int) + IntKind.i64.wrap (4 * (i : Int))) = ((64 * p + 4 * i : Nat) : Int) := by
              rw [wrap_i64 (n := 4 * (i : Int)) (by omega), wrap_i64 (by omega)]; omega
            have w1 : IntKind.i64.wrap (((64 * p + 4 * i : Nat) : Int) + 1) = ((64 * p + 4 * i + 1 : Nat) : Int) := by rw [wrap_i64 (by omega)]; omega
            have w2 : IntKind.i64.wrap (((64 * p + 4 * i : Nat) : Int) + 2) = ((64 * p + 4 * i + 2 : Nat) : Int) := by rw [wrap_i64 (by omega)]; omega
            have w3 : IntKind.i64.wrap (((64 * p + 4 * i : Nat) : Int) + 3) = ((64 * p + 4 * i + 3 : Nat) : Int) := by rw [wrap_i64 (by omega)]; omega
            simp only [w0, w1, w2, w3, Int.toNat_natCast, first_len]
            and_intros
            all_goals first | omega | skip
            exact ⟨i + 1, by omega, by omega, by rw [wrap_i64 (by omega)]; omega, first_step b p w i (by omega)⟩
          · have hi16 : i = 16 := by omega
            subst hi16
            refine ⟨⟨0, by omega, rfl, rfl⟩, fun i hi => cond_dec (fun hilt => ?_) (fun hige => ?_)⟩
            · have v0 : IntKind.i64.wrap (((16 + i : Nat) : Int) - 15) = ((16 + i - 15 : Nat) : Int) := by rw [wrap_i64 (by omega)]; omega
              have v1 : IntKind.i64.wrap (((16 + i : Nat) : Int) - 16) = ((16 + i - 16 : Nat) : Int) := by rw [wrap_i64 (by omega)]; omega
              have v2 : IntKind.i64.wrap (((16 + i : Nat) : Int) - 2) = ((16 + i - 2 : Nat) : Int) := by rw [wrap_i64 (by omega)]; omega
              have v3 : IntKind.i64.wrap (((16 + i : Nat) : Int) - 7) = ((16 + i - 7 : Nat) : Int) := by rw [wrap_i64 (by omega)]; omega
              simp only [v0, v1, v2, v3, Int.toNat_natCast, more_len, first_len]
              and_intros
              all_goals first | omega | skip
              refine ⟨i + 1, by omega, by omega, by rw [wrap_i64 (by omega)]; omega, ?_⟩
              simp only [more]
              congr 1
              unfold mix mix4
              rw [← addW4]
              rfl
            · have hi48 : i = 48 := by omega
              subst hi48
              have e2 : more (first (piece b p) w 16) 48 = wordsOn b p w := by rw [wordsOn]
              have hwo : (wordsOn b p w).length = 64 := by rw [wordsOn_eq b p w hw, spreadL_len]
              have hk : keysL.length = 64 := rfl
              rw [e2]
              clear e2
              have e1 : wordsOn b p w = spreadL (piece b p) := wordsOn_eq b p w hw
              generalize wordsOn b p w = W at hwo e1 ⊢
              refine ⟨hP p, ⟨0, by omega, rfl, rfl⟩, fun i hi => ?_⟩
              have hr := roundsL_len W (pieces begunL (padL b) p) (hP p) i
              refine cond_dec (fun hilt => ?_) (fun hige => ?_)
              · and_intros
                all_goals first | omega | skip
                exact ⟨i + 1, by omega, by omega, by rw [wrap_i64 (by omega)]; omega, rfl⟩
              · have hi64 : i = 64 := by omega
                subst hi64
                refine ⟨⟨0, by omega, rfl, rfl⟩, fun i hi => ?_⟩
                have hp8 := plus8_len (roundsL W (pieces begunL (padL b) p) 64) (pieces begunL (padL b) p) i
                refine cond_dec (fun hilt => ?_) (fun hige => ?_)
                · and_intros
                  all_goals first | omega | skip
                  exact ⟨i + 1, by omega, by omega, by rw [wrap_i64 (by omega)]; omega, rfl⟩
                · have hi8 : i = 8 := by omega
                  subst hi8
                  refine ⟨(p + 1, W), ⟨(by first | omega | (dsimp only; omega)), hwo⟩, (by first | omega | (dsimp only; omega)), by rw [wrap_i64 (by first | omega | (dsimp only; omega))]; first | omega | (dsimp only; omega), ?_, rfl⟩
                  rw [plus8_eq _ _ hr hPp, sum8_comm, e1]
                  rfl
        · have hpe : p = rounds b := by omega
          subst hpe
          refine ⟨⟨0, by omega, rfl, rfl, rfl⟩, fun i hi => cond_dec (fun hilt => ?_) (fun hige => ?_)⟩
          · have u0 : IntKind.i64.wrap (4 * (i : Int)) = ((4 * i : Nat) : Int) := by rw [wrap_i64 (by omega)]; omega
            have u1 : IntKind.i64.wrap (((4 * i : Nat) : Int) + 1) = ((4 * i + 1 : Nat) : Int) := by rw [wrap_i64 (by omega)]; omega
            have u2 : IntKind.i64.wrap (((4 * i : Nat) : Int) + 2) = ((4 * i + 2 : Nat) : Int) := by rw [wrap_i64 (by omega)]; omega
            have u3 : IntKind.i64.wrap (((4 * i : Nat) : Int) + 3) = ((4 * i + 3 : Nat) : Int) := by rw [wrap_i64 (by omega)]; omega
            simp only [u0, u1, u2, u3, Int.toNat_natCast, outL_len, hP, List.length_set]
            and_intros
            all_goals first | omega | exact (wrap_u8_range _).1 | exact (wrap_u8_range _).2 | skip
            refine ⟨i + 1, by omega, by omega, by rw [wrap_i64 (by omega)]; omega, ?_⟩
            have o0 := outB_is (pieces begunL (padL b) (rounds b)) i 0 (by omega)
            rw [Nat.add_zero] at o0
            rw [outL4, o0, outB_is _ _ 1 (by omega), outB_is _ _ 2 (by omega), outB_is _ _ 3 (by omega)]
            have s3 : shrI .u32 ((pieces begunL (padL b) (rounds b)).getD i 0) ((24 - 8 * 3 : Nat) : Int) = (pieces begunL (padL b) (rounds b)).getD i 0 := shr0 _ _
            rw [s3]
            rfl
          · have hi8 : i = 8 := by omega
            subst hi8
            exact ⟨outL_len _ _, outL_len _ _, rfl⟩
    · cases he
  · cases he
end Go.Proofs.Ytbkhhfekdpkhbaa.Ab
