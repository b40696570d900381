/- The words of a piece, and the rounds' keys; no condition. -/
import Derived.Test.YtbkhhfekdpkhbaaBaB
namespace Go.Proofs.Ytbkhhfekdpkhbaa.Ab
open Go
set_option linter.unusedSimpArgs false
set_option linter.unusedVariables false
set_option maxRecDepth 100000

/-- Four bytes as a word. -/
def be4 (x y z u : UInt8) : Int :=
  bitsI .or .u32 (bitsI .or .u32 (bitsI .or .u32 (shlI .u32 (IntKind.u32.wrap (x.toNat : Int)) 24) (shlI .u32 (IntKind.u32.wrap (y.toNat : Int)) 16)) (shlI .u32 (IntKind.u32.wrap (z.toNat : Int)) 8)) (IntKind.u32.wrap (u.toNat : Int))
def be (b : List UInt8) (i : Nat) : Int := be4 (b.getD (4 * i) 0) (b.getD (4 * i + 1) 0) (b.getD (4 * i + 2) 0) (b.getD (4 * i + 3) 0)
def sig0 (x : Int) : Int := bitsI .xor .u32 (bitsI .xor .u32 (rot x 7) (rot x 18)) (shrI .u32 x 3)
def sig1 (x : Int) : Int := bitsI .xor .u32 (bitsI .xor .u32 (rot x 17) (rot x 19)) (shrI .u32 x 10)
def addW (a b : Int) : Int := IntKind.u32.wrap (a + b)
/-- The first words, set one by one. -/
def first (b : List UInt8) (w : List Int) : Nat → List Int
  | 0 => w
  | i + 1 => (first b w i).set i (be b i)
/-- The word in place i. -/
def mix4 (a b c d : Int) : Int := addW (addW (addW a (sig0 b)) c) (sig1 d)
def mix (w : List Int) (i : Nat) : Int := mix4 (w.getD (i - 16) 0) (w.getD (i - 15) 0) (w.getD (i - 7) 0) (w.getD (i - 2) 0)
def more (w : List Int) : Nat → List Int
  | 0 => w
  | i + 1 => (more w i).set (16 + i) (mix (more w i) (16 + i))
def zeros64 : List Int := List.replicate 64 0
def spreadL (b : List UInt8) : List Int := more (first b zeros64 16) 48

noncomputable def lamSpread (xs : List UInt8) : Nat → Option Lp
  | 3 => some (.inv { α := Nat, inv := fun i => i ≤ 16, mu := fun i => 16 - i, base := 500000, st := fun i => { env := [(0, .deep .u8 xs), (2, .ptr 500000 0), (3, .ptr 500001 0), (8, .v (.int .i64 (i : Int)))], rows := [.arr 124 (.int .u32) (List.replicate 64 (0 : Int)), .arr 124 (.int .u32) (first xs zeros64 i)], ents := [] } })
  | 8 => some (.inv { α := Nat, inv := fun i => i ≤ 48, mu := fun i => 48 - i, base := 500000, st := fun i => { env := [(0, .deep .u8 xs), (2, .ptr 500000 0), (3, .ptr 500001 0), (5, .v (.int .i64 ((16 + i : Nat) : Int)))], rows := [.arr 124 (.int .u32) (List.replicate 64 (0 : Int)), .arr 124 (.int .u32) (more (first xs zeros64 16) i)], ents := [] } })
  | _ => none

def sSpread : Sum := { asis := [false], flat := true, f := fun k l _ => match k, l with
  | 0, [.deep .u8 xs] => some { need := xs.length = 64, val := .vec (.int .u32) 64 (spreadL xs) }
  | _, _ => none }
def keysL : List Int := [1116352408, 1899447441, 3049323471, 3921009573, 961987163, 1508970993, 2453635748, 2870763221, 3624381080, 310598401, 607225278, 1426881987, 1925078388, 2162078206, 2614888103, 3248222580,
  3835390401, 4022224774, 264347078, 604807628, 770255983, 1249150122, 1555081692, 1996064986, 2554220882, 2821834349, 2952996808, 3210313671, 3336571891, 3584528711, 113926993, 338241895,
  666307205, 773529912, 1294757372, 1396182291, 1695183700, 1986661051, 2177026350, 2456956037, 2730485921, 2820302411, 3259730800, 3345764771, 3516065817, 3600352804, 4094571909, 275423344,
  430227734, 506948616, 659060556, 883997877, 958139571, 1322822218, 1537002063, 1747873779, 1955562222, 2024104815, 2227730452, 2361852424, 2428436474, 2756734187, 3204031479, 3329325298]
def sKeys : Sum := { asis := [], flat := true, f := fun k l _ => match k, l with
  | 0, [] => some { need := True, val := .vec (.int .u32) 64 keysL }
  | _, _ => none }

theorem vcSpread (xs : List UInt8) (r : List Int) (p : Prop) (heap : Nat → Option Row) :
  goalOf Try.f131 (lookS [(133, sRight)]) 0 (noS (lamSpread xs)) [.deep .u8 xs] { need := p, val := .vec (.int .u32) 64 r } heap =
  (True ∧ True ∧ True ∧ (∃ (x : Nat), x ≤ (16 : Nat) ∧ (V.deep DT.u8 xs = V.deep DT.u8 xs ∧ V.ptr (500000 : Nat) (0 : Nat) = V.ptr (500000 : Nat) (0 : Nat) ∧ V.ptr (500001 : Nat) (0 : Nat) = V.ptr
  (500001 : Nat) (0 : Nat) ∧ V.v (Value.int IntKind.i64 (0 : Int)) = V.v (Value.int IntKind.i64 (↑x : Int))) ∧ (Row.arr (124 : Nat) (DT.int IntKind.u32) (List.replicate (64 : Nat) (0 : Int)) = Row.arr
  (124 : Nat) (DT.int IntKind.u32) (List.replicate (64 : Nat) (0 : Int)) ∧ Row.arr (124 : Nat) (DT.int IntKind.u32) (List.replicate (64 : Nat) (0 : Int)) = Row.arr (124 : Nat) (DT.int IntKind.u32)
  (first xs zeros64 x)) ∧ True) ∧ ∀ (x : Nat), x ≤ (16 : Nat) → True ∧ bif decide ((↑x : Int) < (16 : Int)) then True ∧ True ∧ True ∧ True ∧ True ∧ True ∧ ((0 : Int) ≤ IntKind.i64.wrap ((4 : Int) * (↑x
  : Int)) ∧ IntKind.i64.wrap ((4 : Int) * (↑x : Int)) < (↑xs.length : Int)) ∧ (IntKind.i64.wrap ((4 : Int) * (↑x : Int))).toNat < xs.length ∧ True ∧ (0 : Int) ≤ (24 : Int) ∧ True ∧ True ∧ True ∧ True ∧
  ((0 : Int) ≤ IntKind.i64.wrap (IntKind.i64.wrap ((4 : Int) * (↑x : Int)) + (1 : Int)) ∧ IntKind.i64.wrap (IntKind.i64.wrap ((4 : Int) * (↑x : Int)) + (1 : Int)) < (↑xs.length : Int)) ∧
  (IntKind.i64.wrap (IntKind.i64.wrap ((4 : Int) * (↑x : Int)) + (1 : Int))).toNat < xs.length ∧ True ∧ (0 : Int) ≤ (16 : Int) ∧ True ∧ True ∧ True ∧ True ∧ True ∧ ((0 : Int) ≤ IntKind.i64.wrap
  (IntKind.i64.wrap ((4 : Int) * (↑x : Int)) + (2 : Int)) ∧ IntKind.i64.wrap (IntKind.i64.wrap ((4 : Int) * (↑x : Int)) + (2 : Int)) < (↑xs.length : Int)) ∧ (IntKind.i64.wrap (IntKind.i64.wrap ((4 :
  Int) * (↑x : Int)) + (2 : Int))).toNat < xs.length ∧ True ∧ (0 : Int) ≤ (8 : Int) ∧ True ∧ True ∧ True ∧ True ∧ True ∧ ((0 : Int) ≤ IntKind.i64.wrap (IntKind.i64.wrap ((4 : Int) * (↑x : Int)) + (3 :
  Int)) ∧ IntKind.i64.wrap (IntKind.i64.wrap ((4 : Int) * (↑x : Int)) + (3 : Int)) < (↑xs.length : Int)) ∧ (IntKind.i64.wrap (IntKind.i64.wrap ((4 : Int) * (↑x : Int)) + (3 : Int))).toNat < xs.length ∧
  True ∧ True ∧ ((0 : Int) ≤ (↑x : Int) ∧ (↑x : Int) < (↑(64 : Nat) : Int)) ∧ ((True ∧ True) ∧ True ∧ (↑x : Int).toNat < (first xs zeros64 x).length) ∧ True ∧ True ∧ ∃ (y : Nat), y ≤ (16 : Nat) ∧ (16 :
  Nat) - y < (16 : Nat) - x ∧ (V.deep DT.u8 xs = V.deep DT.u8 xs ∧ V.ptr (500000 : Nat) (0 : Nat) = V.ptr (500000 : Nat) (0 : Nat) ∧ V.ptr (500001 : Nat) (0 : Nat) = V.ptr (500001 : Nat) (0 : Nat) ∧ V.v
  (Value.int IntKind.i64 (IntKind.i64.wrap ((↑x : Int) + (1 : Int)))) = V.v (Value.int IntKind.i64 (↑y : Int))) ∧ (Row.arr (124 : Nat) (DT.int IntKind.u32) (List.replicate (64 : Nat) (0 : Int)) =
  Row.arr (124 : Nat) (DT.int IntKind.u32) (List.replicate (64 : Nat) (0 : Int)) ∧ Row.arr (124 : Nat) (DT.int IntKind.u32) ((first xs zeros64 x).set (↑x : Int).toNat (bitsI BinOp.or IntKind.u32 (bitsI
  BinOp.or IntKind.u32 (bitsI BinOp.or IntKind.u32 (shlI IntKind.u32 (IntKind.u32.wrap (↑(UInt8.toNat (xs.getD (IntKind.i64.wrap ((4 : Int) * (↑x : Int))).toNat (0 : UInt8))) : Int)) (24 : Int)) (shlI
  IntKind.u32 (IntKind.u32.wrap (↑(UInt8.toNat (xs.getD (IntKind.i64.wrap (IntKind.i64.wrap ((4 : Int) * (↑x : Int)) + (1 : Int))).toNat (0 : UInt8))) : Int)) (16 : Int))) (shlI IntKind.u32
  (IntKind.u32.wrap (↑(UInt8.toNat (xs.getD (IntKind.i64.wrap (IntKind.i64.wrap ((4 : Int) * (↑x : Int)) + (2 : Int))).toNat (0 : UInt8))) : Int)) (8 : Int))) (IntKind.u32.wrap (↑(UInt8.toNat (xs.getD
  (IntKind.i64.wrap (IntKind.i64.wrap ((4 : Int) * (↑x : Int)) + (3 : Int))).toNat (0 : UInt8))) : Int)))) = Row.arr (124 : Nat) (DT.int IntKind.u32) (first xs zeros64 y)) ∧ True else True ∧ (∃ (x_1 :
  Nat), x_1 ≤ (48 : Nat) ∧ (V.deep DT.u8 xs = V.deep DT.u8 xs ∧ V.ptr (500000 : Nat) (0 : Nat) = V.ptr (500000 : Nat) (0 : Nat) ∧ V.ptr (500001 : Nat) (0 : Nat) = V.ptr (500001 : Nat) (0 : Nat) ∧ V.v
  (Value.int IntKind.i64 (16 : Int)) = V.v (Value.int IntKind.i64 (↑((16 : Nat) + x_1) : Int))) ∧ (Row.arr (124 : Nat) (DT.int IntKind.u32) (List.replicate (64 : Nat) (0 : Int)) = Row.arr (124 : Nat)
  (DT.int IntKind.u32) (List.replicate (64 : Nat) (0 : Int)) ∧ Row.arr (124 : Nat) (DT.int IntKind.u32) (first xs zeros64 x) = Row.arr (124 : Nat) (DT.int IntKind.u32) (more (first xs zeros64 (16 :
  Nat)) x_1)) ∧ True) ∧ ∀ (x : Nat), x ≤ (48 : Nat) → True ∧ True ∧ bif decide ((↑((16 : Nat) + x) : Int) < (64 : Int)) then True ∧ True ∧ ((0 : Int) ≤ IntKind.i64.wrap ((↑((16 : Nat) + x) : Int) - (15
  : Int)) ∧ IntKind.i64.wrap ((↑((16 : Nat) + x) : Int) - (15 : Int)) < (↑(64 : Nat) : Int)) ∧ (IntKind.i64.wrap ((↑((16 : Nat) + x) : Int) - (15 : Int))).toNat < (more (first xs zeros64 (16 : Nat))
  x).length ∧ True ∧ True ∧ ((0 : Int) ≤ IntKind.i64.wrap ((↑((16 : Nat) + x) : Int) - (2 : Int)) ∧ IntKind.i64.wrap ((↑((16 : Nat) + x) : Int) - (2 : Int)) < (↑(64 : Nat) : Int)) ∧ (IntKind.i64.wrap
  ((↑((16 : Nat) + x) : Int) - (2 : Int))).toNat < (more (first xs zeros64 (16 : Nat)) x).length ∧ True ∧ True ∧ True ∧ True ∧ True ∧ ((0 : Int) ≤ IntKind.i64.wrap ((↑((16 : Nat) + x) : Int) - (16 :
  Int)) ∧ IntKind.i64.wrap ((↑((16 : Nat) + x) : Int) - (16 : Int)) < (↑(64 : Nat) : Int)) ∧ (IntKind.i64.wrap ((↑((16 : Nat) + x) : Int) - (16 : Int))).toNat < (more (first xs zeros64 (16 : Nat))
  x).length ∧ True ∧ ((True ∧ True ∧ True) ∧ (0 : Int) < (7 : Int) ∧ (7 : Int) < (32 : Int)) ∧ True ∧ ((True ∧ True ∧ True) ∧ (0 : Int) < (18 : Int) ∧ (18 : Int) < (32 : Int)) ∧ True ∧ True ∧ (0 : Int)
  ≤ (3 : Int) ∧ True ∧ True ∧ True ∧ True ∧ ((0 : Int) ≤ IntKind.i64.wrap ((↑((16 : Nat) + x) : Int) - (7 : Int)) ∧ IntKind.i64.wrap ((↑((16 : Nat) + x) : Int) - (7 : Int)) < (↑(64 : Nat) : Int)) ∧
  (IntKind.i64.wrap ((↑((16 : Nat) + x) : Int) - (7 : Int))).toNat < (more (first xs zeros64 (16 : Nat)) x).length ∧ True ∧ True ∧ ((True ∧ True ∧ True) ∧ (0 : Int) < (17 : Int) ∧ (17 : Int) < (32 :
  Int)) ∧ True ∧ ((True ∧ True ∧ True) ∧ (0 : Int) < (19 : Int) ∧ (19 : Int) < (32 : Int)) ∧ True ∧ True ∧ (0 : Int) ≤ (10 : Int) ∧ True ∧ True ∧ ((0 : Int) ≤ (↑((16 : Nat) + x) : Int) ∧ (↑((16 : Nat) +
  x) : Int) < (↑(64 : Nat) : Int)) ∧ ((True ∧ True) ∧ True ∧ (↑((16 : Nat) + x) : Int).toNat < (more (first xs zeros64 (16 : Nat)) x).length) ∧ True ∧ True ∧ True ∧ ∃ (y : Nat), y ≤ (48 : Nat) ∧ (48 :
  Nat) - y < (48 : Nat) - x ∧ (V.deep DT.u8 xs = V.deep DT.u8 xs ∧ V.ptr (500000 : Nat) (0 : Nat) = V.ptr (500000 : Nat) (0 : Nat) ∧ V.ptr (500001 : Nat) (0 : Nat) = V.ptr (500001 : Nat) (0 : Nat) ∧ V.v
  (Value.int IntKind.i64 (IntKind.i64.wrap ((↑((16 : Nat) + x) : Int) + (1 : Int)))) = V.v (Value.int IntKind.i64 (↑((16 : Nat) + y) : Int))) ∧ (Row.arr (124 : Nat) (DT.int IntKind.u32) (List.replicate
  (64 : Nat) (0 : Int)) = Row.arr (124 : Nat) (DT.int IntKind.u32) (List.replicate (64 : Nat) (0 : Int)) ∧ Row.arr (124 : Nat) (DT.int IntKind.u32) ((more (first xs zeros64 (16 : Nat)) x).set (↑((16 :
  Nat) + x) : Int).toNat (IntKind.u32.wrap (IntKind.u32.wrap (IntKind.u32.wrap ((more (first xs zeros64 (16 : Nat)) x).getD (IntKind.i64.wrap ((↑((16 : Nat) + x) : Int) - (16 : Int))).toNat (0 : Int) +
  bitsI BinOp.xor IntKind.u32 (bitsI BinOp.xor IntKind.u32 (rot ((more (first xs zeros64 (16 : Nat)) x).getD (IntKind.i64.wrap ((↑((16 : Nat) + x) : Int) - (15 : Int))).toNat (0 : Int)) (7 : Int)) (rot
  ((more (first xs zeros64 (16 : Nat)) x).getD (IntKind.i64.wrap ((↑((16 : Nat) + x) : Int) - (15 : Int))).toNat (0 : Int)) (18 : Int))) (shrI IntKind.u32 ((more (first xs zeros64 (16 : Nat)) x).getD
  (IntKind.i64.wrap ((↑((16 : Nat) + x) : Int) - (15 : Int))).toNat (0 : Int)) (3 : Int))) + (more (first xs zeros64 (16 : Nat)) x).getD (IntKind.i64.wrap ((↑((16 : Nat) + x) : Int) - (7 : Int))).toNat
  (0 : Int)) + bitsI BinOp.xor IntKind.u32 (bitsI BinOp.xor IntKind.u32 (rot ((more (first xs zeros64 (16 : Nat)) x).getD (IntKind.i64.wrap ((↑((16 : Nat) + x) : Int) - (2 : Int))).toNat (0 : Int)) (17
  : Int)) (rot ((more (first xs zeros64 (16 : Nat)) x).getD (IntKind.i64.wrap ((↑((16 : Nat) + x) : Int) - (2 : Int))).toNat (0 : Int)) (19 : Int))) (shrI IntKind.u32 ((more (first xs zeros64 (16 :
  Nat)) x).getD (IntKind.i64.wrap ((↑((16 : Nat) + x) : Int) - (2 : Int))).toNat (0 : Int)) (10 : Int))))) = Row.arr (124 : Nat) (DT.int IntKind.u32) (more (first xs zeros64 (16 : Nat)) y)) ∧ True else
  (more (first xs zeros64 (16 : Nat)) x).length = (64 : Nat) ∧ (64 : Nat) = (64 : Nat) ∧ ((more (first xs zeros64 (16 : Nat)) x).length = (64 : Nat) ∧ True) ∧ True ∧ V.vec (DT.int IntKind.u32) (64 :
  Nat) (more (first xs zeros64 (16 : Nat)) x) = V.vec (DT.int IntKind.u32) (64 : Nat) r ∧ True) := by kernel_rfl

theorem vcKeys (r : List Int) (p : Prop) (heap : Nat → Option Row) :
  goalOf Try.f132 (lookS []) 0 (noS (fun _ => none)) [] { need := p, val := .vec (.int .u32) 64 r } heap =
  (True ∧ True ∧ ((True ∧ True ∧ True ∧ True ∧ True ∧ True ∧ True ∧ True ∧ True ∧ True ∧ True ∧ True ∧ True ∧ True ∧ True ∧ True ∧ True ∧ True ∧ True ∧ True ∧ True ∧ True ∧ True ∧ True ∧ True ∧ True ∧
  True ∧ True ∧ True ∧ True ∧ True ∧ True ∧ True ∧ True ∧ True ∧ True ∧ True ∧ True ∧ True ∧ True ∧ True ∧ True ∧ True ∧ True ∧ True ∧ True ∧ True ∧ True ∧ True ∧ True ∧ True ∧ True ∧ True ∧ True ∧ True
  ∧ True ∧ True ∧ True ∧ True ∧ True ∧ True ∧ True ∧ True ∧ True ∧ True) ∧ (64 : Nat) = (64 : Nat)) ∧ ((64 : Nat) = (64 : Nat) ∧ True) ∧ True ∧ V.vec (DT.int IntKind.u32) (64 : Nat) [(1116352408 : Int),
  (1899447441 : Int), (3049323471 : Int), (3921009573 : Int), (961987163 : Int), (1508970993 : Int), (2453635748 : Int), (2870763221 : Int), (3624381080 : Int), (310598401 : Int), (607225278 : Int),
  (1426881987 : Int), (1925078388 : Int), (2162078206 : Int), (2614888103 : Int), (3248222580 : Int), (3835390401 : Int), (4022224774 : Int), (264347078 : Int), (604807628 : Int), (770255983 : Int),
  (1249150122 : Int), (1555081692 : Int), (1996064986 : Int), (2554220882 : Int), (2821834349 : Int), (2952996808 : Int), (3210313671 : Int), (3336571891 : Int), (3584528711 : Int), (113926993 : Int),
  (338241895 : Int), (666307205 : Int), (773529912 : Int), (1294757372 : Int), (1396182291 : Int), (1695183700 : Int), (1986661051 : Int), (2177026350 : Int), (2456956037 : Int), (2730485921 : Int),
  (2820302411 : Int), (3259730800 : Int), (3345764771 : Int), (3516065817 : Int), (3600352804 : Int), (4094571909 : Int), (275423344 : Int), (430227734 : Int), (506948616 : Int), (659060556 : Int),
  (883997877 : Int), (958139571 : Int), (1322822218 : Int), (1537002063 : Int), (1747873779 : Int), (1955562222 : Int), (2024104815 : Int), (2227730452 : Int), (2361852424 : Int), (2428436474 : Int),
  (2756734187 : Int), (3204031479 : Int), (3329325298 : Int)] = V.vec (DT.int IntKind.u32) (64 : Nat) r ∧ True) := by kernel_rfl

theorem vcWords (r : List Int) (p : Prop) (heap : Nat → Option Row) :
  goalOf Try.f77 (lookS []) 0 (noS (fun _ => none)) [] { need := p, val := .vec (.int .u32) 64 r } heap =
  (True ∧ True ∧ ((True ∧ True ∧ True ∧ True ∧ True ∧ True ∧ True ∧ True ∧ True ∧ True ∧ True ∧ True ∧ True ∧ True ∧ True ∧ True ∧ True ∧ True ∧ True ∧ True ∧ True ∧ True ∧ True ∧ True ∧ True ∧ True ∧
  True ∧ True ∧ True ∧ True ∧ True ∧ True ∧ True ∧ True ∧ True ∧ True ∧ True ∧ True ∧ True ∧ True ∧ True ∧ True ∧ True ∧ True ∧ True ∧ True ∧ True ∧ True ∧ True ∧ True ∧ True ∧ True ∧ True ∧ True ∧ True
  ∧ True ∧ True ∧ True ∧ True ∧ True ∧ True ∧ True ∧ True ∧ True ∧ True) ∧ (64 : Nat) = (64 : Nat)) ∧ ((64 : Nat) = (64 : Nat) ∧ True) ∧ True ∧ V.vec (DT.int IntKind.u32) (64 : Nat) [(1116352408 : Int),
  (1899447441 : Int), (3049323471 : Int), (3921009573 : Int), (961987163 : Int), (1508970993 : Int), (2453635748 : Int), (2870763221 : Int), (3624381080 : Int), (310598401 : Int), (607225278 : Int),
  (1426881987 : Int), (1925078388 : Int), (2162078206 : Int), (2614888103 : Int), (3248222580 : Int), (3835390401 : Int), (4022224774 : Int), (264347078 : Int), (604807628 : Int), (770255983 : Int),
  (1249150122 : Int), (1555081692 : Int), (1996064986 : Int), (2554220882 : Int), (2821834349 : Int), (2952996808 : Int), (3210313671 : Int), (3336571891 : Int), (3584528711 : Int), (113926993 : Int),
  (338241895 : Int), (666307205 : Int), (773529912 : Int), (1294757372 : Int), (1396182291 : Int), (1695183700 : Int), (1986661051 : Int), (2177026350 : Int), (2456956037 : Int), (2730485921 : Int),
  (2820302411 : Int), (3259730800 : Int), (3345764771 : Int), (3516065817 : Int), (3600352804 : Int), (4094571909 : Int), (275423344 : Int), (430227734 : Int), (506948616 : Int), (659060556 : Int),
  (883997877 : Int), (958139571 : Int), (1322822218 : Int), (1537002063 : Int), (1747873779 : Int), (1955562222 : Int), (2024104815 : Int), (2227730452 : Int), (2361852424 : Int), (2428436474 : Int),
  (2756734187 : Int), (3204031479 : Int), (3329325298 : Int)] = V.vec (DT.int IntKind.u32) (64 : Nat) r ∧ True) := by kernel_rfl


theorem first_len (b : List UInt8) (w : List Int) : ∀ i, (first b w i).length = w.length
  | 0 => rfl
  | i + 1 => by simp only [first, List.length_set, first_len b w i]
theorem more_len (w : List Int) : ∀ i, (more w i).length = w.length
  | 0 => rfl
  | i + 1 => by simp only [more, List.length_set, more_len w i]
theorem spreadL_len (b : List UInt8) : (spreadL b).length = 64 := by
  unfold spreadL; rw [more_len, first_len]; rfl

theorem okSpread : SumOK Try.prog 131 sSpread := by
  refine fn_ok0 Try.func131 (c := Try.f131.body.getD .skip) (by kernel_rfl) (by kernel_rfl) (ok1 okRight ok0) ?_
  intro k l heap e he hn hin
  clear hin
  simp only [sSpread] at he
  split at he
  · rename_i xs
    cases he
    have hlen : xs.length = 64 := hn
    refine ⟨_, rfl, Eq.mpr (vcSpread xs (spreadL xs) _ heap) ?_⟩
    simp only [true_and, and_true, V.v.injEq, V.b.injEq, V.deep.injEq, V.agg.injEq, V.vec.injEq, V.tup.injEq, V.ow.injEq, V.own.injEq, V.ptr.injEq, V.fl.injEq, V.cx.injEq, Row.arr.injEq, Row.buf.injEq, Row.lit.injEq, Value.int.injEq, Value.bool.injEq, Value.string.injEq, Option.some.injEq, List.cons.injEq, heq_eq_eq]
    refine ⟨⟨0, by omega, rfl, rfl⟩, fun x hx => cond_dec (fun hlt => ?_) (fun hge => ?_)⟩
    · have w0 : IntKind.i64.wrap (4 * (x : Int)) = ((4 * x : Nat) : Int) := by rw [wrap_i64 (by omega)]; omega
      have w1 : IntKind.i64.wrap (((4 * x : Nat) : Int) + 1) = ((4 * x + 1 : Nat) : Int) := by rw [wrap_i64 (by omega)]; omega
      have w2 : IntKind.i64.wrap (((4 * x : Nat) : Int) + 2) = ((4 * x + 2 : Nat) : Int) := by rw [wrap_i64 (by omega)]; omega
      have w3 : IntKind.i64.wrap (((4 * x : Nat) : Int) + 3) = ((4 * x + 3 : Nat) : Int) := by rw [wrap_i64 (by omega)]; omega
      simp only [w0, w1, w2, w3, Int.toNat_natCast, first_len]
      have hz : zeros64.length = 64 := rfl
      and_intros
      all_goals first | omega | skip
      exact ⟨x + 1, by omega, by omega, by rw [wrap_i64 (by omega)]; omega, rfl⟩
    · have hx16 : x = 16 := by omega
      subst hx16
      refine ⟨⟨0, by omega, rfl, rfl⟩, fun x hx => cond_dec (fun hlt => ?_) (fun hge => ?_)⟩
      · have v0 : IntKind.i64.wrap (((16 + x : Nat) : Int) - 15) = ((16 + x - 15 : Nat) : Int) := by rw [wrap_i64 (by omega)]; omega
        have v1 : IntKind.i64.wrap (((16 + x : Nat) : Int) - 16) = ((16 + x - 16 : Nat) : Int) := by rw [wrap_i64 (by omega)]; omega
        have v2 : IntKind.i64.wrap (((16 + x : Nat) : Int) - 2) = ((16 + x - 2 : Nat) : Int) := by rw [wrap_i64 (by omega)]; omega
        have v3 : IntKind.i64.wrap (((16 + x : Nat) : Int) - 7) = ((16 + x - 7 : Nat) : Int) := by rw [wrap_i64 (by omega)]; omega
        simp only [v0, v1, v2, v3, Int.toNat_natCast, more_len, first_len]
        have hz : zeros64.length = 64 := rfl
        and_intros
        all_goals first | omega | skip
        exact ⟨x + 1, by omega, by omega, by rw [wrap_i64 (by omega)]; omega, rfl⟩
      · have hx48 : x = 48 := by omega
        subst hx48
        exact ⟨spreadL_len xs, spreadL_len xs, rfl⟩
  · cases he

theorem okKeys : SumOK Try.prog 132 sKeys := by
  refine fn_ok0 Try.func132 (c := Try.f132.body.getD .skip) (by kernel_rfl) (by kernel_rfl) ok0 ?_
  intro k l heap e he hn hin
  clear hin
  simp only [sKeys] at he
  split at he
  · cases he
    refine ⟨_, rfl, Eq.mpr (vcKeys keysL _ heap) ?_⟩
    simp only [true_and, and_true, V.v.injEq, V.b.injEq, V.deep.injEq, V.agg.injEq, V.vec.injEq, V.tup.injEq, V.ow.injEq, V.own.injEq, V.ptr.injEq, V.fl.injEq, V.cx.injEq, Row.arr.injEq, Row.buf.injEq, Row.lit.injEq, Value.int.injEq, Value.bool.injEq, Value.string.injEq, Option.some.injEq, List.cons.injEq, heq_eq_eq]
    rfl
  · cases he

theorem okWords : SumOK Try.prog 77 sKeys := by
  refine fn_ok0 Try.func77 (c := Try.f77.body.getD .skip) (by kernel_rfl) (by kernel_rfl) ok0 ?_
  intro k l heap e he hn hin
  clear hin
  simp only [sKeys] at he
  split at he
  · cases he
    refine ⟨_, rfl, Eq.mpr (vcWords keysL _ heap) ?_⟩
    simp only [true_and, and_true, V.v.injEq, V.b.injEq, V.deep.injEq, V.agg.injEq, V.vec.injEq, V.tup.injEq, V.ow.injEq, V.own.injEq, V.ptr.injEq, V.fl.injEq, V.cx.injEq, Row.arr.injEq, Row.buf.injEq, Row.lit.injEq, Value.int.injEq, Value.bool.injEq, Value.string.injEq, Option.some.injEq, List.cons.injEq, heq_eq_eq]
    rfl
  · cases he

end Go.Proofs.Ytbkhhfekdpkhbaa.Ab
