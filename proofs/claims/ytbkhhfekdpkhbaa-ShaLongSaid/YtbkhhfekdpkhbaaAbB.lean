/- What one operation does to an abstract state; no condition. It is plain Lean that the kernel evaluates. -/
import Derived.Test.YtbkhhfekdpkhbaaAbA
namespace Go.Proofs.Ytbkhhfekdpkhbaa.Ab
open Go

/-- What an operation comes to: what must hold, its value, the rows that it turns or strikes, those that it makes, those that it reads. -/
structure Eff where
  need : Prop
  val : V
  put : List (Nat × Option Row) := []
  new : List (Nat × Row) := []
  rd : List Nat := []

def Eff.pure (x : V) : Option Eff := some { need := True, val := x }
def Eff.if (p : Prop) (x : V) : Option Eff := some { need := p, val := x }

section
variable (ti : TypeId → TyI)

/-- Is the type in the table? -/
def known (T : TypeId) : Bool := Nat.blt 0 (ti T).size

/-- What may lie in a cell. -/
def cellOk : V → Bool
  | .any => false
  | .agg _ => false
  | .vec _ _ _ => false
  | .tup _ => false
  | .v (.agg _) => false
  | .v (.tuple _) => false
  | _ => true

def dtOf (e : TypeId) : Option DT :=
  match (ti e).k with
  | .ar _ e' => (ti e').dt
  | _ => (ti e).dt

/-! One of some cells. -/
def allB : List V → Option (List UInt8)
  | [] => some []
  | .b x :: r => match allB r with
    | some xs => some (x :: xs)
    | none => none
  | _ => none
def allI (k : IntKind) : List V → Option (List Int)
  | [] => some []
  | .v (.int k' n) :: r => if k = k' then (match allI k r with
    | some xs => some (n :: xs)
    | none => none) else none
  | .b x :: r => if k = .u8 then (match allI k r with
    | some xs => some ((x.toNat : Int) :: xs)
    | none => none) else none
  | _ => none
def allD : List V → Option (List (List UInt8))
  | [] => some []
  | c :: r => match decD .u8 c, allD r with
    | some x, some xs => some (x :: xs)
    | _, _ => none
def kindOf : List V → IntKind
  | .v (.int k _) :: _ => k
  | _ => .u8
def sel (l : List V) (i : Nat) : V :=
  match allB l with
  | some xs => .b (xs.getD i 0)
  | none => match allI (kindOf l) l with
    | some ns => .v (.int (kindOf l) (ns.getD i 0))
    | none => match allD l with
      | some xs => .deep .u8 (xs.getD i [])
      | none => l.getD i .any

def merge (c : Bool) (x y : V) : V :=
  match x, y with
  | .v (.int k a), .v (.int k' b) => if k = k' then .v (.int k (bif c then a else b)) else bif c then x else y
  | .b a, .b b => .b (bif c then a else b)
  | .v (.int .u8 a), .b b => .v (.int .u8 (bif c then a else (b.toNat : Int)))
  | _, _ => bif c then x else y

def splice (l : List V) (off : Nat) (c : List V) : List V := l.take off ++ c ++ l.drop (off + c.length)

def spread (l : List V) (base n s i sub : Nat) (c : List V) : List V :=
  (List.range l.length).map fun q =>
    bif Nat.ble base q && Nat.blt q (base + n * s) && Nat.ble sub ((q - base) % s) && Nat.blt ((q - base) % s) (sub + c.length) then
      merge (Nat.beq i ((q - base) / s)) (c.getD ((q - base) % s - sub) .any) (l.getD q .any)
    else l.getD q .any

def one (c : List V) : V := match c with
  | [x] => x
  | _ => .any
def asAgg (T : TypeId) (c : List V) : V := match (ti T).k with
  | .ar _ _ => .agg c
  | .st _ => .agg c
  | _ => one c
def cells : V → List V
  | .agg l => l
  | .vec t n xs => (List.range n).flatMap fun i => enc t (xs.getD i t.dflt)
  | x => [x]

/-! Slices as lists. -/
def room (lim : Option Nat) (base s len : Nat) : Nat := match lim with
  | some n => n
  | none => (len - base) / s

def immOne (heap : Nat → Option Row) : V → Option (Prop × V × List Nat)
  | .ow h => match heap h with
    | some (.buf _ t xs) => some (True, .deep t xs, [h])
    | _ => none
  | .own h base s off len lim => match heap h with
    | some (.buf _ t xs) => bif Nat.beq base 0 && Nat.beq s t.size then some (off + len ≤ xs.length, .deep t ((xs.drop off).take len), [h]) else none
    | some (.arr _ t xs) => bif Nat.beq base 0 && Nat.beq s t.size then
        (match lim with
          | some n => bif Nat.beq off 0 && Nat.beq len n then some (xs.length = n, .deep t xs, [h]) else some (off + len ≤ xs.length, .deep t ((xs.drop off).take len), [h])
          | none => some (off + len ≤ xs.length, .deep t ((xs.drop off).take len), [h])) else none
    | some (.lit e l) => match dtOf ti e with
      | none => none
      | some t => bif Nat.beq s t.size then
          (match decAll t (chunk s (room lim base s l.length) (l.drop base)) with
           | some (p, xs) => bif Nat.beq off 0 && Nat.beq len (room lim base s l.length) then some (p, .deep t xs, [h]) else some (p ∧ off + len ≤ room lim base s l.length, .deep t ((xs.drop off).take len), [h])
           | none => none) else none
    | none => none
  | .ptr _ _ => none
  | .pe _ _ _ _ _ _ => none
  | .dp _ _ _ _ => none
  | .fn _ _ _ => none
  | x => some (True, x, [])
def immAll (heap : Nat → Option Row) : List V → Option (Prop × List V × List Nat)
  | [] => some (True, [], [])
  | c :: r => match immOne ti heap c, immAll heap r with
    | some (p, x, a), some (q, xs, b) => some (p ∧ q, x :: xs, a ++ b)
    | _, _ => none
/-- A slice whose elements are slices of rows. -/
def immIn (heap : Nat → Option Row) (h base s off len : Nat) (lim : Option Nat) : Option (Prop × V × List Nat) := match heap h with
  | some (.lit e l) => match dtOf ti e with
    | none => none
    | some t => bif Nat.beq s t.size then (match immAll ti heap (l.drop base) with
        | some (p, l', a) => match decAll t (chunk s (room lim base s l.length) l') with
          | some (q, xs) => bif Nat.beq off 0 && Nat.beq len (room lim base s l.length) then some (p ∧ q, .deep t xs, h :: a) else some (p ∧ q ∧ off + len ≤ room lim base s l.length, .deep t ((xs.drop off).take len), h :: a)
          | none => none
        | none => none) else none
  | _ => none
def imm (heap : Nat → Option Row) : V → Option (Prop × V × List Nat)
  | .agg l => match immAll ti heap l with
    | some (p, l, a) => some (p, .agg l, a)
    | none => none
  | .own h base s off len lim => match immOne ti heap (.own h base s off len lim) with
    | some r => some r
    | none => immIn ti heap h base s off len lim
  | x => immOne ti heap x

/-- A slice (or a string) as a list of elements of a kind: with the rows that its own elements lie in. -/
def listOf (t : DT) (heap : Nat → Option Row) : V → Option (Prop × List t.T × List Nat × List Nat)
  | .v (.string s) => match t with
    | .u8 => some (True, s.data.toList, [], [])
    | _ => none
  | .own h base s off len lim => match heap h with
    | some (.lit _ l) => bif Nat.beq s t.size then
        (match immAll ti heap (l.drop base) with
         | some (p, l', a) => match decAll t (chunk s (room lim base s l.length) l') with
           | some (q, xs) => bif Nat.beq off 0 && Nat.beq len (room lim base s l.length) then some (p ∧ q, xs, [h], a) else some (p ∧ q ∧ off + len ≤ room lim base s l.length, (xs.drop off).take len, [h], a)
           | none => none
         | none => none) else none
    | _ => match immOne ti heap (.own h base s off len lim) with
      | some (p, x, a) => match decD t x with
        | some xs => some (p, xs, a, [])
        | none => none
      | none => none
  | y => match immOne ti heap y with
    | some (p, x, a) => match decD t x with
      | some xs => some (p, xs, a, [])
      | none => none
    | none => none

/-! Memory. -/
def loadC (S : St) (T : TypeId) : V → Option (Prop × List V × List Nat)
  | .ptr h off => match S.heap h with
    | some (.lit _ l) => bif Nat.ble (off + (ti T).size) l.length then some (True, (l.drop off).take (ti T).size, [h]) else none
    | some (.arr _ t xs) => match (ti T).k with
      | .ar n _ => bif Nat.beq off 0 && Nat.beq (n * t.size) (ti T).size then some (xs.length = n, (List.range n).flatMap fun i => enc t (xs.getD i t.dflt), [h]) else none
      | _ => bif Nat.beq t.size 1 && Nat.beq (ti T).size 1 then some (off < xs.length, enc t (xs.getD off t.dflt), [h]) else none
    | _ => none
  | .pe h base n s i sub => match S.heap h with
    | some (.lit _ l) => bif Nat.ble (base + n * s) l.length && Nat.ble (sub + (ti T).size) s then
        some (i < n, (List.range (ti T).size).map fun q => sel ((List.range n).map fun j => l.getD (base + j * s + sub + q) .any) i, [h]) else none
    | some (.arr _ t xs) => bif Nat.beq base 0 && Nat.beq s t.size && Nat.ble (sub + (ti T).size) s then some (i < xs.length, ((enc t (xs.getD i t.dflt)).drop sub).take (ti T).size, [h]) else none
    | some (.buf _ t xs) => bif Nat.beq base 0 && Nat.beq s t.size && Nat.ble (sub + (ti T).size) s then some (i < xs.length, ((enc t (xs.getD i t.dflt)).drop sub).take (ti T).size, [h]) else none
    | none => none
  | .dp t xs i sub => bif Nat.ble (sub + (ti T).size) t.size then some (i < xs.length, ((enc t (xs.getD i t.dflt)).drop sub).take (ti T).size, []) else none
  | _ => none

/-- A store: the row turned, and the rows that were struck, since what lay in them lies now in a row of elements of one kind. -/
def storeC (S : St) (T : TypeId) (c : List V) : V → Option (Prop × Nat × Row × List Nat)
  | .ptr h off => match S.heap h with
    | some (.lit e l) => bif Nat.ble (off + c.length) l.length && Nat.beq c.length (ti T).size then some (True, h, .lit e (splice l off c), []) else none
    | some (.arr e t xs) => match (ti T).k with
      | .ar n _ => bif Nat.beq off 0 && Nat.beq (n * t.size) (ti T).size then
          (match decAll t (chunk t.size n c) with
            | some (p, ys) => bif Nat.beq c.length (ti T).size then some (p ∧ xs.length = n, h, .arr e t ys, []) else none
            | none => none) else none
      | _ => bif Nat.beq t.size 1 && Nat.beq (ti T).size 1 then
          (match dec t c with
            | some (p, y) => some (p ∧ off < xs.length, h, .arr e t (xs.set off y), [])
            | none => none) else none
    | _ => none
  | .pe h base n s i sub => match S.heap h with
    | some (.lit e l) => bif Nat.ble (base + n * s) l.length && Nat.ble (sub + (ti T).size) s && Nat.beq c.length (ti T).size then some (i < n, h, .lit e (spread l base n s i sub c), []) else none
    | some (.arr e t xs) => bif Nat.beq base 0 && Nat.beq s t.size && Nat.ble (sub + (ti T).size) s && Nat.beq c.length (ti T).size then
        (match immAll ti S.heap c with
          | some (p, c', a) => match dec t (splice (enc t (xs.getD i t.dflt)) sub c') with
            | some (q, y) => some (p ∧ q ∧ i < xs.length, h, .arr e t (xs.set i y), a)
            | none => none
          | none => none) else none
    | some (.buf e t xs) => bif Nat.beq base 0 && Nat.beq s t.size && Nat.ble (sub + (ti T).size) s && Nat.beq c.length (ti T).size then
        (match immAll ti S.heap c with
          | some (p, c', a) => match dec t (splice (enc t (xs.getD i t.dflt)) sub c') with
            | some (q, y) => some (p ∧ q ∧ i < xs.length, h, .buf e t (xs.set i y), a)
            | none => none
          | none => none) else none
    | none => none
  | _ => none

/-! Whole arrays. -/
def castL (t t' : DT) (xs : List t'.T) : Option (List t.T) := match t, t', xs with
  | .u8, .u8, xs => some xs
  | .int k, .int k', xs => if k = k' then some xs else none
  | .comp, .comp, xs => some xs
  | .ua, .ua, xs => some xs
  | .bytes, .bytes, xs => some xs
  | .en, .en, xs => some xs
  | .sta, .sta, xs => some xs
  | .stp, .stp, xs => some xs
  | _, _, _ => none
def vecL (S : St) (T : TypeId) (a : V) : Option Eff := match a with
  | .ptr h off => match S.heap h with
    | some (.arr _ t xs) => match (ti T).k with
      | .ar n _ => bif Nat.beq off 0 && Nat.beq (n * t.size) (ti T).size then some { need := xs.length = n, val := .vec t n xs, rd := [h] } else none
      | _ => none
    | _ => none
  | _ => none
def vecS (S : St) (T : TypeId) (x a : V) : Option Eff := match x, a with
  | .vec t n ys, .ptr h off => match S.heap h with
    | some (.arr e t' xs) => match castL t' t ys with
      | some zs => bif Nat.beq off 0 && Nat.beq (n * t'.size) (ti T).size then some { need := xs.length = n, val := .any, put := [(h, some (.arr e t' zs))] } else none
      | none => none
    | _ => none
  | _, _ => none
def vecB (d : Nat) (T : TypeId) (x : V) : Option Eff := match x with
  | .vec t n ys => match (ti T).k with
    | .ar _ e => match (ti e).dt with
      | some t' => match castL t' t ys with
        | some zs => bif Nat.beq (n * t'.size) (ti T).size then some { need := True, val := .ptr d 0, new := [(d, .arr T t' zs)] } else none
        | none => none
      | none => none
    | _ => none
  | _ => none
def vecI (T : TypeId) (x : V) (i : Int) : Option Eff := match x with
  | .vec t n ys => match (ti T).k with
    | .ar n' e => bif Nat.beq n n' && Nat.beq t.size (ti e).size then some { need := 0 ≤ i ∧ i < n, val := asAgg ti e (enc t (ys.getD i.toNat t.dflt)) } else none
    | _ => none
  | _ => none

/-! Numbers. -/
def bitsI (op : BinOp) (k : IntKind) (x y : Int) : Int :=
  match op with
  | .and => k.wrap (BitVec.ofInt k.bits x &&& BitVec.ofInt k.bits y).toNat
  | .or => k.wrap (BitVec.ofInt k.bits x ||| BitVec.ofInt k.bits y).toNat
  | .xor => k.wrap (BitVec.ofInt k.bits x ^^^ BitVec.ofInt k.bits y).toNat
  | _ => k.wrap (BitVec.ofInt k.bits x &&& ~~~BitVec.ofInt k.bits y).toNat
def shlI (k : IntKind) (x y : Int) : Int := k.wrap (x * 2 ^ (min y.toNat k.bits))
def shrI (k : IntKind) (x y : Int) : Int := x.fdiv (2 ^ (min y.toNat k.bits))
def bV (b : Bool) : V := .v (.bool b)

def intV (op : BinOp) (k : IntKind) (x y : Int) : Option Eff :=
  match op with
  | .add => Eff.pure (.v (.int k (k.wrap (x + y))))
  | .sub => Eff.pure (.v (.int k (k.wrap (x - y))))
  | .mul => Eff.pure (.v (.int k (k.wrap (x * y))))
  | .quo => Eff.if (y ≠ 0) (.v (.int k (k.wrap (x.tdiv y))))
  | .rem => Eff.if (y ≠ 0) (.v (.int k (x.tmod y)))
  | .and => Eff.pure (.v (.int k (bitsI .and k x y)))
  | .or => Eff.pure (.v (.int k (bitsI .or k x y)))
  | .xor => Eff.pure (.v (.int k (bitsI .xor k x y)))
  | .andNot => Eff.pure (.v (.int k (bitsI .andNot k x y)))
  | .eql => Eff.pure (bV (x == y))
  | .neq => Eff.pure (bV (x != y))
  | .lss => Eff.pure (bV (decide (x < y)))
  | .leq => Eff.pure (bV (decide (x ≤ y)))
  | .gtr => Eff.pure (bV (decide (x > y)))
  | .geq => Eff.pure (bV (decide (x ≥ y)))
  | _ => none
def strV (op : BinOp) (x y : ByteArray) : Option Eff :=
  match op with
  | .add => Eff.if (x.size + y.size ≤ 9223372036854775807) (.v (.string (x ++ y)))
  | .eql => Eff.pure (bV (x.toList == y.toList))
  | .neq => Eff.pure (bV (!(x.toList == y.toList)))
  | _ => none
def small (n : Int) : Prop := -9007199254740992 < n ∧ n < 9007199254740992
def flV (op : BinOp) (x y : Int) : Option Eff :=
  match op with
  | .eql => Eff.if (small x ∧ small y) (bV (x == y))
  | .neq => Eff.if (small x ∧ small y) (bV (x != y))
  | .lss => Eff.if (small x ∧ small y) (bV (decide (x < y)))
  | .gtr => Eff.if (small x ∧ small y) (bV (decide (x > y)))
  | _ => none
def cxV (op : BinOp) (a b c d : Int) : Option Eff :=
  match op with
  | .add => Eff.if ((small a ∧ small b ∧ small c ∧ small d) ∧ small (a + c) ∧ small (b + d)) (.cx (a + c) (b + d))
  | .eql => Eff.if (small a ∧ small b ∧ small c ∧ small d) (bV (a == c && b == d))
  | .neq => Eff.if (small a ∧ small b ∧ small c ∧ small d) (bV (!(a == c && b == d)))
  | _ => none
/-- Are two cells the same? The first one tells their kind. -/
def eqOne : V → V → V → Option Bool
  | .v (.int .u8 _), .b x, .b y => some (x == y)
  | .v (.int .u8 _), .b x, .v (.int .u8 n) => some ((x.toNat : Int) == n)
  | .v (.int .u8 _), .v (.int .u8 n), .b x => some (n == (x.toNat : Int))
  | .v (.int k _), .v (.int k' a), .v (.int k'' b) => if k = k' ∧ k = k'' then some (a == b) else none
  | .v (.bool _), .v (.bool a), .v (.bool b) => some (a == b)
  | .v (.string _), .v (.string a), .v (.string b) => some (a == b)
  | _, _, _ => none
def eqAll : List V → List V → List V → Option Bool
  | [], [], [] => some true
  | z :: zs, x :: l, y :: m => match eqOne z x y, eqAll zs l m with
    | some b, some c => some (b && c)
    | _, _ => none
  | _, _, _ => none

/-! Whole arrays side by side. -/
def asVec (t : DT) (n : Nat) : V → Option (Prop × List t.T)
  | .vec t' n' ys => bif Nat.beq n' n then (match castL t t' ys with
    | some zs => some (True, zs)
    | none => none) else none
  | .agg m => bif Nat.beq m.length (n * t.size) then decAll t (chunk t.size n m) else none
  | _ => none
def eqU8 (xs ys : List UInt8) : Bool := xs == ys
def eqI (xs ys : List Int) : Bool := xs == ys
def eqL : (t : DT) → List t.T → List t.T → Option Bool
  | .u8, xs, ys => some (eqU8 xs ys)
  | .int _, xs, ys => some (eqI xs ys)
  | _, _, _ => none
def zOk : DT → V → Bool
  | .u8, .v (.int .u8 _) => true
  | .int k, .v (.int k' _) => if k = k' then true else false
  | _, _ => false
def eqVec (T : TypeId) (t : DT) (n : Nat) (xs : List t.T) (y : V) (flip : Bool) (op : BinOp) : Option Eff :=
  bif (ti T).eq && known ti T && (ti T).zero.all (zOk t) && Nat.beq (ti T).zero.length n then (match asVec t n y with
    | some (p, ys) => match eqL t (bif flip then ys else xs) (bif flip then xs else ys), op with
      | some b, .eql => some { need := p, val := bV b }
      | some b, .neq => some { need := p, val := bV (!b) }
      | _, _ => none
    | none => none) else none

def binV (op : BinOp) (T : TypeId) (x y : V) : Option Eff :=
  match x, y with
  | .vec t n xs, y => eqVec ti T t n xs y false op
  | .agg l, .vec t n xs => eqVec ti T t n xs (.agg l) true op
  | .v (.int k a), .v (.int k' b) => match op with
    | .shl => Eff.if (0 ≤ b) (.v (.int k (shlI k a b)))
    | .shr => Eff.if (0 ≤ b) (.v (.int k (shrI k a b)))
    | _ => if k = k' then intV op k a b else none
  | .b a, .v (.int k' b) => match op with
    | .shl => Eff.if (0 ≤ b) (.v (.int .u8 (shlI .u8 a.toNat b)))
    | .shr => Eff.if (0 ≤ b) (.v (.int .u8 (shrI .u8 a.toNat b)))
    | _ => if IntKind.u8 = k' then intV op .u8 a.toNat b else none
  | .v (.int k a), .b b => match op with
    | .shl => none
    | .shr => none
    | _ => if k = .u8 then intV op .u8 a b.toNat else none
  | .b a, .b b => match op with
    | .shl => none
    | .shr => none
    | .xor => Eff.pure (.b (a ^^^ b))
    | .eql => Eff.pure (bV (a == b))
    | .neq => Eff.pure (bV (a != b))
    | _ => intV op .u8 a.toNat b.toNat
  | .v (.string a), .v (.string b) => strV op a b
  | .v (.bool a), .v (.bool b) => match (ti T).k, known ti T, op with
    | .bool, true, .eql => Eff.pure (bV (a == b))
    | .bool, true, .neq => Eff.pure (bV (!(a == b)))
    | _, _, _ => none
  | .fl a, .fl b => flV op a b
  | .cx a b, .cx c d => cxV op a b c d
  | .agg l, .agg m => bif (ti T).eq && known ti T then (match eqAll (ti T).zero l m, op with
    | some b, .eql => Eff.pure (bV b)
    | some b, .neq => Eff.pure (bV (!b))
    | _, _ => none) else none
  | _, _ => none

def unV (op : UnOp) (x : V) : Option Eff :=
  match op, x with
  | .not, .v (.bool b) => Eff.pure (bV (!b))
  | .neg, .v (.int k n) => Eff.pure (.v (.int k (k.wrap (0 - n))))
  | .xor, .v (.int k n) => Eff.pure (.v (.int k (bitsI .xor k (if k.signed then -1 else k.max) n)))
  | _, _ => none

def byteT (T : TypeId) : Bool := known ti T && (match (ti T).k with
  | .sl e => known ti e && (match (ti e).k with
    | .int .u8 => true
    | _ => false)
  | _ => false)

def convV (S : St) (d src dst : TypeId) (x : V) : Option Eff :=
  match (ti dst).k, x with
  | .int k, .v (.int _ n) => Eff.pure (.v (.int k (k.wrap n)))
  | .int k, .b n => if k = .u8 then Eff.pure (.b n) else Eff.pure (.v (.int k (k.wrap (n.toNat : Int))))
  | .int k, .fl n => Eff.if (small n ∧ k.min ≤ n ∧ n ≤ k.max) (.v (.int k n))
  | .fl, .v (.int _ n) => Eff.if (small n) (.fl n)
  | .str, .v (.string s) => Eff.pure (.v (.string s))
  | .str, y => bif byteT ti src then (match listOf ti .u8 S.heap y with
    | some (p, xs, a, []) => some { need := p, val := .v (.string ⟨xs.toArray⟩), rd := a }
    | _ => none) else none
  | .sl e, .v (.string s) => match (ti src).k, (ti e).dt with
    | .str, some .u8 => bif byteT ti dst then some { need := True, val := .ow d, new := [(d, .buf e .u8 s.data.toList)] } else none
    | _, _ => none
  | .sl _, .own h base s off len none => match S.heap h with
    | some (.lit e l) => bif Nat.beq src dst && byteT ti dst && Nat.beq base 0 && Nat.beq off 0 && Nat.blt 0 l.length then some { need := True, val := .own h base s off len none, put := [(h, some (.lit e l))] } else none
    | _ => none
  | _, _ => none

def bound (x : Option V) (dflt : Nat) : Option (Prop × Int) :=
  match x with
  | none => some (True, (dflt : Int))
  | some (.v (.int _ n)) => some (True, n)
  | some (.b n) => some (True, (n.toNat : Int))
  | _ => none

def cut {α : Type} (xs : List α) (lo hi : Option V) (l h : Int) : List α :=
  match lo, hi with
  | none, none => xs
  | none, some _ => xs.take h.toNat
  | some _, none => xs.drop l.toNat
  | some _, some _ => (xs.take h.toNat).drop l.toNat

def sliceS (S : St) (sz : Nat) (x : V) (lo hi : Option V) : Option Eff :=
  match x with
  | .deep t xs => match bound lo 0, bound hi xs.length with
    | some (_, l), some (_, h) => bif Nat.beq t.size sz then Eff.if (0 ≤ l ∧ l ≤ h ∧ h ≤ xs.length) (.deep t (cut xs lo hi l h)) else none
    | _, _ => none
  | .v (.slice none 0 0) => match bound lo 0, bound hi 0 with
    | some (_, l), some (_, h) => Eff.if (0 ≤ l ∧ l ≤ h ∧ h ≤ 0) (.v (.slice none 0 0))
    | _, _ => none
  | .ow h => match S.heap h with
    | some (.buf _ t xs) => match bound lo 0, bound hi xs.length with
      | some (_, l), some (_, u) => bif Nat.beq t.size sz then some { need := 0 ≤ l ∧ l ≤ u ∧ u ≤ xs.length, val := .own h 0 t.size l.toNat (u.toNat - l.toNat) none, rd := [h] } else none
      | _, _ => none
    | _ => none
  | .own h base s off len lim => match bound lo 0, bound hi len with
    | some (_, l), some (_, u) => bif Nat.beq s sz then Eff.if (0 ≤ l ∧ l ≤ u ∧ u ≤ len) (.own h base s (off + l.toNat) (u.toNat - l.toNat) lim) else none
    | _, _ => none
  | _ => none

def sliceV (S : St) (T : TypeId) (x : V) (lo hi : Option V) : Option Eff :=
  match (ti T).k with
  | .str => match x with
    | .v (.string s) => match bound lo 0, bound hi s.size with
      | some (_, l), some (_, h) => Eff.if (0 ≤ l ∧ l ≤ h ∧ h ≤ s.size) (.v (.string (s.extract l.toNat h.toNat)))
      | _, _ => none
    | _ => none
  | .sl e => bif known ti e then sliceS S (ti e).size x lo hi else none
  | .ar n e => match x with
    | .ptr h off => match bound lo 0, bound hi n with
      | some (_, l), some (_, u) => Eff.if (0 ≤ l ∧ l ≤ u ∧ u ≤ n) (.own h off (ti e).size l.toNat (u.toNat - l.toNat) (some n))
      | _, _ => none
    | _ => none
  | _ => none

def fieldA (T : TypeId) (x : V) (f : Nat) : Option Eff :=
  match (ti T).k with
  | .st fs => match fs[f]? with
    | some (o, ft) => bif Nat.beq (ti ft).size 0 then none else
      (match x with
      | .ptr h off => Eff.pure (.ptr h (off + o))
      | .pe h base n s i sub => Eff.pure (.pe h base n s i (sub + o))
      | .dp t xs i sub => Eff.pure (.dp t xs i (sub + o))
      | _ => none)
    | none => none
  | _ => none

def fieldV (T : TypeId) (x : V) (f : Nat) : Option Eff :=
  match (ti T).k, x with
  | .st fs, .agg l => match fs[f]? with
    | some (o, t) => bif Nat.ble (o + (ti t).size) l.length then Eff.pure (asAgg ti t ((l.drop o).take (ti t).size)) else none
    | none => none
  | _, _ => none

def indexA (S : St) (T : TypeId) (x : V) (i : Int) : Option Eff :=
  match (ti T).k, x with
  | .sl e, .own h base s off len _ => bif Nat.beq s (ti e).size && known ti e then Eff.if (0 ≤ i ∧ i < len) (.pe h base (off + len) s (off + i.toNat) 0) else none
  | .sl e, .ow h => match S.heap h with
    | some (.buf _ t xs) => bif Nat.beq t.size (ti e).size && known ti e then some { need := 0 ≤ i ∧ i < xs.length, val := .pe h 0 0 t.size i.toNat 0, rd := [h] } else none
    | _ => none
  | .sl e, .deep t xs => bif Nat.beq t.size (ti e).size && known ti e then Eff.if (0 ≤ i ∧ i < xs.length) (.dp t xs i.toNat 0) else none
  | .ar n e, .ptr h off => Eff.if (0 ≤ i ∧ i < n) (.pe h off n (ti e).size i.toNat 0)
  | _, _ => none

def indexV (T : TypeId) (x : V) (i : Int) : Option Eff :=
  match (ti T).k, x with
  | .ar n e, .agg l => bif Nat.beq l.length (n * (ti e).size) then
      Eff.if (0 ≤ i ∧ i < n) (asAgg ti e ((List.range (ti e).size).map fun q => sel ((List.range n).map fun j => l.getD (j * (ti e).size + q) .any) i.toNat)) else none
  | .str, .v (.string s) => Eff.if (0 ≤ i ∧ i < s.size) (.b (s.data.toList.getD i.toNat 0))
  | _, _ => none

def intOfV : V → Option Int
  | .v (.int _ n) => some n
  | .b x => some (x.toNat : Int)
  | _ => none

def fillV (ti : TypeId → TyI) (place : Nat → Option (Nat × Nat)) : List V → List (Nat × V) → Option (List V)
  | l, [] => some l
  | l, (i, x) :: r => match place i with
    | some (o, s) => bif Nat.beq (cells x).length s && Nat.ble (o + s) l.length && (cells x).all cellOk then fillV ti place (splice l o (cells x)) r else none
    | none => none

def buildV (T : TypeId) (parts : List (Nat × V)) : Option Eff :=
  match (ti T).k with
  | .st fs => match fillV ti (fun i => (fs[i]?).map fun f => (f.1, (ti f.2).size)) (ti T).zero parts with
    | some l => Eff.pure (.agg l)
    | none => none
  | .ar _ e => match fillV ti (fun i => some (i * (ti e).size, (ti e).size)) (ti T).zero parts with
    | some l => Eff.pure (.agg l)
    | none => none
  | _ => none

def zeros (ti : TypeId → TyI) (e : TypeId) : Nat → List V
  | 0 => []
  | n + 1 => (ti e).zero ++ zeros ti e n

def buildS (d : Nat) (T : TypeId) (len : Nat) (parts : List (Nat × V)) : Option Eff :=
  match (ti T).k with
  | .sl e => match fillV ti (fun i => some (i * (ti e).size, (ti e).size)) (zeros ti e len) parts with
    | some l => bif Nat.ble (len * (ti e).size) 16777216 && known ti e && known ti T then some { need := True, val := .own d 0 (ti e).size 0 len none, new := [(d, .lit e l)] } else none
    | none => none
  | _ => none

def newRowOf (T : TypeId) (c : List V) : Option (Prop × Row) :=
  match (ti T).k with
  | .ar n e => match (ti e).dt with
    | some t => match decAll t (chunk t.size n c) with
      | some (p, xs) => bif Nat.beq (n * t.size) c.length then some (p, .arr T t xs) else none
      | none => some (True, .lit T c)
    | none => some (True, .lit T c)
  | _ => some (True, .lit T c)

def allocV (d : Nat) (T : TypeId) : Option Eff :=
  match (ti T).k with
  | .ar n e => match (ti e).dt with
    | some t => bif Nat.beq t.size 1 then some { need := True, val := .ptr d 0, new := [(d, .arr T t (List.replicate n t.dflt))] } else some { need := True, val := .ptr d 0, new := [(d, .lit T (ti T).zero)] }
    | none => some { need := True, val := .ptr d 0, new := [(d, .lit T (ti T).zero)] }
  | _ => some { need := True, val := .ptr d 0, new := [(d, .lit T (ti T).zero)] }

def boxV (d : Nat) (T : TypeId) (x : V) : Option Eff :=
  match newRowOf ti T (cells x) with
  | some (p, r) => some { need := p, val := .ptr d 0, new := [(d, r)] }
  | none => none

def makeV (d : Nat) (T : TypeId) (l c : Int) : Option Eff :=
  match (ti T).k with
  | .sl e => match (ti e).dt with
    | some t => bif Nat.beq t.size (ti e).size && known ti e then some { need := 0 ≤ l ∧ l ≤ c ∧ c ≤ 9223372036854775807 ∧ (ti e).bytes * c ≤ 140737488355328, val := .ow d, new := [(d, .buf e t (List.replicate l.toNat t.dflt))] } else none
    | none => none
  | _ => none

def lenV (S : St) (T : TypeId) (x : V) : Option Eff :=
  match (ti T).k with
  | .ar n _ => Eff.pure (iV n)
  | .str => match x with
    | .v (.string s) => Eff.pure (iV s.size)
    | _ => none
  | .sl _ => match x with
    | .deep _ xs => Eff.pure (iV xs.length)
    | .own _ _ _ _ len _ => Eff.pure (iV len)
    | .ow h => match S.heap h with
      | some (.buf _ _ xs) => some { need := True, val := iV xs.length, rd := [h] }
      | _ => none
    | .v (.slice none 0 0) => Eff.pure (iV 0)
    | _ => none
  | _ => none

/-- Is a row one of a slice's elements? -/
def rowE (heap : Nat → Option Row) (h : Nat) (e : TypeId) (sz : Nat) : Bool := match heap h with
  | some (.buf e' t' _) => Nat.beq e' e && Nat.beq t'.size sz
  | some (.lit e' _) => Nat.beq e' e
  | _ => false
/-- What stands in an append's first operand: the list, the row that is struck. -/
def headOf (t : DT) (e : TypeId) (S : St) : V → Option (Prop × List t.T × List Nat × List Nat)
  | .v (.slice none 0 0) => some (True, [], [], [])
  | .ow h => bif rowE S.heap h e t.size then listOf ti t S.heap (.ow h) else none
  | .own h base s off len none => bif Nat.beq base 0 && Nat.beq off 0 && Nat.beq s t.size && rowE S.heap h e t.size then listOf ti t S.heap (.own h base s off len none) else none
  | _ => none

def appendV (S : St) (d : Nat) (T : TypeId) (x y : V) : Option Eff :=
  match (ti T).k with
  | .sl e => match (ti e).dt with
    | some t => bif Nat.beq t.size (ti e).size && known ti e then
        (match headOf ti t e S x, listOf ti t S.heap y with
        | some (p, xs, a, b), some (q, ys, a', b') => bif (b ++ b').all (fun h => !a.contains h) then some { need := p ∧ q ∧ (xs.length + ys.length) * (ti e).bytes ≤ 140737488355328 ∧ xs.length + ys.length ≤ 9223372036854775807, val := .ow d, put := (a ++ (b ++ b')).map fun h => (h, none), new := [(d, .buf e t (xs ++ ys))], rd := a' } else none
        | _, _ => none) else none
    | none => none
  | _ => none

/-- append(nil, make(..)...) -/
def intT (T : TypeId) : Bool := known ti T && (match (ti T).k with
  | .int _ => true
  | _ => false)
def appendZ (d : Nat) (T : TypeId) (x y : V) : Option Eff :=
  match (ti T).k with
  | .sl e => match (ti e).dt with
    | some t => bif Nat.beq t.size (ti e).size && known ti e then (match x, y with
      | .v (.slice none 0 0), .v (.int .i64 n) => some { need := 0 ≤ n ∧ n ≤ 9223372036854775807 ∧ n * (ti e).bytes ≤ 140737488355328, val := .ow d, new := [(d, .buf e t (List.replicate n.toNat t.dflt))] }
      | _, _ => none) else none
    | none => none
  | _ => none
def capV (T : TypeId) (x : V) : Option Eff :=
  match (ti T).k, x with
  | .sl _, .v (.slice none 0 0) => Eff.pure (iV 0)
  | _, _ => none

def over {α : Type} (xs ys : List α) (off n : Nat) : List α := xs.take off ++ ys.take n ++ xs.drop (off + n)

def copyInto (t : DT) (S : St) (ys : List t.T) (a : List Nat) (p : Prop) : V → Option Eff
  | .ow h => match S.heap h with
    | some (.buf e t' xs) => match decD t (.deep t' xs) with
      | some xs => some { need := p, val := iV (min ys.length xs.length : Nat), put := [(h, some (.buf e t (over xs ys 0 (min ys.length xs.length))))], rd := a }
      | none => none
    | _ => none
  | .own h base s off len _ => bif Nat.beq base 0 && Nat.beq s t.size then
      (match S.heap h with
      | some (.buf e t' xs) => match decD t (.deep t' xs) with
        | some xs => some { need := p ∧ off + len ≤ xs.length, val := iV (min ys.length len : Nat), put := [(h, some (.buf e t (over xs ys off (min ys.length len))))], rd := a }
        | none => none
      | some (.arr e t' xs) => match decD t (.deep t' xs) with
        | some xs => some { need := p ∧ off + len ≤ xs.length, val := iV (min ys.length len : Nat), put := [(h, some (.arr e t (over xs ys off (min ys.length len))))], rd := a }
        | none => none
      | _ => none) else none
  | _ => none

def copyV (S : St) (T : TypeId) (x y : V) : Option Eff :=
  match (ti T).k with
  | .sl e => match (ti e).dt with
    | some t => bif known ti e then (match listOf ti t S.heap y with
      | some (p, ys, a, []) => copyInto t S ys a p x
      | _ => none) else none
    | none => none
  | _ => none

def minV : List V → Option Eff
  | [.v (.int k x), .v (.int k' y)] => if k = k' then Eff.pure (.v (.int k (if y < x then y else x))) else none
  | _ => none
def maxV : List V → Option Eff
  | [.v (.int k x), .v (.int k' y)] => if k = k' then Eff.pure (.v (.int k (if x < y then y else x))) else none
  | _ => none
end

/-- What a function does, as it is known: which arguments go as they stand (with the rows that they name, under names from a million on); whether its result holds no memory; and its answer. -/
structure Sum where
  asis : List Bool
  flat : Bool
  f : Nat → List V → (Nat → Option Row) → Option Eff

/-! Names of rows. -/
def pos : List Nat → Nat → Nat
  | [], _ => 0
  | x :: l, h => bif Nat.beq x h then 0 else pos l h + 1
def memb : List Nat → Nat → Bool
  | [], _ => false
  | x :: l, h => Nat.beq x h || memb l h
def nodup : List Nat → Bool
  | [] => true
  | x :: l => !memb l x && nodup l
def ren0 (σ : Nat → Nat) : V → V
  | .ptr h o => .ptr (σ h) o
  | .pe h b n s i q => .pe (σ h) b n s i q
  | .own h b s o n l => .own (σ h) b s o n l
  | .ow h => .ow (σ h)
  | x => x
def renA (σ : Nat → Nat) : V → V
  | .agg l => .agg (l.map (ren0 σ))
  | x => ren0 σ x
def ren (σ : Nat → Nat) : V → V
  | .tup l => .tup (l.map (renA σ))
  | x => renA σ x
/-- Does a value name only these rows? -/
def closed0 (ns : Nat → Bool) : V → Bool
  | .ptr h _ => ns h
  | .pe h _ _ _ _ _ => ns h
  | .own h _ _ _ _ _ => ns h
  | .ow h => ns h
  | .agg _ => false
  | .tup _ => false
  | .fn _ l m => l.isEmpty && m.isEmpty
  | _ => true
def closedA (ns : Nat → Bool) : V → Bool
  | .agg l => l.all (closed0 ns)
  | x => closed0 ns x
def closed (ns : Nat → Bool) : V → Bool
  | .tup l => l.all (closedA ns)
  | x => closedA ns x
/-- A row whose cells name no row. -/
def rowFree : Row → Bool
  | .lit _ l => l.all (closed0 fun _ => false)
  | _ => true
def freeRow : Option Row → Bool
  | some r => rowFree r
  | none => false
def nameOf : V → List Nat
  | .ptr h _ => [h]
  | .pe h _ _ _ _ _ => [h]
  | .own h _ _ _ _ _ => [h]
  | .ow h => [h]
  | _ => []
def namesOf : List Bool → List V → List Nat
  | true :: bs, x :: xs => nameOf x ++ namesOf bs xs
  | false :: bs, _ :: xs => namesOf bs xs
  | _, _ => []
def outN (ns : List Nat) (h : Nat) : Nat := 1000000 + pos ns h
def inH (ns : List Nat) (heap : Nat → Option Row) (n : Nat) : Option Row := bif Nat.ble 1000000 n then (match ns[n - 1000000]? with
  | some h => heap h
  | none => none) else none
def backN (ns new : List Nat) (d n : Nat) : Nat := bif Nat.ble 1000000 n then ns.getD (n - 1000000) 0 else d + 100000 * pos new n
def renNew (d j : Nat) : List (Nat × Row) → List (Nat × Row)
  | [] => []
  | (_, r) :: l => (d + 100000 * j, r) :: renNew d (j + 1) l

section
variable (ti : TypeId → TyI) (Γ : FuncId → Option Sum)

def argsOf (heap : Nat → Option Row) : List Bool → List V → Option (Prop × List V × List Nat)
  | true :: bs, x :: xs => match argsOf heap bs xs with
    | some (p, l, a) => some (p, x :: l, a)
    | none => none
  | false :: bs, x :: xs => match imm ti heap x, argsOf heap bs xs with
    | some (p, y, a), some (q, l, b) => some (p ∧ q, y :: l, a ++ b)
    | _, _ => none
  | [], [] => some (True, [], [])
  | _, _ => none

/-- Rows struck. -/
def strike (heap : Nat → Option Row) (a : List Nat) : Nat → Option Row := fun h => bif a.contains h then none else heap h
def flatOne : V → Bool
  | .vec .u8 _ _ => true
  | .vec (.int _) _ _ => true
  | .v _ => true
  | .b _ => true
  | .fl _ => true
  | .cx _ _ => true
  | _ => false
def flatV : V → Bool
  | .agg l => l.all flatOne
  | .tup l => l.all fun x => match x with
    | .agg m => m.all flatOne
    | y => flatOne y
  | x => flatOne x

/-- May the effect be taken over? Its rows name no others; it turns those rows that were handed in, each at most once; what it makes has names of its own. -/
def effOk (k : Nat) (e : Eff) : Bool :=
  e.put.all (fun p => Nat.ble 1000000 p.1 && Nat.blt p.1 (1000000 + k) && (match p.2 with
    | some r => rowFree r
    | none => true)) && nodup (e.put.map (·.1)) &&
  e.new.all (fun p => Nat.blt p.1 1000000 && rowFree p.2) && nodup (e.new.map (·.1)) &&
  closed (fun n => (Nat.ble 1000000 n && Nat.blt n (1000000 + k)) || memb (e.new.map (·.1)) n) e.val

def callV (S : St) (d : Nat) (K : FuncId) (args : List V) : Option Eff :=
  match Γ K with
  | none => none
  | some s => match argsOf ti S.heap s.asis args with
    | none => none
    | some (p, l, a) =>
      bif nodup (namesOf s.asis args) && (namesOf s.asis args).all (fun h => !memb a h && freeRow (S.heap h)) && l.all (closed (memb (namesOf s.asis args))) then
        (match s.f (namesOf s.asis args).length (l.map (ren (outN (namesOf s.asis args)))) (inH (namesOf s.asis args) S.heap) with
        | none => none
        | some e => bif effOk (namesOf s.asis args).length e then
          (bif s.flat && flatV e.val && e.put.isEmpty && e.new.isEmpty && (namesOf s.asis args).isEmpty then some { need := p ∧ e.need, val := e.val, rd := a }
          else some { need := p ∧ e.need, val := ren (backN (namesOf s.asis args) (e.new.map (·.1)) d) e.val,
                      put := a.map (fun h => (h, none)) ++ e.put.map (fun q => (backN (namesOf s.asis args) (e.new.map (·.1)) d q.1, q.2)),
                      new := renNew d 0 e.new, rd := namesOf s.asis args }) else none) else none

/-- A slice's type, or a string's. -/
def rowT (T : TypeId) : Bool := known ti T && (match (ti T).k with
  | .sl _ => true
  | .str => true
  | _ => false)

def opV (S : St) (d : Nat) : Op → Option Eff
  | .move x => Eff.pure (ev S x)
  | .assign x => Eff.pure (ev S x)
  | .pick c a b => match ev S c with
    | .v (.bool t) => Eff.pure (bif t then ev S a else ev S b)
    | _ => none
  | .alloc T => bif known ti T then allocV ti d T else none
  | .box T x => bif known ti T then (match vecB ti d T (ev S x) with
    | some e => some e
    | none => bif (cells (ev S x)).all cellOk && Nat.beq (cells (ev S x)).length (ti T).size then boxV ti d T (ev S x) else none) else none
  | .build T ps => bif known ti T then buildV ti T (ps.toList.map fun p => (p.1, ev S p.2)) else none
  | .buildSlice T len ps => buildS ti d T len (ps.toList.map fun p => (p.1, ev S p.2))
  | .load T a => bif known ti T then (match vecL ti S T (ev S a) with
    | some e => some e
    | none => match loadC ti S T (ev S a) with
      | some (p, c, r) => some { need := p, val := asAgg ti T c, rd := r }
      | none => none) else none
  | .store T a x => bif known ti T then (match vecS ti S T (ev S x) (ev S a) with
    | some e => some e
    | none => bif (cells (ev S x)).all cellOk then (match storeC ti S T (cells (ev S x)) (ev S a) with
      | some (p, h, r, k) => bif k.contains h then none else some { need := p, val := .any, put := k.map (fun h => (h, none)) ++ [(h, some r)] }
      | none => none) else none) else none
  | .nilCheck x => match ev S x with
    | .ptr h o => Eff.pure (.ptr h o)
    | .pe h b n s i q => Eff.pure (.pe h b n s i q)
    | .dp t xs i q => Eff.pure (.dp t xs i q)
    | .fn (.func f) a c => Eff.pure (.fn (.func f) a c)
    | _ => none
  | .binOp op T x y _ => binV ti op T (ev S x) (ev S y)
  | .unOp op _ x => unV op (ev S x)
  | .convert src dst x => bif known ti src && known ti dst then convV ti S d src dst (ev S x) else none
  | .slice T x lo hi mx => match mx with
    | none => bif known ti T then sliceV ti S T (ev S x) (lo.map (ev S)) (hi.map (ev S)) else none
    | some _ => none
  | .fieldAddr T x f => bif known ti T then fieldA ti T (ev S x) f else none
  | .field T x f => bif known ti T then fieldV ti T (ev S x) f else none
  | .indexAddr T x i => match intOfV (ev S i) with
    | some i => bif known ti T then indexA ti S T (ev S x) i else none
    | none => none
  | .index T x i => match intOfV (ev S i) with
    | some i => bif known ti T then (match vecI ti T (ev S x) i with
      | some e => some e
      | none => indexV ti T (ev S x) i) else none
    | none => none
  | .extract t i => match ev S t with
    | .tup l => match l[i]? with
      | some x => Eff.pure x
      | none => none
    | _ => none
  | .makeFunc (.func f) first caps => Eff.pure (.fn (.func f) (first.toList.map (ev S)) (caps.toList.map (ev S)))
  | .makeSlice T l c => match ev S l, ev S c with
    | .v (.int _ l), .v (.int _ c) => bif known ti T then makeV ti d T l c else none
    | _, _ => none
  | .call c => match c.callee with
    | .value f => match ev S f with
      | .fn (.func K) first caps => callV ti Γ S d K (first ++ c.args.toList.map (ev S) ++ caps)
      | _ => none
    | .builtin .len => match c.args.toList, c.argTypes.toList with
      | [x], [T] => bif known ti T then lenV ti S T (ev S x) else none
      | _, _ => none
    | .builtin .append => match c.args.toList, c.argTypes.toList with
      | [x, y], [T, T'] => bif known ti T && rowT ti T' then appendV ti S d T (ev S x) (ev S y) else (bif known ti T && intT ti T' then appendZ ti d T (ev S x) (ev S y) else none)
      | _, _ => none
    | .builtin .cap => match c.args.toList, c.argTypes.toList with
      | [x], [T] => bif known ti T then capV ti T (ev S x) else none
      | _, _ => none
    | .builtin .copy => match c.args.toList, c.argTypes.toList with
      | [x, y], [T, _] => bif known ti T then copyV ti S T (ev S x) (ev S y) else none
      | _, _ => none
    | .builtin .min => minV (c.args.toList.map (ev S))
    | .builtin .max => maxV (c.args.toList.map (ev S))
    | .builtin .complex => match c.args.toList.map (ev S) with
      | [.fl a, .fl b] => Eff.pure (.cx a b)
      | _ => none
    | .builtin .real => match c.args.toList.map (ev S) with
      | [.cx a _] => Eff.pure (.fl a)
      | _ => none
    | .builtin .imag => match c.args.toList.map (ev S) with
      | [.cx _ b] => Eff.pure (.fl b)
      | _ => none
    | _ => none
  | _ => none

def puts (heap : Nat → Option Row) : List (Nat × Option Row) → Nat → Option Row
  | [] => heap
  | (h, r) :: l => puts (upd heap h r) l
def news (heap : Nat → Option Row) : List (Nat × Row) → Nat → Option Row
  | [] => heap
  | (h, r) :: l => news (upd heap h (some r)) l
def mark (used : Nat → Bool) : List (Nat × Row) → Nat → Bool
  | [] => used
  | (h, _) :: l => mark (upd used h true) l
def fresh (used : Nat → Bool) : List (Nat × Row) → Bool
  | [] => true
  | (h, _) :: l => !used h && fresh (upd used h true) l
def live (heap : Nat → Option Row) : List (Nat × Option Row) → Bool
  | [] => true
  | (h, _) :: l => (heap h).isSome && live heap l

def setT (S : St) (dst : Option Tmp) (x : V) : St :=
  match dst with
  | some d => { S with env := upd S.env d x }
  | none => S
def inT (S : St) (dst : Option Tmp) : Bool :=
  match dst with
  | some d => Nat.blt d S.n
  | none => true

structure FP where
  r : List Nat
  w : List Nat

def applyE (S : St) (dst : Option Tmp) (e : Eff) : St :=
  setT { S with heap := news (puts S.heap e.put) e.new, used := mark S.used e.new } dst e.val

def stepV (o : Oper) (S : St) : Option (Prop × St × FP) :=
  match opV ti Γ S (o.dst.getD 0) o.op with
  | none => none
  | some e => bif inT S o.dst && fresh S.used e.new && live S.heap e.put then
      some (e.need, applyE S o.dst e, ⟨e.rd, e.put.map (·.1) ++ e.new.map (·.1)⟩) else none
end
end Go.Proofs.Ytbkhhfekdpkhbaa.Ab
