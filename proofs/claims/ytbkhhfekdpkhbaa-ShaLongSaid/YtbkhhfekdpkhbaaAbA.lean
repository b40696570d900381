/- The abstract step function of these proofs: an abstract value, an abstract row of memory, and what one operation does to them; no condition. It is plain Lean that the kernel evaluates. -/
import GoSem.Dispatch
import GoSem.Machine.Frame
namespace Go.Proofs.Ytbkhhfekdpkhbaa.Ab
open Go

structure Comp where
  k : Int
  n : Int
  s : ByteArray
structure UA where
  d : Int
  u : Int
structure Sg where
  body : List UInt8
  mac : List UInt8
structure En where
  s : Sg
  at_ : Int
  op : List Comp
  hash : List UInt8
  mac : List UInt8
structure Sta where
  host : Int
  num : Int
  doc : ByteArray
  ppl : List UA
  ver : Int
  hash : List UInt8
structure Stp where
  kind : Int
  by_ : Int
  who : Int
  ns : List Int

/-- The kinds of elements that slices and arrays have. -/
inductive DT where
  | u8 | int (k : IntKind) | comp | ua | bytes | en | sta | stp

abbrev DT.T : DT → Type
  | .u8 => UInt8
  | .int _ => Int
  | .comp => Comp
  | .ua => UA
  | .bytes => List UInt8
  | .en => En
  | .sta => Sta
  | .stp => Stp

def DT.dflt : (t : DT) → t.T
  | .u8 => (0 : UInt8)
  | .int _ => (0 : Int)
  | .comp => (⟨0, 0, ByteArray.empty⟩ : Comp)
  | .ua => (⟨0, 0⟩ : UA)
  | .bytes => ([] : List UInt8)
  | .en => (⟨⟨[], []⟩, 0, [], [], []⟩ : En)
  | .sta => (⟨0, 0, ByteArray.empty, [], 0, []⟩ : Sta)
  | .stp => (⟨0, 0, 0, []⟩ : Stp)

/-- How many cells an element has. -/
def DT.size : DT → Nat
  | .u8 => 1 | .int _ => 1 | .comp => 3 | .ua => 2 | .bytes => 1 | .en => 99 | .sta => 37 | .stp => 4

/-- An abstract value. -/
inductive V where
  | any
  | v (x : Value)
  | b (x : UInt8)
  | ptr (h off : Nat)
  | pe (h base n s i sub : Nat)
  | dp (t : DT) (xs : List t.T) (i sub : Nat)
  | own (h base s off len : Nat) (lim : Option Nat)
  | ow (h : Nat)
  | deep (t : DT) (xs : List t.T)
  | agg (l : List V)
  | vec (t : DT) (n : Nat) (xs : List t.T)
  | tup (l : List V)
  | fn (f : Fn) (first caps : List V)
  | fl (n : Int)
  | cx (re im : Int)

/-- An abstract row of memory: cells one by one; an array of elements of one kind; a slice's row, with room behind it. -/
inductive Row where
  | lit (e : TypeId) (l : List V)
  | arr (e : TypeId) (t : DT) (xs : List t.T)
  | buf (e : TypeId) (t : DT) (xs : List t.T)

inductive TyK where
  | sc | int (k : IntKind) | bool | str | fl | sl (e : TypeId) | ar (n : Nat) (e : TypeId) | st (fs : List (Nat × TypeId))
  deriving Inhabited

structure TyI where
  k : TyK
  size : Nat
  bytes : Nat
  zero : List V
  dt : Option DT
  eq : Bool := false

def hashV (h : List UInt8) : List V := (List.range 32).map fun i => .b (h.getD i 0)
def u8s : Nat → List UInt8 → List V
  | 0, _ => []
  | n + 1, h => .b (h.headD 0) :: u8s n h.tail
def iV (n : Int) : V := .v (.int .i64 n)

def enc : (t : DT) → t.T → List V
  | .u8, x => [.b x]
  | .int k, n => [.v (.int k n)]
  | .comp, (c : Comp) => [iV c.k, iV c.n, .v (.string c.s)]
  | .ua, (a : UA) => [iV a.d, iV a.u]
  | .bytes, (x : List UInt8) => [.deep .u8 x]
  | .en, (e : En) => .deep .u8 e.s.body :: (hashV e.s.mac ++ iV e.at_ :: .deep .comp e.op :: (hashV e.hash ++ hashV e.mac))
  | .sta, (s : Sta) => iV s.host :: iV s.num :: .v (.string s.doc) :: .deep .ua s.ppl :: iV s.ver :: hashV s.hash
  | .stp, (p : Stp) => [iV p.kind, iV p.by_, iV p.who, .deep (.int .i64) p.ns]

/-! Back from cells: each with what must hold. -/
def decU8 : V → Option (Prop × UInt8)
  | .b x => some (True, x)
  | .v (.int .u8 n) => some (0 ≤ n ∧ n < 256, UInt8.ofNat n.toNat)
  | _ => none
def decB : Nat → List V → Option (Prop × List UInt8)
  | 0, [] => some (True, [])
  | n + 1, c :: l => match decU8 c, decB n l with
    | some (p, x), some (q, xs) => some (p ∧ q, x :: xs)
    | _, _ => none
  | _, _ => none
def decI : V → Option Int
  | .v (.int .i64 n) => some n
  | _ => none
def decS : V → Option ByteArray
  | .v (.string s) => some s
  | _ => none
def decD (t : DT) : V → Option (List t.T)
  | .deep t' xs => match t, t', xs with
    | .u8, .u8, xs => some xs
    | .int .i64, .int .i64, xs => some xs
    | .comp, .comp, xs => some xs
    | .ua, .ua, xs => some xs
    | .bytes, .bytes, xs => some xs
    | .en, .en, xs => some xs
    | .sta, .sta, xs => some xs
    | .stp, .stp, xs => some xs
    | _, _, _ => none
  | .v (.slice none 0 0) => some []
  | _ => none
def decByte : List V → Option (Prop × UInt8)
  | [c] => decU8 c
  | _ => none
def decInt (k : IntKind) : List V → Option (Prop × Int)
  | [.v (.int k' n)] => if k = k' then some (True, n) else none
  | _ => none
def decComp : List V → Option (Prop × Comp)
  | [a, b, c] => match decI a, decI b, decS c with
    | some a, some b, some c => some (True, ⟨a, b, c⟩)
    | _, _, _ => none
  | _ => none
def decUA : List V → Option (Prop × UA)
  | [a, b] => match decI a, decI b with
    | some a, some b => some (True, ⟨a, b⟩)
    | _, _ => none
  | _ => none
def decBytes : List V → Option (Prop × List UInt8)
  | [c] => match decD .u8 c with
    | some x => some (True, x)
    | none => none
  | _ => none
def decEn : List V → Option (Prop × En)
  | body :: l => match decD .u8 body, decB 32 (l.take 32), l.drop 32 with
    | some body, some (p, mac), at_ :: op :: r => match decI at_, decD .comp op, decB 32 (r.take 32), decB 32 (r.drop 32) with
      | some at_, some op, some (q, hash), some (q', mac') => some (p ∧ q ∧ q', ⟨⟨body, mac⟩, at_, op, hash, mac'⟩)
      | _, _, _, _ => none
    | _, _, _ => none
  | _ => none
def decSta : List V → Option (Prop × Sta)
  | a :: b :: c :: d :: e :: l => match decI a, decI b, decS c, decD .ua d, decI e, decB 32 l with
    | some a, some b, some c, some d, some e, some (p, h) => some (p, ⟨a, b, c, d, e, h⟩)
    | _, _, _, _, _, _ => none
  | _ => none
def decStp : List V → Option (Prop × Stp)
  | [a, b, c, d] => match decI a, decI b, decI c, decD (.int .i64) d with
    | some a, some b, some c, some d => some (True, ⟨a, b, c, d⟩)
    | _, _, _, _ => none
  | _ => none
def dec : (t : DT) → List V → Option (Prop × t.T)
  | .u8 => decByte
  | .int k => decInt k
  | .comp => decComp
  | .ua => decUA
  | .bytes => decBytes
  | .en => decEn
  | .sta => decSta
  | .stp => decStp
/-- Cells in pieces of s, n of them. -/
def chunk (s : Nat) : Nat → List V → List (List V)
  | 0, _ => []
  | n + 1, l => l.take s :: chunk s n (l.drop s)
def decAll (t : DT) : List (List V) → Option (Prop × List t.T)
  | [] => some (True, [])
  | c :: r => match dec t c, decAll t r with
    | some (p, x), some (q, xs) => some (p ∧ q, x :: xs)
    | _, _ => none

structure St where
  n : Nat
  env : Nat → V
  heap : Nat → Option Row
  used : Nat → Bool

def upd {α : Type} (f : Nat → α) (d : Nat) (x : α) : Nat → α := fun t => bif t.beq d then x else f t

def ev (S : St) : Operand → V
  | .tmp t => S.env t
  | .const x => .v x
  | .func f => .fn (.func f) [] []
  | .global _ => .any
end Go.Proofs.Ytbkhhfekdpkhbaa.Ab
