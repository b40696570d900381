/- sha.padded; no condition. -/
import Derived.Test.YtbkhhfekdpkhbaaBaE
namespace Go.Proofs.Ytbkhhfekdpkhbaa.Ab
open Go
set_option linter.unusedSimpArgs false
set_option linter.unusedVariables false
set_option maxRecDepth 100000

def zpad (n : Nat) : Nat := (119 - n % 64) % 64
def lenByte (n s : Int) : UInt8 := UInt8.ofNat (IntKind.u8.wrap (shrI .u64 n s)).toNat
/-- The first bytes of a length. -/
def lens (n : Int) : Nat → List UInt8
  | 0 => []
  | i + 1 => lens n i ++ [lenByte n (56 - 8 * (i : Int))]
def bits (xs : List UInt8) : Int := (8 * (xs.length : Int))
/-- Bytes with what a sum lays behind them. -/
def padL (xs : List UInt8) : List UInt8 := xs ++ [128] ++ List.replicate (zpad xs.length) 0 ++ lens (bits xs) 8
def sPadded : Sum := { asis := [true], flat := false, f := fun k l heap => match k, l, heap 1000000 with
  | 1, [.ow h], some (.buf e .u8 xs) => bif Nat.beq h 1000000 && Nat.beq e 5 then some { need := xs.length ≤ 140737488355000, val := .ow 500000, put := [(1000000, none)], new := [(500000, .buf 5 .u8 (padL xs))] } else none
  | _, _, _ => none }
noncomputable def lamPadded (xs : List UInt8) : Nat → Option Lp
  | 1 => some (.jump 0 { α := Nat, inv := fun i => i ≤ zpad xs.length, mu := fun i => zpad xs.length - i, base := 500000, st := fun i => { env := [(0, .ow 500000), (3, .v (.int .u64 (bits xs)))], rows := [.buf 5 .u8 (xs ++ [128] ++ List.replicate i 0)], ents := [] } })
  | 6 => some (.inv { α := Nat, inv := fun i => i ≤ 8, mu := fun i => 8 - i, base := 500000, st := fun i => { env := [(0, .ow 500000), (3, .v (.int .u64 (bits xs))), (19, .v (.int .i64 (i : Int)))], rows := [.buf 5 .u8 (xs ++ [128] ++ List.replicate (zpad xs.length) 0 ++ lens (bits xs) i)], ents := [] } })
  | _ => none

theorem vcPadded (xs : List UInt8) (p : Prop)  :
  goalOf Try.f74 (lookS []) 1 (noS (lamPadded xs)) [.ow 1000000] { need := p, val := .ow 500000, put := [(1000000, none)], new := [(500000, .buf 5 .u8 (padL xs))] } (entH [some (.buf 5 .u8 xs)]) =
  (True ∧ (True ∧ True ∧ True ∧ True ∧ True ∧ True ∧ True ∧ (True ∧ ((True ∧ True) ∧ ((0 : Int) ≤ (128 : Int) ∧ (128 : Int) < (256 : Int)) ∧ True) ∧ (xs.length + [UInt8.ofNat (Int.toNat (128 :
  Int))].length) * (1 : Nat) ≤ (140737488355328 : Nat) ∧ xs.length + [UInt8.ofNat (Int.toNat (128 : Int))].length ≤ (9223372036854775807 : Nat)) ∧ True ∧ True ∧ True ∧ (64 : Int) ≠ (0 : Int) ∧ True ∧
  bif (↑(xs ++ [UInt8.ofNat (Int.toNat (128 : Int))]).length : Int).tmod (64 : Int) != (56 : Int) then True ∧ True ∧ (True ∧ ((True ∧ True) ∧ ((0 : Int) ≤ (0 : Int) ∧ (0 : Int) < (256 : Int)) ∧ True) ∧
  ((xs ++ [UInt8.ofNat (Int.toNat (128 : Int))]).length + [UInt8.ofNat (Int.toNat (0 : Int))].length) * (1 : Nat) ≤ (140737488355328 : Nat) ∧ (xs ++ [UInt8.ofNat (Int.toNat (128 : Int))]).length +
  [UInt8.ofNat (Int.toNat (0 : Int))].length ≤ (9223372036854775807 : Nat)) ∧ True ∧ (0 : Nat) = (0 : Nat) ∧ ∃ (x : Nat), x ≤ zpad xs.length ∧ (V.ow (500000 : Nat) = V.ow (500000 : Nat) ∧ V.v (Value.int
  IntKind.u64 (IntKind.u64.wrap (IntKind.u64.wrap (↑xs.length : Int) * (8 : Int)))) = V.v (Value.int IntKind.u64 (bits xs))) ∧ Row.buf (5 : Nat) DT.u8 (xs ++ [UInt8.ofNat (Int.toNat (128 : Int))] ++
  [UInt8.ofNat (Int.toNat (0 : Int))]) = Row.buf (5 : Nat) DT.u8 (xs ++ [(128 : UInt8)] ++ List.replicate x (0 : UInt8)) ∧ True else True ∧ (∃ (x : Nat), x ≤ (8 : Nat) ∧ (V.ow (500000 : Nat) = V.ow
  (500000 : Nat) ∧ V.v (Value.int IntKind.u64 (IntKind.u64.wrap (IntKind.u64.wrap (↑xs.length : Int) * (8 : Int)))) = V.v (Value.int IntKind.u64 (bits xs)) ∧ V.v (Value.int IntKind.i64 (0 : Int)) = V.v
  (Value.int IntKind.i64 (↑x : Int))) ∧ Row.buf (5 : Nat) DT.u8 (xs ++ [UInt8.ofNat (Int.toNat (128 : Int))]) = Row.buf (5 : Nat) DT.u8 (xs ++ [(128 : UInt8)] ++ List.replicate (zpad xs.length) (0 :
  UInt8) ++ lens (bits xs) x) ∧ True) ∧ ∀ (x : Nat), x ≤ (8 : Nat) → True ∧ bif decide ((↑x : Int) < (8 : Int)) then True ∧ True ∧ True ∧ True ∧ True ∧ True ∧ True ∧ (0 : Int) ≤ IntKind.i64.wrap ((56 :
  Int) - IntKind.i64.wrap ((8 : Int) * (↑x : Int))) ∧ True ∧ True ∧ (True ∧ ((True ∧ True) ∧ ((0 : Int) ≤ IntKind.u8.wrap (shrI IntKind.u64 (bits xs) (IntKind.i64.wrap ((56 : Int) - IntKind.i64.wrap ((8
  : Int) * (↑x : Int))))) ∧ IntKind.u8.wrap (shrI IntKind.u64 (bits xs) (IntKind.i64.wrap ((56 : Int) - IntKind.i64.wrap ((8 : Int) * (↑x : Int))))) < (256 : Int)) ∧ True) ∧ ((xs ++ [(128 : UInt8)] ++
  List.replicate (zpad xs.length) (0 : UInt8) ++ lens (bits xs) x).length + [UInt8.ofNat (IntKind.u8.wrap (shrI IntKind.u64 (bits xs) (IntKind.i64.wrap ((56 : Int) - IntKind.i64.wrap ((8 : Int) * (↑x :
  Int)))))).toNat].length) * (1 : Nat) ≤ (140737488355328 : Nat) ∧ (xs ++ [(128 : UInt8)] ++ List.replicate (zpad xs.length) (0 : UInt8) ++ lens (bits xs) x).length + [UInt8.ofNat (IntKind.u8.wrap (shrI
  IntKind.u64 (bits xs) (IntKind.i64.wrap ((56 : Int) - IntKind.i64.wrap ((8 : Int) * (↑x : Int)))))).toNat].length ≤ (9223372036854775807 : Nat)) ∧ True ∧ True ∧ True ∧ ∃ (y : Nat), y ≤ (8 : Nat) ∧ (8
  : Nat) - y < (8 : Nat) - x ∧ (V.ow (500000 : Nat) = V.ow (500000 : Nat) ∧ V.v (Value.int IntKind.u64 (bits xs)) = V.v (Value.int IntKind.u64 (bits xs)) ∧ V.v (Value.int IntKind.i64 (IntKind.i64.wrap
  ((↑x : Int) + (1 : Int)))) = V.v (Value.int IntKind.i64 (↑y : Int))) ∧ Row.buf (5 : Nat) DT.u8 (xs ++ [(128 : UInt8)] ++ List.replicate (zpad xs.length) (0 : UInt8) ++ lens (bits xs) x ++ [UInt8.ofNat
  (IntKind.u8.wrap (shrI IntKind.u64 (bits xs) (IntKind.i64.wrap ((56 : Int) - IntKind.i64.wrap ((8 : Int) * (↑x : Int)))))).toNat]) = Row.buf (5 : Nat) DT.u8 (xs ++ [(128 : UInt8)] ++ List.replicate
  (zpad xs.length) (0 : UInt8) ++ lens (bits xs) y) ∧ True else True ∧ True ∧ (True ∧ True) ∧ V.ow (500000 : Nat) = V.ow (500000 : Nat) ∧ Row.buf (5 : Nat) DT.u8 (xs ++ [(128 : UInt8)] ++ List.replicate
  (zpad xs.length) (0 : UInt8) ++ lens (bits xs) x) = Row.buf (5 : Nat) DT.u8 (padL xs) ∧ True) ∧ ∀ (x : Nat), x ≤ zpad xs.length → True ∧ True ∧ (64 : Int) ≠ (0 : Int) ∧ True ∧ bif (↑(xs ++ [(128 :
  UInt8)] ++ List.replicate x (0 : UInt8)).length : Int).tmod (64 : Int) != (56 : Int) then True ∧ True ∧ (True ∧ ((True ∧ True) ∧ ((0 : Int) ≤ (0 : Int) ∧ (0 : Int) < (256 : Int)) ∧ True) ∧ ((xs ++
  [(128 : UInt8)] ++ List.replicate x (0 : UInt8)).length + [UInt8.ofNat (Int.toNat (0 : Int))].length) * (1 : Nat) ≤ (140737488355328 : Nat) ∧ (xs ++ [(128 : UInt8)] ++ List.replicate x (0 :
  UInt8)).length + [UInt8.ofNat (Int.toNat (0 : Int))].length ≤ (9223372036854775807 : Nat)) ∧ True ∧ (0 : Nat) = (0 : Nat) ∧ ∃ (y : Nat), y ≤ zpad xs.length ∧ zpad xs.length - y < zpad xs.length - x ∧
  (V.ow (500000 : Nat) = V.ow (500000 : Nat) ∧ V.v (Value.int IntKind.u64 (bits xs)) = V.v (Value.int IntKind.u64 (bits xs))) ∧ Row.buf (5 : Nat) DT.u8 (xs ++ [(128 : UInt8)] ++ List.replicate x (0 :
  UInt8) ++ [UInt8.ofNat (Int.toNat (0 : Int))]) = Row.buf (5 : Nat) DT.u8 (xs ++ [(128 : UInt8)] ++ List.replicate y (0 : UInt8)) ∧ True else True ∧ (∃ (x_1 : Nat), x_1 ≤ (8 : Nat) ∧ (V.ow (500000 :
  Nat) = V.ow (500000 : Nat) ∧ V.v (Value.int IntKind.u64 (bits xs)) = V.v (Value.int IntKind.u64 (bits xs)) ∧ V.v (Value.int IntKind.i64 (0 : Int)) = V.v (Value.int IntKind.i64 (↑x_1 : Int))) ∧ Row.buf
  (5 : Nat) DT.u8 (xs ++ [(128 : UInt8)] ++ List.replicate x (0 : UInt8)) = Row.buf (5 : Nat) DT.u8 (xs ++ [(128 : UInt8)] ++ List.replicate (zpad xs.length) (0 : UInt8) ++ lens (bits xs) x_1) ∧ True) ∧
  ∀ (x : Nat), x ≤ (8 : Nat) → True ∧ bif decide ((↑x : Int) < (8 : Int)) then True ∧ True ∧ True ∧ True ∧ True ∧ True ∧ True ∧ (0 : Int) ≤ IntKind.i64.wrap ((56 : Int) - IntKind.i64.wrap ((8 : Int) *
  (↑x : Int))) ∧ True ∧ True ∧ (True ∧ ((True ∧ True) ∧ ((0 : Int) ≤ IntKind.u8.wrap (shrI IntKind.u64 (bits xs) (IntKind.i64.wrap ((56 : Int) - IntKind.i64.wrap ((8 : Int) * (↑x : Int))))) ∧
  IntKind.u8.wrap (shrI IntKind.u64 (bits xs) (IntKind.i64.wrap ((56 : Int) - IntKind.i64.wrap ((8 : Int) * (↑x : Int))))) < (256 : Int)) ∧ True) ∧ ((xs ++ [(128 : UInt8)] ++ List.replicate (zpad
  xs.length) (0 : UInt8) ++ lens (bits xs) x).length + [UInt8.ofNat (IntKind.u8.wrap (shrI IntKind.u64 (bits xs) (IntKind.i64.wrap ((56 : Int) - IntKind.i64.wrap ((8 : Int) * (↑x :
  Int)))))).toNat].length) * (1 : Nat) ≤ (140737488355328 : Nat) ∧ (xs ++ [(128 : UInt8)] ++ List.replicate (zpad xs.length) (0 : UInt8) ++ lens (bits xs) x).length + [UInt8.ofNat (IntKind.u8.wrap (shrI
  IntKind.u64 (bits xs) (IntKind.i64.wrap ((56 : Int) - IntKind.i64.wrap ((8 : Int) * (↑x : Int)))))).toNat].length ≤ (9223372036854775807 : Nat)) ∧ True ∧ True ∧ True ∧ ∃ (y : Nat), y ≤ (8 : Nat) ∧ (8
  : Nat) - y < (8 : Nat) - x ∧ (V.ow (500000 : Nat) = V.ow (500000 : Nat) ∧ V.v (Value.int IntKind.u64 (bits xs)) = V.v (Value.int IntKind.u64 (bits xs)) ∧ V.v (Value.int IntKind.i64 (IntKind.i64.wrap
  ((↑x : Int) + (1 : Int)))) = V.v (Value.int IntKind.i64 (↑y : Int))) ∧ Row.buf (5 : Nat) DT.u8 (xs ++ [(128 : UInt8)] ++ List.replicate (zpad xs.length) (0 : UInt8) ++ lens (bits xs) x ++ [UInt8.ofNat
  (IntKind.u8.wrap (shrI IntKind.u64 (bits xs) (IntKind.i64.wrap ((56 : Int) - IntKind.i64.wrap ((8 : Int) * (↑x : Int)))))).toNat]) = Row.buf (5 : Nat) DT.u8 (xs ++ [(128 : UInt8)] ++ List.replicate
  (zpad xs.length) (0 : UInt8) ++ lens (bits xs) y) ∧ True else True ∧ True ∧ (True ∧ True) ∧ V.ow (500000 : Nat) = V.ow (500000 : Nat) ∧ Row.buf (5 : Nat) DT.u8 (xs ++ [(128 : UInt8)] ++ List.replicate
  (zpad xs.length) (0 : UInt8) ++ lens (bits xs) x) = Row.buf (5 : Nat) DT.u8 (padL xs) ∧ True) := by kernel_rfl


theorem wrap_u8_range (n : Int) : 0 ≤ IntKind.u8.wrap n ∧ IntKind.u8.wrap n < 256 := by
  simp only [IntKind.wrap, IntKind.bits, IntKind.signed]
  simp; omega
theorem lens_len (n : Int) : ∀ i, (lens n i).length = i
  | 0 => rfl
  | i + 1 => by simp [lens, lens_len n i]
theorem tmod64 (n : Nat) : ((n : Int)).tmod 64 = ((n % 64 : Nat) : Int) := by
  rw [Int.tmod_eq_emod_of_nonneg (by omega)]; rfl
theorem ne_56 {n : Nat} : (((n : Int)).tmod 64 != 56) = true ↔ n % 64 ≠ 56 := by
  rw [tmod64, bne_iff_ne]; omega

theorem okPadded : SumOK Try.prog 74 sPadded := by
  refine fn_ok0 Try.func74 (c := Try.f74.body.getD .skip) (by kernel_rfl) (by kernel_rfl) ok0 ?_
  intro k l heap e he hn hin
  simp only [sPadded] at he
  split at he
  · rename_i h e xs hh
    replace he := bif_some he; obtain ⟨hc, he⟩ := he
    simp only [Bool.and_eq_true] at hc
    have c1 := Nat.eq_of_beq_eq_true hc.1
    have c2 := Nat.eq_of_beq_eq_true hc.2
    cases he
    have hH := entH1 hin
    rw [hh, c2] at hH
    subst c1
    rw [hH]
    refine ⟨_, rfl, Eq.mpr (vcPadded xs _) ?_⟩
    simp only [true_and, and_true, V.v.injEq, V.b.injEq, V.deep.injEq, V.agg.injEq, V.vec.injEq, V.tup.injEq, V.ow.injEq, V.own.injEq, V.ptr.injEq, V.fl.injEq, V.cx.injEq, Row.arr.injEq, Row.buf.injEq, Row.lit.injEq, Value.int.injEq, Value.bool.injEq, Value.string.injEq, Option.some.injEq, List.cons.injEq, heq_eq_eq]
    have hlen : xs.length ≤ 140737488355000 := hn
    have hz : zpad xs.length < 64 := Nat.mod_lt _ (by omega)
    have hzs : ∀ i, i ≤ zpad xs.length → ((xs.length + 1 + i) % 64 ≠ 56 ↔ i < zpad xs.length) := by
      intro i hi; unfold zpad at hi ⊢; omega
    have hb : IntKind.u64.wrap (IntKind.u64.wrap (xs.length : Int) * 8) = bits xs := by
      unfold bits; rw [wrap_u64 (n := (xs.length : Int)) (by omega), wrap_u64 (by omega)]; omega
    have h128 : UInt8.ofNat (Int.toNat 128) = 128 := rfl
    have h00 : UInt8.ofNat (Int.toNat 0) = 0 := rfl
    simp only [h128, h00, hb, List.length_append, List.length_replicate, List.length_cons, List.length_nil, lens_len]
    refine ⟨⟨⟨by omega, by omega, by omega⟩, by omega, cond_prop (fun h => ⟨⟨by omega, by omega, by omega⟩, 1, ?_, trivial, rfl⟩) (fun h => ⟨⟨0, by omega, ⟨trivial, rfl⟩, ?_⟩, ?_⟩)⟩, fun x hx => ⟨by omega, cond_prop (fun h => ⟨⟨by omega, by omega, by omega⟩, x + 1, ?_, ?_, ?_⟩) (fun h => ⟨⟨0, by omega, rfl, ?_⟩, ?_⟩)⟩⟩
    · have := ne_56.1 h
      have := (hzs 0 (by omega)).1 this
      omega
    · have : ¬ (xs.length + 1 + 0) % 64 ≠ 56 := fun c => by rw [ne_56.2 c] at h; cases h
      have h0 : zpad xs.length = 0 := by
        have := mt (hzs 0 (by omega)).2 this
        omega
      rw [h0]; simp [lens]
    rotate_left
    · have := ne_56.1 h
      have := (hzs x hx).1 this
      omega
    · have := ne_56.1 h
      have := (hzs x hx).1 this
      omega
    · simp only [List.replicate_succ', List.append_assoc]
    · have : ¬ (xs.length + 1 + x) % 64 ≠ 56 := fun c => by rw [ne_56.2 c] at h; cases h
      have h0 : zpad xs.length = x := by
        have := mt (hzs x hx).2 this
        omega
      rw [h0]; simp [lens]
    all_goals
      clear h
      intro x hx
      refine cond_dec (fun hlt => ?_) (fun hge => ?_)
      · have e1 : IntKind.i64.wrap (56 - IntKind.i64.wrap (8 * (x : Int))) = 56 - 8 * (x : Int) := by
          rw [wrap_i64 (n := 8 * (x : Int)) (by omega), wrap_i64 (by omega)]
        rw [e1]
        refine ⟨by omega, ⟨wrap_u8_range _, by omega, by omega⟩, x + 1, by omega, by omega, by rw [wrap_i64 (by omega)]; omega, ?_⟩
        simp only [lens, lenByte, List.append_assoc]
      · have : x = 8 := by omega
        subst this; rfl
  · cases he
end Go.Proofs.Ytbkhhfekdpkhbaa.Ab
