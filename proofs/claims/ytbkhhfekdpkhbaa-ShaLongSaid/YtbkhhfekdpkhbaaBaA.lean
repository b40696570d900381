/- How a function's summary is shown; no condition. -/
import Derived.Test.YtbkhhfekdpkhbaaAcF
namespace Go.Proofs.Ytbkhhfekdpkhbaa.Ab
open Go
set_option linter.unusedSimpArgs false
set_option linter.unusedVariables false
set_option maxRecDepth 100000

/-- Loops that are known whatever the state. -/
def noS (f : Nat → Option Lp) (n : Nat) (_ : St) : Option Lp := f n
def getI : V → Int
  | .v (.int _ n) => n
  | _ => 0
def nameV : V → Nat
  | .ptr h _ => h
  | .pe h _ _ _ _ _ => h
  | .own h _ _ _ _ _ => h
  | .ow h => h
  | _ => 0
def rowI : Option Row → List Int
  | some (.arr _ (.int _) xs) => xs
  | some (.buf _ (.int _) xs) => xs
  | _ => []
def rowB : Option Row → List UInt8
  | some (.arr _ .u8 xs) => xs
  | some (.buf _ .u8 xs) => xs
  | _ => []
/-- A state as it stands, but for some slots and rows. -/
def keepRows (base : Nat) (S : St) (hs : List Nat) (chg : List (Nat × Row)) : List Nat → List Row
  | [] => []
  | h :: l => (match lookR chg h with
    | some r => [r]
    | none => match S.heap h with
      | some r => [renRow (σOf base hs) r]
      | none => []) ++ keepRows base S hs chg l
def keepLS (S : St) (base : Nat) (ts : List Nat) (chg : List (Nat × V)) (rows : List (Nat × Row)) : LS :=
  { env := (ts.map fun t => (t, ren (σOf base (hsOf S (ts.map fun t => (t, .any)))) (S.env t))) ++ chg, rows := keepRows base S (hsOf S (ts.map fun t => (t, .any))) rows (hsOf S (ts.map fun t => (t, .any))), ents := [] }

/-- What is to be shown of a function's body. -/
noncomputable def goalOf (fn : Func) (Γ : FuncId → Option Sum) (k : Nat) (Λ : Nat → St → Option Lp) (args : List V) (e : Eff) (heap : Nat → Option Row) : Prop :=
  awpC tiS Γ k Λ 100 (fn.body.getD .skip) ⟨retP tiS k heap fn.results.toList e, fun _ _ => False, retP tiS k heap fn.results.toList e, fun _ _ => False⟩ (start fn.ntmps k args heap)

/-- Functions that are known, as a list. -/
def lookS : List (Nat × Sum) → Nat → Option Sum
  | [], _ => none
  | (t, x) :: l, q => bif Nat.beq t q then some x else lookS l q
def AllOK (l : List (Nat × Sum)) : Prop := ∀ p ∈ l, SumOK Try.prog p.1 p.2
theorem ok0 : AllOK [] := fun _ h => by cases h
theorem ok1 {F : Nat} {s : Sum} {l : List (Nat × Sum)} (h : SumOK Try.prog F s) (k : AllOK l) : AllOK ((F, s) :: l) := by
  intro p hp
  rcases List.mem_cons.1 hp with rfl | hp
  · exact h
  · exact k p hp
theorem lookS_ok : ∀ (l : List (Nat × Sum)), AllOK l → ∀ F s, lookS l F = some s → SumOK Try.prog F s
  | [], _, _, _, h => by cases h
  | (t, x) :: l, hl, F, s, h => by
    simp only [lookS] at h
    cases hb : Nat.beq t F with
    | true =>
      rw [hb] at h
      simp only [cond_true] at h
      cases h
      have := Nat.eq_of_beq_eq_true hb
      subst this
      exact hl (t, x) (by simp)
    | false =>
      rw [hb] at h
      simp only [cond_false] at h
      exact lookS_ok l (fun p hp => hl p (by simp [hp])) F s h

/-- The rows that are handed in. -/
def entH (l : List (Option Row)) (n : Nat) : Option Row := bif Nat.ble 1000000 n then (l[n - 1000000]?).getD none else none
theorem entH_eq {k : Nat} {heap : Nat → Option Row} (h : ∀ n r, heap n = some r → inK k n = true) : heap = entH ((List.range k).map fun i => heap (1000000 + i)) := by
  funext n
  unfold entH
  by_cases c : 1000000 ≤ n
  · rw [Nat.ble_eq_true_of_le c]
    simp only [cond_true]
    by_cases c2 : n - 1000000 < k
    · rw [List.getElem?_map, List.getElem?_range c2]
      simp only [Option.map_some, Option.getD_some]
      have e : 1000000 + (n - 1000000) = n := by omega
      rw [e]
    · rw [List.getElem?_eq_none (by simp; omega)]
      cases hr : heap n with
      | none => rfl
      | some r => have := inK_iff.1 (h n r hr); omega
  · have : Nat.ble 1000000 n = false := by
      cases hb : Nat.ble 1000000 n with
      | false => rfl
      | true => exact absurd (Nat.le_of_ble_eq_true hb) c
    rw [this]
    cases hr : heap n with
    | none => rfl
    | some r => have := inK_iff.1 (h n r hr); omega
theorem entH1 {heap : Nat → Option Row} (h : ∀ n r, heap n = some r → inK 1 n = true) : heap = entH [heap 1000000] := (entH_eq h).trans (congrArg entH (by simp [List.range_succ]))
theorem entH2 {heap : Nat → Option Row} (h : ∀ n r, heap n = some r → inK 2 n = true) : heap = entH [heap 1000000, heap 1000001] := (entH_eq h).trans (congrArg entH (by simp [List.range_succ]))

/-- A function does what it is known to, where its body does. -/
theorem fn_ok {F : FuncId} {fn : Func} {c : Code} (hf : Try.prog.funcs[F]? = some fn) (hb : fn.body = some c) (hname : (fn.name == "runtime.NumGoroutine") = false) {l : List (Nat × Sum)} (hl : AllOK l) {s : Sum}
    (h : ∀ (k : Nat) (xs : List V) (heap : Nat → Option Row) (e : Eff), s.f k xs heap = some e → effOk k e = true → e.need → (∀ n r, heap n = some r → inK k n = true) →
      ∃ ys Λ, Subs xs ys ∧ Nat.ble ys.length fn.ntmps = true ∧ goalOf fn (lookS l) k Λ ys e heap) : SumOK Try.prog F s := by
  refine fun_ok tiS_ok flOK (lookS_ok l hl) mixed hf hb hname fun k xs heap e he hok hn _ hin => ?_
  obtain ⟨ys, Λ, h0, h1, h2⟩ := h k xs heap e he hok hn hin
  refine ⟨ys, Λ, 100, h0, h1, ?_⟩
  unfold goalOf at h2
  rw [hb] at h2
  exact h2
/-- No argument is told anew. -/
theorem fn_ok0 {F : FuncId} {fn : Func} {c : Code} (hf : Try.prog.funcs[F]? = some fn) (hb : fn.body = some c) (hname : (fn.name == "runtime.NumGoroutine") = false) {l : List (Nat × Sum)} (hl : AllOK l) {s : Sum}
    (h : ∀ (k : Nat) (xs : List V) (heap : Nat → Option Row) (e : Eff), s.f k xs heap = some e → e.need → (∀ n r, heap n = some r → inK k n = true) →
      ∃ Λ, Nat.ble xs.length fn.ntmps = true ∧ goalOf fn (lookS l) k Λ xs e heap) : SumOK Try.prog F s := by
  refine fn_ok hf hb hname hl fun k xs heap e he _ hn hin => ?_
  obtain ⟨Λ, h1, h2⟩ := h k xs heap e he hn hin
  exact ⟨xs, Λ, Subs.refl xs, h1, h2⟩

theorem bif_true {α : Type} {b : Bool} {x y : α} (h : b = true) : (bif b then x else y) = x := by rw [h]; rfl
theorem bif_false {α : Type} {b : Bool} {x y : α} (h : b = false) : (bif b then x else y) = y := by rw [h]; rfl
theorem cond_prop {b : Bool} {p q : Prop} (h1 : b = true → p) (h2 : b = false → q) : bif b then p else q := by
  cases b
  · exact h2 rfl
  · exact h1 rfl
theorem cond_dec {c : Prop} [Decidable c] {p q : Prop} (h1 : c → p) (h2 : ¬ c → q) : bif decide c then p else q := by
  by_cases h : c
  · rw [decide_eq_true h]; exact h1 h
  · rw [decide_eq_false h]; exact h2 h

/-- Whole numbers within their bounds stay. -/
theorem wrap_i64 {n : Int} (h : -9223372036854775808 ≤ n ∧ n ≤ 9223372036854775807) : IntKind.i64.wrap n = n := by
  simp only [IntKind.wrap, IntKind.bits, IntKind.signed]
  simp; omega
theorem wrap_u8 {n : Int} (h : 0 ≤ n ∧ n < 256) : IntKind.u8.wrap n = n := by
  simp only [IntKind.wrap, IntKind.bits, IntKind.signed]
  simp; omega
theorem wrap_u32 {n : Int} (h : 0 ≤ n ∧ n < 4294967296) : IntKind.u32.wrap n = n := by
  simp only [IntKind.wrap, IntKind.bits, IntKind.signed]
  simp; omega
theorem wrap_u64 {n : Int} (h : 0 ≤ n ∧ n < 18446744073709551616) : IntKind.u64.wrap n = n := by
  simp only [IntKind.wrap, IntKind.bits, IntKind.signed]
  simp; omega
end Go.Proofs.Ytbkhhfekdpkhbaa.Ab
