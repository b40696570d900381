/- A function's body; one condition: what floats of small numbers are. -/
import Derived.Test.YtbkhhfekdpkhbaaAbY
import Derived.ScopeJumps
namespace Go.Proofs.Ytbkhhfekdpkhbaa.Ab
open Go

/-- What is known of a loop: what its rounds keep, and a number that each lowers. -/
structure LInv where
  α : Type
  inv : α → Prop
  mu : α → Nat
  base : Nat
  st : α → LS

/-- How a loop is taken: by what its rounds keep; round by round; or a scope, by what holds at every jump back to its label. -/
inductive Lp where
  | inv (L : LInv)
  | unroll (n : Nat)
  | jump (lab : Nat) (L : LInv)

/-- What is to hold where a piece of code is left. -/
structure Ex where
  n : St → Prop
  x : Nat → St → Prop
  r : St → Prop
  g : Nat → St → Prop

def headId : Code → Nat
  | .region id _ _ => id
  | .seq a _ => headId a
  | .cond _ a _ => headId a
  | .block _ c => headId c
  | .loop c => headId c
  | .scope c => headId c
  | _ => 0

def refC (S : St) (c : Operand) (b : Bool) : St :=
  match c with
  | .tmp t => setT S (some t) (.v (.bool b))
  | _ => S

/-- What is to be shown at a loop. -/
def loopP (k : Nat) (L : LInv) (body : Ex → St → Prop) (E : Ex) (S : St) : Prop :=
  (∃ x, L.inv x ∧ fitN S.n k L.base S (L.st x)) ∧
  ∀ x, L.inv x → body { E with n := fun S' => ∃ y, L.inv y ∧ L.mu y < L.mu x ∧ fitN S.n k L.base S' (L.st y) } (mkS S.n k L.base (L.st x))
def unrollP (body : Ex → St → Prop) (E : Ex) : Nat → St → Prop
  | 0, _ => False
  | n + 1, S => body { E with n := unrollP body E n } S
def jumpP (k lab : Nat) (L : LInv) (first rest : Ex → St → Prop) (E : Ex) (S : St) : Prop :=
  first { E with g := fun l S' => l = lab ∧ ∃ x, L.inv x ∧ fitN S.n k L.base S' (L.st x) } S ∧
  ∀ x, L.inv x → rest { E with g := fun l S' => l = lab ∧ ∃ y, L.inv y ∧ L.mu y < L.mu x ∧ fitN S.n k L.base S' (L.st y) } (mkS S.n k L.base (L.st x))

section
variable (ti : TypeId → TyI) (Γ : FuncId → Option Sum) (k : Nat) (Λ : Nat → St → Option Lp)
def awpC : Nat → Code → Ex → St → Prop
  | 0, _, _, _ => False
  | f + 1, c, E, S => match c with
    | .skip => E.n S
    | .label _ => E.n S
    | .region _ ops draws => awpOps ti Γ ops.toList ops.toList S [] fun S' fs => bif draws then (bif drawB ops fs.reverse then E.n S' else False) else E.n S'
    | .seq x y => awpC f x { E with n := awpC f y E } S
    | .cond c x y => match ev S c with
      | .v (.bool b) => bif b then awpC f x E (refC S c true) else awpC f y E (refC S c false)
      | _ => False
    | .block id c => awpC f c { E with x := fun i => bif Nat.beq i id then E.n else E.x i } S
    | .exit id => E.x id S
    | .scope c => match Λ (headId c) S with
      | some (.jump lab L) => match findLabel c lab with
        | some rest => jumpP k lab L (awpC f c) (awpC f rest) E S
        | none => False
      | _ => awpC f c { E with g := fun _ _ => False } S
    | .goto l => E.g l S
    | .ret => E.r S
    | .loop c => match Λ (headId c) S with
      | some (.inv L) => loopP k L (awpC f c) E S
      | some (.unroll n) => unrollP (awpC f c) E n S
      | _ => False
    | _ => False
end

section
variable {P : Program} {ti : TypeId → TyI} {Γ : FuncId → Option Sum} {k : Nat} {Λ : Nat → St → Option Lp} {ρ0 : Nat → Hd} {G0 : Nat → Prop} {heap0 : Nat → Option Row} {w0 : World}

/-- Where a piece of code is left. -/
def post (k : Nat) (ρ0 : Nat → Hd) (G0 : Nat → Prop) (heap0 : Nat → Option Row) (w0 : World) (E : Ex) : Exit → Act → World → Prop
  | .normal, a, w => ∃ S, E.n S ∧ RelE k ρ0 G0 heap0 w0 S a w
  | .exit id, a, w => ∃ S, E.x id S ∧ RelE k ρ0 G0 heap0 w0 S a w
  | .ret, a, w => ∃ S, E.r S ∧ RelE k ρ0 G0 heap0 w0 S a w
  | .goto l, a, w => ∃ S, E.g l S ∧ RelE k ρ0 G0 heap0 w0 S a w
  | _, _, _ => False

theorem refC_same {S : St} {c : Operand} {b : Bool} (h : ev S c = .v (.bool b)) : refC S c b = S := by
  unfold refC
  split
  · rename_i t
    have h' : S.env t = .v (.bool b) := h
    rw [← h']
    simp only [setT, upd_self]
  · rfl

/-- A scope, by a relation that bears a number, which every jump lowers. -/
theorem wp_scope_ghost {c rest : Code} {Q : Exit → Act → World → Prop} {a : Act} {w : World} (l : Nat) (I : Nat → Act → World → Prop) (hf : findLabel c l = some rest)
    (first : c.wp P (Exit.jump l (fun a' w' => ∃ n, I n a' w') Q) a w)
    (pass : ∀ n a w, I n a w → rest.wp P (Exit.jump l (fun a' w' => ∃ n', n' < n ∧ I n' a' w') Q) a w) : (Code.scope c).wp P Q a w := by
  refine wp_scope_jumps l (fun a w => ∃ n, I n a w) (fun a w => leastOf (fun n => I n a w)) hf first ?_
  intro a w hI
  refine wp_mono (pass _ a w (leastOf_spec hI).1) ?_
  intro e a' w' hq
  cases e with
  | goto l' =>
    obtain ⟨hl, n', hlt, hI'⟩ := hq
    exact ⟨hl, ⟨n', hI'⟩, Nat.lt_of_le_of_lt ((leastOf_spec ⟨n', hI'⟩).2 n' hI') hlt⟩
  | normal => exact hq
  | exit id => exact hq
  | ret => exact hq
  | panic ch => exact hq
  | outgrown => exact hq

theorem awpC_ok (hti : TiOK P ti) (fl : FlOK) (hΓ : ∀ F s, Γ F = some s → SumOK P F s) (hmix : P.follows .mixedOrders = true) : ∀ (f : Nat) (c : Code) (E : Ex) (S : St) (a : Act) (w : World), awpC ti Γ k Λ f c E S → RelE k ρ0 G0 heap0 w0 S a w →
    c.wp P (post k ρ0 G0 heap0 w0 E) a w := by
  intro f
  induction f with
  | zero => intro c E S a w h r; exact h.elim
  | succ f ih =>
    intro c E S a w h r
    cases c with
    | skip => exact wp_skip ⟨S, h, r⟩
    | label l => exact wp_label ⟨S, h, r⟩
    | region id ops draws =>
      obtain ⟨ρ, G, r, hev⟩ := r
      refine region_ok hti fl hΓ hmix (k := E.n) r h ?_
      intro S' a' w' ρ' G' hk r' e'
      exact ⟨S', hk, ρ', G', r', hev.trans e'⟩
    | seq x y =>
      refine wp_seq (wp_mono (ih x _ S a w h r) ?_)
      intro e a' w' hq
      cases e with
      | normal => obtain ⟨S', h1, h2⟩ := hq; exact ih y E S' a' w' h1 h2
      | exit id => exact hq
      | goto l => exact hq
      | ret => exact hq
      | panic ch => exact hq.elim
      | outgrown => exact hq.elim
    | cond c x y =>
      simp only [awpC] at h
      split at h
      · rename_i b hb
        obtain ⟨ρ, G, r1, hev⟩ := r
        have hc := (eval_ok r1 c)
        rw [hb] at hc
        refine wp_cond hc.toBool ?_
        cases b with
        | true =>
          simp only [cond_true] at h
          rw [refC_same hb] at h
          exact ih x E S a w h ⟨ρ, G, r1, hev⟩
        | false =>
          simp only [cond_false] at h
          rw [refC_same hb] at h
          exact ih y E S a w h ⟨ρ, G, r1, hev⟩
      · exact h.elim
    | block id c =>
      refine wp_block (wp_mono (ih c _ S a w h r) ?_)
      intro e a' w' hq
      cases e with
      | normal => exact hq
      | exit i =>
        obtain ⟨S', h1, h2⟩ := hq
        show (if i = id then _ else _)
        simp only at h1
        by_cases e : i = id
        · subst e
          rw [Nat.beq_refl] at h1
          rw [if_pos rfl]
          exact ⟨S', h1, h2⟩
        · have : Nat.beq i id = false := by
            cases hb : Nat.beq i id with
            | false => rfl
            | true => exact absurd (Nat.eq_of_beq_eq_true hb) e
          rw [this] at h1
          rw [if_neg e]
          exact ⟨S', h1, h2⟩
      | goto l => exact hq
      | ret => exact hq
      | panic ch => exact hq.elim
      | outgrown => exact hq.elim
    | loop c =>
      simp only [awpC] at h
      split at h
      · rename_i L hL
        obtain ⟨⟨x0, hx0, hf0⟩, hstep⟩ := h
        refine wp_loop_ghost (fun n a w => ∃ x, L.inv x ∧ L.mu x = n ∧ RelE k ρ0 G0 heap0 w0 (mkS S.n k L.base (L.st x)) a w) (L.mu x0) ⟨x0, hx0, rfl, fitN_ok hf0 r⟩ ?_
        rintro n a1 w1 ⟨x, hx, rfl, hr⟩
        refine wp_mono (ih c _ _ a1 w1 (hstep x hx) hr) ?_
        intro e a' w' hq
        cases e with
        | normal =>
          obtain ⟨S', ⟨y, hy, hmu, hfit⟩, hr'⟩ := hq
          exact ⟨L.mu y, hmu, y, hy, rfl, fitN_ok hfit hr'⟩
        | exit id => exact hq
        | goto l => exact hq
        | ret => exact hq
        | panic ch => exact hq.elim
        | outgrown => exact hq.elim
      · rename_i n hL
        refine wp_loop_ghost (fun n a w => ∃ S, unrollP (awpC ti Γ k Λ f c) E n S ∧ RelE k ρ0 G0 heap0 w0 S a w) n ⟨S, h, r⟩ ?_
        rintro n a1 w1 ⟨S1, hu, hr⟩
        cases n with
        | zero => exact hu.elim
        | succ n =>
          refine wp_mono (ih c _ _ a1 w1 hu hr) ?_
          intro e a' w' hq
          cases e with
          | normal => obtain ⟨S', h1, h2⟩ := hq; exact ⟨n, Nat.lt_succ_self n, S', h1, h2⟩
          | exit id => exact hq
          | goto l => exact hq
          | ret => exact hq
          | panic ch => exact hq.elim
          | outgrown => exact hq.elim
      · exact h.elim
    | scope c =>
      simp only [awpC] at h
      split at h
      · rename_i lab L hL
        split at h
        · rename_i rest hf
          obtain ⟨h1, hstep⟩ := h
          refine wp_scope_ghost lab (fun n a w => ∃ x, L.inv x ∧ L.mu x = n ∧ RelE k ρ0 G0 heap0 w0 (mkS S.n k L.base (L.st x)) a w) hf (wp_mono (ih c _ S a w h1 r) ?_) ?_
          · intro e a' w' hq
            cases e with
            | goto l =>
              obtain ⟨S', ⟨hl, x, hx, hfit⟩, hr'⟩ := hq
              exact ⟨hl, L.mu x, x, hx, rfl, fitN_ok hfit hr'⟩
            | normal => exact hq
            | exit id => exact hq
            | ret => exact hq
            | panic ch => exact hq.elim
            | outgrown => exact hq.elim
          · rintro n a1 w1 ⟨x, hx, rfl, hr⟩
            refine wp_mono (ih rest _ _ a1 w1 (hstep x hx) hr) ?_
            intro e a' w' hq
            cases e with
            | goto l =>
              obtain ⟨S', ⟨hl, y, hy, hmu, hfit⟩, hr'⟩ := hq
              exact ⟨hl, L.mu y, hmu, y, hy, rfl, fitN_ok hfit hr'⟩
            | normal => exact hq
            | exit id => exact hq
            | ret => exact hq
            | panic ch => exact hq.elim
            | outgrown => exact hq.elim
        · exact h.elim
      · refine wp_scope_straight (wp_mono (ih c _ S a w h r) ?_)
        intro e a' w' hq
        cases e with
        | goto l => obtain ⟨_, h1, _⟩ := hq; exact h1.elim
        | normal => exact hq
        | exit id => exact hq
        | ret => exact hq
        | panic ch => exact hq.elim
        | outgrown => exact hq.elim
    | exit id => exact wp_exit ⟨S, h, r⟩
    | goto l => exact wp_goto ⟨S, h, r⟩
    | ret => exact wp_ret ⟨S, h, r⟩
    | rangeFunc f ps x y => exact h.elim
    | refuse s => exact h.elim
end
end Go.Proofs.Ytbkhhfekdpkhbaa.Ab
