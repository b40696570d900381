/- Regions, in whatever order; one condition: what floats of small numbers are. -/
import Derived.Test.YtbkhhfekdpkhbaaAbV
namespace Go.Proofs.Ytbkhhfekdpkhbaa.Ab
open Go

/-- Is the operation wanted? -/
def wantV (ops : List Oper) (o : Oper) (S : St) : Option Bool :=
  match o.guard with
  | none => some true
  | some (g, want) => match (ops[g]?).bind (·.dst) with
    | none => some false
    | some t => match S.env t with
      | .v (.bool b) => some (bif want then b else !b)
      | .v (.tuple _) => some false
      | _ => none
/-- What is known of the state where the answer is known. -/
def refineV (ops : List Oper) (o : Oper) (S : St) (c : Bool) : St :=
  match o.guard with
  | none => S
  | some (g, want) => match (ops[g]?).bind (·.dst) with
    | none => S
    | some t => match S.env t with
      | .v (.bool _) => setT S (some t) (.v (.bool (bif c then want else !want)))
      | _ => S
def skipV (o : Oper) (S : St) : Option (Prop × St × FP) := bif inT S o.dst then some (True, setT S o.dst (.v (.tuple #[])), ⟨[], []⟩) else none

section
variable (ti : TypeId → TyI) (Γ : FuncId → Option Sum)
def stepR (ops : List Oper) (o : Oper) (S : St) : Option (Prop × St × FP) :=
  match wantV ops o S with
  | none => none
  | some b => bif b then stepV ti Γ o S else skipV o S

/-- A region's operations, one by one. -/
def awpOps (ops : List Oper) : List Oper → St → List FP → (St → List FP → Prop) → Prop
  | [], S, fs, k => k S fs
  | o :: l, S, fs, k => match wantV ops o S with
    | none => False
    | some b => bif b then (match stepV ti Γ o (refineV ops o S true) with
        | none => False
        | some (p, S1, fp) => p ∧ awpOps ops l S1 (fp :: fs) k)
      else (match skipV o (refineV ops o S false) with
        | none => False
        | some (_, S1, fp) => awpOps ops l S1 (fp :: fs) k)
end

/-! Which operations may change places. -/
def maskOf (md : Region.Mode) (acc : List Nat) (o : Oper) : Nat := o.after.toList.foldl (fun m e => bif Region.binds md e then m ||| (1 <<< e.on) ||| acc.getD e.on 0 else m) 0
def masksOf (md : Region.Mode) : List Oper → List Nat → List Nat
  | [], acc => acc
  | o :: l, acc => masksOf md l (acc ++ [maskOf md acc o])
def masksOk (md : Region.Mode) (masks : List Nat) : Nat → List Oper → Bool
  | _, [] => true
  | j, o :: l => Nat.beq (masks.getD j 0) (maskOf md masks o) && o.after.toList.all (fun e => !Region.binds md e || Nat.blt e.on j) && masksOk md masks (j + 1) l
def indepB (ops : Array Oper) (y x : Nat × Oper × FP) : Bool :=
  y.2.2.w.all (fun q => !memb x.2.2.r q && !memb x.2.2.w q) && x.2.2.w.all (fun q => !memb y.2.2.r q) && y.2.1.apart ops x.2.1
def pairsB (ops : Array Oper) (masks : List Nat) : List (Nat × Oper × FP) → Bool
  | [] => true
  | y :: l => l.all (fun x => (masks.getD x.1 0).testBit y.1 || indepB ops y x) && pairsB ops masks l
def mkTr : Nat → List Oper → List FP → List (Nat × Oper × FP)
  | i, o :: l, f :: fs => (i, o, f) :: mkTr (i + 1) l fs
  | _, _, _ => []
def modeB (md : Region.Mode) (ops : Array Oper) (fs : List FP) : Bool := masksOk md (masksOf md ops.toList []) 0 ops.toList && pairsB ops (masksOf md ops.toList []) (mkTr 0 ops.toList fs)
def drawB (ops : Array Oper) (fs : List FP) : Bool := modeB .any ops fs

section
variable {P : Program} {ti : TypeId → TyI} {Γ : FuncId → Option Sum} {ρ : Nat → Hd} {G : Nat → Prop} {w : World}

/-- A row of operations, with what each turns and reads. -/
inductive Run (ti : TypeId → TyI) (Γ : FuncId → Option Sum) (ops : List Oper) : List (Nat × Oper × FP) → St → St → Prop where
  | nil (S : St) : Run ti Γ ops [] S S
  | cons {S S1 S' : St} {p : Prop} {fp : FP} {i : Nat} {o : Oper} {l : List (Nat × Oper × FP)} (h : stepR ti Γ ops o S = some (p, S1, fp)) (hp : p) (r : Run ti Γ ops l S1 S') : Run ti Γ ops ((i, o, fp) :: l) S S'

theorem refine_same {ops : List Oper} {o : Oper} {S : St} {c : Bool} (h : wantV ops o S = some c) : refineV ops o S c = S := by
  unfold wantV at h
  unfold refineV
  split at h
  · rfl
  · rename_i g want hg
    split at h
    · rfl
    · rename_i t ht
      split at h
      · rename_i b hb
        cases h
        rw [hb]
        simp only
        have e : (bif (bif want then b else !b) then want else !want) = b := by cases want <;> cases b <;> rfl
        rw [e, ← hb]
        simp only [setT, upd_self]
      · rename_i hb; rw [hb]
      · cases h

theorem awpOps_run (ops : List Oper) : ∀ (l : List Oper) (i : Nat) (S : St) (fs : List FP) (k : St → List FP → Prop), awpOps ti Γ ops l S fs k →
    ∃ fps S', fps.length = l.length ∧ Run ti Γ ops (mkTr i l fps) S S' ∧ k S' (fps.reverse ++ fs) := by
  intro l
  induction l with
  | nil => intro i S fs k h; exact ⟨[], S, rfl, .nil S, h⟩
  | cons o l ih =>
    intro i S fs k h
    simp only [awpOps] at h
    split at h
    · exact h.elim
    · rename_i b hb
      cases b with
      | true =>
        simp only [cond_true] at h
        rw [refine_same hb] at h
        split at h
        · exact h.elim
        · rename_i p S1 fp hs
          obtain ⟨hp, h⟩ := h
          obtain ⟨fps, S', h1, h2, h3⟩ := ih (i + 1) S1 (fp :: fs) k h
          refine ⟨fp :: fps, S', by simp [h1], .cons (p := p) ?_ hp h2, by simpa using h3⟩
          unfold stepR
          rw [hb]
          exact hs
      | false =>
        simp only [cond_false] at h
        rw [refine_same hb] at h
        split at h
        · exact h.elim
        · rename_i p S1 fp hs
          obtain ⟨fps, S', h1, h2, h3⟩ := ih (i + 1) S1 (fp :: fs) k h
          have hp : p := by
            unfold skipV at hs
            replace hs := (bif_some hs).2
            cases hs; exact trivial
          refine ⟨fp :: fps, S', by simp [h1], .cons (p := p) ?_ hp h2, by simpa using h3⟩
          unfold stepR
          rw [hb]
          exact hs

/-- One operation, wanted or not. -/
theorem stepR_ok (hti : TiOK P ti) (fl : FlOK) (hΓ : ∀ F s, Γ F = some s → SumOK P F s) {ops : Array Oper} {S S' : St} {a : Act} (h : Rel ρ G S a w) {i : Nat} {o : Oper} (hi : ops[i]? = some o) {p : Prop} {fp : FP}
    (hs : stepR ti Γ ops.toList o S = some (p, S', fp)) (hp : p) {K : Act → World → Prop} {Q : Exit → Act → World → Prop}
    (hnext : ∀ a' w' ρ' G', Rel ρ' G' S' a' w' → Evo S.used ρ G S.heap w S'.used ρ' G' S'.heap w' → K a' w') : wpOp P ops Q i K a w := by
  unfold stepR at hs
  split at hs
  · cases hs
  · rename_i b hb
    have hw : Region.wanted o (yielded ops a.tmps) = b := by
      unfold wantV at hb
      unfold Region.wanted
      split at hb
      · rename_i hg; cases hb; rw [hg]
      · rename_i g want hg
        rw [hg]
        simp only [Array.getElem?_toList] at hb
        unfold yielded
        split at hb
        · rename_i ht; cases hb; simp [ht]
        · rename_i t ht
          have hr := h.env t
          split at hb
          · rename_i c hc
            rw [hc] at hr
            have hv := hr.toBool
            have ht2 : a.tmps[t]? = some (.bool c) := by
              cases hx : a.tmps[t]? with
              | none => rw [Array.getD_eq_getD_getElem?, hx] at hv; cases hv
              | some v => rw [Array.getD_eq_getD_getElem?, hx] at hv; simp at hv; rw [hv]
            cases hb
            simp only [ht, Option.bind_some, ht2]
            cases c <;> cases want <;> rfl
          · rename_i xs hc
            rw [hc] at hr
            cases hb
            simp only [ht, Option.bind_some]
            generalize hz : a.tmps.getD t undef = z at hr
            cases hr
            cases hx : a.tmps[t]? with
            | none => simp
            | some v =>
              rw [Array.getD_eq_getD_getElem?, hx] at hz
              simp at hz
              subst hz
              simp
          · cases hb
    unfold wpOp
    simp only [hi]
    rw [hw]
    cases b with
    | true =>
      simp only [cond_true] at hs
      rw [if_pos rfl]
      exact .inl (step_ok hti fl hΓ h hs hp hnext)
    | false =>
      simp only [cond_false] at hs
      rw [if_neg (by simp)]
      unfold skipV at hs
      obtain ⟨_, hs⟩ := bif_some hs
      cases hs
      refine hnext _ w ρ G ?_ ?_
      · constructor
        · rw [setT_n]
          cases hd : o.dst with
          | none => exact h.size
          | some d => simpa [Act.put] using h.size
        · cases hd : o.dst <;> simp [Act.put, h.defers]
        · intro t
          rw [setT_used]
          cases hd : o.dst with
          | none => exact h.env t
          | some d =>
            simp only [setT, Act.put]
            by_cases c : t = d
            · subst c
              rw [upd_same]
              have : (a.tmps.setIfInBounds t undef).getD t undef = undef := by
                by_cases hlt : t < a.tmps.size
                · simp [hlt]
                · simp [hlt]
              rw [this]
              exact .v _
            · rw [upd_ne _ _ _ c]
              have := h.env t
              simpa [Array.getElem?_setIfInBounds_ne (Ne.symm c)] using this
        · rw [setT_used, setT_heap]; exact h.mem
      · rw [setT_used, setT_heap]; exact Evo.refl _ _ _ _ _

/-! Two that change places. -/
theorem want_frame {ops : List Oper} {o : Oper} {S : St} {dst : Option Tmp} {x : V} {S' : St} (he : S'.env = (setT S dst x).env) (h : ∀ d g c, dst = some d → o.guard = some (g, c) → (ops[g]?).bind (·.dst) ≠ some d) : wantV ops o S' = wantV ops o S := by
  unfold wantV
  split
  · rfl
  · rename_i g want hg
    split
    · rfl
    · rename_i t ht
      have : S'.env t = S.env t := by
        rw [he]
        exact setT_env S dst x fun d hd e => h d g want hd hg (by rw [ht, e])
      rw [this]

/-- What one operation does to the state. -/
structure Stp1 (S S1 : St) (o : Oper) (fp : FP) where
  e : Eff
  n : S1.n = S.n
  heap : S1.heap = e.turn S.heap
  used : S1.used = mark S.used e.new
  env : S1.env = (setT S o.dst e.val).env
  w : fp.w = e.wr
  r : fp.r = e.rd

theorem St.eq {S S' : St} (h1 : S.n = S'.n) (h2 : S.env = S'.env) (h3 : S.heap = S'.heap) (h4 : S.used = S'.used) : S = S' := by
  cases S; cases S'; simp_all

theorem mark_comm (l m : List (Nat × Row)) (K : Nat → Bool) : mark (mark K l) m = mark (mark K m) l := by
  funext h
  rw [Bool.eq_iff_iff, mark_iff, mark_iff, mark_iff, mark_iff]
  constructor <;> (rintro ((h | h) | h) <;> simp [h])

theorem setT_comm (S : St) {x y : Option Tmp} (u v : V) (h : ∀ d, x = some d → y ≠ some d) (S1 S2 : St) (h1 : S1.env = (setT S x u).env) (h2 : S2.env = (setT S y v).env) : (setT S1 y v).env = (setT S2 x u).env := by
  funext t
  cases x with
  | none =>
    cases y with
    | none => simp only [setT] at *; rw [h1, h2]
    | some d => simp only [setT] at *; rw [h1, h2]
  | some c =>
    cases y with
    | none => simp only [setT] at *; rw [h1, h2]
    | some d =>
      have hne : c ≠ d := fun e => h c rfl (by rw [e])
      simp only [setT] at *
      rw [h1, h2]
      by_cases e : t = d
      · subst e
        rw [upd_same, upd_ne _ _ _ (Ne.symm hne), upd_same]
      · rw [upd_ne _ _ _ e]
        by_cases e' : t = c
        · subst e'; rw [upd_same, upd_same]
        · rw [upd_ne _ _ _ e', upd_ne _ _ _ e', upd_ne _ _ _ e]

/-- An operation in another state that is alike where it looks. -/
theorem stepR_move {ops : Array Oper} {o : Oper} {S T : St} {p : Prop} {S1 : St} {fp : FP} (h : stepR ti Γ ops.toList o S = some (p, S1, fp)) (hw : wantV ops.toList o T = wantV ops.toList o S) (hn : T.n = S.n)
    (hev : ∀ x ∈ o.op.operands, ev T x = ev S x) (hag : ∀ q, q ∈ fp.r ∨ q ∈ fp.w → T.heap q = S.heap q) (hu : ∀ q ∈ fp.w, S.used q = false → T.used q = false) :
    ∃ e : Eff, (fp.w = e.wr ∧ fp.r = e.rd) ∧ S1 = setT { S with heap := e.turn S.heap, used := mark S.used e.new } o.dst e.val ∧
      stepR ti Γ ops.toList o T = some (p, setT { T with heap := e.turn T.heap, used := mark T.used e.new } o.dst e.val, fp) := by
  unfold stepR at h ⊢
  rw [hw]
  split at h
  · cases h
  · rename_i b hb
    cases b with
    | true =>
      simp only [cond_true] at h ⊢
      unfold stepV at h ⊢
      split at h
      · cases h
      · rename_i e he
        obtain ⟨hc, h1⟩ := bif_some h
        cases h1
        simp only [Bool.and_eq_true] at hc
        obtain ⟨⟨c1, c2⟩, c3⟩ := hc
        have hon : ∀ q, e.on q → T.heap q = S.heap q := by
          intro q hq
          rcases hq with hq | hq
          · exact hag q (.inl hq)
          · exact hag q (.inr (List.mem_append_left _ hq))
        refine ⟨e, ⟨rfl, rfl⟩, rfl, ?_⟩
        rw [opV_frame he hev hon]
        have d1 : inT T o.dst = true := by
          unfold inT at c1 ⊢
          cases hd : o.dst with
          | none => rfl
          | some d => rw [hd] at c1; rw [hn]; exact c1
        have d2 : fresh T.used e.new = true := by
          rw [fresh_iff] at c2 ⊢
          exact ⟨fun q hq => hu q (List.mem_append_right _ hq) (c2.1 q hq), c2.2⟩
        have d3 : live T.heap e.put = true := by
          have : ∀ (l : List (Nat × Option Row)), (∀ q ∈ l.map (·.1), T.heap q = S.heap q) → live S.heap l = true → live T.heap l = true := by
            intro l
            induction l with
            | nil => intro _ _; rfl
            | cons x l ih =>
              intro hx hl
              simp only [live, Bool.and_eq_true] at hl ⊢
              exact ⟨by rw [hx x.1 (by simp)]; exact hl.1, ih (fun q hq => hx q (by simp only [List.map_cons, List.mem_cons]; exact .inr hq)) hl.2⟩
          exact this _ (fun q hq => hag q (.inr (List.mem_append_left _ hq))) c3
        simp only [d1, d2, d3, Bool.and_self, cond_true]
        rfl
    | false =>
      simp only [cond_false] at h ⊢
      unfold skipV at h ⊢
      obtain ⟨hc, h1⟩ := bif_some h
      cases h1
      refine ⟨{ need := True, val := .v (.tuple #[]) }, ⟨rfl, rfl⟩, rfl, ?_⟩
      have d1 : inT T o.dst = true := by
        unfold inT at hc ⊢
        cases hd : o.dst with
        | none => rfl
        | some d => rw [hd] at hc; rw [hn]; exact hc
      rw [d1]
      rfl

theorem guard_looks {ops : Array Oper} {o : Oper} {g : Nat} {c : Bool} {d : Nat} (hg : o.guard = some (g, c)) (hd : (ops.toList[g]?).bind (·.dst) = some d) : d ∈ o.looksAt ops := by
  unfold Oper.looksAt
  rw [hg]
  refine List.mem_append_right _ ?_
  rw [Array.getElem?_toList] at hd
  simp only [hd, Option.toList_some, List.mem_singleton]
theorem operand_looks {ops : Array Oper} {o : Oper} {d : Nat} (h : Operand.tmp d ∈ o.op.operands) : d ∈ o.looksAt ops := by
  unfold Oper.looksAt
  refine List.mem_append_left _ (List.mem_filterMap.2 ⟨.tmp d, by simpa using h, rfl⟩)

theorem Run.swap {ops : Array Oper} {y x : Nat × Oper × FP} {l : List (Nat × Oper × FP)} {S S' : St} (r : Run ti Γ ops.toList (y :: x :: l) S S') (hi : indepB ops y x = true) : Run ti Γ ops.toList (x :: y :: l) S S' := by
  obtain ⟨iy, oy, fy⟩ := y
  obtain ⟨ix, ox, fx⟩ := x
  cases r with
  | cons hy py r1 =>
    cases r1 with
    | cons hx px r2 =>
      rename_i S1 p1 S2 p2
      unfold indepB at hi
      simp only [Bool.and_eq_true, List.all_eq_true, Bool.not_eq_true', ← Bool.not_eq_true, memb_iff] at hi
      obtain ⟨⟨i1, i2⟩, i3⟩ := hi
      obtain ⟨a1, a2, a3⟩ := Oper.apart_spec i3
      -- the first one's effect
      obtain ⟨ey, ⟨hyw, hyr⟩, hyS, _⟩ := stepR_move hy rfl rfl (fun _ _ => rfl) (fun _ _ => rfl) (fun _ _ h => h)
      -- the second one ahead of it
      have hxT := stepR_move (T := S) hx
        (by
          rw [hyS]
          exact (want_frame (S := S) (dst := oy.dst) (x := ey.val) (by cases oy.dst <;> rfl) (fun d g c hd hg he => a1 d hd (guard_looks hg he))).symm)
        (by rw [hyS, setT_n])
        (fun z hz => by
          rw [hyS, setT_ev _ _ _ fun d hd e => a1 d hd (operand_looks (e ▸ hz))]
          cases z <;> rfl)
        (fun q hq => by
          rw [hyS, setT_heap]
          refine (Eff.turn_not ?_).symm
          intro hm
          rw [← hyw] at hm
          rcases hq with hq | hq
          · exact (i1 q hm).1 hq
          · exact (i1 q hm).2 hq)
        (fun q hq hf => by
          rw [hyS, setT_used] at hf
          cases hS : S.used q with
          | false => rfl
          | true =>
            have h1 : mark S.used ey.new q = true := (mark_iff _ _ _).2 (.inl hS)
            have h2 : mark S.used ey.new q = false := hf
            rw [h1] at h2; cases h2)
      obtain ⟨ex, ⟨hxw, hxr⟩, hxS, hxT⟩ := hxT
      generalize hT1 : setT { S with heap := ex.turn S.heap, used := mark S.used ex.new } ox.dst ex.val = T1 at hxT
      have hyT := stepR_move (T := T1) hy
        (by
          rw [← hT1]
          exact want_frame (S := S) (dst := ox.dst) (x := ex.val) (by cases ox.dst <;> rfl) (fun d g c hd hg he => a3 d hd (guard_looks hg he)))
        (by rw [← hT1, setT_n])
        (fun z hz => by
          rw [← hT1, setT_ev _ _ _ fun d hd e => a3 d hd (operand_looks (e ▸ hz))]
          cases z <;> rfl)
        (fun q hq => by
          rw [← hT1, setT_heap]
          refine Eff.turn_not ?_
          intro hm
          rw [← hxw] at hm
          rcases hq with hq | hq
          · exact i2 q hm hq
          · exact (i1 q hq).2 hm)
        (fun q hq hf => by
          rw [← hT1, setT_used]
          show mark S.used ex.new q = false
          cases hm : mark S.used ex.new q with
          | false => rfl
          | true =>
            rcases (mark_iff _ _ _).1 hm with hm | hm
            · rw [hf] at hm; cases hm
            · exact absurd (by rw [hxw]; exact List.mem_append_right _ hm) (i1 q hq).2)
      obtain ⟨ey', ⟨hyw', hyr'⟩, hyS', hyT⟩ := hyT
      refine .cons hxT px (.cons hyT py ?_)
      have heq : setT { T1 with heap := ey'.turn T1.heap, used := mark T1.used ey'.new } oy.dst ey'.val = S2 := by
        rw [hxS]
        refine St.eq ?_ ?_ ?_ ?_
        · rw [setT_n, setT_n]
          show T1.n = S1.n
          rw [← hT1, hyS', setT_n, setT_n]
        · refine (setT_comm S ey'.val ex.val (fun d hd => a2 d hd) _ _ ?_ ?_).symm
          · show S1.env = _
            rw [hyS']
            cases oy.dst <;> rfl
          · show T1.env = _
            rw [← hT1]
            cases ox.dst <;> rfl
        · rw [setT_heap, setT_heap]
          show ey'.turn T1.heap = ex.turn S1.heap
          rw [← hT1, hyS', setT_heap, setT_heap]
          refine (Eff.turn_comm (e := ey') (f := ex) (fun q hq hm => ?_) S.heap).symm
          rw [← hyw'] at hq
          rw [← hxw] at hm
          exact (i1 q hq).2 hm
        · rw [setT_used, setT_used]
          show mark T1.used ey'.new = mark S1.used ex.new
          rw [← hT1, hyS', setT_used, setT_used]
          exact mark_comm _ _ _
      rw [heq]
      exact r2

theorem Run.front {ops : Array Oper} {x : Nat × Oper × FP} : ∀ (l1 l2 : List (Nat × Oper × FP)) (S S' : St), Run ti Γ ops.toList (l1 ++ x :: l2) S S' → (∀ y ∈ l1, indepB ops y x = true) → Run ti Γ ops.toList (x :: (l1 ++ l2)) S S'
  | [], l2, S, S', r, _ => r
  | y :: l1, l2, S, S', r, h => by
    refine Run.swap ?_ (h y (by simp))
    simp only [List.cons_append] at r
    cases r with
    | cons hy py r1 => exact .cons hy py (Run.front l1 l2 _ _ r1 fun z hz => h z (by simp [hz]))
end
end Go.Proofs.Ytbkhhfekdpkhbaa.Ab
