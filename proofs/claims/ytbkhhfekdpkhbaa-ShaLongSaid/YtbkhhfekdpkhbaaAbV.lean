/- One operation of a region; one condition: what floats of small numbers are. -/
import Derived.Test.YtbkhhfekdpkhbaaAbU
import Derived.Orders
namespace Go.Proofs.Ytbkhhfekdpkhbaa.Ab
open Go

section
variable {P : Program} {ti : TypeId → TyI} {Γ : FuncId → Option Sum} {ρ : Nat → Hd} {G : Nat → Prop} {w : World}

theorem opV_frame {S S' : St} {d : Nat} {op : Op} {e : Eff} (h : opV ti Γ S d op = some e) (hev : ∀ x ∈ op.operands, ev S' x = ev S x) (hag : ∀ q, e.on q → S'.heap q = S.heap q) : opV ti Γ S' d op = some e := by
  have parts : ∀ (ps : Array (Nat × Operand)), (∀ x ∈ (ps.toList.map (·.2)).toArray, ev S' x = ev S x) → (ps.toList.map fun p => (p.1, ev S' p.2)) = (ps.toList.map fun p => (p.1, ev S p.2)) := by
    intro ps hp
    refine List.map_congr_left fun p hm => ?_
    rw [hp p.2 (by simp only [List.mem_toArray]; exact List.mem_map.2 ⟨p, hm, rfl⟩)]
  have args : ∀ (xs : Array Operand), (∀ x ∈ xs, ev S' x = ev S x) → xs.toList.map (ev S') = xs.toList.map (ev S) := fun xs hp => List.map_congr_left fun x hm => hp x (by simpa using hm)
  unfold opV at h ⊢
  cases op <;> simp only at h ⊢ <;> try exact h
  case move x => rw [hev x (by simp [Op.operands])]; exact h
  case assign x => rw [hev x (by simp [Op.operands])]; exact h
  case pick c a b => rw [hev c (by simp [Op.operands]), hev a (by simp [Op.operands]), hev b (by simp [Op.operands])]; exact h
  case box T x => rw [hev x (by simp [Op.operands])]; exact h
  case build T ps => rw [parts ps fun x hx => hev x (by simpa [Op.operands] using hx)]; exact h
  case buildSlice T n ps => rw [parts ps fun x hx => hev x (by simpa [Op.operands] using hx)]; exact h
  case load T x =>
    rw [hev x (by simp [Op.operands])]
    obtain ⟨hk, h1⟩ := bif_some h
    rw [hk]
    simp only [cond_true]
    have hsame : vecL ti S' T (ev S x) = vecL ti S T (ev S x) := vecL_same fun q o hq => by
      rw [hq] at h1
      split at h1
      · rename_i e' hv
        cases h1
        exact hag q (.inl (by rw [vecL_ptr hv]; simp))
      · split at h1
        · rename_i p c r hl
          cases h1
          exact hag q (.inl (by rw [loadC_ptr hl]; simp))
        · cases h1
    rw [hsame]
    split at h1
    · exact h1
    · split at h1
      · rename_i p c r hl
        cases h1
        rw [loadC_frame hl fun q hq => hag q (.inl hq)]
      · cases h1
  case store T x y =>
    rw [hev x (by simp [Op.operands]), hev y (by simp [Op.operands])]
    obtain ⟨hk, h1⟩ := bif_some h
    rw [hk]
    simp only [cond_true]
    have hput : ∀ {p : Prop} {hh : Nat} {r : Row} {k : List Nat}, (∀ q, q ∈ (k.map (fun h => (h, (none : Option Row))) ++ [(hh, some r)]).map (·.1) ↔ q ∈ k ++ [hh]) ∧ (p → p) := by
      intro p hh r k
      refine ⟨fun q => ?_, id⟩
      simp only [List.map_append, List.map_map, List.mem_append, List.map_cons, List.map_nil]
      constructor
      · rintro (hq | hq)
        · obtain ⟨z, hz, rfl⟩ := List.mem_map.1 hq; exact .inl hz
        · exact .inr hq
      · rintro (hq | hq)
        · exact .inl (List.mem_map.2 ⟨q, hq, rfl⟩)
        · exact .inr hq
    have hsame : vecS ti S' T (ev S y) (ev S x) = vecS ti S T (ev S y) (ev S x) := vecS_same fun q o hq => by
      rw [hq] at h1
      split at h1
      · rename_i e' hv
        cases h1
        exact hag q (.inr (vecS_ptr hv))
      · obtain ⟨_, h1⟩ := bif_some h1
        split at h1
        · rename_i p hh r k hs
          cases hkh : k.contains hh with
          | true => rw [hkh] at h1; cases h1
          | false =>
            rw [hkh] at h1
            simp only [cond_false] at h1
            cases h1
            exact hag q (.inr (((hput (p := True)).1 q).2 (by rw [storeC_ptr hs]; simp)))
        · cases h1
    rw [hsame]
    split at h1
    · exact h1
    · obtain ⟨hk2, h1⟩ := bif_some h1
      rw [hk2]
      simp only [cond_true]
      split at h1
      · rename_i p hh r k hs
        cases hkh : k.contains hh with
        | true => rw [hkh] at h1; cases h1
        | false =>
          rw [hkh] at h1
          simp only [cond_false] at h1
          cases h1
          rw [storeC_frame hs fun q hq => hag q (.inr (((hput (p := True)).1 q).2 hq))]
          simp only [hkh, cond_false]
      · cases h1
  case nilCheck x => rw [hev x (by simp [Op.operands])]; exact h
  case binOp op T x y _ => rw [hev x (by simp [Op.operands]), hev y (by simp [Op.operands])]; exact h
  case unOp op T x => rw [hev x (by simp [Op.operands])]; exact h
  case convert src dst x =>
    rw [hev x (by simp [Op.operands])]
    obtain ⟨hk, h1⟩ := bif_some h
    rw [hk]
    exact convV_frame h1 hag
  case slice T x lo hi mx =>
    cases mx with
    | some _ => cases h
    | none =>
      simp only at h ⊢
      rw [hev x (by simp [Op.operands])]
      have e1 : lo.map (ev S') = lo.map (ev S) := by
        cases lo with
        | none => rfl
        | some y => simp only [Option.map_some]; rw [hev y (by simp [Op.operands])]
      have e2 : hi.map (ev S') = hi.map (ev S) := by
        cases hi with
        | none => rfl
        | some y => simp only [Option.map_some]; rw [hev y (by simp [Op.operands])]
      rw [e1, e2]
      obtain ⟨hk, h1⟩ := bif_some h
      rw [hk]
      exact sliceV_frame h1 hag
  case fieldAddr T x f => rw [hev x (by simp [Op.operands])]; exact h
  case field T x f => rw [hev x (by simp [Op.operands])]; exact h
  case indexAddr T x i =>
    rw [hev x (by simp [Op.operands]), hev i (by simp [Op.operands])]
    split at h
    · obtain ⟨hk, h1⟩ := bif_some h
      rw [hk]
      exact indexA_frame h1 hag
    · cases h
  case index T x i => rw [hev x (by simp [Op.operands]), hev i (by simp [Op.operands])]; exact h
  case extract x i => rw [hev x (by simp [Op.operands])]; exact h
  case makeFunc f first caps =>
    cases f <;> simp only at h ⊢ <;> try exact h
    rw [args first fun x hx => hev x (by simp [Op.operands, hx]), args caps fun x hx => hev x (by simp [Op.operands, hx])]
    exact h
  case makeSlice T l c => rw [hev l (by simp [Op.operands]), hev c (by simp [Op.operands])]; exact h
  case call c =>
    obtain ⟨callee, as, ts⟩ := c
    have ha : ∀ x ∈ as, ev S' x = ev S x := fun x hx => hev x (by simp [Op.operands, Call.operands, hx])
    have hl : ∀ x ∈ as.toList, ev S' x = ev S x := fun x hx => ha x (by simpa using hx)
    cases callee with
    | invoke r m => exact h
    | value f =>
      simp only at h ⊢
      rw [hev f (by simp [Op.operands, Call.operands]), args as ha]
      split at h
      · exact callV_frame h hag
      · cases h
    | builtin b =>
      cases b <;> simp only at h ⊢ <;> try exact h
      case len =>
        split at h
        · rename_i x T h1 h2
          rw [hl x (by rw [h1]; simp)]
          obtain ⟨hk, h3⟩ := bif_some h
          rw [hk]
          exact lenV_frame h3 hag
        · cases h
      case append =>
        split at h
        · rename_i x y T T' h1 h2
          rw [hl x (by rw [h1]; simp), hl y (by rw [h1]; simp)]
          cases hk : (known ti T && rowT ti T') with
          | true =>
            rw [hk] at h
            exact appendV_frame h hag
          | false =>
            rw [hk] at h
            exact h
        · cases h
      case cap =>
        split at h
        · rename_i x T h1 h2
          rw [hl x (by rw [h1]; simp)]
          exact h
        · cases h
      case copy =>
        split at h
        · rename_i x y T T' h1 h2
          rw [hl x (by rw [h1]; simp), hl y (by rw [h1]; simp)]
          obtain ⟨hk, h3⟩ := bif_some h
          rw [hk]
          exact copyV_frame h3 hag
        · cases h
      all_goals (rw [args as ha]; exact h)

/-! What lies where, behind an effect. -/
theorem puts_congr : ∀ (l : List (Nat × Option Row)) (h h' : Nat → Option Row) (q : Nat), h q = h' q → puts h l q = puts h' l q
  | [], _, _, _, e => e
  | (a, r) :: l, h, h', q, e => by
    simp only [puts]
    refine puts_congr l _ _ q ?_
    by_cases c : q = a
    · subst c; rw [upd_same, upd_same]
    · rw [upd_ne _ _ _ c, upd_ne _ _ _ c]; exact e
theorem news_congr : ∀ (l : List (Nat × Row)) (h h' : Nat → Option Row) (q : Nat), h q = h' q → news h l q = news h' l q
  | [], _, _, _, e => e
  | (a, r) :: l, h, h', q, e => by
    simp only [news]
    refine news_congr l _ _ q ?_
    by_cases c : q = a
    · subst c; rw [upd_same, upd_same]
    · rw [upd_ne _ _ _ c, upd_ne _ _ _ c]; exact e

def Eff.wr (e : Eff) : List Nat := e.put.map (·.1) ++ e.new.map (·.1)
def Eff.turn (e : Eff) (heap : Nat → Option Row) : Nat → Option Row := news (puts heap e.put) e.new
theorem Eff.turn_not {e : Eff} {heap : Nat → Option Row} {q : Nat} (h : q ∉ e.wr) : e.turn heap q = heap q := by
  unfold Eff.wr at h
  simp only [List.mem_append, not_or] at h
  unfold Eff.turn
  rw [news_not _ _ _ h.2, puts_not _ _ _ h.1]
theorem Eff.turn_congr {e : Eff} {h h' : Nat → Option Row} {q : Nat} (c : h q = h' q) : e.turn h q = e.turn h' q := news_congr _ _ _ _ (puts_congr _ _ _ _ c)
theorem Eff.turn_comm {e f : Eff} (h : ∀ q ∈ e.wr, q ∉ f.wr) (heap : Nat → Option Row) : f.turn (e.turn heap) = e.turn (f.turn heap) := by
  funext q
  by_cases c : q ∈ e.wr
  · rw [Eff.turn_not (h q c)]
    exact Eff.turn_congr (Eff.turn_not (h q c)).symm
  · rw [Eff.turn_not (e := e) c]
    exact Eff.turn_congr (Eff.turn_not c)

theorem applyE_eq (S : St) (dst : Option Tmp) (e : Eff) : applyE S dst e = setT { S with heap := e.turn S.heap, used := mark S.used e.new } dst e.val := rfl

theorem setT_n (S : St) (dst : Option Tmp) (x : V) : (setT S dst x).n = S.n := by cases dst <;> rfl
theorem setT_heap (S : St) (dst : Option Tmp) (x : V) : (setT S dst x).heap = S.heap := by cases dst <;> rfl
theorem setT_used (S : St) (dst : Option Tmp) (x : V) : (setT S dst x).used = S.used := by cases dst <;> rfl
theorem setT_env (S : St) (dst : Option Tmp) (x : V) {t : Nat} (h : ∀ d, dst = some d → t ≠ d) : (setT S dst x).env t = S.env t := by
  cases dst with
  | none => rfl
  | some d => exact upd_ne _ _ _ (h d rfl)
theorem setT_ev (S : St) (dst : Option Tmp) (x : V) {o : Operand} (h : ∀ d, dst = some d → o ≠ .tmp d) : ev (setT S dst x) o = ev S o := by
  cases o with
  | tmp t => exact setT_env S dst x fun d hd e => h d hd (by rw [e])
  | const v => rfl
  | global g => rfl
  | func f => rfl

/-- One operation. -/
theorem step_ok (hti : TiOK P ti) (fl : FlOK) (hΓ : ∀ F s, Γ F = some s → SumOK P F s) {S S' : St} {a : Act} (h : Rel ρ G S a w) {o : Oper} {p : Prop} {fp : FP} (hs : stepV ti Γ o S = some (p, S', fp)) (hp : p)
    {next : Act → World → Prop} {Q : Exit → Act → World → Prop}
    (hnext : ∀ a' w' ρ' G', Rel ρ' G' S' a' w' → Evo S.used ρ G S.heap w S'.used ρ' G' S'.heap w' → next a' w') : o.wp P a w next Q := by
  unfold stepV at hs
  split at hs
  · cases hs
  · rename_i e he
    replace hs := bif_some hs; obtain ⟨hc, hs⟩ := hs
    cases hs
    simp only [Bool.and_eq_true] at hc
    obtain ⟨⟨hin, hf⟩, hlive⟩ := hc
    have after : ∀ (x : Value) (w' : World) (ρ' : Nat → Hd) (G' : Nat → Prop), HRel (mark S.used e.new) ρ' G' (news (puts S.heap e.put) e.new) w' → Rep (mark S.used e.new) ρ' G' w' e.val x →
        Evo S.used ρ G S.heap w (mark S.used e.new) ρ' G' (news (puts S.heap e.put) e.new) w' → next (a.put o.dst x) w' := by
      intro x w' ρ' G' m' r' ev'
      refine hnext _ w' ρ' G' ?_ ?_
      · unfold applyE
        constructor
        · rw [setT_n]
          cases hd : o.dst with
          | none => exact h.size
          | some d => simpa [Act.put] using h.size
        · cases hd : o.dst <;> simp [Act.put, h.defers]
        · intro t
          rw [setT_used]
          cases hd : o.dst with
          | none => exact ev'.rep h.mem (h.env t)
          | some d =>
            rw [hd] at hin
            have hlt : d < a.tmps.size := by rw [h.size]; exact lt_of_blt hin
            simp only [setT, Act.put]
            by_cases c : t = d
            · subst c
              rw [upd_same]
              simpa [hlt] using r'
            · rw [upd_ne _ _ _ c]
              have := ev'.rep h.mem (h.env t)
              simpa [Array.getElem?_setIfInBounds_ne (Ne.symm c)] using this
        · rw [setT_used, setT_heap]; exact m'
      · unfold applyE
        rw [setT_used, setT_heap]; exact ev'
    by_cases hcall : ∃ c f, o.op = .call c ∧ c.callee = .value f
    · obtain ⟨c, f, hoc, hcf⟩ := hcall
      rw [hoc] at he
      unfold opV at he
      simp only [hcf] at he
      split at he
      · rename_i F first caps hef
        have rf := eval_ok h f
        rw [hef] at rf
        cases hz : a.eval f <;> rw [hz] at rf <;> cases rf
        rename_i cs ds hl h1 hm h2
        have ra : Reps S.used ρ G w (first ++ c.args.toList.map (ev S) ++ caps) (cs ++ (c.args.map a.eval).toList ++ ds) := by
          have r1 : Reps S.used ρ G w first cs := ⟨hl, h1⟩
          have r3 : Reps S.used ρ G w caps ds := ⟨hm, h2⟩
          have app : ∀ {l l' : List V} {m m' : List Value}, Reps S.used ρ G w l m → Reps S.used ρ G w l' m' → Reps S.used ρ G w (l ++ l') (m ++ m') := by
            intro l l' m m' a b
            refine Reps.mk (by simp [a.1, b.1]) fun j c hj => ?_
            rw [List.getElem?_append] at hj
            split at hj
            · rename_i hlt
              obtain ⟨u, u1, u2⟩ := a.get hj
              exact ⟨u, by rw [List.getElem?_append_left (by rw [a.1]; exact hlt)]; exact u1, u2⟩
            · rename_i hlt
              obtain ⟨u, u1, u2⟩ := b.get hj
              exact ⟨u, by rw [List.getElem?_append_right (by rw [a.1]; omega), a.1]; exact u1, u2⟩
          exact app (app r1 (get_args h c.args)) r3
        obtain ⟨k1, k2⟩ := callV_ok (P := P) hΓ S h.mem ra he hp hf
        have hrun : (execOp a.eval o).run P w = .ok (.enter F (cs ++ (c.args.map a.eval).toList ++ ds).toArray) w := by
          unfold execOp
          have e1 : cs.toArray ++ Array.map a.eval c.args ++ ds.toArray = (cs ++ (c.args.map a.eval).toList ++ ds).toArray := by apply Array.ext'; simp
          simp only [hoc, resolve, hcf, hz, Deferred.ofValue, invoke, Sem.run_bind, Sem.run_pure, Result.andThen_ok, e1]
          exact k1
        unfold Oper.wp
        rw [hrun, Oper.upon_enter]
        refine Calls.mono k2 fun en w' hen => ?_
        cases en with
        | panicked _ => exact hen.elim
        | outgrown => exact hen.elim
        | returned v =>
          obtain ⟨ρ', G', q1, q2, q3⟩ := hen
          exact after v w' ρ' G' q1 q2 q3
      · cases he
    · obtain ⟨x, w', ρ', G', k1, k2, k3, k4⟩ := op_ok hti fl h he hp hf (fun c f hoc hcf => hcall ⟨c, f, hoc, hcf⟩)
      unfold Oper.wp
      rcases k1 with k1 | ⟨k1, rfl⟩
      · rw [k1, Oper.upon_value]; exact after x w' ρ' G' k2 k3 k4
      · rw [k1, Oper.upon_skip]; exact after _ w' ρ' G' k2 k3 k4
end
end Go.Proofs.Ytbkhhfekdpkhbaa.Ab
