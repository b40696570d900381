/- What operations that are no calls of functions do; one condition: what floats of small numbers are. -/
import Derived.Test.YtbkhhfekdpkhbaaAbQ
import Derived.Calls
namespace Go.Proofs.Ytbkhhfekdpkhbaa.Ab
open Go

section
variable {P : Program} {ti : TypeId → TyI} {Γ : FuncId → Option Sum} {K : Nat → Bool} {ρ : Nat → Hd} {G : Nat → Prop} {heap : Nat → Option Row} {w : World}

theorem eval_ok {S : St} {a : Act} (h : Rel ρ G S a w) (x : Operand) : Rep S.used ρ G w (ev S x) (a.eval x) := by
  cases x with
  | tmp t => exact h.env t
  | const v => exact .v v
  | global g => exact .any _
  | func f => exact .fn (.func f) [] [] [] [] rfl rfl (fun j c h => by simp at h) (fun j c h => by simp at h)

theorem evals_ok {S : St} {a : Act} (h : Rel ρ G S a w) (xs : List Operand) : Reps S.used ρ G w (xs.map (ev S)) (xs.map a.eval) := by
  refine Reps.mk (by simp) fun j c hc => ?_
  rw [List.getElem?_map] at hc
  cases hx : xs[j]? with
  | none => rw [hx] at hc; cases hc
  | some x => rw [hx] at hc; cases hc; exact ⟨a.eval x, by rw [List.getElem?_map, hx]; rfl, eval_ok h x⟩

/-- What comes next. -/
def OkN (P : Program) (K : Nat → Bool) (ρ : Nat → Hd) (G : Nat → Prop) (heap : Nat → Option Row) (w : World) (e : Eff) (s : Sem Next) : Prop :=
  ∃ x w' ρ' G', (s.run P w = .ok (.value x) w' ∨ (s.run P w = .ok .skip w' ∧ x = undef)) ∧ HRel (mark K e.new) ρ' G' (news (puts heap e.put) e.new) w' ∧ Rep (mark K e.new) ρ' G' w' e.val x ∧
    Evo K ρ G heap w (mark K e.new) ρ' G' (news (puts heap e.put) e.new) w'

theorem okNext {e : Eff} {s : Sem Value} (h : Ok P K ρ G heap w e s) : OkN P K ρ G heap w e (do pure (Next.value (← s))) := by
  obtain ⟨x, w', ρ', G', h1, h2⟩ := h
  exact ⟨x, w', ρ', G', .inl (by simp [h1]), h2⟩

theorem opt_rel {S : St} {a : Act} (h : Rel ρ G S a w) (x : Option Operand) : match x.map (ev S), x.map a.eval with
      | none, none => True
      | some x, some u => Rep S.used ρ G w x u
      | _, _ => False := by
  cases x with
  | none => exact trivial
  | some x => exact eval_ok h x

theorem minmax_ok {x y : V} {u v : Value} (rx : Rep K ρ G w x u) (ry : Rep K ρ G w y v) {T : TypeId} {ts : Array TypeId} {e : Eff} :
    (minV [x, y] = some e → e.plain ∧ ∃ z, (Builtin.min_ ts T #[u, v]).run P w = .ok z w ∧ Rep K ρ G w e.val z) ∧
    (maxV [x, y] = some e → e.plain ∧ ∃ z, (Builtin.max_ ts T #[u, v]).run P w = .ok z w ∧ Rep K ρ G w e.val z) := by
  constructor
  · intro h
    unfold minV at h
    split at h
    · rename_i k a k' b heq
      split at h
      · rename_i hk
        subst hk
        simp only [Eff.pure] at h; cases h
        simp only [List.cons.injEq, and_true] at heq
        obtain ⟨rfl, rfl⟩ := heq
        cases rx; cases ry
        refine ⟨⟨rfl, rfl⟩, _, ?_, .v _⟩
        simp [Builtin.min_, Builtin.min2]
      · cases h
    · cases h
  · intro h
    unfold maxV at h
    split at h
    · rename_i k a k' b heq
      split at h
      · rename_i hk
        subst hk
        simp only [Eff.pure] at h; cases h
        simp only [List.cons.injEq, and_true] at heq
        obtain ⟨rfl, rfl⟩ := heq
        cases rx; cases ry
        refine ⟨⟨rfl, rfl⟩, _, ?_, .v _⟩
        simp [Builtin.max_, Builtin.max2]
      · cases h
    · cases h

/-! What is made is named by where it goes. -/
theorem fresh_new {d : Nat} {r : Row} {l : List (Nat × Row)} (h : l = [(d, r)]) (hf : fresh K l = true) : K d = false := by
  subst h; simpa [fresh] using hf
theorem alloc_new {d : Nat} {T : TypeId} {e : Eff} (h : allocV ti d T = some e) : ∃ r, e.new = [(d, r)] := by
  unfold allocV at h
  split at h
  · split at h
    · rename_i t _
      cases hb : Nat.beq t.size 1 <;> simp only [hb, cond_true, cond_false] at h <;> (cases h; exact ⟨_, rfl⟩)
    · cases h; exact ⟨_, rfl⟩
  · cases h; exact ⟨_, rfl⟩
theorem box_new {d : Nat} {T : TypeId} {x : V} {e : Eff} (h : boxV ti d T x = some e) : ∃ r, e.new = [(d, r)] := by
  unfold boxV at h
  split at h
  · cases h; exact ⟨_, rfl⟩
  · cases h
theorem buildS_new {d : Nat} {T : TypeId} {n : Nat} {ps : List (Nat × V)} {e : Eff} (h : buildS ti d T n ps = some e) : ∃ r, e.new = [(d, r)] := by
  unfold buildS at h
  split at h
  · split at h
    · replace h := (bif_some h).2; cases h; exact ⟨_, rfl⟩
    · cases h
  · cases h
theorem make_new {d : Nat} {T : TypeId} {l c : Int} {e : Eff} (h : makeV ti d T l c = some e) : ∃ r, e.new = [(d, r)] := by
  unfold makeV at h
  split at h
  · split at h
    · replace h := (bif_some h).2; cases h; exact ⟨_, rfl⟩
    · cases h
  · cases h
theorem append_new {S : St} {d : Nat} {T : TypeId} {x y : V} {e : Eff} (h : appendV ti S d T x y = some e) : ∃ r, e.new = [(d, r)] := by
  unfold appendV at h
  split at h
  · split at h
    · replace h := (bif_some h).2
      split at h
      · replace h := (bif_some h).2; cases h; exact ⟨_, rfl⟩
      · cases h
    · cases h
  · cases h

theorem appendZ_new {d : Nat} {T : TypeId} {x y : V} {e : Eff} (h : appendZ ti d T x y = some e) : ∃ r, e.new = [(d, r)] := by
  unfold appendZ at h
  split at h
  · split at h
    · replace h := (bif_some h).2
      split at h
      · cases h; exact ⟨_, rfl⟩
      · cases h
    · cases h
  · cases h

theorem OkN.plain {e : Eff} (m : HRel K ρ G heap w) (h : e.plain) {s : Sem Next} {z : Value} (hs : s.run P w = .ok (.value z) w) (hz : Rep K ρ G w e.val z) : OkN P K ρ G heap w e s := by
  obtain ⟨e1, e2⟩ := h
  refine ⟨z, w, ρ, G, .inl hs, ?_, ?_, ?_⟩ <;> rw [e2] <;> simp only [mark] <;> try exact hz
  · rw [e1]; exact m
  · rw [e1]; exact Evo.refl _ _ _ _ _

theorem get_args {S : St} {a : Act} (h : Rel ρ G S a w) (xs : Array Operand) : Reps S.used ρ G w (xs.toList.map (ev S)) (xs.map a.eval).toList := by
  have := evals_ok h xs.toList
  simpa using this

/-! Whole arrays. -/
theorem castL_eq {t t' : DT} {xs : List t'.T} {ys : List t.T} (h : castL t t' xs = some ys) : ∃ e : t' = t, ys = e ▸ xs := by
  unfold castL at h
  cases t <;> cases t' <;> simp only at h <;> try (cases h; done)
  all_goals first
    | (cases h; exact ⟨rfl, rfl⟩)
    | (split at h
       · rename_i e; subst e; cases h; exact ⟨rfl, rfl⟩
       · cases h)

theorem vecL_ok (hti : TiOK P ti) (S : St) (m : HRel K ρ G S.heap w) {T : TypeId} (hk : known ti T = true) {x : V} {u : Value} (r : Rep K ρ G w x u) {e : Eff} (h : vecL ti S T x = some e) (hn : e.need) :
    e.plain ∧ ∃ z, (Instr.loadAt T u).run P w = .ok z w ∧ Rep K ρ G w e.val z := by
  unfold vecL at h
  split at h
  · rename_i hh off
    split at h
    · rename_i el t xs hr
      split at h
      · rename_i n el' hkk
        obtain ⟨hc, h1⟩ := bif_some h
        cases h1
        have hl : loadC ti S T (.ptr hh off) = some (xs.length = n, (List.range n).flatMap fun i => enc t (xs.getD i t.dflt), [hh]) := by
          simp only [loadC, hr, hkk, hc, cond_true]
        obtain ⟨b, o, hx, hlen, us, hus, hcs⟩ := loadC_at hti S m hk r hl hn
        have hrun := run_loadAt (hti T hk) b o us (by rw [hus.1, hlen]) hcs
        have hv : valOf ti T us = .agg us.toArray := by unfold valOf aggT; rw [hkk]; rfl
        rw [hv] at hrun
        refine ⟨⟨rfl, rfl⟩, .agg us.toArray, by rw [hx]; exact hrun, .vec t n xs us hn ?_ (fun q hq j c hc' => ?_)⟩
        · rw [hus.1, flat_length, List.length_range]
        · have hj : j < t.size := by have := (List.getElem?_eq_some_iff.1 hc').1; rwa [enc_length] at this
          have hn' : xs.length = n := hn
          have hat := flat_at (t := t) (xs := xs) (n := n) 0 q j (Nat.zero_le _) (by omega) hj
          rw [Nat.sub_zero, Nat.sub_zero, ← List.range_eq_range'] at hat
          have hd : xs.getD q t.dflt = xs[q] := by simp [List.getD, hq]
          rw [hd, hc'] at hat
          exact hus.2 _ _ hat
      · cases h
    · cases h
  · cases h

theorem vec_one {t : DT} {n : Nat} {ys : List t.T} {cs : List Value} (hl : ys.length = n) (hs : cs.length = n * t.size)
    (hr : ∀ q (hq : q < ys.length) j c, (enc t ys[q])[j]? = some c → Rep K ρ G w c (cs.getD (q * t.size + j) default)) : ∀ v ∈ cs, v.oneCell' = true := by
  intro u hu
  obtain ⟨k, hk1, hk2⟩ := List.getElem_of_mem hu
  have hpos := dt_pos t
  have hq : k / t.size < ys.length := Nat.div_lt_of_lt_mul (by rw [Nat.mul_comm, hl]; omega)
  have hr' : k % t.size < t.size := Nat.mod_lt _ hpos
  have hc0 : (enc t ys[k / t.size])[k % t.size]? = some ((enc t ys[k / t.size])[k % t.size]'(by rw [enc_length]; exact hr')) := by rw [List.getElem?_eq_getElem]
  have h2 := hr _ hq _ _ hc0
  rw [Nat.mul_comm, Nat.div_add_mod] at h2
  have : cs.getD k default = u := by simp [List.getD, hk1, hk2]
  rw [this] at h2
  exact one_of_enc hc0 h2

theorem vecS_ok (hti : TiOK P ti) (S : St) (m : HRel K ρ G S.heap w) {T : TypeId} (hk : known ti T = true) {x a : V} {u v : Value} (rx : Rep K ρ G w x u) (ra : Rep K ρ G w a v) {e : Eff} (h : vecS ti S T x a = some e) (hn : e.need) :
    ∃ hh row w', e.put = [(hh, some row)] ∧ e.new = [] ∧ e.val = .any ∧ (Instr.storeAt T v u).run P w = .ok () w' ∧ HRel K ρ G (upd S.heap hh (some row)) w' ∧ Evo K ρ G S.heap w K ρ G (upd S.heap hh (some row)) w' := by
  unfold vecS at h
  split at h
  · rename_i t n ys hh off
    split at h
    · rename_i el t' xs hr
      split at h
      · rename_i zs hc
        obtain ⟨hb, h1⟩ := bif_some h
        cases h1
        simp only [Bool.and_eq_true] at hb
        have h0 := Nat.eq_of_beq_eq_true hb.1
        have hsz := Nat.eq_of_beq_eq_true hb.2
        subst h0
        obtain ⟨et, hz⟩ := castL_eq hc
        subst et
        simp only at hz
        subst hz
        obtain ⟨hnil, htot, cs, fz, hbk, hcl, hcs, hel⟩ := (m.row hh _ hr).2.1
        have hn' : xs.length = n := hn
        cases rx with
        | vec _ _ _ us hl hs hrv =>
          cases ra with
          | ptr _ _ hk1 hn1 =>
            have e1 : (Value.agg us.toArray).cells = us.toArray := rfl
            have hlen : us.length = cs.size := by rw [hs, hcs, hn']
            have hrow : RowRep K ρ G (w.setRow (ρ hh).b (cs.toList.take 0 ++ (Value.agg us.toArray).cells.toList ++ cs.toList.drop (0 + (Value.agg us.toArray).cells.toList.length)).toArray) hh (.arr el t zs) := by
              have e2 : (cs.toList.take 0 ++ (Value.agg us.toArray).cells.toList ++ cs.toList.drop (0 + (Value.agg us.toArray).cells.toList.length)).toArray = us.toArray := by
                rw [e1]
                simp only [List.take_zero, List.nil_append, Nat.zero_add]
                rw [List.drop_of_length_le (by simp [hlen])]
                simp
              rw [e2]
              refine ⟨hnil, by rw [htot, hn', hl], us.toArray, fz, setRow_heap w _ cs _ el fz hbk, by rw [List.size_toArray, hlen]; exact hcl, by rw [List.size_toArray, hs, hl], fun q hq j c hc' => ?_⟩
              have hj : j < t.size := by have := (List.getElem?_eq_some_iff.1 hc').1; rwa [enc_length] at this
              have hlt : q * t.size + j < us.length := by
                rw [hs]
                have : (q + 1) * t.size ≤ n * t.size := Nat.mul_le_mul_right _ (by omega)
                rw [Nat.add_mul, Nat.one_mul] at this; omega
              have := hrv q hq j c hc'
              refine ⟨us[q * t.size + j], by simp [hlt], ?_⟩
              have e3 : us.getD (q * t.size + j) default = us[q * t.size + j] := by simp [List.getD, hlt]
              rw [e3] at this
              exact this.mono (fun _ h => ⟨h, rfl⟩) (fun _ h => h) (HRel.keepsG m hr hnil _)
            obtain ⟨w', s1, s2, s3⟩ := store_turn m (hti T hk) hr hnil hbk hcl (y := .agg us.toArray) (o := 0) (by rw [e1, List.size_toArray, hs, hsz]) (by rw [e1, List.size_toArray, hlen]; omega) (by rw [e1]; exact vec_one hl hs hrv) hrow
            exact ⟨hh, _, w', rfl, rfl, rfl, s1, s2, s3⟩
      · cases h
    · cases h
  · cases h

theorem vecB_ok (m : HRel K ρ G heap w) {d : Nat} {T : TypeId} {x : V} {u : Value} (r : Rep K ρ G w x u) {e : Eff} (h : vecB ti d T x = some e) (hf : fresh K e.new = true) : Ok P K ρ G heap w e (Instr.box T u) := by
  unfold vecB at h
  split at h
  · rename_i t n ys
    split at h
    · rename_i n' el hkk
      split at h
      · rename_i t' ht
        split at h
        · rename_i zs hc
          obtain ⟨hb, h1⟩ := bif_some h
          cases h1
          have hK : K d = false := by simpa [fresh] using hf
          obtain ⟨et, hz⟩ := castL_eq hc
          subst et
          simp only at hz
          subst hz
          cases r with
          | vec _ _ _ us hl hs hrv =>
            refine Ok.made m rfl rfl hK (Ext.alloc w (.cells us.toArray T)) ⟨w.heap.size, us.length, 0, 0, false⟩ (fun _ => ⟨Nat.le_refl _, by simp⟩) ?_ (z := .pointer (some ⟨w.heap.size, 0, none⟩)) ?_ ?_
            · simp only [RowRep, upd_same]
              refine ⟨trivial, by rw [hs, hl], us.toArray, (0, 0), heap_alloc_at _ _, clear0 _, by rw [List.size_toArray, hs, hl], fun q hq j c hc' => ?_⟩
              have hj : j < t.size := by have := (List.getElem?_eq_some_iff.1 hc').1; rwa [enc_length] at this
              have hlt : q * t.size + j < us.length := by
                rw [hs]
                have : (q + 1) * t.size ≤ n * t.size := Nat.mul_le_mul_right _ (by omega)
                rw [Nat.add_mul, Nat.one_mul] at this; omega
              have := hrv q hq j c hc'
              refine ⟨us[q * t.size + j], by simp [hlt], ?_⟩
              have e3 : us.getD (q * t.size + j) default = us[q * t.size + j] := by simp [List.getD, hlt]
              rw [e3] at this
              exact this.mono (mono_new hK) (fun _ h => h) (fun b hb => RowKit.Below.heap_alloc _ _ _ (m.old b hb))
            · simp [Instr.box, newVar, newRow, Value.cells]
            · have := Rep.ptr (K := upd K d true) (ρ := upd ρ d ⟨w.heap.size, us.length, 0, 0, false⟩) (G := G) (w := w.alloc (.cells us.toArray T)) d 0 (by rw [upd_same]) (by rw [upd_same])
              rwa [upd_same] at this
        · cases h
      · cases h
    · cases h
  · cases h

theorem vecI_ok (hti : TiOK P ti) (m : HRel K ρ G heap w) {T : TypeId} (hk : known ti T = true) {x : V} {u : Value} (r : Rep K ρ G w x u) {k : IntKind} {i : Int} {e : Eff} (h : vecI ti T x i = some e) (hn : e.need) :
    Ok P K ρ G heap w e (Instr.index T u (.int k i)) := by
  have hu := (hti T hk).und
  unfold vecI at h
  split at h
  · rename_i t n ys
    split at h
    · rename_i n' el hkk
      rw [hkk] at hu
      obtain ⟨hb, h1⟩ := bif_some h
      cases h1
      simp only [Bool.and_eq_true] at hb
      have h0 := Nat.eq_of_beq_eq_true hb.1
      have hsz := Nat.eq_of_beq_eq_true hb.2
      subst h0
      obtain ⟨a1, a2⟩ := hn
      cases r with
      | vec _ _ _ us hl hs hrv =>
        have hin : i.toNat * (ti el).size + (ti el).size ≤ us.length := by
          rw [hs, ← hsz]
          have : (i.toNat + 1) * t.size ≤ n * t.size := Nat.mul_le_mul_right _ (by omega)
          rwa [Nat.add_mul, Nat.one_mul] at this
        have hq : i.toNat < ys.length := by omega
        refine Ok.pure m ⟨rfl, rfl⟩ ⟨valOf ti el ((us.drop (i.toNat * (ti el).size)).take (ti el).size), ?_, ?_⟩
        · have hp := run_part (P := P) (w := w) (hti el hu.2.1) (cs := us) (o := i.toNat * (ti el).size) hin
          simp [Instr.index, asIntOf, run_underlying hu.1, a1, a2, (hti el hu.2.1).sizeOf (P := P), hp]
        · have hd : ys.getD i.toNat t.dflt = ys[i.toNat] := by simp [List.getD, hq]
          refine Rep.asAgg (hti el hu.2.1) (by rw [enc_length, hsz]) ?_
          rw [hd]
          refine Reps.mk (by rw [enc_length, List.length_take, List.length_drop]; omega) fun j c hc' => ?_
          have hj : j < t.size := by have := (List.getElem?_eq_some_iff.1 hc').1; rwa [enc_length] at this
          have := hrv _ hq j c hc'
          have hlt : i.toNat * t.size + j < us.length := by rw [← hsz] at hin; omega
          refine ⟨us[i.toNat * t.size + j], ?_, ?_⟩
          · rw [List.getElem?_take, if_pos (by omega), List.getElem?_drop, ← hsz, List.getElem?_eq_getElem hlt]
          · have e3 : us.getD (i.toNat * t.size + j) default = us[i.toNat * t.size + j] := by simp [List.getD, hlt]
            rw [e3] at this; exact this
    · cases h
  · cases h

/-- An operation that is no call of a function. -/
theorem op_ok (hti : TiOK P ti) (fl : FlOK) {S : St} {a : Act} (h : Rel ρ G S a w) {o : Oper} {d : Nat} {e : Eff} (he : opV ti Γ S d o.op = some e) (hn : e.need) (hf : fresh S.used e.new = true)
    (hnc : ∀ c f, o.op = .call c → c.callee ≠ .value f) : OkN P S.used ρ G S.heap w e (execOp a.eval o) := by
  have m := h.mem
  have plainOk : ∀ {s : Sem Value}, (e.plain ∧ ∃ z, s.run P w = .ok z w ∧ Rep S.used ρ G w e.val z) → OkN P S.used ρ G S.heap w e (do pure (Next.value (← s))) := by
    rintro s ⟨h1, z, h2, h3⟩
    exact OkN.plain m h1 (z := z) (by simp [h2]) h3
  obtain ⟨dst, op, type, ps, after, guard⟩ := o
  simp only at he hnc
  unfold opV at he
  split at he
  · -- move
    rename_i x
    simp only [Eff.pure] at he; cases he
    exact OkN.plain m ⟨rfl, rfl⟩ (z := a.eval x) (by simp [execOp]) (eval_ok h x)
  · rename_i x
    simp only [Eff.pure] at he; cases he
    exact OkN.plain m ⟨rfl, rfl⟩ (z := a.eval x) (by simp [execOp]) (eval_ok h x)
  · -- pick
    rename_i c x y
    split at he
    · rename_i t hc
      have rc := eval_ok h c
      rw [hc] at rc
      have hcv := rc.toBool
      simp only [Eff.pure] at he; cases he
      refine OkN.plain m ⟨rfl, rfl⟩ (z := if t = true then a.eval x else a.eval y) (by simp [execOp, hcv, asBool]) ?_
      cases t
      · exact eval_ok h y
      · exact eval_ok h x
    · cases he
  · -- alloc
    rename_i T
    replace he := bif_some he; obtain ⟨hk, he⟩ := he
    obtain ⟨r, hr⟩ := alloc_new he
    exact okNext (alloc_ok hti m (fresh_new hr hf) hk he _)
  · -- box
    rename_i T x
    replace he := bif_some he; obtain ⟨hk, he⟩ := he
    split at he
    · rename_i e' hv
      cases he
      exact okNext (vecB_ok m (eval_ok h x) hv hf)
    · replace he := bif_some he; obtain ⟨hk2, he⟩ := he
      simp only [Bool.and_eq_true] at hk2
      obtain ⟨r, hr⟩ := box_new he
      exact okNext (box_ok m (fresh_new hr hf) (eval_ok h x) hk2.1 he hn)
  · -- build
    rename_i T ps
    replace he := bif_some he; obtain ⟨hk, he⟩ := he
    exact okNext (build_ok hti m hk (by simp) (vals_of (eval_ok h)) he)
  · -- buildSlice
    rename_i T len ps
    obtain ⟨r, hr⟩ := buildS_new he
    exact okNext (buildS_ok hti m (fresh_new hr hf) (by simp) (vals_of (eval_ok h)) he)
  · -- load
    rename_i T x
    replace he := bif_some he; obtain ⟨hk, he⟩ := he
    split at he
    · rename_i e' hv
      cases he
      exact plainOk (vecL_ok hti S m hk (eval_ok h x) hv hn)
    · split at he
      · rename_i p c r hl
        cases he
        obtain ⟨b, o, hx, hlen, us, hus, hcs⟩ := loadC_at hti S m hk (eval_ok h x) hl hn
        have hrun := run_loadAt (hti T hk) b o us (by rw [hus.1, hlen]) hcs
        refine OkN.plain m ⟨rfl, rfl⟩ (z := valOf ti T us) (by simp [execOp, hx, hrun]) (Rep.asAgg (hti T hk) hlen hus)
      · cases he
  · -- store
    rename_i T x y
    replace he := bif_some he; obtain ⟨hk, he⟩ := he
    split at he
    · rename_i e' hv
      cases he
      obtain ⟨hh, row, w', p1, p2, p3, s1, s2, s3⟩ := vecS_ok (P := P) hti S m hk (eval_ok h y) (eval_ok h x) hv hn
      refine ⟨undef, w', ρ, G, .inr ⟨by simp [execOp, s1], rfl⟩, ?_, ?_, ?_⟩
      · rw [p1, p2]; exact s2
      · rw [p3]; exact .any _
      · rw [p1, p2]; exact s3
    · replace he := bif_some he; obtain ⟨hk2, he⟩ := he
      split at he
      · rename_i p hh r k hs
        cases hkh : k.contains hh with
        | true => rw [hkh] at he; cases he
        | false =>
          rw [hkh] at he
          simp only [cond_false] at he
          cases he
          obtain ⟨w', s1, s2, s3⟩ := storeC_ok hti S m hk (eval_ok h x) (eval_ok h y) hk2 hs hn hkh
          have hp : puts S.heap (k.map (fun h => (h, none)) ++ [(hh, some r)]) = upd (Ab.strike S.heap k) hh (some r) := by
            rw [puts_append, puts_strike]; rfl
          refine ⟨undef, w', ρ, plus G ρ S.heap k, .inr ⟨by simp [execOp, s1], rfl⟩, ?_, .any _, ?_⟩
          · simp only [mark, news, hp]; exact s2
          · simp only [mark, news, hp]; exact s3
      · cases he
  · -- nilCheck
    rename_i x
    have rx := eval_ok h x
    split at he
    · rename_i hh o hx
      rw [hx] at rx
      simp only [Eff.pure] at he; cases he
      cases hz : a.eval x <;> rw [hz] at rx <;> cases rx
      rename_i hk1 hn1
      exact OkN.plain m ⟨rfl, rfl⟩ (by simp [execOp, hz]) (.ptr hh o hk1 hn1)
    · rename_i hh b n s i q hx
      rw [hx] at rx
      simp only [Eff.pure] at he; cases he
      cases hz : a.eval x <;> rw [hz] at rx <;> cases rx
      rename_i hk1 hn1
      exact OkN.plain m ⟨rfl, rfl⟩ (by simp [execOp, hz]) (.pe hh b n s i q hk1 hn1)
    · rename_i t xs i q hx
      rw [hx] at rx
      simp only [Eff.pure] at he; cases he
      cases hz : a.eval x <;> rw [hz] at rx <;> cases rx
      rename_i blk o g hG hc hr
      exact OkN.plain m ⟨rfl, rfl⟩ (by simp [execOp, hz]) (.dp t xs i q blk o g hG hc hr)
    · rename_i f l c hx
      rw [hx] at rx
      simp only [Eff.pure] at he; cases he
      cases hz : a.eval x <;> rw [hz] at rx <;> cases rx
      rename_i cs ds hl h1 hm h2
      exact OkN.plain m ⟨rfl, rfl⟩ (by simp [execOp, hz]) (.fn (.func f) l c cs ds hl hm h1 h2)
    · cases he
  · -- binOp
    rename_i op T x y _
    exact plainOk (binV_ok hti fl (eval_ok h x) (eval_ok h y) he hn x y)
  · rename_i op _ x
    exact plainOk (unV_ok (eval_ok h x) he)
  · -- convert
    rename_i src dst' x
    replace he := bif_some he; obtain ⟨hk, he⟩ := he
    simp only [Bool.and_eq_true] at hk
    exact okNext (conv_ok hti fl S m hk.1 hk.2 (eval_ok h x) he hn hf)
  · -- slice
    rename_i T x lo hi mx
    split at he
    · replace he := bif_some he; obtain ⟨hk, he⟩ := he
      exact okNext (sliceV_ok hti S m hk (eval_ok h x) (opt_rel h lo) (opt_rel h hi) he hn)
    · cases he
  · rename_i T x f
    replace he := bif_some he; obtain ⟨hk, he⟩ := he
    exact okNext (fieldA_ok hti m hk (eval_ok h x) he)
  · rename_i T x f
    replace he := bif_some he; obtain ⟨hk, he⟩ := he
    exact okNext (fieldV_ok hti m hk (eval_ok h x) he)
  · rename_i T x i
    split at he
    · rename_i n hi
      replace he := bif_some he; obtain ⟨hk, he⟩ := he
      obtain ⟨k, hk'⟩ := intOfV_ok (eval_ok h i) hi
      have := okNext (indexA_ok hti S m hk (eval_ok h x) (k := k) he hn)
      rw [← hk'] at this
      exact this
    · cases he
  · rename_i T x i
    split at he
    · rename_i n hi
      replace he := bif_some he; obtain ⟨hk, he⟩ := he
      obtain ⟨k, hk'⟩ := intOfV_ok (eval_ok h i) hi
      split at he
      · rename_i e' hv
        cases he
        have := okNext (vecI_ok (P := P) hti m hk (eval_ok h x) (k := k) hv hn)
        rw [← hk'] at this
        exact this
      · have := okNext (indexV_ok hti m hk (eval_ok h x) (k := k) he hn)
        rw [← hk'] at this
        exact this
    · cases he
  · -- extract
    rename_i t i
    have rt := eval_ok h t
    split at he
    · rename_i l ht
      rw [ht] at rt
      split at he
      · rename_i x hx
        simp only [Eff.pure] at he; cases he
        cases hz : a.eval t <;> rw [hz] at rt <;> cases rt
        rename_i cs hl hr
        have rl : Reps S.used ρ G w l cs := ⟨hl, hr⟩
        obtain ⟨u, hu1, hu2⟩ := rl.get hx
        exact OkN.plain m ⟨rfl, rfl⟩ (z := u) (by simp [execOp, hz, Instr.extract, hu1]) hu2
      · cases he
    · cases he
  · -- makeFunc
    rename_i f first caps
    simp only [Eff.pure] at he; cases he
    have r1 := get_args h first
    have r2 := get_args h caps
    refine OkN.plain m ⟨rfl, rfl⟩ (z := .func (.func f) (first.map a.eval).toList.toArray (caps.map a.eval).toList.toArray) (by simp only [Array.toArray_toList]; simp [execOp, Instr.makeFunc]) ?_
    exact .fn (.func f) _ _ _ _ r1.1 r2.1 r1.2 r2.2
  · -- makeSlice
    rename_i T l c
    split at he
    · rename_i k l' k' c' hl hc
      have rl := eval_ok h l
      have rc := eval_ok h c
      rw [hl] at rl
      rw [hc] at rc
      replace he := bif_some he; obtain ⟨hk, he⟩ := he
      obtain ⟨r, hr⟩ := make_new he
      have := okNext (make_ok hti m (fresh_new hr hf) hk (k := k) (k' := k') he hn)
      cases hz : a.eval l <;> rw [hz] at rl <;> cases rl
      cases hz' : a.eval c <;> rw [hz'] at rc <;> cases rc
      simpa [execOp, hz, hz'] using this
    · cases he
  · -- call
    rename_i c
    obtain ⟨callee, args, argTypes⟩ := c
    have ra := get_args h args
    have two : ∀ {x y : Operand}, args.toList = [x, y] → args.map a.eval = #[a.eval x, a.eval y] := by
      intro x y hxy
      apply Array.ext'
      rw [Array.toList_map, hxy]
      rfl
    have one' : ∀ {x : Operand}, args.toList = [x] → args.map a.eval = #[a.eval x] := by
      intro x hxy
      apply Array.ext'
      rw [Array.toList_map, hxy]
      rfl
    split at he
    · rename_i f hc
      simp only at hc
      exact absurd hc (hnc _ f rfl)
    · rename_i hc
      simp only at hc; subst hc
      split at he
      · rename_i x T h1 h2
        simp only at h1 h2
        replace he := bif_some he; obtain ⟨hk, he⟩ := he
        have ht : argTypes = #[T] := by apply Array.ext'; rw [h2]
        have := plainOk (len_ok hti S m (ty := type) hk (eval_ok h x) he)
        subst ht
        simpa [execOp, resolve, invoke, builtin, one' h1] using this
      · cases he
    · rename_i hc
      simp only at hc; subst hc
      split at he
      · rename_i x y T T' h1 h2
        simp only at h1 h2
        have ht : argTypes = #[T, T'] := by apply Array.ext'; rw [h2]
        cases hk : (known ti T && rowT ti T') with
        | true =>
          rw [hk] at he
          simp only [cond_true] at he
          simp only [Bool.and_eq_true] at hk
          obtain ⟨r, hr⟩ := append_new he
          have := okNext (append_ok hti S m (fresh_new hr hf) (ty := type) hk.1 hk.2 (eval_ok h x) (eval_ok h y) he hn)
          subst ht
          simpa [execOp, resolve, invoke, builtin, two h1] using this
        | false =>
          rw [hk] at he
          simp only [cond_false] at he
          replace he := bif_some he; obtain ⟨hk, he⟩ := he
          simp only [Bool.and_eq_true] at hk
          obtain ⟨r, hr⟩ := appendZ_new he
          have := okNext (appendZ_ok hti m (fresh_new hr hf) (ty := type) hk.1 hk.2 (eval_ok h x) (eval_ok h y) he hn)
          subst ht
          simpa [execOp, resolve, invoke, builtin, two h1] using this
      · cases he
    · rename_i hc
      simp only at hc; subst hc
      split at he
      · rename_i x T h1 h2
        simp only at h1 h2
        replace he := bif_some he; obtain ⟨hk, he⟩ := he
        have ht : argTypes = #[T] := by apply Array.ext'; rw [h2]
        have := plainOk (capV_ok hti (ty := type) hk (eval_ok h x) he)
        subst ht
        simpa [execOp, resolve, invoke, builtin, one' h1] using this
      · cases he
    · rename_i hc
      simp only at hc; subst hc
      split at he
      · rename_i x y T T' h1 h2
        simp only at h1 h2
        replace he := bif_some he; obtain ⟨hk, he⟩ := he
        have ht : argTypes = #[T, T'] := by apply Array.ext'; rw [h2]
        have := okNext (copy_ok hti S m (T' := T') (ty := type) hk (eval_ok h x) (eval_ok h y) he hn)
        subst ht
        simpa [execOp, resolve, invoke, builtin, two h1] using this
      · cases he
    · rename_i hc
      simp only at hc; subst hc
      have hx : ∃ x y, args.toList = [x, y] := by
        unfold minV at he
        split at he
        · rename_i heq
          match hl : args.toList with
          | [x, y] => exact ⟨x, y, rfl⟩
          | [] => rw [hl] at heq; simp at heq
          | [x] => rw [hl] at heq; simp at heq
          | x :: y :: z :: l => rw [hl] at heq; simp at heq
        · cases he
      obtain ⟨x, y, hxy⟩ := hx
      simp only [hxy, List.map_cons, List.map_nil] at he
      have := plainOk ((minmax_ok (eval_ok h x) (eval_ok h y) (T := type) (ts := argTypes)).1 he)
      simpa [execOp, resolve, invoke, builtin, two hxy] using this
    · rename_i hc
      simp only at hc; subst hc
      have hx : ∃ x y, args.toList = [x, y] := by
        unfold maxV at he
        split at he
        · rename_i heq
          match hl : args.toList with
          | [x, y] => exact ⟨x, y, rfl⟩
          | [] => rw [hl] at heq; simp at heq
          | [x] => rw [hl] at heq; simp at heq
          | x :: y :: z :: l => rw [hl] at heq; simp at heq
        · cases he
      obtain ⟨x, y, hxy⟩ := hx
      simp only [hxy, List.map_cons, List.map_nil] at he
      have := plainOk ((minmax_ok (eval_ok h x) (eval_ok h y) (T := type) (ts := argTypes)).2 he)
      simpa [execOp, resolve, invoke, builtin, two hxy] using this
    · rename_i hc
      simp only at hc; subst hc
      split at he
      · rename_i p q heq
        simp only at heq
        have hx : ∃ x y, args.toList = [x, y] := by
          match hl : args.toList with
          | [x, y] => exact ⟨x, y, rfl⟩
          | [] => rw [hl] at heq; simp at heq
          | [x] => rw [hl] at heq; simp at heq
          | x :: y :: z :: l => rw [hl] at heq; simp at heq
        obtain ⟨x, y, hxy⟩ := hx
        simp only [hxy, List.map_cons, List.map_nil, List.cons.injEq, and_true] at heq
        have rx := eval_ok h x
        have ry := eval_ok h y
        rw [heq.1] at rx
        rw [heq.2] at ry
        simp only [Eff.pure] at he; cases he
        cases hz : a.eval x <;> rw [hz] at rx <;> cases rx
        cases hz' : a.eval y <;> rw [hz'] at ry <;> cases ry
        rename_i s1 s2
        exact OkN.plain m ⟨rfl, rfl⟩ (z := .complex .f64 (FloatKind.f64.nearest p) (FloatKind.f64.nearest q)) (by simp only [execOp, resolve, invoke, builtin, two hxy, hz, hz']; rfl) (.cx p q s1 s2)
      · cases he
    · rename_i hc
      simp only at hc; subst hc
      split at he
      · rename_i p q heq
        simp only at heq
        have hx : ∃ x, args.toList = [x] := by
          match hl : args.toList with
          | [x] => exact ⟨x, rfl⟩
          | [] => rw [hl] at heq; simp at heq
          | x :: y :: l => rw [hl] at heq; simp at heq
        obtain ⟨x, hxy⟩ := hx
        simp only [hxy, List.map_cons, List.map_nil, List.cons.injEq, and_true] at heq
        have rx := eval_ok h x
        rw [heq] at rx
        simp only [Eff.pure] at he; cases he
        cases hz : a.eval x <;> rw [hz] at rx <;> cases rx
        rename_i s1 s2
        exact OkN.plain m ⟨rfl, rfl⟩ (z := .float .f64 (FloatKind.f64.nearest p)) (by simp only [execOp, resolve, invoke, builtin, one' hxy, hz]; rfl) (.fl p s1)
      · cases he
    · rename_i hc
      simp only at hc; subst hc
      split at he
      · rename_i p q heq
        simp only at heq
        have hx : ∃ x, args.toList = [x] := by
          match hl : args.toList with
          | [x] => exact ⟨x, rfl⟩
          | [] => rw [hl] at heq; simp at heq
          | x :: y :: l => rw [hl] at heq; simp at heq
        obtain ⟨x, hxy⟩ := hx
        simp only [hxy, List.map_cons, List.map_nil, List.cons.injEq, and_true] at heq
        have rx := eval_ok h x
        rw [heq] at rx
        simp only [Eff.pure] at he; cases he
        cases hz : a.eval x <;> rw [hz] at rx <;> cases rx
        rename_i s1 s2
        exact OkN.plain m ⟨rfl, rfl⟩ (z := .float .f64 (FloatKind.f64.nearest q)) (by simp only [execOp, resolve, invoke, builtin, one' hxy, hz]; rfl) (.fl q s2)
      · cases he
    · cases he
  · cases he
end
end Go.Proofs.Ytbkhhfekdpkhbaa.Ab
