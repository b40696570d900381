/- Arrays and structs of plain cells are compared cell by cell; no condition. -/
import Derived.Test.YtbkhhfekdpkhbaaAcC
import Derived.ChangeKeysEq
import Derived.Laws.StructEq
namespace Go.Proofs.Ytbkhhfekdpkhbaa.Ab
open Go

/-- A cell of a plain type. -/
inductive Plain (P : Program) (e : TypeId) : V → Prop where
  | int (k : IntKind) (n : Int) (h : P.underlying e = some (.int k)) : Plain P e (.v (.int k n))
  | bool (b : Bool) (h : P.underlying e = some .bool) : Plain P e (.v (.bool b))
  | str (s : ByteArray) (h : P.underlying e = some .string) : Plain P e (.v (.string s))

section
variable {P : Program} {w : World}

theorem plain_eq {e : TypeId} {z : V} (hz : Plain P e z) {x y : Value} {b : Bool} (h : eqVal z x y = some b) (d : Nat) :
    (Op.equalIn (d + 1) e x y).run P w = .ok b w ∧ (∀ (cs : Array Value) (o : Nat), cs[o]? = some x → (part e cs o).run P w = .ok x w) ∧ (∀ (cs : Array Value) (o : Nat), cs[o]? = some y → (part e cs o).run P w = .ok y w) := by
  cases hz with
  | int k n hu =>
    cases x <;> cases y <;> simp only [eqVal] at h <;> try (cases h; done)
    split at h
    · rename_i hk
      obtain ⟨rfl, rfl⟩ := hk
      cases h
      exact ⟨Go.run_equalIn_int w d e _ _ _ _ hu, fun cs o ho => by simp [part, isAgg, run_underlying hu, ho], fun cs o ho => by simp [part, isAgg, run_underlying hu, ho]⟩
    · cases h
  | bool c hu =>
    cases x <;> cases y <;> simp only [eqVal] at h <;> try (cases h; done)
    cases h
    exact ⟨Go.run_equalIn_bool w d e _ _ hu, fun cs o ho => by simp [part, isAgg, run_underlying hu, ho], fun cs o ho => by simp [part, isAgg, run_underlying hu, ho]⟩
  | str s hu =>
    cases x <;> cases y <;> simp only [eqVal] at h <;> try (cases h; done)
    rename_i a c
    rw [Go.beq_toListBytes] at h
    cases h
    exact ⟨Go.run_equalIn_string w d e _ _ hu, fun cs o ho => by simp [part, isAgg, run_underlying hu, ho], fun cs o ho => by simp [part, isAgg, run_underlying hu, ho]⟩

theorem items_eq {e : TypeId} (d : Nat) (xs ys : Array Value) : ∀ (zs : List V) (l m : List Value) (j : Nat) (b : Bool), (∀ z ∈ zs, Plain P e z) → eqVals zs l m = some b →
    (∀ i x, l[i]? = some x → xs[j + i]? = some x) → (∀ i y, m[i]? = some y → ys[j + i]? = some y) → (Op.eqItems (d + 1) e 1 xs ys (List.range' j zs.length)).run P w = .ok b w
  | [], l, m, j, b, _, h, _, _ => by
    cases l <;> cases m <;> simp only [eqVals] at h <;> cases h
    simp [Op.eqItems]
  | z :: zs, l, m, j, b, hp, h, hx, hy => by
    cases l with
    | nil => cases m <;> simp only [eqVals] at h <;> cases h
    | cons x l =>
      cases m with
      | nil => simp only [eqVals] at h; cases h
      | cons y m =>
        simp only [eqVals] at h
        split at h
        · rename_i b1 c h1 h2
          cases h
          obtain ⟨p1, p2, p3⟩ := plain_eq (w := w) (hp z (by simp)) h1 d
          have ih := items_eq d xs ys zs l m (j + 1) c (fun z hz => hp z (by simp [hz])) h2 (fun i x hi => by have := hx (i + 1) x (by simpa using hi); rwa [Nat.add_assoc, Nat.add_comm 1 i]) (fun i y hi => by have := hy (i + 1) y (by simpa using hi); rwa [Nat.add_assoc, Nat.add_comm 1 i])
          have px := p2 xs j (by simpa using hx 0 x rfl)
          have py := p3 ys j (by simpa using hy 0 y rfl)
          simp only [List.length_cons, List.range'_succ, Op.eqItems, Nat.mul_one, Sem.run_bind, px, py, p1, Result.andThen_ok]
          cases b1
          · simp
          · simpa using ih
        · cases h

theorem fields_eq (d : Nat) (xs ys : Array Value) : ∀ (fs : List Field) (zs : List V) (l m : List Value) (j : Nat) (b : Bool), fs.length = zs.length → (∀ (i : Nat) (f : Field) (z : V), fs[i]? = some f → zs[i]? = some z → f.name ≠ "_" ∧ f.offset = j + i ∧ Plain P f.type z) → eqVals zs l m = some b →
    (∀ i x, l[i]? = some x → xs[j + i]? = some x) → (∀ i y, m[i]? = some y → ys[j + i]? = some y) → (Op.eqFields (d + 1) xs ys fs).run P w = .ok b w
  | [], [], l, m, j, b, _, _, h, _, _ => by
    cases l <;> cases m <;> simp only [eqVals] at h <;> cases h
    simp [Op.eqFields]
  | [], _ :: _, _, _, _, _, hl, _, _, _, _ => by simp at hl
  | _ :: _, [], _, _, _, _, hl, _, _, _, _ => by simp at hl
  | f :: fs, z :: zs, l, m, j, b, hl, hp, h, hx, hy => by
    cases l with
    | nil => cases m <;> simp only [eqVals] at h <;> cases h
    | cons x l =>
      cases m with
      | nil => simp only [eqVals] at h; cases h
      | cons y m =>
        simp only [eqVals] at h
        split at h
        · rename_i b1 c h1 h2
          cases h
          obtain ⟨q1, q2, q3⟩ := hp 0 f z rfl rfl
          obtain ⟨p1, p2, p3⟩ := plain_eq (w := w) q3 h1 d
          have ih := fields_eq d xs ys fs zs l m (j + 1) c (by simpa using hl) (fun i f z hf hz => by have := hp (i + 1) f z (by simpa using hf) (by simpa using hz); rwa [Nat.add_assoc, Nat.add_comm 1 i]) h2
            (fun i x hi => by have := hx (i + 1) x (by simpa using hi); rwa [Nat.add_assoc, Nat.add_comm 1 i]) (fun i y hi => by have := hy (i + 1) y (by simpa using hi); rwa [Nat.add_assoc, Nat.add_comm 1 i])
          have px := p2 xs f.offset (by rw [q2]; exact hx 0 x rfl)
          have py := p3 ys f.offset (by rw [q2]; exact hy 0 y rfl)
          simp only [Op.eqFields, q1, ne_eq, not_false_eq_true, if_true, Sem.run_bind, px, py, p1, Result.andThen_ok]
          cases b1
          · simp
          · simpa using ih
        · cases h

/-- An array of plain cells. -/
theorem eqOK_array {T e : TypeId} {n : Nat} {i : TypeInfo} (hu : P.underlying T = some (.array n e)) (hi : P.info? e = some i) (h1 : i.size = 1) {zero : List V} (hz : ∀ z ∈ zero, Plain P e z) (hl : zero.length = n) (hg : P.eqGuardType P.depth T = false) : EqOK P T zero := by
  intro l m b w h
  refine ⟨?_, hg⟩
  show (Op.equalIn (9998 + 1 + 1) T _ _).run P w = _
  rw [run_equalIn_array w (9998 + 1) l.toArray m.toArray hu hi]
  have hc : P.cellsOf e = 1 := by unfold Program.cellsOf; rw [hi]; exact h1
  rw [hc, List.range_eq_range', ← hl]
  exact items_eq 9998 l.toArray m.toArray zero l m 0 b hz h (fun i x hi => by simpa using hi) (fun i y hi => by simpa using hi)

/-- A struct of plain cells. -/
theorem eqOK_struct {T : TypeId} {F : Array Field} (hu : P.underlying T = some (.struct F)) (hs : P.stoodInHeld T = false) {zero : List V} (hl : F.toList.length = zero.length)
    (hz : ∀ (i : Nat) (f : Field) (z : V), F.toList[i]? = some f → zero[i]? = some z → f.name ≠ "_" ∧ f.offset = i ∧ Plain P f.type z) (hg : P.eqGuardType P.depth T = false) : EqOK P T zero := by
  intro l m b w h
  refine ⟨?_, hg⟩
  show (Op.equalIn (9998 + 1 + 1) T _ _).run P w = _
  have hf : P.fieldsOf T = F := by simp [Program.fieldsOf, hu]
  rw [run_equalIn_struct w (9998 + 1) T l.toArray m.toArray (by rw [hf]; exact hu) hs, hf]
  exact fields_eq 9998 l.toArray m.toArray F.toList zero l m 0 b hl (fun i f z h1 h2 => by have := hz i f z h1 h2; rwa [Nat.zero_add]) h (fun i x hi => by simpa using hi) (fun i y hi => by simpa using hi)
end
end Go.Proofs.Ytbkhhfekdpkhbaa.Ab
