/- The table of types, out of the program's own; no condition. -/
import Derived.Test.YtbkhhfekdpkhbaaAcA
namespace Go.Proofs.Ytbkhhfekdpkhbaa.Ab
open Go

def cellEq : Value → Value → Bool
  | .int k a, .int k' b => decide (k = k') && decide (a = b)
  | .bool a, .bool b => a == b
  | .string a, .string b => a.data.toList.isEmpty && b.data.toList.isEmpty
  | .slice none 0 0, .slice none 0 0 => true
  | .nilIface, .nilIface => true
  | .pointer none, .pointer none => true
  | .float .f64 0, .float .f64 0 => true
  | .complex .f64 0 0, .complex .f64 0 0 => true
  | _, _ => false
def cellsEq : List Value → List Value → Bool
  | [], [] => true
  | a :: l, b :: m => cellEq a b && cellsEq l m
  | _, _ => false

theorem bytes_empty {a b : ByteArray} (h : (a.data.toList.isEmpty && b.data.toList.isEmpty) = true) : a = b := by
  simp only [Bool.and_eq_true, List.isEmpty_iff] at h
  cases a with
  | mk a =>
    cases b with
    | mk b =>
      congr 1
      apply Array.ext'
      rw [show a.toList = [] from h.1, show b.toList = [] from h.2]

theorem cellEq_eq {a b : Value} (h : cellEq a b = true) : a = b := by
  unfold cellEq at h
  split at h
  · simp only [Bool.and_eq_true, decide_eq_true_eq] at h; rw [h.1, h.2]
  · rw [eq_of_beq h]
  · rw [bytes_empty h]
  all_goals first | rfl | cases h
theorem cellsEq_eq : ∀ {l m : List Value}, cellsEq l m = true → l = m
  | [], [], _ => rfl
  | [], _ :: _, h => by cases h
  | _ :: _, [], h => by cases h
  | a :: l, b :: m, h => by
    simp only [cellsEq, Bool.and_eq_true] at h
    rw [cellEq_eq h.1, cellsEq_eq h.2]

/-- The type's description, its name taken off. -/
def undL (L : List TypeInfo) (T : TypeId) : Option TypeDesc := match L[T]? with
  | none => none
  | some i => match i.desc with
    | .named _ u => (L[u]?).map (·.desc)
    | d => some d
def kOf : Option TypeDesc → TyK
  | some (.int k) => .int k
  | some .bool => .bool
  | some .string => .str
  | some (.float _) => .fl
  | some (.slice e) => .sl e
  | some (.array n e) => .ar n e
  | some (.struct F) => .st (F.toList.map fun f => (f.offset, f.type))
  | _ => .sc
def noTy : TyI := { k := .sc, size := 0, bytes := 0, zero := [], dt := none }
/-- The table: of those types that are not in 'bad'. -/
def tiOf (L : List TypeInfo) (bad : TypeId → Bool) (dts : TypeId → Option DT) (eqs : TypeId → Bool) (T : TypeId) : TyI := bif bad T then noTy else match L[T]? with
  | none => noTy
  | some i => { k := kOf (undL L T), size := i.size, bytes := i.bytes, zero := match i.zero with
      | some z => z.cells.toList.map V.v
      | none => [], dt := dts T, eq := eqs T }
def zcells (L : List TypeInfo) (T : TypeId) : List Value := match L[T]? with
  | some i => match i.zero with
    | some z => z.cells.toList
    | none => []
  | none => []
def reps : Nat → List Value → List Value
  | 0, _ => []
  | n + 1, l => l ++ reps n l
def okT (L : List TypeInfo) (bad : TypeId → Bool) (dts : TypeId → Option DT) (T : TypeId) : Bool :=
  match L[T]?, undL L T with
  | some i, some d => i.zero.isSome && Nat.beq (zcells L T).length i.size && (zcells L T).all (fun v => v.oneCell') &&
    (match dts T with
    | none => true
    | some t => Nat.beq t.size i.size && cellsEq (zcells L T) (zeroOf t)) &&
    (match d with
    | .float k => decide (k = .f64) && Nat.beq i.size 1
    | .array n e => known (tiOf L bad dts fun _ => false) e && Nat.beq i.size (n * (tiOf L bad dts (fun _ => false) e).size) && cellsEq (zcells L T) (reps n (zcells L e))
    | .struct F => F.toList.all fun f => known (tiOf L bad dts fun _ => false) f.type
    | _ => Nat.beq i.size 1)
  | _, _ => false

section
variable {P : Program} {L : List TypeInfo} {bad : TypeId → Bool} {dts : TypeId → Option DT} {eqs : TypeId → Bool}

theorem info_at (hL : P.types.toList = L) {T : TypeId} {i : TypeInfo} (h : L[T]? = some i) : P.info? T = some i := by
  subst hL
  rw [Array.getElem?_toList] at h
  have hlt := (Array.getElem?_eq_some_iff.1 h).1
  unfold Tables.info?
  rw [if_pos hlt, h]

theorem und_at (hL : P.types.toList = L) {T : TypeId} {d : TypeDesc} (h : undL L T = some d) : P.underlying T = some d := by
  unfold undL at h
  split at h
  · cases h
  · rename_i i hi
    have h1 := info_at hL hi
    unfold Program.underlying
    rw [h1]
    obtain ⟨desc, _, _, _, _, _, _, _, _, _⟩ := i
    simp only at h
    split at h
    · rename_i u
      cases hu : L[u]? with
      | none => rw [hu] at h; cases h
      | some j => rw [hu] at h; simp only [info_at hL hu]; exact h
    · rename_i d' hne
      cases h
      split
      · rename_i u e
        simp only [Option.some.injEq, TypeInfo.mk.injEq] at e
        exact absurd e.1 (hne _ _)
      · rename_i e; cases e; rfl
      · rename_i e; cases e

theorem known_tiOf {T : TypeId} (h : known (tiOf L bad dts eqs) T = true) : known (tiOf L bad dts fun _ => false) T = true ∧ bad T = false ∧ ∃ i, L[T]? = some i := by
  unfold known at h ⊢
  unfold tiOf at h ⊢
  cases hb : bad T with
  | true => rw [hb] at h; cases h
  | false =>
    rw [hb] at h
    simp only [cond_false] at h ⊢
    cases hi : L[T]? with
    | none => rw [hi] at h; cases h
    | some i => rw [hi] at h; exact ⟨h, trivial, i, rfl⟩
theorem known_of {T : TypeId} (h : known (tiOf L bad dts fun _ => false) T = true) : known (tiOf L bad dts eqs) T = true := by
  obtain ⟨_, hb, i, hi⟩ := known_tiOf h
  unfold known at h ⊢
  unfold tiOf at h ⊢
  rw [hb, hi] at h ⊢
  exact h

theorem tiOf_at {T : TypeId} {i : TypeInfo} (hb : bad T = false) (hi : L[T]? = some i) : tiOf L bad dts eqs T = { k := kOf (undL L T), size := i.size, bytes := i.bytes, zero := (zcells L T).map V.v, dt := dts T, eq := eqs T } := by
  unfold tiOf zcells
  rw [hb, hi]
  simp only [cond_false]
  cases i.zero <;> rfl

theorem zeros_reps {e : TypeId} {i : TypeInfo} (hb : bad e = false) (hi : L[e]? = some i) : ∀ n, zeros (tiOf L bad dts eqs) e n = (reps n (zcells L e)).map V.v
  | 0 => rfl
  | n + 1 => by simp only [zeros, reps, List.map_append, zeros_reps hb hi n, tiOf_at hb hi]

/-- The table is right. -/
theorem tiOf_ok (hL : P.types.toList = L) (hck : ∀ T i, L[T]? = some i → bad T = false → okT L bad dts T = true) (heq : ∀ T, eqs T = true → EqOK P T ((zcells L T).map V.v)) : TiOK P (tiOf L bad dts eqs) := by
  intro T hk
  obtain ⟨_, hb, i, hi⟩ := known_tiOf hk
  have hc := hck T i hi hb
  have hT := tiOf_at (dts := dts) (eqs := eqs) hb hi
  unfold okT at hc
  rw [hi] at hc
  cases hd : undL L T with
  | none => rw [hd] at hc; cases hc
  | some d =>
    rw [hd] at hc
    simp only [Bool.and_eq_true] at hc
    obtain ⟨⟨⟨⟨c1, c2⟩, c3⟩, c4⟩, c5⟩ := hc
    have hu := und_at hL hd
    have c2 := Nat.eq_of_beq_eq_true c2
    rw [hd] at hT
    constructor
    · obtain ⟨z, hz⟩ := Option.isSome_iff_exists.1 c1
      have hzc : zcells L T = z.cells.toList := by unfold zcells; rw [hi]; simp only [hz]
      refine ⟨i, z, info_at hL hi, ?_, ?_, hz, ?_, ?_, ?_⟩
      · rw [hT]
      · rw [hT]
      · rw [hT, hzc]
      · rw [hT, ← Array.length_toList, ← hzc, c2]
      · rw [← hzc]; exact c3
    · rw [hT]
      have one : Nat.beq i.size 1 = true → i.size = 1 := Nat.eq_of_beq_eq_true
      cases d with
      | int k => exact ⟨hu, one c5⟩
      | bool => exact ⟨hu, one c5⟩
      | string => exact ⟨hu, one c5⟩
      | slice e => exact ⟨hu, one c5⟩
      | float k =>
        simp only [Bool.and_eq_true, decide_eq_true_eq] at c5
        obtain ⟨rfl, h2⟩ := c5
        exact ⟨hu, one h2⟩
      | array n e =>
        simp only [Bool.and_eq_true] at c5
        obtain ⟨⟨h1, h2⟩, h3⟩ := c5
        obtain ⟨_, hbe, j, hj⟩ := known_tiOf h1
        have he := tiOf_at (dts := dts) (eqs := eqs) hbe hj
        have he' := tiOf_at (dts := dts) (eqs := fun _ => false) hbe hj
        refine ⟨hu, known_of h1, ?_, ?_⟩
        · have := Nat.eq_of_beq_eq_true h2
          rw [he'] at this
          rw [he]; exact this
        · rw [zeros_reps hbe hj, ← cellsEq_eq h3]
      | struct F =>
        refine ⟨F, hu, rfl, ?_⟩
        rw [List.all_map]
        rw [List.all_eq_true] at c5 ⊢
        intro f hf
        exact known_of (c5 f hf)
      | _ => exact ⟨⟨_, hu, rfl⟩, one c5⟩
    · intro t ht
      rw [hT] at ht ⊢
      simp only at ht
      rw [ht] at c4
      simp only [Bool.and_eq_true] at c4
      exact ⟨Nat.eq_of_beq_eq_true c4.1, by rw [cellsEq_eq c4.2]⟩
    · intro he
      rw [hT] at he ⊢
      exact heq T he
end
end Go.Proofs.Ytbkhhfekdpkhbaa.Ab
