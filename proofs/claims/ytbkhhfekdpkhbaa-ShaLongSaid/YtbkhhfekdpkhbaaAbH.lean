/- What operations on values do; one condition: what floats of small numbers are. -/
import Derived.Test.YtbkhhfekdpkhbaaAbG
namespace Go.Proofs.Ytbkhhfekdpkhbaa.Ab
open Go

/-- Floats of small numbers are those numbers. -/
structure FlOK : Prop where
  ord : ∀ a b : Int, small a → small b → FloatKind.f64.format.order (FloatKind.f64.nearest a) (FloatKind.f64.nearest b) = some (compare a b)
  add : ∀ a b : Int, small a → small b → small (a + b) → FloatKind.f64.format.add (FloatKind.f64.nearest a) (FloatKind.f64.nearest b) = some (FloatKind.f64.nearest (a + b))
  back : ∀ a : Int, small a → (FloatKind.f64.decode (FloatKind.f64.nearest a)).toInt .zero = some a

section
variable {P : Program} {ti : TypeId → TyI} {K : Nat → Bool} {ρ : Nat → Hd} {G : Nat → Prop} {heap : Nat → Option Row} {w : World}

theorem Rep.toBool {b : Bool} {x : Value} (r : Rep K ρ G w (.v (.bool b)) x) : x = .bool b := by cases r; rfl

/-- An effect on nothing but its value. -/
def Eff.plain (e : Eff) : Prop := e.put = [] ∧ e.new = []

theorem intV_ok {op : BinOp} {k : IntKind} {a b : Int} {e : Eff} (h : intV op k a b = some e) (hn : e.need) (T : TypeId) :
    e.plain ∧ ∃ z, (binOp op T (.int k a) (.int k b)).run P w = .ok z w ∧ Rep K ρ G w e.val z := by
  unfold intV at h
  cases op <;> simp only [Eff.pure, Eff.if] at h <;> cases h
  case add => exact ⟨⟨rfl, rfl⟩, .int k (k.wrap (a + b)), by simp [binOp, Op.intArith], .v _⟩
  case sub => exact ⟨⟨rfl, rfl⟩, .int k (k.wrap (a - b)), by simp [binOp, Op.intArith], .v _⟩
  case mul => exact ⟨⟨rfl, rfl⟩, .int k (k.wrap (a * b)), by simp [binOp, Op.intArith], .v _⟩
  case quo => exact ⟨⟨rfl, rfl⟩, .int k (k.wrap (a.tdiv b)), by simp [binOp, Op.intDiv, show b ≠ 0 from hn], .v _⟩
  case rem => exact ⟨⟨rfl, rfl⟩, .int k (a.tmod b), by simp [binOp, Op.intDiv, show b ≠ 0 from hn], .v _⟩
  case and => exact ⟨⟨rfl, rfl⟩, .int k (bitsI .and k a b), by simp [binOp, Op.intBits, bitsI], .v _⟩
  case or => exact ⟨⟨rfl, rfl⟩, .int k (bitsI .or k a b), by simp [binOp, Op.intBits, bitsI], .v _⟩
  case xor => exact ⟨⟨rfl, rfl⟩, .int k (bitsI .xor k a b), by simp [binOp, Op.intBits, bitsI], .v _⟩
  case andNot => exact ⟨⟨rfl, rfl⟩, .int k (bitsI .andNot k a b), by simp [binOp, Op.intBits, bitsI], .v _⟩
  case eql => exact ⟨⟨rfl, rfl⟩, .bool (a == b), by simp [binOp, Op.intCmp], .v _⟩
  case neq => exact ⟨⟨rfl, rfl⟩, .bool (a != b), by simp [binOp, Op.intCmp], .v _⟩
  case lss => exact ⟨⟨rfl, rfl⟩, .bool (decide (a < b)), by simp [binOp, Op.intCmp], .v _⟩
  case leq => exact ⟨⟨rfl, rfl⟩, .bool (decide (a ≤ b)), by simp [binOp, Op.intCmp], .v _⟩
  case gtr => exact ⟨⟨rfl, rfl⟩, .bool (decide (a > b)), by simp [binOp, Op.intCmp], .v _⟩
  case geq => exact ⟨⟨rfl, rfl⟩, .bool (decide (a ≥ b)), by simp [binOp, Op.intCmp], .v _⟩

theorem shiftV_ok {k k' : IntKind} {a b : Int} (hb : 0 ≤ b) (T : TypeId) :
    (binOp .shl T (.int k a) (.int k' b)).run P w = .ok (.int k (shlI k a b)) w ∧ (binOp .shr T (.int k a) (.int k' b)).run P w = .ok (.int k (shrI k a b)) w := by
  have : ¬ b < 0 := by omega
  constructor <;> simp [binOp, Op.shift, this, shlI, shrI]

theorem u8_xor (a b : UInt8) : bitsI .xor .u8 (a.toNat : Int) (b.toNat : Int) = ((a ^^^ b).toNat : Int) := by
  have e1 : (BitVec.ofInt 8 (a.toNat : Int)) = a.toBitVec := by
    apply BitVec.eq_of_toNat_eq; simp
  have e2 : (BitVec.ofInt 8 (b.toNat : Int)) = b.toBitVec := by
    apply BitVec.eq_of_toNat_eq; simp
  show IntKind.u8.wrap ((BitVec.ofInt 8 (a.toNat : Int) ^^^ BitVec.ofInt 8 (b.toNat : Int)).toNat : Int) = _
  rw [e1, e2]
  have hx := (a ^^^ b).toNat_lt
  show IntKind.u8.wrap ((a ^^^ b).toNat : Int) = _
  simp only [IntKind.wrap, IntKind.bits, IntKind.signed, Bool.false_and, Bool.false_eq_true, ↓reduceIte]
  omega

theorem strV_ok {op : BinOp} {a b : ByteArray} {e : Eff} (h : strV op a b = some e) (hn : e.need) (T : TypeId) :
    e.plain ∧ ∃ z, (binOp op T (.string a) (.string b)).run P w = .ok z w ∧ Rep K ρ G w e.val z := by
  unfold strV at h
  cases op <;> simp only [Eff.pure, Eff.if] at h <;> cases h
  case add =>
    have hs : a.size + b.size ≤ 9223372036854775807 := hn
    have : ¬ (((a.size + b.size : Nat) : Int) > IntKind.i64.max) := by
      have e : IntKind.i64.max = 9223372036854775807 := by decide
      rw [e]; omega
    exact ⟨⟨rfl, rfl⟩, .string (a ++ b), by simp only [binOp, Op.stringOp]; rw [if_neg this]; rfl, .v _⟩
  case eql => exact ⟨⟨rfl, rfl⟩, .bool (a.toList == b.toList), by simp [binOp, Op.stringOp], .v _⟩
  case neq => exact ⟨⟨rfl, rfl⟩, .bool (!(a.toList == b.toList)), by simp [binOp, Op.stringOp], .v _⟩

theorem compare_eq (a b : Int) : ((some (compare a b) == some Ordering.eq) = (a == b)) ∧ ((some (compare a b) == some Ordering.lt) = decide (a < b)) ∧ ((some (compare a b) == some Ordering.gt) = decide (a > b)) := by
  have h : compare a b = if a < b then .lt else if a = b then .eq else .gt := rfl
  rw [h]
  by_cases h1 : a < b
  · have h2 : ¬ a = b := by omega
    have h3 : ¬ a > b := by omega
    simp [h1, h2, h3]
  · by_cases h2 : a = b
    · simp [h2]
    · have h3 : a > b := by omega
      simp [h1, h2, h3]

theorem flV_ok (fl : FlOK) {op : BinOp} {a b : Int} {e : Eff} (h : flV op a b = some e) (hn : e.need) (T : TypeId) :
    e.plain ∧ ∃ z, (binOp op T (.float .f64 (FloatKind.f64.nearest a)) (.float .f64 (FloatKind.f64.nearest b))).run P w = .ok z w ∧ Rep K ρ G w e.val z := by
  unfold flV at h
  obtain ⟨c1, c2, c3⟩ := compare_eq a b
  cases op <;> simp only [Eff.if] at h <;> cases h
  case eql => exact ⟨⟨rfl, rfl⟩, .bool (a == b), by simp [binOp, Op.floatCmp, fl.ord a b hn.1 hn.2, ← c1], .v _⟩
  case neq => exact ⟨⟨rfl, rfl⟩, .bool (a != b), by simp only [binOp, Op.floatCmp, fl.ord a b hn.1 hn.2, bne, c1]; rfl, .v _⟩
  case lss => exact ⟨⟨rfl, rfl⟩, .bool (decide (a < b)), by simp only [binOp, Op.floatCmp, fl.ord a b hn.1 hn.2, c2]; rfl, .v _⟩
  case gtr => exact ⟨⟨rfl, rfl⟩, .bool (decide (a > b)), by simp only [binOp, Op.floatCmp, fl.ord a b hn.1 hn.2, c3]; rfl, .v _⟩

theorem cxV_ok (fl : FlOK) {op : BinOp} {a b c d : Int} {e : Eff} (h : cxV op a b c d = some e) (hn : e.need) (T : TypeId) :
    e.plain ∧ ∃ z, (binOp op T (.complex .f64 (FloatKind.f64.nearest a) (FloatKind.f64.nearest b)) (.complex .f64 (FloatKind.f64.nearest c) (FloatKind.f64.nearest d))).run P w = .ok z w ∧ Rep K ρ G w e.val z := by
  unfold cxV at h
  have cc : ∀ x y : Int, small x → small y → (Op.Complex.cmp .eql .f64 (FloatKind.f64.nearest x) (FloatKind.f64.nearest y)).run P w = .ok (x == y) w := by
    intro x y hx hy
    have := (compare_eq x y).1
    simp [Op.Complex.cmp, Op.floatCmp, fl.ord x y hx hy, asBool, ← this]
  cases op <;> simp only [Eff.if] at h <;> cases h
  case add =>
    obtain ⟨⟨h1, h2, h3, h4⟩, h5, h6⟩ := hn
    exact ⟨⟨rfl, rfl⟩, .complex .f64 (FloatKind.f64.nearest (a + c)) (FloatKind.f64.nearest (b + d)), by simp [binOp, Op.complexOp, Op.Complex.arith, Op.floatArith, fl.add a c h1 h3 h5, fl.add b d h2 h4 h6], .cx _ _ h5 h6⟩
  case eql =>
    obtain ⟨h1, h2, h3, h4⟩ := hn
    exact ⟨⟨rfl, rfl⟩, .bool (a == c && b == d), by simp [binOp, Op.complexOp, cc a c h1 h3, cc b d h2 h4], .v _⟩
  case neq =>
    obtain ⟨h1, h2, h3, h4⟩ := hn
    exact ⟨⟨rfl, rfl⟩, .bool (!(a == c && b == d)), by simp [binOp, Op.complexOp, cc a c h1 h3, cc b d h2 h4], .v _⟩

theorem eqOne_ok {z x y : V} {u v : Value} {b : Bool} (rx : Rep K ρ G w x u) (ry : Rep K ρ G w y v) (h : eqOne z x y = some b) : eqVal z u v = some b := by
  unfold eqOne at h
  split at h
  · cases h; cases rx; cases ry
    simp only [eqVal, and_self, if_true]
    congr 1
    rw [Bool.eq_iff_iff]
    simp only [beq_iff_eq]
    constructor
    · intro e; exact UInt8.toNat.inj (by omega)
    · intro e; rw [e]
  · cases h; cases rx; cases ry; simp [eqVal]
  · cases h; cases rx; cases ry; simp [eqVal]
  · split at h
    · rename_i hk; obtain ⟨rfl, rfl⟩ := hk; cases h; cases rx; cases ry; simp [eqVal]
    · cases h
  · cases h; cases rx; cases ry; simp [eqVal]
  · cases h; cases rx; cases ry; simp [eqVal]
  · cases h

theorem eqAll_ok : ∀ (zs l m : List V) (cs ds : List Value) (b : Bool), Reps K ρ G w l cs → Reps K ρ G w m ds → eqAll zs l m = some b → eqVals zs cs ds = some b := by
  intro zs
  induction zs with
  | nil =>
    intro l m cs ds b r s h
    cases l <;> cases m <;> simp only [eqAll] at h <;> cases h
    have h1 : cs = [] := List.eq_nil_of_length_eq_zero r.1
    have h2 : ds = [] := List.eq_nil_of_length_eq_zero s.1
    subst h1; subst h2; rfl
  | cons z zs ih =>
    intro l m cs ds b r s h
    match l, m, h with
    | x :: l, y :: m, h =>
      simp only [eqAll] at h
      match cs, ds, r, s with
      | u :: cs, v :: ds, r, s =>
        have r0 : Rep K ρ G w x u := r.2 0 x rfl
        have s0 : Rep K ρ G w y v := s.2 0 y rfl
        have r1 : Reps K ρ G w l cs := ⟨by have := r.1; simpa using this, fun j c h => by simpa using r.2 (j + 1) c (by simpa using h)⟩
        have s1 : Reps K ρ G w m ds := ⟨by have := s.1; simpa using this, fun j c h => by simpa using s.2 (j + 1) c (by simpa using h)⟩
        cases h1 : eqOne z x y with
        | none => simp only [h1] at h; cases h
        | some b1 =>
          cases h2 : eqAll zs l m with
          | none => simp only [h1, h2] at h; cases h
          | some b2 =>
            simp only [h1, h2] at h; cases h
            simp only [eqVals, eqOne_ok r0 s0 h1, ih l m cs ds b2 r1 s1 h2]
      | [], _, r, _ => have := r.1; simp at this
      | _ :: _, [], _, s => have := s.1; simp at this
    | [], _, h => simp only [eqAll] at h; cases h
    | _ :: _, [], h => simp only [eqAll] at h; cases h

/-- The model's own look ahead of '==' and '!=': nothing is in its way. -/
theorem eqGuard_ok {op : BinOp} {T : TypeId} {x y : Operand} {a b : Value} (h : (match a with | .nilIface => false | .agg _ => false | _ => true) = true ∨ (∃ l m, a = .agg l ∧ b = .agg m ∧ P.eqGuardType P.depth T = false)) :
    (eqGuard op T x y a b).run P w = .ok () w := by
  unfold eqGuard
  rcases h with h | ⟨l, m, rfl, rfl, h⟩
  · cases op <;> cases a <;> first | (simp at h; done) | (cases b <;> simp)
  · cases op <;> simp [h]

theorem run_equalIn_bool (d : Nat) {T : TypeId} (h : P.underlying T = some .bool) (a b : Bool) : (Op.equalIn (d + 1) T (.bool a) (.bool b)).run P w = .ok (a == b) w := by
  simp only [Op.equalIn, Sem.run_bind, run_underlying h, Result.andThen_ok, Sem.run_pure]
theorem run_equal_bool {T : TypeId} (h : P.underlying T = some .bool) (a b : Bool) : (Op.equal T (.bool a) (.bool b)).run P w = .ok (a == b) w := run_equalIn_bool 9999 h a b

/-! Whole arrays side by side. -/
theorem castL_is {t t' : DT} {xs : List t'.T} {ys : List t.T} (h : castL t t' xs = some ys) : ∃ e : t' = t, ys = e ▸ xs := by
  unfold castL at h
  cases t <;> cases t' <;> simp only at h <;> try (cases h; done)
  all_goals first
    | (cases h; exact ⟨rfl, rfl⟩)
    | (split at h
       · rename_i e; subst e; cases h; exact ⟨rfl, rfl⟩
       · cases h)

theorem asVec_ok {t : DT} {n : Nat} {y : V} {u : Value} (r : Rep K ρ G w y u) {p : Prop} {ys : List t.T} (h : asVec t n y = some (p, ys)) (hp : p) :
    Rep K ρ G w (.vec t n ys) u := by
  unfold asVec at h
  split at h
  · rename_i t' n' ys'
    replace h := bif_some h; obtain ⟨hc, h1⟩ := h
    have := Nat.eq_of_beq_eq_true hc
    subst this
    cases hz : castL t t' ys' with
    | none => rw [hz] at h1; cases h1
    | some zs =>
      rw [hz] at h1
      cases h1
      obtain ⟨e, rfl⟩ := castL_is hz
      subst e
      exact r
  · rename_i m
    obtain ⟨hc, h⟩ := bif_some h
    have hc := Nat.eq_of_beq_eq_true hc
    obtain ⟨hl, hs⟩ := decAll_cell t n m p ys h hp
    cases r with
    | agg _ cs hl' hr =>
      refine .vec t n ys cs hl (by rw [hl', hc]) fun q hq j c hj => ?_
      obtain ⟨c', h1, h2⟩ := hs q hq j c hj
      exact h2 _ _ _ _ _ (hr _ _ h1)
  · cases h

theorem eqVals_bytes : ∀ (zs : List V) (xs ys : List UInt8), zs.all (zOk .u8) = true → zs.length = xs.length → zs.length = ys.length →
    eqVals zs (xs.map fun x => .int .u8 (x.toNat : Int)) (ys.map fun x => .int .u8 (x.toNat : Int)) = some (xs == ys)
  | [], [], [], _, _, _ => rfl
  | [], _ :: _, _, _, h, _ => by simp at h
  | [], [], _ :: _, _, _, h => by simp at h
  | _ :: _, [], _, _, h, _ => by simp at h
  | _ :: _, _ :: _, [], _, _, h => by simp at h
  | z :: zs, x :: xs, y :: ys, hz, h1, h2 => by
    simp only [List.all_cons, Bool.and_eq_true] at hz
    have ih := eqVals_bytes zs xs ys hz.2 (by simpa using h1) (by simpa using h2)
    obtain ⟨n, rfl⟩ : ∃ n, z = .v (.int .u8 n) := by
      have := hz.1
      unfold zOk at this
      split at this
      · exact ⟨_, rfl⟩
      · rename_i e; cases e
      · cases this
    simp only [List.map_cons, eqVals, ih, eqVal, and_self, if_true]
    congr 1
    rw [Bool.eq_iff_iff]
    simp only [Bool.and_eq_true, beq_iff_eq, List.cons.injEq]
    constructor
    · rintro ⟨e, e'⟩; exact ⟨UInt8.toNat.inj (by omega), e'⟩
    · rintro ⟨e, e'⟩; exact ⟨by rw [e], e'⟩

theorem eqVals_ints (k : IntKind) : ∀ (zs : List V) (xs ys : List Int), zs.all (zOk (.int k)) = true → zs.length = xs.length → zs.length = ys.length →
    eqVals zs (xs.map fun x => .int k x) (ys.map fun x => .int k x) = some (xs == ys)
  | [], [], [], _, _, _ => rfl
  | [], _ :: _, _, _, h, _ => by simp at h
  | [], [], _ :: _, _, _, h => by simp at h
  | _ :: _, [], _, _, h, _ => by simp at h
  | _ :: _, _ :: _, [], _, _, h => by simp at h
  | z :: zs, x :: xs, y :: ys, hz, h1, h2 => by
    simp only [List.all_cons, Bool.and_eq_true] at hz
    have ih := eqVals_ints k zs xs ys hz.2 (by simpa using h1) (by simpa using h2)
    obtain ⟨n, rfl⟩ : ∃ n, z = .v (.int k n) := by
      have := hz.1
      unfold zOk at this
      split at this
      · rename_i e; cases e
      · rename_i k1 k2 n e
        split at this
        · rename_i e2; cases e; subst e2; exact ⟨_, rfl⟩
        · cases this
      · cases this
    simp only [List.map_cons, eqVals, ih, eqVal, and_self, if_true]
    rfl

theorem vec_bytes {n : Nat} {xs : List UInt8} {u : Value} (r : Rep K ρ G w (.vec .u8 n xs) u) : xs.length = n ∧ u = .agg (xs.map fun x => Value.int .u8 (x.toNat : Int)).toArray := by
  cases r with
  | vec _ _ _ cs hl hs hr =>
    refine ⟨hl, ?_⟩
    congr 2
    have hs' : cs.length = xs.length := (hs.trans (Nat.mul_one n)).trans hl.symm
    refine List.ext_getElem (by simpa using hs') fun i h1 h2 => ?_
    have hi : i < xs.length := by omega
    have e : (enc .u8 xs[i])[0]? = some (.b xs[i]) := rfl
    have := hr i hi 0 _ e
    rw [show i * DT.size .u8 + 0 = i from by simp [DT.size]] at this
    have e3 : cs.getD i default = cs[i] := by simp [List.getD, h1]
    rw [e3] at this
    rw [List.getElem_map]
    generalize cs[i] = v at this ⊢
    cases this
    rfl

theorem vec_ints {k : IntKind} {n : Nat} {xs : List Int} {u : Value} (r : Rep K ρ G w (.vec (.int k) n xs) u) : xs.length = n ∧ u = .agg (xs.map fun x => Value.int k x).toArray := by
  cases r with
  | vec _ _ _ cs hl hs hr =>
    refine ⟨hl, ?_⟩
    congr 2
    have hs' : cs.length = xs.length := (hs.trans (Nat.mul_one n)).trans hl.symm
    refine List.ext_getElem (by simpa using hs') fun i h1 h2 => ?_
    have hi : i < xs.length := by omega
    have e : (enc (.int k) xs[i])[0]? = some (.v (.int k xs[i])) := rfl
    have := hr i hi 0 _ e
    rw [show i * DT.size (.int k) + 0 = i from by simp [DT.size]] at this
    have e3 : cs.getD i default = cs[i] := by simp [List.getD, h1]
    rw [e3] at this
    rw [List.getElem_map]
    generalize cs[i] = v at this ⊢
    cases this
    rfl

theorem eqVec_ok (hti : TiOK P ti) {op : BinOp} {T : TypeId} {t : DT} {n : Nat} {xs : List t.T} {y : V} {flip : Bool} {u v : Value} (rx : Rep K ρ G w (.vec t n xs) u) (ry : Rep K ρ G w y v) {e : Eff} (h : eqVec ti T t n xs y flip op = some e) (hn : e.need) :
    e.plain ∧ (∃ l m, (bif flip then v else u) = .agg l ∧ (bif flip then u else v) = .agg m ∧ P.eqGuardType P.depth T = false) ∧ ∃ z, (binOp op T (bif flip then v else u) (bif flip then u else v)).run P w = .ok z w ∧ Rep K ρ G w e.val z := by
  unfold eqVec at h
  obtain ⟨hc, h⟩ := bif_some h
  simp only [Bool.and_eq_true] at hc
  obtain ⟨⟨⟨c1, c2⟩, c3⟩, c4⟩ := hc
  have c4 := Nat.eq_of_beq_eq_true c4
  split at h
  · rename_i p ys hy
    have key : ∀ b : Bool, eqL t (bif flip then ys else xs) (bif flip then xs else ys) = some b → p → ∃ l m : List Value, (bif flip then v else u) = .agg l.toArray ∧ (bif flip then u else v) = .agg m.toArray ∧ eqVals (ti T).zero l m = some b := by
      intro b hb hp
      have ry' := asVec_ok ry hy hp
      cases t with
      | u8 =>
        obtain ⟨l1, rfl⟩ := vec_bytes rx
        obtain ⟨l2, rfl⟩ := vec_bytes ry'
        simp only [eqL, Option.some.injEq] at hb
        subst hb
        cases flip
        · exact ⟨_, _, rfl, rfl, eqVals_bytes _ _ _ c3 (by omega) (by omega)⟩
        · exact ⟨_, _, rfl, rfl, eqVals_bytes _ _ _ c3 (by omega) (by omega)⟩
      | int k =>
        obtain ⟨l1, rfl⟩ := vec_ints rx
        obtain ⟨l2, rfl⟩ := vec_ints ry'
        simp only [eqL, Option.some.injEq] at hb
        subst hb
        cases flip
        · exact ⟨_, _, rfl, rfl, eqVals_ints k _ _ _ c3 (by omega) (by omega)⟩
        · exact ⟨_, _, rfl, rfl, eqVals_ints k _ _ _ c3 (by omega) (by omega)⟩
      | _ => simp only [eqL] at hb; cases hb
    split at h
    · rename_i b hb _
      cases h
      obtain ⟨l, m, e1, e2, e3⟩ := key b hb hn
      obtain ⟨e4, e5⟩ := (hti T c2).eq c1 l m b w e3
      rw [e1, e2]
      exact ⟨⟨rfl, rfl⟩, ⟨_, _, rfl, rfl, e5⟩, .bool b, by simp only [binOp, Sem.run_bind, e4, Result.andThen_ok, Sem.run_pure], .v _⟩
    · rename_i b hb _
      cases h
      obtain ⟨l, m, e1, e2, e3⟩ := key b hb hn
      obtain ⟨e4, e5⟩ := (hti T c2).eq c1 l m b w e3
      rw [e1, e2]
      exact ⟨⟨rfl, rfl⟩, ⟨_, _, rfl, rfl, e5⟩, .bool (!b), by simp only [binOp, Sem.run_bind, e4, Result.andThen_ok, Sem.run_pure], .v _⟩
    · cases h
  · cases h

theorem binV_ok (hti : TiOK P ti) (fl : FlOK) {op : BinOp} {T : TypeId} {x y : V} {u v : Value} (rx : Rep K ρ G w x u) (ry : Rep K ρ G w y v) {e : Eff} (h : binV ti op T x y = some e) (hn : e.need) (xo yo : Operand) :
    e.plain ∧ ∃ z, (do eqGuard op T xo yo u v; binOp op T u v).run P w = .ok z w ∧ Rep K ρ G w e.val z := by
  have done : ∀ {u v : Value}, ((match u with | .nilIface => false | .agg _ => false | _ => true) = true ∨ (∃ l m, u = .agg l ∧ v = .agg m ∧ P.eqGuardType P.depth T = false)) →
      (e.plain ∧ ∃ z, (binOp op T u v).run P w = .ok z w ∧ Rep K ρ G w e.val z) → e.plain ∧ ∃ z, (do eqGuard op T xo yo u v; binOp op T u v).run P w = .ok z w ∧ Rep K ρ G w e.val z := by
    intro u v hg ⟨hp, z, hr, hz⟩
    exact ⟨hp, z, by simp [eqGuard_ok hg, hr], hz⟩
  unfold binV at h
  split at h
  · obtain ⟨h1, h2, h3⟩ := eqVec_ok hti rx ry h hn
    simp only [cond_false] at h2 h3
    exact done (.inr h2) ⟨h1, h3⟩
  · obtain ⟨h1, h2, h3⟩ := eqVec_ok hti ry rx h hn
    simp only [cond_true] at h2 h3
    exact done (.inr h2) ⟨h1, h3⟩
  · -- two numbers
    rename_i k a k' b
    cases rx; cases ry
    refine done (.inl rfl) ?_
    split at h
    · simp only [Eff.if] at h; cases h; exact ⟨⟨rfl, rfl⟩, _, (shiftV_ok hn T).1, .v _⟩
    · simp only [Eff.if] at h; cases h; exact ⟨⟨rfl, rfl⟩, _, (shiftV_ok hn T).2, .v _⟩
    · split at h
      · rename_i hk; subst hk; exact intV_ok h hn T
      · cases h
  · rename_i a k' b
    cases rx; cases ry
    refine done (.inl rfl) ?_
    split at h
    · simp only [Eff.if] at h; cases h; exact ⟨⟨rfl, rfl⟩, _, (shiftV_ok hn T).1, .v _⟩
    · simp only [Eff.if] at h; cases h; exact ⟨⟨rfl, rfl⟩, _, (shiftV_ok hn T).2, .v _⟩
    · split at h
      · rename_i hk; subst hk; exact intV_ok h hn T
      · cases h
  · rename_i k a b
    cases rx; cases ry
    refine done (.inl rfl) ?_
    split at h
    · cases h
    · cases h
    · split at h
      · rename_i hk; subst hk; exact intV_ok h hn T
      · cases h
  · rename_i a b
    cases rx; cases ry
    refine done (.inl rfl) ?_
    split at h
    · cases h
    · cases h
    · simp only [Eff.pure] at h; cases h
      refine ⟨⟨rfl, rfl⟩, .int .u8 ((a ^^^ b).toNat : Int), ?_, .b _⟩
      rw [← u8_xor]
      simp [binOp, Op.intBits, bitsI]
    · simp only [Eff.pure] at h; cases h
      refine ⟨⟨rfl, rfl⟩, .bool (a == b), ?_, .v _⟩
      have : ((a.toNat : Int) == (b.toNat : Int)) = (a == b) := by
        rw [Bool.eq_iff_iff]; simp only [beq_iff_eq]
        exact ⟨fun e => UInt8.toNat.inj (by omega), fun e => by rw [e]⟩
      simp [binOp, Op.intCmp, ← this]
    · simp only [Eff.pure] at h; cases h
      refine ⟨⟨rfl, rfl⟩, .bool (a != b), ?_, .v _⟩
      have : ((a.toNat : Int) == (b.toNat : Int)) = (a == b) := by
        rw [Bool.eq_iff_iff]; simp only [beq_iff_eq]
        exact ⟨fun e => UInt8.toNat.inj (by omega), fun e => by rw [e]⟩
      simp only [binOp, ne_eq, not_true_eq_false, ↓reduceIte, Op.intCmp, bne, this, Sem.run_pure]
    · exact intV_ok h hn T
  · cases rx; cases ry; exact done (.inl rfl) (strV_ok h hn T)
  · rename_i a b
    cases rx; cases ry
    refine done (.inl rfl) ?_
    split at h
    · rename_i hk hkn
      simp only [Eff.pure] at h; cases h
      have hu := (hti T hkn).und
      rw [hk] at hu
      exact ⟨⟨rfl, rfl⟩, .bool (a == b), by simp only [binOp, Sem.run_bind, run_equal_bool hu.1, Result.andThen_ok, Sem.run_pure], .v _⟩
    · rename_i hk hkn
      simp only [Eff.pure] at h; cases h
      have hu := (hti T hkn).und
      rw [hk] at hu
      exact ⟨⟨rfl, rfl⟩, .bool (!(a == b)), by simp only [binOp, Sem.run_bind, run_equal_bool hu.1, Result.andThen_ok, Sem.run_pure], .v _⟩
    · cases h
  · cases rx; cases ry; exact done (.inl rfl) (flV_ok fl h hn T)
  · cases rx; cases ry; exact done (.inl rfl) (cxV_ok fl h hn T)
  · rename_i l m
    replace h := bif_some h; obtain ⟨hc, h⟩ := h
    simp only [Bool.and_eq_true] at hc
    cases rx with | agg _ cs hl hr =>
    cases ry with | agg _ ds hl' hr' =>
    split at h
    · rename_i op' b hb
      simp only [Eff.pure] at h; cases h
      obtain ⟨e1, e2⟩ := (hti T hc.2).eq hc.1 cs ds b w (eqAll_ok _ _ _ _ _ _ ⟨hl, hr⟩ ⟨hl', hr'⟩ hb)
      exact done (.inr ⟨_, _, rfl, rfl, e2⟩) ⟨⟨rfl, rfl⟩, .bool b, by simp only [binOp, Sem.run_bind, e1, Result.andThen_ok, Sem.run_pure], .v _⟩
    · rename_i op' b hb
      simp only [Eff.pure] at h; cases h
      obtain ⟨e1, e2⟩ := (hti T hc.2).eq hc.1 cs ds b w (eqAll_ok _ _ _ _ _ _ ⟨hl, hr⟩ ⟨hl', hr'⟩ hb)
      exact done (.inr ⟨_, _, rfl, rfl, e2⟩) ⟨⟨rfl, rfl⟩, .bool (!b), by simp only [binOp, Sem.run_bind, e1, Result.andThen_ok, Sem.run_pure], .v _⟩
    · cases h
  · cases h
end
end Go.Proofs.Ytbkhhfekdpkhbaa.Ab
