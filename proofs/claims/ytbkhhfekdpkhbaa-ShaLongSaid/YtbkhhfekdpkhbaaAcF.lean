/- Floats of small whole numbers are those numbers; no condition. -/
import Derived.Test.YtbkhhfekdpkhbaaAcE
namespace Go.Proofs.Ytbkhhfekdpkhbaa.Ab
open Go

theorem log2_bounds {m : Nat} (h : m ≠ 0) : 2 ^ m.log2 ≤ m ∧ m < 2 ^ (m.log2 + 1) := ⟨Nat.log2_self_le h, Nat.lt_log2_self⟩
theorem log2_shl (m k : Nat) (h : m ≠ 0) : (m * 2 ^ k).log2 = m.log2 + k := by
  have h1 := log2_bounds h
  have h2 : m * 2 ^ k ≠ 0 := Nat.mul_ne_zero h (by have := Nat.two_pow_pos k; omega)
  rw [Nat.log2_eq_iff h2, Nat.pow_add, Nat.pow_add, Nat.pow_add]
  have hk := Nat.two_pow_pos k
  refine ⟨Nat.mul_le_mul_right _ h1.1, ?_⟩
  have := Nat.mul_lt_mul_of_pos_right h1.2 hk
  rw [Nat.pow_add] at this
  calc m * 2 ^ k < 2 ^ m.log2 * 2 ^ 1 * 2 ^ k := this
    _ = 2 ^ m.log2 * 2 ^ k * 2 ^ 1 := by rw [Nat.mul_assoc, Nat.mul_comm (2 ^ 1), ← Nat.mul_assoc]

theorem cut_zero (way : Ieee.Toward) (neg : Bool) (n d : Nat) (hd : d ≤ (n * 2 ^ d).log2 + 2) : way.cut neg (n * 2 ^ d) d = n := by
  unfold Ieee.Toward.cut
  have hg : 1 <<< min d ((n * 2 ^ d).log2 + 2) = 2 ^ d := by rw [Nat.min_eq_left hd, Nat.shiftLeft_eq, Nat.one_mul]
  have hp := Nat.two_pow_pos d
  simp only [hg, Nat.mul_div_cancel _ hp, Nat.mul_mod_left]
  cases way <;> simp <;> omega

theorem lp_is : Ieee.double.leastPlace = -1074 := by decide
theorem bin_is : Ieee.double.binade = 4503599627370496 := by decide
theorem inf_is : Ieee.double.infRung = 9218868437227405312 := by decide
theorem sw_is : Ieee.double.signWeight = 9223372036854775808 := by decide

theorem top_digits {m : Nat} (h0 : m ≠ 0) (h : m < 9007199254740992) : m.log2 < 53 ∧ 4503599627370496 ≤ m * 2 ^ (52 - m.log2) ∧ m * 2 ^ (52 - m.log2) < 9007199254740992 := by
  have hL : m.log2 < 53 := (Nat.log2_lt h0).2 h
  have hb := log2_bounds h0
  refine ⟨hL, ?_, ?_⟩
  · have := Nat.mul_le_mul_right (2 ^ (52 - m.log2)) hb.1
    rw [← Nat.pow_add] at this
    rwa [show m.log2 + (52 - m.log2) = 52 by omega] at this
  · have := Nat.mul_lt_mul_of_pos_right hb.2 (Nat.two_pow_pos (52 - m.log2))
    rw [← Nat.pow_add] at this
    rwa [show m.log2 + 1 + (52 - m.log2) = 53 by omega] at this

theorem kept_is (neg : Bool) (m k L : Nat) (h0 : m ≠ 0) (hL : m.log2 = L) : Ieee.Toward.even.cut neg ((m * 2 ^ k) <<< (-(k : Int) - ((L : Int) - 52)).toNat) ((L : Int) - 52 - -(k : Int)).toNat = m * 2 ^ (52 - L) ∨ ¬ L < 53 := by
  by_cases hl : L < 53
  · refine .inl ?_
    by_cases c : k ≤ 52 - L
    · have e1 : (-(k : Int) - ((L : Int) - 52)).toNat = 52 - L - k := by omega
      have e2 : ((L : Int) - 52 - -(k : Int)).toNat = 0 := by omega
      rw [e1, e2, Nat.shiftLeft_eq, Nat.mul_assoc, ← Nat.pow_add]
      have e3 : k + (52 - L - k) = 52 - L := by omega
      rw [e3]
      have := cut_zero .even neg (m * 2 ^ (52 - L)) 0 (Nat.zero_le _)
      rwa [Nat.pow_zero, Nat.mul_one] at this
    · have e1 : (-(k : Int) - ((L : Int) - 52)).toNat = 0 := by omega
      have e2 : ((L : Int) - 52 - -(k : Int)).toNat = k - (52 - L) := by omega
      rw [e1, e2, Nat.shiftLeft_eq, Nat.pow_zero, Nat.mul_one]
      have e3 : m * 2 ^ k = m * 2 ^ (52 - L) * 2 ^ (k - (52 - L)) := by
        rw [Nat.mul_assoc, ← Nat.pow_add, show 52 - L + (k - (52 - L)) = k by omega]
      rw [e3]
      refine cut_zero .even neg _ _ ?_
      rw [← e3, log2_shl m k h0]; omega
  · exact .inr hl

theorem near (neg : Bool) (m k : Nat) (h0 : m ≠ 0) (h : m < 9007199254740992) :
    Ieee.double.nearest neg (m * 2 ^ k) (-(k : Int)) = Ieee.double.word neg ((m.log2 + 1022) * 4503599627370496 + m * 2 ^ (52 - m.log2)) := by
  obtain ⟨hL, hM1, hM2⟩ := top_digits h0 h
  have hm : m * 2 ^ k ≠ 0 := Nat.mul_ne_zero h0 (by have := Nat.two_pow_pos k; omega)
  unfold Ieee.Format.nearest
  rw [if_neg hm, log2_shl m k h0, lp_is, bin_is, inf_is]
  have hkept := (kept_is neg m k m.log2 h0 rfl).resolve_right (fun h => h hL)
  generalize m * 2 ^ (52 - m.log2) = M at *
  generalize m.log2 = L at *
  have hlast : max (-(k : Int) + ((L + k : Nat) : Int) - ((Ieee.double.fractionBits : Nat) : Int)) (-1074) = (L : Int) - 52 := by
    show max (-(k : Int) + ((L + k : Nat) : Int) - ((52 : Nat) : Int)) (-1074) = (L : Int) - 52
    omega
  simp only [hlast, hkept]
  have e4 : ((L : Int) - 52 - -1074).toNat = L + 1022 := by omega
  rw [e4, Nat.min_eq_left (by omega)]

theorem word_read (neg : Bool) (L M : Nat) (hL : L < 53) (h1 : 4503599627370496 ≤ M) (h2 : M < 9007199254740992) :
    Ieee.double.read (Ieee.double.word neg ((L + 1022) * 4503599627370496 + M)) = .number neg M ((L : Int) - 52) := by
  unfold Ieee.Format.read
  rw [sw_is, bin_is, inf_is, lp_is]
  have hneg : (Ieee.double.word neg ((L + 1022) * 4503599627370496 + M) / 9223372036854775808 % 2 == 1) = neg := by
    unfold Ieee.Format.word
    rw [sw_is]
    cases neg
    · simp only [Bool.false_eq_true, if_false]
      rw [beq_eq_false_iff_ne]; omega
    · simp only [if_true]
      rw [beq_iff_eq]; omega
  have hmod : Ieee.double.word neg ((L + 1022) * 4503599627370496 + M) % 9223372036854775808 = (L + 1022) * 4503599627370496 + M := by
    unfold Ieee.Format.word
    rw [sw_is]
    split <;> omega
  simp only [hneg, hmod]
  rw [if_neg (by omega), if_pos (by omega)]
  have e1 : 4503599627370496 + ((L + 1022) * 4503599627370496 + M) % 4503599627370496 = M := by omega
  have e2 : ((L + 1022) * 4503599627370496 + M) / 4503599627370496 - 1 = L + 1022 := by omega
  have e3 : (-1074 : Int) + ((L + 1022 : Nat) : Int) = (L : Int) - 52 := by omega
  rw [e1, e2, e3]

theorem neg_cast0 : -((0 : Nat) : Int) = 0 := rfl
theorem nearest_def (n : Int) : FloatKind.f64.nearest n = Ieee.double.nearest (decide (n < 0)) n.natAbs 0 := rfl
theorem nearest_zero (p : Int) : Ieee.double.nearest false 0 p = FloatKind.f64.nearest 0 := by
  rw [nearest_def]
  have hd : decide ((0 : Int) < 0) = false := rfl
  rw [hd, Int.natAbs_zero]
  unfold Ieee.Format.nearest
  rw [if_pos rfl, if_pos rfl]
theorem nearest_int (n : Int) (h : small n) (h0 : n ≠ 0) : FloatKind.f64.nearest n = Ieee.double.word (decide (n < 0)) ((n.natAbs.log2 + 1022) * 4503599627370496 + n.natAbs * 2 ^ (52 - n.natAbs.log2)) := by
  obtain ⟨h1, h2⟩ := h
  have := near (decide (n < 0)) n.natAbs 0 (by omega) (by omega)
  rw [Nat.pow_zero, Nat.mul_one, neg_cast0] at this
  rw [nearest_def]
  exact this

theorem read_zero : Ieee.double.read (FloatKind.f64.nearest 0) = .number false 0 (-1074) := by decide

/-- What a float of a small number is. -/
theorem read_near (n : Int) (h : small n) : ∃ k : Nat, Ieee.double.read (FloatKind.f64.nearest n) = .number (decide (n < 0)) (n.natAbs * 2 ^ k) (-(k : Int)) ∧ k ≤ 1074 := by
  by_cases h0 : n = 0
  · subst h0
    obtain ⟨k, hk⟩ : ∃ k : Nat, k = 1074 := ⟨_, rfl⟩
    refine ⟨k, ?_, by omega⟩
    rw [read_zero, Int.natAbs_zero, Nat.zero_mul, hk]
    rfl
  · have h' := h
    obtain ⟨h1, h2⟩ := h
    obtain ⟨hL, hM1, hM2⟩ := top_digits (m := n.natAbs) (by omega) (by omega)
    refine ⟨52 - n.natAbs.log2, ?_, by omega⟩
    rw [nearest_int n h' h0, word_read _ _ _ hL hM1 hM2]
    congr 1
    omega

theorem signed_shl (n : Int) (k j : Nat) : Ieee.signed (decide (n < 0)) (n.natAbs * 2 ^ k) j = n * 2 ^ (k + j) := by
  unfold Ieee.signed
  rw [Nat.shiftLeft_eq, Nat.mul_assoc, ← Nat.pow_add]
  by_cases c : n < 0
  · simp only [c, decide_true, if_true]
    have : n = -(n.natAbs : Int) := by omega
    rw [Int.natCast_mul]
    conv => rhs; rw [this]
    rw [Int.neg_mul]
    norm_cast
  · simp only [c, decide_false, Bool.false_eq_true, if_false]
    have : n = (n.natAbs : Int) := by omega
    rw [Int.natCast_mul]
    conv => rhs; rw [this]
    norm_cast

theorem pow_pos_int (k : Nat) : (0 : Int) < 2 ^ k := by
  have := Nat.two_pow_pos k
  exact_mod_cast this

theorem flOK : FlOK where
  ord a b ha hb := by
    obtain ⟨k, hk, _⟩ := read_near a ha
    obtain ⟨j, hj, _⟩ := read_near b hb
    unfold Ieee.Format.order
    show (Ieee.double.read _).order (Ieee.double.read _) = _
    rw [hk, hj]
    simp only [Ieee.Datum.order, signed_shl]
    congr 1
    have e1 : k + (-(k : Int) - min (-(k : Int)) (-(j : Int))).toNat = max k j := by omega
    have e2 : j + (-(j : Int) - min (-(k : Int)) (-(j : Int))).toNat = max k j := by omega
    rw [e1, e2]
    have hp := pow_pos_int (max k j)
    have hc : ∀ x y : Int, compare x y = if x < y then .lt else if x = y then .eq else .gt := fun _ _ => rfl
    rw [hc, hc]
    by_cases c : a < b
    · rw [if_pos c, if_pos (Int.mul_lt_mul_of_pos_right c hp)]
    · rw [if_neg c, if_neg (fun h => c (Int.lt_of_mul_lt_mul_right h (Int.le_of_lt hp)))]
      by_cases c2 : a = b
      · rw [if_pos c2, if_pos (by rw [c2])]
      · rw [if_neg c2, if_neg (fun h => c2 (Int.eq_of_mul_eq_mul_right (by omega) h))]
  add a b ha hb hab := by
    obtain ⟨k, hk, hk'⟩ := read_near a ha
    obtain ⟨j, hj, hj'⟩ := read_near b hb
    unfold Ieee.Format.add
    show ((Ieee.double.read _).sum (Ieee.double.read _)).map _ = _
    rw [hk, hj]
    simp only [Ieee.Datum.sum, signed_shl, Option.map_some]
    congr 1
    have e1 : k + (-(k : Int) - min (-(k : Int)) (-(j : Int))).toNat = max k j := by omega
    have e2 : j + (-(j : Int) - min (-(k : Int)) (-(j : Int))).toNat = max k j := by omega
    have e3 : min (-(k : Int)) (-(j : Int)) = -((max k j : Nat) : Int) := by omega
    rw [e1, e2, e3, ← Int.add_mul]
    have hp := pow_pos_int (max k j)
    have hmax : max k j ≤ 1074 := by omega
    generalize max k j = q at *
    show Ieee.double.nearest _ _ _ = _
    by_cases c : a + b = 0
    · rw [c]
      simp only [Int.zero_mul, if_true, Int.natAbs_zero]
      have : (decide (a < 0) && decide (b < 0)) = false := by
        simp only [Bool.and_eq_false_iff, decide_eq_false_iff_not]; omega
      rw [this]
      exact nearest_zero _
    · have hne : (a + b) * 2 ^ q ≠ 0 := Int.mul_ne_zero c (by omega)
      rw [if_neg hne]
      have hs : decide ((a + b) * 2 ^ q < 0) = decide (a + b < 0) := by
        by_cases d : a + b < 0
        · have := Int.mul_neg_of_neg_of_pos d hp
          simp [d, this]
        · have : 0 ≤ (a + b) * 2 ^ q := Int.mul_nonneg (by omega) (by omega)
          simp only [d, decide_false, decide_eq_false_iff_not]; omega
      have hn : ((a + b) * 2 ^ q).natAbs = (a + b).natAbs * 2 ^ q := by
        rw [Int.natAbs_mul]
        congr 1
      rw [hs, hn]
      obtain ⟨h1, h2⟩ := hab
      have h0 : (a + b).natAbs ≠ 0 := by omega
      have hlt : (a + b).natAbs < 9007199254740992 := by omega
      rw [near _ _ q h0 hlt, nearest_int (a + b) ⟨h1, h2⟩ c]
  back a ha := by
    obtain ⟨k, hk, hk'⟩ := read_near a ha
    unfold FloatKind.decode
    show (Ieee.double.read _).toInt .zero = _
    rw [hk]
    simp only [Ieee.Datum.toInt, Ieee.Datum.integral]
    congr 1
    have e1 : (-(k : Int)).toNat = 0 := by omega
    have e2 : (-(-(k : Int))).toNat = k := by omega
    rw [e1, e2, Nat.shiftLeft_eq, Nat.pow_zero, Nat.mul_one]
    have hcut : Ieee.Toward.zero.cut (decide (a < 0)) (a.natAbs * 2 ^ k) k = a.natAbs := by
      by_cases c : a = 0
      · subst c
        unfold Ieee.Toward.cut
        simp
      · refine cut_zero .zero _ _ _ ?_
        rw [log2_shl _ _ (by omega)]; omega
    rw [hcut]
    have := signed_shl a 0 0
    rw [Nat.pow_zero, Nat.mul_one] at this
    rw [this]
    simp
end Go.Proofs.Ytbkhhfekdpkhbaa.Ab
