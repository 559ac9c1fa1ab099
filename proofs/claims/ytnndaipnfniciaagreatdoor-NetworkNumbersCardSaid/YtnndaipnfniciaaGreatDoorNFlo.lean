/- Plain mathematics: quotients of integers by powers of two, as floats. No program in sight. -/
import Derived.Laws.FloatArith
namespace Go.Proofs.YtnndaipnfniciaaGreatDoor
open Ieee Go
set_option maxRecDepth 100000
theorem log2_bd {m : Nat} (h : m ≠ 0) : 2 ^ m.log2 ≤ m ∧ m < 2 ^ (m.log2 + 1) := ⟨Nat.log2_self_le h, Nat.lt_log2_self⟩
theorem log2_uni {m k : Nat} (h1 : 2 ^ k ≤ m) (h2 : m < 2 ^ (k + 1)) : m.log2 = k := by
  have h0 : m ≠ 0 := by have := Nat.two_pow_pos k; omega
  have a := (Nat.le_log2 h0).2 h1
  have b := (Nat.log2_lt h0).2 h2
  omega
theorem log2_shl {m : Nat} (t : Nat) (h : m ≠ 0) : (m * 2 ^ t).log2 = m.log2 + t := by
  obtain ⟨a, b⟩ := log2_bd h
  refine log2_uni ?_ ?_
  · rw [Nat.pow_add]; exact Nat.mul_le_mul_right _ a
  · rw [show m.log2 + t + 1 = (m.log2 + 1) + t by omega, Nat.pow_add]
    exact (Nat.mul_lt_mul_right (Nat.two_pow_pos t)).2 b
/-- The significand. -/
def mant (m : Nat) : Nat := m * 2 ^ (52 - m.log2)
theorem mant_shl {m t : Nat} (h : m ≠ 0) (hl : m.log2 + t ≤ 52) : mant (m * 2 ^ t) = mant m := by
  unfold mant
  rw [log2_shl t h, Nat.mul_assoc, ← Nat.pow_add]
  congr 2; omega
theorem mant_bd {m : Nat} (h : m ≠ 0) (hl : m.log2 ≤ 52) : 4503599627370496 ≤ mant m ∧ mant m < 9007199254740992 := by
  obtain ⟨a, b⟩ := log2_bd h
  unfold mant
  have e1 : 2 ^ m.log2 * 2 ^ (52 - m.log2) = 4503599627370496 := by rw [← Nat.pow_add, show m.log2 + (52 - m.log2) = 52 by omega]
  have e2 : 2 ^ (m.log2 + 1) * 2 ^ (52 - m.log2) = 9007199254740992 := by rw [← Nat.pow_add, show m.log2 + 1 + (52 - m.log2) = 53 by omega]
  exact ⟨by rw [← e1]; exact Nat.mul_le_mul_right _ a, by rw [← e2]; exact (Nat.mul_lt_mul_right (Nat.two_pow_pos _)).2 b⟩
theorem cut_zero (neg : Bool) (n : Nat) : Toward.even.cut neg n 0 = n := by simp [Toward.cut, Nat.mod_one]
theorem dbl_binade : double.binade = 4503599627370496 := by rfl
theorem dbl_inf : double.infRung = 2047 * 4503599627370496 := by rfl
theorem dbl_least : double.leastPlace = -1074 := by rfl
theorem dbl_sign : double.signWeight = 9223372036854775808 := by rfl
theorem nearest_int (neg : Bool) {m : Nat} (h : m ≠ 0) (hl : m.log2 ≤ 52) : double.nearest neg m 0 = double.word neg ((m.log2 + 1022) * 4503599627370496 + mant m) := by
  unfold Format.nearest
  rw [if_neg h, dbl_binade, dbl_inf, dbl_least]
  have e1 : max ((0 : Int) + (m.log2 : Int) - (double.fractionBits : Int)) (-1074) = (m.log2 : Int) - 52 := by
    show max ((0 : Int) + (m.log2 : Int) - 52) (-1074) = _
    omega
  simp only [e1]
  have e2 : ((0 : Int) - ((m.log2 : Int) - 52)).toNat = 52 - m.log2 := by omega
  have e3 : ((m.log2 : Int) - 52 - 0).toNat = 0 := by omega
  have e4 : ((m.log2 : Int) - 52 - (-1074)).toNat = m.log2 + 1022 := by omega
  rw [e2, e3, e4, cut_zero, Nat.shiftLeft_eq]
  have hb := mant_bd h hl
  unfold mant at hb ⊢
  rw [Nat.min_eq_left (by omega)]
theorem read_word (neg : Bool) {e k : Nat} (h1 : 4503599627370496 ≤ k) (h2 : k < 9007199254740992) (he : e ≤ 2000) : double.read (double.word neg (e * 4503599627370496 + k)) = .number neg k ((e : Int) - 1074) := by
  have hw : double.word neg (e * 4503599627370496 + k) / 9223372036854775808 % 2 = neg.toNat ∧ double.word neg (e * 4503599627370496 + k) % 9223372036854775808 = e * 4503599627370496 + k := by
    unfold Format.word
    rw [dbl_sign]
    cases neg
    · simp; omega
    · simp; omega
  unfold Format.read
  rw [dbl_binade, dbl_inf, dbl_least, dbl_sign, hw.1, hw.2]
  have g1 : ¬ e * 4503599627370496 + k < 4503599627370496 := by omega
  have g2 : e * 4503599627370496 + k < 2047 * 4503599627370496 := by omega
  simp only [if_neg g1, if_pos g2]
  have d1 : (e * 4503599627370496 + k) % 4503599627370496 = k - 4503599627370496 := by omega
  have d2 : (e * 4503599627370496 + k) / 4503599627370496 = e + 1 := by omega
  rw [d1, d2, show 4503599627370496 + (k - 4503599627370496) = k by omega, show -1074 + ((e + 1 - 1 : Nat) : Int) = (e : Int) - 1074 by omega]
  cases neg <;> rfl
theorem log2_le52 {m : Nat} (h : m ≠ 0) (h2 : m < 9007199254740992) : m.log2 ≤ 52 := by
  have := (Nat.log2_lt (k := 53) h).2 h2
  omega
theorem read_int {n : Int} (h0 : n ≠ 0) (h : n.natAbs < 9007199254740992) : double.read (floatOfInt .f64 n) = .number (n < 0) (mant n.natAbs) ((n.natAbs.log2 : Int) - 52) := by
  have hz : n.natAbs ≠ 0 := by omega
  have hl := log2_le52 hz h
  have hb := mant_bd hz hl
  show double.read (double.nearest (n < 0) n.natAbs 0) = _
  rw [nearest_int _ hz hl, read_word _ hb.1 hb.2 (by omega)]
  congr 1; omega
theorem quo_same (dg : Nat) (s t : Bool) (m n : Nat) (hn : n ≠ 0) {i j i' j' : Int} (h : i - j = i' - j') : (Datum.number s m i).quotient dg (.number t n j) = (Datum.number s m i').quotient dg (.number t n j') := by
  simp only [Datum.quotient, if_neg hn, h]
theorem pow_ne (j : Nat) : ((2 : Int) ^ j).natAbs = 2 ^ j := by rw [Int.natAbs_pow]; rfl
theorem log2_pow (j : Nat) : (2 ^ j).log2 = j := log2_uni (Nat.le_refl _) (Nat.pow_lt_pow_right (by decide) (by omega))
theorem mant_pow {j : Nat} (h : j ≤ 52) : mant (2 ^ j) = 4503599627370496 := by
  unfold mant
  rw [log2_pow, ← Nat.pow_add, show j + (52 - j) = 52 by omega]
theorem read_pow {j : Nat} (h : j ≤ 16) : double.read (floatOfInt .f64 ((2 : Int) ^ j)) = .number false 4503599627370496 ((j : Int) - 52) := by
  have hp : (0 : Int) < 2 ^ j := Int.pow_pos (by decide)
  have hle : 2 ^ j ≤ 2 ^ 16 := Nat.pow_le_pow_right (by decide) h
  rw [read_int (by omega) (by rw [pow_ne]; omega), pow_ne, mant_pow (by omega), log2_pow]
  simp; exact Int.le_of_lt hp
theorem is_unit : floatOfInt .f64 65536 = 4679240012837945344 := by decide +kernel
theorem read_unit : double.read 4679240012837945344 = .number false 4503599627370496 (-36) := by decide +kernel
theorem read_none : double.read (floatOfInt .f64 0) = .number false 0 (-1074) := by decide +kernel
theorem near_none (s : Bool) (i : Int) : double.nearest s 0 i = double.word s 0 := by unfold Format.nearest; rw [if_pos rfl]
theorem order_self {x : Nat} (h : (double.read x).isNaN = false) : double.order x x = some .eq := by
  unfold Format.order
  cases hd : double.read x with
  | number s m i => simp [Datum.order]
  | infinity s => simp [Datum.order]
  | nan s f => rw [hd] at h; cases h
theorem nan_word (neg : Bool) {r : Nat} (h : r ≤ double.infRung) : (double.read (double.word neg r)).isNaN = false := by
  have hw : double.word neg r % 9223372036854775808 = r := by
    rw [dbl_inf] at h
    unfold Format.word
    rw [dbl_sign]
    cases neg
    · simp; omega
    · simp; omega
  unfold Format.read
  simp only [dbl_sign, hw]
  split
  · rfl
  · split
    · rfl
    · rw [if_pos (by omega)]; rfl
theorem nan_near (neg : Bool) (m : Nat) (i : Int) : (double.read (double.nearest neg m i)).isNaN = false := by
  unfold Format.nearest
  split
  · exact nan_word _ (Nat.zero_le _)
  · exact nan_word _ (Nat.min_le_right _ _)
theorem quo_some (dg : Nat) (s t : Bool) (m n : Nat) (hn : n ≠ 0) (i j : Int) : ∃ b k p, (Datum.number s m i).quotient dg (.number t n j) = some (.number b k p) := by
  simp only [Datum.quotient, if_neg hn]
  exact ⟨_, _, _, rfl⟩
/-- An integer over a power of two, and the same integer of more halves over 65536, have the same bits. -/
theorem div_same {n a : Int} {j : Nat} (hj : j ≤ 16) (ha : a = n * 2 ^ (16 - j)) (hn : n.natAbs ≤ 3600000000) :
    ∃ r, floatBits .quo .f64 (floatOfInt .f64 n) (floatOfInt .f64 ((2 : Int) ^ j)) = some r ∧ floatBits .quo .f64 (floatOfInt .f64 a) 4679240012837945344 = some r ∧ double.order r r = some .eq := by
  show ∃ r, double.div (floatOfInt .f64 n) (floatOfInt .f64 ((2 : Int) ^ j)) = some r ∧ double.div (floatOfInt .f64 a) 4679240012837945344 = some r ∧ _
  unfold Format.div
  rw [read_pow hj, read_unit]
  by_cases h0 : n = 0
  · subst h0
    rw [Int.zero_mul] at ha
    subst ha
    rw [read_none]
    refine ⟨double.word false 0, ?_, ?_, by decide +kernel⟩
    · simp only [Datum.quotient, Option.map, Format.write]
      simp [near_none]
    · simp only [Datum.quotient, Option.map, Format.write]
      simp [near_none]
  · have hz : n.natAbs ≠ 0 := by omega
    have hap : a.natAbs = n.natAbs * 2 ^ (16 - j) := by rw [ha, Int.natAbs_mul, pow_ne]
    have hp : 2 ^ (16 - j) ≤ 2 ^ 16 := Nat.pow_le_pow_right (by decide) (by omega)
    have hpp := Nat.two_pow_pos (16 - j)
    have hab : a.natAbs < 9007199254740992 := by
      rw [hap]
      have := Nat.mul_le_mul hn hp
      omega
    have haz : a.natAbs ≠ 0 := by rw [hap]; exact Nat.mul_ne_zero hz (by omega)
    have hl : n.natAbs.log2 + (16 - j) ≤ 52 := by
      rw [← log2_shl _ hz, ← hap]
      exact log2_le52 haz hab
    have hs : (decide (a < 0)) = decide (n < 0) := by
      have h2 : (0 : Int) < 2 ^ (16 - j) := Int.pow_pos (by decide)
      have : a < 0 ↔ n < 0 := by
        rw [ha]
        constructor
        · intro h
          by_cases hq : n < 0
          · exact hq
          · have := Int.mul_nonneg (show 0 ≤ n by omega) (show 0 ≤ (2 : Int) ^ (16 - j) by omega); omega
        · intro h; exact Int.mul_neg_of_neg_of_pos h h2
      simp [this]
    rw [read_int h0 (by omega), read_int (by omega) hab, hs, hap, mant_shl hz hl, log2_shl _ hz]
    obtain ⟨b, k, p, hq⟩ := quo_some (double.fractionBits + 2) (decide (n < 0)) false (mant n.natAbs) 4503599627370496 (by decide) ((n.natAbs.log2 : Int) - 52) ((j : Int) - 52)
    refine ⟨double.nearest b k p, by rw [hq]; rfl, ?_, order_self (nan_near _ _ _)⟩
    rw [← quo_same _ _ _ _ _ (by decide) (show ((n.natAbs.log2 : Int) - 52) - ((j : Int) - 52) = ((n.natAbs.log2 + (16 - j) : Nat) : Int) - 52 - (-36) by omega), hq]
    rfl
end Go.Proofs.YtnndaipnfniciaaGreatDoor
