/- Plain: Go's quotient and the floor. -/
import Derived.Test.YtlaaajkehjoffaaDoorMath
namespace Go.Proofs.YtlaaajkehjoffaaDoor
open Go.RowKit
set_option maxRecDepth 100000

theorem tdiv_cases (a b : Int) (hb : 1 ≤ b) : (a.tdiv b = a / b ∧ a.tdiv b * b ≤ a ∧ a - b < a.tdiv b * b) ∨ (a.tdiv b = a / b + 1 ∧ a < a.tdiv b * b ∧ a.tdiv b * b < a + b) := by
  have h1 := Int.tdiv_eq_ediv (a := a) (b := b)
  have h2 := Int.mul_ediv_add_emod a b
  have h3 := Int.emod_nonneg a (show b ≠ 0 by omega)
  have h4 := Int.emod_lt_of_pos a (show 0 < b by omega)
  by_cases hc : 0 ≤ a ∨ b ∣ a
  · left
    rw [if_pos hc, Int.add_zero] at h1
    rw [h1, Int.mul_comm]
    omega
  · right
    rw [if_neg hc, Int.sign_eq_one_of_pos (by omega)] at h1
    rw [h1, Int.add_mul, Int.one_mul, Int.mul_comm]
    have : a % b ≠ 0 := fun e => hc (Or.inr (Int.dvd_of_emod_eq_zero e))
    omega

theorem floor_yes {a b : Int} (hb : 1 ≤ b) (h : a < a.tdiv b * b) : a.tdiv b - 1 = a / b := by
  rcases tdiv_cases a b hb with ⟨_, h2, _⟩ | ⟨h1, _, _⟩ <;> omega
theorem floor_no {a b : Int} (hb : 1 ≤ b) (h : a.tdiv b * b ≤ a) : a.tdiv b = a / b := by
  rcases tdiv_cases a b hb with ⟨h1, _, _⟩ | ⟨_, h2, _⟩ <;> omega
theorem tdiv_bd {a b m : Int} (hb : 1 ≤ b) (h1 : -m ≤ a) (h2 : a ≤ m) (hm : b ≤ m) : -m - m ≤ a.tdiv b * b ∧ a.tdiv b * b ≤ m + m := by
  rcases tdiv_cases a b hb with ⟨_, _, _⟩ | ⟨_, _, _⟩ <;> omega
theorem ediv_bd {a b m : Int} (hb : 1 ≤ b) (h1 : -m ≤ a) (h2 : a ≤ m) (hm : 0 ≤ m) : -m ≤ a / b ∧ a / b ≤ m := by
  constructor
  · have := Int.le_ediv_of_mul_le (a := -m) (b := a) (c := b) (by omega) (by
      have : m * 1 ≤ m * b := Int.mul_le_mul_of_nonneg_left hb hm
      rw [Int.neg_mul]; omega)
    exact this
  · have h := Int.ediv_le_self (a := m) b hm
    have := Int.ediv_le_ediv (c := b) (by omega) h2
    omega
theorem tdiv_self_bd {a b m : Int} (hb : 1 ≤ b) (h1 : -m ≤ a) (h2 : a ≤ m) (hm : 0 ≤ m) : -m ≤ a.tdiv b ∧ a.tdiv b ≤ m + 1 := by
  have := ediv_bd hb h1 h2 hm
  rcases tdiv_cases a b hb with ⟨h, _, _⟩ | ⟨h, _, _⟩ <;> omega
end Go.Proofs.YtlaaajkehjoffaaDoor
