/- Plain mathematics of quotients: lowest terms, and which of two is less. No program in sight. -/
import Derived.Test.YthlnmoecmicofaaDoorNPoly
namespace Go.Proofs.YthlnmoecmicofaaDoor
open Go.RowKit
set_option maxRecDepth 100000

/-- A quotient. -/
structure Rt where
  n : Int
  d : Int
instance : DecidableEq Rt := fun a b => decidable_of_iff (a.n = b.n ∧ a.d = b.d) (by cases a; cases b; simp)
/-- In lowest terms. -/
def low (n d : Nat) : Rt := ⟨(n / Nat.gcd n d : Nat), (d / Nat.gcd n d : Nat)⟩
theorem low_pos {n d : Nat} (hd : 0 < d) : 0 ≤ (low n d).n ∧ 1 ≤ (low n d).d := by
  have hg : 0 < Nat.gcd n d := Nat.gcd_pos_of_pos_right _ hd
  have : 0 < d / Nat.gcd n d := Nat.div_pos (Nat.le_of_dvd hd (Nat.gcd_dvd_right _ _)) hg
  exact ⟨Int.natCast_nonneg _, Int.ofNat_le.2 this⟩
theorem low_le {n d : Nat} : (low n d).n ≤ n ∧ (low n d).d ≤ d := by
  unfold low
  exact ⟨Int.ofNat_le.2 (Nat.div_le_self n (Nat.gcd n d)), Int.ofNat_le.2 (Nat.div_le_self d (Nat.gcd n d))⟩
/-- The first one is less. -/
def Rt.lt (a b : Rt) : Bool := decide (a.n * b.d < b.n * a.d)
structure Rt.Pos (a : Rt) : Prop where
  n : 0 ≤ a.n
  d : 1 ≤ a.d
theorem emod_form (x y : Int) : x = (x / y) * y + x % y := by have := Int.mul_ediv_add_emod x y; rw [Int.mul_comm] at this; omega
theorem lt_whole {a b : Rt} (ha : a.Pos) (hb : b.Pos) (h : a.n / a.d ≠ b.n / b.d) : a.lt b = decide (a.n / a.d < b.n / b.d) := by
  have h1 := ha.d; have h2 := hb.d
  have m1 := Int.emod_nonneg a.n (show a.d ≠ 0 by omega)
  have m2 := Int.emod_nonneg b.n (show b.d ≠ 0 by omega)
  have l1 := Int.emod_lt_of_pos a.n (show 0 < a.d by omega)
  have l2 := Int.emod_lt_of_pos b.n (show 0 < b.d by omega)
  have e1 := emod_form a.n a.d
  have e2 := emod_form b.n b.d
  have key : ∀ (x y p q r t : Int), 1 ≤ p → 1 ≤ q → 0 ≤ r → r < p → 0 ≤ t → x < y → (x * p + r) * q < (y * q + t) * p := by
    intro x y p q r t hp hq hr hrp ht hxy
    have s1 : x * p + r < (x + 1) * p := by rw [Int.add_mul]; omega
    have s2 : (x + 1) * p ≤ y * p := Int.mul_le_mul_of_nonneg_right (by omega) (by omega)
    have s3 : (x * p + r) * q < (y * p) * q := Int.mul_lt_mul_of_pos_right (by omega) (by omega)
    have s4 : (y * p) * q = y * q * p := by grind
    have s5 : y * q * p ≤ (y * q + t) * p := Int.mul_le_mul_of_nonneg_right (by omega) (by omega)
    omega
  unfold Rt.lt
  rcases Int.lt_or_gt_of_ne h with q | q
  · have := key (a.n / a.d) (b.n / b.d) a.d b.d (a.n % a.d) (b.n % b.d) h1 h2 m1 l1 m2 q
    rw [← e1, ← e2] at this
    rw [decide_eq_true this, decide_eq_true q]
  · have := key (b.n / b.d) (a.n / a.d) b.d a.d (b.n % b.d) (a.n % a.d) h2 h1 m2 l2 m1 q
    rw [← e1, ← e2] at this
    rw [decide_eq_false (by omega), decide_eq_false (by omega)]
theorem lt_same {a b : Rt} (h : a.n / a.d = b.n / b.d) : a.lt b = decide ((a.n % a.d) * b.d < (b.n % b.d) * a.d) := by
  unfold Rt.lt
  have e1 := emod_form a.n a.d
  have e2 := emod_form b.n b.d
  have : (a.n * b.d < b.n * a.d) ↔ ((a.n % a.d) * b.d < (b.n % b.d) * a.d) := by
    have s1 : a.n * b.d = (a.n / a.d) * a.d * b.d + (a.n % a.d) * b.d := by rw [← Int.add_mul, ← e1]
    have s2 : b.n * a.d = (b.n / b.d) * b.d * a.d + (b.n % b.d) * a.d := by rw [← Int.add_mul, ← e2]
    rw [h] at s1
    have s3 : (b.n / b.d) * a.d * b.d = (b.n / b.d) * b.d * a.d := by grind
    omega
  exact decide_eq_decide.2 this
theorem lt_same0 {a b : Rt} (ha : a.Pos) (hb : b.Pos) (h : a.n / a.d = b.n / b.d) (h0 : b.n % b.d = 0) : a.lt b = false := by
  rw [lt_same h, h0, Int.zero_mul]
  have h1 := ha.d; have h2 := hb.d
  have m1 := Int.emod_nonneg a.n (show a.d ≠ 0 by omega)
  have := Int.mul_nonneg m1 (show 0 ≤ b.d by omega)
  exact decide_eq_false (by omega)
theorem lt_same1 {a b : Rt} (ha : a.Pos) (hb : b.Pos) (h : a.n / a.d = b.n / b.d) (h0 : a.n % a.d = 0) (h3 : b.n % b.d ≠ 0) : a.lt b = true := by
  rw [lt_same h, h0, Int.zero_mul]
  have h1 := ha.d; have h2 := hb.d
  have m2 := Int.emod_nonneg b.n (show b.d ≠ 0 by omega)
  have := Int.mul_pos (show 0 < b.n % b.d by omega) (show 0 < a.d by omega)
  exact decide_eq_true this
theorem lt_same2 {a b : Rt} (h : a.n / a.d = b.n / b.d) : a.lt b = (Rt.mk b.d (b.n % b.d)).lt (Rt.mk a.d (a.n % a.d)) := by
  rw [lt_same h]
  unfold Rt.lt
  simp only
  rw [Int.mul_comm b.d, Int.mul_comm a.d]
theorem turn_pos {a : Rt} (ha : a.Pos) (h3 : a.n % a.d ≠ 0) : (Rt.mk a.d (a.n % a.d)).Pos := by
  have h1 := ha.d
  have m1 := Int.emod_nonneg a.n (show a.d ≠ 0 by omega)
  exact ⟨by simp only; omega, by simp only; omega⟩
end Go.Proofs.YthlnmoecmicofaaDoor
