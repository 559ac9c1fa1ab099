/- Plain mathematics: a quotient in lowest terms, and 65536 times it. No program in sight. -/
import Derived.Test.YtnndaipnfniciaaGreatDoorNFlo
import Derived.Test.YtnndaipnfniciaaGreatDoorBaseW
namespace Go.Proofs.YtnndaipnfniciaaGreatDoor
open Go.RowKit
set_option maxRecDepth 100000
theorem dvd_pow2 : ∀ (k d : Nat), d ∣ 2 ^ k → ∃ j, j ≤ k ∧ d = 2 ^ j := by
  intro k
  induction k with
  | zero => intro d h; exact ⟨0, Nat.le_refl _, by simpa using h⟩
  | succ k ih =>
    intro d h
    rcases Nat.mod_two_eq_zero_or_one d with h2 | h2
    · obtain ⟨e, rfl⟩ : ∃ e, d = 2 * e := ⟨d / 2, by omega⟩
      rw [Nat.pow_succ, Nat.mul_comm (2 ^ k) 2] at h
      obtain ⟨j, hj, rfl⟩ := ih e (Nat.dvd_of_mul_dvd_mul_left (show 0 < 2 by decide) h)
      exact ⟨j + 1, by omega, by rw [Nat.pow_succ, Nat.mul_comm]⟩
    · have hc : Nat.Coprime d 2 := by
        unfold Nat.Coprime
        rw [Nat.gcd_comm, Nat.gcd_rec, h2]; rfl
      rw [Nat.pow_succ] at h
      obtain ⟨j, hj, rfl⟩ := ih d (hc.dvd_of_dvd_mul_right h)
      exact ⟨j, by omega, rfl⟩
theorem low_parts {u S : Int} (hS : 0 < S) : ∃ (g n d : Nat) (s : Int), (s = 1 ∨ s = -1) ∧ 0 < g ∧ 0 < d ∧ u = s * n * g ∧ S = d * g ∧ lowI u S = ⟨s * n, d⟩ ∧ Nat.gcd n d = 1 := by
  obtain ⟨D, rfl⟩ : ∃ D : Nat, S = D := ⟨S.toNat, by omega⟩
  have hD : 0 < D := by omega
  have key : ∀ N : Nat, ∃ g n d : Nat, 0 < g ∧ 0 < d ∧ N = n * g ∧ D = d * g ∧ (N : Int) / (Nat.gcd N D : Nat) = n ∧ (D : Int) / (Nat.gcd N D : Nat) = d ∧ Nat.gcd n d = 1 := by
    intro N
    have hg : 0 < Nat.gcd N D := Nat.gcd_pos_of_pos_right _ hD
    have e1 := Nat.div_mul_cancel (Nat.gcd_dvd_left N D)
    have e2 := Nat.div_mul_cancel (Nat.gcd_dvd_right N D)
    refine ⟨Nat.gcd N D, N / Nat.gcd N D, D / Nat.gcd N D, hg, ?_, e1.symm, e2.symm, rfl, rfl, ?_⟩
    · rcases Nat.eq_zero_or_pos (D / Nat.gcd N D) with h | h
      · rw [h] at e2; omega
      · exact h
    · have h := Nat.gcd_mul_right (N / Nat.gcd N D) (Nat.gcd N D) (D / Nat.gcd N D)
      rw [e1, e2] at h
      exact Nat.eq_of_mul_eq_mul_right hg (by rw [Nat.one_mul]; exact h.symm)
  by_cases hs : 0 ≤ u
  · obtain ⟨N, rfl⟩ : ∃ N : Nat, u = N := ⟨u.toNat, by omega⟩
    obtain ⟨g, n, d, hg, hd, h1, h2, h3, h4, h5⟩ := key N
    refine ⟨g, n, d, 1, .inl rfl, hg, hd, ?_, ?_, ?_, h5⟩
    · rw [h1]; push_cast; rw [Int.one_mul]
    · rw [h2]; push_cast; rfl
    · rw [lowI_pos, h3, h4, Int.one_mul]
  · obtain ⟨N, rfl⟩ : ∃ N : Nat, u = -(N : Int) := ⟨u.natAbs, by omega⟩
    obtain ⟨g, n, d, hg, hd, h1, h2, h3, h4, h5⟩ := key N
    refine ⟨g, n, d, -1, .inr rfl, hg, hd, ?_, ?_, ?_, h5⟩
    · rw [h1]; push_cast; grind
    · rw [h2]; push_cast; rfl
    · rw [lowI_neg, h3, h4]; congr 1; omega
theorem dvd_of_tmod {a b : Int} (_hb : 0 < b) (h : a.tmod b = 0) : b ∣ a := Int.dvd_of_tmod_eq_zero h
theorem num_yes {u S : Int} (hS : 0 < S) (hu : u.natAbs ≤ 3600000000) (h : (u * 65536).tmod S = 0) :
    ∃ (j : Nat) (a n : Int), j ≤ 16 ∧ lowI u S = ⟨n, 2 ^ j⟩ ∧ u * 65536 = a * S ∧ a = n * 2 ^ (16 - j) ∧ n.natAbs ≤ 3600000000 := by
  obtain ⟨g, n, d, s, hs, hg, hd, hu1, hS1, hl, hc⟩ := low_parts (u := u) hS
  have hdv := Int.dvd_of_tmod_eq_zero h
  have e1 : (u * 65536).natAbs = n * 65536 * g := by
    rw [hu1, Int.natAbs_mul, Int.natAbs_mul, Int.natAbs_mul]
    rcases hs with rfl | rfl <;> simp <;> grind
  have e2 : S.natAbs = d * g := by rw [hS1]; simp [Int.natAbs_mul]
  have hdn := Int.natAbs_dvd_natAbs.2 hdv
  rw [e1, e2] at hdn
  have hd2 : d ∣ n * 65536 := Nat.dvd_of_mul_dvd_mul_right hg hdn
  have hc' : Nat.Coprime d n := by unfold Nat.Coprime; rw [Nat.gcd_comm]; exact hc
  have hd3 : d ∣ 2 ^ 16 := hc'.dvd_of_dvd_mul_left hd2
  obtain ⟨j, hj, hj2⟩ := dvd_pow2 16 d hd3
  have hpp : (2 : Int) ^ j * 2 ^ (16 - j) = 65536 := by rw [← Int.pow_add, show j + (16 - j) = 16 by omega]; rfl
  refine ⟨j, s * n * 2 ^ (16 - j), s * n, hj, ?_, ?_, rfl, ?_⟩
  · rw [hl, hj2]; push_cast; rfl
  · rw [hu1, hS1, hj2, ← hpp]; push_cast; grind
  · have : u.natAbs = n * g := by
      rw [hu1, Int.natAbs_mul, Int.natAbs_mul]
      rcases hs with rfl | rfl <;> simp
    have h2 : n * 1 ≤ n * g := Nat.mul_le_mul_left _ hg
    have : (s * (n : Int)).natAbs = n := by
      rw [Int.natAbs_mul]
      rcases hs with rfl | rfl <;> simp
    omega
theorem num_no {u S : Int} (hS : 0 < S) (h : ¬ (u * 65536).tmod S = 0) : 0 < (lowI u S).d ∧ ¬ (65536 : Int) % (lowI u S).d = 0 := by
  obtain ⟨g, n, d, s, hs, hg, hd, hu1, hS1, hl, hc⟩ := low_parts (u := u) hS
  rw [hl]
  refine ⟨by show (0 : Int) < d; omega, fun h0 => h ?_⟩
  obtain ⟨c, hcc⟩ := Int.dvd_of_emod_eq_zero h0
  apply Int.tmod_eq_zero_of_dvd
  rw [hu1, hS1, hcc]
  exact ⟨s * n * c, by grind⟩
theorem low_dpos {u S : Int} (hS : 0 < S) : 0 < (lowI u S).d ∧ (lowI u S).d ≤ S ∧ (lowI u S).n.natAbs ≤ u.natAbs := by
  obtain ⟨g, n, d, s, hs, hg, hd, hu1, hS1, hl, hc⟩ := low_parts (u := u) hS
  rw [hl]
  have h1 : d * 1 ≤ d * g := Nat.mul_le_mul_left _ hg
  have h2 : n * 1 ≤ n * g := Nat.mul_le_mul_left _ hg
  have h3 : u.natAbs = n * g := by
    rw [hu1, Int.natAbs_mul, Int.natAbs_mul]
    rcases hs with rfl | rfl <;> simp
  have h4 : (s * (n : Int)).natAbs = n := by
    rw [Int.natAbs_mul]
    rcases hs with rfl | rfl <;> simp
  refine ⟨by show (0 : Int) < d; omega, ?_, ?_⟩
  · show (d : Int) ≤ S
    rw [hS1, ← Int.natCast_mul]; omega
  · show (s * (n : Int)).natAbs ≤ _
    omega
end Go.Proofs.YtnndaipnfniciaaGreatDoor
