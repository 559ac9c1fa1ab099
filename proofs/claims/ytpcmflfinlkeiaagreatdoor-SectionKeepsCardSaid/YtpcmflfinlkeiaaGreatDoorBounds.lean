/- The contracts of Stable and Bound. -/
import Derived.Test.YtpcmflfinlkeiaaGreatDoorBaseC
namespace Go.Proofs.YtpcmflfinlkeiaaGreatDoor
open Go.RowKit Go.Shelf
set_option maxRecDepth 100000

theorem Stable_bad (s : Sec) (w : World) (ht : (s.err != 0) = true) :
    Calls Tryz.prog 29 #[.agg #[.int .i64 s.b0, .int .i64 s.b1, .int .i64 s.b2, .int .i64 s.a1, .int .i64 s.a2, .int .i64 s.sh]] w fun e w' => e = .returned (.tuple #[.bool false, .int .i64 s.err]) ∧ Below w.heap.size w w' := by
  go_enter Tryz.func29, Tryz.ntmps29
  go_wp2_with fail
  obtain ⟨w1, e1, hb1, hz1, k0⟩ := box1 w #[.int .i64 s.b0, .int .i64 s.b1, .int .i64 s.b2, .int .i64 s.a1, .int .i64 s.a2, .int .i64 s.sh] 53
  rw [← e1]; clear e1
  refine (checkSection_any s _).mono ?_
  rintro e w2 ⟨rfl, hb2⟩
  have hb3 := below_step hb1 hb2 hb1.size
  clear k0 hb1
  go_wp2
  go_ret2
  exact ⟨rfl, hb3⟩

set_option maxHeartbeats 1000000 in
theorem Stable_ok (s : Sec) (w : World) (h : s.Ok) :
    Calls Tryz.prog 29 #[.agg #[.int .i64 s.b0, .int .i64 s.b1, .int .i64 s.b2, .int .i64 s.a1, .int .i64 s.a2, .int .i64 s.sh]] w fun e w' => e = .returned (.tuple #[.bool s.stab, .int .i64 0]) ∧ Below w.heap.size w w' := by
  have ht : (s.err != 0) = false := by rw [Sec.err_of h]; rfl
  go_enter Tryz.func29, Tryz.ntmps29
  go_wp2_with fail
  obtain ⟨w1, e1, hb1, hz1, k0⟩ := box1 w #[.int .i64 s.b0, .int .i64 s.b1, .int .i64 s.b2, .int .i64 s.a1, .int .i64 s.a2, .int .i64 s.sh] 53
  rw [← e1]; clear e1
  refine (checkSection_any s _).mono ?_
  rintro e w2 ⟨rfl, hb2⟩
  have hb3 := below_step hb1 hb2 hb1.size
  have hk := k0.below hb2 (by omega)
  have hz2 := hb2.size
  go_wp2
  have c0 := over_blk (B := w2.heap.size) hk (by omega)
  have hu := unit_bd h
  have q1 := ab_bd h.a1l h.a1h
  have q2 := ab_bd h.a2l h.a2h
  have q3 := h.a2l
  have q4 := h.a2h
  clear k0 hb1 ht
  by_cases hd : ab s.a2 < s.unit
  · have hd' : decide (ab s.a2 < s.unit) = true := by simpa using hd
    refine wp_region_over w2.heap.size (by kernel_rfl) (by kernel_rfl) ?_; (repeat (first | go_big_quiet_step (first | (go_at_call 63; exact over_call (Nat.le_refl _) (unit_any s _ h)) | (go_at_call 70; exact over_same (abs_any _ _ (by have := h.a1l; have := h.a2l; omega) (by have := h.a1h; have := h.a2h; omega)))) | quiet_step (first | (go_at_call 63; exact over_call (Nat.le_refl _) (unit_any s _ h)) | (go_at_call 70; exact over_same (abs_any _ _ (by have := h.a1l; have := h.a2l; omega) (by have := h.a1h; have := h.a2h; omega)))))); refine wpQuiet_nil ?_; rintro W ⟨x, rfl⟩
    go_wp2
    go_ret2
    exact ⟨by simp [Sec.stab]; omega, hb3.trans ((over_below _ _ _).mono (by omega))⟩
  · have hd' : decide (ab s.a2 < s.unit) = false := by simpa using hd
    refine wp_region_over w2.heap.size (by kernel_rfl) (by kernel_rfl) ?_; (repeat (first | go_big_quiet_step (first | (go_at_call 63; exact over_call (Nat.le_refl _) (unit_any s _ h)) | (go_at_call 70; exact over_same (abs_any _ _ (by have := h.a1l; have := h.a2l; omega) (by have := h.a1h; have := h.a2h; omega)))) | quiet_step (first | (go_at_call 63; exact over_call (Nat.le_refl _) (unit_any s _ h)) | (go_at_call 70; exact over_same (abs_any _ _ (by have := h.a1l; have := h.a2l; omega) (by have := h.a1h; have := h.a2h; omega)))))); refine wpQuiet_nil ?_; rintro W ⟨x, rfl⟩
    go_wp2
    go_ret2
    exact ⟨by simp [Sec.stab]; omega, hb3.trans ((over_below _ _ _).mono (by omega))⟩

/-- The error of Bound ahead of the section's own. -/
def boundErr (s : Sec) (i : Int) : Int := fnz [s.err, rng i 0 32767]
theorem ceil_eq {n m : Int} (hm : 1 ≤ m) : (n + m - 1) / m = -((-n) / m) := by
  have h1 := Int.mul_ediv_add_emod (n + m - 1) m
  have h2 := Int.emod_nonneg (n + m - 1) (show m ≠ 0 by omega)
  have h3 := Int.emod_lt_of_pos (n + m - 1) (show 0 < m by omega)
  have h4 := Int.mul_ediv_add_emod (-n) m
  have h5 := Int.emod_nonneg (-n) (show m ≠ 0 by omega)
  have h6 := Int.emod_lt_of_pos (-n) (show 0 < m by omega)
  generalize (n + m - 1) / m = a at *
  generalize (-n) / m = b at *
  have h7 : m * (a + b) = m * a + m * b := Int.mul_add m a b
  have h8 : a + b = 0 := by
    rcases Int.lt_trichotomy (a + b) 0 with h | h | h
    · have : m * (a + b) ≤ m * (-1) := Int.mul_le_mul_of_nonneg_left (by omega) (by omega)
      omega
    · exact h
    · have : m * 1 ≤ m * (a + b) := Int.mul_le_mul_of_nonneg_left (by omega) (by omega)
      omega
  omega

theorem Bound_bad (s : Sec) (i : Int) (w : World) (he : (boundErr s i != 0) = true) :
    Calls Tryz.prog 30 #[.agg #[.int .i64 s.b0, .int .i64 s.b1, .int .i64 s.b2, .int .i64 s.a1, .int .i64 s.a2, .int .i64 s.sh], .int .i64 i] w fun e w' => e = .returned (.tuple #[.int .i64 0, .int .i64 (boundErr s i)]) ∧ Below w.heap.size w w' := by
  have HE := hide he; clear he
  go_enter Tryz.func30, Tryz.ntmps30
  go_wp2_with fail
  obtain ⟨w1, e1, hb1, hz1, k0⟩ := box1 w #[.int .i64 s.b0, .int .i64 s.b1, .int .i64 s.b2, .int .i64 s.a1, .int .i64 s.a2, .int .i64 s.sh] 53
  rw [← e1]; clear e1
  refine (checkSection_any s _).mono ?_
  rintro e w2 ⟨rfl, hb2⟩
  have hb3 := below_step hb1 hb2 hb1.size
  have ht : (fnz [s.err, rng i 0 32767] != 0) = true := HE.out
  clear k0 hb1
  go_wp2_with (first | (go_at_call 65; refine (within_any _ _ _ _).mono ?_; rintro e w' ⟨rfl, rfl⟩) | (go_at_call 38; (first | (with_reducible (refine (first_any _ _ _ _ _ _ (reads2 _ _ _ _) (by omega)).mono ?_)) | (with_reducible (refine (first_any _ _ _ _ _ _ (Reads.drew (reads2 _ _ _ _)) (by omega)).mono ?_))); rintro e W' ⟨rfl, rfl⟩))
  go_ret2
  exact ⟨rfl, (by repeat (first | exact hb3 | exact Below.refl _ _ | refine Below.drew ?_ | refine below_drewN ?_ _ | refine below_set ?_ (by omega) _ | refine below_new ?_ (by omega) _))⟩

theorem Bound_loose (s : Sec) (i : Int) (w : World) (he : boundErr s i = 0) (hr : s.room ≤ 0) :
    Calls Tryz.prog 30 #[.agg #[.int .i64 s.b0, .int .i64 s.b1, .int .i64 s.b2, .int .i64 s.a1, .int .i64 s.a2, .int .i64 s.sh], .int .i64 i] w fun e w' => e = .returned (.tuple #[.int .i64 0, .int .i64 18]) ∧ Below w.heap.size w w' := by
  have hs := Sec.err_ok (fnz2_zero he).1
  have HE := hide he; clear he
  go_enter Tryz.func30, Tryz.ntmps30
  go_wp2_with fail
  obtain ⟨w1, e1, hb1, hz1, k0⟩ := box1 w #[.int .i64 s.b0, .int .i64 s.b1, .int .i64 s.b2, .int .i64 s.a1, .int .i64 s.a2, .int .i64 s.sh] 53
  rw [← e1]; clear e1
  refine (checkSection_any s _).mono ?_
  rintro e w2 ⟨rfl, hb2⟩
  have hb3 := below_step hb1 hb2 hb1.size
  have ht : (fnz [s.err, rng i 0 32767] != 0) = false := by rw [show fnz [s.err, rng i 0 32767] = 0 from HE.out]; rfl
  have hk := k0.below hb2 (by omega)
  have c0 := hk.cell
  have l0 := hk.lt
  clear k0 hb1 hk
  go_wp2_with (first | (go_at_call 65; refine (within_any _ _ _ _).mono ?_; rintro e w' ⟨rfl, rfl⟩) | (go_at_call 38; (first | (with_reducible (refine (first_any _ _ _ _ _ _ (reads2 _ _ _ _) (by omega)).mono ?_)) | (with_reducible (refine (first_any _ _ _ _ _ _ (Reads.drew (reads2 _ _ _ _)) (by omega)).mono ?_))); rintro e W' ⟨rfl, rfl⟩) | (go_at_call 69; refine (margin_any s _ hs).mono ?_; rintro e w5 ⟨rfl, hb5⟩))
  go_ret2
  exact ⟨rfl, (Below.trans (by repeat (first | exact hb3 | exact Below.refl _ _ | refine Below.drew ?_ | refine below_drewN ?_ _ | refine below_set ?_ (by omega) _ | refine below_new ?_ (by omega) _)) (hb5.mono (by have := hb3.size; simp; omega)))⟩

set_option maxHeartbeats 1000000 in
theorem Bound_ok (s : Sec) (i : Int) (w : World) (he : boundErr s i = 0) (hr : 1 ≤ s.room) :
    Calls Tryz.prog 30 #[.agg #[.int .i64 s.b0, .int .i64 s.b1, .int .i64 s.b2, .int .i64 s.a1, .int .i64 s.a2, .int .i64 s.sh], .int .i64 i] w fun e w' => e = .returned (.tuple #[.int .i64 (s.bound i), .int .i64 0]) ∧ Below w.heap.size w w' := by
  have hs := Sec.err_ok (fnz2_zero he).1
  have hi : 0 ≤ i ∧ i ≤ 32767 := by
    have := (fnz2_zero he).2
    rw [rng_eq] at this
    split at this
    · exact inB_iff.1 (by assumption)
    · omega
  have HE := hide he; clear he
  go_enter Tryz.func30, Tryz.ntmps30
  go_wp2_with fail
  obtain ⟨w1, e1, hb1, hz1, k0⟩ := box1 w #[.int .i64 s.b0, .int .i64 s.b1, .int .i64 s.b2, .int .i64 s.a1, .int .i64 s.a2, .int .i64 s.sh] 53
  rw [← e1]; clear e1
  refine (checkSection_any s _).mono ?_
  rintro e w2 ⟨rfl, hb2⟩
  have hb3 := below_step hb1 hb2 hb1.size
  have ht : (fnz [s.err, rng i 0 32767] != 0) = false := by rw [show fnz [s.err, rng i 0 32767] = 0 from HE.out]; rfl
  have hk := k0.below hb2 (by omega)
  have c0 := hk.cell
  have l0 := hk.lt
  clear k0 hb1
  go_wp2_with (first | (go_at_call 65; refine (within_any _ _ _ _).mono ?_; rintro e w' ⟨rfl, rfl⟩) | (go_at_call 38; (first | (with_reducible (refine (first_any _ _ _ _ _ _ (reads2 _ _ _ _) (by omega)).mono ?_)) | (with_reducible (refine (first_any _ _ _ _ _ _ (Reads.drew (reads2 _ _ _ _)) (by omega)).mono ?_))); rintro e W' ⟨rfl, rfl⟩) | (go_at_call 69; refine (margin_any s _ hs).mono ?_; rintro e w5 ⟨rfl, hb5⟩))
  have hk5 := (hk.alloc _).below hb5 (by simp; omega)
  have hb6 : Below w.heap.size w w5 := (Below.trans (by repeat (first | exact hb3 | exact Below.refl _ _ | refine Below.drew ?_ | refine below_drewN ?_ _ | refine below_set ?_ (by omega) _ | refine below_new ?_ (by omega) _)) (hb5.mono (by have := hb3.size; simp; omega)))
  have c5 := over_blk (B := w5.heap.size) hk5 hk5.lt
  have q0 := room_bd hs
  have q1 := ab_bd hs.b0l hs.b0h
  have q2 := ab_bd hs.b1l hs.b1h
  have q3 := ab_bd hs.b2l hs.b2h
  have q4 := input_bd hs hi.1 hi.2
  have q5 : 0 ≤ i * (ab s.b0 + ab s.b1 + ab s.b2) + s.room - 1 := by omega
  have hne : (s.room == 0) = false := by rw [beq_eq_false_iff_ne]; omega
  clear hk hk5 c0 hb5
  refine wp_region_over w5.heap.size (by kernel_rfl) (by kernel_rfl) ?_; (repeat (first | go_big_quiet_step ((go_at_call 70; exact over_same (abs_any _ _ (by have := hs.b0l; have := hs.b1l; have := hs.b2l; omega) (by have := hs.b0h; have := hs.b1h; have := hs.b2h; omega)))) | quiet_step ((go_at_call 70; exact over_same (abs_any _ _ (by have := hs.b0l; have := hs.b1l; have := hs.b2l; omega) (by have := hs.b0h; have := hs.b1h; have := hs.b2h; omega)))))); refine wpQuiet_nil ?_; rintro W ⟨x, rfl⟩
  go_wp2
  go_ret2
  exact ⟨by simp [Sec.bound]; exact ceil_eq hr, hb6.trans ((over_below _ _ _).mono hb6.size)⟩
end Go.Proofs.YtpcmflfinlkeiaaGreatDoor
