/- Step, Path of the program. -/
import Derived.Test.YtcihiglpahhboaaGreatDoorALev
namespace Go.Proofs.YtcihiglpahhboaaGreatDoor
open Go.RowKit Go.Shelf
set_option maxRecDepth 100000
theorem rng7 {d : Int} (h : rng d 0 7 = 0) : ∃ k : Nat, k < 8 ∧ d = (k : Int) := by
  have := rng_zero.1 h
  exact ⟨d.toNat, by omega, by omega⟩
def sxV (d : Int) : Int := if rng d 0 7 = 0 then stx d.toNat else 0
def syV (d : Int) : Int := if rng d 0 7 = 0 then sty d.toNat else 0
theorem Step_any (d : Int) (w : World) (hV : Vr w) :
    Calls Tryz.prog 56 #[.int .i64 d] w fun e w' => e = .returned (.tuple #[.int .i64 (sxV d), .int .i64 (syV d), .int .i64 (rng d 0 7)]) ∧ Below w.heap.size w w' := by
  unfold sxV syV
  by_cases h0 : rng d 0 7 = 0
  · rw [if_pos h0, if_pos h0]
    obtain ⟨k, hk, rfl⟩ := rng7 h0
    have hki : (k : Int) < 8 := by omega
    have H0 := hide h0
    rw [Int.toNat_natCast]
    have s0 : ∀ x, (over w.heap.size w x).cell? ⟨0, k * 2, none⟩ = some (.int .i64 (stx k)) := fun x => ((hV.carry (over_below _ _ _)).step hk).1
    have s1 : ∀ x, (over w.heap.size w x).cell? ⟨0, k * 2 + 1, none⟩ = some (.int .i64 (sty k)) := fun x => ((hV.carry (over_below _ _ _)).step hk).2
    clear h0
    go_enter Tryz.func56, Tryz.ntmps56
    go_upto_region 4 with (go_at_call 97; refine (checkDirection_any _ _).mono ?_; rintro e W' ⟨rfl, rfl⟩; rw [H0.out])
    refine wp_region_over w.heap.size (by kernel_rfl) (by kernel_rfl) ?_; (repeat (first | go_big_quiet_step (fail) | quiet_step (fail))); refine wpQuiet_nil ?_; rintro W ⟨x, rfl⟩
    have hbY := over_below w.heap.size w x
    generalize over w.heap.size w x = Y at hbY ⊢
    go_wp2_with fail
    go_ret3
    exact ⟨by rw [H0.out]; rfl, hbY⟩
  · rw [if_neg h0, if_neg h0]
    have t0 : (rng d 0 7 != 0) = true := by simpa using h0
    clear h0
    go_enter Tryz.func56, Tryz.ntmps56
    go_wp2_with (go_at_call 97; refine (checkDirection_any _ _).mono ?_; rintro e W' ⟨rfl, rfl⟩)
    go_ret3
    exact ⟨rfl, Below.refl _ _⟩
def pnE (s : Src) (d : Int) : Int := fnz [s.err, rng d 0 7]
def pnV (s : Src) (d : Int) : Int := if pnE s d = 0 then pth s d.toNat else 0
theorem Path_any (s : Src) (d : Int) (w : World) (hV : Vr w) :
    Calls Tryz.prog 57 #[.agg #[.int .i64 s.x, .int .i64 s.y, .int .i64 s.g, .int .i64 s.p], .int .i64 d] w fun e w' => e = .returned (.tuple #[.int .i64 (pnV s d), .int .i64 (pnE s d)]) ∧ Below w.heap.size w w' := by
  unfold pnV
  by_cases h0 : pnE s d = 0
  · rw [if_pos h0]
    have hh : s.err = 0 ∧ rng d 0 7 = 0 := by
      unfold pnE at h0
      rw [fnz_zero] at h0
      exact ⟨h0 _ (by simp), h0 _ (by simp)⟩
    obtain ⟨k, hk, rfl⟩ := rng7 hh.2
    have t0 : (fnz [s.err, rng (k : Int) 0 7] != 0) = false := by rw [show fnz [s.err, rng (k : Int) 0 7] = 0 from h0]; rfl
    have H0 := hide h0
    have HS := hide (Src.err_iff.1 hh.1)
    rw [Int.toNat_natCast]
    clear h0 hh
    go_enter Tryz.func57, Tryz.ntmps57
    go_upto_region 1 with (fail)
    obtain ⟨w1, e1, hb1, hz1, k0⟩ := box1 w #[.int .i64 s.x, .int .i64 s.y, .int .i64 s.g, .int .i64 s.p] 60
    rw [← e1]; clear e1
    have c0 := k0.cell
    go_wp2_with fail
    refine (check_any s _).mono ?_
    rintro e w2 ⟨rfl, hb2⟩
    clear c0
    go_upto_region 4 with (first | (go_at_call 97; refine (checkDirection_any _ _).mono ?_; rintro e W' ⟨rfl, rfl⟩) | (go_at_call 86; (first | (with_reducible (refine (first_any _ _ _ _ _ _ (reads2 _ _ _ _) (by omega)).mono ?_)) | (with_reducible (refine (first_any _ _ _ _ _ _ (Reads.drew (reads2 _ _ _ _)) (by omega)).mono ?_))); rintro e W' ⟨rfl, rfl⟩))
    obtain ⟨w3, e3⟩ : ∃ w3, w3 = w2.alloc (.cells #[.int .i64 s.err, .int .i64 (rng (k : Int) 0 7)] 27) := ⟨_, rfl⟩
    have hb3 : Below w2.heap.size w2 w3 := by rw [e3]; exact (Below.refl _ _).alloc (Nat.le_refl _) _
    rw [← e3]; clear e3
    have c0 := (carryK k0 (w' := w3) (by repeat (first | with_reducible assumption | exact Below.refl _ _ | refine below_next (by with_reducible assumption) ?_))).cell
    go_wp2_with fail
    refine (path_any s k hk HS.out _ (hV.carry (by repeat (first | with_reducible assumption | exact Below.refl _ _ | refine below_next (by with_reducible assumption) ?_)))).mono ?_
    rintro e w4 ⟨rfl, hb4⟩
    go_wp2_with fail
    go_ret2
    exact ⟨by rw [H0.out]; rfl, (by repeat (first | with_reducible assumption | exact Below.refl _ _ | refine below_next (by with_reducible assumption) ?_))⟩
  · rw [if_neg h0]
    have t0 : (fnz [s.err, rng d 0 7] != 0) = true := by simpa using (show ¬ fnz [s.err, rng d 0 7] = 0 from h0)
    clear h0
    go_enter Tryz.func57, Tryz.ntmps57
    go_upto_region 1 with (fail)
    obtain ⟨w1, e1, hb1, hz1, k0⟩ := box1 w #[.int .i64 s.x, .int .i64 s.y, .int .i64 s.g, .int .i64 s.p] 60
    rw [← e1]; clear e1
    have c0 := k0.cell
    go_wp2_with fail
    refine (check_any s _).mono ?_
    rintro e w2 ⟨rfl, hb2⟩
    clear c0
    go_wp2_with (first | (go_at_call 97; refine (checkDirection_any _ _).mono ?_; rintro e W' ⟨rfl, rfl⟩) | (go_at_call 86; (first | (with_reducible (refine (first_any _ _ _ _ _ _ (reads2 _ _ _ _) (by omega)).mono ?_)) | (with_reducible (refine (first_any _ _ _ _ _ _ (Reads.drew (reads2 _ _ _ _)) (by omega)).mono ?_))); rintro e W' ⟨rfl, rfl⟩))
    go_ret2
    exact ⟨rfl, (by repeat (first | exact below_next hb1 hb2 | exact Below.refl _ _ | refine Below.drew ?_ | refine below_drewN ?_ _ | refine below_set ?_ (by omega) _ | refine below_new ?_ (by omega) _))⟩
end Go.Proofs.YtcihiglpahhboaaGreatDoor
