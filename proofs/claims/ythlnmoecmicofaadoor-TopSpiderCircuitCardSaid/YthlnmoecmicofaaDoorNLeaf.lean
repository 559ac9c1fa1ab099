/- The contracts of small functions: checks of ranges; complex integers. -/
import Derived.Test.YthlnmoecmicofaaDoorProg
import Derived.Test.YthlnmoecmicofaaDoorNLess
import Derived.WalkKit
import Derived.WalkSpells
import Derived.WalkLawsBesides
import Derived.Deep.DeepMust
namespace Go.Proofs.YthlnmoecmicofaaDoor
open Go.RowKit
set_option maxRecDepth 100000

set_option maxHeartbeats 400000 in
theorem when_any (b : Bool) (e : Int) (w : World) :
    Calls Tryd.prog 67 #[.bool b, .int .i64 e] w fun r w' => r = .returned (.int .i64 (if b then e else 0)) ∧ w = w' := by
  cases b
  · go_enter Tryd.func67, Tryd.ntmps67
    go_wp2
    go_ret
    exact ⟨rfl, rfl⟩
  · go_enter Tryd.func67, Tryd.ntmps67
    go_wp2
    go_ret
    exact ⟨rfl, rfl⟩
set_option maxHeartbeats 400000 in
theorem within_any (n lo hi : Int) (w : World) :
    Calls Tryd.prog 76 #[.int .i64 n, .int .i64 lo, .int .i64 hi] w fun r w' => r = .returned (.int .i64 (rng n lo hi)) ∧ w = w' := by
  go_enter Tryd.func76, Tryd.ntmps76
  go_wp2_with (go_at_call 67; refine (when_any _ _ _).mono ?_; rintro e w' ⟨rfl, rfl⟩)
  all_goals (go_ret; exact ⟨by unfold rng; simp; omega, rfl⟩)
set_option maxHeartbeats 400000 in
theorem when_si (b : Bool) (e : Int) (w : World) :
    Calls Tryd.prog 95 #[.bool b, .int .i64 e] w fun r w' => r = .returned (.int .i64 (if b then e else 0)) ∧ w = w' := by
  cases b
  · go_enter Tryd.func95, Tryd.ntmps95
    go_wp2
    go_ret
    exact ⟨rfl, rfl⟩
  · go_enter Tryd.func95, Tryd.ntmps95
    go_wp2
    go_ret
    exact ⟨rfl, rfl⟩
set_option maxHeartbeats 400000 in
theorem within_si (n lo hi : Int) (w : World) :
    Calls Tryd.prog 108 #[.int .i64 n, .int .i64 lo, .int .i64 hi] w fun r w' => r = .returned (.int .i64 (rng n lo hi)) ∧ w = w' := by
  go_enter Tryd.func108, Tryd.ntmps108
  go_wp2_with (go_at_call 95; refine (when_si _ _ _).mono ?_; rintro e w' ⟨rfl, rfl⟩)
  all_goals (go_ret; exact ⟨by unfold rng; simp; omega, rfl⟩)
set_option maxHeartbeats 400000 in
theorem when_dr (b : Bool) (e : Int) (w : World) :
    Calls Tryd.prog 104 #[.bool b, .int .i64 e] w fun r w' => r = .returned (.int .i64 (if b then e else 0)) ∧ w = w' := by
  cases b
  · go_enter Tryd.func104, Tryd.ntmps104
    go_wp2
    go_ret
    exact ⟨rfl, rfl⟩
  · go_enter Tryd.func104, Tryd.ntmps104
    go_wp2
    go_ret
    exact ⟨rfl, rfl⟩
set_option maxHeartbeats 400000 in
theorem within_dr (n lo hi : Int) (w : World) :
    Calls Tryd.prog 103 #[.int .i64 n, .int .i64 lo, .int .i64 hi] w fun r w' => r = .returned (.int .i64 (rng n lo hi)) ∧ w = w' := by
  go_enter Tryd.func103, Tryd.ntmps103
  go_wp2_with (go_at_call 104; refine (when_dr _ _ _).mono ?_; rintro e w' ⟨rfl, rfl⟩)
  all_goals (go_ret; exact ⟨by unfold rng; simp; omega, rfl⟩)
theorem checkW_any (n : Int) (w : World) :
    Calls Tryd.prog 46 #[.int .i64 n] w fun r w' => r = .returned (.int .i64 (rng n 1 8)) ∧ w = w' := by
  go_enter Tryd.func46, Tryd.ntmps46
  go_wp2_with (go_at_call 76; refine (within_any _ _ _ _).mono ?_; rintro e w' ⟨rfl, rfl⟩)
  go_ret
  exact ⟨rfl, rfl⟩
/-- The reference's own check of a range. -/
theorem checkRange_any (n lo hi : Int) (w : World) :
    Calls Tryd.prog 41 #[.int .i64 n, .int .i64 lo, .int .i64 hi] w fun r w' => r = .returned (.int .i64 (rng n lo hi)) ∧ w = w' := by
  go_enter Tryd.func41, Tryd.ntmps41
  go_wp2
  all_goals (go_ret; exact ⟨by unfold rng; simp; omega, rfl⟩)
/-! ### Complex integers -/
theorem wr_is (n : Int) : wrap64 n = wr n := by rw [wr_def]; unfold wrap64; omega
theorem w_mul_re (a b : G) : wrap64 (wrap64 (a.re * b.re) - wrap64 (a.im * b.im)) = (a.mul b).w.re := by simp only [wr_is]; exact wr_sub _ _
theorem w_mul_im (a b : G) : wrap64 (wrap64 (a.re * b.im) + wrap64 (a.im * b.re)) = (a.mul b).w.im := by simp only [wr_is]; exact wr_add _ _
theorem w_add_re (a b : G) : wrap64 (a.re + b.re) = (a.add b).w.re := by simp only [wr_is]; exact rfl
theorem w_add_im (a b : G) : wrap64 (a.im + b.im) = (a.add b).w.im := by simp only [wr_is]; exact rfl
theorem w_sub_re (a b : G) : wrap64 (a.re - b.re) = (a.sub b).w.re := by simp only [wr_is]; exact rfl
theorem w_sub_im (a b : G) : wrap64 (a.im - b.im) = (a.sub b).w.im := by simp only [wr_is]; exact rfl
theorem w_sq (a : G) : wrap64 (wrap64 (a.re * a.re) + wrap64 (a.im * a.im)) = wr a.sq := by simp only [wr_is]; exact wr_add _ _
theorem plus_any (a b : G) (w : World) :
    Calls Tryd.prog 101 #[.agg #[.int .i64 a.re, .int .i64 a.im], .agg #[.int .i64 b.re, .int .i64 b.im]] w fun e w' => e = .returned (.agg #[.int .i64 (a.add b).w.re, .int .i64 (a.add b).w.im]) ∧ Below w.heap.size w w' := by
  go_enter Tryd.func101, Tryd.ntmps101
  go_wp2
  refine bodyPost_ret (v := .agg #[.int .i64 (a.add b).w.re, .int .i64 (a.add b).w.im]) (by simp [results, Tryd.results101, go_sem, w_add_re, w_add_im]) rfl ?_
  exact ⟨rfl, (by repeat (first | exact Below.refl _ _ | exact Below.refl _ _ | refine Below.drew ?_ | refine below_drewN ?_ _ | refine below_set ?_ (by omega) _ | refine below_new ?_ (by omega) _))⟩
theorem times_any (a b : G) (w : World) :
    Calls Tryd.prog 55 #[.agg #[.int .i64 a.re, .int .i64 a.im], .agg #[.int .i64 b.re, .int .i64 b.im]] w fun e w' => e = .returned (.agg #[.int .i64 (a.mul b).w.re, .int .i64 (a.mul b).w.im]) ∧ Below w.heap.size w w' := by
  go_enter Tryd.func55, Tryd.ntmps55
  go_wp2
  refine bodyPost_ret (v := .agg #[.int .i64 (a.mul b).w.re, .int .i64 (a.mul b).w.im]) (by simp [results, Tryd.results55, go_sem, w_mul_re, w_mul_im]) rfl ?_
  exact ⟨rfl, (by repeat (first | exact Below.refl _ _ | exact Below.refl _ _ | refine Below.drew ?_ | refine below_drewN ?_ _ | refine below_set ?_ (by omega) _ | refine below_new ?_ (by omega) _))⟩
theorem rPlus_any (a b : G) (w : World) :
    Calls Tryd.prog 17 #[.agg #[.int .i64 a.re, .int .i64 a.im], .agg #[.int .i64 b.re, .int .i64 b.im]] w fun e w' => e = .returned (.agg #[.int .i64 (a.add b).w.re, .int .i64 (a.add b).w.im]) ∧ Below w.heap.size w w' := by
  go_enter Tryd.func17, Tryd.ntmps17
  go_wp2
  refine bodyPost_ret (v := .agg #[.int .i64 (a.add b).w.re, .int .i64 (a.add b).w.im]) (by simp [results, Tryd.results17, go_sem, w_add_re, w_add_im]) rfl ?_
  exact ⟨rfl, (by repeat (first | exact Below.refl _ _ | exact Below.refl _ _ | refine Below.drew ?_ | refine below_drewN ?_ _ | refine below_set ?_ (by omega) _ | refine below_new ?_ (by omega) _))⟩
theorem rTimes_any (a b : G) (w : World) :
    Calls Tryd.prog 18 #[.agg #[.int .i64 a.re, .int .i64 a.im], .agg #[.int .i64 b.re, .int .i64 b.im]] w fun e w' => e = .returned (.agg #[.int .i64 (a.mul b).w.re, .int .i64 (a.mul b).w.im]) ∧ Below w.heap.size w w' := by
  go_enter Tryd.func18, Tryd.ntmps18
  go_wp2
  refine bodyPost_ret (v := .agg #[.int .i64 (a.mul b).w.re, .int .i64 (a.mul b).w.im]) (by simp [results, Tryd.results18, go_sem, w_mul_re, w_mul_im]) rfl ?_
  exact ⟨rfl, (by repeat (first | exact Below.refl _ _ | exact Below.refl _ _ | refine Below.drew ?_ | refine below_drewN ?_ _ | refine below_set ?_ (by omega) _ | refine below_new ?_ (by omega) _))⟩
theorem conjugate_any (a : G) (w : World) :
    Calls Tryd.prog 56 #[.agg #[.int .i64 a.re, .int .i64 a.im]] w fun e w' => e = .returned (.agg #[.int .i64 a.re, .int .i64 (wr (-a.im))]) ∧ Below w.heap.size w w' := by
  go_enter Tryd.func56, Tryd.ntmps56
  go_wp2
  refine bodyPost_ret (v := .agg #[.int .i64 a.re, .int .i64 (wr (-a.im))]) (by simp [results, Tryd.results56, go_sem, wr_is]) rfl ?_
  exact ⟨rfl, (by repeat (first | exact Below.refl _ _ | exact Below.refl _ _ | refine Below.drew ?_ | refine below_drewN ?_ _ | refine below_set ?_ (by omega) _ | refine below_new ?_ (by omega) _))⟩
theorem rConjugate_any (a : G) (w : World) :
    Calls Tryd.prog 19 #[.agg #[.int .i64 a.re, .int .i64 a.im]] w fun e w' => e = .returned (.agg #[.int .i64 a.re, .int .i64 (wr (-a.im))]) ∧ Below w.heap.size w w' := by
  go_enter Tryd.func19, Tryd.ntmps19
  go_wp2
  refine bodyPost_ret (v := .agg #[.int .i64 a.re, .int .i64 (wr (-a.im))]) (by simp [results, Tryd.results19, go_sem, wr_is]) rfl ?_
  exact ⟨rfl, (by repeat (first | exact Below.refl _ _ | exact Below.refl _ _ | refine Below.drew ?_ | refine below_drewN ?_ _ | refine below_set ?_ (by omega) _ | refine below_new ?_ (by omega) _))⟩
theorem rSquare_any (a : G) (w : World) :
    Calls Tryd.prog 20 #[.agg #[.int .i64 a.re, .int .i64 a.im]] w fun e w' => e = .returned (.int .i64 (wr a.sq)) ∧ Below w.heap.size w w' := by
  go_enter Tryd.func20, Tryd.ntmps20
  go_wp2
  go_ret
  exact ⟨by simp [w_sq], (by repeat (first | exact Below.refl _ _ | exact Below.refl _ _ | refine Below.drew ?_ | refine below_drewN ?_ _ | refine below_set ?_ (by omega) _ | refine below_new ?_ (by omega) _))⟩
end Go.Proofs.YthlnmoecmicofaaDoor
