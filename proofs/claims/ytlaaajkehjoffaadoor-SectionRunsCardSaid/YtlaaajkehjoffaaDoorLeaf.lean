/- The contracts of the small checks of package section: when, within, checkTap, checkValue. -/
import Derived.Test.YtlaaajkehjoffaaDoorProg
import Derived.Test.YtlaaajkehjoffaaDoorMath
import Derived.WalkKit
import Derived.WalkSpells
import Derived.WalkLawsBesides
namespace Go.Proofs.YtlaaajkehjoffaaDoor
open Go.RowKit
set_option maxRecDepth 100000


set_option maxHeartbeats 400000 in
theorem when_any (b : Bool) (e : Int) (w : World) :
    Calls Tryd.prog 84 #[.bool b, .int .i64 e] w fun r w' => r = .returned (.int .i64 (if b then e else 0)) ∧ w = w' := by
  cases b
  · go_enter Tryd.func84, Tryd.ntmps84
    go_wp2
    go_ret
    exact ⟨rfl, rfl⟩
  · go_enter Tryd.func84, Tryd.ntmps84
    go_wp2
    go_ret
    exact ⟨rfl, rfl⟩

set_option maxHeartbeats 400000 in
theorem within_any (n lo hi : Int) (w : World) :
    Calls Tryd.prog 77 #[.int .i64 n, .int .i64 lo, .int .i64 hi] w fun r w' => r = .returned (.int .i64 (rng n lo hi)) ∧ w = w' := by
  go_enter Tryd.func77, Tryd.ntmps77
  go_wp2_with (go_at_call 84; refine (when_any _ _ _).mono ?_; rintro e w' ⟨rfl, rfl⟩)
  all_goals (go_ret; exact ⟨by unfold rng; simp; omega, rfl⟩)

theorem checkTap_any (n : Int) (w : World) :
    Calls Tryd.prog 88 #[.int .i64 n] w fun r w' => r = .returned (.int .i64 (vErr n)) ∧ w = w' := by
  go_enter Tryd.func88, Tryd.ntmps88
  go_wp2_with (go_at_call 77; refine (within_any _ _ _ _).mono ?_; rintro e w' ⟨rfl, rfl⟩)
  go_ret
  exact ⟨rfl, rfl⟩

theorem checkValue_any (n : Int) (w : World) :
    Calls Tryd.prog 85 #[.int .i64 n] w fun r w' => r = .returned (.int .i64 (vErr n)) ∧ w = w' := by
  go_enter Tryd.func85, Tryd.ntmps85
  go_wp2_with (go_at_call 77; refine (within_any _ _ _ _).mono ?_; rintro e w' ⟨rfl, rfl⟩)
  go_ret
  exact ⟨rfl, rfl⟩

/-- The reference's own check of a range. -/
theorem checkRange_any (n lo hi : Int) (w : World) :
    Calls Tryd.prog 36 #[.int .i64 n, .int .i64 lo, .int .i64 hi] w fun r w' => r = .returned (.int .i64 (rng n lo hi)) ∧ w = w' := by
  go_enter Tryd.func36, Tryd.ntmps36
  go_wp2
  all_goals (go_ret; exact ⟨by unfold rng; simp; omega, rfl⟩)

theorem checkInput_any (n : Int) (w : World) :
    Calls Tryd.prog 49 #[.int .i64 n] w fun r w' => r = .returned (.int .i64 (vErr n)) ∧ w = w' := by
  go_enter Tryd.func49, Tryd.ntmps49
  go_wp2_with (go_at_call 36; refine (checkRange_any _ _ _ _).mono ?_; rintro e w' ⟨rfl, rfl⟩)
  go_ret
  exact ⟨rfl, rfl⟩

theorem limited_any (n : Int) (w : World) :
    Calls Tryd.prog 69 #[.int .i64 n] w fun r w' => r = .returned (.int .i64 (lim n)) ∧ w = w' := by
  go_enter Tryd.func69, Tryd.ntmps69
  go_wp2
  all_goals (go_ret; exact ⟨by simp [lim]; omega, rfl⟩)

end Go.Proofs.YtlaaajkehjoffaaDoor
