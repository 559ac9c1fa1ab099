/- Small functions: the reference's Plus, Turn, Square, Mirror, Delay, Small, Keeps; the law's half. -/
import Derived.Test.YtpcmflfinlkeiaaGreatDoorBaseB
import Derived.Test.YtpcmflfinlkeiaaGreatDoorDelay
import Derived.Test.YtpcmflfinlkeiaaGreatDoorAt
import Derived.Test.YtpcmflfinlkeiaaGreatDoorBaseA
namespace Go.Proofs.YtpcmflfinlkeiaaGreatDoor
open Go.RowKit Go.Shelf
set_option maxRecDepth 100000

theorem sq_nn (a : Int) : 0 ≤ a * a := by
  rcases Int.le_total 0 a with h | h
  · exact Int.mul_nonneg h h
  · rw [← Int.neg_mul_neg]; exact Int.mul_nonneg (by omega) (by omega)
theorem half_any (w : World) : Calls Tryz.prog 26 #[] w fun e w' => e = .returned (.agg #[.int .i64 4, .int .i64 0, .int .i64 0, .int .i64 (-2), .int .i64 0, .int .i64 2]) ∧ Below w.heap.size w w' := by
  go_enter Tryz.func26, Tryz.ntmps26
  go_wp2
  refine bodyPost_ret (v := .agg #[.int .i64 4, .int .i64 0, .int .i64 0, .int .i64 (-2), .int .i64 0, .int .i64 2]) (by simp [results, Tryz.results26, go_sem]) rfl ?_
  exact ⟨rfl, (by repeat (first | exact Below.refl _ _ | exact Below.refl _ _ | refine Below.drew ?_ | refine below_drewN ?_ _ | refine below_set ?_ (by omega) _ | refine below_new ?_ (by omega) _))⟩

/-- Whether a section and a state are small. -/
def smallB (s : Sec) (x : St) : Bool := decide (s.sh ≤ 6) && (decide (ab s.a1 ≤ 64) && (decide (ab s.a2 ≤ 64) && (decide (ab x.y1 ≤ 100) && decide (ab x.y2 ≤ 100))))
end Go.Proofs.YtpcmflfinlkeiaaGreatDoor
