/- Small functions: the reference's Plus, Turn, Square, Mirror, Delay, Small, Keeps; the law's half. -/
import Derived.Test.YtlaaajkehjoffaaDoorBaseB
import Derived.Test.YtlaaajkehjoffaaDoorDelay
import Derived.Test.YtlaaajkehjoffaaDoorAt
import Derived.Test.YtlaaajkehjoffaaDoorBaseA
namespace Go.Proofs.YtlaaajkehjoffaaDoor
open Go.RowKit Go.Shelf
set_option maxRecDepth 100000

theorem sq_nn (a : Int) : 0 ≤ a * a := by
  rcases Int.le_total 0 a with h | h
  · exact Int.mul_nonneg h h
  · rw [← Int.neg_mul_neg]; exact Int.mul_nonneg (by omega) (by omega)
theorem half_any (w : World) : Calls Tryd.prog 62 #[] w fun e w' => e = .returned (.agg #[.int .i64 4, .int .i64 0, .int .i64 0, .int .i64 (-2), .int .i64 0, .int .i64 2]) ∧ Below w.heap.size w w' := by
  go_enter Tryd.func62, Tryd.ntmps62
  go_wp2
  refine bodyPost_ret (v := .agg #[.int .i64 4, .int .i64 0, .int .i64 0, .int .i64 (-2), .int .i64 0, .int .i64 2]) (by simp [results, Tryd.results62, go_sem]) rfl ?_
  exact ⟨rfl, (by repeat (first | exact Below.refl _ _ | exact Below.refl _ _ | refine Below.drew ?_ | refine below_drewN ?_ _ | refine below_set ?_ (by omega) _ | refine below_new ?_ (by omega) _))⟩

theorem square_any (a b : Int) (w : World) (ha : -1000000000 ≤ a ∧ a ≤ 1000000000) (hb : -1000000000 ≤ b ∧ b ≤ 1000000000) :
    Calls Tryd.prog 83 #[.agg #[.int .i64 a, .int .i64 b]] w fun e w' => e = .returned (.int .i64 (a * a + b * b)) ∧ Below w.heap.size w w' := by
  have h1 : 0 ≤ a * a ∧ a * a ≤ 1000000000000000000 := by
    have e : a.natAbs ≤ 1000000000 := by omega
    have g : (a * a).natAbs ≤ 1000000000 * 1000000000 := by rw [Int.natAbs_mul]; exact Nat.mul_le_mul e e
    have := sq_nn a
    omega
  have h2 : 0 ≤ b * b ∧ b * b ≤ 1000000000000000000 := by
    have e : b.natAbs ≤ 1000000000 := by omega
    have g : (b * b).natAbs ≤ 1000000000 * 1000000000 := by rw [Int.natAbs_mul]; exact Nat.mul_le_mul e e
    have := sq_nn b
    omega
  go_enter Tryd.func83, Tryd.ntmps83
  go_wp2
  go_ret
  exact ⟨rfl, (by repeat (first | exact Below.refl _ _ | exact Below.refl _ _ | refine Below.drew ?_ | refine below_drewN ?_ _ | refine below_set ?_ (by omega) _ | refine below_new ?_ (by omega) _))⟩

theorem plus_any (a b c d : Int) (w : World) (h1 : -1000000000000 ≤ a + c ∧ a + c ≤ 1000000000000) (h2 : -1000000000000 ≤ b + d ∧ b + d ≤ 1000000000000) :
    Calls Tryd.prog 98 #[.agg #[.int .i64 a, .int .i64 b], .agg #[.int .i64 c, .int .i64 d]] w fun e w' => e = .returned (.agg #[.int .i64 (a + c), .int .i64 (b + d)]) ∧ Below w.heap.size w w' := by
  go_enter Tryd.func98, Tryd.ntmps98
  go_wp2
  refine bodyPost_ret (v := .agg #[.int .i64 (a + c), .int .i64 (b + d)]) (by simp [results, Tryd.results98, go_sem]) rfl ?_
  exact ⟨rfl, (by repeat (first | exact Below.refl _ _ | exact Below.refl _ _ | refine Below.drew ?_ | refine below_drewN ?_ _ | refine below_set ?_ (by omega) _ | refine below_new ?_ (by omega) _))⟩

theorem rMirror_any (s : Sec) (w : World) :
    Calls Tryd.prog 60 #[.agg #[.int .i64 s.b0, .int .i64 s.b1, .int .i64 s.b2, .int .i64 s.a1, .int .i64 s.a2, .int .i64 s.sh]] w fun e w' => e = .returned (.agg #[.int .i64 s.b2, .int .i64 s.b1, .int .i64 s.b0, .int .i64 s.a1, .int .i64 s.a2, .int .i64 s.sh]) ∧ Below w.heap.size w w' := by
  go_enter Tryd.func60, Tryd.ntmps60
  go_wp2
  refine bodyPost_ret (v := .agg #[.int .i64 s.b2, .int .i64 s.b1, .int .i64 s.b0, .int .i64 s.a1, .int .i64 s.a2, .int .i64 s.sh]) (by simp [results, Tryd.results60, go_sem]) rfl ?_
  exact ⟨rfl, (by repeat (first | exact Below.refl _ _ | exact Below.refl _ _ | refine Below.drew ?_ | refine below_drewN ?_ _ | refine below_set ?_ (by omega) _ | refine below_new ?_ (by omega) _))⟩

/-- Whether a section and a state are small. -/
def smallB (s : Sec) (x : St) : Bool := decide (s.sh ≤ 6) && (decide (ab s.a1 ≤ 64) && (decide (ab s.a2 ≤ 64) && (decide (ab x.y1 ≤ 100) && decide (ab x.y2 ≤ 100))))
end Go.Proofs.YtlaaajkehjoffaaDoor
