/- The reference's Delay, Small, Keeps, CheckUndo. -/
import Derived.Test.YtlaaajkehjoffaaDoorSmallR
import Derived.Test.YtlaaajkehjoffaaDoorBaseC
import Derived.Test.YtlaaajkehjoffaaDoorUndo
namespace Go.Proofs.YtlaaajkehjoffaaDoor
open Go.RowKit Go.Shelf
set_option maxRecDepth 100000

set_option maxHeartbeats 2000000 in
theorem rDelay_any (s : Sec) (w : World) :
    Calls Tryd.prog 40 #[.agg #[.int .i64 s.b0, .int .i64 s.b1, .int .i64 s.b2, .int .i64 s.a1, .int .i64 s.a2, .int .i64 s.sh]] w fun e w' => e = .returned (.tuple #[.agg #[.int .i64 s.delay.1, .int .i64 s.delay.2.1], .int .i64 s.delay.2.2]) ∧ Below w.heap.size w w' := by
  obtain ⟨V, hV⟩ : ∃ V, V = Value.tuple #[.agg #[.int .i64 s.delay.1, .int .i64 s.delay.2.1], .int .i64 s.delay.2.2] := ⟨_, rfl⟩
  rw [← hV]
  have HV := hide hV; clear hV
  go_enter Tryd.func40, Tryd.ntmps40
  go_wp2
  all_goals (
    first
      | (refine bodyPost_ret (v := .tuple #[.agg #[.int .i64 0, .int .i64 0], .int .i64 7]) ?_ rfl ?_; focus (simp [results, Tryd.results40, go_sem]; done))
      | (refine bodyPost_ret (v := .tuple #[.agg #[.int .i64 1, .int .i64 1], .int .i64 0]) ?_ rfl ?_; focus (simp [results, Tryd.results40, go_sem]; done))
      | (refine bodyPost_ret (v := .tuple #[.agg #[.int .i64 1, .int .i64 2], .int .i64 0]) ?_ rfl ?_; focus (simp [results, Tryd.results40, go_sem]; done))
    refine ⟨?_, (by repeat (first | exact Below.refl _ _ | exact Below.refl _ _ | refine Below.drew ?_ | refine below_drewN ?_ _ | refine below_set ?_ (by omega) _ | refine below_new ?_ (by omega) _))⟩
    rw [HV.out]
    (try simp only [beq_iff_eq, beq_eq_false_iff_ne, ne_eq] at *)
    unfold Sec.delay
    repeat' split
    all_goals (first | rfl | (exfalso; omega)))

set_option maxHeartbeats 2000000 in
theorem rKeeps_any (s : Sec) (w : World) (h : s.Ok) :
    Calls Tryd.prog 86 #[.agg #[.int .i64 s.b0, .int .i64 s.b1, .int .i64 s.b2, .int .i64 s.a1, .int .i64 s.a2, .int .i64 s.sh]] w fun e w' => e = .returned (.bool s.keepB) ∧ Below w.heap.size w w' := by
  go_enter Tryd.func86, Tryd.ntmps86
  go_wp2
  obtain ⟨w1, e1, hb1, hz1, k0⟩ := box1 w #[.int .i64 s.b0, .int .i64 s.b1, .int .i64 s.b2, .int .i64 s.a1, .int .i64 s.a2, .int .i64 s.sh] 23
  rw [← e1]; clear e1
  have c0 := over_blk (B := w1.heap.size) k0 (by omega)
  have hc : (s.b0 == s.unit) = true ∨ (s.b0 == s.unit) = false := by cases (s.b0 == s.unit) <;> simp
  have hd : (s.a1 == 0) = true ∨ (s.a1 == 0) = false := by cases (s.a1 == 0) <;> simp
  rcases hc with hc | hc <;> rcases hd with hd | hd
  all_goals (
    refine wp_region_over w1.heap.size (by kernel_rfl) (by kernel_rfl) ?_; (repeat (first | go_big_quiet_step ((go_at_call 80; exact over_call (Nat.le_refl _) (rUnit_any s _ h))) | quiet_step ((go_at_call 80; exact over_call (Nat.le_refl _) (rUnit_any s _ h))))); refine wpQuiet_nil ?_; rintro W ⟨x, rfl⟩
    go_wp2
    go_ret
    refine ⟨?_, hb1.trans ((over_below _ _ _).mono (by omega))⟩
    (try rw [show (s.b0 == s.unit) = (s.unit == s.b0) from by rw [Bool.eq_iff_iff]; simp; exact eq_comm] at hc)
    (try rw [show (s.a1 == 0) = (0 == s.a1) from by rw [Bool.eq_iff_iff]; simp; exact eq_comm] at hd)
    unfold Sec.keepB
    rw [hc, hd]
    have e9 : (s.a2 == 0) = (0 == s.a2) := by rw [Bool.eq_iff_iff]; simp; exact eq_comm
    first | rfl | simp [e9])
theorem sec_two' (s : Sec) : s.err = 0 ∨ s.err = 3 := by unfold Sec.err; split <;> simp
end Go.Proofs.YtlaaajkehjoffaaDoor
