/- The contracts of the reference's Floor, raw, Step, Room, Stable, and of the program's Stable's parts. -/
import Derived.Test.YtlaaajkehjoffaaDoorArith
import Derived.Test.YtlaaajkehjoffaaDoorFloor
namespace Go.Proofs.YtlaaajkehjoffaaDoor
open Go.RowKit
set_option maxRecDepth 100000

theorem floor_any (a b : Int) (w : World) (h1 : -1000000000000000 ≤ a) (h2 : a ≤ 1000000000000000) (h3 : 1 ≤ b) (h4 : b ≤ 1000000000000000) :
    Calls Tryd.prog 81 #[.int .i64 a, .int .i64 b] w fun r w' => r = .returned (.int .i64 (a / b)) ∧ w = w' := by
  have t1 := tdiv_bd h3 h1 h2 h4
  have t2 := tdiv_self_bd h3 h1 h2 (by omega)
  go_enter Tryd.func81, Tryd.ntmps81
  go_wp2
  all_goals go_ret
  · exact ⟨by rw [← floor_yes h3 (by assumption)]; rfl, rfl⟩
  · exact ⟨by rw [← floor_no h3 (by assumption)]; rfl, rfl⟩

theorem rraw_any (s : Sec) (y : St) (i : Int) (w : World) (h : s.Ok) (hy : y.Ok) (h1 : -32767 ≤ i) (h2 : i ≤ 32767) :
    Calls Tryd.prog 71 #[.agg #[.int .i64 s.b0, .int .i64 s.b1, .int .i64 s.b2, .int .i64 s.a1, .int .i64 s.a2, .int .i64 s.sh], .agg #[.int .i64 y.x1, .int .i64 y.x2, .int .i64 y.y1, .int .i64 y.y2], .int .i64 i] w fun r w' => r = .returned (.int .i64 (s.raw y i)) ∧ Below w.heap.size w w' := by
  have a := @mul_bd s.b0 i (by have := h.b0l; omega) (by have := h.b0h; omega) (by omega) (by omega)
  have b := @mul_bd s.b1 y.x1 (by have := h.b1l; omega) (by have := h.b1h; omega) (by have := hy.x1l; omega) (by have := hy.x1h; omega)
  have c := @mul_bd s.b2 y.x2 (by have := h.b2l; omega) (by have := h.b2h; omega) (by have := hy.x2l; omega) (by have := hy.x2h; omega)
  have d := @mul_bd s.a1 y.y1 (by have := h.a1l; omega) (by have := h.a1h; omega) (by have := hy.y1l; omega) (by have := hy.y1h; omega)
  have e := @mul_bd s.a2 y.y2 (by have := h.a2l; omega) (by have := h.a2h; omega) (by have := hy.y2l; omega) (by have := hy.y2h; omega)
  have hu := unit_bd h
  go_enter Tryd.func71, Tryd.ntmps71
  go_wp2
  obtain ⟨w1, e1, hb0, hz, k0, k1⟩ := box2 w #[.int .i64 s.b0, .int .i64 s.b1, .int .i64 s.b2, .int .i64 s.a1, .int .i64 s.a2, .int .i64 s.sh] #[.int .i64 y.x1, .int .i64 y.x2, .int .i64 y.y1, .int .i64 y.y2] 23 25
  rw [← e1]; clear e1
  have c0 := over_blk (B := w1.heap.size) k0 (by omega)
  have c1 := over_blk (B := w1.heap.size) k1 (by omega)
  refine wp_region_over w1.heap.size (by kernel_rfl) (by kernel_rfl) ?_; (repeat (first | go_big_quiet_step (first | (go_at_call 80; exact over_call (Nat.le_refl _) (rUnit_any s _ h)) | (go_at_call 81; exact over_same (floor_any _ _ _ (by omega) (by omega) (by omega) (by omega)))) | quiet_step (first | (go_at_call 80; exact over_call (Nat.le_refl _) (rUnit_any s _ h)) | (go_at_call 81; exact over_same (floor_any _ _ _ (by omega) (by omega) (by omega) (by omega)))))); refine wpQuiet_nil ?_; rintro W ⟨x, rfl⟩
  go_wp2
  go_ret
  exact ⟨rfl, hb0.trans ((over_below _ _ _).mono (by omega))⟩

set_option maxHeartbeats 1000000 in
theorem rstep_any (s : Sec) (y : St) (i : Int) (w : World) (h : s.Ok) (hy : y.Ok) (h1 : -32767 ≤ i) (h2 : i ≤ 32767) :
    Calls Tryd.prog 50 #[.agg #[.int .i64 s.b0, .int .i64 s.b1, .int .i64 s.b2, .int .i64 s.a1, .int .i64 s.a2, .int .i64 s.sh], .agg #[.int .i64 y.x1, .int .i64 y.x2, .int .i64 y.y1, .int .i64 y.y2], .int .i64 i] w fun r w' => r = .returned (.tuple #[.int .i64 (s.out y i), .agg #[.int .i64 (s.next y i).x1, .int .i64 (s.next y i).x2, .int .i64 (s.next y i).y1, .int .i64 (s.next y i).y2]]) ∧ Below w.heap.size w w' := by
  go_enter Tryd.func50, Tryd.ntmps50
  go_wp2_with fail
  obtain ⟨w1, e1, hb0, hz, k0, k1, k2⟩ := box3 w #[.int .i64 s.b0, .int .i64 s.b1, .int .i64 s.b2, .int .i64 s.a1, .int .i64 s.a2, .int .i64 s.sh] #[.int .i64 y.x1, .int .i64 y.x2, .int .i64 y.y1, .int .i64 y.y2] #[.int .i64 0, .int .i64 0, .int .i64 0, .int .i64 0] 23 25 25
  rw [← e1]; clear e1
  refine (rraw_any s y i _ h hy h1 h2).mono ?_
  rintro e w2 ⟨rfl, hb1⟩
  have hb2 : Below w.heap.size w w2 := below_step hb0 hb1 (by omega)
  have k0' := k0.below hb1 (by omega)
  have k1' := k1.below hb1 (by omega)
  have k2' := k2.below hb1 (by omega)
  have c1 := k1'.cell
  have c2 := k2'.cell
  have f2 := k2'.frozen
  go_wp2
  all_goals
    go_region
    go_wp2
    refine bodyPost_ret (v := .tuple #[.int .i64 (s.out y i), .agg #[.int .i64 (s.next y i).x1, .int .i64 (s.next y i).x2, .int .i64 (s.next y i).y1, .int .i64 (s.next y i).y2]]) (by simp [results, Tryd.results50, go_sem, c2, Sec.next]; unfold Sec.out lim; omega) rfl ?_
    exact ⟨rfl, (by repeat (first | exact hb2 | exact Below.refl _ _ | refine Below.drew ?_ | refine below_drewN ?_ _ | refine below_set ?_ (by omega) _ | refine below_new ?_ (by omega) _))⟩

theorem room_any (s : Sec) (w : World) (h : s.Ok) :
    Calls Tryd.prog 37 #[.agg #[.int .i64 s.b0, .int .i64 s.b1, .int .i64 s.b2, .int .i64 s.a1, .int .i64 s.a2, .int .i64 s.sh]] w fun r w' => r = .returned (.int .i64 s.room) ∧ Below w.heap.size w w' := by
  go_enter Tryd.func37, Tryd.ntmps37
  go_wp2
  obtain ⟨w1, e1, hb0, hz, hk⟩ := box1 w #[.int .i64 s.b0, .int .i64 s.b1, .int .i64 s.b2, .int .i64 s.a1, .int .i64 s.a2, .int .i64 s.sh] 23
  rw [← e1]; clear e1
  have c0 := over_blk (B := w1.heap.size) hk (by omega)
  have hu := unit_bd h
  have q1 := ab_bd h.a1l h.a1h
  have q2 := ab_bd h.a2l h.a2h
  refine wp_region_over w1.heap.size (by kernel_rfl) (by kernel_rfl) ?_; (repeat (first | go_big_quiet_step (first | (go_at_call 80; exact over_call (Nat.le_refl _) (rUnit_any s _ h)) | (go_at_call 72; exact over_same (rabs_any _ _ (by have := h.a1l; have := h.a2l; omega) (by have := h.a1h; have := h.a2h; omega)))) | quiet_step (first | (go_at_call 80; exact over_call (Nat.le_refl _) (rUnit_any s _ h)) | (go_at_call 72; exact over_same (rabs_any _ _ (by have := h.a1l; have := h.a2l; omega) (by have := h.a1h; have := h.a2h; omega)))))); refine wpQuiet_nil ?_; rintro W ⟨x, rfl⟩
  go_wp2
  go_ret
  exact ⟨by simp [Sec.room], hb0.trans ((over_below _ _ _).mono (by omega))⟩
end Go.Proofs.YtlaaajkehjoffaaDoor
