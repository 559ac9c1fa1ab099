/- The fixed example of the laws on drivers and ladders. -/
import Derived.Test.YthlnmoecmicofaaDoorNDrvD
import Derived.Test.YthlnmoecmicofaaDoorNSpi
namespace Go.Proofs.YthlnmoecmicofaaDoor
open Go.RowKit Go.Shelf
set_option maxRecDepth 100000
def dOne : Drv := ⟨1, 0, 1, 1, 1, 1⟩
def lOne : List El := [⟨kSeries, 1, 0⟩, ⟨kShunt, 1, 1⟩, ⟨kTrap, 0, 1⟩]
theorem circ_imp (w : World) (hL : Lim w) :
    Calls Tryd.prog 11 #[.agg #[.int .i64 1, .int .i64 0, .int .i64 1, .int .i64 1, .int .i64 1, .int .i64 1], .int .i64 1] w fun e w' => e = .returned (.tuple #[.agg #[.int .i64 0, .int .i64 2, .int .i64 0, .int .i64 1], .int .i64 0]) ∧ Below w.heap.size w w' :=
  DrImpedance_ok dOne 1 w hL (by decide)
theorem circ_at : atErr lOne 1 = 0 := by decide +kernel
theorem circ_a : (chn 1 .id lOne).a = ⟨0, 2⟩ := by decide +kernel
theorem circ_c : (chn 1 .id lOne).c = ⟨0, 1⟩ := by decide +kernel
theorem circ_in (A : Option Addr) (c : Nat) (w : World) (hC : Con w) (hR : Reads w w.heap.size 3 A 3 (els lOne)) :
    Calls Tryd.prog 31 #[.slice A 3 c, .int .i64 1] w fun e w' => e = .returned (.tuple #[.agg #[.int .i64 0, .int .i64 2, .int .i64 0, .int .i64 1], .int .i64 0]) ∧ Below w.heap.size w w' := by
  have := Input_ok lOne 1 A 3 c w hC circ_at (by omega) hR
  rw [circ_a, circ_c] at this
  exact this
theorem els_new (w : World) (l : List El) (t : TypeId) (n : Nat) (hn : n = l.length) : Reads (w.alloc (.cells (els l).toArray t)) (w.alloc (.cells (els l).toArray t)).heap.size 3 (some ⟨w.heap.size, 0, none⟩) n (els l) := by
  refine ⟨by rw [els_len]; omega, fun _ => ⟨_, rfl, by simp, fun j u hu => ?_⟩⟩
  have : (⟨w.heap.size, 0, none⟩ : Addr).add j = ⟨w.heap.size, j, none⟩ := by unfold Addr.add; split <;> simp_all
  rw [this]
  exact cells_new _ _ _ j u hu
theorem circ_mul : ((⟨2, 0⟩ : G).mul ⟨0, 1⟩).w = ⟨0, 2⟩ := by decide +kernel
theorem circ_times (w : World) :
    Calls Tryd.prog 18 #[.agg #[.int .i64 2, .int .i64 0], .agg #[.int .i64 0, .int .i64 1]] w fun e w' => e = .returned (.agg #[.int .i64 0, .int .i64 2]) ∧ Below w.heap.size w w' := by
  have := rTimes_any ⟨2, 0⟩ ⟨0, 1⟩ w
  rw [circ_mul] at this
  exact this
set_option maxHeartbeats 1000000 in
theorem circ_any (w : World) (hC : Con w) (hL : Lim w) :
    Calls Tryd.prog 7 #[] w fun e w' => e = .returned (.bool true) ∧ Below w.heap.size w w' := by
  go_enter Tryd.func7, Tryd.ntmps7
  go_wp2_with fail
  refine (circ_imp _ hL).mono ?_
  rintro e w1 ⟨rfl, hb1⟩
  go_upto_region 2 with (fail)
  obtain ⟨w2, e2, hb2, hz2, k2⟩ := box1 w1 #[.int .i64 0, .int .i64 2, .int .i64 0, .int .i64 1] 32
  rw [← e2]; clear e2
  have hbw2 := below_next hb1 hb2
  go_wp2_with fail
  refine (circ_in _ _ _ ((hC.carry hbw2).carry (below_new (Below.refl _ _) (Nat.le_refl _) _)) (els_new w2 lOne 62 3 rfl)).mono ?_
  rintro e w3 ⟨rfl, hb3⟩
  have hbw3 := below_step (below_new hbw2 (Nat.le_refl _) _) hb3 (by have := hbw2.size; simp; omega)
  have k3 := (k2.alloc _).below hb3 (by have := k2.lt; simp; omega)
  go_upto_region 3 with (fail)
  obtain ⟨w4, e4, hb4, hz4, k4⟩ := box1 w3 #[.int .i64 0, .int .i64 2, .int .i64 0, .int .i64 1] 32
  rw [← e4]; clear e4
  have hbw4 := below_next hbw3 hb4
  have k5 := carryK k3 hb4
  have c0 := over_blk k4 k4.lt
  have c1 := over_blk k5 k5.lt
  refine wp_region_over w4.heap.size (by kernel_rfl) (by kernel_rfl) ?_; (repeat (first | go_big_quiet_step ((go_at_call 18; exact over_call (Nat.le_refl _) (circ_times _))) | quiet_step ((go_at_call 18; exact over_call (Nat.le_refl _) (circ_times _))))); refine wpQuiet_nil ?_; rintro W ⟨x, rfl⟩
  have hbY := over_below w4.heap.size w4 x
  generalize over w4.heap.size w4 x = Y at hbY ⊢
  go_wp2_with fail
  go_ret
  exact ⟨rfl, below_next hbw4 hbY⟩
end Go.Proofs.YthlnmoecmicofaaDoor
