/- The reference's Less, CheckTable, CheckLevel, Table, Peak, Below. -/
import Derived.Test.YtnndaipnfniciaaDoorNRImp
import Derived.Test.YtnndaipnfniciaaDoorNBel
import Derived.Test.YtnndaipnfniciaaDoorNPeak
namespace Go.Proofs.YtnndaipnfniciaaDoor
open Go.RowKit Go.Shelf
set_option maxRecDepth 100000
theorem mod_in {a : Rt} (h : a.In) : 0 ≤ a.n % a.d ∧ a.n % a.d < a.d := by
  have := h.pos.d
  exact ⟨Int.emod_nonneg a.n (by omega), Int.emod_lt_of_pos a.n (by omega)⟩
set_option maxHeartbeats 2000000 in
theorem lessR_aux (N : Nat) : ∀ (a b : Rt) (w : World), a.In → b.In → (a.d + b.d).toNat ≤ N →
    Calls Tryd.prog 15 #[.agg #[.int .i64 a.n, .int .i64 a.d], .agg #[.int .i64 b.n, .int .i64 b.d]] w fun e w' => e = .returned (.bool (a.lt b)) ∧ Below w.heap.size w w' := by
  induction N with
  | zero => intro a b w ha hb h; have := ha.pos.d; have := hb.pos.d; omega
  | succ N ih =>
    intro a b w ha hb hN
    have HIH := hide ih
    have bp := quo_in ha
    have bq := quo_in hb
    have wp := wq_in ha
    have wq := wq_in hb
    have dp := ha.pos.d
    have dq := hb.pos.d
    have np0 := ha.pos.n
    have nq0 := hb.pos.n
    have dp2 := ha.d
    have dq2 := hb.d
    have np2 := ha.n
    have nq2 := hb.n
    have ma := mod_in ha
    have mb := mod_in hb
    clear ih
    by_cases hw : a.n / a.d = b.n / b.d
    · have t0 : (a.n / a.d != b.n / b.d) = false := by simpa using hw
      by_cases h1 : b.n % b.d = 0
      · have HL := hide (lt_same0 ha.pos hb.pos hw h1)
        have t1 : (b.n % b.d == 0) = true := by simpa using h1
        have t2 : (b.n % b.d != 0) = false := by simpa using h1
        clear hw h1
        by_cases h2 : a.n % a.d = 0
        · have t3 : (a.n % a.d == 0) = true := by simpa using h2
          clear h2
          go_enter Tryd.func15, Tryd.ntmps15
          go_upto_region 1 with (fail)
          obtain ⟨w1, e1, hb1, hz1, k0, k1⟩ := box2 w #[.int .i64 a.n, .int .i64 a.d] #[.int .i64 b.n, .int .i64 b.d] 50 50
          rw [← e1]; clear e1
          have c0 := over_blk k0 k0.lt
          have c1 := over_blk k1 k1.lt
          refine wp_region_over w1.heap.size (by kernel_rfl) (by kernel_rfl) ?_; (repeat (first | go_big_quiet_step (fail) | quiet_step (fail))); refine wpQuiet_nil ?_; rintro W ⟨x, rfl⟩
          have hbY := over_below w1.heap.size w1 x
          generalize over w1.heap.size w1 x = Y at hbY ⊢
          clear c0 c1
          go_upto_region 4 with (fail)
          have c0 := over_blk (carryK k0 hbY) (carryK k0 hbY).lt
          have c1 := over_blk (carryK k1 hbY) (carryK k1 hbY).lt
          refine wp_region_over Y.heap.size (by kernel_rfl) (by kernel_rfl) ?_; (repeat (first | go_big_quiet_step (fail) | quiet_step (fail))); refine wpQuiet_nil ?_; rintro W ⟨x, rfl⟩
          have hbZ := over_below Y.heap.size Y x
          generalize over Y.heap.size Y x = Z at hbZ ⊢
          clear c0 c1
          go_wp2_with fail
          go_ret
          exact ⟨by rw [HL.out]; rfl, (by repeat (first | with_reducible assumption | exact Below.refl _ _ | refine below_next (by with_reducible assumption) ?_))⟩
        · have t3 : (a.n % a.d == 0) = false := by simpa using h2
          clear h2
          go_enter Tryd.func15, Tryd.ntmps15
          go_upto_region 1 with (fail)
          obtain ⟨w1, e1, hb1, hz1, k0, k1⟩ := box2 w #[.int .i64 a.n, .int .i64 a.d] #[.int .i64 b.n, .int .i64 b.d] 50 50
          rw [← e1]; clear e1
          have c0 := over_blk k0 k0.lt
          have c1 := over_blk k1 k1.lt
          refine wp_region_over w1.heap.size (by kernel_rfl) (by kernel_rfl) ?_; (repeat (first | go_big_quiet_step (fail) | quiet_step (fail))); refine wpQuiet_nil ?_; rintro W ⟨x, rfl⟩
          have hbY := over_below w1.heap.size w1 x
          generalize over w1.heap.size w1 x = Y at hbY ⊢
          clear c0 c1
          go_upto_region 4 with (fail)
          have c0 := over_blk (carryK k0 hbY) (carryK k0 hbY).lt
          have c1 := over_blk (carryK k1 hbY) (carryK k1 hbY).lt
          refine wp_region_over Y.heap.size (by kernel_rfl) (by kernel_rfl) ?_; (repeat (first | go_big_quiet_step (fail) | quiet_step (fail))); refine wpQuiet_nil ?_; rintro W ⟨x, rfl⟩
          have hbZ := over_below Y.heap.size Y x
          generalize over Y.heap.size Y x = Z at hbZ ⊢
          clear c0 c1
          go_wp2_with fail
          go_ret
          exact ⟨by rw [HL.out]; rfl, (by repeat (first | with_reducible assumption | exact Below.refl _ _ | refine below_next (by with_reducible assumption) ?_))⟩
      · have t1 : (b.n % b.d == 0) = false := by simpa using h1
        have t2 : (b.n % b.d != 0) = true := by simpa using h1
        by_cases h2 : a.n % a.d = 0
        · have HL := hide (lt_same1 ha.pos hb.pos hw h2 h1)
          have t3 : (a.n % a.d == 0) = true := by simpa using h2
          clear hw h1 h2
          go_enter Tryd.func15, Tryd.ntmps15
          go_upto_region 1 with (fail)
          obtain ⟨w1, e1, hb1, hz1, k0, k1⟩ := box2 w #[.int .i64 a.n, .int .i64 a.d] #[.int .i64 b.n, .int .i64 b.d] 50 50
          rw [← e1]; clear e1
          have c0 := over_blk k0 k0.lt
          have c1 := over_blk k1 k1.lt
          refine wp_region_over w1.heap.size (by kernel_rfl) (by kernel_rfl) ?_; (repeat (first | go_big_quiet_step (fail) | quiet_step (fail))); refine wpQuiet_nil ?_; rintro W ⟨x, rfl⟩
          have hbY := over_below w1.heap.size w1 x
          generalize over w1.heap.size w1 x = Y at hbY ⊢
          clear c0 c1
          go_upto_region 4 with (fail)
          have c0 := over_blk (carryK k0 hbY) (carryK k0 hbY).lt
          have c1 := over_blk (carryK k1 hbY) (carryK k1 hbY).lt
          refine wp_region_over Y.heap.size (by kernel_rfl) (by kernel_rfl) ?_; (repeat (first | go_big_quiet_step (fail) | quiet_step (fail))); refine wpQuiet_nil ?_; rintro W ⟨x, rfl⟩
          have hbZ := over_below Y.heap.size Y x
          generalize over Y.heap.size Y x = Z at hbZ ⊢
          clear c0 c1
          go_wp2_with fail
          go_ret
          exact ⟨by rw [HL.out]; rfl, (by repeat (first | with_reducible assumption | exact Below.refl _ _ | refine below_next (by with_reducible assumption) ?_))⟩
        · have HL := hide (lt_same2 hw)
          have t3 : (a.n % a.d == 0) = false := by simpa using h2
          have I1 := hide (turn_in ha h2)
          have I2 := hide (turn_in hb h1)
          have HM : Hid ((b.n % b.d + a.n % a.d).toNat ≤ N) := by show _ ≤ N; omega
          clear hw h1 h2
          go_enter Tryd.func15, Tryd.ntmps15
          go_upto_region 1 with (fail)
          obtain ⟨w1, e1, hb1, hz1, k0, k1⟩ := box2 w #[.int .i64 a.n, .int .i64 a.d] #[.int .i64 b.n, .int .i64 b.d] 50 50
          rw [← e1]; clear e1
          have c0 := over_blk k0 k0.lt
          have c1 := over_blk k1 k1.lt
          refine wp_region_over w1.heap.size (by kernel_rfl) (by kernel_rfl) ?_; (repeat (first | go_big_quiet_step (fail) | quiet_step (fail))); refine wpQuiet_nil ?_; rintro W ⟨x, rfl⟩
          have hbY := over_below w1.heap.size w1 x
          generalize over w1.heap.size w1 x = Y at hbY ⊢
          clear c0 c1
          go_upto_region 4 with (fail)
          have c0 := over_blk (carryK k0 hbY) (carryK k0 hbY).lt
          have c1 := over_blk (carryK k1 hbY) (carryK k1 hbY).lt
          refine wp_region_over Y.heap.size (by kernel_rfl) (by kernel_rfl) ?_; (repeat (first | go_big_quiet_step (fail) | quiet_step (fail))); refine wpQuiet_nil ?_; rintro W ⟨x, rfl⟩
          have hbZ := over_below Y.heap.size Y x
          generalize over Y.heap.size Y x = Z at hbZ ⊢
          clear c0 c1
          have c0 := (carryK (w' := Z) k0 (by repeat (first | with_reducible assumption | exact Below.refl _ _ | refine below_next (by with_reducible assumption) ?_))).cell
          have c1 := (carryK (w' := Z) k1 (by repeat (first | with_reducible assumption | exact Below.refl _ _ | refine below_next (by with_reducible assumption) ?_))).cell
          go_wp2_with fail
          refine (HIH.out ⟨b.d, b.n % b.d⟩ ⟨a.d, a.n % a.d⟩ _ I2.out I1.out HM.out).mono ?_
          rintro e w9 ⟨rfl, hb9⟩
          clear c0 c1
          go_wp2_with fail
          go_ret
          exact ⟨by rw [HL.out]; rfl, (by repeat (first | with_reducible assumption | exact Below.refl _ _ | refine below_next (by with_reducible assumption) ?_))⟩
    · have t0 : (a.n / a.d != b.n / b.d) = true := by simpa using hw
      have HL := hide (lt_whole ha.pos hb.pos hw)
      clear hw
      go_enter Tryd.func15, Tryd.ntmps15
      go_upto_region 1 with (fail)
      obtain ⟨w1, e1, hb1, hz1, k0, k1⟩ := box2 w #[.int .i64 a.n, .int .i64 a.d] #[.int .i64 b.n, .int .i64 b.d] 50 50
      rw [← e1]; clear e1
      have c0 := over_blk k0 k0.lt
      have c1 := over_blk k1 k1.lt
      refine wp_region_over w1.heap.size (by kernel_rfl) (by kernel_rfl) ?_; (repeat (first | go_big_quiet_step (fail) | quiet_step (fail))); refine wpQuiet_nil ?_; rintro W ⟨x, rfl⟩
      have hbY := over_below w1.heap.size w1 x
      generalize over w1.heap.size w1 x = Y at hbY ⊢
      clear c0 c1
      go_wp2_with fail
      go_ret
      exact ⟨by rw [HL.out]; rfl, (by repeat (first | with_reducible assumption | exact Below.refl _ _ | refine below_next (by with_reducible assumption) ?_))⟩
theorem lessR_any (a b : Rt) (w : World) (ha : a.In) (hb : b.In) :
    Calls Tryd.prog 15 #[.agg #[.int .i64 a.n, .int .i64 a.d], .agg #[.int .i64 b.n, .int .i64 b.d]] w fun e w' => e = .returned (.bool (a.lt b)) ∧ Below w.heap.size w w' := lessR_aux _ a b w ha hb (Nat.le_refl _)
end Go.Proofs.YtnndaipnfniciaaDoor
