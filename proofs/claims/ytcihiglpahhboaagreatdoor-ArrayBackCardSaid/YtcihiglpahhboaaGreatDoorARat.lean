/- ratio of the program, Lowest of the reference. -/
import Derived.Test.YtcihiglpahhboaaGreatDoorBaseF
import Derived.BigRegion
import Derived.Test.YtcihiglpahhboaaGreatDoorBaseS
namespace Go.Proofs.YtcihiglpahhboaaGreatDoor
open Go.RowKit
set_option maxRecDepth 100000
/-- A quotient. -/
structure Rt where
  n : Int
  d : Int
instance : DecidableEq Rt := fun a b => decidable_of_iff (a.n = b.n ∧ a.d = b.d) (by cases a; cases b; simp)
/-- In lowest terms. -/
def low (n d : Nat) : Rt := ⟨((n / Nat.gcd n d : Nat) : Int), ((d / Nat.gcd n d : Nat) : Int)⟩
theorem gcd_step (x y : Nat) : Nat.gcd y (x % y) = Nat.gcd x y := by rw [Nat.gcd_comm x y, Nat.gcd_rec y x, Nat.gcd_comm (x % y) y]
theorem wdiv (n p : Nat) (h : n ≤ 9223372036854775807) : wrap64 ((n : Int) / (p : Int)) = ((n / p : Nat) : Int) := by
  have h2 := Nat.le_trans (Nat.div_le_self n p) h
  rw [show (n : Int) / (p : Int) = ((n / p : Nat) : Int) from rfl]
  generalize n / p = m at h2 ⊢
  unfold wrap64; omega
set_option maxHeartbeats 1000000 in
theorem ratio_any (n d : Nat) (w : World) (hd : 0 < d) (hn : n ≤ 9223372036854775807) (hdd : d ≤ 9223372036854775807) :
    Calls Tryz.prog 110 #[.int .i64 n, .int .i64 d] w fun e w' => e = .returned (.agg #[.int .i64 (low n d).n, .int .i64 (low n d).d]) ∧ Below w.heap.size w w' := by
  go_enter Tryz.func110, Tryz.ntmps110
  go_wp2_with fail
  obtain ⟨w1, e1, hb1, hz1, k0⟩ := box1 w #[.int .i64 0, .int .i64 0] 88
  rw [← e1]; clear e1
  go_loopw [5, 6] (fun a b wr => ∃ p q : Nat, a = .int .i64 p ∧ b = .int .i64 q ∧ Nat.gcd p q = Nat.gcd n d ∧ p ≤ 9223372036854775807 ∧ q ≤ 9223372036854775807 ∧ Blk wr w.heap.size 88 #[.int .i64 0, .int .i64 0] ∧ Below w.heap.size w wr) (fun _ b _ => (intOf b).toNat)
  case atStart => exact ⟨n, d, rfl, rfl, rfl, hn, hdd, k0, hb1⟩
  case round =>
    rename World => wo
    obtain ⟨p, q, rfl, rfl, hg, hp, hq, kR, hb⟩ := hrel
    clear k0 hb1
    have HG := hide hg
    clear hg
    by_cases hq0 : q = 0
    · subst hq0
      have hpg : p = Nat.gcd n d := by rw [← HG.out, Nat.gcd_zero_right]
      have hpp : 0 < p := by rw [hpg]; exact Nat.gcd_pos_of_pos_right _ hd
      have HP := hide hpg
      clear hpg
      have hpz : ((p : Int) == 0) = false := by simp; omega
      have hp1 : 0 < (p : Int) := by omega
      have t0 : (((0 : Nat) : Int) != 0) = false := rfl
      have e1 := wdiv n p hn
      have e2 := wdiv d p hdd
      go_upto_region 4 with (fail)
      refine wp_region_part 6 wo.heap.size (by kernel_rfl) (by kernel_rfl) ?_; simp only [List.take_succ_cons, List.take_zero, List.drop_succ_cons, List.drop_zero]; (repeat (first | go_big_quiet_step (fail) | quiet_step (fail))); refine wpQuiet_nil ?_; rintro W ⟨x, rfl⟩
      have hbY := over_below wo.heap.size wo x
      generalize over wo.heap.size wo x = Y at hbY ⊢
      have kY := carryK kR hbY
      have cR := kY.cell
      have fR := kY.frozen
      go_wp2_with fail
      have kX := blk2 (u0 := .int .i64 ((n : Int) / (p : Int))) (u1 := .int .i64 ((d : Int) / (p : Int))) kY
      have hX := below2 (u0 := .int .i64 ((n : Int) / (p : Int))) (u1 := .int .i64 ((d : Int) / (p : Int))) (below_next hb hbY) (Nat.le_refl w.heap.size)
      have cX := kX.cell
      clear cR fR
      rw [show low n d = ⟨(n : Int) / (p : Int), (d : Int) / (p : Int)⟩ by rw [HP.out]; rfl]
      refine bodyPost_ret (v := .agg #[.int .i64 ((n : Int) / (p : Int)), .int .i64 ((d : Int) / (p : Int))]) (by simp [results, Tryz.results110, go_sem, cX]) rfl ?_
      exact ⟨rfl, hX⟩
    · have t0 : ((q : Int) != 0) = true := by simp; omega
      have hq1 : 0 < (q : Int) := by omega
      have hlt := Nat.mod_lt p (Nat.pos_of_ne_zero hq0)
      have em : (p : Int) % (q : Int) = ((p % q : Nat) : Int) := rfl
      go_upto_region 3 with (fail)
      go_quiet (fail)
      go_wp2_with fail
      go_roundw
      case rel => exact ⟨q, p % q, rfl, by go_num, by rw [← HG.out]; exact gcd_step p q, hq, by omega, kR, below_drewN hb _⟩
      case measure => simp [intOf]; omega
/-- In lowest terms, of any sign. -/
def lowI (n d : Int) : Rt := ⟨n.tdiv (Nat.gcd n.natAbs d.natAbs : Nat), d / (Nat.gcd n.natAbs d.natAbs : Nat)⟩
theorem wtdiv (N p : Nat) (h : N ≤ 9223372036854775807) : wrap64 (-((N : Int) / (p : Int))) = -((N : Int) / (p : Int)) := by
  have h2 := Nat.le_trans (Nat.div_le_self N p) h
  rw [show (N : Int) / (p : Int) = ((N / p : Nat) : Int) from rfl]
  generalize N / p = m at h2 ⊢
  unfold wrap64; omega
theorem lowI_pos (N D : Nat) : lowI (N : Int) (D : Int) = ⟨(N : Int) / (Nat.gcd N D : Nat), (D : Int) / (Nat.gcd N D : Nat)⟩ := rfl
theorem lowI_neg (N D : Nat) : lowI (-(N : Int)) (D : Int) = ⟨-((N : Int) / (Nat.gcd N D : Nat)), (D : Int) / (Nat.gcd N D : Nat)⟩ := by
  unfold lowI
  rw [Int.natAbs_neg, Int.neg_tdiv]; rfl
set_option maxHeartbeats 2000000 in
theorem rLowest_any (n d : Int) (w : World) (hd : 0 < d ∧ d ≤ 9223372036854775807) (hn : -9223372036854775807 ≤ n ∧ n ≤ 9223372036854775807) :
    Calls Tryz.prog 111 #[.int .i64 n, .int .i64 d] w fun e w' => e = .returned (.agg #[.int .i64 (lowI n d).n, .int .i64 (lowI n d).d]) ∧ Below w.heap.size w w' := by
  obtain ⟨D, rfl⟩ : ∃ D : Nat, d = D := ⟨d.toNat, by omega⟩
  have b2 : D ≤ 9223372036854775807 := by omega
  have b3 : 0 < D := by omega
  have b4 : ¬ (D : Int) < 0 := by omega
  by_cases hs : 0 ≤ n
  · obtain ⟨N, rfl⟩ : ∃ N : Nat, n = N := ⟨n.toNat, by omega⟩
    have b1 : N ≤ 9223372036854775807 := by omega
    have s1 : ¬ (N : Int) < -(N : Int) := by omega
    go_enter Tryz.func111, Tryz.ntmps111
    go_wp2_with fail
    obtain ⟨w1, ew, hb1, hz1, k0⟩ := box1 w #[.int .i64 0, .int .i64 0] 88
    rw [← ew]; clear ew
    go_loopw [5, 6] (fun a b wr => ∃ p q : Nat, a = .int .i64 p ∧ b = .int .i64 q ∧ Nat.gcd p q = Nat.gcd N D ∧ p ≤ 9223372036854775807 ∧ q ≤ 9223372036854775807 ∧ Blk wr w.heap.size 88 #[.int .i64 0, .int .i64 0] ∧ Below w.heap.size w wr) (fun _ b _ => (intOf b).toNat)
    case atStart => exact ⟨N, D, rfl, rfl, rfl, b1, b2, k0, hb1⟩
    case round =>
      rename World => wo
      obtain ⟨p, q, rfl, rfl, hg, hp, hq, kR, hb⟩ := hrel
      clear k0 hb1
      have HG := hide hg
      clear hg
      by_cases hq0 : q = 0
      · subst hq0
        have hpg : p = Nat.gcd N D := by rw [← HG.out, Nat.gcd_zero_right]
        have hpp : 0 < p := by rw [hpg]; exact Nat.gcd_pos_of_pos_right _ b3
        have HP := hide hpg
        clear hpg
        have hpz : ((p : Int) == 0) = false := by simp; omega
        have hp1 : 0 < (p : Int) := by omega
        have t0 : (((0 : Nat) : Int) != 0) = false := rfl
        have e1 := wdiv N p b1
        have e2 := wdiv D p b2
        go_upto_region 6 with (fail)
        refine wp_region_part 6 wo.heap.size (by kernel_rfl) (by kernel_rfl) ?_; simp only [List.take_succ_cons, List.take_zero, List.drop_succ_cons, List.drop_zero]; (repeat (first | go_big_quiet_step (fail) | quiet_step (fail))); refine wpQuiet_nil ?_; rintro W ⟨x, rfl⟩
        have hbY := over_below wo.heap.size wo x
        generalize over wo.heap.size wo x = Y at hbY ⊢
        have kY := carryK kR hbY
        have cR := kY.cell
        have fR := kY.frozen
        go_wp2_with fail
        have kX := blk2 (u0 := .int .i64 ((N : Int) / (p : Int))) (u1 := .int .i64 ((D : Int) / (p : Int))) kY
        have hX := below2 (u0 := .int .i64 ((N : Int) / (p : Int))) (u1 := .int .i64 ((D : Int) / (p : Int))) (below_next hb hbY) (Nat.le_refl w.heap.size)
        have cX := kX.cell
        clear cR fR
        rw [show lowI ((N : Int)) D = ⟨(N : Int) / (p : Int), (D : Int) / (p : Int)⟩ by rw [HP.out]; exact lowI_pos N D]
        refine bodyPost_ret (v := .agg #[.int .i64 ((N : Int) / (p : Int)), .int .i64 ((D : Int) / (p : Int))]) (by simp [results, Tryz.results111, go_sem, cX]) rfl ?_
        exact ⟨rfl, hX⟩
      · have t0 : ((q : Int) != 0) = true := by simp; omega
        have hq1 : 0 < (q : Int) := by omega
        have hlt := Nat.mod_lt p (Nat.pos_of_ne_zero hq0)
        have em : (p : Int) % (q : Int) = ((p % q : Nat) : Int) := rfl
        go_upto_region 5 with (fail)
        go_quiet (fail)
        go_wp2_with fail
        go_roundw
        case rel => exact ⟨q, p % q, rfl, by go_num, by rw [← HG.out]; exact gcd_step p q, hq, by omega, kR, below_drewN hb _⟩
        case measure => simp [intOf]; omega
  · obtain ⟨N, rfl⟩ : ∃ N : Nat, n = -(N : Int) := ⟨n.natAbs, by omega⟩
    have b1 : N ≤ 9223372036854775807 := by omega
    have s1 : -(N : Int) < (N : Int) := by omega
    go_enter Tryz.func111, Tryz.ntmps111
    go_wp2_with fail
    obtain ⟨w1, ew, hb1, hz1, k0⟩ := box1 w #[.int .i64 0, .int .i64 0] 88
    rw [← ew]; clear ew
    go_loopw [5, 6] (fun a b wr => ∃ p q : Nat, a = .int .i64 p ∧ b = .int .i64 q ∧ Nat.gcd p q = Nat.gcd N D ∧ p ≤ 9223372036854775807 ∧ q ≤ 9223372036854775807 ∧ Blk wr w.heap.size 88 #[.int .i64 0, .int .i64 0] ∧ Below w.heap.size w wr) (fun _ b _ => (intOf b).toNat)
    case atStart => exact ⟨N, D, rfl, rfl, rfl, b1, b2, k0, hb1⟩
    case round =>
      rename World => wo
      obtain ⟨p, q, rfl, rfl, hg, hp, hq, kR, hb⟩ := hrel
      clear k0 hb1
      have HG := hide hg
      clear hg
      by_cases hq0 : q = 0
      · subst hq0
        have hpg : p = Nat.gcd N D := by rw [← HG.out, Nat.gcd_zero_right]
        have hpp : 0 < p := by rw [hpg]; exact Nat.gcd_pos_of_pos_right _ b3
        have HP := hide hpg
        clear hpg
        have hpz : ((p : Int) == 0) = false := by simp; omega
        have hp1 : 0 < (p : Int) := by omega
        have t0 : (((0 : Nat) : Int) != 0) = false := rfl
        have e1 := wtdiv N p b1
        have e2 := wdiv D p b2
        go_upto_region 6 with (fail)
        refine wp_region_part 6 wo.heap.size (by kernel_rfl) (by kernel_rfl) ?_; simp only [List.take_succ_cons, List.take_zero, List.drop_succ_cons, List.drop_zero]; (repeat (first | go_big_quiet_step (fail) | quiet_step (fail))); refine wpQuiet_nil ?_; rintro W ⟨x, rfl⟩
        have hbY := over_below wo.heap.size wo x
        generalize over wo.heap.size wo x = Y at hbY ⊢
        have kY := carryK kR hbY
        have cR := kY.cell
        have fR := kY.frozen
        go_wp2_with fail
        have kX := blk2 (u0 := .int .i64 (-((N : Int) / (p : Int)))) (u1 := .int .i64 ((D : Int) / (p : Int))) kY
        have hX := below2 (u0 := .int .i64 (-((N : Int) / (p : Int)))) (u1 := .int .i64 ((D : Int) / (p : Int))) (below_next hb hbY) (Nat.le_refl w.heap.size)
        have cX := kX.cell
        clear cR fR
        rw [show lowI (-(N : Int)) D = ⟨-((N : Int) / (p : Int)), (D : Int) / (p : Int)⟩ by rw [HP.out]; exact lowI_neg N D]
        refine bodyPost_ret (v := .agg #[.int .i64 (-((N : Int) / (p : Int))), .int .i64 ((D : Int) / (p : Int))]) (by simp [results, Tryz.results111, go_sem, cX]) rfl ?_
        exact ⟨rfl, hX⟩
      · have t0 : ((q : Int) != 0) = true := by simp; omega
        have hq1 : 0 < (q : Int) := by omega
        have hlt := Nat.mod_lt p (Nat.pos_of_ne_zero hq0)
        have em : (p : Int) % (q : Int) = ((p % q : Nat) : Int) := rfl
        go_upto_region 5 with (fail)
        go_quiet (fail)
        go_wp2_with fail
        go_roundw
        case rel => exact ⟨q, p % q, rfl, by go_num, by rw [← HG.out]; exact gcd_step p q, hq, by omega, kR, below_drewN hb _⟩
        case measure => simp [intOf]; omega
end Go.Proofs.YtcihiglpahhboaaGreatDoor
