/- SameRatios of the reference. -/
import Derived.Test.YtnndaipnfniciaaGreatDoorBaseW
namespace Go.Proofs.YtnndaipnfniciaaGreatDoor
open Go.RowKit Go.Shelf
set_option maxRecDepth 100000
set_option maxHeartbeats 2000000 in
theorem sameRatios_any (A : Option Addr) (n c : Nat) (xs : List Rt) (A' : Option Addr) (m c' : Nat) (ys : List Rt) (w : World) (h : Reads w w.heap.size 2 A n (rts xs)) (h' : Reads w w.heap.size 2 A' m (rts ys)) (hn : n ≤ 1000000000000) (hm : m ≤ 1000000000000) :
    Calls Tryz.prog 37 #[.slice A n c, .slice A' m c'] w fun r w' => r = .returned (.bool (decide (xs = ys))) ∧ Below w.heap.size w w' := by
  have hl := rts_reads_len h
  have hl' := rts_reads_len h'
  go_enter Tryz.func37, Tryz.ntmps37
  by_cases hnm : n = m
  · obtain rfl : m = n := hnm.symm
    have HL := hide hl
    have HL' := hide hl'
    have t0 : ((m : Int) != (m : Int)) = false := by simp
    clear hl hl'
    go_wp2_with fail
    go_loopw [5] (fun i wr => ∃ k : Nat, k ≤ m ∧ i = .int .i64 k ∧ xs.take k = ys.take k ∧ Below w.heap.size w wr) (fun i _ => m - (intOf i).toNat)
    case atStart => exact ⟨0, by omega, rfl, rfl, Below.refl _ _⟩
    case round =>
      rename World => wo
      obtain ⟨k, hk, rfl, ht, hb⟩ := hrel
      have HT := hide ht
      clear ht
      by_cases hlt : k < m
      · obtain ⟨ad, p, rfl, _, hx, hc⟩ := rts_hit (carry h hb) hlt (Nat.le_refl _)
        obtain ⟨ad', q, rfl, _, hy, hc'⟩ := rts_hit (carry h' hb) hlt (Nat.le_refl _)
        have HX := hide hx
        have HY := hide hy
        have q0 : ∀ x, (over wo.heap.size wo x).cell? (ad.add (k * 2)) = some (.int .i64 p.n) := fun x => (hc _ (over_below _ _ _)).1
        have q1 : ∀ x, (over wo.heap.size wo x).cell? ⟨(ad.add (k * 2)).block, (ad.add (k * 2)).off + 1, none⟩ = some (.int .i64 p.d) := fun x => (hc _ (over_below _ _ _)).2
        have q2 : ∀ x, (over wo.heap.size wo x).cell? (ad'.add (k * 2)) = some (.int .i64 q.n) := fun x => (hc' _ (over_below _ _ _)).1
        have q3 : ∀ x, (over wo.heap.size wo x).cell? ⟨(ad'.add (k * 2)).block, (ad'.add (k * 2)).off + 1, none⟩ = some (.int .i64 q.d) := fun x => (hc' _ (over_below _ _ _)).2
        have hq := eqRt p q
        clear hx hy hc hc'
        by_cases hpq : p = q
        · rw [decide_eq_true hpq] at hq
          have HPQ := hide hpq
          clear hpq
          go_upto_region 6 with (fail)
          refine wp_region_over wo.heap.size (by kernel_rfl) (by kernel_rfl) ?_; (repeat (first | go_big_quiet_step (fail) | quiet_step (fail))); refine wpQuiet_nil ?_; rintro W ⟨x, rfl⟩
          have hbY := over_below wo.heap.size wo x
          generalize over wo.heap.size wo x = Y at hbY ⊢
          go_wp2_with fail
          go_roundw
          case rel => exact ⟨k + 1, by omega, by go_num, by rw [List.take_add_one, List.take_add_one, HX.out, HY.out, HT.out, HPQ.out], below_next hb hbY⟩
          case measure => simp [intOf]; omega
        · rw [decide_eq_false hpq] at hq
          have hne : ¬ xs = ys := fun e => by
            have := HX.out
            rw [e, HY.out] at this
            exact hpq (Option.some.inj this).symm
          have HNE := hide (decide_eq_false hne)
          clear hpq hne
          go_upto_region 6 with (fail)
          refine wp_region_over wo.heap.size (by kernel_rfl) (by kernel_rfl) ?_; (repeat (first | go_big_quiet_step (fail) | quiet_step (fail))); refine wpQuiet_nil ?_; rintro W ⟨x, rfl⟩
          have hbY := over_below wo.heap.size wo x
          generalize over wo.heap.size wo x = Y at hbY ⊢
          go_wp2_with fail
          go_ret
          exact ⟨by rw [HNE.out]; rfl, below_next hb hbY⟩
      · obtain rfl : k = m := by omega
        have he : xs = ys := by
          have := HT.out
          rwa [List.take_of_length_le (by rw [HL.out]; omega), List.take_of_length_le (by rw [HL'.out]; omega)] at this
        have HE := hide (decide_eq_true he)
        clear he
        go_wp2_with fail
        go_ret
        exact ⟨by rw [HE.out]; rfl, hb⟩
  · have t0 : ((n : Int) != (m : Int)) = true := by simp; omega
    have hne : ¬ xs = ys := fun e => hnm (by rw [← hl, ← hl', e])
    have HNE := hide (decide_eq_false hne)
    clear hnm hl hl' hne
    go_wp2_with fail
    go_ret
    exact ⟨by rw [HNE.out]; rfl, Below.refl _ _⟩
end Go.Proofs.YtnndaipnfniciaaGreatDoor
