/- The law's told; the reference's SameSections. -/
import Derived.Test.YtpcmflfinlkeiaaGreatDoorSRPk
namespace Go.Proofs.YtpcmflfinlkeiaaGreatDoor
open Go.RowKit Go.Shelf
set_option maxRecDepth 100000
set_option maxHeartbeats 1000000 in
theorem told_any (A : Option Addr) (n c : Nat) (l : List Sec) (w : World) (h : Reads w w.heap.size 6 A n (secs l)) (hn : n ≤ 1000000) :
    Calls Tryz.prog 19 #[.slice A n c] w fun r w' => ∃ v, r = .returned v ∧ w'.ownsRow w.heap.size 50 6 v n (secs l) ∧ Below w.heap.size w w' := by
  have hl := secs_reads_len h
  have HL := hide hl; clear hl
  go_enter Tryz.func19, Tryz.ntmps19
  go_wp2
  go_loopw [3, 8] (fun v i wr => ∃ k : Nat, k ≤ n ∧ i = .int .i64 k ∧ wr.ownsRow w.heap.size 50 6 v k (secs (l.take k)) ∧ Below w.heap.size w wr) (fun _ i _ => n - (intOf i).toNat)
  case atStart => exact ⟨0, by omega, rfl, by simp [secs, World.ownsRow_nil], Below.refl _ _⟩
  case round =>
    obtain ⟨k, hk, rfl, ho, hb⟩ := hrel
    by_cases hlt : k < n
    · have hr := h.below hb
      obtain ⟨ad, s, rfl, _, hx, hc⟩ := secs_hit hr hlt hb.size
      have HX := hide hx; clear hx
      have hsz := hb.size
      have A1 : k + 1 ≤ maxLen := by unfold maxLen; omega
      have A2 : (k + 1) * 48 ≤ 140737488355328 := by omega
      obtain ⟨d0, d1, d2, d3, d4, d5⟩ := hc wr (Below.refl _ _)
      clear h hr hc
      go_wp2_with (at_builtin; refine wpList_push _ rfl (.tmp 12) (.tmp 14) _ rfl w.heap.size 50 _ 6 48 Tryz.underlying22 info_secR rfl (by decide) _ k _ rfl ((ho.alloc _).alloc _) (wr.heap.size + 1) (secCells s) rfl rfl (sec_new2 _ _ _ _) (one_sec _) A1 A2 (le_alloc (le_alloc hsz _) _) ?_; intro v1 w1 ho1 hb1)
      exact ⟨⟨k + 1, by omega, by go_num, by rw [secs_take_succ HX.out]; exact ho1, ((hb.alloc hsz _).alloc (le_alloc hsz _) _).trans hb1⟩, by simp [intOf]; omega⟩
    · go_wp2
      go_ret
      obtain rfl : k = n := by omega
      rw [List.take_of_length_le (by rw [HL.out]; omega)] at ho
      exact ⟨_, rfl, ho, hb⟩
theorem neqSec (a : Sec) (w : World) : (binOp .neq 50 (.agg #[.int .i64 a.b0, .int .i64 a.b1, .int .i64 a.b2, .int .i64 a.a1, .int .i64 a.a2, .int .i64 a.sh]) (.agg #[.int .i64 a.b0, .int .i64 a.b1, .int .i64 a.b2, .int .i64 a.a1, .int .i64 a.a2, .int .i64 a.sh])).run Tryz.prog w = .ok (.bool false) w := by
  have hh : (Op.equalIn 10000 50 (.agg #[.int .i64 a.b0, .int .i64 a.b1, .int .i64 a.b2, .int .i64 a.a1, .int .i64 a.a2, .int .i64 a.sh]) (.agg #[.int .i64 a.b0, .int .i64 a.b1, .int .i64 a.b2, .int .i64 a.a1, .int .i64 a.a2, .int .i64 a.sh])).run Tryz.prog w = .ok true w := by
    rw [show (10000 : Nat) = 9999 + 1 from rfl, run_equalIn_struct w 9999 50 _ _ (by kernel_rfl) (by kernel_rfl)]
    simp [Program.fieldsOf, Tryz.underlying50, Op.eqFields, go_sem, run_equalIn_int _ _ _ _ _ _ _ Tryz.underlying3]
  simp only [binOp, Op.equal, Op.maxDepth]
  simp [hh, go_sem]
set_option maxHeartbeats 2000000 in
theorem sameSec_any (A : Option Addr) (n c : Nat) (xs : List Sec) (A' : Option Addr) (c' : Nat) (w : World) (h : Reads w w.heap.size 6 A n (secs xs)) (h' : Reads w w.heap.size 6 A' n (secs xs)) (hn : n ≤ 1000000000000) :
    Calls Tryz.prog 18 #[.slice A n c, .slice A' n c'] w fun r w' => r = .returned (.bool true) ∧ Below w.heap.size w w' := by
  have hl := secs_reads_len h
  have HL := hide hl
  have t0 : ((n : Int) != (n : Int)) = false := by simp
  clear hl
  go_enter Tryz.func18, Tryz.ntmps18
  go_wp2_with fail
  go_loopw [5] (fun i wr => ∃ k : Nat, k ≤ n ∧ i = .int .i64 k ∧ Below w.heap.size w wr) (fun i _ => n - (intOf i).toNat)
  case atStart => exact ⟨0, by omega, rfl, Below.refl _ _⟩
  case round =>
    rename World => wo
    obtain ⟨k, hk, rfl, hb⟩ := hrel
    by_cases hlt : k < n
    · obtain ⟨ad, p, rfl, _, hx, hc⟩ := secs_hit (carryR h hb) hlt (Nat.le_refl _)
      obtain ⟨ad', q, rfl, _, hy, hc'⟩ := secs_hit (carryR h' hb) hlt (Nat.le_refl _)
      obtain rfl : p = q := by rw [hx] at hy; exact Option.some.inj hy
      have q0 : ∀ x, (over wo.heap.size wo x).cell? (ad.add (k * 6)) = some (.int .i64 p.b0) := fun x => (hc _ (over_below _ _ _)).1
      have q1 : ∀ x, (over wo.heap.size wo x).cell? ⟨(ad.add (k * 6)).block, (ad.add (k * 6)).off + 1, none⟩ = some (.int .i64 p.b1) := fun x => (hc _ (over_below _ _ _)).2.1
      have q2 : ∀ x, (over wo.heap.size wo x).cell? ⟨(ad.add (k * 6)).block, (ad.add (k * 6)).off + 2, none⟩ = some (.int .i64 p.b2) := fun x => (hc _ (over_below _ _ _)).2.2.1
      have q3 : ∀ x, (over wo.heap.size wo x).cell? ⟨(ad.add (k * 6)).block, (ad.add (k * 6)).off + 3, none⟩ = some (.int .i64 p.a1) := fun x => (hc _ (over_below _ _ _)).2.2.2.1
      have q4 : ∀ x, (over wo.heap.size wo x).cell? ⟨(ad.add (k * 6)).block, (ad.add (k * 6)).off + 4, none⟩ = some (.int .i64 p.a2) := fun x => (hc _ (over_below _ _ _)).2.2.2.2.1
      have q5 : ∀ x, (over wo.heap.size wo x).cell? ⟨(ad.add (k * 6)).block, (ad.add (k * 6)).off + 5, none⟩ = some (.int .i64 p.sh) := fun x => (hc _ (over_below _ _ _)).2.2.2.2.2
      have r0 : ∀ x, (over wo.heap.size wo x).cell? (ad'.add (k * 6)) = some (.int .i64 p.b0) := fun x => (hc' _ (over_below _ _ _)).1
      have r1 : ∀ x, (over wo.heap.size wo x).cell? ⟨(ad'.add (k * 6)).block, (ad'.add (k * 6)).off + 1, none⟩ = some (.int .i64 p.b1) := fun x => (hc' _ (over_below _ _ _)).2.1
      have r2 : ∀ x, (over wo.heap.size wo x).cell? ⟨(ad'.add (k * 6)).block, (ad'.add (k * 6)).off + 2, none⟩ = some (.int .i64 p.b2) := fun x => (hc' _ (over_below _ _ _)).2.2.1
      have r3 : ∀ x, (over wo.heap.size wo x).cell? ⟨(ad'.add (k * 6)).block, (ad'.add (k * 6)).off + 3, none⟩ = some (.int .i64 p.a1) := fun x => (hc' _ (over_below _ _ _)).2.2.2.1
      have r4 : ∀ x, (over wo.heap.size wo x).cell? ⟨(ad'.add (k * 6)).block, (ad'.add (k * 6)).off + 4, none⟩ = some (.int .i64 p.a2) := fun x => (hc' _ (over_below _ _ _)).2.2.2.2.1
      have r5 : ∀ x, (over wo.heap.size wo x).cell? ⟨(ad'.add (k * 6)).block, (ad'.add (k * 6)).off + 5, none⟩ = some (.int .i64 p.sh) := fun x => (hc' _ (over_below _ _ _)).2.2.2.2.2
      have hq := neqSec p
      clear hx hy hc hc'
      go_upto_region 6 with (fail)
      refine wp_region_over wo.heap.size (by kernel_rfl) (by kernel_rfl) ?_; (repeat (first | go_big_quiet_step (fail) | quiet_step (fail))); refine wpQuiet_nil ?_; rintro W ⟨x, rfl⟩
      have hbY := over_below wo.heap.size wo x
      generalize over wo.heap.size wo x = Y at hbY ⊢
      go_wp2_with fail
      go_roundw
      case rel => exact ⟨k + 1, by omega, by go_num, below_nx hb hbY⟩
      case measure => simp [intOf]; omega
    · obtain rfl : k = n := by omega
      go_wp2_with fail
      go_ret
      exact ⟨rfl, hb⟩
end Go.Proofs.YtpcmflfinlkeiaaGreatDoor
