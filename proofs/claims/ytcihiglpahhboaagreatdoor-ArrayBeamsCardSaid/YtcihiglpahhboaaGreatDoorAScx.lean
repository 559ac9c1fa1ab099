/- Score of the program. -/
import Derived.Test.YtcihiglpahhboaaGreatDoorASco
namespace Go.Proofs.YtcihiglpahhboaaGreatDoor
open Go.RowKit Go.Shelf
set_option maxRecDepth 100000
/-- The error and the value of Score. -/
def scE (l : List Src) (a : Au) : Int := fnz [lstErr l, auE a]
def scV (l : List Src) (a : Au) : Int := if scE l a = 0 then scr l a.l else 0
theorem scE_ok {l : List Src} {a : Au} (h : scE l a = 0) : LOk l ∧ auE a = 0 := by
  unfold scE at h
  rw [fnz_zero] at h
  exact ⟨lst_ok (h _ (by simp)), h _ (by simp)⟩
theorem scV_bad {l : List Src} {a : Au} (h : scE l a ≠ 0) : scV l a = 0 := by unfold scV; rw [if_neg h]
set_option maxHeartbeats 2000000 in
theorem Score_any (A : Option Addr) (m c : Nat) (l : List Src) (a : Au) (w : World) (hR : Reads w w.heap.size 4 A m (srcs l)) (hV : Vr w) (hm : m ≤ 1000000) :
    Calls Tryz.prog 39 #[.slice A m c, .agg #[.int .i64 a.a0, .int .i64 a.a1, .int .i64 a.a2, .int .i64 a.a3, .int .i64 a.a4, .int .i64 a.a5, .int .i64 a.a6, .int .i64 a.a7]] w fun e w' => e = .returned (.tuple #[.int .i64 (scV l a), .int .i64 (scE l a)]) ∧ Below w.heap.size w w' := by
  unfold scV
  by_cases h0 : scE l a = 0
  · obtain ⟨hok, hau⟩ := scE_ok h0
    rw [if_pos h0, h0]
    have t0 : (fnz [lstErr l, auE a] != 0) = false := by rw [show fnz [lstErr l, auE a] = 0 from h0]; rfl
    have HO := hide hok
    have HA := hide (auE_ok hau)
    clear h0 hok hau
    go_enter Tryz.func39, Tryz.ntmps39
    go_upto_region 1 with (fail)
    obtain ⟨w1, e1, hb1, hz1, kA⟩ := box1 w #[.int .i64 a.a0, .int .i64 a.a1, .int .i64 a.a2, .int .i64 a.a3, .int .i64 a.a4, .int .i64 a.a5, .int .i64 a.a6, .int .i64 a.a7] 64
    rw [← e1]; clear e1
    have hR1 := carry hR hb1
    have cA := over_blk kA kA.lt
    refine wp_region_part 4 w1.heap.size (by kernel_rfl) (by kernel_rfl) ?_; simp only [List.take_succ_cons, List.take_zero, List.drop_succ_cons, List.drop_zero]; (repeat (first | go_big_quiet_step (first | (go_at_call 62; exact over_call (Nat.le_refl _) (CheckSources_any A m c l _ (carry hR1 (over_below _ _ _)) (by omega))) | (go_at_call 101; exact over_call (Nat.le_refl _) (checkAudience_any a _))) | quiet_step (first | (go_at_call 62; exact over_call (Nat.le_refl _) (CheckSources_any A m c l _ (carry hR1 (over_below _ _ _)) (by omega))) | (go_at_call 101; exact over_call (Nat.le_refl _) (checkAudience_any a _))))); refine wpQuiet_nil ?_; rintro W ⟨x, rfl⟩
    have hbY := over_below w1.heap.size w1 x
    generalize over w1.heap.size w1 x = Y at hbY ⊢
    clear cA
    go_upto_region 2 with ((go_at_call 86; (first | (with_reducible (refine (first_any _ _ _ _ _ _ (reads2 _ _ _ _) (by omega)).mono ?_)) | (with_reducible (refine (first_any _ _ _ _ _ _ (Reads.drew (reads2 _ _ _ _)) (by omega)).mono ?_))); rintro e W' ⟨rfl, rfl⟩))
    obtain ⟨w3, e3⟩ : ∃ w3, w3 = Y.alloc (.cells #[.int .i64 (lstErr l), .int .i64 (auE a)] 27) := ⟨_, rfl⟩
    have hb3 : Below Y.heap.size Y w3 := by rw [e3]; exact (Below.refl _ _).alloc (Nat.le_refl _) _
    rw [← e3]; clear e3
    have kA3 := carryK kA (show Below w1.heap.size w1 w3 from (by repeat (first | with_reducible assumption | exact Below.refl _ _ | refine below_next (by with_reducible assumption) ?_)))
    have cA := kA3.cell
    go_wp2_with fail
    refine (score_any A m c l a _ HO.out HA.out (carry hR (by repeat (first | with_reducible assumption | exact Below.refl _ _ | refine below_next (by with_reducible assumption) ?_))) (hV.carry (by repeat (first | with_reducible assumption | exact Below.refl _ _ | refine below_next (by with_reducible assumption) ?_)))).mono ?_
    rintro e w4 ⟨rfl, hb4⟩
    go_wp2_with fail
    go_ret2
    exact ⟨rfl, (by repeat (first | with_reducible assumption | exact Below.refl _ _ | refine below_next (by with_reducible assumption) ?_))⟩
  · rw [if_neg h0]
    have t0 : (fnz [lstErr l, auE a] != 0) = true := by simpa using (show ¬ fnz [lstErr l, auE a] = 0 from h0)
    clear h0
    go_enter Tryz.func39, Tryz.ntmps39
    go_upto_region 1 with (fail)
    obtain ⟨w1, e1, hb1, hz1, kA⟩ := box1 w #[.int .i64 a.a0, .int .i64 a.a1, .int .i64 a.a2, .int .i64 a.a3, .int .i64 a.a4, .int .i64 a.a5, .int .i64 a.a6, .int .i64 a.a7] 64
    rw [← e1]; clear e1
    have hR1 := carry hR hb1
    have cA := over_blk kA kA.lt
    refine wp_region_part 4 w1.heap.size (by kernel_rfl) (by kernel_rfl) ?_; simp only [List.take_succ_cons, List.take_zero, List.drop_succ_cons, List.drop_zero]; (repeat (first | go_big_quiet_step (first | (go_at_call 62; exact over_call (Nat.le_refl _) (CheckSources_any A m c l _ (carry hR1 (over_below _ _ _)) (by omega))) | (go_at_call 101; exact over_call (Nat.le_refl _) (checkAudience_any a _))) | quiet_step (first | (go_at_call 62; exact over_call (Nat.le_refl _) (CheckSources_any A m c l _ (carry hR1 (over_below _ _ _)) (by omega))) | (go_at_call 101; exact over_call (Nat.le_refl _) (checkAudience_any a _))))); refine wpQuiet_nil ?_; rintro W ⟨x, rfl⟩
    have hbY := over_below w1.heap.size w1 x
    generalize over w1.heap.size w1 x = Y at hbY ⊢
    clear cA
    go_upto_region 2 with ((go_at_call 86; (first | (with_reducible (refine (first_any _ _ _ _ _ _ (reads2 _ _ _ _) (by omega)).mono ?_)) | (with_reducible (refine (first_any _ _ _ _ _ _ (Reads.drew (reads2 _ _ _ _)) (by omega)).mono ?_))); rintro e W' ⟨rfl, rfl⟩))
    obtain ⟨w3, e3⟩ : ∃ w3, w3 = Y.alloc (.cells #[.int .i64 (lstErr l), .int .i64 (auE a)] 27) := ⟨_, rfl⟩
    have hb3 : Below Y.heap.size Y w3 := by rw [e3]; exact (Below.refl _ _).alloc (Nat.le_refl _) _
    rw [← e3]; clear e3
    go_wp2_with fail
    go_ret2
    exact ⟨rfl, (by repeat (first | with_reducible assumption | exact Below.refl _ _ | refine below_next (by with_reducible assumption) ?_))⟩
end Go.Proofs.YtcihiglpahhboaaGreatDoor
