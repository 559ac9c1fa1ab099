/- What the program's functions return where the arguments have an error. -/
import Derived.Test.YtnndaipnfniciaaGreatDoorBaseW
import Derived.Test.YtnndaipnfniciaaGreatDoorNLoss
import Derived.Test.YtnndaipnfniciaaGreatDoorNRev
import Derived.Test.YtnndaipnfniciaaGreatDoorNPol2
namespace Go.Proofs.YtnndaipnfniciaaGreatDoor
open Go.RowKit Go.Shelf
set_option maxRecDepth 100000
set_option maxHeartbeats 2000000 in
theorem Chain_bad (l : List El) (f : Int) (A : Option Addr) (m c : Nat) (w : World) (he : ¬ atErr l f = 0) (hm : m ≤ 1000000000000) (hR : Reads w w.heap.size 3 A m (els l)) :
    Calls Tryz.prog 38 #[.slice A m c, .int .i64 f] w fun e w' => e = .returned (.tuple #[.agg #[.int .i64 0, .int .i64 0, .int .i64 0, .int .i64 0, .int .i64 0, .int .i64 0, .int .i64 0, .int .i64 0], .int .i64 (atErr l f)]) ∧ Below w.heap.size w w' := by
  have t1 : (fnz [ladErr l, rng f 1 8] != 0) = true := by unfold atErr at he; simpa using he
  have HE := hide (show atErr l f = fnz [ladErr l, rng f 1 8] from rfl)
  clear he
  go_enter Tryz.func38, Tryz.ntmps38
  go_wp2_with fail
  obtain ⟨w1, e1, hb1, hz1, k0⟩ := box1 w #[.int .i64 0, .int .i64 0, .int .i64 0, .int .i64 0, .int .i64 0, .int .i64 0, .int .i64 0, .int .i64 0] 73
  rw [← e1]; clear e1
  refine (checkLadder_any A m c l _ (carry hR hb1) hm).mono ?_
  rintro e w2 ⟨rfl, hb2⟩
  have hbw2 := below_next hb1 hb2
  have k2 := carryK k0 hb2
  go_upto_region 2 with (first | (go_at_call 89; refine (checkW_any _ _).mono ?_; rintro e W' ⟨rfl, rfl⟩) | (go_at_call 82; (first | (with_reducible (refine (first_any _ _ _ _ _ _ (reads2 _ _ _ _) (by omega)).mono ?_)) | (with_reducible (refine (first_any _ _ _ _ _ _ (Reads.drew (reads2 _ _ _ _)) (by omega)).mono ?_))); rintro e W' ⟨rfl, rfl⟩))
  obtain ⟨w3, e3, hb3, hz3, k3⟩ := box1 w2 #[.int .i64 (ladErr l), .int .i64 (rng f 1 8)] 29
  rw [← e3]; clear e3
  have hbw3 := below_next hbw2 hb3
  have k3' := carryK k2 hb3
  have c5 := k3'.cell
  have f5 := k3'.frozen
  go_wp2_with fail
  with_reducible refine fin8 (B := w.heap.size) (v := w) 73 hbw3 (Nat.le_refl _) k3' (fun X hX kX => ?_)
  have cX := kX.cell
  clear c5 f5
  refine bodyPost_ret (v := .tuple #[.agg #[.int .i64 0, .int .i64 0, .int .i64 0, .int .i64 0, .int .i64 0, .int .i64 0, .int .i64 0, .int .i64 0], .int .i64 (fnz [ladErr l, rng f 1 8])]) (by simp [results, Tryz.results38, go_sem, cX]) rfl ?_
  exact ⟨rfl, hX⟩
set_option maxHeartbeats 2000000 in
theorem Divisor_bad (l : List El) (f : Int) (A : Option Addr) (m c : Nat) (w : World) (he : ¬ atErr l f = 0) (hm : m ≤ 1000000000000) (hR : Reads w w.heap.size 3 A m (els l)) :
    Calls Tryz.prog 39 #[.slice A m c, .int .i64 f] w fun e w' => e = .returned (.tuple #[.agg #[.int .i64 0, .int .i64 0], .int .i64 (atErr l f)]) ∧ Below w.heap.size w w' := by
  have t1 : (fnz [ladErr l, rng f 1 8] != 0) = true := by unfold atErr at he; simpa using he
  have HE := hide (show atErr l f = fnz [ladErr l, rng f 1 8] from rfl)
  clear he
  go_enter Tryz.func39, Tryz.ntmps39
  go_wp2_with fail
  obtain ⟨w1, e1, hb1, hz1, k0⟩ := box1 w #[.int .i64 0, .int .i64 0] 23
  rw [← e1]; clear e1
  refine (checkLadder_any A m c l _ (carry hR hb1) hm).mono ?_
  rintro e w2 ⟨rfl, hb2⟩
  have hbw2 := below_next hb1 hb2
  have k2 := carryK k0 hb2
  go_upto_region 2 with (first | (go_at_call 89; refine (checkW_any _ _).mono ?_; rintro e W' ⟨rfl, rfl⟩) | (go_at_call 82; (first | (with_reducible (refine (first_any _ _ _ _ _ _ (reads2 _ _ _ _) (by omega)).mono ?_)) | (with_reducible (refine (first_any _ _ _ _ _ _ (Reads.drew (reads2 _ _ _ _)) (by omega)).mono ?_))); rintro e W' ⟨rfl, rfl⟩))
  obtain ⟨w3, e3, hb3, hz3, k3⟩ := box1 w2 #[.int .i64 (ladErr l), .int .i64 (rng f 1 8)] 29
  rw [← e3]; clear e3
  have hbw3 := below_next hbw2 hb3
  have k3' := carryK k2 hb3
  have c5 := k3'.cell
  have f5 := k3'.frozen
  go_wp2_with fail
  have kX := blk2 (u0 := .int .i64 0) (u1 := .int .i64 0) k3'
  have hX := below2 (u0 := .int .i64 0) (u1 := .int .i64 0) hbw3 (Nat.le_refl w.heap.size)
  have cX := kX.cell
  clear c5 f5
  refine bodyPost_ret (v := .tuple #[.agg #[.int .i64 0, .int .i64 0], .int .i64 (fnz [ladErr l, rng f 1 8])]) (by simp [results, Tryz.results39, go_sem, cX]) rfl ?_
  exact ⟨rfl, hX⟩
set_option maxHeartbeats 2000000 in
theorem ofRt_bad (F : Value) (l : List El) (f : Int) (A : Option Addr) (m c : Nat) (w : World) (he : ¬ atErr l f = 0) (hm : m ≤ 1000000000000) (hR : Reads w w.heap.size 3 A m (els l)) :
    Calls Tryz.prog 119 #[.slice A m c, .int .i64 f, F] w fun e w' => e = .returned (.tuple #[.agg #[.int .i64 0, .int .i64 0], .int .i64 (atErr l f)]) ∧ Below w.heap.size w w' := by
  have t1 : (fnz [ladErr l, rng f 1 8] != 0) = true := by unfold atErr at he; simpa using he
  have HE := hide (show atErr l f = fnz [ladErr l, rng f 1 8] from rfl)
  clear he
  go_enter Tryz.func119, Tryz.ntmps119
  go_wp2_with fail
  obtain ⟨w1, e1, hb1, hz1, k0⟩ := box1 w #[.int .i64 0, .int .i64 0] 54
  rw [← e1]; clear e1
  refine (checkLadder_any A m c l _ (carry hR hb1) hm).mono ?_
  rintro e w2 ⟨rfl, hb2⟩
  have hbw2 := below_next hb1 hb2
  have k2 := carryK k0 hb2
  go_upto_region 2 with (first | (go_at_call 89; refine (checkW_any _ _).mono ?_; rintro e W' ⟨rfl, rfl⟩) | (go_at_call 82; (first | (with_reducible (refine (first_any _ _ _ _ _ _ (reads2 _ _ _ _) (by omega)).mono ?_)) | (with_reducible (refine (first_any _ _ _ _ _ _ (Reads.drew (reads2 _ _ _ _)) (by omega)).mono ?_))); rintro e W' ⟨rfl, rfl⟩))
  obtain ⟨w3, e3, hb3, hz3, k3⟩ := box1 w2 #[.int .i64 (ladErr l), .int .i64 (rng f 1 8)] 29
  rw [← e3]; clear e3
  have hbw3 := below_next hbw2 hb3
  have k3' := carryK k2 hb3
  go_upto_region 4 with (fail)
  obtain ⟨w4, e4, hb4, hz4, k4⟩ := box1 w3 #[.int .i64 0, .int .i64 0] 54
  rw [← e4]; clear e4
  have hbw4 := below_next hbw3 hb4
  have k5 := carryK k3' hb4
  have c4 := k4.cell
  have c5 := k5.cell
  have f5 := k5.frozen
  go_wp2_with fail
  have kX := blk2 (u0 := .int .i64 0) (u1 := .int .i64 0) k5
  have hX := below2 (u0 := .int .i64 0) (u1 := .int .i64 0) hbw4 (Nat.le_refl w.heap.size)
  have cX := kX.cell
  clear c5 f5
  clear c4
  refine bodyPost_ret (v := .tuple #[.agg #[.int .i64 0, .int .i64 0], .int .i64 (fnz [ladErr l, rng f 1 8])]) (by simp [results, Tryz.results119, go_sem, cX]) rfl ?_
  exact ⟨rfl, hX⟩
theorem Level_bad (l : List El) (f : Int) (A : Option Addr) (m c : Nat) (w : World) (he : ¬ atErr l f = 0) (hm : m ≤ 1000000000000) (hR : Reads w w.heap.size 3 A m (els l)) :
    Calls Tryz.prog 50 #[.slice A m c, .int .i64 f] w fun e w' => e = .returned (.tuple #[.agg #[.int .i64 0, .int .i64 0], .int .i64 (atErr l f)]) ∧ Below w.heap.size w w' := by
  go_enter Tryz.func50, Tryz.ntmps50
  go_wp2_with fail
  obtain ⟨w1, e1, hb1, hz1, k0⟩ := box1 w #[.int .i64 0, .int .i64 0] 54
  rw [← e1]; clear e1
  refine (ofRt_bad _ l f A m c _ he hm (carry hR hb1)).mono ?_
  rintro e w2 ⟨rfl, hb2⟩
  have hbw2 := below_next hb1 hb2
  have k5 := carryK k0 hb2
  clear he
  have c5 := k5.cell
  have f5 := k5.frozen
  go_wp2_with fail
  have kX := blk2 (u0 := .int .i64 0) (u1 := .int .i64 0) k5
  have hX := below2 (u0 := .int .i64 0) (u1 := .int .i64 0) hbw2 (Nat.le_refl w.heap.size)
  have cX := kX.cell
  clear c5 f5
  refine bodyPost_ret (v := .tuple #[.agg #[.int .i64 0, .int .i64 0], .int .i64 (atErr l f)]) (by simp [results, Tryz.results50, go_sem, cX]) rfl ?_
  exact ⟨rfl, hX⟩
set_option maxHeartbeats 2000000 in
theorem ofPr_bad (F : Value) (l : List El) (f : Int) (A : Option Addr) (m c : Nat) (w : World) (he : ¬ atErr l f = 0) (hm : m ≤ 1000000000000) (hR : Reads w w.heap.size 3 A m (els l)) :
    Calls Tryz.prog 114 #[.slice A m c, .int .i64 f, F] w fun e w' => e = .returned (.tuple #[.agg #[.int .i64 0, .int .i64 0, .int .i64 0, .int .i64 0], .int .i64 (atErr l f)]) ∧ Below w.heap.size w w' := by
  have t1 : (fnz [ladErr l, rng f 1 8] != 0) = true := by unfold atErr at he; simpa using he
  have HE := hide (show atErr l f = fnz [ladErr l, rng f 1 8] from rfl)
  clear he
  go_enter Tryz.func114, Tryz.ntmps114
  go_wp2_with fail
  obtain ⟨w1, e1, hb1, hz1, k0⟩ := box1 w #[.int .i64 0, .int .i64 0, .int .i64 0, .int .i64 0] 32
  rw [← e1]; clear e1
  refine (checkLadder_any A m c l _ (carry hR hb1) hm).mono ?_
  rintro e w2 ⟨rfl, hb2⟩
  have hbw2 := below_next hb1 hb2
  have k2 := carryK k0 hb2
  go_upto_region 2 with (first | (go_at_call 89; refine (checkW_any _ _).mono ?_; rintro e W' ⟨rfl, rfl⟩) | (go_at_call 82; (first | (with_reducible (refine (first_any _ _ _ _ _ _ (reads2 _ _ _ _) (by omega)).mono ?_)) | (with_reducible (refine (first_any _ _ _ _ _ _ (Reads.drew (reads2 _ _ _ _)) (by omega)).mono ?_))); rintro e W' ⟨rfl, rfl⟩))
  obtain ⟨w3, e3, hb3, hz3, k3⟩ := box1 w2 #[.int .i64 (ladErr l), .int .i64 (rng f 1 8)] 29
  rw [← e3]; clear e3
  have hbw3 := below_next hbw2 hb3
  have k3' := carryK k2 hb3
  go_upto_region 4 with (fail)
  obtain ⟨w4, e4, hb4, hz4, k4⟩ := box1 w3 #[.int .i64 0, .int .i64 0, .int .i64 0, .int .i64 0] 32
  rw [← e4]; clear e4
  have hbw4 := below_next hbw3 hb4
  have k5 := carryK k3' hb4
  have c4 := k4.cell
  have c5 := k5.cell
  have f5 := k5.frozen
  go_wp2_with fail
  with_reducible refine fin4 (B := w.heap.size) (v := w) 32 hbw4 (Nat.le_refl _) k5 (fun X hX kX => ?_)
  have cX := kX.cell
  clear c5 f5
  clear c4
  refine bodyPost_ret (v := .tuple #[.agg #[.int .i64 0, .int .i64 0, .int .i64 0, .int .i64 0], .int .i64 (fnz [ladErr l, rng f 1 8])]) (by simp [results, Tryz.results114, go_sem, cX]) rfl ?_
  exact ⟨rfl, hX⟩
theorem Input_bad (l : List El) (f : Int) (A : Option Addr) (m c : Nat) (w : World) (he : ¬ atErr l f = 0) (hm : m ≤ 1000000000000) (hR : Reads w w.heap.size 3 A m (els l)) :
    Calls Tryz.prog 47 #[.slice A m c, .int .i64 f] w fun e w' => e = .returned (.tuple #[.agg #[.int .i64 0, .int .i64 0, .int .i64 0, .int .i64 0], .int .i64 (atErr l f)]) ∧ Below w.heap.size w w' := by
  go_enter Tryz.func47, Tryz.ntmps47
  go_wp2_with fail
  obtain ⟨w1, e1, hb1, hz1, k0⟩ := box1 w #[.int .i64 0, .int .i64 0, .int .i64 0, .int .i64 0] 32
  rw [← e1]; clear e1
  refine (ofPr_bad _ l f A m c _ he hm (carry hR hb1)).mono ?_
  rintro e w2 ⟨rfl, hb2⟩
  have hbw2 := below_next hb1 hb2
  have k5 := carryK k0 hb2
  clear he
  have c5 := k5.cell
  have f5 := k5.frozen
  go_wp2_with fail
  with_reducible refine fin4 (B := w.heap.size) (v := w) 32 hbw2 (Nat.le_refl _) k5 (fun X hX kX => ?_)
  have cX := kX.cell
  clear c5 f5
  refine bodyPost_ret (v := .tuple #[.agg #[.int .i64 0, .int .i64 0, .int .i64 0, .int .i64 0], .int .i64 (atErr l f)]) (by simp [results, Tryz.results47, go_sem, cX]) rfl ?_
  exact ⟨rfl, hX⟩
theorem Shorted_bad (l : List El) (f : Int) (A : Option Addr) (m c : Nat) (w : World) (he : ¬ atErr l f = 0) (hm : m ≤ 1000000000000) (hR : Reads w w.heap.size 3 A m (els l)) :
    Calls Tryz.prog 48 #[.slice A m c, .int .i64 f] w fun e w' => e = .returned (.tuple #[.agg #[.int .i64 0, .int .i64 0, .int .i64 0, .int .i64 0], .int .i64 (atErr l f)]) ∧ Below w.heap.size w w' := by
  go_enter Tryz.func48, Tryz.ntmps48
  go_wp2_with fail
  obtain ⟨w1, e1, hb1, hz1, k0⟩ := box1 w #[.int .i64 0, .int .i64 0, .int .i64 0, .int .i64 0] 32
  rw [← e1]; clear e1
  refine (ofPr_bad _ l f A m c _ he hm (carry hR hb1)).mono ?_
  rintro e w2 ⟨rfl, hb2⟩
  have hbw2 := below_next hb1 hb2
  have k5 := carryK k0 hb2
  clear he
  have c5 := k5.cell
  have f5 := k5.frozen
  go_wp2_with fail
  with_reducible refine fin4 (B := w.heap.size) (v := w) 32 hbw2 (Nat.le_refl _) k5 (fun X hX kX => ?_)
  have cX := kX.cell
  clear c5 f5
  refine bodyPost_ret (v := .tuple #[.agg #[.int .i64 0, .int .i64 0, .int .i64 0, .int .i64 0], .int .i64 (atErr l f)]) (by simp [results, Tryz.results48, go_sem, cX]) rfl ?_
  exact ⟨rfl, hX⟩
theorem Transfer_bad (l : List El) (f : Int) (A : Option Addr) (m c : Nat) (w : World) (he : ¬ atErr l f = 0) (hm : m ≤ 1000000000000) (hR : Reads w w.heap.size 3 A m (els l)) :
    Calls Tryz.prog 49 #[.slice A m c, .int .i64 f] w fun e w' => e = .returned (.tuple #[.agg #[.int .i64 0, .int .i64 0, .int .i64 0, .int .i64 0], .int .i64 (atErr l f)]) ∧ Below w.heap.size w w' := by
  go_enter Tryz.func49, Tryz.ntmps49
  go_wp2_with fail
  obtain ⟨w1, e1, hb1, hz1, k0⟩ := box1 w #[.int .i64 0, .int .i64 0, .int .i64 0, .int .i64 0] 32
  rw [← e1]; clear e1
  refine (ofPr_bad _ l f A m c _ he hm (carry hR hb1)).mono ?_
  rintro e w2 ⟨rfl, hb2⟩
  have hbw2 := below_next hb1 hb2
  have k5 := carryK k0 hb2
  clear he
  have c5 := k5.cell
  have f5 := k5.frozen
  go_wp2_with fail
  with_reducible refine fin4 (B := w.heap.size) (v := w) 32 hbw2 (Nat.le_refl _) k5 (fun X hX kX => ?_)
  have cX := kX.cell
  clear c5 f5
  refine bodyPost_ret (v := .tuple #[.agg #[.int .i64 0, .int .i64 0, .int .i64 0, .int .i64 0], .int .i64 (atErr l f)]) (by simp [results, Tryz.results49, go_sem, cX]) rfl ?_
  exact ⟨rfl, hX⟩
set_option maxHeartbeats 2000000 in
theorem ofInt_bad (F : Value) (l : List El) (f : Int) (A : Option Addr) (m c : Nat) (w : World) (he : ¬ atErr l f = 0) (hm : m ≤ 1000000000000) (hR : Reads w w.heap.size 3 A m (els l)) :
    Calls Tryz.prog 121 #[.slice A m c, .int .i64 f, F] w fun e w' => e = .returned (.tuple #[.int .i64 0, .int .i64 (atErr l f)]) ∧ Below w.heap.size w w' := by
  have t1 : (fnz [ladErr l, rng f 1 8] != 0) = true := by unfold atErr at he; simpa using he
  have HE := hide (show atErr l f = fnz [ladErr l, rng f 1 8] from rfl)
  clear he
  go_enter Tryz.func121, Tryz.ntmps121
  go_wp2_with fail
  refine (checkLadder_any A m c l _ hR hm).mono ?_
  rintro e w2 ⟨rfl, hb2⟩
  go_upto_region 2 with (first | (go_at_call 89; refine (checkW_any _ _).mono ?_; rintro e W' ⟨rfl, rfl⟩) | (go_at_call 82; (first | (with_reducible (refine (first_any _ _ _ _ _ _ (reads2 _ _ _ _) (by omega)).mono ?_)) | (with_reducible (refine (first_any _ _ _ _ _ _ (Reads.drew (reads2 _ _ _ _)) (by omega)).mono ?_))); rintro e W' ⟨rfl, rfl⟩))
  obtain ⟨w3, e3, hb3, hz3, k3⟩ := box1 w2 #[.int .i64 (ladErr l), .int .i64 (rng f 1 8)] 29
  rw [← e3]; clear e3
  have hbw3 := below_next hb2 hb3
  go_wp2_with fail
  go_ret2
  exact ⟨rfl, hbw3⟩
theorem Power_bad (l : List El) (f : Int) (A : Option Addr) (m c : Nat) (w : World) (he : ¬ atErr l f = 0) (hm : m ≤ 1000000000000) (hR : Reads w w.heap.size 3 A m (els l)) :
    Calls Tryz.prog 51 #[.slice A m c, .int .i64 f] w fun e w' => e = .returned (.tuple #[.int .i64 0, .int .i64 (atErr l f)]) ∧ Below w.heap.size w w' := by
  go_enter Tryz.func51, Tryz.ntmps51
  go_wp2_with fail
  refine (ofInt_bad _ l f A m c _ he hm hR).mono ?_
  rintro e w2 ⟨rfl, hb2⟩
  clear he
  go_wp2_with fail
  go_ret2
  exact ⟨rfl, hb2⟩
theorem Lossless_bad (l : List El) (A : Option Addr) (m c : Nat) (w : World) (he : ¬ ladErr l = 0) (hm : m ≤ 1000000000000) (hR : Reads w w.heap.size 3 A m (els l)) :
    Calls Tryz.prog 52 #[.slice A m c] w fun e w' => e = .returned (.tuple #[.bool false, .int .i64 (ladErr l)]) ∧ Below w.heap.size w w' := by
  have t0 : (ladErr l != 0) = true := by simpa using he
  clear he
  go_enter Tryz.func52, Tryz.ntmps52
  go_wp2_with fail
  refine (checkLadder_any A m c l _ hR hm).mono ?_
  rintro e w1 ⟨rfl, hb1⟩
  go_wp2_with fail
  go_ret2
  exact ⟨rfl, hb1⟩
theorem Reverse_bad (l : List El) (A : Option Addr) (m c : Nat) (w : World) (he : ¬ ladErr l = 0) (hm : m ≤ 1000000000000) (hR : Reads w w.heap.size 3 A m (els l)) :
    Calls Tryz.prog 64 #[.slice A m c] w fun e w' => e = .returned (.tuple #[.slice none 0 0, .int .i64 (ladErr l)]) ∧ Below w.heap.size w w' := by
  have t0 : (ladErr l != 0) = true := by simpa using he
  clear he
  go_enter Tryz.func64, Tryz.ntmps64
  go_wp2_with fail
  refine (checkLadder_any A m c l _ hR hm).mono ?_
  rintro e w1 ⟨rfl, hb1⟩
  go_wp2_with fail
  go_ret2
  exact ⟨rfl, hb1⟩
end Go.Proofs.YtnndaipnfniciaaGreatDoor
