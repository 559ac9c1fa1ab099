/- Input, Shorted, Transfer, Divisor of the program. -/
import Derived.Test.YthlnmoecmicofaaDoorNQuo
namespace Go.Proofs.YthlnmoecmicofaaDoor
open Go.RowKit Go.Shelf
set_option maxRecDepth 100000

set_option maxHeartbeats 2000000 in
theorem ofInput_ok (l : List El) (f : Int) (A : Option Addr) (m c : Nat) (w : World) (hC : Con w) (he : atErr l f = 0) (hm : m ≤ 1000000000000) (hR : Reads w w.heap.size 3 A m (els l)) :
    Calls Tryd.prog 63 #[.slice A m c, .int .i64 f, .func (.func 64) #[] #[]] w fun e w' => e = .returned (.tuple #[.agg #[.int .i64 (quo (chn f .id l).a (chn f .id l).c).n.re, .int .i64 (quo (chn f .id l).a (chn f .id l).c).n.im, .int .i64 (quo (chn f .id l).a (chn f .id l).c).d.re, .int .i64 (quo (chn f .id l).a (chn f .id l).c).d.im], .int .i64 (quoE (chn f .id l).c)]) ∧ Below w.heap.size w w' := by
  obtain ⟨hl, hf1, hf8⟩ := at_zero he
  have t1 : (fnz [ladErr l, rng f 1 8] != 0) = false := by rw [show fnz [ladErr l, rng f 1 8] = 0 from he]; rfl
  clear he
  go_enter Tryd.func63, Tryd.ntmps63
  go_wp2_with fail
  obtain ⟨w1, e1, hb1, hz1, k0⟩ := box1 w #[.int .i64 0, .int .i64 0, .int .i64 0, .int .i64 0] 32
  rw [← e1]; clear e1
  refine (checkLadder_any A m c l _ (carry hR hb1) hm).mono ?_
  rintro e w2 ⟨rfl, hb2⟩
  have hbw2 := below_next hb1 hb2
  have k2 := carryK k0 hb2
  go_upto_region 2 with (first | (go_at_call 46; refine (checkW_any _ _).mono ?_; rintro e W' ⟨rfl, rfl⟩) | (go_at_call 44; (first | (with_reducible (refine (first_any _ _ _ _ _ _ (reads2 _ _ _ _) (by omega)).mono ?_)) | (with_reducible (refine (first_any _ _ _ _ _ _ (Reads.drew (reads2 _ _ _ _)) (by omega)).mono ?_))); rintro e W' ⟨rfl, rfl⟩))
  obtain ⟨w3, e3, hb3, hz3, k3⟩ := box1 w2 #[.int .i64 (ladErr l), .int .i64 (rng f 1 8)] 33
  rw [← e3]; clear e3
  have hbw3 := below_next hbw2 hb3
  have k3' := carryK k2 hb3
  go_wp2_with fail
  refine (chain_any l f A m c _ (hC.carry hbw3) hl hf1 hf8 hm (carry hR hbw3)).mono ?_
  rintro e w4 ⟨rfl, hb4⟩
  have hbw4 := below_next hbw3 hb4
  have k4 := carryK k3' hb4
  go_wp2_with fail
  refine (Input1_any (chn f .id l) (dvs f .one l) _ (hC.carry hbw4)).mono ?_
  rintro e w5 ⟨rfl, hb5⟩
  have hbw5 := below_next hbw4 hb5
  have k5 := carryK k4 hb5
  have c5 := k5.cell
  have f5 := k5.frozen
  go_wp2_with fail
  with_reducible refine fin4 (B := w.heap.size) (v := w) 32 hbw5 (by omega) k5 (fun X hX kX => ?_)
  have cX := kX.cell
  clear c5 f5
  refine bodyPost_ret (v := .tuple #[.agg #[.int .i64 (quo (chn f .id l).a (chn f .id l).c).n.re, .int .i64 (quo (chn f .id l).a (chn f .id l).c).n.im, .int .i64 (quo (chn f .id l).a (chn f .id l).c).d.re, .int .i64 (quo (chn f .id l).a (chn f .id l).c).d.im], .int .i64 (quoE (chn f .id l).c)]) (by simp [results, Tryd.results63, go_sem, cX]) rfl ?_
  exact ⟨rfl, hX⟩
set_option maxHeartbeats 1000000 in
theorem Input_ok (l : List El) (f : Int) (A : Option Addr) (m c : Nat) (w : World) (hC : Con w) (he : atErr l f = 0) (hm : m ≤ 1000000000000) (hR : Reads w w.heap.size 3 A m (els l)) :
    Calls Tryd.prog 31 #[.slice A m c, .int .i64 f] w fun e w' => e = .returned (.tuple #[.agg #[.int .i64 (quo (chn f .id l).a (chn f .id l).c).n.re, .int .i64 (quo (chn f .id l).a (chn f .id l).c).n.im, .int .i64 (quo (chn f .id l).a (chn f .id l).c).d.re, .int .i64 (quo (chn f .id l).a (chn f .id l).c).d.im], .int .i64 (quoE (chn f .id l).c)]) ∧ Below w.heap.size w w' := by
  go_enter Tryd.func31, Tryd.ntmps31
  go_wp2_with fail
  obtain ⟨w1, e1, hb1, hz1, k0⟩ := box1 w #[.int .i64 0, .int .i64 0, .int .i64 0, .int .i64 0] 32
  rw [← e1]; clear e1
  refine (ofInput_ok l f A m c _ (hC.carry hb1) he hm (carry hR hb1)).mono ?_
  rintro e w2 ⟨rfl, hb2⟩
  have hbw2 := below_next hb1 hb2
  have k5 := carryK k0 hb2
  have c5 := k5.cell
  have f5 := k5.frozen
  go_wp2_with fail
  with_reducible refine fin4 (B := w.heap.size) (v := w) 32 hbw2 (by omega) k5 (fun X hX kX => ?_)
  have cX := kX.cell
  clear c5 f5
  refine bodyPost_ret (v := .tuple #[.agg #[.int .i64 (quo (chn f .id l).a (chn f .id l).c).n.re, .int .i64 (quo (chn f .id l).a (chn f .id l).c).n.im, .int .i64 (quo (chn f .id l).a (chn f .id l).c).d.re, .int .i64 (quo (chn f .id l).a (chn f .id l).c).d.im], .int .i64 (quoE (chn f .id l).c)]) (by simp [results, Tryd.results31, go_sem, cX]) rfl ?_
  exact ⟨rfl, hX⟩
set_option maxHeartbeats 2000000 in
theorem ofTransfer_ok (l : List El) (f : Int) (A : Option Addr) (m c : Nat) (w : World) (hC : Con w) (he : atErr l f = 0) (hm : m ≤ 1000000000000) (hR : Reads w w.heap.size 3 A m (els l)) :
    Calls Tryd.prog 63 #[.slice A m c, .int .i64 f, .func (.func 66) #[] #[]] w fun e w' => e = .returned (.tuple #[.agg #[.int .i64 (quo (dvs f .one l) (chn f .id l).a).n.re, .int .i64 (quo (dvs f .one l) (chn f .id l).a).n.im, .int .i64 (quo (dvs f .one l) (chn f .id l).a).d.re, .int .i64 (quo (dvs f .one l) (chn f .id l).a).d.im], .int .i64 (quoE (chn f .id l).a)]) ∧ Below w.heap.size w w' := by
  obtain ⟨hl, hf1, hf8⟩ := at_zero he
  have t1 : (fnz [ladErr l, rng f 1 8] != 0) = false := by rw [show fnz [ladErr l, rng f 1 8] = 0 from he]; rfl
  clear he
  go_enter Tryd.func63, Tryd.ntmps63
  go_wp2_with fail
  obtain ⟨w1, e1, hb1, hz1, k0⟩ := box1 w #[.int .i64 0, .int .i64 0, .int .i64 0, .int .i64 0] 32
  rw [← e1]; clear e1
  refine (checkLadder_any A m c l _ (carry hR hb1) hm).mono ?_
  rintro e w2 ⟨rfl, hb2⟩
  have hbw2 := below_next hb1 hb2
  have k2 := carryK k0 hb2
  go_upto_region 2 with (first | (go_at_call 46; refine (checkW_any _ _).mono ?_; rintro e W' ⟨rfl, rfl⟩) | (go_at_call 44; (first | (with_reducible (refine (first_any _ _ _ _ _ _ (reads2 _ _ _ _) (by omega)).mono ?_)) | (with_reducible (refine (first_any _ _ _ _ _ _ (Reads.drew (reads2 _ _ _ _)) (by omega)).mono ?_))); rintro e W' ⟨rfl, rfl⟩))
  obtain ⟨w3, e3, hb3, hz3, k3⟩ := box1 w2 #[.int .i64 (ladErr l), .int .i64 (rng f 1 8)] 33
  rw [← e3]; clear e3
  have hbw3 := below_next hbw2 hb3
  have k3' := carryK k2 hb3
  go_wp2_with fail
  refine (chain_any l f A m c _ (hC.carry hbw3) hl hf1 hf8 hm (carry hR hbw3)).mono ?_
  rintro e w4 ⟨rfl, hb4⟩
  have hbw4 := below_next hbw3 hb4
  have k4 := carryK k3' hb4
  go_wp2_with fail
  refine (Transfer1_any (chn f .id l) (dvs f .one l) _ (hC.carry hbw4)).mono ?_
  rintro e w5 ⟨rfl, hb5⟩
  have hbw5 := below_next hbw4 hb5
  have k5 := carryK k4 hb5
  have c5 := k5.cell
  have f5 := k5.frozen
  go_wp2_with fail
  with_reducible refine fin4 (B := w.heap.size) (v := w) 32 hbw5 (by omega) k5 (fun X hX kX => ?_)
  have cX := kX.cell
  clear c5 f5
  refine bodyPost_ret (v := .tuple #[.agg #[.int .i64 (quo (dvs f .one l) (chn f .id l).a).n.re, .int .i64 (quo (dvs f .one l) (chn f .id l).a).n.im, .int .i64 (quo (dvs f .one l) (chn f .id l).a).d.re, .int .i64 (quo (dvs f .one l) (chn f .id l).a).d.im], .int .i64 (quoE (chn f .id l).a)]) (by simp [results, Tryd.results63, go_sem, cX]) rfl ?_
  exact ⟨rfl, hX⟩
set_option maxHeartbeats 1000000 in
theorem Transfer_ok (l : List El) (f : Int) (A : Option Addr) (m c : Nat) (w : World) (hC : Con w) (he : atErr l f = 0) (hm : m ≤ 1000000000000) (hR : Reads w w.heap.size 3 A m (els l)) :
    Calls Tryd.prog 33 #[.slice A m c, .int .i64 f] w fun e w' => e = .returned (.tuple #[.agg #[.int .i64 (quo (dvs f .one l) (chn f .id l).a).n.re, .int .i64 (quo (dvs f .one l) (chn f .id l).a).n.im, .int .i64 (quo (dvs f .one l) (chn f .id l).a).d.re, .int .i64 (quo (dvs f .one l) (chn f .id l).a).d.im], .int .i64 (quoE (chn f .id l).a)]) ∧ Below w.heap.size w w' := by
  go_enter Tryd.func33, Tryd.ntmps33
  go_wp2_with fail
  obtain ⟨w1, e1, hb1, hz1, k0⟩ := box1 w #[.int .i64 0, .int .i64 0, .int .i64 0, .int .i64 0] 32
  rw [← e1]; clear e1
  refine (ofTransfer_ok l f A m c _ (hC.carry hb1) he hm (carry hR hb1)).mono ?_
  rintro e w2 ⟨rfl, hb2⟩
  have hbw2 := below_next hb1 hb2
  have k5 := carryK k0 hb2
  have c5 := k5.cell
  have f5 := k5.frozen
  go_wp2_with fail
  with_reducible refine fin4 (B := w.heap.size) (v := w) 32 hbw2 (by omega) k5 (fun X hX kX => ?_)
  have cX := kX.cell
  clear c5 f5
  refine bodyPost_ret (v := .tuple #[.agg #[.int .i64 (quo (dvs f .one l) (chn f .id l).a).n.re, .int .i64 (quo (dvs f .one l) (chn f .id l).a).n.im, .int .i64 (quo (dvs f .one l) (chn f .id l).a).d.re, .int .i64 (quo (dvs f .one l) (chn f .id l).a).d.im], .int .i64 (quoE (chn f .id l).a)]) (by simp [results, Tryd.results33, go_sem, cX]) rfl ?_
  exact ⟨rfl, hX⟩

set_option maxHeartbeats 2000000 in
theorem Divisor_ok (l : List El) (f : Int) (A : Option Addr) (m c : Nat) (w : World) (hC : Con w) (he : atErr l f = 0) (hm : m ≤ 1000000000000) (hR : Reads w w.heap.size 3 A m (els l)) :
    Calls Tryd.prog 14 #[.slice A m c, .int .i64 f] w fun e w' => e = .returned (.tuple #[.agg #[.int .i64 (dvs f .one l).re, .int .i64 (dvs f .one l).im], .int .i64 0]) ∧ Below w.heap.size w w' := by
  obtain ⟨hl, hf1, hf8⟩ := at_zero he
  have t1 : (fnz [ladErr l, rng f 1 8] != 0) = false := by rw [show fnz [ladErr l, rng f 1 8] = 0 from he]; rfl
  clear he
  go_enter Tryd.func14, Tryd.ntmps14
  go_wp2_with fail
  obtain ⟨w1, e1, hb1, hz1, k0⟩ := box1 w #[.int .i64 0, .int .i64 0] 30
  rw [← e1]; clear e1
  refine (checkLadder_any A m c l _ (carry hR hb1) hm).mono ?_
  rintro e w2 ⟨rfl, hb2⟩
  have hbw2 := below_next hb1 hb2
  have k2 := carryK k0 hb2
  go_upto_region 2 with (first | (go_at_call 46; refine (checkW_any _ _).mono ?_; rintro e W' ⟨rfl, rfl⟩) | (go_at_call 44; (first | (with_reducible (refine (first_any _ _ _ _ _ _ (reads2 _ _ _ _) (by omega)).mono ?_)) | (with_reducible (refine (first_any _ _ _ _ _ _ (Reads.drew (reads2 _ _ _ _)) (by omega)).mono ?_))); rintro e W' ⟨rfl, rfl⟩))
  obtain ⟨w3, e3, hb3, hz3, k3⟩ := box1 w2 #[.int .i64 (ladErr l), .int .i64 (rng f 1 8)] 33
  rw [← e3]; clear e3
  have hbw3 := below_next hbw2 hb3
  have k3' := carryK k2 hb3
  go_wp2_with fail
  refine (chain_any l f A m c _ (hC.carry hbw3) hl hf1 hf8 hm (carry hR hbw3)).mono ?_
  rintro e w4 ⟨rfl, hb4⟩
  have hbw4 := below_next hbw3 hb4
  have k4 := carryK k3' hb4
  go_upto_region 5 with (fail)
  obtain ⟨w5, e5, hb5, hz5, kM, kD⟩ := box2 w4 #[.int .i64 (chn f .id l).a.re, .int .i64 (chn f .id l).a.im, .int .i64 (chn f .id l).b.re, .int .i64 (chn f .id l).b.im, .int .i64 (chn f .id l).c.re, .int .i64 (chn f .id l).c.im, .int .i64 (chn f .id l).d.re, .int .i64 (chn f .id l).d.im] #[.int .i64 (dvs f .one l).re, .int .i64 (dvs f .one l).im] 38 30
  rw [← e5]; clear e5
  have hbw5 := below_next hbw4 hb5
  have k5 := carryK k4 hb5
  have c5 := k5.cell
  have f5 := k5.frozen
  have cM := kD.cell
  go_wp2_with fail
  have kX := blk2 (u0 := .int .i64 (dvs f .one l).re) (u1 := .int .i64 (dvs f .one l).im) k5
  have hX := below2 (u0 := .int .i64 (dvs f .one l).re) (u1 := .int .i64 (dvs f .one l).im) hbw5 (Nat.le_refl w.heap.size)
  have cX := kX.cell
  clear c5 f5 cM
  refine bodyPost_ret (v := .tuple #[.agg #[.int .i64 (dvs f .one l).re, .int .i64 (dvs f .one l).im], .int .i64 0]) (by simp [results, Tryd.results14, go_sem, cX]) rfl ?_
  exact ⟨rfl, hX⟩
end Go.Proofs.YthlnmoecmicofaaDoor
