/- Chain and Divisor of the program. -/
import Derived.Test.YthlnmoecmicofaaDoorNChn
namespace Go.Proofs.YthlnmoecmicofaaDoor
open Go.RowKit Go.Shelf
set_option maxRecDepth 100000

theorem at_zero {l : List El} {f : Int} (h : atErr l f = 0) : LadOk l ∧ 1 ≤ f ∧ f ≤ 8 := by
  unfold atErr at h
  rw [fnz_zero] at h
  simp only [List.mem_cons, List.not_mem_nil, or_false, forall_eq_or_imp, forall_eq] at h
  exact ⟨lad_ok h.1, (rng_zero.1 h.2).1, (rng_zero.1 h.2).2⟩
def Mat.zero : Mat := ⟨.zero, .zero, .zero, .zero⟩

set_option maxHeartbeats 2000000 in
theorem Chain_ok (l : List El) (f : Int) (A : Option Addr) (m c : Nat) (w : World) (hC : Con w) (he : atErr l f = 0) (hm : m ≤ 1000000000000) (hR : Reads w w.heap.size 3 A m (els l)) :
    Calls Tryd.prog 12 #[.slice A m c, .int .i64 f] w fun e w' => e = .returned (.tuple #[.agg #[.int .i64 (chn f .id l).a.re, .int .i64 (chn f .id l).a.im, .int .i64 (chn f .id l).b.re, .int .i64 (chn f .id l).b.im, .int .i64 (chn f .id l).c.re, .int .i64 (chn f .id l).c.im, .int .i64 (chn f .id l).d.re, .int .i64 (chn f .id l).d.im], .int .i64 0]) ∧ Below w.heap.size w w' := by
  obtain ⟨hl, hf1, hf8⟩ := at_zero he
  have t1 : (fnz [ladErr l, rng f 1 8] != 0) = false := by rw [show fnz [ladErr l, rng f 1 8] = 0 from he]; rfl
  clear he
  go_enter Tryd.func12, Tryd.ntmps12
  go_wp2_with fail
  obtain ⟨w1, e1, hb1, hz1, k0⟩ := box1 w #[.int .i64 0, .int .i64 0, .int .i64 0, .int .i64 0, .int .i64 0, .int .i64 0, .int .i64 0, .int .i64 0] 38
  rw [← e1]; clear e1
  refine (checkLadder_any A m c l _ (carry hR hb1) hm).mono ?_
  rintro e w2 ⟨rfl, hb2⟩
  have hbw2 := below_next hb1 hb2
  have k2 := carryK k0 hb2
  go_upto_region 2 with (first | (go_at_call 46; refine (checkW_any _ _).mono ?_; rintro e W' ⟨rfl, rfl⟩) | (go_at_call 44; (first | (with_reducible (refine (first_any _ _ _ _ _ _ (reads2 _ _ _ _) (by omega)).mono ?_)) | (with_reducible (refine (first_any _ _ _ _ _ _ (Reads.drew (reads2 _ _ _ _)) (by omega)).mono ?_))); rintro e W' ⟨rfl, rfl⟩))
  obtain ⟨w3, e3, hb3, hz3, k3⟩ := box1 w2 #[.int .i64 (ladErr l), .int .i64 (rng f 1 8)] 33
  rw [← e3]; clear e3
  have hbw3 := below_next hbw2 hb3
  have k3' := carryK k2 hb3
  go_wp2_with fail
  refine (chain_any l f A m c _ (hC.carry hbw3) hl hf1 hf8 hm (carry hR hbw3)).mono ?_
  rintro e w4 ⟨rfl, hb4⟩
  have hbw4 := below_next hbw3 hb4
  have k4 := carryK k3' hb4
  go_upto_region 5 with (fail)
  obtain ⟨w5, e5, hb5, hz5, kM, kD⟩ := box2 w4 #[.int .i64 (chn f .id l).a.re, .int .i64 (chn f .id l).a.im, .int .i64 (chn f .id l).b.re, .int .i64 (chn f .id l).b.im, .int .i64 (chn f .id l).c.re, .int .i64 (chn f .id l).c.im, .int .i64 (chn f .id l).d.re, .int .i64 (chn f .id l).d.im] #[.int .i64 (dvs f .one l).re, .int .i64 (dvs f .one l).im] 38 30
  rw [← e5]; clear e5
  have hbw5 := below_next hbw4 hb5
  have k5 := carryK k4 hb5
  have c5 := k5.cell
  have f5 := k5.frozen
  have cM := kM.cell
  go_wp2_with fail
  with_reducible refine fin8 (B := w.heap.size) (v := w) 38 hbw5 (by omega) k5 (fun X hX kX => ?_)
  have cX := kX.cell
  clear c5 f5 cM
  refine bodyPost_ret (v := .tuple #[.agg #[.int .i64 (chn f .id l).a.re, .int .i64 (chn f .id l).a.im, .int .i64 (chn f .id l).b.re, .int .i64 (chn f .id l).b.im, .int .i64 (chn f .id l).c.re, .int .i64 (chn f .id l).c.im, .int .i64 (chn f .id l).d.re, .int .i64 (chn f .id l).d.im], .int .i64 0]) (by simp [results, Tryd.results12, go_sem, cX]) rfl ?_
  exact ⟨rfl, hX⟩
end Go.Proofs.YthlnmoecmicofaaDoor
