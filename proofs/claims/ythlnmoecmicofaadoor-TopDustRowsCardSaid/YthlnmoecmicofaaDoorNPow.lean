/- Power of the program. -/
import Derived.Test.YthlnmoecmicofaaDoorNOf
namespace Go.Proofs.YthlnmoecmicofaaDoor
open Go.RowKit Go.Shelf
set_option maxRecDepth 100000
theorem nconj_in (a : G) (h : wr (-a.im) = a.conj.im) (w : World) :
    Calls Tryd.prog 56 #[.agg #[.int .i64 a.re, .int .i64 a.im]] w fun e w' => e = .returned (.agg #[.int .i64 a.conj.re, .int .i64 a.conj.im]) ∧ Below w.heap.size w w' := by
  have := conjugate_any a w
  rw [h] at this
  exact this
set_option maxHeartbeats 1000000 in
theorem Power1_any (p : Mat) (d : G) (w : World) (hp : p.In 2073071593) :
    Calls Tryd.prog 54 #[.agg #[.int .i64 p.a.re, .int .i64 p.a.im, .int .i64 p.b.re, .int .i64 p.b.im, .int .i64 p.c.re, .int .i64 p.c.im, .int .i64 p.d.re, .int .i64 p.d.im], .agg #[.int .i64 d.re, .int .i64 d.im]] w fun e w' => e = .returned (.tuple #[.int .i64 (pw p.a p.c), .int .i64 0]) ∧ Below w.heap.size w w' := by
  have h1 := hp.1
  have h2 := hp.2
  have hc : wr (-p.c.im) = p.c.conj.im := wr_in (by have := G.nrm_le (a := p.c) (n := 2073071593) (by omega); omega)
  have hw : (p.a.mul p.c.conj).w = p.a.mul p.c.conj := by
    refine G.w_in (Nat.le_trans (G.nrm_mul _ _) ?_)
    have e : p.c.conj.nrm = p.c.nrm := by simp [G.nrm, G.conj]
    rw [e]
    have := Nat.mul_le_mul (show p.a.nrm ≤ 2073071593 by omega) (show p.c.nrm ≤ 2073071593 by omega)
    omega
  have hre : (p.a.mul p.c.conj).w.re = pw p.a p.c := by rw [hw, pw_conj]
  have HRE := hide hre
  clear hre hw h1 h2 hp
  go_enter Tryd.func54, Tryd.ntmps54
  go_upto_region 1 with (fail)
  obtain ⟨w1, e1, hb1, hz1, k0, k1⟩ := box2 w #[.int .i64 p.a.re, .int .i64 p.a.im, .int .i64 p.b.re, .int .i64 p.b.im, .int .i64 p.c.re, .int .i64 p.c.im, .int .i64 p.d.re, .int .i64 p.d.im] #[.int .i64 d.re, .int .i64 d.im] 38 30
  rw [← e1]; clear e1
  have c0 := over_blk k0 k0.lt
  have i0 : ∀ W : World, (Instr.field 30 (.agg #[.int .i64 (p.a.mul p.c.conj).w.re, .int .i64 (p.a.mul p.c.conj).w.im]) 0).run Tryd.prog W = .ok (.int .i64 (p.a.mul p.c.conj).w.re) W := fun _ => by kernel_rfl
  refine wp_region_over w1.heap.size (by kernel_rfl) (by kernel_rfl) ?_; (repeat (first | go_big_quiet_step (first | (go_at_call 56; with_reducible exact over_call (Nat.le_refl _) (nconj_in p.c hc _)) | (go_at_call 55; with_reducible exact over_call (Nat.le_refl _) (times_any p.a p.c.conj _))) | quiet_step (first | (go_at_call 56; with_reducible exact over_call (Nat.le_refl _) (nconj_in p.c hc _)) | (go_at_call 55; with_reducible exact over_call (Nat.le_refl _) (times_any p.a p.c.conj _))))); refine wpQuiet_nil ?_; rintro W ⟨x, rfl⟩
  have hbY := over_below w1.heap.size w1 x
  generalize over w1.heap.size w1 x = Y at hbY ⊢
  rw [HRE.out]
  clear c0 i0
  go_wp2_with fail
  refine bodyPost_ret (v := .tuple #[.int .i64 (pw p.a p.c), .int .i64 0]) (by simp [results, Tryd.results54, go_sem]) rfl ?_
  exact ⟨rfl, below_next hb1 hbY⟩
set_option maxHeartbeats 1000000 in
theorem Power_ok (l : List El) (f : Int) (A : Option Addr) (m c : Nat) (w : World) (hC : Con w) (he : atErr l f = 0) (hm : m ≤ 1000000000000) (hR : Reads w w.heap.size 3 A m (els l)) :
    Calls Tryd.prog 26 #[.slice A m c, .int .i64 f] w fun e w' => e = .returned (.tuple #[.int .i64 (pw (chn f .id l).a (chn f .id l).c), .int .i64 0]) ∧ Below w.heap.size w w' := by
  obtain ⟨hl, hf1, hf8⟩ := at_zero he
  have t1 : (fnz [ladErr l, rng f 1 8] != 0) = false := by rw [show fnz [ladErr l, rng f 1 8] = 0 from he]; rfl
  have hin := chain_in hl hf1 hf8
  have hof : ∀ w, Con w → Reads w w.heap.size 3 A m (els l) → Calls Tryd.prog 53 #[.slice A m c, .int .i64 f, .func (.func 54) #[] #[]] w fun e w' => e = .returned (.tuple #[.int .i64 (pw (chn f .id l).a (chn f .id l).c), .int .i64 0]) ∧ Below w.heap.size w w' := by
    intro w hC hR
    clear he
    go_enter Tryd.func53, Tryd.ntmps53
    go_wp2_with fail
    refine (checkLadder_any A m c l _ hR hm).mono ?_
    rintro e w2 ⟨rfl, hb2⟩
    go_upto_region 2 with (first | (go_at_call 46; refine (checkW_any _ _).mono ?_; rintro e W' ⟨rfl, rfl⟩) | (go_at_call 44; (first | (with_reducible (refine (first_any _ _ _ _ _ _ (reads2 _ _ _ _) (by omega)).mono ?_)) | (with_reducible (refine (first_any _ _ _ _ _ _ (Reads.drew (reads2 _ _ _ _)) (by omega)).mono ?_))); rintro e W' ⟨rfl, rfl⟩))
    obtain ⟨w3, e3, hb3, hz3, k3⟩ := box1 w2 #[.int .i64 (ladErr l), .int .i64 (rng f 1 8)] 33
    rw [← e3]; clear e3
    have hbw3 := below_next hb2 hb3
    go_wp2_with fail
    refine (chain_any l f A m c _ (hC.carry hbw3) hl hf1 hf8 hm (carry hR hbw3)).mono ?_
    rintro e w4 ⟨rfl, hb4⟩
    have hbw4 := below_next hbw3 hb4
    go_wp2_with fail
    refine (Power1_any (chn f .id l) (dvs f .one l) _ hin).mono ?_
    rintro e w5 ⟨rfl, hb5⟩
    go_wp2_with fail
    refine bodyPost_ret (v := .tuple #[.int .i64 (pw (chn f .id l).a (chn f .id l).c), .int .i64 0]) (by simp [results, Tryd.results53, go_sem]) rfl ?_
    exact ⟨rfl, below_next hbw4 hb5⟩
  clear he t1 hin
  go_enter Tryd.func26, Tryd.ntmps26
  go_wp2_with fail
  refine (hof _ hC hR).mono ?_
  rintro e w2 ⟨rfl, hb2⟩
  go_wp2_with fail
  refine bodyPost_ret (v := .tuple #[.int .i64 (pw (chn f .id l).a (chn f .id l).c), .int .i64 0]) (by simp [results, Tryd.results26, go_sem]) rfl ?_
  exact ⟨rfl, hb2⟩
end Go.Proofs.YthlnmoecmicofaaDoor
