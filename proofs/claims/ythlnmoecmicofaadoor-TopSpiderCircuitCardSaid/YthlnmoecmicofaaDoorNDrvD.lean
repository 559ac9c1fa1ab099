/- Drivers: Impedance of the program; the reference's checks of drivers. -/
import Derived.Test.YthlnmoecmicofaaDoorNDrvC
import Derived.Test.YthlnmoecmicofaaDoorNRef
namespace Go.Proofs.YthlnmoecmicofaaDoor
open Go.RowKit Go.Shelf
set_option maxRecDepth 100000
def Drv.atE (d : Drv) (f : Int) : Int := fnz [d.err, rng f 1 8]
theorem Drv.ok_of {d : Drv} (h : d.err = 0) : d.Ok := by
  unfold Drv.err Drv.errs at h
  rw [fnz_zero] at h
  simp only [List.mem_cons, List.not_mem_nil, or_false, forall_eq_or_imp, forall_eq, rng_zero] at h
  obtain ⟨⟨a1, a2⟩, ⟨b1, b2⟩, ⟨c1, c2⟩, ⟨d1, d2⟩, ⟨e1, e2⟩, f1, f2⟩ := h
  exact ⟨a1, a2, b1, b2, c1, c2, d1, d2, e1, e2, f1, f2⟩
theorem Drv.atE_of {d : Drv} {f : Int} (h : d.err = 0) (h1 : 1 ≤ f) (h8 : f ≤ 8) : d.atE f = 0 := by
  unfold Drv.atE
  rw [fnz_zero]
  simp [h, rng_zero, h1, h8]
theorem Drv.atE_zero {d : Drv} {f : Int} (h : d.atE f = 0) : d.Ok ∧ 1 ≤ f ∧ f ≤ 8 := by
  unfold Drv.atE at h
  rw [fnz_zero] at h
  simp only [List.mem_cons, List.not_mem_nil, or_false, forall_eq_or_imp, forall_eq, rng_zero] at h
  exact ⟨Drv.ok_of h.1, h.2.1, h.2.2⟩
theorem checkDriven_any (d : Drv) (f : Int) (w : World) (hL : Lim w) :
    Calls Tryd.prog 73 #[.agg #[.int .i64 d.re, .int .i64 d.le, .int .i64 d.bl, .int .i64 d.ms, .int .i64 d.st, .int .i64 d.ls], .int .i64 f] w fun e w' => e = .returned (.int .i64 (d.atE f)) ∧ Below w.heap.size w w' := by
  go_enter Tryd.func73, Tryd.ntmps73
  go_upto_region 1 with (fail)
  obtain ⟨w1, q1, hb1, hz1, k0⟩ := box1 w #[.int .i64 d.re, .int .i64 d.le, .int .i64 d.bl, .int .i64 d.ms, .int .i64 d.st, .int .i64 d.ls] 36
  rw [← q1]; clear q1
  have c0 := k0.cell
  go_wp2_with fail
  refine (drCheckDriver_any d _ (hL.carry hb1)).mono ?_
  rintro e w2 ⟨rfl, hb2⟩
  have hbw := below_next hb1 hb2
  clear c0
  go_wp2_with (first | (go_at_call 87; refine (drCheckW_any _ _).mono ?_; rintro e W' ⟨rfl, rfl⟩) | (go_at_call 84; (first | (with_reducible (refine (drFirst_any _ _ _ _ _ _ (reads2 _ _ _ _) (by omega)).mono ?_)) | (with_reducible (refine (drFirst_any _ _ _ _ _ _ (Reads.drew (reads2 _ _ _ _)) (by omega)).mono ?_))); rintro e W' ⟨rfl, rfl⟩))
  go_ret
  exact ⟨rfl, (by repeat (first | exact hbw | exact Below.refl _ _ | refine Below.drew ?_ | refine below_drewN ?_ _ | refine below_set ?_ (by omega) _ | refine below_new ?_ (by omega) _))⟩
set_option maxHeartbeats 1000000 in
theorem asked_impedance (d : Drv) (f : Int) (w : World) (hL : Lim w) (he : d.atE f = 0) :
    Calls Tryd.prog 42 #[.agg #[.int .i64 d.re, .int .i64 d.le, .int .i64 d.bl, .int .i64 d.ms, .int .i64 d.st, .int .i64 d.ls], .int .i64 f, .func (.func 43) #[.agg #[.int .i64 d.re, .int .i64 d.le, .int .i64 d.bl, .int .i64 d.ms, .int .i64 d.st, .int .i64 d.ls]] #[]] w fun e w' => e = .returned (.tuple #[.agg #[.int .i64 (⟨d.num f, d.mech f⟩ : Pr).n.re, .int .i64 (⟨d.num f, d.mech f⟩ : Pr).n.im, .int .i64 (⟨d.num f, d.mech f⟩ : Pr).d.re, .int .i64 (⟨d.num f, d.mech f⟩ : Pr).d.im], .int .i64 0]) ∧ Below w.heap.size w w' := by
  obtain ⟨hd, h1, h8⟩ := Drv.atE_zero he
  have HE := hide he
  clear he
  go_enter Tryd.func42, Tryd.ntmps42
  go_upto_region 1 with (fail)
  obtain ⟨w1, q1, hb1, hz1, k0, k1⟩ := box2 w #[.int .i64 d.re, .int .i64 d.le, .int .i64 d.bl, .int .i64 d.ms, .int .i64 d.st, .int .i64 d.ls] #[.int .i64 0, .int .i64 0, .int .i64 0, .int .i64 0] 36 32
  rw [← q1]; clear q1
  have c0 := k0.cell
  go_wp2_with fail
  refine (checkDriven_any d f _ (hL.carry hb1)).mono ?_
  rintro e w2 ⟨rfl, hb2⟩
  rw [HE.out]
  have hbw := below_next hb1 hb2
  have k2 := carryK k1 hb2
  clear c0
  go_wp2_with fail
  refine (impedance_any d f _ hd h1 h8).mono ?_
  rintro e w3 ⟨rfl, hb3⟩
  have hbw3 := below_next hbw hb3
  have k3 := carryK k2 hb3
  have c3 := k3.cell
  have f3 := k3.frozen
  go_wp2_with fail
  with_reducible refine fin4 (B := w.heap.size) (v := w) 32 hbw3 (by omega) k3 (fun X hX kX => ?_)
  have cX := kX.cell
  clear c3 f3
  refine bodyPost_ret (v := .tuple #[.agg #[.int .i64 (⟨d.num f, d.mech f⟩ : Pr).n.re, .int .i64 (⟨d.num f, d.mech f⟩ : Pr).n.im, .int .i64 (⟨d.num f, d.mech f⟩ : Pr).d.re, .int .i64 (⟨d.num f, d.mech f⟩ : Pr).d.im], .int .i64 0]) (by simp [results, Tryd.results42, go_sem, cX]) rfl ?_
  exact ⟨rfl, hX⟩
set_option maxHeartbeats 1000000 in
theorem DrImpedance_ok (d : Drv) (f : Int) (w : World) (hL : Lim w) (he : d.atE f = 0) :
    Calls Tryd.prog 11 #[.agg #[.int .i64 d.re, .int .i64 d.le, .int .i64 d.bl, .int .i64 d.ms, .int .i64 d.st, .int .i64 d.ls], .int .i64 f] w fun e w' => e = .returned (.tuple #[.agg #[.int .i64 (⟨d.num f, d.mech f⟩ : Pr).n.re, .int .i64 (⟨d.num f, d.mech f⟩ : Pr).n.im, .int .i64 (⟨d.num f, d.mech f⟩ : Pr).d.re, .int .i64 (⟨d.num f, d.mech f⟩ : Pr).d.im], .int .i64 0]) ∧ Below w.heap.size w w' := by
  go_enter Tryd.func11, Tryd.ntmps11
  go_upto_region 1 with (fail)
  obtain ⟨w1, q1, hb1, hz1, k0, k1⟩ := box2 w #[.int .i64 d.re, .int .i64 d.le, .int .i64 d.bl, .int .i64 d.ms, .int .i64 d.st, .int .i64 d.ls] #[.int .i64 0, .int .i64 0, .int .i64 0, .int .i64 0] 36 32
  rw [← q1]; clear q1
  have c0 := k0.cell
  go_wp2_with fail
  refine (asked_impedance d f _ (hL.carry hb1) he).mono ?_
  rintro e w2 ⟨rfl, hb2⟩
  have hbw := below_next hb1 hb2
  have k3 := carryK k1 hb2
  have c3 := k3.cell
  have f3 := k3.frozen
  clear c0
  go_wp2_with fail
  with_reducible refine fin4 (B := w.heap.size) (v := w) 32 hbw (by omega) k3 (fun X hX kX => ?_)
  have cX := kX.cell
  clear c3 f3
  refine bodyPost_ret (v := .tuple #[.agg #[.int .i64 (⟨d.num f, d.mech f⟩ : Pr).n.re, .int .i64 (⟨d.num f, d.mech f⟩ : Pr).n.im, .int .i64 (⟨d.num f, d.mech f⟩ : Pr).d.re, .int .i64 (⟨d.num f, d.mech f⟩ : Pr).d.im], .int .i64 0]) (by simp [results, Tryd.results11, go_sem, cX]) rfl ?_
  exact ⟨rfl, hX⟩
theorem reads6 (w : World) (a b c d e f : Int) (t : TypeId) : Reads (w.alloc (.cells #[.int .i64 a, .int .i64 b, .int .i64 c, .int .i64 d, .int .i64 e, .int .i64 f] t)) (w.heap.size + 1) 1 (some ⟨w.heap.size, 0, none⟩) 6 (ints [a, b, c, d, e, f]) := reads_new w [a, b, c, d, e, f] t 6 rfl
set_option maxHeartbeats 1000000 in
theorem rCheckDriver_any (d : Drv) (w : World) :
    Calls Tryd.prog 9 #[.agg #[.int .i64 d.re, .int .i64 d.le, .int .i64 d.bl, .int .i64 d.ms, .int .i64 d.st, .int .i64 d.ls]] w fun e w' => e = .returned (.int .i64 d.err) ∧ Below w.heap.size w w' := by
  go_enter Tryd.func9, Tryd.ntmps9
  go_upto_region 1 with (fail)
  obtain ⟨w1, q1, hb1, hz1, k0⟩ := box1 w #[.int .i64 d.re, .int .i64 d.le, .int .i64 d.bl, .int .i64 d.ms, .int .i64 d.st, .int .i64 d.ls] 24
  rw [← q1]; clear q1
  have c0 := over_blk k0 k0.lt
  refine wp_region_part 18 w1.heap.size (by kernel_rfl) (by kernel_rfl) ?_; simp only [List.take_succ_cons, List.take_zero, List.drop_succ_cons, List.drop_zero]; (repeat (first | go_big_quiet_step ((go_at_call 41; exact over_same (checkRange_any _ _ _ _))) | quiet_step ((go_at_call 41; exact over_same (checkRange_any _ _ _ _))))); refine wpQuiet_nil ?_; rintro W ⟨x, rfl⟩
  have hbY := over_below w1.heap.size w1 x
  generalize over w1.heap.size w1 x = Y at hbY ⊢
  clear c0
  have hbw := below_next hb1 hbY
  go_wp2_with ((go_at_call 40; (first | (with_reducible (refine (rFirst_any _ _ _ _ _ _ (reads6 _ _ _ _ _ _ _ _) (by omega)).mono ?_)) | (with_reducible (refine (rFirst_any _ _ _ _ _ _ (Reads.drew (reads6 _ _ _ _ _ _ _ _)) (by omega)).mono ?_))); rintro e W' ⟨rfl, rfl⟩))
  go_ret
  exact ⟨rfl, (by repeat (first | exact hbw | exact Below.refl _ _ | refine Below.drew ?_ | refine below_drewN ?_ _ | refine below_set ?_ (by omega) _ | refine below_new ?_ (by omega) _))⟩
theorem rCheckW3_any (n : Int) (w : World) :
    Calls Tryd.prog 10 #[.int .i64 n] w fun r w' => r = .returned (.int .i64 (rng n 1 8)) ∧ w = w' := by
  go_enter Tryd.func10, Tryd.ntmps10
  go_wp2_with (go_at_call 41; refine (checkRange_any _ _ _ _).mono ?_; rintro e w' ⟨rfl, rfl⟩)
  go_ret
  exact ⟨rfl, rfl⟩
end Go.Proofs.YthlnmoecmicofaaDoor
