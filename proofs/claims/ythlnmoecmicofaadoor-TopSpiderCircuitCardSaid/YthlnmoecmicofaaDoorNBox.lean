/- Drivers: Excursion; a closed box with the air 1: Boxed, Moved. -/
import Derived.Test.YthlnmoecmicofaaDoorNDrvD
import Derived.Test.YthlnmoecmicofaaDoorNProd
namespace Go.Proofs.YthlnmoecmicofaaDoor
open Go.RowKit Go.Shelf
set_option maxRecDepth 100000
/-- A driver with one more of stiffness. -/
def Drv.up (d : Drv) : Drv := ⟨d.re, d.le, d.bl, d.ms, d.st + 1, d.ls⟩
set_option maxHeartbeats 1000000 in
theorem excursion_any (d : Drv) (f : Int) (w : World) (hd : d.Ok) (h1 : 1 ≤ f) (h8 : f ≤ 8) :
    Calls Tryd.prog 57 #[.agg #[.int .i64 d.re, .int .i64 d.le, .int .i64 d.bl, .int .i64 d.ms, .int .i64 d.st, .int .i64 d.ls], .int .i64 f] w fun e w' => e = .returned (.agg #[.int .i64 (⟨⟨d.bl, 0⟩, d.num f⟩ : Pr).n.re, .int .i64 (⟨⟨d.bl, 0⟩, d.num f⟩ : Pr).n.im, .int .i64 (⟨⟨d.bl, 0⟩, d.num f⟩ : Pr).d.re, .int .i64 (⟨⟨d.bl, 0⟩, d.num f⟩ : Pr).d.im]) ∧ Below w.heap.size w w' := by
  go_enter Tryd.func57, Tryd.ntmps57
  go_upto_region 1 with (fail)
  obtain ⟨w1, q1, hb1, hz1, k0, k1⟩ := box2 w #[.int .i64 d.re, .int .i64 d.le, .int .i64 d.bl, .int .i64 d.ms, .int .i64 d.st, .int .i64 d.ls] #[.int .i64 0, .int .i64 0, .int .i64 0, .int .i64 0] 36 32
  rw [← q1]; clear q1
  have c0 := over_blk k0 k0.lt
  refine wp_region_part 7 w1.heap.size (by kernel_rfl) (by kernel_rfl) ?_; simp only [List.take_succ_cons, List.take_zero, List.drop_succ_cons, List.drop_zero]; (repeat (first | go_big_quiet_step (first | (go_at_call 74; with_reducible exact over_call (Nat.le_refl _) (numerator_any d f _ hd h1 h8)) | (go_at_call 61; exact over_call (Nat.le_refl _) (number_any _ _ _))) | quiet_step (first | (go_at_call 74; with_reducible exact over_call (Nat.le_refl _) (numerator_any d f _ hd h1 h8)) | (go_at_call 61; exact over_call (Nat.le_refl _) (number_any _ _ _))))); refine wpQuiet_nil ?_; rintro W ⟨x, rfl⟩
  have hbY := over_below w1.heap.size w1 x
  generalize over w1.heap.size w1 x = Y at hbY ⊢
  clear c0
  have hbw := below_next hb1 hbY
  have k3 := carryK k1 hbY
  have c3 := k3.cell
  have f3 := k3.frozen
  go_wp2_with fail
  with_reducible refine fin4 (B := w.heap.size) (v := w) 32 hbw (by omega) k3 (fun X hX kX => ?_)
  have cX := kX.cell
  clear c3 f3
  refine bodyPost_ret (v := .agg #[.int .i64 (⟨⟨d.bl, 0⟩, d.num f⟩ : Pr).n.re, .int .i64 (⟨⟨d.bl, 0⟩, d.num f⟩ : Pr).n.im, .int .i64 (⟨⟨d.bl, 0⟩, d.num f⟩ : Pr).d.re, .int .i64 (⟨⟨d.bl, 0⟩, d.num f⟩ : Pr).d.im]) (by simp [results, Tryd.results57, go_sem, cX]) rfl ?_
  exact ⟨rfl, hX⟩
set_option maxHeartbeats 1000000 in
theorem asked_excursion (d : Drv) (f : Int) (w : World) (hL : Lim w) (he : d.atE f = 0) :
    Calls Tryd.prog 42 #[.agg #[.int .i64 d.re, .int .i64 d.le, .int .i64 d.bl, .int .i64 d.ms, .int .i64 d.st, .int .i64 d.ls], .int .i64 f, .func (.func 57) #[.agg #[.int .i64 d.re, .int .i64 d.le, .int .i64 d.bl, .int .i64 d.ms, .int .i64 d.st, .int .i64 d.ls]] #[]] w fun e w' => e = .returned (.tuple #[.agg #[.int .i64 (⟨⟨d.bl, 0⟩, d.num f⟩ : Pr).n.re, .int .i64 (⟨⟨d.bl, 0⟩, d.num f⟩ : Pr).n.im, .int .i64 (⟨⟨d.bl, 0⟩, d.num f⟩ : Pr).d.re, .int .i64 (⟨⟨d.bl, 0⟩, d.num f⟩ : Pr).d.im], .int .i64 0]) ∧ Below w.heap.size w w' := by
  obtain ⟨hd, h1, h8⟩ := Drv.atE_zero he
  have HE := hide he
  clear he
  go_enter Tryd.func42, Tryd.ntmps42
  go_upto_region 1 with (fail)
  obtain ⟨w1, q1, hb1, hz1, k0, k1⟩ := box2 w #[.int .i64 d.re, .int .i64 d.le, .int .i64 d.bl, .int .i64 d.ms, .int .i64 d.st, .int .i64 d.ls] #[.int .i64 0, .int .i64 0, .int .i64 0, .int .i64 0] 36 32
  rw [← q1]; clear q1
  have c0 := k0.cell
  go_wp2_with fail
  refine (checkDriven_any d f _ (hL.carry hb1)).mono ?_
  rintro e w2 ⟨rfl, hb2⟩
  rw [HE.out]
  have hbw := below_next hb1 hb2
  have k2 := carryK k1 hb2
  clear c0
  go_wp2_with fail
  refine (excursion_any d f _ hd h1 h8).mono ?_
  rintro e w3 ⟨rfl, hb3⟩
  have hbw3 := below_next hbw hb3
  have k3 := carryK k2 hb3
  have c3 := k3.cell
  have f3 := k3.frozen
  go_wp2_with fail
  with_reducible refine fin4 (B := w.heap.size) (v := w) 32 hbw3 (by omega) k3 (fun X hX kX => ?_)
  have cX := kX.cell
  clear c3 f3
  refine bodyPost_ret (v := .tuple #[.agg #[.int .i64 (⟨⟨d.bl, 0⟩, d.num f⟩ : Pr).n.re, .int .i64 (⟨⟨d.bl, 0⟩, d.num f⟩ : Pr).n.im, .int .i64 (⟨⟨d.bl, 0⟩, d.num f⟩ : Pr).d.re, .int .i64 (⟨⟨d.bl, 0⟩, d.num f⟩ : Pr).d.im], .int .i64 0]) (by simp [results, Tryd.results42, go_sem, cX]) rfl ?_
  exact ⟨rfl, hX⟩
set_option maxHeartbeats 1000000 in
theorem DrExcursion_ok (d : Drv) (f : Int) (w : World) (hL : Lim w) (he : d.atE f = 0) :
    Calls Tryd.prog 28 #[.agg #[.int .i64 d.re, .int .i64 d.le, .int .i64 d.bl, .int .i64 d.ms, .int .i64 d.st, .int .i64 d.ls], .int .i64 f] w fun e w' => e = .returned (.tuple #[.agg #[.int .i64 (⟨⟨d.bl, 0⟩, d.num f⟩ : Pr).n.re, .int .i64 (⟨⟨d.bl, 0⟩, d.num f⟩ : Pr).n.im, .int .i64 (⟨⟨d.bl, 0⟩, d.num f⟩ : Pr).d.re, .int .i64 (⟨⟨d.bl, 0⟩, d.num f⟩ : Pr).d.im], .int .i64 0]) ∧ Below w.heap.size w w' := by
  go_enter Tryd.func28, Tryd.ntmps28
  go_upto_region 1 with (fail)
  obtain ⟨w1, q1, hb1, hz1, k0, k1⟩ := box2 w #[.int .i64 d.re, .int .i64 d.le, .int .i64 d.bl, .int .i64 d.ms, .int .i64 d.st, .int .i64 d.ls] #[.int .i64 0, .int .i64 0, .int .i64 0, .int .i64 0] 36 32
  rw [← q1]; clear q1
  have c0 := k0.cell
  go_wp2_with fail
  refine (asked_excursion d f _ (hL.carry hb1) he).mono ?_
  rintro e w2 ⟨rfl, hb2⟩
  have hbw := below_next hb1 hb2
  have k3 := carryK k1 hb2
  have c3 := k3.cell
  have f3 := k3.frozen
  clear c0
  go_wp2_with fail
  with_reducible refine fin4 (B := w.heap.size) (v := w) 32 hbw (by omega) k3 (fun X hX kX => ?_)
  have cX := kX.cell
  clear c3 f3
  refine bodyPost_ret (v := .tuple #[.agg #[.int .i64 (⟨⟨d.bl, 0⟩, d.num f⟩ : Pr).n.re, .int .i64 (⟨⟨d.bl, 0⟩, d.num f⟩ : Pr).n.im, .int .i64 (⟨⟨d.bl, 0⟩, d.num f⟩ : Pr).d.re, .int .i64 (⟨⟨d.bl, 0⟩, d.num f⟩ : Pr).d.im], .int .i64 0]) (by simp [results, Tryd.results28, go_sem, cX]) rfl ?_
  exact ⟨rfl, hX⟩
set_option maxHeartbeats 1000000 in
theorem stiffer_any (d : Drv) (w : World) (h0 : 1 ≤ d.st) (h1 : d.st ≤ 5000) :
    Calls Tryd.prog 59 #[.agg #[.int .i64 d.re, .int .i64 d.le, .int .i64 d.bl, .int .i64 d.ms, .int .i64 d.st, .int .i64 d.ls], .int .i64 1] w fun e w' => e = .returned (.agg #[.int .i64 d.up.re, .int .i64 d.up.le, .int .i64 d.up.bl, .int .i64 d.up.ms, .int .i64 d.up.st, .int .i64 d.up.ls]) ∧ Below w.heap.size w w' := by
  have hw : wrap64 (d.st + 1) = d.st + 1 := by unfold wrap64; omega
  go_enter Tryd.func59, Tryd.ntmps59
  go_upto_region 1 with (fail)
  obtain ⟨w1, q1, hb1, hz1, k0, k1⟩ := box2 w #[.int .i64 d.re, .int .i64 d.le, .int .i64 d.bl, .int .i64 d.ms, .int .i64 d.st, .int .i64 d.ls] #[.int .i64 0, .int .i64 0, .int .i64 0, .int .i64 0, .int .i64 0, .int .i64 0] 36 36
  rw [← q1]; clear q1
  have c0 := k0.cell
  have f0 := k0.frozen
  go_upto_region 2 with (fail)
  have kA := k0.set_ 4 (.int .i64 (d.st + 1))
  have kB := k1.far (p := ⟨w.heap.size, 4, none⟩) (show w.heap.size + 1 ≠ w.heap.size by omega) (.int .i64 (d.st + 1))
  have hbA := below_set (i := 4) hb1 (Nat.le_refl w.heap.size) (.int .i64 (d.st + 1))
  generalize World.setCell w1 _ _ = w2 at kA kB hbA ⊢
  have kA : Blk w2 w.heap.size 36 #[.int .i64 d.up.re, .int .i64 d.up.le, .int .i64 d.up.bl, .int .i64 d.up.ms, .int .i64 d.up.st, .int .i64 d.up.ls] := kA
  clear c0 f0
  have cA := kA.cell
  have cB := kB.cell
  have fB := kB.frozen
  go_wp2_with fail
  with_reducible refine fin6 (B := w.heap.size) (v := w) 36 hbA (by omega) kB (fun X hX kX => ?_)
  have cX := kX.cell
  clear cA cB fB
  refine bodyPost_ret (v := .agg #[.int .i64 d.up.re, .int .i64 d.up.le, .int .i64 d.up.bl, .int .i64 d.up.ms, .int .i64 d.up.st, .int .i64 d.up.ls]) (by simp [results, Tryd.results59, go_sem, cX]) rfl ?_
  exact ⟨rfl, hX⟩
set_option maxHeartbeats 1000000 in
theorem box_any (w : World) :
    Calls Tryd.prog 86 #[.agg #[.int .i64 1, .int .i64 0, .int .i64 0, .int .i64 0]] w fun e w' => e = .returned (.int .i64 0) ∧ Below w.heap.size w w' := by
  have r0 : rng 1 1 5000 = 0 := by decide
  go_enter Tryd.func86, Tryd.ntmps86
  go_upto_region 1 with (fail)
  obtain ⟨w1, q1, hb1, hz1, k0⟩ := box1 w #[.int .i64 1, .int .i64 0, .int .i64 0, .int .i64 0] 66
  rw [← q1]; clear q1
  have c0 := k0.cell
  go_wp2_with (first | (go_at_call 103; refine (within_dr _ _ _ _).mono ?_; rintro e W' ⟨rfl, rfl⟩) | (go_at_call 104; refine (when_dr _ _ _).mono ?_; rintro e W' ⟨rfl, rfl⟩))
  go_ret
  exact ⟨rfl, hb1⟩
set_option maxHeartbeats 1000000 in
theorem checkBoxed_any (d : Drv) (f : Int) (w : World) (hL : Lim w) (he : d.atE f = 0) :
    Calls Tryd.prog 58 #[.agg #[.int .i64 d.re, .int .i64 d.le, .int .i64 d.bl, .int .i64 d.ms, .int .i64 d.st, .int .i64 d.ls], .agg #[.int .i64 1, .int .i64 0, .int .i64 0, .int .i64 0], .int .i64 f] w fun e w' => e = .returned (.int .i64 0) ∧ Below w.heap.size w w' := by
  have hz : fnz [d.err, 0, rng f 1 8] = 0 := by
    unfold Drv.atE at he
    rw [fnz_zero] at he ⊢
    simp only [List.mem_cons, List.not_mem_nil, or_false, forall_eq_or_imp, forall_eq] at he ⊢
    exact ⟨he.1, trivial, he.2⟩
  have HZ := hide hz
  clear hz he
  go_enter Tryd.func58, Tryd.ntmps58
  go_upto_region 1 with (fail)
  obtain ⟨w1, q1, hb1, hz1, k0, k1⟩ := box2 w #[.int .i64 d.re, .int .i64 d.le, .int .i64 d.bl, .int .i64 d.ms, .int .i64 d.st, .int .i64 d.ls] #[.int .i64 1, .int .i64 0, .int .i64 0, .int .i64 0] 36 66
  rw [← q1]; clear q1
  have hL1 := hL.carry hb1
  have c0 := over_blk k0 k0.lt
  have c1 := over_blk k1 k1.lt
  refine wp_region_part 6 w1.heap.size (by kernel_rfl) (by kernel_rfl) ?_; simp only [List.take_succ_cons, List.take_zero, List.drop_succ_cons, List.drop_zero]; (repeat (first | go_big_quiet_step (first | (go_at_call 87; exact over_same (drCheckW_any _ _)) | (go_at_call 86; with_reducible exact over_call (Nat.le_refl _) (box_any _)) | (go_at_call 85; with_reducible exact over_call (Nat.le_refl _) (drCheckDriver_any d _ (hL1.carry (over_below _ _ _))))) | quiet_step (first | (go_at_call 87; exact over_same (drCheckW_any _ _)) | (go_at_call 86; with_reducible exact over_call (Nat.le_refl _) (box_any _)) | (go_at_call 85; with_reducible exact over_call (Nat.le_refl _) (drCheckDriver_any d _ (hL1.carry (over_below _ _ _))))))); refine wpQuiet_nil ?_; rintro W ⟨x, rfl⟩
  have hbY := over_below w1.heap.size w1 x
  generalize over w1.heap.size w1 x = Y at hbY ⊢
  clear c0 c1
  have hbw := below_next hb1 hbY
  go_wp2_with ((go_at_call 84; (first | (with_reducible (refine (drFirst_any _ _ _ _ _ _ (reads3 _ _ _ _ _) (by omega)).mono ?_)) | (with_reducible (refine (drFirst_any _ _ _ _ _ _ (Reads.drew (reads3 _ _ _ _ _)) (by omega)).mono ?_))); rintro e W' ⟨rfl, rfl⟩))
  go_ret
  exact ⟨by rw [HZ.out]; rfl, (by repeat (first | exact hbw | exact Below.refl _ _ | refine Below.drew ?_ | refine below_drewN ?_ _ | refine below_set ?_ (by omega) _ | refine below_new ?_ (by omega) _))⟩
set_option maxHeartbeats 1000000 in
theorem DrBoxed_ok (d : Drv) (f : Int) (w : World) (hL : Lim w) (he : d.atE f = 0) (hu : d.up.Ok) :
    Calls Tryd.prog 29 #[.agg #[.int .i64 d.re, .int .i64 d.le, .int .i64 d.bl, .int .i64 d.ms, .int .i64 d.st, .int .i64 d.ls], .agg #[.int .i64 1, .int .i64 0, .int .i64 0, .int .i64 0], .int .i64 f] w fun e w' => e = .returned (.tuple #[.agg #[.int .i64 (⟨d.up.num f, d.up.mech f⟩ : Pr).n.re, .int .i64 (⟨d.up.num f, d.up.mech f⟩ : Pr).n.im, .int .i64 (⟨d.up.num f, d.up.mech f⟩ : Pr).d.re, .int .i64 (⟨d.up.num f, d.up.mech f⟩ : Pr).d.im], .int .i64 0]) ∧ Below w.heap.size w w' := by
  obtain ⟨hd, h1, h8⟩ := Drv.atE_zero he
  have s1 := hd.st1
  have s2 := hd.st2
  have HE := hide he
  clear he
  go_enter Tryd.func29, Tryd.ntmps29
  go_upto_region 1 with (fail)
  obtain ⟨w1, q1, hb1, hz1, k0, k1, k2⟩ := box3 w #[.int .i64 d.re, .int .i64 d.le, .int .i64 d.bl, .int .i64 d.ms, .int .i64 d.st, .int .i64 d.ls] #[.int .i64 1, .int .i64 0, .int .i64 0, .int .i64 0] #[.int .i64 0, .int .i64 0, .int .i64 0, .int .i64 0] 36 66 32
  rw [← q1]; clear q1
  have c0 := k0.cell
  have c1 := k1.cell
  go_wp2_with fail
  refine (checkBoxed_any d f _ (hL.carry hb1) HE.out).mono ?_
  rintro e w2 ⟨rfl, hb2⟩
  clear c0 c1
  have c0 := (carryK k0 hb2).cell
  have c1 := (carryK k1 hb2).cell
  go_wp2_with fail
  refine (stiffer_any d _ s1 s2).mono ?_
  rintro e w3 ⟨rfl, hb3⟩
  clear c0 c1
  go_wp2_with fail
  refine (impedance_any d.up f _ hu h1 h8).mono ?_
  rintro e w4 ⟨rfl, hb4⟩
  have hbw := below_next hb1 (below_next hb2 (below_next hb3 hb4))
  have k3 := carryK (carryK (carryK k2 hb2) hb3) hb4
  have c3 := k3.cell
  have f3 := k3.frozen
  go_wp2_with fail
  with_reducible refine fin4 (B := w.heap.size) (v := w) 32 hbw (by omega) k3 (fun X hX kX => ?_)
  have cX := kX.cell
  clear c3 f3
  refine bodyPost_ret (v := .tuple #[.agg #[.int .i64 (⟨d.up.num f, d.up.mech f⟩ : Pr).n.re, .int .i64 (⟨d.up.num f, d.up.mech f⟩ : Pr).n.im, .int .i64 (⟨d.up.num f, d.up.mech f⟩ : Pr).d.re, .int .i64 (⟨d.up.num f, d.up.mech f⟩ : Pr).d.im], .int .i64 0]) (by simp [results, Tryd.results29, go_sem, cX]) rfl ?_
  exact ⟨rfl, hX⟩
set_option maxHeartbeats 1000000 in
theorem DrMoved_ok (d : Drv) (f : Int) (w : World) (hL : Lim w) (he : d.atE f = 0) (hu : d.up.Ok) :
    Calls Tryd.prog 30 #[.agg #[.int .i64 d.re, .int .i64 d.le, .int .i64 d.bl, .int .i64 d.ms, .int .i64 d.st, .int .i64 d.ls], .agg #[.int .i64 1, .int .i64 0, .int .i64 0, .int .i64 0], .int .i64 f] w fun e w' => e = .returned (.tuple #[.agg #[.int .i64 d.bl, .int .i64 0, .int .i64 (d.up.num f).re, .int .i64 (d.up.num f).im, .int .i64 0, .int .i64 0, .int .i64 1, .int .i64 0], .int .i64 0]) ∧ Below w.heap.size w w' := by
  obtain ⟨hd, h1, h8⟩ := Drv.atE_zero he
  have s1 := hd.st1
  have s2 := hd.st2
  have HE := hide he
  clear he
  go_enter Tryd.func30, Tryd.ntmps30
  go_upto_region 1 with (fail)
  obtain ⟨w1, q1, hb1, hz1, k0, k1, k2⟩ := box3 w #[.int .i64 d.re, .int .i64 d.le, .int .i64 d.bl, .int .i64 d.ms, .int .i64 d.st, .int .i64 d.ls] #[.int .i64 1, .int .i64 0, .int .i64 0, .int .i64 0] #[.int .i64 0, .int .i64 0, .int .i64 0, .int .i64 0, .int .i64 0, .int .i64 0, .int .i64 0, .int .i64 0] 36 66 67
  rw [← q1]; clear q1
  have c0 := k0.cell
  have c1 := k1.cell
  go_wp2_with fail
  refine (checkBoxed_any d f _ (hL.carry hb1) HE.out).mono ?_
  rintro e w2 ⟨rfl, hb2⟩
  clear c0 c1
  have c0 := (carryK k0 hb2).cell
  have c1 := (carryK k1 hb2).cell
  go_wp2_with fail
  refine (stiffer_any d _ s1 s2).mono ?_
  rintro e w3 ⟨rfl, hb3⟩
  clear c0 c1
  go_wp2_with fail
  refine (excursion_any d.up f _ hu h1 h8).mono ?_
  rintro e w4 ⟨rfl, hb4⟩
  go_wp2_with fail
  refine (number_any 1 0 _).mono ?_
  rintro e w5 ⟨rfl, hb5⟩
  have hbw := below_next hb1 (below_next hb2 (below_next hb3 (below_next hb4 hb5)))
  have k3 := carryK (carryK (carryK (carryK k2 hb2) hb3) hb4) hb5
  have c3 := k3.cell
  have f3 := k3.frozen
  go_wp2_with fail
  with_reducible refine fin8 (B := w.heap.size) (v := w) 67 hbw (by omega) k3 (fun X hX kX => ?_)
  have cX := kX.cell
  clear c3 f3
  refine bodyPost_ret (v := .tuple #[.agg #[.int .i64 d.bl, .int .i64 0, .int .i64 (d.up.num f).re, .int .i64 (d.up.num f).im, .int .i64 0, .int .i64 0, .int .i64 1, .int .i64 0], .int .i64 0]) (by simp [results, Tryd.results30, go_sem, cX]; rfl) rfl ?_
  exact ⟨rfl, hX⟩
end Go.Proofs.YthlnmoecmicofaaDoor
