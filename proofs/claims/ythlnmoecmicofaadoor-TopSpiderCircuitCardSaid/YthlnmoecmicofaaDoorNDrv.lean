/- Drivers: plain mathematics; the contracts of the program's reckoning of an impedance. -/
import Derived.Test.YthlnmoecmicofaaDoorNOf
namespace Go.Proofs.YthlnmoecmicofaaDoor
open Go.RowKit Go.Shelf
set_option maxRecDepth 100000

/-- The six numbers of a driver. -/
structure Drv where
  re : Int
  le : Int
  bl : Int
  ms : Int
  st : Int
  ls : Int
structure Drv.Ok (d : Drv) : Prop where
  re1 : 1 ≤ d.re
  re2 : d.re ≤ 50
  le1 : 0 ≤ d.le
  le2 : d.le ≤ 10
  bl1 : 1 ≤ d.bl
  bl2 : d.bl ≤ 20
  ms1 : 1 ≤ d.ms
  ms2 : d.ms ≤ 100
  st1 : 1 ≤ d.st
  st2 : d.st ≤ 5000
  ls1 : 1 ≤ d.ls
  ls2 : d.ls ≤ 100
def Drv.mech (d : Drv) (f : Int) : G := ⟨d.st - f * f * d.ms, f * d.ls⟩
def Drv.num (d : Drv) (f : Int) : G := ((⟨d.re, f * d.le⟩ : G).mul (d.mech f)).add ((⟨0, f * d.bl * d.bl⟩ : G).mul .one)
/-- A driver gives no power. -/
theorem drv_pw {d : Drv} (h : d.Ok) (f : Int) : 0 ≤ pw (d.num f) (d.mech f) := by
  have e : pw (d.num f) (d.mech f) = d.re * (d.mech f).sq + (f * d.bl) * (f * d.bl) * d.ls := by
    simp only [pw, Drv.num, Drv.mech, G.mul, G.add, G.one, G.sq]; grind
  rw [e]
  have h1 := Int.mul_nonneg (show 0 ≤ d.re by have := h.re1; omega) (G.sq_nn (d.mech f))
  have h2 : 0 ≤ (f * d.bl) * (f * d.bl) := by
    rcases Int.le_total 0 (f * d.bl) with q | q
    · exact Int.mul_nonneg q q
    · exact Int.mul_nonneg_of_nonpos_of_nonpos q q
  have h3 := Int.mul_nonneg h2 (show 0 ≤ d.ls by have := h.ls1; omega)
  omega
theorem mul_bd {a b m n : Int} (ha : 0 ≤ a ∧ a ≤ m) (hb : 0 ≤ b ∧ b ≤ n) : 0 ≤ a * b ∧ a * b ≤ m * n :=
  ⟨Int.mul_nonneg ha.1 hb.1, Int.mul_le_mul ha.2 hb.2 hb.1 (by omega)⟩
structure Drv.Bd (d : Drv) (f : Int) : Prop where
  ff : 0 ≤ f * f ∧ f * f ≤ 64
  fm : 0 ≤ f * f * d.ms ∧ f * f * d.ms ≤ 6400
  fl : 0 ≤ f * d.ls ∧ f * d.ls ≤ 800
  fe : 0 ≤ f * d.le ∧ f * d.le ≤ 80
  fb : 0 ≤ f * d.bl ∧ f * d.bl ≤ 160
  fbb : 0 ≤ f * d.bl * d.bl ∧ f * d.bl * d.bl ≤ 3200
theorem Drv.bd {d : Drv} (h : d.Ok) {f : Int} (h1 : 1 ≤ f) (h8 : f ≤ 8) : d.Bd f := by
  have hf : 0 ≤ f ∧ f ≤ 8 := by omega
  have ff := mul_bd hf hf
  exact ⟨ff, mul_bd ff ⟨by have := h.ms1; omega, h.ms2⟩, mul_bd hf ⟨by have := h.ls1; omega, h.ls2⟩, mul_bd hf ⟨h.le1, h.le2⟩, mul_bd hf ⟨by have := h.bl1; omega, h.bl2⟩,
    mul_bd (mul_bd hf ⟨by have := h.bl1; omega, h.bl2⟩) ⟨by have := h.bl1; omega, h.bl2⟩⟩
theorem number_any (a b : Int) (w : World) :
    Calls Tryd.prog 61 #[.int .i64 a, .int .i64 b] w fun e w' => e = .returned (.agg #[.int .i64 a, .int .i64 b]) ∧ Below w.heap.size w w' := by
  go_enter Tryd.func61, Tryd.ntmps61
  go_wp2
  refine bodyPost_ret (v := .agg #[.int .i64 a, .int .i64 b]) (by simp [results, Tryd.results61, go_sem]) rfl ?_
  exact ⟨rfl, (by repeat (first | exact Below.refl _ _ | exact Below.refl _ _ | refine Below.drew ?_ | refine below_drewN ?_ _ | refine below_set ?_ (by omega) _ | refine below_new ?_ (by omega) _))⟩
theorem dplus_any (a b : G) (w : World) :
    Calls Tryd.prog 89 #[.agg #[.int .i64 a.re, .int .i64 a.im], .agg #[.int .i64 b.re, .int .i64 b.im]] w fun e w' => e = .returned (.agg #[.int .i64 (a.add b).w.re, .int .i64 (a.add b).w.im]) ∧ Below w.heap.size w w' := by
  go_enter Tryd.func89, Tryd.ntmps89
  go_upto_region 1 with (fail)
  obtain ⟨w1, e1, hb1, hz1, k0, k1, k2⟩ := box3 w #[.int .i64 a.re, .int .i64 a.im] #[.int .i64 b.re, .int .i64 b.im] #[.int .i64 0, .int .i64 0] 30 30 30
  rw [← e1]; clear e1
  have c0 := k0.cell
  have c1 := k1.cell
  go_wp2_with fail
  rw [w_add_re, w_add_im]
  refine (number_any _ _ _).mono ?_
  rintro e w2 ⟨rfl, hb2⟩
  have hbw := below_next hb1 hb2
  have k3 := carryK k2 hb2
  have c3 := k3.cell
  have f3 := k3.frozen
  clear c0 c1
  go_wp2_with fail
  have kX := blk2 (u0 := .int .i64 (a.add b).w.re) (u1 := .int .i64 (a.add b).w.im) k3
  have hX := below2 (g := w.heap.size + 2) (u0 := .int .i64 (a.add b).w.re) (u1 := .int .i64 (a.add b).w.im) hbw (by omega)
  have cX := kX.cell
  clear c3 f3
  refine bodyPost_ret (v := .agg #[.int .i64 (a.add b).w.re, .int .i64 (a.add b).w.im]) (by simp [results, Tryd.results89, go_sem, cX]) rfl ?_
  exact ⟨rfl, hX⟩
theorem dtimes_any (a b : G) (w : World) :
    Calls Tryd.prog 90 #[.agg #[.int .i64 a.re, .int .i64 a.im], .agg #[.int .i64 b.re, .int .i64 b.im]] w fun e w' => e = .returned (.agg #[.int .i64 (a.mul b).w.re, .int .i64 (a.mul b).w.im]) ∧ Below w.heap.size w w' := by
  go_enter Tryd.func90, Tryd.ntmps90
  go_upto_region 1 with (fail)
  obtain ⟨w1, e1, hb1, hz1, k0, k1, k2⟩ := box3 w #[.int .i64 a.re, .int .i64 a.im] #[.int .i64 b.re, .int .i64 b.im] #[.int .i64 0, .int .i64 0] 30 30 30
  rw [← e1]; clear e1
  have c0 := k0.cell
  have c1 := k1.cell
  go_wp2_with fail
  rw [w_mul_re, w_mul_im]
  refine (number_any _ _ _).mono ?_
  rintro e w2 ⟨rfl, hb2⟩
  have hbw := below_next hb1 hb2
  have k3 := carryK k2 hb2
  have c3 := k3.cell
  have f3 := k3.frozen
  clear c0 c1
  go_wp2_with fail
  have kX := blk2 (u0 := .int .i64 (a.mul b).w.re) (u1 := .int .i64 (a.mul b).w.im) k3
  have hX := below2 (g := w.heap.size + 2) (u0 := .int .i64 (a.mul b).w.re) (u1 := .int .i64 (a.mul b).w.im) hbw (by omega)
  have cX := kX.cell
  clear c3 f3
  refine bodyPost_ret (v := .agg #[.int .i64 (a.mul b).w.re, .int .i64 (a.mul b).w.im]) (by simp [results, Tryd.results90, go_sem, cX]) rfl ?_
  exact ⟨rfl, hX⟩
theorem swing_any (d : Drv) (f : Int) (w : World) (hd : d.Ok) (h1 : 1 ≤ f) (h8 : f ≤ 8) :
    Calls Tryd.prog 88 #[.int .i64 d.st, .int .i64 d.ms, .int .i64 d.ls, .int .i64 f] w fun e w' => e = .returned (.agg #[.int .i64 (d.mech f).re, .int .i64 (d.mech f).im]) ∧ Below w.heap.size w w' := by
  have B := Drv.bd hd h1 h8
  have e1 : IntKind.i64.wrap (f * f) = f * f := IntWalk.i64_in _ (by have := B.ff; omega)
  have e2 : IntKind.i64.wrap (f * f * d.ms) = f * f * d.ms := IntWalk.i64_in _ (by have := B.fm; omega)
  have e3 : IntKind.i64.wrap (d.st - f * f * d.ms) = d.st - f * f * d.ms := IntWalk.i64_in _ (by have := B.fm; have := hd.st1; have := hd.st2; omega)
  have e4 : IntKind.i64.wrap (f * d.ls) = f * d.ls := IntWalk.i64_in _ (by have := B.fl; omega)
  clear B
  go_enter Tryd.func88, Tryd.ntmps88
  go_upto_region 1 with (fail)
  obtain ⟨w1, q1, hb1, hz1, k0⟩ := box1 w #[.int .i64 0, .int .i64 0] 30
  rw [← q1]; clear q1
  go_wp2_with fail
  refine (number_any (d.mech f).re (d.mech f).im _).mono ?_
  rintro e w2 ⟨rfl, hb2⟩
  have hbw := below_next hb1 hb2
  have k3 := carryK k0 hb2
  have c3 := k3.cell
  have f3 := k3.frozen
  have hg3 := Nat.le_refl w.heap.size
  clear e1 e2 e3 e4
  go_wp2_with fail
  have kX := blk2 (u0 := .int .i64 (d.mech f).re) (u1 := .int .i64 (d.mech f).im) k3
  have hX := below2 (u0 := .int .i64 (d.mech f).re) (u1 := .int .i64 (d.mech f).im) hbw hg3
  have cX := kX.cell
  clear c3 f3
  refine bodyPost_ret (v := .agg #[.int .i64 (d.mech f).re, .int .i64 (d.mech f).im]) (by simp [results, Tryd.results88, go_sem, cX]) rfl ?_
  exact ⟨rfl, hX⟩
theorem mechanics_any (d : Drv) (f : Int) (w : World) (hd : d.Ok) (h1 : 1 ≤ f) (h8 : f ≤ 8) :
    Calls Tryd.prog 75 #[.agg #[.int .i64 d.re, .int .i64 d.le, .int .i64 d.bl, .int .i64 d.ms, .int .i64 d.st, .int .i64 d.ls], .int .i64 f] w fun e w' => e = .returned (.agg #[.int .i64 (d.mech f).re, .int .i64 (d.mech f).im]) ∧ Below w.heap.size w w' := by
  go_enter Tryd.func75, Tryd.ntmps75
  go_upto_region 1 with (fail)
  obtain ⟨w1, q1, hb1, hz1, k0, k1⟩ := box2 w #[.int .i64 d.re, .int .i64 d.le, .int .i64 d.bl, .int .i64 d.ms, .int .i64 d.st, .int .i64 d.ls] #[.int .i64 0, .int .i64 0] 36 30
  rw [← q1]; clear q1
  have c0 := k0.cell
  go_wp2_with fail
  refine (swing_any d f _ hd h1 h8).mono ?_
  rintro e w2 ⟨rfl, hb2⟩
  have hbw := below_next hb1 hb2
  have k3 := carryK k1 hb2
  have c3 := k3.cell
  have f3 := k3.frozen
  have hg3 : w.heap.size ≤ w.heap.size + 1 := by omega
  clear c0
  go_wp2_with fail
  have kX := blk2 (u0 := .int .i64 (d.mech f).re) (u1 := .int .i64 (d.mech f).im) k3
  have hX := below2 (u0 := .int .i64 (d.mech f).re) (u1 := .int .i64 (d.mech f).im) hbw hg3
  have cX := kX.cell
  clear c3 f3
  refine bodyPost_ret (v := .agg #[.int .i64 (d.mech f).re, .int .i64 (d.mech f).im]) (by simp [results, Tryd.results75, go_sem, cX]) rfl ?_
  exact ⟨rfl, hX⟩
theorem num_w {d : Drv} (hd : d.Ok) {f : Int} (h1 : 1 ≤ f) (h8 : f ≤ 8) : (d.num f).w = d.num f := by
  have B := Drv.bd hd h1 h8
  have n1 : (⟨d.re, f * d.le⟩ : G).nrm ≤ 130 := by unfold G.nrm; have := B.fe; have := hd.re1; have := hd.re2; simp only; omega
  have n2 : (d.mech f).nrm ≤ 20000 := by unfold G.nrm Drv.mech; have := B.fm; have := B.fl; have := hd.st1; have := hd.st2; simp only; omega
  have n3 : (⟨0, f * d.bl * d.bl⟩ : G).nrm ≤ 3200 := by unfold G.nrm; have := B.fbb; simp only; omega
  have n4 : G.one.nrm = 1 := rfl
  have m1 := Nat.le_trans (G.nrm_mul ⟨d.re, f * d.le⟩ (d.mech f)) (Nat.mul_le_mul n1 n2)
  have m2 := Nat.le_trans (G.nrm_mul ⟨0, f * d.bl * d.bl⟩ .one) (Nat.mul_le_mul n3 (Nat.le_of_eq n4))
  have := G.nrm_add ((⟨d.re, f * d.le⟩ : G).mul (d.mech f)) ((⟨0, f * d.bl * d.bl⟩ : G).mul .one)
  exact G.w_in (by unfold Drv.num; omega)
set_option maxHeartbeats 1000000 in
theorem electric_any (d : Drv) (f : Int) (w : World) (hd : d.Ok) (h1 : 1 ≤ f) (h8 : f ≤ 8) :
    Calls Tryd.prog 91 #[.agg #[.int .i64 d.re, .int .i64 d.le, .int .i64 d.bl, .int .i64 d.ms, .int .i64 d.st, .int .i64 d.ls], .agg #[.int .i64 (d.mech f).re, .int .i64 (d.mech f).im], .agg #[.int .i64 1, .int .i64 0], .int .i64 f] w fun e w' => e = .returned (.agg #[.int .i64 (d.num f).re, .int .i64 (d.num f).im]) ∧ Below w.heap.size w w' := by
  have B := Drv.bd hd h1 h8
  have e1 : IntKind.i64.wrap (f * d.le) = f * d.le := IntWalk.i64_in _ (by have := B.fe; omega)
  have e2 : IntKind.i64.wrap (f * d.bl) = f * d.bl := IntWalk.i64_in _ (by have := B.fb; omega)
  have e3 : IntKind.i64.wrap (f * d.bl * d.bl) = f * d.bl * d.bl := IntWalk.i64_in _ (by have := B.fbb; omega)
  have en : (((⟨d.re, f * d.le⟩ : G).mul (d.mech f)).w.add ((⟨0, f * d.bl * d.bl⟩ : G).mul ⟨1, 0⟩).w).w = d.num f := by rw [G.w_add]; exact num_w hd h1 h8
  have EN := hide en
  clear B en
  go_enter Tryd.func91, Tryd.ntmps91
  go_upto_region 1 with (fail)
  obtain ⟨w1, q1, hb1, hz1, k0, k1, k2, k4⟩ := box4 w #[.int .i64 d.re, .int .i64 d.le, .int .i64 d.bl, .int .i64 d.ms, .int .i64 d.st, .int .i64 d.ls] #[.int .i64 (d.mech f).re, .int .i64 (d.mech f).im] #[.int .i64 1, .int .i64 0] #[.int .i64 0, .int .i64 0] 36 30 30 30
  rw [← q1]; clear q1
  have c0 := over_blk k0 k0.lt
  have c1 := over_blk k1 k1.lt
  have c2 := over_blk k2 k2.lt
  refine wp_region_part 20 w1.heap.size (by kernel_rfl) (by kernel_rfl) ?_; simp only [List.take_succ_cons, List.take_zero, List.drop_succ_cons, List.drop_zero]; (repeat (first | go_big_quiet_step (first | (go_at_call 61; exact over_call (Nat.le_refl _) (number_any _ _ _)) | (go_at_call 90; with_reducible first | exact over_call (Nat.le_refl _) (dtimes_any ⟨d.re, f * d.le⟩ (d.mech f) _) | exact over_call (Nat.le_refl _) (dtimes_any ⟨0, f * d.bl * d.bl⟩ ⟨1, 0⟩ _)) | (go_at_call 89; with_reducible exact over_call (Nat.le_refl _) (dplus_any ((⟨d.re, f * d.le⟩ : G).mul (d.mech f)).w ((⟨0, f * d.bl * d.bl⟩ : G).mul ⟨1, 0⟩).w _))) | quiet_step (first | (go_at_call 61; exact over_call (Nat.le_refl _) (number_any _ _ _)) | (go_at_call 90; with_reducible first | exact over_call (Nat.le_refl _) (dtimes_any ⟨d.re, f * d.le⟩ (d.mech f) _) | exact over_call (Nat.le_refl _) (dtimes_any ⟨0, f * d.bl * d.bl⟩ ⟨1, 0⟩ _)) | (go_at_call 89; with_reducible exact over_call (Nat.le_refl _) (dplus_any ((⟨d.re, f * d.le⟩ : G).mul (d.mech f)).w ((⟨0, f * d.bl * d.bl⟩ : G).mul ⟨1, 0⟩).w _))))); refine wpQuiet_nil ?_; rintro W ⟨x, rfl⟩
  have hbY := over_below w1.heap.size w1 x
  generalize over w1.heap.size w1 x = Y at hbY ⊢
  rw [EN.out]
  clear c0 c1 c2 e1 e2 e3
  have hbw := below_next hb1 hbY
  have k3 := carryK k4 hbY
  have c3 := k3.cell
  have f3 := k3.frozen
  have hg3 : w.heap.size ≤ w.heap.size + 3 := by omega
  go_wp2_with fail
  have kX := blk2 (u0 := .int .i64 (d.num f).re) (u1 := .int .i64 (d.num f).im) k3
  have hX := below2 (u0 := .int .i64 (d.num f).re) (u1 := .int .i64 (d.num f).im) hbw hg3
  have cX := kX.cell
  clear c3 f3
  refine bodyPost_ret (v := .agg #[.int .i64 (d.num f).re, .int .i64 (d.num f).im]) (by simp [results, Tryd.results91, go_sem, cX]) rfl ?_
  exact ⟨rfl, hX⟩
set_option maxHeartbeats 1000000 in
theorem numerator_any (d : Drv) (f : Int) (w : World) (hd : d.Ok) (h1 : 1 ≤ f) (h8 : f ≤ 8) :
    Calls Tryd.prog 74 #[.agg #[.int .i64 d.re, .int .i64 d.le, .int .i64 d.bl, .int .i64 d.ms, .int .i64 d.st, .int .i64 d.ls], .int .i64 f] w fun e w' => e = .returned (.agg #[.int .i64 (d.num f).re, .int .i64 (d.num f).im]) ∧ Below w.heap.size w w' := by
  go_enter Tryd.func74, Tryd.ntmps74
  go_upto_region 1 with (fail)
  obtain ⟨w1, q1, hb1, hz1, k0, k1⟩ := box2 w #[.int .i64 d.re, .int .i64 d.le, .int .i64 d.bl, .int .i64 d.ms, .int .i64 d.st, .int .i64 d.ls] #[.int .i64 0, .int .i64 0] 36 30
  rw [← q1]; clear q1
  have c0 := over_blk k0 k0.lt
  refine wp_region_part 7 w1.heap.size (by kernel_rfl) (by kernel_rfl) ?_; simp only [List.take_succ_cons, List.take_zero, List.drop_succ_cons, List.drop_zero]; (repeat (first | go_big_quiet_step (first | (go_at_call 61; exact over_call (Nat.le_refl _) (number_any _ _ _)) | (go_at_call 75; with_reducible exact over_call (Nat.le_refl _) (mechanics_any d f _ hd h1 h8)) | (go_at_call 91; with_reducible exact over_call (Nat.le_refl _) (electric_any d f _ hd h1 h8))) | quiet_step (first | (go_at_call 61; exact over_call (Nat.le_refl _) (number_any _ _ _)) | (go_at_call 75; with_reducible exact over_call (Nat.le_refl _) (mechanics_any d f _ hd h1 h8)) | (go_at_call 91; with_reducible exact over_call (Nat.le_refl _) (electric_any d f _ hd h1 h8))))); refine wpQuiet_nil ?_; rintro W ⟨x, rfl⟩
  have hbY := over_below w1.heap.size w1 x
  generalize over w1.heap.size w1 x = Y at hbY ⊢
  clear c0
  have hbw := below_next hb1 hbY
  have k3 := carryK k1 hbY
  have c3 := k3.cell
  have f3 := k3.frozen
  have hg3 : w.heap.size ≤ w.heap.size + 1 := by omega
  go_wp2_with fail
  have kX := blk2 (u0 := .int .i64 (d.num f).re) (u1 := .int .i64 (d.num f).im) k3
  have hX := below2 (u0 := .int .i64 (d.num f).re) (u1 := .int .i64 (d.num f).im) hbw hg3
  have cX := kX.cell
  clear c3 f3
  refine bodyPost_ret (v := .agg #[.int .i64 (d.num f).re, .int .i64 (d.num f).im]) (by simp [results, Tryd.results74, go_sem, cX]) rfl ?_
  exact ⟨rfl, hX⟩
set_option maxHeartbeats 1000000 in
theorem impedance_any (d : Drv) (f : Int) (w : World) (hd : d.Ok) (h1 : 1 ≤ f) (h8 : f ≤ 8) :
    Calls Tryd.prog 43 #[.agg #[.int .i64 d.re, .int .i64 d.le, .int .i64 d.bl, .int .i64 d.ms, .int .i64 d.st, .int .i64 d.ls], .int .i64 f] w fun e w' => e = .returned (.agg #[.int .i64 (⟨d.num f, d.mech f⟩ : Pr).n.re, .int .i64 (⟨d.num f, d.mech f⟩ : Pr).n.im, .int .i64 (⟨d.num f, d.mech f⟩ : Pr).d.re, .int .i64 (⟨d.num f, d.mech f⟩ : Pr).d.im]) ∧ Below w.heap.size w w' := by
  go_enter Tryd.func43, Tryd.ntmps43
  go_upto_region 1 with (fail)
  obtain ⟨w1, q1, hb1, hz1, k0, k1⟩ := box2 w #[.int .i64 d.re, .int .i64 d.le, .int .i64 d.bl, .int .i64 d.ms, .int .i64 d.st, .int .i64 d.ls] #[.int .i64 0, .int .i64 0, .int .i64 0, .int .i64 0] 36 32
  rw [← q1]; clear q1
  have c0 := over_blk k0 k0.lt
  refine wp_region_part 7 w1.heap.size (by kernel_rfl) (by kernel_rfl) ?_; simp only [List.take_succ_cons, List.take_zero, List.drop_succ_cons, List.drop_zero]; (repeat (first | go_big_quiet_step (first | (go_at_call 74; with_reducible exact over_call (Nat.le_refl _) (numerator_any d f _ hd h1 h8)) | (go_at_call 75; with_reducible exact over_call (Nat.le_refl _) (mechanics_any d f _ hd h1 h8))) | quiet_step (first | (go_at_call 74; with_reducible exact over_call (Nat.le_refl _) (numerator_any d f _ hd h1 h8)) | (go_at_call 75; with_reducible exact over_call (Nat.le_refl _) (mechanics_any d f _ hd h1 h8))))); refine wpQuiet_nil ?_; rintro W ⟨x, rfl⟩
  have hbY := over_below w1.heap.size w1 x
  generalize over w1.heap.size w1 x = Y at hbY ⊢
  clear c0
  have hbw := below_next hb1 hbY
  have k3 := carryK k1 hbY
  have c3 := k3.cell
  have f3 := k3.frozen
  go_wp2_with fail
  with_reducible refine fin4 (B := w.heap.size) (v := w) 32 hbw (by omega) k3 (fun X hX kX => ?_)
  have cX := kX.cell
  clear c3 f3
  refine bodyPost_ret (v := .agg #[.int .i64 (⟨d.num f, d.mech f⟩ : Pr).n.re, .int .i64 (⟨d.num f, d.mech f⟩ : Pr).n.im, .int .i64 (⟨d.num f, d.mech f⟩ : Pr).d.re, .int .i64 (⟨d.num f, d.mech f⟩ : Pr).d.im]) (by simp [results, Tryd.results43, go_sem, cX]) rfl ?_
  exact ⟨rfl, hX⟩
end Go.Proofs.YthlnmoecmicofaaDoor
