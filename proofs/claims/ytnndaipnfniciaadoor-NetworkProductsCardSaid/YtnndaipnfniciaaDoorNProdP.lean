/- Product of the program, in range; the law's helper copied. -/
import Derived.Test.YtnndaipnfniciaaDoorNProdF
import Derived.Test.YtnndaipnfniciaaDoorNEqs
import Derived.Test.YtnndaipnfniciaaDoorNJoin
namespace Go.Proofs.YtnndaipnfniciaaDoor
open Go.RowKit Go.Shelf
set_option maxRecDepth 100000
theorem gEqD (a b : G) (w : World) : (Op.equalIn 9999 34 (.agg #[.int .i64 a.re, .int .i64 a.im]) (.agg #[.int .i64 b.re, .int .i64 b.im])).run Tryd.prog w = .ok (decide (a = b)) w := by
  have hd : decide (a = b) = (decide (a.re = b.re) && decide (a.im = b.im)) := by
    rw [Bool.eq_iff_iff]; simp only [decide_eq_true_eq, Bool.and_eq_true]
    exact ⟨fun h => by rw [h]; exact ⟨rfl, rfl⟩, fun h => G.ext' h.1 h.2⟩
  rw [hd, show (9999 : Nat) = 9998 + 1 from rfl, run_equalIn_struct w 9998 34 _ _ (by kernel_rfl) (by kernel_rfl)]
  by_cases h1 : a.re = b.re <;> by_cases h2 : a.im = b.im <;> simp [Program.fieldsOf, Tryd.underlying34, Op.eqFields, go_sem, run_equalIn_int _ _ _ _ _ _ _ Tryd.underlying3, h1, h2]
theorem eqMaB (p q : Mat) (b : Bool) (hb : (p = q) ↔ b = true) (w : World) : (binOp .eql 36 (.agg #[.int .i64 p.a.re, .int .i64 p.a.im, .int .i64 p.b.re, .int .i64 p.b.im, .int .i64 p.c.re, .int .i64 p.c.im, .int .i64 p.d.re, .int .i64 p.d.im]) (.agg #[.int .i64 q.a.re, .int .i64 q.a.im, .int .i64 q.b.re, .int .i64 q.b.im, .int .i64 q.c.re, .int .i64 q.c.im, .int .i64 q.d.re, .int .i64 q.d.im])).run Tryd.prog w = .ok (.bool b) w := by
  have hd : b = (decide (p.a = q.a) && (decide (p.b = q.b) && (decide (p.c = q.c) && decide (p.d = q.d)))) := by
    rw [Bool.eq_iff_iff, ← hb]; simp only [decide_eq_true_eq, Bool.and_eq_true]
    exact ⟨fun h => by rw [h]; exact ⟨rfl, rfl, rfl, rfl⟩, fun h => Mat.ext' h.1 h.2.1 h.2.2.1 h.2.2.2⟩
  have hh : (Op.equalIn 10000 36 (.agg #[.int .i64 p.a.re, .int .i64 p.a.im, .int .i64 p.b.re, .int .i64 p.b.im, .int .i64 p.c.re, .int .i64 p.c.im, .int .i64 p.d.re, .int .i64 p.d.im]) (.agg #[.int .i64 q.a.re, .int .i64 q.a.im, .int .i64 q.b.re, .int .i64 q.b.im, .int .i64 q.c.re, .int .i64 q.c.im, .int .i64 q.d.re, .int .i64 q.d.im])).run Tryd.prog w = .ok b w := by
    obtain ⟨i, hi⟩ := info_gauss
    have c2 : Tryd.prog.cellsOf 34 = 2 := by kernel_rfl
    rw [hd, show (10000 : Nat) = 9999 + 1 from rfl, run_equalIn_array w 9999 _ _ Tryd.underlying36 hi, c2]
    simp only [show List.range 4 = [0, 1, 2, 3] from rfl, Op.eqItems, go_sem]
    by_cases h1 : p.a = q.a <;> by_cases h2 : p.b = q.b <;> by_cases h3 : p.c = q.c <;> by_cases h4 : p.d = q.d <;> simp [go_sem, gEqD, h1, h2, h3, h4]
  simp only [binOp, Op.equal, Op.maxDepth]
  simp [hh, go_sem]
theorem sm_in {m : Mat} {n : Nat} (h : m.In n) (hn : n ≤ 30000) : smErr m.ents = 0 := by
  unfold smErr
  rw [fnz_zero]
  intro e he
  obtain ⟨z, hz, rfl⟩ := List.mem_map.1 he
  have hzn : z.nrm ≤ 30000 := by
    have h1 := h.1; have h2 := h.2
    simp [Mat.ents] at hz
    rcases hz with rfl | rfl | rfl | rfl <;> omega
  have := G.nrm_le hzn
  unfold smE
  rw [fnz_zero]
  simp only [List.mem_cons, List.not_mem_nil, or_false, forall_eq_or_imp, forall_eq]
  exact ⟨rng_zero.2 (by omega), rng_zero.2 (by omega)⟩
set_option maxHeartbeats 2000000 in
theorem Product_ok (p q : Mat) (w : World) (hC : Con w) (hp : p.In 30000) (hq : q.In 30000) :
    Calls Tryd.prog 16 #[.agg #[.int .i64 p.a.re, .int .i64 p.a.im, .int .i64 p.b.re, .int .i64 p.b.im, .int .i64 p.c.re, .int .i64 p.c.im, .int .i64 p.d.re, .int .i64 p.d.im], .agg #[.int .i64 q.a.re, .int .i64 q.a.im, .int .i64 q.b.re, .int .i64 q.b.im, .int .i64 q.c.re, .int .i64 q.c.im, .int .i64 q.d.re, .int .i64 q.d.im]] w fun e w' => e = .returned (.tuple #[.agg #[.int .i64 (p.mul q).a.re, .int .i64 (p.mul q).a.im, .int .i64 (p.mul q).b.re, .int .i64 (p.mul q).b.im, .int .i64 (p.mul q).c.re, .int .i64 (p.mul q).c.im, .int .i64 (p.mul q).d.re, .int .i64 (p.mul q).d.im], .int .i64 0]) ∧ Below w.heap.size w w' := by
  have HP := hide (sm_in hp (Nat.le_refl _))
  have HQ := hide (sm_in hq (Nat.le_refl _))
  have HM := hide ((hp.mul hq).w (by decide))
  clear hp hq
  by_cases he : p = .id
  · have qE : ∀ W, (binOp .eql 36 (.agg #[.int .i64 p.a.re, .int .i64 p.a.im, .int .i64 p.b.re, .int .i64 p.b.im, .int .i64 p.c.re, .int .i64 p.c.im, .int .i64 p.d.re, .int .i64 p.d.im]) (.agg #[.int .i64 1, .int .i64 0, .int .i64 0, .int .i64 0, .int .i64 0, .int .i64 0, .int .i64 1, .int .i64 0])).run Tryd.prog W = .ok (.bool true) W := fun W => eqMaB p .id true (by simp [he]) W
    have HR := hide (show p.mul q = q by rw [he, Mat.id_mul])
    clear he
    go_enter Tryd.func16, Tryd.ntmps16
    go_upto_region 1 with (fail)
    obtain ⟨w1, e1, hb1, hz1, k0, k1, k2⟩ := box3 w #[.int .i64 p.a.re, .int .i64 p.a.im, .int .i64 p.b.re, .int .i64 p.b.im, .int .i64 p.c.re, .int .i64 p.c.im, .int .i64 p.d.re, .int .i64 p.d.im] #[.int .i64 q.a.re, .int .i64 q.a.im, .int .i64 q.b.re, .int .i64 q.b.im, .int .i64 q.c.re, .int .i64 q.c.im, .int .i64 q.d.re, .int .i64 q.d.im] #[.int .i64 0, .int .i64 0, .int .i64 0, .int .i64 0, .int .i64 0, .int .i64 0, .int .i64 0, .int .i64 0] 36 36 36
    rw [← e1]; clear e1
    have R0 := fun x => carry (blkM k0) (over_below w1.heap.size w1 x)
    have R1 := fun x => carry (blkM k1) (over_below w1.heap.size w1 x)
    refine wp_region_part 4 w1.heap.size (by kernel_rfl) (by kernel_rfl) ?_; simp only [List.take_succ_cons, List.take_zero, List.drop_succ_cons, List.drop_zero]; (repeat (first | go_big_quiet_step ((go_at_call 48; first | with_reducible exact over_call (Nat.le_refl _) (checkSmall_any p.ents _ 4 _ _ (R0 _) (by omega)) | with_reducible exact over_call (Nat.le_refl _) (checkSmall_any q.ents _ 4 _ _ (R1 _) (by omega)))) | quiet_step ((go_at_call 48; first | with_reducible exact over_call (Nat.le_refl _) (checkSmall_any p.ents _ 4 _ _ (R0 _) (by omega)) | with_reducible exact over_call (Nat.le_refl _) (checkSmall_any q.ents _ 4 _ _ (R1 _) (by omega)))))); refine wpQuiet_nil ?_; rintro W ⟨x, rfl⟩
    have hbY := over_below w1.heap.size w1 x
    generalize over w1.heap.size w1 x = Y at hbY ⊢
    clear R0 R1
    rw [HP.out, HQ.out]
    go_upto_region 2 with ((go_at_call 38; (first | (with_reducible (refine (first_any _ _ _ _ _ _ (reads2 _ _ _ _) (by omega)).mono ?_)) | (with_reducible (refine (first_any _ _ _ _ _ _ (Reads.drew (reads2 _ _ _ _)) (by omega)).mono ?_))); rintro e W' ⟨rfl, rfl⟩))
    obtain ⟨w2, e2, hb2, hz2, _⟩ := box1 Y #[.int .i64 0, .int .i64 0] 27
    rw [← e2]; clear e2
    rw [show fnz [0, 0] = 0 from rfl]
    go_upto_region 4 with (fail)
    obtain ⟨_, n0, n1, _, o0, o1⟩ := hC.carry (w' := w2) (by repeat (first | with_reducible assumption | exact Below.refl _ _ | refine below_next (by with_reducible assumption) ?_))
    have kP := carryK (w' := w2) k0 (by repeat (first | with_reducible assumption | exact Below.refl _ _ | refine below_next (by with_reducible assumption) ?_))
    have kQ := carryK (w' := w2) k1 (by repeat (first | with_reducible assumption | exact Below.refl _ _ | refine below_next (by with_reducible assumption) ?_))
    have kR := carryK (w' := w2) k2 (by repeat (first | with_reducible assumption | exact Below.refl _ _ | refine below_next (by with_reducible assumption) ?_))
    have c0 := kP.cell
    have c1 := kQ.cell
    have c2 := kR.cell
    have f2 := kR.frozen
    have hbw2 : Below w.heap.size w w2 := (by repeat (first | with_reducible assumption | exact Below.refl _ _ | refine below_next (by with_reducible assumption) ?_))
    go_wp2_with fail
    with_reducible refine fin8 (B := w.heap.size) (v := w) 36 hbw2 (by omega) kR (fun X hX kX => ?_)
    have cX := kX.cell
    clear c0 c1 c2 f2 n0 n1 o0 o1
    refine bodyPost_ret (v := .tuple #[.agg #[.int .i64 q.a.re, .int .i64 q.a.im, .int .i64 q.b.re, .int .i64 q.b.im, .int .i64 q.c.re, .int .i64 q.c.im, .int .i64 q.d.re, .int .i64 q.d.im], .int .i64 0]) (by simp [results, Tryd.results16, go_sem, cX]) rfl ?_
    exact ⟨by rw [HR.out], hX⟩
  · have qE : ∀ W, (binOp .eql 36 (.agg #[.int .i64 p.a.re, .int .i64 p.a.im, .int .i64 p.b.re, .int .i64 p.b.im, .int .i64 p.c.re, .int .i64 p.c.im, .int .i64 p.d.re, .int .i64 p.d.im]) (.agg #[.int .i64 1, .int .i64 0, .int .i64 0, .int .i64 0, .int .i64 0, .int .i64 0, .int .i64 1, .int .i64 0])).run Tryd.prog W = .ok (.bool false) W := fun W => eqMaB p .id false (by simp [he]) W
    clear he
    go_enter Tryd.func16, Tryd.ntmps16
    go_upto_region 1 with (fail)
    obtain ⟨w1, e1, hb1, hz1, k0, k1, k2⟩ := box3 w #[.int .i64 p.a.re, .int .i64 p.a.im, .int .i64 p.b.re, .int .i64 p.b.im, .int .i64 p.c.re, .int .i64 p.c.im, .int .i64 p.d.re, .int .i64 p.d.im] #[.int .i64 q.a.re, .int .i64 q.a.im, .int .i64 q.b.re, .int .i64 q.b.im, .int .i64 q.c.re, .int .i64 q.c.im, .int .i64 q.d.re, .int .i64 q.d.im] #[.int .i64 0, .int .i64 0, .int .i64 0, .int .i64 0, .int .i64 0, .int .i64 0, .int .i64 0, .int .i64 0] 36 36 36
    rw [← e1]; clear e1
    have R0 := fun x => carry (blkM k0) (over_below w1.heap.size w1 x)
    have R1 := fun x => carry (blkM k1) (over_below w1.heap.size w1 x)
    refine wp_region_part 4 w1.heap.size (by kernel_rfl) (by kernel_rfl) ?_; simp only [List.take_succ_cons, List.take_zero, List.drop_succ_cons, List.drop_zero]; (repeat (first | go_big_quiet_step ((go_at_call 48; first | with_reducible exact over_call (Nat.le_refl _) (checkSmall_any p.ents _ 4 _ _ (R0 _) (by omega)) | with_reducible exact over_call (Nat.le_refl _) (checkSmall_any q.ents _ 4 _ _ (R1 _) (by omega)))) | quiet_step ((go_at_call 48; first | with_reducible exact over_call (Nat.le_refl _) (checkSmall_any p.ents _ 4 _ _ (R0 _) (by omega)) | with_reducible exact over_call (Nat.le_refl _) (checkSmall_any q.ents _ 4 _ _ (R1 _) (by omega)))))); refine wpQuiet_nil ?_; rintro W ⟨x, rfl⟩
    have hbY := over_below w1.heap.size w1 x
    generalize over w1.heap.size w1 x = Y at hbY ⊢
    clear R0 R1
    rw [HP.out, HQ.out]
    go_upto_region 2 with ((go_at_call 38; (first | (with_reducible (refine (first_any _ _ _ _ _ _ (reads2 _ _ _ _) (by omega)).mono ?_)) | (with_reducible (refine (first_any _ _ _ _ _ _ (Reads.drew (reads2 _ _ _ _)) (by omega)).mono ?_))); rintro e W' ⟨rfl, rfl⟩))
    obtain ⟨w2, e2, hb2, hz2, _⟩ := box1 Y #[.int .i64 0, .int .i64 0] 27
    rw [← e2]; clear e2
    rw [show fnz [0, 0] = 0 from rfl]
    go_upto_region 4 with (fail)
    obtain ⟨_, n0, n1, _, o0, o1⟩ := hC.carry (w' := w2) (by repeat (first | with_reducible assumption | exact Below.refl _ _ | refine below_next (by with_reducible assumption) ?_))
    have kP := carryK (w' := w2) k0 (by repeat (first | with_reducible assumption | exact Below.refl _ _ | refine below_next (by with_reducible assumption) ?_))
    have kQ := carryK (w' := w2) k1 (by repeat (first | with_reducible assumption | exact Below.refl _ _ | refine below_next (by with_reducible assumption) ?_))
    have kR := carryK (w' := w2) k2 (by repeat (first | with_reducible assumption | exact Below.refl _ _ | refine below_next (by with_reducible assumption) ?_))
    have c0 := kP.cell
    have c1 := kQ.cell
    have c2 := kR.cell
    have f2 := kR.frozen
    have hbw2 : Below w.heap.size w w2 := (by repeat (first | with_reducible assumption | exact Below.refl _ _ | refine below_next (by with_reducible assumption) ?_))
    go_wp2_with fail
    refine (product_any p q _).mono ?_
    rintro e w3 ⟨rfl, hb3⟩
    rw [HM.out]
    obtain ⟨r, hr⟩ : ∃ r, p.mul q = r := ⟨_, rfl⟩
    have HR := hide hr
    rw [hr]
    clear hr HM
    clear c0 c1 c2 f2 n0 n1 o0 o1
    have kR := carryK (w' := w3) kR hb3
    have c2 := kR.cell
    have f2 := kR.frozen
    go_wp2_with fail
    with_reducible refine fin8 (B := w.heap.size) (v := w) 36 (below_next hbw2 hb3) (by omega) kR (fun X hX kX => ?_)
    have cX := kX.cell
    clear c2 f2
    refine bodyPost_ret (v := .tuple #[.agg #[.int .i64 r.a.re, .int .i64 r.a.im, .int .i64 r.b.re, .int .i64 r.b.im, .int .i64 r.c.re, .int .i64 r.c.im, .int .i64 r.d.re, .int .i64 r.d.im], .int .i64 0]) (by simp [results, Tryd.results16, go_sem, cX]) rfl ?_
    exact ⟨by rw [HR.out], hX⟩
end Go.Proofs.YtnndaipnfniciaaDoor
