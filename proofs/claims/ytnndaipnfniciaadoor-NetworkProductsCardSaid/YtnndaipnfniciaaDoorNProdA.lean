/- Product of the program, for all matrices. -/
import Derived.Test.YtnndaipnfniciaaDoorNProdP
namespace Go.Proofs.YtnndaipnfniciaaDoor
open Go.RowKit Go.Shelf
set_option maxRecDepth 100000
/-- The product of matrices with small parts, in range. -/
theorem mul_sm {p q : Mat} (hp : smErr p.ents = 0) (hq : smErr q.ents = 0) : (p.mul q).w = p.mul q := by
  have key : ∀ {m : Mat}, smErr m.ents = 0 → m.In 120000 := fun {m} h => by
    have na := sm_ents h (z := m.a) (by simp [Mat.ents])
    have nb := sm_ents h (z := m.b) (by simp [Mat.ents])
    have nc := sm_ents h (z := m.c) (by simp [Mat.ents])
    have nd := sm_ents h (z := m.d) (by simp [Mat.ents])
    exact ⟨by omega, by omega⟩
  exact ((key hp).mul (key hq)).w (by decide)
set_option maxHeartbeats 2000000 in
theorem Product_sm (p q : Mat) (w : World) (hC : Con w) (hp : smErr p.ents = 0) (hq : smErr q.ents = 0) :
    Calls Tryd.prog 16 #[.agg #[.int .i64 p.a.re, .int .i64 p.a.im, .int .i64 p.b.re, .int .i64 p.b.im, .int .i64 p.c.re, .int .i64 p.c.im, .int .i64 p.d.re, .int .i64 p.d.im], .agg #[.int .i64 q.a.re, .int .i64 q.a.im, .int .i64 q.b.re, .int .i64 q.b.im, .int .i64 q.c.re, .int .i64 q.c.im, .int .i64 q.d.re, .int .i64 q.d.im]] w fun e w' => e = .returned (.tuple #[.agg #[.int .i64 (p.mul q).a.re, .int .i64 (p.mul q).a.im, .int .i64 (p.mul q).b.re, .int .i64 (p.mul q).b.im, .int .i64 (p.mul q).c.re, .int .i64 (p.mul q).c.im, .int .i64 (p.mul q).d.re, .int .i64 (p.mul q).d.im], .int .i64 0]) ∧ Below w.heap.size w w' := by
  have HP := hide hp
  have HQ := hide hq
  have HM := hide (mul_sm hp hq)
  have HE := hide (show fnz [0, 0] = 0 from rfl)
  clear hp hq
  by_cases he : p = .id
  · have qE : ∀ W, (binOp .eql 36 (.agg #[.int .i64 p.a.re, .int .i64 p.a.im, .int .i64 p.b.re, .int .i64 p.b.im, .int .i64 p.c.re, .int .i64 p.c.im, .int .i64 p.d.re, .int .i64 p.d.im]) (.agg #[.int .i64 1, .int .i64 0, .int .i64 0, .int .i64 0, .int .i64 0, .int .i64 0, .int .i64 1, .int .i64 0])).run Tryd.prog W = .ok (.bool true) W := fun W => eqMaB p .id true (by simp [he]) W
    have HR := hide (show p.mul q = q by rw [he, Mat.id_mul])
    clear he
    go_enter Tryd.func16, Tryd.ntmps16
    go_upto_region 1 with (fail)
    obtain ⟨w1, e1, hb1, hz1, k0, k1, k2⟩ := box3 w #[.int .i64 p.a.re, .int .i64 p.a.im, .int .i64 p.b.re, .int .i64 p.b.im, .int .i64 p.c.re, .int .i64 p.c.im, .int .i64 p.d.re, .int .i64 p.d.im] #[.int .i64 q.a.re, .int .i64 q.a.im, .int .i64 q.b.re, .int .i64 q.b.im, .int .i64 q.c.re, .int .i64 q.c.im, .int .i64 q.d.re, .int .i64 q.d.im] #[.int .i64 0, .int .i64 0, .int .i64 0, .int .i64 0, .int .i64 0, .int .i64 0, .int .i64 0, .int .i64 0] 36 36 36
    rw [← e1]; clear e1
    have R0 := fun x => carry (blkM k0) (over_below w1.heap.size w1 x)
    have R1 := fun x => carry (blkM k1) (over_below w1.heap.size w1 x)
    refine wp_region_part 4 w1.heap.size (by kernel_rfl) (by kernel_rfl) ?_; simp only [List.take_succ_cons, List.take_zero, List.drop_succ_cons, List.drop_zero]; (repeat (first | go_big_quiet_step ((go_at_call 48; first | with_reducible exact over_call (Nat.le_refl _) (checkSmall_any p.ents _ 4 _ _ (R0 _) (by omega)) | with_reducible exact over_call (Nat.le_refl _) (checkSmall_any q.ents _ 4 _ _ (R1 _) (by omega)))) | quiet_step ((go_at_call 48; first | with_reducible exact over_call (Nat.le_refl _) (checkSmall_any p.ents _ 4 _ _ (R0 _) (by omega)) | with_reducible exact over_call (Nat.le_refl _) (checkSmall_any q.ents _ 4 _ _ (R1 _) (by omega)))))); refine wpQuiet_nil ?_; rintro W ⟨x, rfl⟩
    have hbY := over_below w1.heap.size w1 x
    generalize over w1.heap.size w1 x = Y at hbY ⊢
    clear R0 R1
    rw [HP.out, HQ.out]
    go_upto_region 2 with ((go_at_call 38; (first | (with_reducible (refine (first_any _ _ _ _ _ _ (reads2 _ _ _ _) (by omega)).mono ?_)) | (with_reducible (refine (first_any _ _ _ _ _ _ (Reads.drew (reads2 _ _ _ _)) (by omega)).mono ?_))); rintro e W' ⟨rfl, rfl⟩))
    obtain ⟨w2, e2, hb2, hz2, _⟩ := box1 Y #[.int .i64 0, .int .i64 0] 27
    rw [← e2]; clear e2
    rw [HE.out]
    go_upto_region 4 with (fail)
    obtain ⟨_, n0, n1, _, o0, o1⟩ := hC.carry (w' := w2) (by repeat (first | with_reducible assumption | exact Below.refl _ _ | refine below_next (by with_reducible assumption) ?_))
    have kP := carryK (w' := w2) k0 (by repeat (first | with_reducible assumption | exact Below.refl _ _ | refine below_next (by with_reducible assumption) ?_))
    have kQ := carryK (w' := w2) k1 (by repeat (first | with_reducible assumption | exact Below.refl _ _ | refine below_next (by with_reducible assumption) ?_))
    have kR := carryK (w' := w2) k2 (by repeat (first | with_reducible assumption | exact Below.refl _ _ | refine below_next (by with_reducible assumption) ?_))
    have c0 := kP.cell
    have c1 := kQ.cell
    have c2 := kR.cell
    have f2 := kR.frozen
    have hbw2 : Below w.heap.size w w2 := (by repeat (first | with_reducible assumption | exact Below.refl _ _ | refine below_next (by with_reducible assumption) ?_))
    go_wp2_with fail
    with_reducible refine fin8 (B := w.heap.size) (v := w) 36 hbw2 (by omega) kR (fun X hX kX => ?_)
    have cX := kX.cell
    clear c0 c1 c2 f2 n0 n1 o0 o1
    refine bodyPost_ret (v := .tuple #[.agg #[.int .i64 q.a.re, .int .i64 q.a.im, .int .i64 q.b.re, .int .i64 q.b.im, .int .i64 q.c.re, .int .i64 q.c.im, .int .i64 q.d.re, .int .i64 q.d.im], .int .i64 0]) (by simp [results, Tryd.results16, go_sem, cX]) rfl ?_
    exact ⟨by rw [HR.out], hX⟩
  · have qE : ∀ W, (binOp .eql 36 (.agg #[.int .i64 p.a.re, .int .i64 p.a.im, .int .i64 p.b.re, .int .i64 p.b.im, .int .i64 p.c.re, .int .i64 p.c.im, .int .i64 p.d.re, .int .i64 p.d.im]) (.agg #[.int .i64 1, .int .i64 0, .int .i64 0, .int .i64 0, .int .i64 0, .int .i64 0, .int .i64 1, .int .i64 0])).run Tryd.prog W = .ok (.bool false) W := fun W => eqMaB p .id false (by simp [he]) W
    clear he
    go_enter Tryd.func16, Tryd.ntmps16
    go_upto_region 1 with (fail)
    obtain ⟨w1, e1, hb1, hz1, k0, k1, k2⟩ := box3 w #[.int .i64 p.a.re, .int .i64 p.a.im, .int .i64 p.b.re, .int .i64 p.b.im, .int .i64 p.c.re, .int .i64 p.c.im, .int .i64 p.d.re, .int .i64 p.d.im] #[.int .i64 q.a.re, .int .i64 q.a.im, .int .i64 q.b.re, .int .i64 q.b.im, .int .i64 q.c.re, .int .i64 q.c.im, .int .i64 q.d.re, .int .i64 q.d.im] #[.int .i64 0, .int .i64 0, .int .i64 0, .int .i64 0, .int .i64 0, .int .i64 0, .int .i64 0, .int .i64 0] 36 36 36
    rw [← e1]; clear e1
    have R0 := fun x => carry (blkM k0) (over_below w1.heap.size w1 x)
    have R1 := fun x => carry (blkM k1) (over_below w1.heap.size w1 x)
    refine wp_region_part 4 w1.heap.size (by kernel_rfl) (by kernel_rfl) ?_; simp only [List.take_succ_cons, List.take_zero, List.drop_succ_cons, List.drop_zero]; (repeat (first | go_big_quiet_step ((go_at_call 48; first | with_reducible exact over_call (Nat.le_refl _) (checkSmall_any p.ents _ 4 _ _ (R0 _) (by omega)) | with_reducible exact over_call (Nat.le_refl _) (checkSmall_any q.ents _ 4 _ _ (R1 _) (by omega)))) | quiet_step ((go_at_call 48; first | with_reducible exact over_call (Nat.le_refl _) (checkSmall_any p.ents _ 4 _ _ (R0 _) (by omega)) | with_reducible exact over_call (Nat.le_refl _) (checkSmall_any q.ents _ 4 _ _ (R1 _) (by omega)))))); refine wpQuiet_nil ?_; rintro W ⟨x, rfl⟩
    have hbY := over_below w1.heap.size w1 x
    generalize over w1.heap.size w1 x = Y at hbY ⊢
    clear R0 R1
    rw [HP.out, HQ.out]
    go_upto_region 2 with ((go_at_call 38; (first | (with_reducible (refine (first_any _ _ _ _ _ _ (reads2 _ _ _ _) (by omega)).mono ?_)) | (with_reducible (refine (first_any _ _ _ _ _ _ (Reads.drew (reads2 _ _ _ _)) (by omega)).mono ?_))); rintro e W' ⟨rfl, rfl⟩))
    obtain ⟨w2, e2, hb2, hz2, _⟩ := box1 Y #[.int .i64 0, .int .i64 0] 27
    rw [← e2]; clear e2
    rw [HE.out]
    go_upto_region 4 with (fail)
    obtain ⟨_, n0, n1, _, o0, o1⟩ := hC.carry (w' := w2) (by repeat (first | with_reducible assumption | exact Below.refl _ _ | refine below_next (by with_reducible assumption) ?_))
    have kP := carryK (w' := w2) k0 (by repeat (first | with_reducible assumption | exact Below.refl _ _ | refine below_next (by with_reducible assumption) ?_))
    have kQ := carryK (w' := w2) k1 (by repeat (first | with_reducible assumption | exact Below.refl _ _ | refine below_next (by with_reducible assumption) ?_))
    have kR := carryK (w' := w2) k2 (by repeat (first | with_reducible assumption | exact Below.refl _ _ | refine below_next (by with_reducible assumption) ?_))
    have c0 := kP.cell
    have c1 := kQ.cell
    have c2 := kR.cell
    have f2 := kR.frozen
    have hbw2 : Below w.heap.size w w2 := (by repeat (first | with_reducible assumption | exact Below.refl _ _ | refine below_next (by with_reducible assumption) ?_))
    go_wp2_with fail
    refine (product_any p q _).mono ?_
    rintro e w3 ⟨rfl, hb3⟩
    rw [HM.out]
    obtain ⟨r, hr⟩ : ∃ r, p.mul q = r := ⟨_, rfl⟩
    have HR := hide hr
    rw [hr]
    clear hr HM
    clear c0 c1 c2 f2 n0 n1 o0 o1
    have kR := carryK (w' := w3) kR hb3
    have c2 := kR.cell
    have f2 := kR.frozen
    go_wp2_with fail
    with_reducible refine fin8 (B := w.heap.size) (v := w) 36 (below_next hbw2 hb3) (by omega) kR (fun X hX kX => ?_)
    have cX := kX.cell
    clear c2 f2
    refine bodyPost_ret (v := .tuple #[.agg #[.int .i64 r.a.re, .int .i64 r.a.im, .int .i64 r.b.re, .int .i64 r.b.im, .int .i64 r.c.re, .int .i64 r.c.im, .int .i64 r.d.re, .int .i64 r.d.im], .int .i64 0]) (by simp [results, Tryd.results16, go_sem, cX]) rfl ?_
    exact ⟨by rw [HR.out], hX⟩
set_option maxHeartbeats 2000000 in
theorem Product_bad (p q : Mat) (E : Int) (w : World) (hE : fnz [smErr p.ents, smErr q.ents] = E) (h0 : ¬ E = 0) :
    Calls Tryd.prog 16 #[.agg #[.int .i64 p.a.re, .int .i64 p.a.im, .int .i64 p.b.re, .int .i64 p.b.im, .int .i64 p.c.re, .int .i64 p.c.im, .int .i64 p.d.re, .int .i64 p.d.im], .agg #[.int .i64 q.a.re, .int .i64 q.a.im, .int .i64 q.b.re, .int .i64 q.b.im, .int .i64 q.c.re, .int .i64 q.c.im, .int .i64 q.d.re, .int .i64 q.d.im]] w fun e w' => e = .returned (.tuple #[.agg #[.int .i64 0, .int .i64 0, .int .i64 0, .int .i64 0, .int .i64 0, .int .i64 0, .int .i64 0, .int .i64 0], .int .i64 E]) ∧ Below w.heap.size w w' := by
  have t0 : (E != 0) = true := by simpa using h0
  obtain ⟨E1, h1⟩ : ∃ E1, smErr p.ents = E1 := ⟨_, rfl⟩
  obtain ⟨E2, h2⟩ : ∃ E2, smErr q.ents = E2 := ⟨_, rfl⟩
  rw [h1, h2] at hE
  have HP := hide h1
  have HQ := hide h2
  have HE := hide hE
  clear h0 h1 h2 hE
  go_enter Tryd.func16, Tryd.ntmps16
  go_upto_region 1 with (fail)
  obtain ⟨w1, e1, hb1, hz1, k0, k1, k2⟩ := box3 w #[.int .i64 p.a.re, .int .i64 p.a.im, .int .i64 p.b.re, .int .i64 p.b.im, .int .i64 p.c.re, .int .i64 p.c.im, .int .i64 p.d.re, .int .i64 p.d.im] #[.int .i64 q.a.re, .int .i64 q.a.im, .int .i64 q.b.re, .int .i64 q.b.im, .int .i64 q.c.re, .int .i64 q.c.im, .int .i64 q.d.re, .int .i64 q.d.im] #[.int .i64 0, .int .i64 0, .int .i64 0, .int .i64 0, .int .i64 0, .int .i64 0, .int .i64 0, .int .i64 0] 36 36 36
  rw [← e1]; clear e1
  have R0 := fun x => carry (blkM k0) (over_below w1.heap.size w1 x)
  have R1 := fun x => carry (blkM k1) (over_below w1.heap.size w1 x)
  refine wp_region_part 4 w1.heap.size (by kernel_rfl) (by kernel_rfl) ?_; simp only [List.take_succ_cons, List.take_zero, List.drop_succ_cons, List.drop_zero]; (repeat (first | go_big_quiet_step ((go_at_call 48; first | with_reducible exact over_call (Nat.le_refl _) (checkSmall_any p.ents _ 4 _ _ (R0 _) (by omega)) | with_reducible exact over_call (Nat.le_refl _) (checkSmall_any q.ents _ 4 _ _ (R1 _) (by omega)))) | quiet_step ((go_at_call 48; first | with_reducible exact over_call (Nat.le_refl _) (checkSmall_any p.ents _ 4 _ _ (R0 _) (by omega)) | with_reducible exact over_call (Nat.le_refl _) (checkSmall_any q.ents _ 4 _ _ (R1 _) (by omega)))))); refine wpQuiet_nil ?_; rintro W ⟨x, rfl⟩
  have hbY := over_below w1.heap.size w1 x
  generalize over w1.heap.size w1 x = Y at hbY ⊢
  clear R0 R1
  rw [HP.out, HQ.out]
  go_upto_region 2 with ((go_at_call 38; (first | (with_reducible (refine (first_any _ _ _ _ _ _ (reads2 _ _ _ _) (by omega)).mono ?_)) | (with_reducible (refine (first_any _ _ _ _ _ _ (Reads.drew (reads2 _ _ _ _)) (by omega)).mono ?_))); rintro e W' ⟨rfl, rfl⟩))
  obtain ⟨w2, e2, hb2, hz2, _⟩ := box1 Y #[.int .i64 E1, .int .i64 E2] 27
  rw [← e2]; clear e2
  rw [HE.out]
  have kR := carryK (w' := w2) k2 (by repeat (first | with_reducible assumption | exact Below.refl _ _ | refine below_next (by with_reducible assumption) ?_))
  have c2 := kR.cell
  have f2 := kR.frozen
  have hbw2 : Below w.heap.size w w2 := (by repeat (first | with_reducible assumption | exact Below.refl _ _ | refine below_next (by with_reducible assumption) ?_))
  go_wp2_with fail
  with_reducible refine fin8 (B := w.heap.size) (v := w) 36 hbw2 (by omega) kR (fun X hX kX => ?_)
  have cX := kX.cell
  clear c2 f2
  refine bodyPost_ret (v := .tuple #[.agg #[.int .i64 0, .int .i64 0, .int .i64 0, .int .i64 0, .int .i64 0, .int .i64 0, .int .i64 0, .int .i64 0], .int .i64 E]) (by simp [results, Tryd.results16, go_sem, cX]) rfl ?_
  exact ⟨rfl, hX⟩
end Go.Proofs.YtnndaipnfniciaaDoor
