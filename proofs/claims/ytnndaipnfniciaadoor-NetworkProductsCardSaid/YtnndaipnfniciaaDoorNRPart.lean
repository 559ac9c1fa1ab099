/- The reference's checkPart, CheckMatrix, Determinant. -/
import Derived.Test.YtnndaipnfniciaaDoorNProdF
import Derived.Test.YtnndaipnfniciaaDoorBaseR
namespace Go.Proofs.YtnndaipnfniciaaDoor
open Go.RowKit Go.Shelf
set_option maxRecDepth 100000
set_option maxHeartbeats 1000000 in
theorem rCheckPart_any (z : G) (w : World) :
    Calls Tryd.prog 50 #[.agg #[.int .i64 z.re, .int .i64 z.im]] w fun e w' => e = .returned (.int .i64 (smE z)) ∧ Below w.heap.size w w' := by
  obtain ⟨E, hE⟩ : ∃ E, fnz [rng z.re (-30000) 30000, rng z.im (-30000) 30000] = E := ⟨_, rfl⟩
  have HE := hide hE
  rw [show smE z = E from hE]
  clear hE
  go_enter Tryd.func50, Tryd.ntmps50
  go_upto_region 1 with (fail)
  obtain ⟨w1, e1, hb1, hz1, k0⟩ := box1 w #[.int .i64 z.re, .int .i64 z.im] 34
  rw [← e1]; clear e1
  have c0 := over_blk k0 k0.lt
  refine wp_region_part 6 w1.heap.size (by kernel_rfl) (by kernel_rfl) ?_; simp only [List.take_succ_cons, List.take_zero, List.drop_succ_cons, List.drop_zero]; (repeat (first | go_big_quiet_step ((go_at_call 56; exact over_same (checkRange_any _ _ _ _))) | quiet_step ((go_at_call 56; exact over_same (checkRange_any _ _ _ _))))); refine wpQuiet_nil ?_; rintro W ⟨x, rfl⟩
  have hbY := over_below w1.heap.size w1 x
  generalize over w1.heap.size w1 x = Y at hbY ⊢
  clear c0
  go_wp2_with ((go_at_call 19; (first | (with_reducible (refine (rFirst_any _ _ _ _ _ _ (reads2 _ _ _ _) (by omega)).mono ?_)) | (with_reducible (refine (rFirst_any _ _ _ _ _ _ (Reads.drew (reads2 _ _ _ _)) (by omega)).mono ?_))); rintro e W' ⟨rfl, rfl⟩))
  go_ret
  exact ⟨by rw [← HE.out]; rfl, (by repeat (first | exact below_next hb1 hbY | exact Below.refl _ _ | refine Below.drew ?_ | refine below_drewN ?_ _ | refine below_set ?_ (by omega) _ | refine below_new ?_ (by omega) _))⟩
set_option maxHeartbeats 1000000 in
theorem rCheckMatrix_any (m : Mat) (w : World) :
    Calls Tryd.prog 18 #[.agg #[.int .i64 m.a.re, .int .i64 m.a.im, .int .i64 m.b.re, .int .i64 m.b.im, .int .i64 m.c.re, .int .i64 m.c.im, .int .i64 m.d.re, .int .i64 m.d.im]] w fun e w' => e = .returned (.int .i64 (smErr m.ents)) ∧ Below w.heap.size w w' := by
  obtain ⟨E, hE⟩ : ∃ E, fnz [smE m.a, smE m.b, smE m.c, smE m.d] = E := ⟨_, rfl⟩
  have HE := hide hE
  rw [show smErr m.ents = E from hE]
  clear hE
  go_enter Tryd.func18, Tryd.ntmps18
  go_upto_region 1 with (fail)
  obtain ⟨w1, e1, hb1, hz1, k0⟩ := box1 w #[.int .i64 m.a.re, .int .i64 m.a.im, .int .i64 m.b.re, .int .i64 m.b.im, .int .i64 m.c.re, .int .i64 m.c.im, .int .i64 m.d.re, .int .i64 m.d.im] 55
  rw [← e1]; clear e1
  have c0 := over_blk k0 k0.lt
  refine wp_region_part 12 w1.heap.size (by kernel_rfl) (by kernel_rfl) ?_; simp only [List.take_succ_cons, List.take_zero, List.drop_succ_cons, List.drop_zero]; (repeat (first | go_big_quiet_step ((go_at_call 50; first | with_reducible exact over_call (Nat.le_refl _) (rCheckPart_any m.a _) | with_reducible exact over_call (Nat.le_refl _) (rCheckPart_any m.b _) | with_reducible exact over_call (Nat.le_refl _) (rCheckPart_any m.c _) | with_reducible exact over_call (Nat.le_refl _) (rCheckPart_any m.d _))) | quiet_step ((go_at_call 50; first | with_reducible exact over_call (Nat.le_refl _) (rCheckPart_any m.a _) | with_reducible exact over_call (Nat.le_refl _) (rCheckPart_any m.b _) | with_reducible exact over_call (Nat.le_refl _) (rCheckPart_any m.c _) | with_reducible exact over_call (Nat.le_refl _) (rCheckPart_any m.d _))))); refine wpQuiet_nil ?_; rintro W ⟨x, rfl⟩
  have hbY := over_below w1.heap.size w1 x
  generalize over w1.heap.size w1 x = Y at hbY ⊢
  clear c0
  go_wp2_with ((go_at_call 19; (first | (with_reducible (refine (rFirst_any _ _ _ _ _ _ (reads4 _ _ _ _ _ _) (by omega)).mono ?_)) | (with_reducible (refine (rFirst_any _ _ _ _ _ _ (Reads.drew (reads4 _ _ _ _ _ _)) (by omega)).mono ?_))); rintro e W' ⟨rfl, rfl⟩))
  go_ret
  exact ⟨by rw [← HE.out]; rfl, (by repeat (first | exact below_next hb1 hbY | exact Below.refl _ _ | refine Below.drew ?_ | refine below_drewN ?_ _ | refine below_set ?_ (by omega) _ | refine below_new ?_ (by omega) _))⟩
set_option maxHeartbeats 2000000 in
theorem rDeterminant_ok (m : Mat) (w : World) (he : smErr m.ents = 0) :
    Calls Tryd.prog 21 #[.agg #[.int .i64 m.a.re, .int .i64 m.a.im, .int .i64 m.b.re, .int .i64 m.b.im, .int .i64 m.c.re, .int .i64 m.c.im, .int .i64 m.d.re, .int .i64 m.d.im]] w fun e w' => e = .returned (.agg #[.int .i64 m.det.re, .int .i64 m.det.im]) ∧ Below w.heap.size w w' := by
  have na := sm_ents he (z := m.a) (by simp [Mat.ents])
  have nb := sm_ents he (z := m.b) (by simp [Mat.ents])
  have nc := sm_ents he (z := m.c) (by simp [Mat.ents])
  have nd := sm_ents he (z := m.d) (by simp [Mat.ents])
  have h1 := Nat.le_trans (G.nrm_mul m.a m.d) (Nat.mul_le_mul na nd)
  have h2 := Nat.le_trans (G.nrm_mul m.b m.c) (Nat.mul_le_mul nb nc)
  have h3 := Nat.le_trans (G.nrm_mul ⟨-1, 0⟩ (m.b.mul m.c)) (Nat.mul_le_mul (Nat.le_refl _) h2)
  have h4 := G.nrm_add (m.a.mul m.d) ((⟨-1, 0⟩ : G).mul (m.b.mul m.c))
  have e1 : (⟨-1, 0⟩ : G).nrm = 1 := rfl
  rw [e1] at h3
  rw [det_form] at h4
  obtain ⟨p, hp⟩ : ∃ p, m.a.mul m.d = p := ⟨_, rfl⟩
  obtain ⟨q, hq⟩ : ∃ q, m.b.mul m.c = q := ⟨_, rfl⟩
  obtain ⟨z, hz⟩ : ∃ z, m.det = z := ⟨_, rfl⟩
  have hs : p.sub q = z := by rw [← hp, ← hq, ← hz]; rfl
  have HT : Hid (∀ W, Calls Tryd.prog 52 #[.agg #[.int .i64 m.a.re, .int .i64 m.a.im], .agg #[.int .i64 m.d.re, .int .i64 m.d.im]] W fun e w' => e = .returned (.agg #[.int .i64 p.re, .int .i64 p.im]) ∧ Below W.heap.size W w') := fun W => by
    have := rTimes_any m.a m.d W
    rwa [hp, G.w_in (by rw [← hp]; exact Nat.le_trans h1 (by decide))] at this
  have HU : Hid (∀ W, Calls Tryd.prog 52 #[.agg #[.int .i64 m.b.re, .int .i64 m.b.im], .agg #[.int .i64 m.c.re, .int .i64 m.c.im]] W fun e w' => e = .returned (.agg #[.int .i64 q.re, .int .i64 q.im]) ∧ Below W.heap.size W w') := fun W => by
    have := rTimes_any m.b m.c W
    rwa [hq, G.w_in (by rw [← hq]; exact Nat.le_trans h2 (by decide))] at this
  have HL : Hid (∀ W, Calls Tryd.prog 53 #[.agg #[.int .i64 p.re, .int .i64 p.im], .agg #[.int .i64 q.re, .int .i64 q.im]] W fun e w' => e = .returned (.agg #[.int .i64 z.re, .int .i64 z.im]) ∧ Below W.heap.size W w') := fun W => by
    have := rLess_any p q W
    rwa [hs, G.w_in (by rw [← hz]; omega)] at this
  have HZ := hide hz
  rw [hz]
  clear he na nb nc nd h1 h2 h3 h4 e1 hp hq hz hs
  go_enter Tryd.func21, Tryd.ntmps21
  go_upto_region 1 with (fail)
  obtain ⟨w1, e1, hb1, hz1, k0, kR⟩ := box2 w #[.int .i64 m.a.re, .int .i64 m.a.im, .int .i64 m.b.re, .int .i64 m.b.im, .int .i64 m.c.re, .int .i64 m.c.im, .int .i64 m.d.re, .int .i64 m.d.im] #[.int .i64 0, .int .i64 0] 55 34
  rw [← e1]; clear e1
  have c0 := over_blk k0 k0.lt
  refine wp_region_part 11 w1.heap.size (by kernel_rfl) (by kernel_rfl) ?_; simp only [List.take_succ_cons, List.take_zero, List.drop_succ_cons, List.drop_zero]; (repeat (first | go_big_quiet_step (first | (go_at_call 52; first | with_reducible exact over_call (Nat.le_refl _) (HT.out _) | with_reducible exact over_call (Nat.le_refl _) (HU.out _)) | (go_at_call 53; with_reducible exact over_call (Nat.le_refl _) (HL.out _))) | quiet_step (first | (go_at_call 52; first | with_reducible exact over_call (Nat.le_refl _) (HT.out _) | with_reducible exact over_call (Nat.le_refl _) (HU.out _)) | (go_at_call 53; with_reducible exact over_call (Nat.le_refl _) (HL.out _))))); refine wpQuiet_nil ?_; rintro W ⟨x, rfl⟩
  have hbY := over_below w1.heap.size w1 x
  generalize over w1.heap.size w1 x = Y at hbY ⊢
  clear c0
  have kY := carryK kR hbY
  have cR := kY.cell
  have fR := kY.frozen
  have kX := blk2 (u0 := .int .i64 z.re) (u1 := .int .i64 z.im) kY
  have hX := below2 (u0 := .int .i64 z.re) (u1 := .int .i64 z.im) (below_next hb1 hbY) (show w.heap.size ≤ w.heap.size + 1 by omega)
  go_wp2_with fail
  have cX := kX.cell
  clear cR fR
  refine bodyPost_ret (v := .agg #[.int .i64 z.re, .int .i64 z.im]) (by simp [results, Tryd.results21, go_sem, cX]) rfl ?_
  exact ⟨rfl, hX⟩
end Go.Proofs.YtnndaipnfniciaaDoor
