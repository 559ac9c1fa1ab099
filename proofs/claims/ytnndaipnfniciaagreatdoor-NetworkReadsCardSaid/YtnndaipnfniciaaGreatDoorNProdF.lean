/- Determinant, Product of the program. -/
import Derived.Test.YtnndaipnfniciaaGreatDoorNSmall
namespace Go.Proofs.YtnndaipnfniciaaGreatDoor
open Go.RowKit Go.Shelf
set_option maxRecDepth 100000
/-- The four entries. -/
def Mat.ents (m : Mat) : List G := [m.a, m.b, m.c, m.d]
theorem blkM {w : World} {g : Nat} {t : TypeId} {m : Mat} (h : Blk w g t #[.int .i64 m.a.re, .int .i64 m.a.im, .int .i64 m.b.re, .int .i64 m.b.im, .int .i64 m.c.re, .int .i64 m.c.im, .int .i64 m.d.re, .int .i64 m.d.im]) : Reads w w.heap.size 2 (some ⟨g, 0, none⟩) 4 (gs m.ents) := blkG (l := m.ents) h rfl
set_option maxHeartbeats 2000000 in
theorem Determinant_bad (m : Mat) (w : World) (he : (smErr m.ents != 0) = true) :
    Calls Tryz.prog 81 #[.agg #[.int .i64 m.a.re, .int .i64 m.a.im, .int .i64 m.b.re, .int .i64 m.b.im, .int .i64 m.c.re, .int .i64 m.c.im, .int .i64 m.d.re, .int .i64 m.d.im]] w fun e w' => e = .returned (.tuple #[.agg #[.int .i64 0, .int .i64 0], .int .i64 (smErr m.ents)]) ∧ Below w.heap.size w w' := by
  go_enter Tryz.func81, Tryz.ntmps81
  go_wp2_with fail
  obtain ⟨w1, e1, hb1, hz1, k0, k1⟩ := box2 w #[.int .i64 m.a.re, .int .i64 m.a.im, .int .i64 m.b.re, .int .i64 m.b.im, .int .i64 m.c.re, .int .i64 m.c.im, .int .i64 m.d.re, .int .i64 m.d.im] #[.int .i64 0, .int .i64 0] 73 23
  rw [← e1]; clear e1
  refine (checkSmall_any m.ents _ 4 _ _ (blkM k0) (by omega)).mono ?_
  rintro e w2 ⟨rfl, hb2⟩
  have hbw2 := below_next hb1 hb2
  have kM := carryK k0 hb2
  have kR := carryK k1 hb2
  have c5 := kR.cell
  have f5 := kR.frozen
  go_wp2_with fail
  have kX := blk2 (u0 := .int .i64 0) (u1 := .int .i64 0) kR
  have hX := below2 (u0 := .int .i64 0) (u1 := .int .i64 0) hbw2 (Nat.le_add_right w.heap.size 1)
  have cX := kX.cell
  clear c5 f5
  refine bodyPost_ret (v := .tuple #[.agg #[.int .i64 0, .int .i64 0], .int .i64 (smErr m.ents)]) (by simp [results, Tryz.results81, go_sem, cX]) rfl ?_
  exact ⟨rfl, hX⟩
/-- In range, and what it is. -/
theorem sm_ents {l : List G} (h : smErr l = 0) {z : G} (hz : z ∈ l) : z.nrm ≤ 60000 := by
  unfold smErr at h
  rw [fnz_zero] at h
  have := h _ (List.mem_map_of_mem hz)
  unfold smE at this
  rw [fnz_zero] at this
  simp only [List.mem_cons, List.not_mem_nil, or_false, forall_eq_or_imp, forall_eq] at this
  have h1 := rng_zero.1 this.1
  have h2 := rng_zero.1 this.2
  unfold G.nrm; omega
theorem det_form (m : Mat) : (m.a.mul m.d).add ((⟨-1, 0⟩ : G).mul (m.b.mul m.c)) = m.det := by
  apply G.ext' <;> simp only [Mat.det, G.mul, G.add, G.sub] <;> grind
set_option maxHeartbeats 4000000 in
theorem Determinant_ok (m : Mat) (w : World) (hTu : Tur w) (he : smErr m.ents = 0) :
    Calls Tryz.prog 81 #[.agg #[.int .i64 m.a.re, .int .i64 m.a.im, .int .i64 m.b.re, .int .i64 m.b.im, .int .i64 m.c.re, .int .i64 m.c.im, .int .i64 m.d.re, .int .i64 m.d.im]] w fun e w' => e = .returned (.tuple #[.agg #[.int .i64 m.det.re, .int .i64 m.det.im], .int .i64 0]) ∧ Below w.heap.size w w' := by
  have t1 : (smErr m.ents != 0) = false := by rw [he]; rfl
  have na := sm_ents he (z := m.a) (by simp [Mat.ents])
  have nb := sm_ents he (z := m.b) (by simp [Mat.ents])
  have nc := sm_ents he (z := m.c) (by simp [Mat.ents])
  have nd := sm_ents he (z := m.d) (by simp [Mat.ents])
  have h1 := Nat.le_trans (G.nrm_mul m.a m.d) (Nat.mul_le_mul na nd)
  have h2 := Nat.le_trans (G.nrm_mul m.b m.c) (Nat.mul_le_mul nb nc)
  have h3 := Nat.le_trans (G.nrm_mul ⟨-1, 0⟩ (m.b.mul m.c)) (Nat.mul_le_mul (Nat.le_refl _) h2)
  have h4 := G.nrm_add (m.a.mul m.d) ((⟨-1, 0⟩ : G).mul (m.b.mul m.c))
  have e1 : (⟨-1, 0⟩ : G).nrm = 1 := rfl
  rw [e1] at h3
  have HD : Hid ((m.a.mul m.d).nrm ≤ 9223372036854775807) := Nat.le_trans h1 (by decide)
  have HB : Hid ((m.b.mul m.c).nrm ≤ 9223372036854775807) := Nat.le_trans h2 (by decide)
  have HT : Hid (((⟨-1, 0⟩ : G).mul (m.b.mul m.c)).nrm ≤ 9223372036854775807) := Nat.le_trans h3 (by decide)
  have HS : Hid (m.det.nrm ≤ 9223372036854775807) := by
    show m.det.nrm ≤ 9223372036854775807
    rw [det_form] at h4; omega
  have HF := hide (det_form m)
  clear he na nb nc nd h1 h2 h3 h4 e1
  obtain ⟨p, hp⟩ : ∃ p, m.a.mul m.d = p := ⟨_, rfl⟩
  obtain ⟨q, hq⟩ : ∃ q, m.b.mul m.c = q := ⟨_, rfl⟩
  obtain ⟨r, hr⟩ : ∃ r, (⟨-1, 0⟩ : G).mul q = r := ⟨_, rfl⟩
  rw [hp] at HD HF
  rw [hq] at HB HT HF
  rw [hr] at HT HF
  have HP := hide hp
  have HQ := hide hq
  have HR := hide hr
  clear hp hq hr
  go_enter Tryz.func81, Tryz.ntmps81
  go_wp2_with fail
  obtain ⟨w1, e1, hb1, hz1, k0, k1⟩ := box2 w #[.int .i64 m.a.re, .int .i64 m.a.im, .int .i64 m.b.re, .int .i64 m.b.im, .int .i64 m.c.re, .int .i64 m.c.im, .int .i64 m.d.re, .int .i64 m.d.im] #[.int .i64 0, .int .i64 0] 73 23
  rw [← e1]; clear e1
  refine (checkSmall_any m.ents _ 4 _ _ (blkM k0) (by omega)).mono ?_
  rintro e w2 ⟨rfl, hb2⟩
  have hbw2 := below_next hb1 hb2
  have kM := carryK k0 hb2
  have kR := carryK k1 hb2
  have htt := hTu.carry hbw2
  have tb := fun i (v : Value) (h : (#[.int .i64 1, .int .i64 0, .int .i64 0, .int .i64 1, .int .i64 (-1), .int .i64 0, .int .i64 0, .int .i64 (-1)] : Array Value)[i]? = some v) (x : World) => (over_cell (w := w2) (i := i) x htt.lt).trans (htt.c i v h)
  have cT4 := tb 4 _ rfl
  have cT5 := tb 5 _ rfl
  have c0 := over_blk kM kM.lt
  clear tb htt
  go_upto_region 4 with (fail)
  refine wp_region_part 14 w2.heap.size (by kernel_rfl) (by kernel_rfl) ?_; simp only [List.take_succ_cons, List.take_zero, List.drop_succ_cons, List.drop_zero]; (repeat (first | go_big_quiet_step (first | (go_at_call 90; with_reducible exact over_call (Nat.le_refl _) (plus_g p r m.det _ HF.out HS.out)) | (go_at_call 85; with_reducible first | exact over_call (Nat.le_refl _) (times_g m.a m.d p _ HP.out HD.out) | exact over_call (Nat.le_refl _) (times_g m.b m.c q _ HQ.out HB.out) | exact over_call (Nat.le_refl _) (times_g ⟨-1, 0⟩ q r _ HR.out HT.out))) | quiet_step (first | (go_at_call 90; with_reducible exact over_call (Nat.le_refl _) (plus_g p r m.det _ HF.out HS.out)) | (go_at_call 85; with_reducible first | exact over_call (Nat.le_refl _) (times_g m.a m.d p _ HP.out HD.out) | exact over_call (Nat.le_refl _) (times_g m.b m.c q _ HQ.out HB.out) | exact over_call (Nat.le_refl _) (times_g ⟨-1, 0⟩ q r _ HR.out HT.out))))); refine wpQuiet_nil ?_; rintro W ⟨x, rfl⟩
  have hbY := over_below w2.heap.size w2 x
  generalize over w2.heap.size w2 x = Y at hbY ⊢
  have kY := carryK kR hbY
  clear c0 cT4 cT5
  have c5 := kY.cell
  have f5 := kY.frozen
  obtain ⟨z, hz⟩ : ∃ z, m.det = z := ⟨_, rfl⟩
  have HZ := hide hz
  rw [hz]
  clear HS HF hz
  go_wp2_with fail
  have kX := blk2 (u0 := .int .i64 z.re) (u1 := .int .i64 z.im) kY
  have hX := below2 (u0 := .int .i64 z.re) (u1 := .int .i64 z.im) (below_next hbw2 hbY) (Nat.le_add_right w.heap.size 1)
  have cX := kX.cell
  clear c5 f5
  refine bodyPost_ret (v := .tuple #[.agg #[.int .i64 z.re, .int .i64 z.im], .int .i64 0]) (by simp [results, Tryz.results81, go_sem, cX]) rfl ?_
  exact ⟨by rw [HZ.out], hX⟩
end Go.Proofs.YtnndaipnfniciaaGreatDoor
