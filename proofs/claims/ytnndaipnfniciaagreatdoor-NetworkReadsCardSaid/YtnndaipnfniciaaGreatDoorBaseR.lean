/- The reference's chain matrices: one, zero, value, of, Product. The reference's Product, Chain, Divisor, CheckAt, Short. The reference's Chain, Divisor, CheckAt, Short. -/
import Derived.Test.YtnndaipnfniciaaGreatDoorBaseQ
import Derived.Test.YtnndaipnfniciaaGreatDoorBaseS
import Derived.Test.YtnndaipnfniciaaGreatDoorBaseO
namespace Go.Proofs.YtnndaipnfniciaaGreatDoor
open Go.RowKit Go.Shelf
set_option maxRecDepth 100000
theorem rOne_any (w : World) : Calls Tryz.prog 109 #[] w fun e w' => e = .returned (.agg #[.int .i64 G.one.re, .int .i64 G.one.im]) ∧ Below w.heap.size w w' := by
  go_enter Tryz.func109, Tryz.ntmps109
  go_wp2
  refine bodyPost_ret (v := .agg #[.int .i64 1, .int .i64 0]) (by simp [results, Tryz.results109, go_sem]) rfl ?_
  exact ⟨rfl, (by repeat (first | exact Below.refl _ _ | exact Below.refl _ _ | refine Below.drew ?_ | refine below_drewN ?_ _ | refine below_set ?_ (by omega) _ | refine below_new ?_ (by omega) _))⟩
theorem rZero_any (w : World) : Calls Tryz.prog 92 #[] w fun e w' => e = .returned (.agg #[.int .i64 G.zero.re, .int .i64 G.zero.im]) ∧ Below w.heap.size w w' := by
  go_enter Tryz.func92, Tryz.ntmps92
  go_wp2
  refine bodyPost_ret (v := .agg #[.int .i64 0, .int .i64 0]) (by simp [results, Tryz.results92, go_sem]) rfl ?_
  exact ⟨rfl, (by repeat (first | exact Below.refl _ _ | exact Below.refl _ _ | refine Below.drew ?_ | refine below_drewN ?_ _ | refine below_set ?_ (by omega) _ | refine below_new ?_ (by omega) _))⟩
theorem rValue_any (x : El) (f : Int) (w : World) (h : 0 ≤ f * x.b ∧ f * x.b ≤ 64) :
    Calls Tryz.prog 112 #[.agg #[.string x.kind, .int .i64 x.a, .int .i64 x.b], .int .i64 f] w fun e w' => e = .returned (.agg #[.int .i64 (x.val f).re, .int .i64 (x.val f).im]) ∧ Below w.heap.size w w' := by
  obtain ⟨q, hq⟩ : ∃ q, f * x.b = q := ⟨_, rfl⟩
  have hw : wrap64 (f * x.b) = q := by rw [hq]; rw [hq] at h; unfold wrap64; omega
  have HQ := hide hq
  clear hq h
  go_enter Tryz.func112, Tryz.ntmps112
  go_wp2_with fail
  refine bodyPost_ret (v := .agg #[.int .i64 x.a, .int .i64 q]) (by simp [results, Tryz.results112, go_sem, hw]) rfl ?_
  exact ⟨by rw [← HQ.out]; rfl, (by repeat (first | exact Below.refl _ _ | exact Below.refl _ _ | refine Below.drew ?_ | refine below_drewN ?_ _ | refine below_set ?_ (by omega) _ | refine below_new ?_ (by omega) _))⟩
set_option maxHeartbeats 4000000 in
theorem rOf_any (y : El) (v : G) (w : World) :
    Calls Tryz.prog 111 #[.string y.kind, .agg #[.int .i64 v.re, .int .i64 v.im]] w fun e w' => e = .returned (.agg #[.int .i64 (y.mat v).a.re, .int .i64 (y.mat v).a.im, .int .i64 (y.mat v).b.re, .int .i64 (y.mat v).b.im, .int .i64 (y.mat v).c.re, .int .i64 (y.mat v).c.im, .int .i64 (y.mat v).d.re, .int .i64 (y.mat v).d.im]) ∧ Below w.heap.size w w' := by
  have h1 := list_series y.kind
  have h2 := list_shunt y.kind
  have h3 := list_block y.kind
  by_cases e1 : y.kind = kSeries
  · have t1 : (y.kind.toList == [115, 101, 114, 105, 101, 115]) = true := by rw [h1]; exact decide_eq_true e1
    have HM := hide (show y.mat v = ⟨.one, v, .zero, .one⟩ by unfold El.mat; rw [if_pos e1])
    clear h1 h2 h3 e1
    go_enter Tryz.func111, Tryz.ntmps111
    go_upto_region 3 with (fail)
    obtain ⟨w1, e1, hb1, hz1, k0, k1⟩ := box2 w #[.int .i64 v.re, .int .i64 v.im] #[.int .i64 0, .int .i64 0, .int .i64 0, .int .i64 0, .int .i64 0, .int .i64 0, .int .i64 0, .int .i64 0] 23 78
    rw [← e1]; clear e1
    have c0 := over_blk k0 k0.lt
    refine wp_region_part 5 w1.heap.size (by kernel_rfl) (by kernel_rfl) ?_; simp only [List.take_succ_cons, List.take_zero, List.drop_succ_cons, List.drop_zero]; (repeat (first | go_big_quiet_step (first | (go_at_call 109; with_reducible exact over_call (Nat.le_refl _) (rOne_any _)) | (go_at_call 92; with_reducible exact over_call (Nat.le_refl _) (rZero_any _))) | quiet_step (first | (go_at_call 109; with_reducible exact over_call (Nat.le_refl _) (rOne_any _)) | (go_at_call 92; with_reducible exact over_call (Nat.le_refl _) (rZero_any _))))); refine wpQuiet_nil ?_; rintro W ⟨x, rfl⟩
    have hbY := over_below w1.heap.size w1 x
    generalize over w1.heap.size w1 x = Y at hbY ⊢
    have kY := carryK k1 hbY
    have c1 := kY.cell
    have f1 := kY.frozen
    clear c0
    go_wp2_with fail
    with_reducible refine fin8 (B := w.heap.size) (v := w) 78 (below_next hb1 hbY) (by omega) kY (fun X hX kX => ?_)
    have cX := kX.cell
    clear c1 f1
    refine bodyPost_ret (v := .agg #[.int .i64 (⟨.one, v, .zero, .one⟩ : Mat).a.re, .int .i64 (⟨.one, v, .zero, .one⟩ : Mat).a.im, .int .i64 (⟨.one, v, .zero, .one⟩ : Mat).b.re, .int .i64 (⟨.one, v, .zero, .one⟩ : Mat).b.im, .int .i64 (⟨.one, v, .zero, .one⟩ : Mat).c.re, .int .i64 (⟨.one, v, .zero, .one⟩ : Mat).c.im, .int .i64 (⟨.one, v, .zero, .one⟩ : Mat).d.re, .int .i64 (⟨.one, v, .zero, .one⟩ : Mat).d.im]) (by simp [results, Tryz.results111, go_sem, cX, G.one, G.zero]) rfl ?_
    exact ⟨by rw [HM.out], hX⟩
  · have t1 : (y.kind.toList == [115, 101, 114, 105, 101, 115]) = false := by rw [h1]; exact decide_eq_false e1
    by_cases e2 : y.kind = kShunt
    · have t2 : (y.kind.toList == [115, 104, 117, 110, 116]) = true := by rw [h2]; exact decide_eq_true e2
      have HM := hide (show y.mat v = ⟨.one, .zero, v, .one⟩ by unfold El.mat; rw [if_neg e1, if_pos e2])
      clear h1 h2 h3 e1 e2
      go_enter Tryz.func111, Tryz.ntmps111
      go_upto_region 5 with (fail)
      obtain ⟨w1, e1, hb1, hz1, k0, k1⟩ := box2 w #[.int .i64 v.re, .int .i64 v.im] #[.int .i64 0, .int .i64 0, .int .i64 0, .int .i64 0, .int .i64 0, .int .i64 0, .int .i64 0, .int .i64 0] 23 78
      rw [← e1]; clear e1
      have c0 := over_blk k0 k0.lt
      refine wp_region_part 5 w1.heap.size (by kernel_rfl) (by kernel_rfl) ?_; simp only [List.take_succ_cons, List.take_zero, List.drop_succ_cons, List.drop_zero]; (repeat (first | go_big_quiet_step (first | (go_at_call 109; with_reducible exact over_call (Nat.le_refl _) (rOne_any _)) | (go_at_call 92; with_reducible exact over_call (Nat.le_refl _) (rZero_any _))) | quiet_step (first | (go_at_call 109; with_reducible exact over_call (Nat.le_refl _) (rOne_any _)) | (go_at_call 92; with_reducible exact over_call (Nat.le_refl _) (rZero_any _))))); refine wpQuiet_nil ?_; rintro W ⟨x, rfl⟩
      have hbY := over_below w1.heap.size w1 x
      generalize over w1.heap.size w1 x = Y at hbY ⊢
      have kY := carryK k1 hbY
      have c1 := kY.cell
      have f1 := kY.frozen
      clear c0
      go_wp2_with fail
      with_reducible refine fin8 (B := w.heap.size) (v := w) 78 (below_next hb1 hbY) (by omega) kY (fun X hX kX => ?_)
      have cX := kX.cell
      clear c1 f1
      refine bodyPost_ret (v := .agg #[.int .i64 (⟨.one, .zero, v, .one⟩ : Mat).a.re, .int .i64 (⟨.one, .zero, v, .one⟩ : Mat).a.im, .int .i64 (⟨.one, .zero, v, .one⟩ : Mat).b.re, .int .i64 (⟨.one, .zero, v, .one⟩ : Mat).b.im, .int .i64 (⟨.one, .zero, v, .one⟩ : Mat).c.re, .int .i64 (⟨.one, .zero, v, .one⟩ : Mat).c.im, .int .i64 (⟨.one, .zero, v, .one⟩ : Mat).d.re, .int .i64 (⟨.one, .zero, v, .one⟩ : Mat).d.im]) (by simp [results, Tryz.results111, go_sem, cX, G.one, G.zero]) rfl ?_
      exact ⟨by rw [HM.out], hX⟩
    · have t2 : (y.kind.toList == [115, 104, 117, 110, 116]) = false := by rw [h2]; exact decide_eq_false e2
      by_cases e3 : y.kind = kBlock
      · have t3 : (y.kind.toList == [98, 108, 111, 99, 107]) = true := by rw [h3]; exact decide_eq_true e3
        have HM := hide (show y.mat v = ⟨v, .one, .zero, v⟩ by unfold El.mat; rw [if_neg e1, if_neg e2, if_pos e3])
        clear h1 h2 h3 e1 e2 e3
        go_enter Tryz.func111, Tryz.ntmps111
        go_upto_region 7 with (fail)
        obtain ⟨w1, e1, hb1, hz1, k0, k1⟩ := box2 w #[.int .i64 v.re, .int .i64 v.im] #[.int .i64 0, .int .i64 0, .int .i64 0, .int .i64 0, .int .i64 0, .int .i64 0, .int .i64 0, .int .i64 0] 23 78
        rw [← e1]; clear e1
        have c0 := over_blk k0 k0.lt
        refine wp_region_part 5 w1.heap.size (by kernel_rfl) (by kernel_rfl) ?_; simp only [List.take_succ_cons, List.take_zero, List.drop_succ_cons, List.drop_zero]; (repeat (first | go_big_quiet_step (first | (go_at_call 109; with_reducible exact over_call (Nat.le_refl _) (rOne_any _)) | (go_at_call 92; with_reducible exact over_call (Nat.le_refl _) (rZero_any _))) | quiet_step (first | (go_at_call 109; with_reducible exact over_call (Nat.le_refl _) (rOne_any _)) | (go_at_call 92; with_reducible exact over_call (Nat.le_refl _) (rZero_any _))))); refine wpQuiet_nil ?_; rintro W ⟨x, rfl⟩
        have hbY := over_below w1.heap.size w1 x
        generalize over w1.heap.size w1 x = Y at hbY ⊢
        have kY := carryK k1 hbY
        have c1 := kY.cell
        have f1 := kY.frozen
        clear c0
        go_wp2_with fail
        with_reducible refine fin8 (B := w.heap.size) (v := w) 78 (below_next hb1 hbY) (by omega) kY (fun X hX kX => ?_)
        have cX := kX.cell
        clear c1 f1
        refine bodyPost_ret (v := .agg #[.int .i64 (⟨v, .one, .zero, v⟩ : Mat).a.re, .int .i64 (⟨v, .one, .zero, v⟩ : Mat).a.im, .int .i64 (⟨v, .one, .zero, v⟩ : Mat).b.re, .int .i64 (⟨v, .one, .zero, v⟩ : Mat).b.im, .int .i64 (⟨v, .one, .zero, v⟩ : Mat).c.re, .int .i64 (⟨v, .one, .zero, v⟩ : Mat).c.im, .int .i64 (⟨v, .one, .zero, v⟩ : Mat).d.re, .int .i64 (⟨v, .one, .zero, v⟩ : Mat).d.im]) (by simp [results, Tryz.results111, go_sem, cX, G.one, G.zero]) rfl ?_
        exact ⟨by rw [HM.out], hX⟩
      · have t3 : (y.kind.toList == [98, 108, 111, 99, 107]) = false := by rw [h3]; exact decide_eq_false e3
        have HM := hide (show y.mat v = ⟨v, .zero, .one, v⟩ by unfold El.mat; rw [if_neg e1, if_neg e2, if_neg e3])
        clear h1 h2 h3 e1 e2 e3
        go_enter Tryz.func111, Tryz.ntmps111
        go_upto_region 8 with (fail)
        obtain ⟨w1, e1, hb1, hz1, k0, k1⟩ := box2 w #[.int .i64 v.re, .int .i64 v.im] #[.int .i64 0, .int .i64 0, .int .i64 0, .int .i64 0, .int .i64 0, .int .i64 0, .int .i64 0, .int .i64 0] 23 78
        rw [← e1]; clear e1
        have c0 := over_blk k0 k0.lt
        refine wp_region_part 5 w1.heap.size (by kernel_rfl) (by kernel_rfl) ?_; simp only [List.take_succ_cons, List.take_zero, List.drop_succ_cons, List.drop_zero]; (repeat (first | go_big_quiet_step (first | (go_at_call 109; with_reducible exact over_call (Nat.le_refl _) (rOne_any _)) | (go_at_call 92; with_reducible exact over_call (Nat.le_refl _) (rZero_any _))) | quiet_step (first | (go_at_call 109; with_reducible exact over_call (Nat.le_refl _) (rOne_any _)) | (go_at_call 92; with_reducible exact over_call (Nat.le_refl _) (rZero_any _))))); refine wpQuiet_nil ?_; rintro W ⟨x, rfl⟩
        have hbY := over_below w1.heap.size w1 x
        generalize over w1.heap.size w1 x = Y at hbY ⊢
        have kY := carryK k1 hbY
        have c1 := kY.cell
        have f1 := kY.frozen
        clear c0
        go_wp2_with fail
        with_reducible refine fin8 (B := w.heap.size) (v := w) 78 (below_next hb1 hbY) (by omega) kY (fun X hX kX => ?_)
        have cX := kX.cell
        clear c1 f1
        refine bodyPost_ret (v := .agg #[.int .i64 (⟨v, .zero, .one, v⟩ : Mat).a.re, .int .i64 (⟨v, .zero, .one, v⟩ : Mat).a.im, .int .i64 (⟨v, .zero, .one, v⟩ : Mat).b.re, .int .i64 (⟨v, .zero, .one, v⟩ : Mat).b.im, .int .i64 (⟨v, .zero, .one, v⟩ : Mat).c.re, .int .i64 (⟨v, .zero, .one, v⟩ : Mat).c.im, .int .i64 (⟨v, .zero, .one, v⟩ : Mat).d.re, .int .i64 (⟨v, .zero, .one, v⟩ : Mat).d.im]) (by simp [results, Tryz.results111, go_sem, cX, G.one, G.zero]) rfl ?_
        exact ⟨by rw [HM.out], hX⟩
end Go.Proofs.YtnndaipnfniciaaGreatDoor

namespace Go.Proofs.YtnndaipnfniciaaGreatDoor
open Go.RowKit Go.Shelf
set_option maxRecDepth 100000
/-- The cells of the first k entries of a product. -/
def prCells (p q : Mat) (k : Nat) : Array Value :=
  let m := (p.mul q).w
  #[.int .i64 (if 0 < k then m.a.re else 0), .int .i64 (if 0 < k then m.a.im else 0), .int .i64 (if 1 < k then m.b.re else 0), .int .i64 (if 1 < k then m.b.im else 0), .int .i64 (if 2 < k then m.c.re else 0), .int .i64 (if 2 < k then m.c.im else 0), .int .i64 (if 3 < k then m.d.re else 0), .int .i64 (if 3 < k then m.d.im else 0)]
theorem rPlus_w (p q : G) (w : World) :
    Calls Tryz.prog 66 #[.agg #[.int .i64 p.w.re, .int .i64 p.w.im], .agg #[.int .i64 q.w.re, .int .i64 q.w.im]] w fun e w' => e = .returned (.agg #[.int .i64 (p.add q).w.re, .int .i64 (p.add q).w.im]) ∧ Below w.heap.size w w' := by
  have := rPlus_any p.w q.w w
  rwa [G.w_add] at this
theorem far2v {W : World} {g g' : Nat} {t : TypeId} {cs : Array Value} (hk : Blk W g t cs) (hne : g ≠ g') (i : Nat) (u v : Value) : Blk ((W.setCell ⟨g', i, none⟩ u).setCell ⟨g', i + 1, none⟩ v) g t cs :=
  (hk.far (p := ⟨g', i, none⟩) hne u).far (p := ⟨g', i + 1, none⟩) hne v
set_option maxHeartbeats 8000000 in
theorem rProduct_any (p q : Mat) (w : World) :
    Calls Tryz.prog 110 #[.agg #[.int .i64 p.a.re, .int .i64 p.a.im, .int .i64 p.b.re, .int .i64 p.b.im, .int .i64 p.c.re, .int .i64 p.c.im, .int .i64 p.d.re, .int .i64 p.d.im], .agg #[.int .i64 q.a.re, .int .i64 q.a.im, .int .i64 q.b.re, .int .i64 q.b.im, .int .i64 q.c.re, .int .i64 q.c.im, .int .i64 q.d.re, .int .i64 q.d.im]] w fun e w' => e = .returned (.agg #[.int .i64 (p.mul q).w.a.re, .int .i64 (p.mul q).w.a.im, .int .i64 (p.mul q).w.b.re, .int .i64 (p.mul q).w.b.im, .int .i64 (p.mul q).w.c.re, .int .i64 (p.mul q).w.c.im, .int .i64 (p.mul q).w.d.re, .int .i64 (p.mul q).w.d.im]) ∧ Below w.heap.size w w' := by
  go_enter Tryz.func110, Tryz.ntmps110
  go_wp2_with fail
  obtain ⟨w1, e1, hb1, hz1, k0, k1, k2, k3⟩ := box4 w #[.int .i64 p.a.re, .int .i64 p.a.im, .int .i64 p.b.re, .int .i64 p.b.im, .int .i64 p.c.re, .int .i64 p.c.im, .int .i64 p.d.re, .int .i64 p.d.im] #[.int .i64 q.a.re, .int .i64 q.a.im, .int .i64 q.b.re, .int .i64 q.b.im, .int .i64 q.c.re, .int .i64 q.c.im, .int .i64 q.d.re, .int .i64 q.d.im] #[.int .i64 0, .int .i64 0, .int .i64 0, .int .i64 0, .int .i64 0, .int .i64 0, .int .i64 0, .int .i64 0] #[.int .i64 0, .int .i64 0, .int .i64 0, .int .i64 0, .int .i64 0, .int .i64 0, .int .i64 0, .int .i64 0] 78 78 78 78
  rw [← e1]; clear e1
  obtain ⟨g1, hg1⟩ : ∃ g, w.heap.size + 1 = g := ⟨_, rfl⟩
  obtain ⟨g2, hg2⟩ : ∃ g, w.heap.size + 1 + 1 = g := ⟨_, rfl⟩
  obtain ⟨g3, hg3'⟩ : ∃ g, w.heap.size + 1 + 1 + 1 = g := ⟨_, rfl⟩
  have k1 : Blk w1 g1 78 #[.int .i64 q.a.re, .int .i64 q.a.im, .int .i64 q.b.re, .int .i64 q.b.im, .int .i64 q.c.re, .int .i64 q.c.im, .int .i64 q.d.re, .int .i64 q.d.im] := hg1 ▸ k1
  have k2 : Blk w1 g2 78 _ := hg2 ▸ k2
  have k3 : Blk w1 g3 78 _ := hg3' ▸ k3
  have d1 : w.heap.size + 1 ≤ g1 ∧ g1 ≤ w.heap.size + 1 := by omega
  have d2 : w.heap.size + 2 ≤ g2 ∧ g2 ≤ w.heap.size + 2 := by omega
  have d3 : w.heap.size + 3 ≤ g3 ∧ g3 ≤ w.heap.size + 3 := by omega
  have hg3 : w.heap.size ≤ g3 := by omega
  rw [hg3', hg2, hg1]
  clear hg1 hg2 hg3'
  go_loopw [6] (fun i wr => ∃ n : Nat, n ≤ 2 ∧ i = .int .i64 n ∧ Blk wr w.heap.size 78 #[.int .i64 p.a.re, .int .i64 p.a.im, .int .i64 p.b.re, .int .i64 p.b.im, .int .i64 p.c.re, .int .i64 p.c.im, .int .i64 p.d.re, .int .i64 p.d.im] ∧ Blk wr g1 78 #[.int .i64 q.a.re, .int .i64 q.a.im, .int .i64 q.b.re, .int .i64 q.b.im, .int .i64 q.c.re, .int .i64 q.c.im, .int .i64 q.d.re, .int .i64 q.d.im] ∧ Blk wr g2 78 #[.int .i64 0, .int .i64 0, .int .i64 0, .int .i64 0, .int .i64 0, .int .i64 0, .int .i64 0, .int .i64 0] ∧ Blk wr g3 78 (prCells p q (2 * n)) ∧ Below w.heap.size w wr) (fun i _ => 2 - (intOf i).toNat)
  case atStart => exact ⟨0, by omega, rfl, k0, k1, k2, k3, hb1⟩
  case round =>
    rename World => wo
    obtain ⟨n, hn, rfl, kA, kB, kR, kO, hbo⟩ := hrel
    clear k0 k1 k2 k3 hb1
    have hc : n = 0 ∨ n = 1 ∨ n = 2 := by omega
    rcases hc with rfl | rfl | rfl
    · skip
      go_wp2_with fail
      go_loopw [7] (fun k wr => ∃ j : Nat, j ≤ 2 ∧ k = .int .i64 j ∧ Blk wr w.heap.size 78 #[.int .i64 p.a.re, .int .i64 p.a.im, .int .i64 p.b.re, .int .i64 p.b.im, .int .i64 p.c.re, .int .i64 p.c.im, .int .i64 p.d.re, .int .i64 p.d.im] ∧ Blk wr g1 78 #[.int .i64 q.a.re, .int .i64 q.a.im, .int .i64 q.b.re, .int .i64 q.b.im, .int .i64 q.c.re, .int .i64 q.c.im, .int .i64 q.d.re, .int .i64 q.d.im] ∧ Blk wr g2 78 #[.int .i64 0, .int .i64 0, .int .i64 0, .int .i64 0, .int .i64 0, .int .i64 0, .int .i64 0, .int .i64 0] ∧ Blk wr g3 78 (prCells p q (2 * 0 + j)) ∧ Below w.heap.size w wr) (fun k _ => 2 - (intOf k).toNat)
      case atStart => exact ⟨0, by omega, rfl, kA, kB, kR, kO, hbo⟩
      case round =>
        rename World => wi
        clear kA kB kR kO hbo
        obtain ⟨j, hj, rfl, kA, kB, kR, kO, hbo⟩ := hrel
        have hc : j = 0 ∨ j = 1 ∨ j = 2 := by omega
        rcases hc with rfl | rfl | rfl
        · simp [prCells] at kO
          have W0 : IntKind.i64.wrap 0 = 0 := rfl
          have W1 : IntKind.i64.wrap 1 = 1 := rfl
          have W2 : IntKind.i64.wrap 2 = 2 := rfl
          have W3 : IntKind.i64.wrap 3 = 3 := rfl
          go_upto_region 8 with (fail)
          have cA := over_blk kA kA.lt
          have cB := over_blk kB kB.lt
          refine wp_region_part 23 wi.heap.size (by kernel_rfl) (by kernel_rfl) ?_; simp only [List.take_succ_cons, List.take_zero, List.drop_succ_cons, List.drop_zero]; (repeat (first | go_big_quiet_step (first | (go_at_call 61; with_reducible first | exact over_call (Nat.le_refl _) (rTimes_any p.a q.a _) | exact over_call (Nat.le_refl _) (rTimes_any p.b q.c _)) | (go_at_call 66; with_reducible exact over_call (Nat.le_refl _) (rPlus_w (p.a.mul q.a) (p.b.mul q.c) _))) | quiet_step (first | (go_at_call 61; with_reducible first | exact over_call (Nat.le_refl _) (rTimes_any p.a q.a _) | exact over_call (Nat.le_refl _) (rTimes_any p.b q.c _)) | (go_at_call 66; with_reducible exact over_call (Nat.le_refl _) (rPlus_w (p.a.mul q.a) (p.b.mul q.c) _))))); refine wpQuiet_nil ?_; rintro W ⟨x, rfl⟩
          have hb46 := over_below wi.heap.size wi x
          generalize over wi.heap.size wi x = Y at hb46 ⊢
          clear cA cB W0 W1 W2 W3
          have kO6 := carryK kO hb46
          have kA6 := carryK kA hb46
          have kB6 := carryK kB hb46
          have kR6 := carryK kR hb46
          have hbo6 := below_next hbo hb46
          have cO := kO6.cell
          have fO := kO6.frozen
          go_wp2_with fail
          have kX := (kO6.set_ (2 * 0) (.int .i64 ((p.a.mul q.a).add (p.b.mul q.c)).w.re)).set_ (2 * 0 + 1) (.int .i64 ((p.a.mul q.a).add (p.b.mul q.c)).w.im)
          have kA7 := far2v (g' := g3) kA6 (by omega) (2 * 0) (.int .i64 ((p.a.mul q.a).add (p.b.mul q.c)).w.re) (.int .i64 ((p.a.mul q.a).add (p.b.mul q.c)).w.im)
          have kB7 := far2v (g' := g3) kB6 (by omega) (2 * 0) (.int .i64 ((p.a.mul q.a).add (p.b.mul q.c)).w.re) (.int .i64 ((p.a.mul q.a).add (p.b.mul q.c)).w.im)
          have kR7 := far2v (g' := g3) kR6 (by omega) (2 * 0) (.int .i64 ((p.a.mul q.a).add (p.b.mul q.c)).w.re) (.int .i64 ((p.a.mul q.a).add (p.b.mul q.c)).w.im)
          have hX := below_set (i := 2 * 0 + 1) (below_set (i := 2 * 0) hbo6 hg3 (.int .i64 ((p.a.mul q.a).add (p.b.mul q.c)).w.re)) hg3 (.int .i64 ((p.a.mul q.a).add (p.b.mul q.c)).w.im)
          go_roundw
          case rel => exact ⟨1, by omega, rfl, kA7, kB7, kR7, by simpa [prCells, Mat.w, Mat.mul] using kX, hX⟩
          case measure => simp [intOf]
        · simp [prCells] at kO
          have W0 : IntKind.i64.wrap 0 = 0 := rfl
          have W1 : IntKind.i64.wrap 1 = 1 := rfl
          have W2 : IntKind.i64.wrap 2 = 2 := rfl
          have W3 : IntKind.i64.wrap 3 = 3 := rfl
          go_upto_region 8 with (fail)
          have cA := over_blk kA kA.lt
          have cB := over_blk kB kB.lt
          refine wp_region_part 23 wi.heap.size (by kernel_rfl) (by kernel_rfl) ?_; simp only [List.take_succ_cons, List.take_zero, List.drop_succ_cons, List.drop_zero]; (repeat (first | go_big_quiet_step (first | (go_at_call 61; with_reducible first | exact over_call (Nat.le_refl _) (rTimes_any p.a q.b _) | exact over_call (Nat.le_refl _) (rTimes_any p.b q.d _)) | (go_at_call 66; with_reducible exact over_call (Nat.le_refl _) (rPlus_w (p.a.mul q.b) (p.b.mul q.d) _))) | quiet_step (first | (go_at_call 61; with_reducible first | exact over_call (Nat.le_refl _) (rTimes_any p.a q.b _) | exact over_call (Nat.le_refl _) (rTimes_any p.b q.d _)) | (go_at_call 66; with_reducible exact over_call (Nat.le_refl _) (rPlus_w (p.a.mul q.b) (p.b.mul q.d) _))))); refine wpQuiet_nil ?_; rintro W ⟨x, rfl⟩
          have hb46 := over_below wi.heap.size wi x
          generalize over wi.heap.size wi x = Y at hb46 ⊢
          clear cA cB W0 W1 W2 W3
          have kO6 := carryK kO hb46
          have kA6 := carryK kA hb46
          have kB6 := carryK kB hb46
          have kR6 := carryK kR hb46
          have hbo6 := below_next hbo hb46
          have cO := kO6.cell
          have fO := kO6.frozen
          go_wp2_with fail
          have kX := (kO6.set_ (2 * 1) (.int .i64 ((p.a.mul q.b).add (p.b.mul q.d)).w.re)).set_ (2 * 1 + 1) (.int .i64 ((p.a.mul q.b).add (p.b.mul q.d)).w.im)
          have kA7 := far2v (g' := g3) kA6 (by omega) (2 * 1) (.int .i64 ((p.a.mul q.b).add (p.b.mul q.d)).w.re) (.int .i64 ((p.a.mul q.b).add (p.b.mul q.d)).w.im)
          have kB7 := far2v (g' := g3) kB6 (by omega) (2 * 1) (.int .i64 ((p.a.mul q.b).add (p.b.mul q.d)).w.re) (.int .i64 ((p.a.mul q.b).add (p.b.mul q.d)).w.im)
          have kR7 := far2v (g' := g3) kR6 (by omega) (2 * 1) (.int .i64 ((p.a.mul q.b).add (p.b.mul q.d)).w.re) (.int .i64 ((p.a.mul q.b).add (p.b.mul q.d)).w.im)
          have hX := below_set (i := 2 * 1 + 1) (below_set (i := 2 * 1) hbo6 hg3 (.int .i64 ((p.a.mul q.b).add (p.b.mul q.d)).w.re)) hg3 (.int .i64 ((p.a.mul q.b).add (p.b.mul q.d)).w.im)
          go_roundw
          case rel => exact ⟨2, by omega, rfl, kA7, kB7, kR7, by simpa [prCells, Mat.w, Mat.mul] using kX, hX⟩
          case measure => simp [intOf]
        · go_wp2_with fail
          go_roundw
          case rel => exact ⟨0 + 1, by omega, rfl, kA, kB, kR, kO, hbo⟩
          case measure => simp [intOf]
    · skip
      go_wp2_with fail
      go_loopw [7] (fun k wr => ∃ j : Nat, j ≤ 2 ∧ k = .int .i64 j ∧ Blk wr w.heap.size 78 #[.int .i64 p.a.re, .int .i64 p.a.im, .int .i64 p.b.re, .int .i64 p.b.im, .int .i64 p.c.re, .int .i64 p.c.im, .int .i64 p.d.re, .int .i64 p.d.im] ∧ Blk wr g1 78 #[.int .i64 q.a.re, .int .i64 q.a.im, .int .i64 q.b.re, .int .i64 q.b.im, .int .i64 q.c.re, .int .i64 q.c.im, .int .i64 q.d.re, .int .i64 q.d.im] ∧ Blk wr g2 78 #[.int .i64 0, .int .i64 0, .int .i64 0, .int .i64 0, .int .i64 0, .int .i64 0, .int .i64 0, .int .i64 0] ∧ Blk wr g3 78 (prCells p q (2 * 1 + j)) ∧ Below w.heap.size w wr) (fun k _ => 2 - (intOf k).toNat)
      case atStart => exact ⟨0, by omega, rfl, kA, kB, kR, kO, hbo⟩
      case round =>
        rename World => wi
        clear kA kB kR kO hbo
        obtain ⟨j, hj, rfl, kA, kB, kR, kO, hbo⟩ := hrel
        have hc : j = 0 ∨ j = 1 ∨ j = 2 := by omega
        rcases hc with rfl | rfl | rfl
        · simp [prCells] at kO
          have W0 : IntKind.i64.wrap 0 = 0 := rfl
          have W1 : IntKind.i64.wrap 1 = 1 := rfl
          have W2 : IntKind.i64.wrap 2 = 2 := rfl
          have W3 : IntKind.i64.wrap 3 = 3 := rfl
          go_upto_region 8 with (fail)
          have cA := over_blk kA kA.lt
          have cB := over_blk kB kB.lt
          refine wp_region_part 23 wi.heap.size (by kernel_rfl) (by kernel_rfl) ?_; simp only [List.take_succ_cons, List.take_zero, List.drop_succ_cons, List.drop_zero]; (repeat (first | go_big_quiet_step (first | (go_at_call 61; with_reducible first | exact over_call (Nat.le_refl _) (rTimes_any p.c q.a _) | exact over_call (Nat.le_refl _) (rTimes_any p.d q.c _)) | (go_at_call 66; with_reducible exact over_call (Nat.le_refl _) (rPlus_w (p.c.mul q.a) (p.d.mul q.c) _))) | quiet_step (first | (go_at_call 61; with_reducible first | exact over_call (Nat.le_refl _) (rTimes_any p.c q.a _) | exact over_call (Nat.le_refl _) (rTimes_any p.d q.c _)) | (go_at_call 66; with_reducible exact over_call (Nat.le_refl _) (rPlus_w (p.c.mul q.a) (p.d.mul q.c) _))))); refine wpQuiet_nil ?_; rintro W ⟨x, rfl⟩
          have hb46 := over_below wi.heap.size wi x
          generalize over wi.heap.size wi x = Y at hb46 ⊢
          clear cA cB W0 W1 W2 W3
          have kO6 := carryK kO hb46
          have kA6 := carryK kA hb46
          have kB6 := carryK kB hb46
          have kR6 := carryK kR hb46
          have hbo6 := below_next hbo hb46
          have cO := kO6.cell
          have fO := kO6.frozen
          go_wp2_with fail
          have kX := (kO6.set_ (2 * 2) (.int .i64 ((p.c.mul q.a).add (p.d.mul q.c)).w.re)).set_ (2 * 2 + 1) (.int .i64 ((p.c.mul q.a).add (p.d.mul q.c)).w.im)
          have kA7 := far2v (g' := g3) kA6 (by omega) (2 * 2) (.int .i64 ((p.c.mul q.a).add (p.d.mul q.c)).w.re) (.int .i64 ((p.c.mul q.a).add (p.d.mul q.c)).w.im)
          have kB7 := far2v (g' := g3) kB6 (by omega) (2 * 2) (.int .i64 ((p.c.mul q.a).add (p.d.mul q.c)).w.re) (.int .i64 ((p.c.mul q.a).add (p.d.mul q.c)).w.im)
          have kR7 := far2v (g' := g3) kR6 (by omega) (2 * 2) (.int .i64 ((p.c.mul q.a).add (p.d.mul q.c)).w.re) (.int .i64 ((p.c.mul q.a).add (p.d.mul q.c)).w.im)
          have hX := below_set (i := 2 * 2 + 1) (below_set (i := 2 * 2) hbo6 hg3 (.int .i64 ((p.c.mul q.a).add (p.d.mul q.c)).w.re)) hg3 (.int .i64 ((p.c.mul q.a).add (p.d.mul q.c)).w.im)
          go_roundw
          case rel => exact ⟨1, by omega, rfl, kA7, kB7, kR7, by simpa [prCells, Mat.w, Mat.mul] using kX, hX⟩
          case measure => simp [intOf]
        · simp [prCells] at kO
          have W0 : IntKind.i64.wrap 0 = 0 := rfl
          have W1 : IntKind.i64.wrap 1 = 1 := rfl
          have W2 : IntKind.i64.wrap 2 = 2 := rfl
          have W3 : IntKind.i64.wrap 3 = 3 := rfl
          go_upto_region 8 with (fail)
          have cA := over_blk kA kA.lt
          have cB := over_blk kB kB.lt
          refine wp_region_part 23 wi.heap.size (by kernel_rfl) (by kernel_rfl) ?_; simp only [List.take_succ_cons, List.take_zero, List.drop_succ_cons, List.drop_zero]; (repeat (first | go_big_quiet_step (first | (go_at_call 61; with_reducible first | exact over_call (Nat.le_refl _) (rTimes_any p.c q.b _) | exact over_call (Nat.le_refl _) (rTimes_any p.d q.d _)) | (go_at_call 66; with_reducible exact over_call (Nat.le_refl _) (rPlus_w (p.c.mul q.b) (p.d.mul q.d) _))) | quiet_step (first | (go_at_call 61; with_reducible first | exact over_call (Nat.le_refl _) (rTimes_any p.c q.b _) | exact over_call (Nat.le_refl _) (rTimes_any p.d q.d _)) | (go_at_call 66; with_reducible exact over_call (Nat.le_refl _) (rPlus_w (p.c.mul q.b) (p.d.mul q.d) _))))); refine wpQuiet_nil ?_; rintro W ⟨x, rfl⟩
          have hb46 := over_below wi.heap.size wi x
          generalize over wi.heap.size wi x = Y at hb46 ⊢
          clear cA cB W0 W1 W2 W3
          have kO6 := carryK kO hb46
          have kA6 := carryK kA hb46
          have kB6 := carryK kB hb46
          have kR6 := carryK kR hb46
          have hbo6 := below_next hbo hb46
          have cO := kO6.cell
          have fO := kO6.frozen
          go_wp2_with fail
          have kX := (kO6.set_ (2 * 3) (.int .i64 ((p.c.mul q.b).add (p.d.mul q.d)).w.re)).set_ (2 * 3 + 1) (.int .i64 ((p.c.mul q.b).add (p.d.mul q.d)).w.im)
          have kA7 := far2v (g' := g3) kA6 (by omega) (2 * 3) (.int .i64 ((p.c.mul q.b).add (p.d.mul q.d)).w.re) (.int .i64 ((p.c.mul q.b).add (p.d.mul q.d)).w.im)
          have kB7 := far2v (g' := g3) kB6 (by omega) (2 * 3) (.int .i64 ((p.c.mul q.b).add (p.d.mul q.d)).w.re) (.int .i64 ((p.c.mul q.b).add (p.d.mul q.d)).w.im)
          have kR7 := far2v (g' := g3) kR6 (by omega) (2 * 3) (.int .i64 ((p.c.mul q.b).add (p.d.mul q.d)).w.re) (.int .i64 ((p.c.mul q.b).add (p.d.mul q.d)).w.im)
          have hX := below_set (i := 2 * 3 + 1) (below_set (i := 2 * 3) hbo6 hg3 (.int .i64 ((p.c.mul q.b).add (p.d.mul q.d)).w.re)) hg3 (.int .i64 ((p.c.mul q.b).add (p.d.mul q.d)).w.im)
          go_roundw
          case rel => exact ⟨2, by omega, rfl, kA7, kB7, kR7, by simpa [prCells, Mat.w, Mat.mul] using kX, hX⟩
          case measure => simp [intOf]
        · go_wp2_with fail
          go_roundw
          case rel => exact ⟨1 + 1, by omega, rfl, kA, kB, kR, kO, hbo⟩
          case measure => simp [intOf]
    · simp [prCells] at kO
      have cO := kO.cell
      have cR := kR.cell
      have fR := kR.frozen
      go_wp2_with fail
      with_reducible refine fin8 (B := w.heap.size) (v := w) 78 hbo (by omega) kR (fun X hX kX => ?_)
      have cX := kX.cell
      clear cO cR fR
      refine bodyPost_ret (v := .agg #[.int .i64 (p.mul q).w.a.re, .int .i64 (p.mul q).w.a.im, .int .i64 (p.mul q).w.b.re, .int .i64 (p.mul q).w.b.im, .int .i64 (p.mul q).w.c.re, .int .i64 (p.mul q).w.c.im, .int .i64 (p.mul q).w.d.re, .int .i64 (p.mul q).w.d.im]) (by simp [results, Tryz.results110, go_sem, cX]) rfl ?_
      exact ⟨rfl, hX⟩
end Go.Proofs.YtnndaipnfniciaaGreatDoor

namespace Go.Proofs.YtnndaipnfniciaaGreatDoor
open Go.RowKit Go.Shelf
set_option maxRecDepth 100000
theorem rCheckLadder_all (A : Option Addr) (n c : Nat) (l : List El) (w : World) (h : Reads w w.heap.size 3 A n (els l)) :
    Calls Tryz.prog 26 #[.slice A n c] w fun r w' => r = .returned (.int .i64 (ladErr l)) ∧ Below w.heap.size w w' := by
  by_cases hn : n ≤ 1000000000000
  · exact rCheckLadder_any A n c l w h hn
  · have hz0 : ladErr l = 5 := by unfold ladErr; rw [if_pos (by rw [els_reads_len h]; omega)]
    have HZ0 := hide hz0
    have g5 : (5 : Int) < (n : Int) := by omega
    clear hz0
    go_enter Tryz.func26, Tryz.ntmps26
    go_wp2_with fail
    go_ret
    exact ⟨by rw [HZ0.out]; rfl, Below.refl _ _⟩
set_option maxHeartbeats 1000000 in
theorem rCheckAt_any (A : Option Addr) (n c : Nat) (l : List El) (f : Int) (w : World) (h : Reads w w.heap.size 3 A n (els l)) :
    Calls Tryz.prog 40 #[.slice A n c, .int .i64 f] w fun e w' => e = .returned (.int .i64 (atErr l f)) ∧ Below w.heap.size w w' := by
  go_enter Tryz.func40, Tryz.ntmps40
  go_wp2_with fail
  refine (rCheckLadder_all A n c l _ h).mono ?_
  rintro e w2 ⟨rfl, hb2⟩
  go_wp2_with (first | (go_at_call 20; refine (rCheckW_any _ _).mono ?_; rintro e W' ⟨rfl, rfl⟩) | (go_at_call 18; (first | (with_reducible (refine (rFirst_any _ _ _ _ _ _ (reads2 _ _ _ _) (by omega)).mono ?_)) | (with_reducible (refine (rFirst_any _ _ _ _ _ _ (Reads.drew (reads2 _ _ _ _)) (by omega)).mono ?_))); rintro e W' ⟨rfl, rfl⟩))
  go_ret
  exact ⟨rfl, below_new hb2 (Nat.le_refl _) _⟩
/-- At most 6 elements with kinds of at most 40 bytes. -/
def shortB (l : List El) : Bool := decide (l.length ≤ 6) && l.all fun x => decide (x.kind.size ≤ 40)
set_option maxHeartbeats 1000000 in
theorem rShort_any (A : Option Addr) (n c : Nat) (l : List El) (w : World) (h : Reads w w.heap.size 3 A n (els l)) :
    Calls Tryz.prog 23 #[.slice A n c] w fun e w' => e = .returned (.bool (shortB l)) ∧ Below w.heap.size w w' := by
  have HL := hide (els_reads_len h)
  go_enter Tryz.func23, Tryz.ntmps23
  by_cases h6 : 6 < n
  · have g6 : (6 : Int) < (n : Int) := by omega
    have hs : shortB l = false := by unfold shortB; rw [decide_eq_false (by rw [HL.out]; omega)]; rfl
    have HS := hide hs
    clear hs
    go_wp2_with fail
    go_ret
    exact ⟨by rw [HS.out]; rfl, Below.refl _ _⟩
  · have g6 : ¬ (6 : Int) < (n : Int) := by omega
    go_wp2_with fail
    go_loopw [3] (fun i wr => ∃ k : Nat, k ≤ n ∧ i = .int .i64 k ∧ (∀ x ∈ l.take k, x.kind.size ≤ 40) ∧ Below w.heap.size w wr) (fun i _ => n - (intOf i).toNat)
    case atStart => exact ⟨0, by omega, rfl, by simp, Below.refl _ _⟩
    case round =>
      rename World => wo
      obtain ⟨k, hk, rfl, hz, hb⟩ := hrel
      have HZ := hide hz
      clear hz
      by_cases hlt : k < n
      · obtain ⟨ad, x, rfl, _, hxk, hcx⟩ := els_hit (carry h hb) hlt (Nat.le_refl _)
        obtain ⟨q0, q1, q2⟩ := hcx wo (Below.refl _ _)
        have HX := hide hxk
        clear hxk hcx
        by_cases h40 : 40 < x.kind.size
        · have g40 : (40 : Int) < (x.kind.size : Int) := by omega
          have hs : shortB l = false := by
            unfold shortB
            rw [show (l.all fun x => decide (x.kind.size ≤ 40)) = false from List.all_eq_false.2 ⟨x, List.mem_of_getElem? HX.out, by simp; omega⟩]
            simp
          have HS := hide hs
          clear hs
          go_wp2_with fail
          go_ret
          exact ⟨by rw [HS.out]; rfl, hb⟩
        · have g40 : ¬ (40 : Int) < (x.kind.size : Int) := by omega
          have H40 := hide h40
          go_wp2_with fail
          go_roundw
          case rel =>
            refine ⟨k + 1, by omega, by go_num, fun y hy => ?_, hb⟩
            rw [List.take_add_one, HX.out] at hy
            simp at hy
            rcases hy with hy | rfl
            · exact HZ.out y hy
            · have := H40.out; omega
          case measure => simp [intOf]; omega
      · have hs : shortB l = true := by
          unfold shortB
          rw [decide_eq_true (by rw [HL.out]; omega), Bool.true_and, List.all_eq_true]
          intro x hx
          exact decide_eq_true (HZ.out x (by rw [List.take_of_length_le (by rw [HL.out]; omega)]; exact hx))
        have HS := hide hs
        clear hs
        go_wp2_with fail
        go_ret
        exact ⟨by rw [HS.out]; rfl, hb⟩
theorem val_bd {x : El} (h : x.Ok) {f : Int} (h1 : 1 ≤ f) (h8 : f ≤ 8) : 0 ≤ f * x.b ∧ f * x.b ≤ 64 := by
  have a := Int.mul_nonneg (show 0 ≤ f by omega) h.bl
  have b := Int.mul_le_mul h8 h.bh h.bl (by omega)
  omega
theorem chn_take {f : Int} {l : List El} {k : Nat} {x : El} (h : l[k]? = some x) : chn f .id (l.take (k + 1)) = (chn f .id (l.take k)).mul (x.mat (x.val f)) := by
  rw [List.take_add_one, h]; show chn f .id (l.take k ++ [x]) = _; rw [chn_append]; rfl
theorem dvs_take {f : Int} {l : List El} {k : Nat} {x : El} (h : l[k]? = some x) : dvs f .one (l.take (k + 1)) = if x.divides then (dvs f .one (l.take k)).mul (x.val f) else dvs f .one (l.take k) := by
  rw [List.take_add_one, h]
  show (l.take k ++ [x]).foldl _ _ = _
  rw [List.foldl_append]; rfl
theorem take_ok {l : List El} (h : LadOk l) (k : Nat) : LadOk (l.take k) := ⟨by have := h.len; rw [List.length_take]; omega, fun x hx => h.all x (List.mem_of_mem_take hx)⟩
set_option maxHeartbeats 4000000 in
theorem rChain_ok (l : List El) (f : Int) (A : Option Addr) (n c : Nat) (w : World) (hl : LadOk l) (h1 : 1 ≤ f) (h8 : f ≤ 8) (h : Reads w w.heap.size 3 A n (els l)) :
    Calls Tryz.prog 41 #[.slice A n c, .int .i64 f] w fun e w' => e = .returned (.agg #[.int .i64 (chn f .id l).a.re, .int .i64 (chn f .id l).a.im, .int .i64 (chn f .id l).b.re, .int .i64 (chn f .id l).b.im, .int .i64 (chn f .id l).c.re, .int .i64 (chn f .id l).c.im, .int .i64 (chn f .id l).d.re, .int .i64 (chn f .id l).d.im]) ∧ Below w.heap.size w w' := by
  have HL := hide (els_reads_len h)
  have HOK := hide hl
  have hn5 : n ≤ 5 := by rw [← HL.out]; exact hl.len
  clear hl
  go_enter Tryz.func41, Tryz.ntmps41
  go_wp2_with fail
  obtain ⟨w1, e1, hb1, hz1, k0⟩ := box1 w #[.int .i64 0, .int .i64 0, .int .i64 0, .int .i64 0, .int .i64 0, .int .i64 0, .int .i64 0, .int .i64 0] 78
  rw [← e1]; clear e1
  refine (rOne_any _).mono ?_
  rintro e w2 ⟨rfl, hb2⟩
  go_wp2_with fail
  refine (rZero_any _).mono ?_
  rintro e w3 ⟨rfl, hb3⟩
  go_wp2_with fail
  refine (rZero_any _).mono ?_
  rintro e w4 ⟨rfl, hb4⟩
  go_wp2_with fail
  refine (rOne_any _).mono ?_
  rintro e w5 ⟨rfl, hb5⟩
  go_upto_region 2 with (fail)
  obtain ⟨w6, e6, hb6, hz6, k6⟩ := box1 w5 #[.int .i64 Mat.id.a.re, .int .i64 Mat.id.a.im, .int .i64 Mat.id.b.re, .int .i64 Mat.id.b.im, .int .i64 Mat.id.c.re, .int .i64 Mat.id.c.im, .int .i64 Mat.id.d.re, .int .i64 Mat.id.d.im] 78
  have hw15 : Below w1.heap.size w1 w5 := (by repeat (first | with_reducible assumption | exact Below.refl _ _ | refine below_next (by with_reducible assumption) ?_))
  have hbw6 : Below w.heap.size w w6 := (by repeat (first | with_reducible assumption | exact Below.refl _ _ | refine below_next (by with_reducible assumption) ?_))
  have k0' := carryK (w' := w6) k0 (by repeat (first | with_reducible assumption | exact Below.refl _ _ | refine below_next (by with_reducible assumption) ?_))
  have hg7 : w.heap.size + 1 ≤ w5.heap.size := by have := hw15.size; omega
  rw [show w5.alloc (.cells #[.int .i64 G.one.re, .int .i64 G.one.im, .int .i64 G.zero.re, .int .i64 G.zero.im, .int .i64 G.zero.re, .int .i64 G.zero.im, .int .i64 G.one.re, .int .i64 G.one.im] 78) = w6 from e6.symm]
  clear e6
  obtain ⟨g7, e7⟩ : ∃ g, w5.heap.size = g := ⟨_, rfl⟩
  have k6 : Blk w6 g7 78 #[.int .i64 Mat.id.a.re, .int .i64 Mat.id.a.im, .int .i64 Mat.id.b.re, .int .i64 Mat.id.b.im, .int .i64 Mat.id.c.re, .int .i64 Mat.id.c.im, .int .i64 Mat.id.d.re, .int .i64 Mat.id.d.im] := e7 ▸ k6
  rw [e7] at hg7 ⊢
  clear e7 hb1 hb2 hb3 hb4 hb5 hb6 k0 hw15
  go_wp2_with fail
  go_loopw [6] (fun i wr => ∃ k : Nat, k ≤ n ∧ i = .int .i64 k ∧ Blk wr g7 78 #[.int .i64 (chn f .id (l.take k)).a.re, .int .i64 (chn f .id (l.take k)).a.im, .int .i64 (chn f .id (l.take k)).b.re, .int .i64 (chn f .id (l.take k)).b.im, .int .i64 (chn f .id (l.take k)).c.re, .int .i64 (chn f .id (l.take k)).c.im, .int .i64 (chn f .id (l.take k)).d.re, .int .i64 (chn f .id (l.take k)).d.im] ∧ Blk wr w.heap.size 78 #[.int .i64 0, .int .i64 0, .int .i64 0, .int .i64 0, .int .i64 0, .int .i64 0, .int .i64 0, .int .i64 0] ∧ Below w.heap.size w wr) (fun i _ => n - (intOf i).toNat)
  case atStart => exact ⟨0, by omega, rfl, k6, k0', hbw6⟩
  case round =>
    rename World => wo
    obtain ⟨k, hk, rfl, kO, kR, hbo⟩ := hrel
    clear k6 k0' hbw6
    by_cases hlt : k < n
    · obtain ⟨ad, y, rfl, _, hxk, hcx⟩ := els_hit (carry h hbo) hlt (Nat.le_refl _)
      have hyo := HOK.out.all y (List.mem_of_getElem? hxk)
      have hvb := val_bd hyo h1 h8
      have hct := chn_take (f := f) hxk
      have hin := (chain_in (take_ok HOK.out (k + 1)) h1 h8).w (by decide)
      have HVB := hide hvb
      have HIN := hide hin
      have HCT := hide hct
      have q0 : ∀ x, (over wo.heap.size wo x).cell? (ad.add (k * 3)) = some (.string y.kind) := fun x => (hcx _ (over_below _ _ _)).1
      have q1 : ∀ x, (over wo.heap.size wo x).cell? ⟨(ad.add (k * 3)).block, (ad.add (k * 3)).off + 1, none⟩ = some (.int .i64 y.a) := fun x => (hcx _ (over_below _ _ _)).2.1
      have q2 : ∀ x, (over wo.heap.size wo x).cell? ⟨(ad.add (k * 3)).block, (ad.add (k * 3)).off + 2, none⟩ = some (.int .i64 y.b) := fun x => (hcx _ (over_below _ _ _)).2.2
      have c0 := over_blk kO kO.lt
      obtain ⟨M, hM⟩ : ∃ M, chn f .id (l.take k) = M := ⟨_, rfl⟩
      obtain ⟨N, hN⟩ : ∃ N, chn f .id (l.take (k + 1)) = N := ⟨_, rfl⟩
      rw [hM] at kO c0 HCT
      rw [hN] at HIN HCT
      have HN := hide hN
      have HP : Hid (∀ W, Calls Tryz.prog 110 #[.agg #[.int .i64 M.a.re, .int .i64 M.a.im, .int .i64 M.b.re, .int .i64 M.b.im, .int .i64 M.c.re, .int .i64 M.c.im, .int .i64 M.d.re, .int .i64 M.d.im], .agg #[.int .i64 (y.mat (y.val f)).a.re, .int .i64 (y.mat (y.val f)).a.im, .int .i64 (y.mat (y.val f)).b.re, .int .i64 (y.mat (y.val f)).b.im, .int .i64 (y.mat (y.val f)).c.re, .int .i64 (y.mat (y.val f)).c.im, .int .i64 (y.mat (y.val f)).d.re, .int .i64 (y.mat (y.val f)).d.im]] W fun e w' => e = .returned (.agg #[.int .i64 N.a.re, .int .i64 N.a.im, .int .i64 N.b.re, .int .i64 N.b.im, .int .i64 N.c.re, .int .i64 N.c.im, .int .i64 N.d.re, .int .i64 N.d.im]) ∧ Below W.heap.size W w') := fun W => by
        have := rProduct_any M (y.mat (y.val f)) W
        rwa [← HCT.out, HIN.out] at this
      clear hxk hcx hyo hvb hct hin hM hN
      go_upto_region 5 with (fail)
      refine wp_region_part 14 wo.heap.size (by kernel_rfl) (by kernel_rfl) ?_; simp only [List.take_succ_cons, List.take_zero, List.drop_succ_cons, List.drop_zero]; (repeat (first | go_big_quiet_step (first | (go_at_call 112; with_reducible exact over_call (Nat.le_refl _) (rValue_any y f _ HVB.out)) | (go_at_call 111; with_reducible exact over_call (Nat.le_refl _) (rOf_any y (y.val f) _)) | (go_at_call 110; with_reducible exact over_call (Nat.le_refl _) (HP.out _))) | quiet_step (first | (go_at_call 112; with_reducible exact over_call (Nat.le_refl _) (rValue_any y f _ HVB.out)) | (go_at_call 111; with_reducible exact over_call (Nat.le_refl _) (rOf_any y (y.val f) _)) | (go_at_call 110; with_reducible exact over_call (Nat.le_refl _) (HP.out _))))); refine wpQuiet_nil ?_; rintro W ⟨x, rfl⟩
      have hbY := over_below wo.heap.size wo x
      generalize over wo.heap.size wo x = Y at hbY ⊢
      clear q0 q1 q2 c0
      have kY := carryK kO hbY
      have kRY := carryK kR hbY
      have cO := kY.cell
      have fO := kY.frozen
      obtain ⟨X, eX, kX, _, hfX, hX⟩ := set8 Y g7 78 _ _ _ _ _ _ _ _ (.int .i64 N.a.re) (.int .i64 N.a.im) (.int .i64 N.b.re) (.int .i64 N.b.im) (.int .i64 N.c.re) (.int .i64 N.c.im) (.int .i64 N.d.re) (.int .i64 N.d.im) kY
      have kRX := hfX _ _ _ (show w.heap.size ≠ g7 by omega) kRY
      have hbX := hX w.heap.size w (by omega) (below_next hbo hbY)
      clear hfX hX
      go_wp2_with fail
      rw [← eX]
      clear eX cO fO
      go_roundw
      case rel => exact ⟨k + 1, by omega, by go_num, by rw [HN.out]; exact kX, kRX, hbX⟩
      case measure => simp [intOf]; omega
    · obtain rfl : k = n := by omega
      have hT : l.take k = l := List.take_of_length_le (by rw [HL.out]; omega)
      rw [hT] at kO
      clear hT
      obtain ⟨M, hM⟩ : ∃ M, chn f .id l = M := ⟨_, rfl⟩
      rw [hM] at kO
      have HM := hide hM
      clear hM
      have cO := kO.cell
      have cR := kR.cell
      have fR := kR.frozen
      go_wp2_with fail
      with_reducible refine fin8 (B := w.heap.size) (v := w) 78 hbo (Nat.le_refl _) kR (fun X hX kX => ?_)
      have cX := kX.cell
      clear cO cR fR
      refine bodyPost_ret (v := .agg #[.int .i64 M.a.re, .int .i64 M.a.im, .int .i64 M.b.re, .int .i64 M.b.im, .int .i64 M.c.re, .int .i64 M.c.im, .int .i64 M.d.re, .int .i64 M.d.im]) (by simp [results, Tryz.results41, go_sem, cX]) rfl ?_
      exact ⟨by rw [HM.out], hX⟩
set_option maxHeartbeats 4000000 in
theorem rDivisor_ok (l : List El) (f : Int) (A : Option Addr) (n c : Nat) (w : World) (hl : LadOk l) (h1 : 1 ≤ f) (h8 : f ≤ 8) (h : Reads w w.heap.size 3 A n (els l)) :
    Calls Tryz.prog 42 #[.slice A n c, .int .i64 f] w fun e w' => e = .returned (.agg #[.int .i64 (dvs f .one l).re, .int .i64 (dvs f .one l).im]) ∧ Below w.heap.size w w' := by
  have HL := hide (els_reads_len h)
  have HOK := hide hl
  have hn5 : n ≤ 5 := by rw [← HL.out]; exact hl.len
  clear hl
  go_enter Tryz.func42, Tryz.ntmps42
  go_wp2_with fail
  obtain ⟨w1, e1, hb1, hz1, k0⟩ := box1 w #[.int .i64 0, .int .i64 0] 23
  rw [← e1]; clear e1
  refine (rOne_any _).mono ?_
  rintro e w2 ⟨rfl, hb2⟩
  go_upto_region 2 with (fail)
  obtain ⟨w6, e6, hb6, hz6, k6⟩ := box1 w2 #[.int .i64 G.one.re, .int .i64 G.one.im] 23
  rw [← e6]; clear e6
  have hbw6 : Below w.heap.size w w6 := (by repeat (first | with_reducible assumption | exact Below.refl _ _ | refine below_next (by with_reducible assumption) ?_))
  have k0' := carryK (w' := w6) k0 (by repeat (first | with_reducible assumption | exact Below.refl _ _ | refine below_next (by with_reducible assumption) ?_))
  have hg7 : w.heap.size + 1 ≤ w2.heap.size := by have := hb2.size; omega
  obtain ⟨g7, e7⟩ : ∃ g, w2.heap.size = g := ⟨_, rfl⟩
  have k6 : Blk w6 g7 23 #[.int .i64 G.one.re, .int .i64 G.one.im] := e7 ▸ k6
  rw [e7] at hg7 ⊢
  clear e7 hb1 hb2 hb6 k0
  go_wp2_with fail
  go_loopw [6] (fun i wr => ∃ k : Nat, k ≤ n ∧ i = .int .i64 k ∧ Blk wr g7 23 #[.int .i64 (dvs f .one (l.take k)).re, .int .i64 (dvs f .one (l.take k)).im] ∧ Blk wr w.heap.size 23 #[.int .i64 0, .int .i64 0] ∧ Below w.heap.size w wr) (fun i _ => n - (intOf i).toNat)
  case atStart => exact ⟨0, by omega, rfl, k6, k0', hbw6⟩
  case round =>
    rename World => wo
    obtain ⟨k, hk, rfl, kO, kR, hbo⟩ := hrel
    clear k6 k0' hbw6
    by_cases hlt : k < n
    · obtain ⟨ad, y, rfl, _, hxk, hcx⟩ := els_hit (carry h hbo) hlt (Nat.le_refl _)
      have hyo := HOK.out.all y (List.mem_of_getElem? hxk)
      have hvb := val_bd hyo h1 h8
      have hct := dvs_take (f := f) hxk
      have hin := G.w_in (Nat.le_trans (div_in (take_ok HOK.out (k + 1)) h1 h8) (by decide))
      have HVB := hide hvb
      obtain ⟨q0, q1, q2⟩ := hcx wo (Below.refl _ _)
      obtain ⟨D, hD⟩ : ∃ D, dvs f .one (l.take k) = D := ⟨_, rfl⟩
      obtain ⟨E, hE⟩ : ∃ E, dvs f .one (l.take (k + 1)) = E := ⟨_, rfl⟩
      rw [hD] at kO hct
      rw [hE] at hin hct
      have HE := hide hE
      have HIN := hide hin
      clear hxk hyo hvb hin hD hE
      cases hd : y.divides
      · rw [hd] at hct
        have HCT := hide hct
        have hkd : kDiv y.kind = false := hd
        clear hct hd
        go_wp2_with (go_at_call 102; refine (divides_any _ _).mono ?_; rintro e W' ⟨rfl, rfl⟩; rw [hkd])
        go_roundw
        case rel => exact ⟨k + 1, by omega, by go_num, by rw [HE.out, HCT.out]; exact kO, kR, hbo⟩
        case measure => simp [intOf]; omega
      · rw [hd] at hct
        have HP : Hid (∀ W, Calls Tryz.prog 61 #[.agg #[.int .i64 D.re, .int .i64 D.im], .agg #[.int .i64 (y.val f).re, .int .i64 (y.val f).im]] W fun e w' => e = .returned (.agg #[.int .i64 E.re, .int .i64 E.im]) ∧ Below W.heap.size W w') := fun W => by
          have := rTimes_any D (y.val f) W
          rw [← show E = D.mul (y.val f) from hct, HIN.out] at this
          exact this
        have hkd : kDiv y.kind = true := hd
        clear hct hd
        go_upto_region 6 with (go_at_call 102; refine (divides_any _ _).mono ?_; rintro e W' ⟨rfl, rfl⟩; rw [hkd])
        clear q0 q1 q2
        have q0 : ∀ x, (over wo.heap.size wo x).cell? (ad.add (k * 3)) = some (.string y.kind) := fun x => (hcx _ (over_below _ _ _)).1
        have q1 : ∀ x, (over wo.heap.size wo x).cell? ⟨(ad.add (k * 3)).block, (ad.add (k * 3)).off + 1, none⟩ = some (.int .i64 y.a) := fun x => (hcx _ (over_below _ _ _)).2.1
        have q2 : ∀ x, (over wo.heap.size wo x).cell? ⟨(ad.add (k * 3)).block, (ad.add (k * 3)).off + 2, none⟩ = some (.int .i64 y.b) := fun x => (hcx _ (over_below _ _ _)).2.2
        have c0 := over_blk kO kO.lt
        clear hcx
        refine wp_region_part 8 wo.heap.size (by kernel_rfl) (by kernel_rfl) ?_; simp only [List.take_succ_cons, List.take_zero, List.drop_succ_cons, List.drop_zero]; (repeat (first | go_big_quiet_step (first | (go_at_call 112; with_reducible exact over_call (Nat.le_refl _) (rValue_any y f _ HVB.out)) | (go_at_call 61; with_reducible exact over_call (Nat.le_refl _) (HP.out _))) | quiet_step (first | (go_at_call 112; with_reducible exact over_call (Nat.le_refl _) (rValue_any y f _ HVB.out)) | (go_at_call 61; with_reducible exact over_call (Nat.le_refl _) (HP.out _))))); refine wpQuiet_nil ?_; rintro W ⟨x, rfl⟩
        have hbY := over_below wo.heap.size wo x
        generalize over wo.heap.size wo x = Y at hbY ⊢
        clear q0 q1 q2 c0
        have kY := carryK kO hbY
        have kRY := carryK kR hbY
        have cO := kY.cell
        have fO := kY.frozen
        have kX := blk2 (u0 := .int .i64 E.re) (u1 := .int .i64 E.im) kY
        have kRX := far2 (u0 := .int .i64 E.re) (u1 := .int .i64 E.im) kRY (show w.heap.size ≠ g7 by omega)
        have hbX := below2 (u0 := .int .i64 E.re) (u1 := .int .i64 E.im) (below_next hbo hbY) (show w.heap.size ≤ g7 by omega)
        go_wp2_with fail
        go_roundw
        case rel => exact ⟨k + 1, by omega, by go_num, by rw [HE.out]; exact kX, kRX, hbX⟩
        case measure => simp [intOf]; omega
    · obtain rfl : k = n := by omega
      have hT : l.take k = l := List.take_of_length_le (by rw [HL.out]; omega)
      rw [hT] at kO
      clear hT
      obtain ⟨M, hM⟩ : ∃ M, dvs f .one l = M := ⟨_, rfl⟩
      rw [hM] at kO
      have HM := hide hM
      clear hM
      have cO := kO.cell
      have cR := kR.cell
      have fR := kR.frozen
      have kX := blk2 (u0 := .int .i64 M.re) (u1 := .int .i64 M.im) kR
      have hX := below2 (u0 := .int .i64 M.re) (u1 := .int .i64 M.im) hbo (Nat.le_refl w.heap.size)
      go_wp2_with fail
      have cX := kX.cell
      clear cO cR fR
      refine bodyPost_ret (v := .agg #[.int .i64 M.re, .int .i64 M.im]) (by simp [results, Tryz.results42, go_sem, cX]) rfl ?_
      exact ⟨by rw [HM.out], hX⟩
end Go.Proofs.YtnndaipnfniciaaGreatDoor
