/- The reference's chain matrices: one, zero, value, of, Product. The reference's Product, Chain, Divisor, CheckAt, Short. The reference's Chain, Divisor, CheckAt, Short. -/
import Derived.Test.YtnndaipnfniciaaDoorBaseQ
import Derived.Test.YtnndaipnfniciaaDoorBaseS
import Derived.Test.YtnndaipnfniciaaDoorBaseO
namespace Go.Proofs.YtnndaipnfniciaaDoor
open Go.RowKit Go.Shelf
set_option maxRecDepth 100000
end Go.Proofs.YtnndaipnfniciaaDoor

namespace Go.Proofs.YtnndaipnfniciaaDoor
open Go.RowKit Go.Shelf
set_option maxRecDepth 100000
/-- The cells of the first k entries of a product. -/
def prCells (p q : Mat) (k : Nat) : Array Value :=
  let m := (p.mul q).w
  #[.int .i64 (if 0 < k then m.a.re else 0), .int .i64 (if 0 < k then m.a.im else 0), .int .i64 (if 1 < k then m.b.re else 0), .int .i64 (if 1 < k then m.b.im else 0), .int .i64 (if 2 < k then m.c.re else 0), .int .i64 (if 2 < k then m.c.im else 0), .int .i64 (if 3 < k then m.d.re else 0), .int .i64 (if 3 < k then m.d.im else 0)]
theorem rPlus_w (p q : G) (w : World) :
    Calls Tryd.prog 51 #[.agg #[.int .i64 p.w.re, .int .i64 p.w.im], .agg #[.int .i64 q.w.re, .int .i64 q.w.im]] w fun e w' => e = .returned (.agg #[.int .i64 (p.add q).w.re, .int .i64 (p.add q).w.im]) ∧ Below w.heap.size w w' := by
  have := rPlus_any p.w q.w w
  rwa [G.w_add] at this
theorem far2v {W : World} {g g' : Nat} {t : TypeId} {cs : Array Value} (hk : Blk W g t cs) (hne : g ≠ g') (i : Nat) (u v : Value) : Blk ((W.setCell ⟨g', i, none⟩ u).setCell ⟨g', i + 1, none⟩ v) g t cs :=
  (hk.far (p := ⟨g', i, none⟩) hne u).far (p := ⟨g', i + 1, none⟩) hne v
set_option maxHeartbeats 8000000 in
theorem rProduct_any (p q : Mat) (w : World) :
    Calls Tryd.prog 20 #[.agg #[.int .i64 p.a.re, .int .i64 p.a.im, .int .i64 p.b.re, .int .i64 p.b.im, .int .i64 p.c.re, .int .i64 p.c.im, .int .i64 p.d.re, .int .i64 p.d.im], .agg #[.int .i64 q.a.re, .int .i64 q.a.im, .int .i64 q.b.re, .int .i64 q.b.im, .int .i64 q.c.re, .int .i64 q.c.im, .int .i64 q.d.re, .int .i64 q.d.im]] w fun e w' => e = .returned (.agg #[.int .i64 (p.mul q).w.a.re, .int .i64 (p.mul q).w.a.im, .int .i64 (p.mul q).w.b.re, .int .i64 (p.mul q).w.b.im, .int .i64 (p.mul q).w.c.re, .int .i64 (p.mul q).w.c.im, .int .i64 (p.mul q).w.d.re, .int .i64 (p.mul q).w.d.im]) ∧ Below w.heap.size w w' := by
  go_enter Tryd.func20, Tryd.ntmps20
  go_wp2_with fail
  obtain ⟨w1, e1, hb1, hz1, k0, k1, k2, k3⟩ := box4 w #[.int .i64 p.a.re, .int .i64 p.a.im, .int .i64 p.b.re, .int .i64 p.b.im, .int .i64 p.c.re, .int .i64 p.c.im, .int .i64 p.d.re, .int .i64 p.d.im] #[.int .i64 q.a.re, .int .i64 q.a.im, .int .i64 q.b.re, .int .i64 q.b.im, .int .i64 q.c.re, .int .i64 q.c.im, .int .i64 q.d.re, .int .i64 q.d.im] #[.int .i64 0, .int .i64 0, .int .i64 0, .int .i64 0, .int .i64 0, .int .i64 0, .int .i64 0, .int .i64 0] #[.int .i64 0, .int .i64 0, .int .i64 0, .int .i64 0, .int .i64 0, .int .i64 0, .int .i64 0, .int .i64 0] 55 55 55 55
  rw [← e1]; clear e1
  obtain ⟨g1, hg1⟩ : ∃ g, w.heap.size + 1 = g := ⟨_, rfl⟩
  obtain ⟨g2, hg2⟩ : ∃ g, w.heap.size + 1 + 1 = g := ⟨_, rfl⟩
  obtain ⟨g3, hg3'⟩ : ∃ g, w.heap.size + 1 + 1 + 1 = g := ⟨_, rfl⟩
  have k1 : Blk w1 g1 55 #[.int .i64 q.a.re, .int .i64 q.a.im, .int .i64 q.b.re, .int .i64 q.b.im, .int .i64 q.c.re, .int .i64 q.c.im, .int .i64 q.d.re, .int .i64 q.d.im] := hg1 ▸ k1
  have k2 : Blk w1 g2 55 _ := hg2 ▸ k2
  have k3 : Blk w1 g3 55 _ := hg3' ▸ k3
  have d1 : w.heap.size + 1 ≤ g1 ∧ g1 ≤ w.heap.size + 1 := by omega
  have d2 : w.heap.size + 2 ≤ g2 ∧ g2 ≤ w.heap.size + 2 := by omega
  have d3 : w.heap.size + 3 ≤ g3 ∧ g3 ≤ w.heap.size + 3 := by omega
  have hg3 : w.heap.size ≤ g3 := by omega
  rw [hg3', hg2, hg1]
  clear hg1 hg2 hg3'
  go_loopw [6] (fun i wr => ∃ n : Nat, n ≤ 2 ∧ i = .int .i64 n ∧ Blk wr w.heap.size 55 #[.int .i64 p.a.re, .int .i64 p.a.im, .int .i64 p.b.re, .int .i64 p.b.im, .int .i64 p.c.re, .int .i64 p.c.im, .int .i64 p.d.re, .int .i64 p.d.im] ∧ Blk wr g1 55 #[.int .i64 q.a.re, .int .i64 q.a.im, .int .i64 q.b.re, .int .i64 q.b.im, .int .i64 q.c.re, .int .i64 q.c.im, .int .i64 q.d.re, .int .i64 q.d.im] ∧ Blk wr g2 55 #[.int .i64 0, .int .i64 0, .int .i64 0, .int .i64 0, .int .i64 0, .int .i64 0, .int .i64 0, .int .i64 0] ∧ Blk wr g3 55 (prCells p q (2 * n)) ∧ Below w.heap.size w wr) (fun i _ => 2 - (intOf i).toNat)
  case atStart => exact ⟨0, by omega, rfl, k0, k1, k2, k3, hb1⟩
  case round =>
    rename World => wo
    obtain ⟨n, hn, rfl, kA, kB, kR, kO, hbo⟩ := hrel
    clear k0 k1 k2 k3 hb1
    have hc : n = 0 ∨ n = 1 ∨ n = 2 := by omega
    rcases hc with rfl | rfl | rfl
    · skip
      go_wp2_with fail
      go_loopw [7] (fun k wr => ∃ j : Nat, j ≤ 2 ∧ k = .int .i64 j ∧ Blk wr w.heap.size 55 #[.int .i64 p.a.re, .int .i64 p.a.im, .int .i64 p.b.re, .int .i64 p.b.im, .int .i64 p.c.re, .int .i64 p.c.im, .int .i64 p.d.re, .int .i64 p.d.im] ∧ Blk wr g1 55 #[.int .i64 q.a.re, .int .i64 q.a.im, .int .i64 q.b.re, .int .i64 q.b.im, .int .i64 q.c.re, .int .i64 q.c.im, .int .i64 q.d.re, .int .i64 q.d.im] ∧ Blk wr g2 55 #[.int .i64 0, .int .i64 0, .int .i64 0, .int .i64 0, .int .i64 0, .int .i64 0, .int .i64 0, .int .i64 0] ∧ Blk wr g3 55 (prCells p q (2 * 0 + j)) ∧ Below w.heap.size w wr) (fun k _ => 2 - (intOf k).toNat)
      case atStart => exact ⟨0, by omega, rfl, kA, kB, kR, kO, hbo⟩
      case round =>
        rename World => wi
        clear kA kB kR kO hbo
        obtain ⟨j, hj, rfl, kA, kB, kR, kO, hbo⟩ := hrel
        have hc : j = 0 ∨ j = 1 ∨ j = 2 := by omega
        rcases hc with rfl | rfl | rfl
        · simp [prCells] at kO
          have W0 : IntKind.i64.wrap 0 = 0 := rfl
          have W1 : IntKind.i64.wrap 1 = 1 := rfl
          have W2 : IntKind.i64.wrap 2 = 2 := rfl
          have W3 : IntKind.i64.wrap 3 = 3 := rfl
          go_upto_region 8 with (fail)
          have cA := over_blk kA kA.lt
          have cB := over_blk kB kB.lt
          refine wp_region_part 23 wi.heap.size (by kernel_rfl) (by kernel_rfl) ?_; simp only [List.take_succ_cons, List.take_zero, List.drop_succ_cons, List.drop_zero]; (repeat (first | go_big_quiet_step (first | (go_at_call 52; with_reducible first | exact over_call (Nat.le_refl _) (rTimes_any p.a q.a _) | exact over_call (Nat.le_refl _) (rTimes_any p.b q.c _)) | (go_at_call 51; with_reducible exact over_call (Nat.le_refl _) (rPlus_w (p.a.mul q.a) (p.b.mul q.c) _))) | quiet_step (first | (go_at_call 52; with_reducible first | exact over_call (Nat.le_refl _) (rTimes_any p.a q.a _) | exact over_call (Nat.le_refl _) (rTimes_any p.b q.c _)) | (go_at_call 51; with_reducible exact over_call (Nat.le_refl _) (rPlus_w (p.a.mul q.a) (p.b.mul q.c) _))))); refine wpQuiet_nil ?_; rintro W ⟨x, rfl⟩
          have hb46 := over_below wi.heap.size wi x
          generalize over wi.heap.size wi x = Y at hb46 ⊢
          clear cA cB W0 W1 W2 W3
          have kO6 := carryK kO hb46
          have kA6 := carryK kA hb46
          have kB6 := carryK kB hb46
          have kR6 := carryK kR hb46
          have hbo6 := below_next hbo hb46
          have cO := kO6.cell
          have fO := kO6.frozen
          go_wp2_with fail
          have kX := (kO6.set_ (2 * 0) (.int .i64 ((p.a.mul q.a).add (p.b.mul q.c)).w.re)).set_ (2 * 0 + 1) (.int .i64 ((p.a.mul q.a).add (p.b.mul q.c)).w.im)
          have kA7 := far2v (g' := g3) kA6 (by omega) (2 * 0) (.int .i64 ((p.a.mul q.a).add (p.b.mul q.c)).w.re) (.int .i64 ((p.a.mul q.a).add (p.b.mul q.c)).w.im)
          have kB7 := far2v (g' := g3) kB6 (by omega) (2 * 0) (.int .i64 ((p.a.mul q.a).add (p.b.mul q.c)).w.re) (.int .i64 ((p.a.mul q.a).add (p.b.mul q.c)).w.im)
          have kR7 := far2v (g' := g3) kR6 (by omega) (2 * 0) (.int .i64 ((p.a.mul q.a).add (p.b.mul q.c)).w.re) (.int .i64 ((p.a.mul q.a).add (p.b.mul q.c)).w.im)
          have hX := below_set (i := 2 * 0 + 1) (below_set (i := 2 * 0) hbo6 hg3 (.int .i64 ((p.a.mul q.a).add (p.b.mul q.c)).w.re)) hg3 (.int .i64 ((p.a.mul q.a).add (p.b.mul q.c)).w.im)
          go_roundw
          case rel => exact ⟨1, by omega, rfl, kA7, kB7, kR7, by simpa [prCells, Mat.w, Mat.mul] using kX, hX⟩
          case measure => simp [intOf]
        · simp [prCells] at kO
          have W0 : IntKind.i64.wrap 0 = 0 := rfl
          have W1 : IntKind.i64.wrap 1 = 1 := rfl
          have W2 : IntKind.i64.wrap 2 = 2 := rfl
          have W3 : IntKind.i64.wrap 3 = 3 := rfl
          go_upto_region 8 with (fail)
          have cA := over_blk kA kA.lt
          have cB := over_blk kB kB.lt
          refine wp_region_part 23 wi.heap.size (by kernel_rfl) (by kernel_rfl) ?_; simp only [List.take_succ_cons, List.take_zero, List.drop_succ_cons, List.drop_zero]; (repeat (first | go_big_quiet_step (first | (go_at_call 52; with_reducible first | exact over_call (Nat.le_refl _) (rTimes_any p.a q.b _) | exact over_call (Nat.le_refl _) (rTimes_any p.b q.d _)) | (go_at_call 51; with_reducible exact over_call (Nat.le_refl _) (rPlus_w (p.a.mul q.b) (p.b.mul q.d) _))) | quiet_step (first | (go_at_call 52; with_reducible first | exact over_call (Nat.le_refl _) (rTimes_any p.a q.b _) | exact over_call (Nat.le_refl _) (rTimes_any p.b q.d _)) | (go_at_call 51; with_reducible exact over_call (Nat.le_refl _) (rPlus_w (p.a.mul q.b) (p.b.mul q.d) _))))); refine wpQuiet_nil ?_; rintro W ⟨x, rfl⟩
          have hb46 := over_below wi.heap.size wi x
          generalize over wi.heap.size wi x = Y at hb46 ⊢
          clear cA cB W0 W1 W2 W3
          have kO6 := carryK kO hb46
          have kA6 := carryK kA hb46
          have kB6 := carryK kB hb46
          have kR6 := carryK kR hb46
          have hbo6 := below_next hbo hb46
          have cO := kO6.cell
          have fO := kO6.frozen
          go_wp2_with fail
          have kX := (kO6.set_ (2 * 1) (.int .i64 ((p.a.mul q.b).add (p.b.mul q.d)).w.re)).set_ (2 * 1 + 1) (.int .i64 ((p.a.mul q.b).add (p.b.mul q.d)).w.im)
          have kA7 := far2v (g' := g3) kA6 (by omega) (2 * 1) (.int .i64 ((p.a.mul q.b).add (p.b.mul q.d)).w.re) (.int .i64 ((p.a.mul q.b).add (p.b.mul q.d)).w.im)
          have kB7 := far2v (g' := g3) kB6 (by omega) (2 * 1) (.int .i64 ((p.a.mul q.b).add (p.b.mul q.d)).w.re) (.int .i64 ((p.a.mul q.b).add (p.b.mul q.d)).w.im)
          have kR7 := far2v (g' := g3) kR6 (by omega) (2 * 1) (.int .i64 ((p.a.mul q.b).add (p.b.mul q.d)).w.re) (.int .i64 ((p.a.mul q.b).add (p.b.mul q.d)).w.im)
          have hX := below_set (i := 2 * 1 + 1) (below_set (i := 2 * 1) hbo6 hg3 (.int .i64 ((p.a.mul q.b).add (p.b.mul q.d)).w.re)) hg3 (.int .i64 ((p.a.mul q.b).add (p.b.mul q.d)).w.im)
          go_roundw
          case rel => exact ⟨2, by omega, rfl, kA7, kB7, kR7, by simpa [prCells, Mat.w, Mat.mul] using kX, hX⟩
          case measure => simp [intOf]
        · go_wp2_with fail
          go_roundw
          case rel => exact ⟨0 + 1, by omega, rfl, kA, kB, kR, kO, hbo⟩
          case measure => simp [intOf]
    · skip
      go_wp2_with fail
      go_loopw [7] (fun k wr => ∃ j : Nat, j ≤ 2 ∧ k = .int .i64 j ∧ Blk wr w.heap.size 55 #[.int .i64 p.a.re, .int .i64 p.a.im, .int .i64 p.b.re, .int .i64 p.b.im, .int .i64 p.c.re, .int .i64 p.c.im, .int .i64 p.d.re, .int .i64 p.d.im] ∧ Blk wr g1 55 #[.int .i64 q.a.re, .int .i64 q.a.im, .int .i64 q.b.re, .int .i64 q.b.im, .int .i64 q.c.re, .int .i64 q.c.im, .int .i64 q.d.re, .int .i64 q.d.im] ∧ Blk wr g2 55 #[.int .i64 0, .int .i64 0, .int .i64 0, .int .i64 0, .int .i64 0, .int .i64 0, .int .i64 0, .int .i64 0] ∧ Blk wr g3 55 (prCells p q (2 * 1 + j)) ∧ Below w.heap.size w wr) (fun k _ => 2 - (intOf k).toNat)
      case atStart => exact ⟨0, by omega, rfl, kA, kB, kR, kO, hbo⟩
      case round =>
        rename World => wi
        clear kA kB kR kO hbo
        obtain ⟨j, hj, rfl, kA, kB, kR, kO, hbo⟩ := hrel
        have hc : j = 0 ∨ j = 1 ∨ j = 2 := by omega
        rcases hc with rfl | rfl | rfl
        · simp [prCells] at kO
          have W0 : IntKind.i64.wrap 0 = 0 := rfl
          have W1 : IntKind.i64.wrap 1 = 1 := rfl
          have W2 : IntKind.i64.wrap 2 = 2 := rfl
          have W3 : IntKind.i64.wrap 3 = 3 := rfl
          go_upto_region 8 with (fail)
          have cA := over_blk kA kA.lt
          have cB := over_blk kB kB.lt
          refine wp_region_part 23 wi.heap.size (by kernel_rfl) (by kernel_rfl) ?_; simp only [List.take_succ_cons, List.take_zero, List.drop_succ_cons, List.drop_zero]; (repeat (first | go_big_quiet_step (first | (go_at_call 52; with_reducible first | exact over_call (Nat.le_refl _) (rTimes_any p.c q.a _) | exact over_call (Nat.le_refl _) (rTimes_any p.d q.c _)) | (go_at_call 51; with_reducible exact over_call (Nat.le_refl _) (rPlus_w (p.c.mul q.a) (p.d.mul q.c) _))) | quiet_step (first | (go_at_call 52; with_reducible first | exact over_call (Nat.le_refl _) (rTimes_any p.c q.a _) | exact over_call (Nat.le_refl _) (rTimes_any p.d q.c _)) | (go_at_call 51; with_reducible exact over_call (Nat.le_refl _) (rPlus_w (p.c.mul q.a) (p.d.mul q.c) _))))); refine wpQuiet_nil ?_; rintro W ⟨x, rfl⟩
          have hb46 := over_below wi.heap.size wi x
          generalize over wi.heap.size wi x = Y at hb46 ⊢
          clear cA cB W0 W1 W2 W3
          have kO6 := carryK kO hb46
          have kA6 := carryK kA hb46
          have kB6 := carryK kB hb46
          have kR6 := carryK kR hb46
          have hbo6 := below_next hbo hb46
          have cO := kO6.cell
          have fO := kO6.frozen
          go_wp2_with fail
          have kX := (kO6.set_ (2 * 2) (.int .i64 ((p.c.mul q.a).add (p.d.mul q.c)).w.re)).set_ (2 * 2 + 1) (.int .i64 ((p.c.mul q.a).add (p.d.mul q.c)).w.im)
          have kA7 := far2v (g' := g3) kA6 (by omega) (2 * 2) (.int .i64 ((p.c.mul q.a).add (p.d.mul q.c)).w.re) (.int .i64 ((p.c.mul q.a).add (p.d.mul q.c)).w.im)
          have kB7 := far2v (g' := g3) kB6 (by omega) (2 * 2) (.int .i64 ((p.c.mul q.a).add (p.d.mul q.c)).w.re) (.int .i64 ((p.c.mul q.a).add (p.d.mul q.c)).w.im)
          have kR7 := far2v (g' := g3) kR6 (by omega) (2 * 2) (.int .i64 ((p.c.mul q.a).add (p.d.mul q.c)).w.re) (.int .i64 ((p.c.mul q.a).add (p.d.mul q.c)).w.im)
          have hX := below_set (i := 2 * 2 + 1) (below_set (i := 2 * 2) hbo6 hg3 (.int .i64 ((p.c.mul q.a).add (p.d.mul q.c)).w.re)) hg3 (.int .i64 ((p.c.mul q.a).add (p.d.mul q.c)).w.im)
          go_roundw
          case rel => exact ⟨1, by omega, rfl, kA7, kB7, kR7, by simpa [prCells, Mat.w, Mat.mul] using kX, hX⟩
          case measure => simp [intOf]
        · simp [prCells] at kO
          have W0 : IntKind.i64.wrap 0 = 0 := rfl
          have W1 : IntKind.i64.wrap 1 = 1 := rfl
          have W2 : IntKind.i64.wrap 2 = 2 := rfl
          have W3 : IntKind.i64.wrap 3 = 3 := rfl
          go_upto_region 8 with (fail)
          have cA := over_blk kA kA.lt
          have cB := over_blk kB kB.lt
          refine wp_region_part 23 wi.heap.size (by kernel_rfl) (by kernel_rfl) ?_; simp only [List.take_succ_cons, List.take_zero, List.drop_succ_cons, List.drop_zero]; (repeat (first | go_big_quiet_step (first | (go_at_call 52; with_reducible first | exact over_call (Nat.le_refl _) (rTimes_any p.c q.b _) | exact over_call (Nat.le_refl _) (rTimes_any p.d q.d _)) | (go_at_call 51; with_reducible exact over_call (Nat.le_refl _) (rPlus_w (p.c.mul q.b) (p.d.mul q.d) _))) | quiet_step (first | (go_at_call 52; with_reducible first | exact over_call (Nat.le_refl _) (rTimes_any p.c q.b _) | exact over_call (Nat.le_refl _) (rTimes_any p.d q.d _)) | (go_at_call 51; with_reducible exact over_call (Nat.le_refl _) (rPlus_w (p.c.mul q.b) (p.d.mul q.d) _))))); refine wpQuiet_nil ?_; rintro W ⟨x, rfl⟩
          have hb46 := over_below wi.heap.size wi x
          generalize over wi.heap.size wi x = Y at hb46 ⊢
          clear cA cB W0 W1 W2 W3
          have kO6 := carryK kO hb46
          have kA6 := carryK kA hb46
          have kB6 := carryK kB hb46
          have kR6 := carryK kR hb46
          have hbo6 := below_next hbo hb46
          have cO := kO6.cell
          have fO := kO6.frozen
          go_wp2_with fail
          have kX := (kO6.set_ (2 * 3) (.int .i64 ((p.c.mul q.b).add (p.d.mul q.d)).w.re)).set_ (2 * 3 + 1) (.int .i64 ((p.c.mul q.b).add (p.d.mul q.d)).w.im)
          have kA7 := far2v (g' := g3) kA6 (by omega) (2 * 3) (.int .i64 ((p.c.mul q.b).add (p.d.mul q.d)).w.re) (.int .i64 ((p.c.mul q.b).add (p.d.mul q.d)).w.im)
          have kB7 := far2v (g' := g3) kB6 (by omega) (2 * 3) (.int .i64 ((p.c.mul q.b).add (p.d.mul q.d)).w.re) (.int .i64 ((p.c.mul q.b).add (p.d.mul q.d)).w.im)
          have kR7 := far2v (g' := g3) kR6 (by omega) (2 * 3) (.int .i64 ((p.c.mul q.b).add (p.d.mul q.d)).w.re) (.int .i64 ((p.c.mul q.b).add (p.d.mul q.d)).w.im)
          have hX := below_set (i := 2 * 3 + 1) (below_set (i := 2 * 3) hbo6 hg3 (.int .i64 ((p.c.mul q.b).add (p.d.mul q.d)).w.re)) hg3 (.int .i64 ((p.c.mul q.b).add (p.d.mul q.d)).w.im)
          go_roundw
          case rel => exact ⟨2, by omega, rfl, kA7, kB7, kR7, by simpa [prCells, Mat.w, Mat.mul] using kX, hX⟩
          case measure => simp [intOf]
        · go_wp2_with fail
          go_roundw
          case rel => exact ⟨1 + 1, by omega, rfl, kA, kB, kR, kO, hbo⟩
          case measure => simp [intOf]
    · simp [prCells] at kO
      have cO := kO.cell
      have cR := kR.cell
      have fR := kR.frozen
      go_wp2_with fail
      with_reducible refine fin8 (B := w.heap.size) (v := w) 55 hbo (by omega) kR (fun X hX kX => ?_)
      have cX := kX.cell
      clear cO cR fR
      refine bodyPost_ret (v := .agg #[.int .i64 (p.mul q).w.a.re, .int .i64 (p.mul q).w.a.im, .int .i64 (p.mul q).w.b.re, .int .i64 (p.mul q).w.b.im, .int .i64 (p.mul q).w.c.re, .int .i64 (p.mul q).w.c.im, .int .i64 (p.mul q).w.d.re, .int .i64 (p.mul q).w.d.im]) (by simp [results, Tryd.results20, go_sem, cX]) rfl ?_
      exact ⟨rfl, hX⟩
end Go.Proofs.YtnndaipnfniciaaDoor

namespace Go.Proofs.YtnndaipnfniciaaDoor
open Go.RowKit Go.Shelf
set_option maxRecDepth 100000
theorem rCheckLadder_all (A : Option Addr) (n c : Nat) (l : List El) (w : World) (h : Reads w w.heap.size 3 A n (els l)) :
    Calls Tryd.prog 5 #[.slice A n c] w fun r w' => r = .returned (.int .i64 (ladErr l)) ∧ Below w.heap.size w w' := by
  by_cases hn : n ≤ 1000000000000
  · exact rCheckLadder_any A n c l w h hn
  · have hz0 : ladErr l = 5 := by unfold ladErr; rw [if_pos (by rw [els_reads_len h]; omega)]
    have HZ0 := hide hz0
    have g5 : (5 : Int) < (n : Int) := by omega
    clear hz0
    go_enter Tryd.func5, Tryd.ntmps5
    go_wp2_with fail
    go_ret
    exact ⟨by rw [HZ0.out]; rfl, Below.refl _ _⟩
theorem val_bd {x : El} (h : x.Ok) {f : Int} (h1 : 1 ≤ f) (h8 : f ≤ 8) : 0 ≤ f * x.b ∧ f * x.b ≤ 64 := by
  have a := Int.mul_nonneg (show 0 ≤ f by omega) h.bl
  have b := Int.mul_le_mul h8 h.bh h.bl (by omega)
  omega
theorem chn_take {f : Int} {l : List El} {k : Nat} {x : El} (h : l[k]? = some x) : chn f .id (l.take (k + 1)) = (chn f .id (l.take k)).mul (x.mat (x.val f)) := by
  rw [List.take_add_one, h]; show chn f .id (l.take k ++ [x]) = _; rw [chn_append]; rfl
theorem dvs_take {f : Int} {l : List El} {k : Nat} {x : El} (h : l[k]? = some x) : dvs f .one (l.take (k + 1)) = if x.divides then (dvs f .one (l.take k)).mul (x.val f) else dvs f .one (l.take k) := by
  rw [List.take_add_one, h]
  show (l.take k ++ [x]).foldl _ _ = _
  rw [List.foldl_append]; rfl
theorem take_ok {l : List El} (h : LadOk l) (k : Nat) : LadOk (l.take k) := ⟨by have := h.len; rw [List.length_take]; omega, fun x hx => h.all x (List.mem_of_mem_take hx)⟩
end Go.Proofs.YtnndaipnfniciaaDoor
