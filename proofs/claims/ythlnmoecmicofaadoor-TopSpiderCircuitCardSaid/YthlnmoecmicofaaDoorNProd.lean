/- Products of matrices, of the program; the matrices of the kinds of elements. -/
import Derived.Test.YthlnmoecmicofaaDoorNLad
namespace Go.Proofs.YthlnmoecmicofaaDoor
open Go.RowKit Go.Shelf
set_option maxRecDepth 100000

theorem set8 (w : World) (b : Nat) (t : TypeId) (c0 c1 c2 c3 c4 c5 c6 c7 u0 u1 u2 u3 u4 u5 u6 u7 : Value) (hk : Blk w b t #[c0, c1, c2, c3, c4, c5, c6, c7]) :
    ∃ w1, w1 = (((((((w.setCell ⟨b, 0, none⟩ u0).setCell ⟨b, 1, none⟩ u1).setCell ⟨b, 2, none⟩ u2).setCell ⟨b, 3, none⟩ u3).setCell ⟨b, 4, none⟩ u4).setCell ⟨b, 5, none⟩ u5).setCell ⟨b, 6, none⟩ u6).setCell ⟨b, 7, none⟩ u7 ∧
      Blk w1 b t #[u0, u1, u2, u3, u4, u5, u6, u7] ∧ w1.heap.size = w.heap.size ∧ (∀ g t' cs', g ≠ b → Blk w g t' cs' → Blk w1 g t' cs') ∧ (∀ B v, B ≤ b → Below B v w → Below B v w1) := by
  have k := (((((((hk.set_ 0 u0).set_ 1 u1).set_ 2 u2).set_ 3 u3).set_ 4 u4).set_ 5 u5).set_ 6 u6).set_ 7 u7
  refine ⟨_, rfl, by simpa using k, by simp [World.setCell], fun g t' cs' hg h => ?_, fun B v hB h => ?_⟩
  · exact (((((((h.far (p := ⟨b, 0, none⟩) hg _).far (p := ⟨b, 1, none⟩) hg _).far (p := ⟨b, 2, none⟩) hg _).far (p := ⟨b, 3, none⟩) hg _).far (p := ⟨b, 4, none⟩) hg _).far (p := ⟨b, 5, none⟩) hg _).far (p := ⟨b, 6, none⟩) hg _).far (p := ⟨b, 7, none⟩) hg _
  · exact below_set (below_set (below_set (below_set (below_set (below_set (below_set (below_set h hB _) hB _) hB _) hB _) hB _) hB _) hB _) hB _
theorem fin8 {Q : World → Prop} {B : Nat} {v W : World} {g : Nat} {c0 c1 c2 c3 c4 c5 c6 c7 u0 u1 u2 u3 u4 u5 u6 u7 : Value} (t : TypeId) (hB : Below B v W) (hg : B ≤ g) (hk : Blk W g t #[c0, c1, c2, c3, c4, c5, c6, c7]) (h : ∀ X, Below B v X → Blk X g t #[u0, u1, u2, u3, u4, u5, u6, u7] → Q X) :
    Q ((((((((W.setCell ⟨g, 0, none⟩ u0).setCell ⟨g, 1, none⟩ u1).setCell ⟨g, 2, none⟩ u2).setCell ⟨g, 3, none⟩ u3).setCell ⟨g, 4, none⟩ u4).setCell ⟨g, 5, none⟩ u5).setCell ⟨g, 6, none⟩ u6).setCell ⟨g, 7, none⟩ u7) := by
  obtain ⟨w1, e1, k, _, _, hb⟩ := set8 W g t c0 c1 c2 c3 c4 c5 c6 c7 u0 u1 u2 u3 u4 u5 u6 u7 hk
  rw [← e1]
  exact h _ (hb B v hg hB) k
def z8 : Array Value := #[.int .i64 0, .int .i64 0, .int .i64 0, .int .i64 0, .int .i64 0, .int .i64 0, .int .i64 0, .int .i64 0]

set_option maxHeartbeats 2000000 in
theorem product_any (p q : Mat) (w : World) :
    Calls Tryd.prog 78 #[.agg #[.int .i64 p.a.re, .int .i64 p.a.im, .int .i64 p.b.re, .int .i64 p.b.im, .int .i64 p.c.re, .int .i64 p.c.im, .int .i64 p.d.re, .int .i64 p.d.im], .agg #[.int .i64 q.a.re, .int .i64 q.a.im, .int .i64 q.b.re, .int .i64 q.b.im, .int .i64 q.c.re, .int .i64 q.c.im, .int .i64 q.d.re, .int .i64 q.d.im]] w fun e w' => e = .returned (.agg #[.int .i64 (p.mul q).w.a.re, .int .i64 (p.mul q).w.a.im, .int .i64 (p.mul q).w.b.re, .int .i64 (p.mul q).w.b.im, .int .i64 (p.mul q).w.c.re, .int .i64 (p.mul q).w.c.im, .int .i64 (p.mul q).w.d.re, .int .i64 (p.mul q).w.d.im]) ∧ Below w.heap.size w w' := by
  go_enter Tryd.func78, Tryd.ntmps78
  go_wp2_with fail
  obtain ⟨w1, e1, hb1, hz1, k0, k1, k2⟩ := box3 w #[.int .i64 p.a.re, .int .i64 p.a.im, .int .i64 p.b.re, .int .i64 p.b.im, .int .i64 p.c.re, .int .i64 p.c.im, .int .i64 p.d.re, .int .i64 p.d.im] #[.int .i64 q.a.re, .int .i64 q.a.im, .int .i64 q.b.re, .int .i64 q.b.im, .int .i64 q.c.re, .int .i64 q.c.im, .int .i64 q.d.re, .int .i64 q.d.im] #[.int .i64 0, .int .i64 0, .int .i64 0, .int .i64 0, .int .i64 0, .int .i64 0, .int .i64 0, .int .i64 0] 38 38 38
  rw [← e1]; clear e1
  have c0 := over_blk k0 k0.lt
  have c1 := over_blk k1 k1.lt
  refine wp_region_part 45 w1.heap.size (by kernel_rfl) (by kernel_rfl) ?_; simp only [List.take_succ_cons, List.take_zero, List.drop_succ_cons, List.drop_zero]; (repeat (first | go_big_quiet_step (first | (go_at_call 55; with_reducible first | exact over_call (Nat.le_refl _) (times_any p.a q.a _) | exact over_call (Nat.le_refl _) (times_any p.b q.c _) | exact over_call (Nat.le_refl _) (times_any p.a q.b _) | exact over_call (Nat.le_refl _) (times_any p.b q.d _) | exact over_call (Nat.le_refl _) (times_any p.c q.a _) | exact over_call (Nat.le_refl _) (times_any p.d q.c _) | exact over_call (Nat.le_refl _) (times_any p.c q.b _) | exact over_call (Nat.le_refl _) (times_any p.d q.d _)) | (go_at_call 101; with_reducible first | exact over_call (Nat.le_refl _) (plus_any (p.a.mul q.a).w (p.b.mul q.c).w _) | exact over_call (Nat.le_refl _) (plus_any (p.a.mul q.b).w (p.b.mul q.d).w _) | exact over_call (Nat.le_refl _) (plus_any (p.c.mul q.a).w (p.d.mul q.c).w _) | exact over_call (Nat.le_refl _) (plus_any (p.c.mul q.b).w (p.d.mul q.d).w _))) | quiet_step (first | (go_at_call 55; with_reducible first | exact over_call (Nat.le_refl _) (times_any p.a q.a _) | exact over_call (Nat.le_refl _) (times_any p.b q.c _) | exact over_call (Nat.le_refl _) (times_any p.a q.b _) | exact over_call (Nat.le_refl _) (times_any p.b q.d _) | exact over_call (Nat.le_refl _) (times_any p.c q.a _) | exact over_call (Nat.le_refl _) (times_any p.d q.c _) | exact over_call (Nat.le_refl _) (times_any p.c q.b _) | exact over_call (Nat.le_refl _) (times_any p.d q.d _)) | (go_at_call 101; with_reducible first | exact over_call (Nat.le_refl _) (plus_any (p.a.mul q.a).w (p.b.mul q.c).w _) | exact over_call (Nat.le_refl _) (plus_any (p.a.mul q.b).w (p.b.mul q.d).w _) | exact over_call (Nat.le_refl _) (plus_any (p.c.mul q.a).w (p.d.mul q.c).w _) | exact over_call (Nat.le_refl _) (plus_any (p.c.mul q.b).w (p.d.mul q.d).w _))))); refine wpQuiet_nil ?_; rintro W ⟨x, rfl⟩
  have hbY := over_below w1.heap.size w1 x
  generalize over w1.heap.size w1 x = Y at hbY ⊢
  clear c0 c1
  have k3 := k2.below hbY k2.lt
  have c3 := k3.cell
  have f3 := k3.frozen
  go_wp2_with fail
  with_reducible refine fin8 (B := w.heap.size) (v := w) 38 (below_step hb1 hbY hb1.size) (by omega) k3 (fun X hX kX => ?_)
  rw [G.w_add, G.w_add, G.w_add, G.w_add] at kX
  have cX := kX.cell
  clear c3 f3
  refine bodyPost_ret (v := .agg #[.int .i64 (p.mul q).w.a.re, .int .i64 (p.mul q).w.a.im, .int .i64 (p.mul q).w.b.re, .int .i64 (p.mul q).w.b.im, .int .i64 (p.mul q).w.c.re, .int .i64 (p.mul q).w.c.im, .int .i64 (p.mul q).w.d.re, .int .i64 (p.mul q).w.d.im]) (by simp [results, Tryd.results78, go_sem, cX, Mat.w, Mat.mul]) rfl ?_
  exact ⟨rfl, hX⟩
end Go.Proofs.YthlnmoecmicofaaDoor
