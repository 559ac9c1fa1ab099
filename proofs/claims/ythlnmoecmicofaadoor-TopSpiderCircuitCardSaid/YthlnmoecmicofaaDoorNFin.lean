/- Ends of regions: what becomes of worlds behind a region that makes memory. -/
import Derived.Test.YthlnmoecmicofaaDoorRange
import Derived.Test.YthlnmoecmicofaaDoorNLists
import Derived.Test.YthlnmoecmicofaaDoorOver
import Derived.Sort.CutIn
namespace Go.Proofs.YthlnmoecmicofaaDoor
open Go.RowKit Go.Shelf
set_option maxRecDepth 100000

theorem below_fro {w w' : World} (h : Below w.heap.size w w') : ∀ g i, g < w.heap.size → w'.frozen? ⟨g, i, none⟩ = w.frozen? ⟨g, i, none⟩ := fun g _ hg => h.frozen (p := ⟨g, _, none⟩) hg
theorem below_cel {w w' : World} (h : Below w.heap.size w w') : ∀ g i, g < w.heap.size → w'.cell? ⟨g, i, none⟩ = w.cell? ⟨g, i, none⟩ := fun g _ hg => h.cell (p := ⟨g, _, none⟩) hg
theorem alloc_cel : ∀ (W : World) (o : Obj) (g i : Nat), g < W.heap.size → (W.alloc o).cell? ⟨g, i, none⟩ = W.cell? ⟨g, i, none⟩ := fun W o _ _ hg => World.cell?_alloc_lt W o _ hg
theorem alloc_fro : ∀ (W : World) (o : Obj) (g i : Nat), g < W.heap.size → (W.alloc o).frozen? ⟨g, i, none⟩ = W.frozen? ⟨g, i, none⟩ := fun W o g i hg => ((Below.refl W.heap.size W).alloc (Nat.le_refl _) o).frozen (p := ⟨g, i, none⟩) hg
theorem below_lt {w w' : World} (h : Below w.heap.size w w') : ∀ g, g < w.heap.size → g < w'.heap.size := fun _ hg => Nat.lt_of_lt_of_le hg h.size
theorem below_le {w w' : World} (h : Below w.heap.size w w') : ∀ g, g ≤ w.heap.size → g ≤ w'.heap.size := fun _ hg => Nat.le_trans hg h.size
theorem below_blk {w w' : World} (h : Below w.heap.size w w') : ∀ g t cs, Blk w g t cs → Blk w' g t cs := fun _ _ _ hg => hg.below h hg.lt

theorem reads3' (w : World) (a b c : Int) (t : TypeId) (n : Nat) (hn : n = w.heap.size) : Reads (w.alloc (.cells #[.int .i64 a, .int .i64 b, .int .i64 c] t)) (w.alloc (.cells #[.int .i64 a, .int .i64 b, .int .i64 c] t)).heap.size 1 (some ⟨n, 0, none⟩) 3 (ints [a, b, c]) := by subst hn; exact (reads3 w a b c t).more (by simp)
theorem reads3x (w : World) (a b c : Int) (t : TypeId) (n : Nat) (hn : n = w.heap.size) (o : Obj) : Reads ((w.alloc (.cells #[.int .i64 a, .int .i64 b, .int .i64 c] t)).alloc o) ((w.alloc (.cells #[.int .i64 a, .int .i64 b, .int .i64 c] t)).alloc o).heap.size 1 (some ⟨n, 0, none⟩) 3 (ints [a, b, c]) := ((reads3' w a b c t n hn).alloc (Nat.le_refl _) o).more (by simp)

theorem Blk.newAt {w : World} {n : Nat} {t : TypeId} {cs : Array Value} (hn : n = w.heap.size) : Blk (w.alloc (.cells cs t)) n t cs := by subst hn; exact Blk.new w t cs
/-- A pair that was laid in the midst of a region, behind the four stores. -/
theorem fin4 {Q : World → Prop} {B : Nat} {v W : World} {g : Nat} {c0 c1 c2 c3 u0 u1 u2 u3 : Value} (t : TypeId) (hB : Below B v W) (hg : B ≤ g) (hk : Blk W g t #[c0, c1, c2, c3]) (h : ∀ X, Below B v X → Blk X g t #[u0, u1, u2, u3] → Q X) :
    Q ((((W.setCell ⟨g, 0, none⟩ u0).setCell ⟨g, 1, none⟩ u1).setCell ⟨g, 2, none⟩ u2).setCell ⟨g, 3, none⟩ u3) :=
  h _ (below_set (below_set (below_set (below_set hB hg _) hg _) hg _) hg _) (by simpa using (((hk.set_ 0 u0).set_ 1 u1).set_ 2 u2).set_ 3 u3)
theorem fin1 {Q : World → Prop} {v W : World} {cs : Array Value} {t : TypeId} (hB : Below v.heap.size v W) (h : ∀ X, Below v.heap.size v X → Blk X W.heap.size t cs → Q X) : Q (W.alloc (.cells cs t)) := h _ (below_new hB (Nat.le_refl _) _) (Blk.new _ _ _)

end Go.Proofs.YthlnmoecmicofaaDoor
