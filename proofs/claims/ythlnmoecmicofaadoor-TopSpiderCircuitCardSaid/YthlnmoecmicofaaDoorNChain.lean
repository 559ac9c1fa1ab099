/- Chains of worlds; stores of whole structs. -/
import Derived.Test.YthlnmoecmicofaaDoorNKinds
namespace Go.Proofs.YthlnmoecmicofaaDoor
open Go.RowKit Go.Shelf
set_option maxRecDepth 100000

theorem below_next {a b c : World} (h1 : Below a.heap.size a b) (h2 : Below b.heap.size b c) : Below a.heap.size a c := below_step h1 h2 h1.size
theorem carry {w w' : World} {size n : Nat} {A : Option Addr} {xs : List Value} (h : Reads w w.heap.size size A n xs) (hb : Below w.heap.size w w') : Reads w' w'.heap.size size A n xs := (h.below hb).more hb.size
theorem carryK {w w' : World} {g : Nat} {t : TypeId} {cs : Array Value} (h : Blk w g t cs) (hb : Below w.heap.size w w') : Blk w' g t cs := h.below hb h.lt
theorem blkR {w : World} {g : Nat} {t : TypeId} {xs : List Int} {n : Nat} (h : Blk w g t (xs.map (Value.int .i64)).toArray) (hn : n = xs.length) : Reads w w.heap.size 1 (some ⟨g, 0, none⟩) n (ints xs) := by
  have := reads_block (n := n) (xs := xs) h (by omega) h.lt
  rwa [List.take_of_length_le (by omega)] at this
/-! ### Stores of a whole struct -/
section
variable {W v : World} {g g' : Nat} {t : TypeId} {cs : Array Value} {c0 c1 c2 c3 u0 u1 u2 u3 : Value} {B : Nat}
theorem blk4 (hk : Blk W g t #[c0, c1, c2, c3]) : Blk ((((W.setCell ⟨g, 0, none⟩ u0).setCell ⟨g, 1, none⟩ u1).setCell ⟨g, 2, none⟩ u2).setCell ⟨g, 3, none⟩ u3) g t #[u0, u1, u2, u3] := by
  simpa using (((hk.set_ 0 u0).set_ 1 u1).set_ 2 u2).set_ 3 u3
theorem far4 (hk : Blk W g' t cs) (hne : g' ≠ g) : Blk ((((W.setCell ⟨g, 0, none⟩ u0).setCell ⟨g, 1, none⟩ u1).setCell ⟨g, 2, none⟩ u2).setCell ⟨g, 3, none⟩ u3) g' t cs :=
  (((hk.far (p := ⟨g, 0, none⟩) hne u0).far (p := ⟨g, 1, none⟩) hne u1).far (p := ⟨g, 2, none⟩) hne u2).far (p := ⟨g, 3, none⟩) hne u3
theorem below4 (h : Below B v W) (hg : B ≤ g) : Below B v ((((W.setCell ⟨g, 0, none⟩ u0).setCell ⟨g, 1, none⟩ u1).setCell ⟨g, 2, none⟩ u2).setCell ⟨g, 3, none⟩ u3) :=
  below_set (below_set (below_set (below_set h hg _) hg _) hg _) hg _
theorem blk2 (hk : Blk W g t #[c0, c1]) : Blk ((W.setCell ⟨g, 0, none⟩ u0).setCell ⟨g, 1, none⟩ u1) g t #[u0, u1] := by
  simpa using (hk.set_ 0 u0).set_ 1 u1
theorem far2 (hk : Blk W g' t cs) (hne : g' ≠ g) : Blk ((W.setCell ⟨g, 0, none⟩ u0).setCell ⟨g, 1, none⟩ u1) g' t cs := (hk.far (p := ⟨g, 0, none⟩) hne u0).far (p := ⟨g, 1, none⟩) hne u1
theorem below2 (h : Below B v W) (hg : B ≤ g) : Below B v ((W.setCell ⟨g, 0, none⟩ u0).setCell ⟨g, 1, none⟩ u1) := below_set (below_set h hg _) hg _
variable {c4 c5 u4 u5 : Value}
theorem blk6 (hk : Blk W g t #[c0, c1, c2, c3, c4, c5]) : Blk ((((((W.setCell ⟨g, 0, none⟩ u0).setCell ⟨g, 1, none⟩ u1).setCell ⟨g, 2, none⟩ u2).setCell ⟨g, 3, none⟩ u3).setCell ⟨g, 4, none⟩ u4).setCell ⟨g, 5, none⟩ u5) g t #[u0, u1, u2, u3, u4, u5] := by
  simpa using (((((hk.set_ 0 u0).set_ 1 u1).set_ 2 u2).set_ 3 u3).set_ 4 u4).set_ 5 u5
theorem below6 (h : Below B v W) (hg : B ≤ g) : Below B v ((((((W.setCell ⟨g, 0, none⟩ u0).setCell ⟨g, 1, none⟩ u1).setCell ⟨g, 2, none⟩ u2).setCell ⟨g, 3, none⟩ u3).setCell ⟨g, 4, none⟩ u4).setCell ⟨g, 5, none⟩ u5) :=
  below_set (below_set (below_set (below_set (below_set (below_set h hg _) hg _) hg _) hg _) hg _) hg _
end
end Go.Proofs.YthlnmoecmicofaaDoor
