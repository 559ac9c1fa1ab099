/- Two stores of two cells each at a region's end. -/
import Derived.Test.YthlnmoecmicofaaDoorNChain
namespace Go.Proofs.YthlnmoecmicofaaDoor
open Go.RowKit Go.Shelf
set_option maxRecDepth 100000
theorem fin22 {Q : World → Prop} {B : Nat} {v W : World} {g1 g2 : Nat} {t1 t2 : TypeId} {c0 c1 c2 c3 u0 u1 u2 u3 : Value} (hne : g1 ≠ g2) (hB : Below B v W) (h1 : B ≤ g1) (h2 : B ≤ g2) (k1 : Blk W g1 t1 #[c0, c1]) (k2 : Blk W g2 t2 #[c2, c3]) (h : ∀ X, Below B v X → Blk X g1 t1 #[u0, u1] → Blk X g2 t2 #[u2, u3] → Q X) :
    Q ((((W.setCell ⟨g1, 0, none⟩ u0).setCell ⟨g1, 1, none⟩ u1).setCell ⟨g2, 0, none⟩ u2).setCell ⟨g2, 1, none⟩ u3) :=
  h _ (below2 (below2 hB h1) h2) (far2 (blk2 k1) hne) (blk2 (far2 k2 (fun q => hne q.symm)))
end Go.Proofs.YthlnmoecmicofaaDoor
