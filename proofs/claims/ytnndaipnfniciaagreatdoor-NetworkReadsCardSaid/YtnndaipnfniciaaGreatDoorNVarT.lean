/- What the laws on texts ask of the variables. -/
import Derived.Test.YtnndaipnfniciaaGreatDoorNLiftN
import Derived.Test.YtnndaipnfniciaaGreatDoorNInt
namespace Go.Proofs.YtnndaipnfniciaaGreatDoor
open Go.RowKit Go.Shelf
set_option maxRecDepth 100000
/-- What the laws on texts ask of the variables. -/
structure VarsT (w : World) : Prop where
  n : VarsN w
  x : TxV w
theorem VarsT.carry {w w' : World} (h : VarsT w) (hb : Below w.heap.size w w') : VarsT w' := ⟨h.n.carry hb, h.x.carry hb⟩
end Go.Proofs.YtnndaipnfniciaaGreatDoor
