/- Lossless, of the program. -/
import Derived.Test.YtnndaipnfniciaaDoorBaseO
namespace Go.Proofs.YtnndaipnfniciaaDoor
open Go.RowKit Go.Shelf
set_option maxRecDepth 100000

/-- No element has a resistance. -/
def lossB (l : List El) : Bool := l.all fun x => decide (x.a = 0)
theorem lossB_iff {l : List El} : lossB l = true ↔ ∀ x ∈ l, x.a = 0 := by simp [lossB]
end Go.Proofs.YtnndaipnfniciaaDoor
