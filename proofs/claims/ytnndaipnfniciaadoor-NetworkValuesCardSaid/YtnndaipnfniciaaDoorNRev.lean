/- Reversed ladders: slices.Reverse, Reverse. -/
import Derived.Test.YtnndaipnfniciaaDoorNJoin
import Derived.Deep.OwnRows
import Derived.Laws.CopyOwn
import Derived.BigRegion
namespace Go.Proofs.YtnndaipnfniciaaDoor
open Go.RowKit Go.Shelf
set_option maxRecDepth 100000
end Go.Proofs.YtnndaipnfniciaaDoor
