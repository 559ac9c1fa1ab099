/- Ladders in a row: slices.Concat, Join. -/
import Derived.Test.YtnndaipnfniciaaDoorBaseQ
import Derived.Lib.AppendZeros
import Derived.Lib.AppendZerosOnto
import Derived.Lib.SliceRun
namespace Go.Proofs.YtnndaipnfniciaaDoor
open Go.RowKit Go.Shelf
set_option maxRecDepth 100000
end Go.Proofs.YtnndaipnfniciaaDoor
