/- The reference's Input, Shorted, Transfer, Level, Power, Lossless. -/
import Derived.Test.YtnndaipnfniciaaDoorBaseR
import Derived.Test.YtnndaipnfniciaaDoorBaseW
import Derived.Test.YtnndaipnfniciaaDoorNBey
namespace Go.Proofs.YtnndaipnfniciaaDoor
open Go.RowKit Go.Shelf
set_option maxRecDepth 100000
end Go.Proofs.YtnndaipnfniciaaDoor
