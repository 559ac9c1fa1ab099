/- Facts of the program that every row asks. -/
import Derived.Test.YtpcmflfinlkeiaaGreatDoorSLift
namespace Go.Proofs.YtpcmflfinlkeiaaGreatDoor
open Go.ChangeShapes Go.WideShapes Go.ChangeAt Go.WideElems Go.RowKit
set_option maxRecDepth 100000
theorem fa1 : mapsRowed Tryz.prog = true := by kernel_rfl
theorem fa4 : Tryz.prog.plainKeys = false := by kernel_rfl
theorem fa5 : Tryz.prog.stopsHeard = true := by kernel_rfl
theorem fa6 : Tryz.prog.mayEnter = true := by kernel_rfl
theorem fa7 : Tryz.prog.liftsFinal = Rows.sectionTextsRow.lifted := by kernel_rfl
theorem fa8 : Tryz.prog.make = some Rows.sectionTextsRow.make := by kernel_rfl
end Go.Proofs.YtpcmflfinlkeiaaGreatDoor
