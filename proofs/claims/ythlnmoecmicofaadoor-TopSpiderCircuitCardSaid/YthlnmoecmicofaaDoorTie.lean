/-
  DERIVED. GIVEN WITH THE SEED: THE PROGRAM's TIES (one call each: nine closed facts by the kernel) AND EACH ROW's TIE, after the 31st guide's Derived/Test/Toyas{Tie, Card}.lean. No idea stands in it: it is a product of the set-up. Laid BY PROGRAM, IN A SANDBOX (cutbox-door.mjs). By AI agents, Wed Nov 11 2026. No macro, syntax, notation, axiom, sorry.
-/
import Derived.Test.YthlnmoecmicofaaDoorRows
import Derived.LaidByTextLater
import Derived.SevenTiedAt
import Derived.LaidSub
import Derived.LaidOnce
namespace Go.Proofs.YthlnmoecmicofaaDoor
open Go
set_option maxRecDepth 100000
theorem seatTie1 : Tryd.prog.laidByTextLater [("woofer/network.none", Rows.laid_woofer_network_none), ("woofer/network.one", Rows.laid_woofer_network_one), ("woofer/driver.limits", Rows.laid_woofer_driver_limits)] [.data, .data, .data] true :=
  Program.laidByTextLater_by_one 30 8 13 (by kernel_rfl) (by kernel_rfl) (by kernel_rfl) (by kernel_rfl) (by kernel_rfl) (by kernel_rfl) (fun _ _ => by kernel_rfl)
theorem noOwnUnsafe : Tryd.pinned.checked.prog.headLifts.contains "ownunsafe" = false := by kernel_rfl
theorem tie : Tryd.prog.laidByTextLater [("woofer/network.none", Rows.laid_woofer_network_none), ("woofer/network.one", Rows.laid_woofer_network_one), ("woofer/driver.limits", Rows.laid_woofer_driver_limits)] [.data, .data, .data] true :=
  Program.laidByTextLater.sub seatTie1 ["woofer/network.none", "woofer/network.one", "woofer/driver.limits"] (by kernel_rfl) (by kernel_rfl)
theorem topSpiderPower_row_tie : Rows.topSpiderPowerRow.laidByTextAt .later Tryd.pinned [.data, .data, .data] true :=
  OpenClaim.laidByTextAt_later rfl rfl tie noOwnUnsafe
theorem topSpiderCircuit_row_tie : Rows.topSpiderCircuitRow.laidByTextAt .later Tryd.pinned [.data, .data, .data] true :=
  OpenClaim.laidByTextAt_later rfl rfl tie noOwnUnsafe
theorem tie2 : Tryd.prog.laidByTextLater [("woofer/network.none", Rows.laid_woofer_network_none), ("woofer/network.one", Rows.laid_woofer_network_one)] [.data, .data] true :=
  Program.laidByTextLater.sub seatTie1 ["woofer/network.none", "woofer/network.one"] (by kernel_rfl) (by kernel_rfl)
theorem topDustLossless_row_tie : Rows.topDustLosslessRow.laidByTextAt .later Tryd.pinned [.data, .data] true :=
  OpenClaim.laidByTextAt_later rfl rfl tie2 noOwnUnsafe
theorem topDustRows_row_tie : Rows.topDustRowsRow.laidByTextAt .later Tryd.pinned [.data, .data] true :=
  OpenClaim.laidByTextAt_later rfl rfl tie2 noOwnUnsafe
theorem topSpiderPowerUpto_row_tie : Rows.topSpiderPowerUptoRow.laidByTextAt .later Tryd.pinned [.data, .data, .data] true :=
  OpenClaim.laidByTextAt_later rfl rfl tie noOwnUnsafe
theorem topDustLosslessUpto_row_tie : Rows.topDustLosslessUptoRow.laidByTextAt .later Tryd.pinned [.data, .data] true :=
  OpenClaim.laidByTextAt_later rfl rfl tie2 noOwnUnsafe
theorem topSpiderCircuitUpto_row_tie : Rows.topSpiderCircuitUptoRow.laidByTextAt .later Tryd.pinned [.data, .data, .data] true :=
  OpenClaim.laidByTextAt_later rfl rfl tie noOwnUnsafe
theorem topDustRowsUpto_row_tie : Rows.topDustRowsUptoRow.laidByTextAt .later Tryd.pinned [.data, .data] true :=
  OpenClaim.laidByTextAt_later rfl rfl tie2 noOwnUnsafe
end Go.Proofs.YthlnmoecmicofaaDoor
