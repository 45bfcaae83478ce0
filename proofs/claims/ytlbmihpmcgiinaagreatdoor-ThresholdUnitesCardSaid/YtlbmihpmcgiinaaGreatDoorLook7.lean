/- Chapter 39: ThresholdUnites: closed facts of its card, the first part. -/
import Derived.Test.YtlbmihpmcgiinaaGreatDoorLift7
import Derived.Test.YtlbmihpmcgiinaaGreatDoorWorld39
namespace Go.Proofs.YtlbmihpmcgiinaaGreatDoor.Own
open Go Go.Proofs

theorem text7 : OpenClaim.wfByText (OpenSpec.ofChange Go.Proofs.YtlbmihpmcgiinaaGreatDoor.Rows.thresholdUnitesSpec) Go.Proofs.YtlbmihpmcgiinaaGreatDoor.Rows.thresholdUnitesRow = true := by kernel_rfl
theorem main7 : Tryz.prog.mainIs = some (Go.Proofs.YtlbmihpmcgiinaaGreatDoor.Rows.thresholdUnitesCard.stood.harness.1, Go.Proofs.YtlbmihpmcgiinaaGreatDoor.Rows.thresholdUnitesCard.stood.harness.2.toList) := by kernel_rfl
theorem goes7 : false = Go.Proofs.YtlbmihpmcgiinaaGreatDoor.Rows.thresholdUnitesRow.goesBy Tryz.prog := goesBy_none nogo39 rfl
theorem looks7 : true = Tryz.prog.looks [] := by kernel_rfl
theorem stand7 : ([22, 22, 23].all fun u => !Tryz.prog.wantsStandIn u) = true := by kernel_rfl


end Go.Proofs.YtlbmihpmcgiinaaGreatDoor.Own
