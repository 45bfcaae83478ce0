/- Chapter 39: ThresholdLimits: closed facts of its card, the first part. -/
import Derived.Test.YtlbmihpmcgiinaaGreatDoorLift6
import Derived.Test.YtlbmihpmcgiinaaGreatDoorWorld39
namespace Go.Proofs.YtlbmihpmcgiinaaGreatDoor.Own
open Go Go.Proofs

theorem text6 : OpenClaim.wfByText (OpenSpec.ofChange Go.Proofs.YtlbmihpmcgiinaaGreatDoor.Rows.thresholdLimitsSpec) Go.Proofs.YtlbmihpmcgiinaaGreatDoor.Rows.thresholdLimitsRow = true := by kernel_rfl
theorem main6 : Tryz.prog.mainIs = some (Go.Proofs.YtlbmihpmcgiinaaGreatDoor.Rows.thresholdLimitsCard.stood.harness.1, Go.Proofs.YtlbmihpmcgiinaaGreatDoor.Rows.thresholdLimitsCard.stood.harness.2.toList) := by kernel_rfl
theorem goes6 : false = Go.Proofs.YtlbmihpmcgiinaaGreatDoor.Rows.thresholdLimitsRow.goesBy Tryz.prog := goesBy_none nogo39 rfl
theorem looks6 : true = Tryz.prog.looks [] := by kernel_rfl
theorem stand6 : ([65, 65].all fun u => !Tryz.prog.wantsStandIn u) = true := by kernel_rfl


end Go.Proofs.YtlbmihpmcgiinaaGreatDoor.Own
