/- Chapter 39: ThresholdMerges: closed facts of its card, the first part. -/
import Derived.Test.YtlbmihpmcgiinaaGreatDoorLift5
import Derived.Test.YtlbmihpmcgiinaaGreatDoorWorld39
namespace Go.Proofs.YtlbmihpmcgiinaaGreatDoor.Own
open Go Go.Proofs

theorem text5 : OpenClaim.wfByText (OpenSpec.ofChange Go.Proofs.YtlbmihpmcgiinaaGreatDoor.Rows.thresholdMergesSpec) Go.Proofs.YtlbmihpmcgiinaaGreatDoor.Rows.thresholdMergesRow = true := by kernel_rfl
theorem main5 : Tryz.prog.mainIs = some (Go.Proofs.YtlbmihpmcgiinaaGreatDoor.Rows.thresholdMergesCard.stood.harness.1, Go.Proofs.YtlbmihpmcgiinaaGreatDoor.Rows.thresholdMergesCard.stood.harness.2.toList) := by kernel_rfl
theorem goes5 : false = Go.Proofs.YtlbmihpmcgiinaaGreatDoor.Rows.thresholdMergesRow.goesBy Tryz.prog := goesBy_none nogo39 rfl
theorem looks5 : true = Tryz.prog.looks [] := by kernel_rfl
theorem stand5 : ([22, 22].all fun u => !Tryz.prog.wantsStandIn u) = true := by kernel_rfl


end Go.Proofs.YtlbmihpmcgiinaaGreatDoor.Own
