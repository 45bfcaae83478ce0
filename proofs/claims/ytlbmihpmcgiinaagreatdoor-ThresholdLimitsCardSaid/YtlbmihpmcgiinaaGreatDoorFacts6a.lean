/- Chapter 39: ThresholdLimits: the row's closed facts, the first part. -/
import Derived.Test.YtlbmihpmcgiinaaGreatDoorLift6
namespace Go.Proofs.YtlbmihpmcgiinaaGreatDoor.Own
open Go Go.Proofs
set_option maxRecDepth 100000

theorem j6_wf : Go.Proofs.YtlbmihpmcgiinaaGreatDoor.Rows.thresholdLimitsRow.wf (OpenSpec.ofChange Go.Proofs.YtlbmihpmcgiinaaGreatDoor.Rows.thresholdLimitsSpec) = true := by kernel_rfl
theorem j6_mr : mapsRowed Tryz.prog = true := by kernel_rfl
theorem j6_pr : Tryz.f6.params.all (Tryz.prog.readableRec ·) = true := by kernel_rfl
theorem j6_nt : namedTie Tryz.prog Go.Proofs.YtlbmihpmcgiinaaGreatDoor.Rows.thresholdLimitsRow.named Go.Proofs.YtlbmihpmcgiinaaGreatDoor.Rows.thresholdLimitsSpec.vars = true := by kernel_rfl
theorem j6_s1 : (Go.Proofs.YtlbmihpmcgiinaaGreatDoor.Rows.thresholdLimitsRow.stops == []) = true := by kernel_rfl
theorem j6_s2 : (Tryz.prog.stops == []) = true := by kernel_rfl
theorem j6_s3 : (Go.Proofs.YtlbmihpmcgiinaaGreatDoor.Rows.thresholdLimitsRow.knobs == []) = true := by kernel_rfl
theorem j6_s4 : (Tryz.prog.stopKnobs == []) = true := by kernel_rfl
theorem j6_ip : (Go.Proofs.YtlbmihpmcgiinaaGreatDoor.Rows.thresholdLimitsRow.inPlace == Tryz.prog.inPlace 6) = true := by kernel_rfl
theorem j6_uf : (Go.Proofs.YtlbmihpmcgiinaaGreatDoor.Rows.thresholdLimitsRow.unfollowed == Tryz.prog.unfollowed 6) = true := by kernel_rfl
theorem j6_rc : (Go.Proofs.YtlbmihpmcgiinaaGreatDoor.Rows.thresholdLimitsRow.recurses == Tryz.prog.recurses 6) = true := by kernel_rfl
theorem j6_nm : (Go.Proofs.YtlbmihpmcgiinaaGreatDoor.Rows.thresholdLimitsRow.named == Tryz.prog.varsNamed 6) = true := by kernel_rfl

theorem and2 {a b : Bool} (ha : a = true) (hb : b = true) : (a && b) = true := by rw [ha, hb]; rfl

end Go.Proofs.YtlbmihpmcgiinaaGreatDoor.Own
