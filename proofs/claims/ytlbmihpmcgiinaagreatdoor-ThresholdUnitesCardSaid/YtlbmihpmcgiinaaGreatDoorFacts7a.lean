/- Chapter 39: ThresholdUnites: the row's closed facts, the first part. -/
import Derived.Test.YtlbmihpmcgiinaaGreatDoorLift7
namespace Go.Proofs.YtlbmihpmcgiinaaGreatDoor.Own
open Go Go.Proofs
set_option maxRecDepth 100000

theorem j7_wf : Go.Proofs.YtlbmihpmcgiinaaGreatDoor.Rows.thresholdUnitesRow.wf (OpenSpec.ofChange Go.Proofs.YtlbmihpmcgiinaaGreatDoor.Rows.thresholdUnitesSpec) = true := by kernel_rfl
theorem j7_mr : mapsRowed Tryz.prog = true := by kernel_rfl
theorem j7_pr : Tryz.f7.params.all (Tryz.prog.readableRec ·) = true := by kernel_rfl
theorem j7_nt : namedTie Tryz.prog Go.Proofs.YtlbmihpmcgiinaaGreatDoor.Rows.thresholdUnitesRow.named Go.Proofs.YtlbmihpmcgiinaaGreatDoor.Rows.thresholdUnitesSpec.vars = true := by kernel_rfl
theorem j7_s1 : (Go.Proofs.YtlbmihpmcgiinaaGreatDoor.Rows.thresholdUnitesRow.stops == []) = true := by kernel_rfl
theorem j7_s2 : (Tryz.prog.stops == []) = true := by kernel_rfl
theorem j7_s3 : (Go.Proofs.YtlbmihpmcgiinaaGreatDoor.Rows.thresholdUnitesRow.knobs == []) = true := by kernel_rfl
theorem j7_s4 : (Tryz.prog.stopKnobs == []) = true := by kernel_rfl
theorem j7_ip : (Go.Proofs.YtlbmihpmcgiinaaGreatDoor.Rows.thresholdUnitesRow.inPlace == Tryz.prog.inPlace 7) = true := by kernel_rfl
theorem j7_uf : (Go.Proofs.YtlbmihpmcgiinaaGreatDoor.Rows.thresholdUnitesRow.unfollowed == Tryz.prog.unfollowed 7) = true := by kernel_rfl
theorem j7_rc : (Go.Proofs.YtlbmihpmcgiinaaGreatDoor.Rows.thresholdUnitesRow.recurses == Tryz.prog.recurses 7) = true := by kernel_rfl
theorem j7_nm : (Go.Proofs.YtlbmihpmcgiinaaGreatDoor.Rows.thresholdUnitesRow.named == Tryz.prog.varsNamed 7) = true := by kernel_rfl

theorem and2 {a b : Bool} (ha : a = true) (hb : b = true) : (a && b) = true := by rw [ha, hb]; rfl

end Go.Proofs.YtlbmihpmcgiinaaGreatDoor.Own
