/- Chapter 39: ThresholdMerges: the row's closed facts, the first part. -/
import Derived.Test.YtlbmihpmcgiinaaGreatDoorLift5
namespace Go.Proofs.YtlbmihpmcgiinaaGreatDoor.Own
open Go Go.Proofs
set_option maxRecDepth 100000

theorem j5_wf : Go.Proofs.YtlbmihpmcgiinaaGreatDoor.Rows.thresholdMergesRow.wf (OpenSpec.ofChange Go.Proofs.YtlbmihpmcgiinaaGreatDoor.Rows.thresholdMergesSpec) = true := by kernel_rfl
theorem j5_mr : mapsRowed Tryz.prog = true := by kernel_rfl
theorem j5_pr : Tryz.f5.params.all (Tryz.prog.readableRec ·) = true := by kernel_rfl
theorem j5_nt : namedTie Tryz.prog Go.Proofs.YtlbmihpmcgiinaaGreatDoor.Rows.thresholdMergesRow.named Go.Proofs.YtlbmihpmcgiinaaGreatDoor.Rows.thresholdMergesSpec.vars = true := by kernel_rfl
theorem j5_s1 : (Go.Proofs.YtlbmihpmcgiinaaGreatDoor.Rows.thresholdMergesRow.stops == []) = true := by kernel_rfl
theorem j5_s2 : (Tryz.prog.stops == []) = true := by kernel_rfl
theorem j5_s3 : (Go.Proofs.YtlbmihpmcgiinaaGreatDoor.Rows.thresholdMergesRow.knobs == []) = true := by kernel_rfl
theorem j5_s4 : (Tryz.prog.stopKnobs == []) = true := by kernel_rfl
theorem j5_ip : (Go.Proofs.YtlbmihpmcgiinaaGreatDoor.Rows.thresholdMergesRow.inPlace == Tryz.prog.inPlace 5) = true := by kernel_rfl
theorem j5_uf : (Go.Proofs.YtlbmihpmcgiinaaGreatDoor.Rows.thresholdMergesRow.unfollowed == Tryz.prog.unfollowed 5) = true := by kernel_rfl
theorem j5_rc : (Go.Proofs.YtlbmihpmcgiinaaGreatDoor.Rows.thresholdMergesRow.recurses == Tryz.prog.recurses 5) = true := by kernel_rfl
theorem j5_nm : (Go.Proofs.YtlbmihpmcgiinaaGreatDoor.Rows.thresholdMergesRow.named == Tryz.prog.varsNamed 5) = true := by kernel_rfl

theorem and2 {a b : Bool} (ha : a = true) (hb : b = true) : (a && b) = true := by rw [ha, hb]; rfl

end Go.Proofs.YtlbmihpmcgiinaaGreatDoor.Own
