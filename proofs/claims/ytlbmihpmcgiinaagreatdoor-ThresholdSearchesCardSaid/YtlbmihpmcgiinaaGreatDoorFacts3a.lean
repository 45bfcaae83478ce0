/- Chapter 39: ThresholdSearches: the row's closed facts, the first part. -/
import Derived.Test.YtlbmihpmcgiinaaGreatDoorLift3
namespace Go.Proofs.YtlbmihpmcgiinaaGreatDoor.Own
open Go Go.Proofs
set_option maxRecDepth 100000

theorem j3_wf : Go.Proofs.YtlbmihpmcgiinaaGreatDoor.Rows.thresholdSearchesRow.wf (OpenSpec.ofChange Go.Proofs.YtlbmihpmcgiinaaGreatDoor.Rows.thresholdSearchesSpec) = true := by kernel_rfl
theorem j3_mr : mapsRowed Tryz.prog = true := by kernel_rfl
theorem j3_pr : Tryz.f3.params.all (Tryz.prog.readableRec ·) = true := by kernel_rfl
theorem j3_nt : namedTie Tryz.prog Go.Proofs.YtlbmihpmcgiinaaGreatDoor.Rows.thresholdSearchesRow.named Go.Proofs.YtlbmihpmcgiinaaGreatDoor.Rows.thresholdSearchesSpec.vars = true := by kernel_rfl
theorem j3_s1 : (Go.Proofs.YtlbmihpmcgiinaaGreatDoor.Rows.thresholdSearchesRow.stops == []) = true := by kernel_rfl
theorem j3_s2 : (Tryz.prog.stops == []) = true := by kernel_rfl
theorem j3_s3 : (Go.Proofs.YtlbmihpmcgiinaaGreatDoor.Rows.thresholdSearchesRow.knobs == []) = true := by kernel_rfl
theorem j3_s4 : (Tryz.prog.stopKnobs == []) = true := by kernel_rfl
theorem j3_ip : (Go.Proofs.YtlbmihpmcgiinaaGreatDoor.Rows.thresholdSearchesRow.inPlace == Tryz.prog.inPlace 3) = true := by kernel_rfl
theorem j3_uf : (Go.Proofs.YtlbmihpmcgiinaaGreatDoor.Rows.thresholdSearchesRow.unfollowed == Tryz.prog.unfollowed 3) = true := by kernel_rfl
theorem j3_rc : (Go.Proofs.YtlbmihpmcgiinaaGreatDoor.Rows.thresholdSearchesRow.recurses == Tryz.prog.recurses 3) = true := by kernel_rfl
theorem j3_nm : (Go.Proofs.YtlbmihpmcgiinaaGreatDoor.Rows.thresholdSearchesRow.named == Tryz.prog.varsNamed 3) = true := by kernel_rfl

theorem and2 {a b : Bool} (ha : a = true) (hb : b = true) : (a && b) = true := by rw [ha, hb]; rfl

end Go.Proofs.YtlbmihpmcgiinaaGreatDoor.Own
