/- Chapter 39: ThresholdMerges: the row's closed facts. -/
import Derived.Test.YtlbmihpmcgiinaaGreatDoorFacts5a
namespace Go.Proofs.YtlbmihpmcgiinaaGreatDoor.Own
open Go Go.Proofs
set_option maxRecDepth 100000

theorem j5_m1 : (Go.Proofs.YtlbmihpmcgiinaaGreatDoor.Rows.thresholdMergesRow.maps == (Tryz.f5.params.toList ++ Go.Proofs.YtlbmihpmcgiinaaGreatDoor.Rows.thresholdMergesSpec.plain.varTypes Tryz.prog).any (Tryz.prog.mapsRec ·)) = true := by kernel_rfl
theorem j5_m2 : (Go.Proofs.YtlbmihpmcgiinaaGreatDoor.Rows.thresholdMergesRow.ifaces == (Tryz.f5.params.toList ++ Go.Proofs.YtlbmihpmcgiinaaGreatDoor.Rows.thresholdMergesSpec.plain.varTypes Tryz.prog).any (Tryz.prog.ifacesRec ·)) = true := by kernel_rfl
theorem j5_m3 : (Go.Proofs.YtlbmihpmcgiinaaGreatDoor.Rows.thresholdMergesRow.mapsOut == Tryz.prog.mapsAmong Tryz.f5.resultTypes.toList) = true := by kernel_rfl
theorem j5_l1 : (Go.Proofs.YtlbmihpmcgiinaaGreatDoor.Rows.thresholdMergesRow.loops == (Tryz.f5.params.toList ++ Go.Proofs.YtlbmihpmcgiinaaGreatDoor.Rows.thresholdMergesSpec.plain.varTypes Tryz.prog).any (Tryz.prog.loopsFrom ·)) = true := by kernel_rfl
theorem j5_l2 : (Go.Proofs.YtlbmihpmcgiinaaGreatDoor.Rows.thresholdMergesRow.wideKeys == (Tryz.f5.params.toList ++ Go.Proofs.YtlbmihpmcgiinaaGreatDoor.Rows.thresholdMergesSpec.plain.varTypes Tryz.prog ++ Tryz.f5.resultTypes.toList).any (Tryz.prog.wideKeysFrom ·)) = true := by kernel_rfl
theorem j5_v1 : Go.Proofs.YtlbmihpmcgiinaaGreatDoor.Rows.thresholdMergesSpec.vars.all (Tryz.prog.varReadable ·) = true := by kernel_rfl
theorem j5_v2 : Tryz.f5.resultTypes.all (fun t => Tryz.prog.readableRec t && decide (t < Tryz.prog.types.size)) = true := by kernel_rfl
theorem j5_o1 : (Go.Proofs.YtlbmihpmcgiinaaGreatDoor.Rows.thresholdMergesRow.ifacesOut == Tryz.f5.resultTypes.toList.any (Tryz.prog.ifacesRec ·)) = true := by kernel_rfl
theorem j5_o2 : (Go.Proofs.YtlbmihpmcgiinaaGreatDoor.Rows.thresholdMergesRow.loopsOut == Tryz.f5.resultTypes.toList.any (Tryz.prog.loopsFrom ·)) = true := by kernel_rfl
theorem j5_pk : (Go.Proofs.YtlbmihpmcgiinaaGreatDoor.Rows.thresholdMergesRow.plainKeys == Tryz.prog.plainKeys) = true := by kernel_rfl
theorem j5_st : Go.Proofs.YtlbmihpmcgiinaaGreatDoor.Rows.thresholdMergesRow.shortTexts.isNone = true := by kernel_rfl
theorem j5_sh : Tryz.prog.stopsHeard = true := by kernel_rfl
theorem j5_me : Tryz.prog.mayEnter = true := by kernel_rfl
theorem j5_lf : (Go.Proofs.YtlbmihpmcgiinaaGreatDoor.Rows.thresholdMergesRow.lifted == Tryz.prog.liftsFinal) = true := by kernel_rfl
theorem j5_mk : (Tryz.prog.make == some Go.Proofs.YtlbmihpmcgiinaaGreatDoor.Rows.thresholdMergesRow.make) = true := by kernel_rfl
theorem j5_ks : (Go.Proofs.YtlbmihpmcgiinaaGreatDoor.Rows.thresholdMergesRow.kinds == (if Go.Proofs.YtlbmihpmcgiinaaGreatDoor.Rows.thresholdMergesRow.domain.isEmpty then [] else Tryz.f5.params.toList.map fun t => match Tryz.prog.underlying t with | some (.int k) => some k | _ => none)) = true := by kernel_rfl
theorem j5_pb : (Go.Proofs.YtlbmihpmcgiinaaGreatDoor.Rows.thresholdMergesRow.pinned == Go.Proofs.YtlbmihpmcgiinaaGreatDoor.Rows.thresholdMergesRow.pinnedBy) = true := by kernel_rfl
theorem j5_ve : (Go.Proofs.YtlbmihpmcgiinaaGreatDoor.Rows.thresholdMergesRow.veiled == (Tryz.f5.params.toList ++ Go.Proofs.YtlbmihpmcgiinaaGreatDoor.Rows.thresholdMergesSpec.plain.varTypes Tryz.prog ++ Tryz.f5.resultTypes.toList).any (Tryz.prog.veiledRec ·)) = true := by kernel_rfl
theorem j5_vf : Go.Proofs.YtlbmihpmcgiinaaGreatDoor.Rows.thresholdMergesRow.veiledFits Tryz.prog Tryz.f5.params.toList (Tryz.f5.params.toList ++ Go.Proofs.YtlbmihpmcgiinaaGreatDoor.Rows.thresholdMergesSpec.plain.varTypes Tryz.prog ++ Tryz.f5.resultTypes.toList) = true := by kernel_rfl
theorem j5_fn : Tryz.prog.funcNamed "surveyor/surveyorlaw39.ThresholdMerges" = some 5 := by kernel_rfl

theorem facts5 : joinedFacts Tryz.prog 5 Tryz.f5 Go.Proofs.YtlbmihpmcgiinaaGreatDoor.Rows.thresholdMergesSpec Go.Proofs.YtlbmihpmcgiinaaGreatDoor.Rows.thresholdMergesRow = true := by
  unfold joinedFacts
  exact and2 (and2 (and2 (and2 (and2 (and2 (and2 (and2 (and2 (and2 (and2 (and2 (and2 (and2 (and2 (and2 (and2 (and2 (and2 (and2 (and2 (and2 (and2 (and2 (and2 (and2 (and2 (and2 (and2 (and2 (and2 (j5_wf) laidOut39) j5_mr) j5_pr) j5_nt) j5_s1) j5_s2) j5_s3) j5_s4) j5_ip) j5_uf) j5_rc) j5_nm) j5_m1) j5_m2) j5_m3) j5_l1) j5_l2) j5_v1) j5_v2) j5_o1) j5_o2) j5_pk) j5_st) j5_sh) j5_me) j5_lf) j5_mk) j5_ks) j5_pb) j5_ve) j5_vf

end Go.Proofs.YtlbmihpmcgiinaaGreatDoor.Own
