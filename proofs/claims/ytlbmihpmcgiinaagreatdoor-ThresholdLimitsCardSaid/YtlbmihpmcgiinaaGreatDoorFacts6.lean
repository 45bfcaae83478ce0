/- Chapter 39: ThresholdLimits: the row's closed facts. -/
import Derived.Test.YtlbmihpmcgiinaaGreatDoorFacts6a
namespace Go.Proofs.YtlbmihpmcgiinaaGreatDoor.Own
open Go Go.Proofs
set_option maxRecDepth 100000

theorem j6_m1 : (Go.Proofs.YtlbmihpmcgiinaaGreatDoor.Rows.thresholdLimitsRow.maps == (Tryz.f6.params.toList ++ Go.Proofs.YtlbmihpmcgiinaaGreatDoor.Rows.thresholdLimitsSpec.plain.varTypes Tryz.prog).any (Tryz.prog.mapsRec ·)) = true := by kernel_rfl
theorem j6_m2 : (Go.Proofs.YtlbmihpmcgiinaaGreatDoor.Rows.thresholdLimitsRow.ifaces == (Tryz.f6.params.toList ++ Go.Proofs.YtlbmihpmcgiinaaGreatDoor.Rows.thresholdLimitsSpec.plain.varTypes Tryz.prog).any (Tryz.prog.ifacesRec ·)) = true := by kernel_rfl
theorem j6_m3 : (Go.Proofs.YtlbmihpmcgiinaaGreatDoor.Rows.thresholdLimitsRow.mapsOut == Tryz.prog.mapsAmong Tryz.f6.resultTypes.toList) = true := by kernel_rfl
theorem j6_l1 : (Go.Proofs.YtlbmihpmcgiinaaGreatDoor.Rows.thresholdLimitsRow.loops == (Tryz.f6.params.toList ++ Go.Proofs.YtlbmihpmcgiinaaGreatDoor.Rows.thresholdLimitsSpec.plain.varTypes Tryz.prog).any (Tryz.prog.loopsFrom ·)) = true := by kernel_rfl
theorem j6_l2 : (Go.Proofs.YtlbmihpmcgiinaaGreatDoor.Rows.thresholdLimitsRow.wideKeys == (Tryz.f6.params.toList ++ Go.Proofs.YtlbmihpmcgiinaaGreatDoor.Rows.thresholdLimitsSpec.plain.varTypes Tryz.prog ++ Tryz.f6.resultTypes.toList).any (Tryz.prog.wideKeysFrom ·)) = true := by kernel_rfl
theorem j6_v1 : Go.Proofs.YtlbmihpmcgiinaaGreatDoor.Rows.thresholdLimitsSpec.vars.all (Tryz.prog.varReadable ·) = true := by kernel_rfl
theorem j6_v2 : Tryz.f6.resultTypes.all (fun t => Tryz.prog.readableRec t && decide (t < Tryz.prog.types.size)) = true := by kernel_rfl
theorem j6_o1 : (Go.Proofs.YtlbmihpmcgiinaaGreatDoor.Rows.thresholdLimitsRow.ifacesOut == Tryz.f6.resultTypes.toList.any (Tryz.prog.ifacesRec ·)) = true := by kernel_rfl
theorem j6_o2 : (Go.Proofs.YtlbmihpmcgiinaaGreatDoor.Rows.thresholdLimitsRow.loopsOut == Tryz.f6.resultTypes.toList.any (Tryz.prog.loopsFrom ·)) = true := by kernel_rfl
theorem j6_pk : (Go.Proofs.YtlbmihpmcgiinaaGreatDoor.Rows.thresholdLimitsRow.plainKeys == Tryz.prog.plainKeys) = true := by kernel_rfl
theorem j6_st : Go.Proofs.YtlbmihpmcgiinaaGreatDoor.Rows.thresholdLimitsRow.shortTexts.isNone = true := by kernel_rfl
theorem j6_sh : Tryz.prog.stopsHeard = true := by kernel_rfl
theorem j6_me : Tryz.prog.mayEnter = true := by kernel_rfl
theorem j6_lf : (Go.Proofs.YtlbmihpmcgiinaaGreatDoor.Rows.thresholdLimitsRow.lifted == Tryz.prog.liftsFinal) = true := by kernel_rfl
theorem j6_mk : (Tryz.prog.make == some Go.Proofs.YtlbmihpmcgiinaaGreatDoor.Rows.thresholdLimitsRow.make) = true := by kernel_rfl
theorem j6_ks : (Go.Proofs.YtlbmihpmcgiinaaGreatDoor.Rows.thresholdLimitsRow.kinds == (if Go.Proofs.YtlbmihpmcgiinaaGreatDoor.Rows.thresholdLimitsRow.domain.isEmpty then [] else Tryz.f6.params.toList.map fun t => match Tryz.prog.underlying t with | some (.int k) => some k | _ => none)) = true := by kernel_rfl
theorem j6_pb : (Go.Proofs.YtlbmihpmcgiinaaGreatDoor.Rows.thresholdLimitsRow.pinned == Go.Proofs.YtlbmihpmcgiinaaGreatDoor.Rows.thresholdLimitsRow.pinnedBy) = true := by kernel_rfl
theorem j6_ve : (Go.Proofs.YtlbmihpmcgiinaaGreatDoor.Rows.thresholdLimitsRow.veiled == (Tryz.f6.params.toList ++ Go.Proofs.YtlbmihpmcgiinaaGreatDoor.Rows.thresholdLimitsSpec.plain.varTypes Tryz.prog ++ Tryz.f6.resultTypes.toList).any (Tryz.prog.veiledRec ·)) = true := by kernel_rfl
theorem j6_vf : Go.Proofs.YtlbmihpmcgiinaaGreatDoor.Rows.thresholdLimitsRow.veiledFits Tryz.prog Tryz.f6.params.toList (Tryz.f6.params.toList ++ Go.Proofs.YtlbmihpmcgiinaaGreatDoor.Rows.thresholdLimitsSpec.plain.varTypes Tryz.prog ++ Tryz.f6.resultTypes.toList) = true := by kernel_rfl
theorem j6_fn : Tryz.prog.funcNamed "surveyor/surveyorlaw39.ThresholdLimits" = some 6 := by kernel_rfl

theorem facts6 : joinedFacts Tryz.prog 6 Tryz.f6 Go.Proofs.YtlbmihpmcgiinaaGreatDoor.Rows.thresholdLimitsSpec Go.Proofs.YtlbmihpmcgiinaaGreatDoor.Rows.thresholdLimitsRow = true := by
  unfold joinedFacts
  exact and2 (and2 (and2 (and2 (and2 (and2 (and2 (and2 (and2 (and2 (and2 (and2 (and2 (and2 (and2 (and2 (and2 (and2 (and2 (and2 (and2 (and2 (and2 (and2 (and2 (and2 (and2 (and2 (and2 (and2 (and2 (j6_wf) laidOut39) j6_mr) j6_pr) j6_nt) j6_s1) j6_s2) j6_s3) j6_s4) j6_ip) j6_uf) j6_rc) j6_nm) j6_m1) j6_m2) j6_m3) j6_l1) j6_l2) j6_v1) j6_v2) j6_o1) j6_o2) j6_pk) j6_st) j6_sh) j6_me) j6_lf) j6_mk) j6_ks) j6_pb) j6_ve) j6_vf

end Go.Proofs.YtlbmihpmcgiinaaGreatDoor.Own
