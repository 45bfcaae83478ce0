/- Chapter 39: ThresholdUnites: the row's closed facts. -/
import Derived.Test.YtlbmihpmcgiinaaGreatDoorFacts7a
namespace Go.Proofs.YtlbmihpmcgiinaaGreatDoor.Own
open Go Go.Proofs
set_option maxRecDepth 100000

theorem j7_m1 : (Go.Proofs.YtlbmihpmcgiinaaGreatDoor.Rows.thresholdUnitesRow.maps == (Tryz.f7.params.toList ++ Go.Proofs.YtlbmihpmcgiinaaGreatDoor.Rows.thresholdUnitesSpec.plain.varTypes Tryz.prog).any (Tryz.prog.mapsRec ·)) = true := by kernel_rfl
theorem j7_m2 : (Go.Proofs.YtlbmihpmcgiinaaGreatDoor.Rows.thresholdUnitesRow.ifaces == (Tryz.f7.params.toList ++ Go.Proofs.YtlbmihpmcgiinaaGreatDoor.Rows.thresholdUnitesSpec.plain.varTypes Tryz.prog).any (Tryz.prog.ifacesRec ·)) = true := by kernel_rfl
theorem j7_m3 : (Go.Proofs.YtlbmihpmcgiinaaGreatDoor.Rows.thresholdUnitesRow.mapsOut == Tryz.prog.mapsAmong Tryz.f7.resultTypes.toList) = true := by kernel_rfl
theorem j7_l1 : (Go.Proofs.YtlbmihpmcgiinaaGreatDoor.Rows.thresholdUnitesRow.loops == (Tryz.f7.params.toList ++ Go.Proofs.YtlbmihpmcgiinaaGreatDoor.Rows.thresholdUnitesSpec.plain.varTypes Tryz.prog).any (Tryz.prog.loopsFrom ·)) = true := by kernel_rfl
theorem j7_l2 : (Go.Proofs.YtlbmihpmcgiinaaGreatDoor.Rows.thresholdUnitesRow.wideKeys == (Tryz.f7.params.toList ++ Go.Proofs.YtlbmihpmcgiinaaGreatDoor.Rows.thresholdUnitesSpec.plain.varTypes Tryz.prog ++ Tryz.f7.resultTypes.toList).any (Tryz.prog.wideKeysFrom ·)) = true := by kernel_rfl
theorem j7_v1 : Go.Proofs.YtlbmihpmcgiinaaGreatDoor.Rows.thresholdUnitesSpec.vars.all (Tryz.prog.varReadable ·) = true := by kernel_rfl
theorem j7_v2 : Tryz.f7.resultTypes.all (fun t => Tryz.prog.readableRec t && decide (t < Tryz.prog.types.size)) = true := by kernel_rfl
theorem j7_o1 : (Go.Proofs.YtlbmihpmcgiinaaGreatDoor.Rows.thresholdUnitesRow.ifacesOut == Tryz.f7.resultTypes.toList.any (Tryz.prog.ifacesRec ·)) = true := by kernel_rfl
theorem j7_o2 : (Go.Proofs.YtlbmihpmcgiinaaGreatDoor.Rows.thresholdUnitesRow.loopsOut == Tryz.f7.resultTypes.toList.any (Tryz.prog.loopsFrom ·)) = true := by kernel_rfl
theorem j7_pk : (Go.Proofs.YtlbmihpmcgiinaaGreatDoor.Rows.thresholdUnitesRow.plainKeys == Tryz.prog.plainKeys) = true := by kernel_rfl
theorem j7_st : Go.Proofs.YtlbmihpmcgiinaaGreatDoor.Rows.thresholdUnitesRow.shortTexts.isNone = true := by kernel_rfl
theorem j7_sh : Tryz.prog.stopsHeard = true := by kernel_rfl
theorem j7_me : Tryz.prog.mayEnter = true := by kernel_rfl
theorem j7_lf : (Go.Proofs.YtlbmihpmcgiinaaGreatDoor.Rows.thresholdUnitesRow.lifted == Tryz.prog.liftsFinal) = true := by kernel_rfl
theorem j7_mk : (Tryz.prog.make == some Go.Proofs.YtlbmihpmcgiinaaGreatDoor.Rows.thresholdUnitesRow.make) = true := by kernel_rfl
theorem j7_ks : (Go.Proofs.YtlbmihpmcgiinaaGreatDoor.Rows.thresholdUnitesRow.kinds == (if Go.Proofs.YtlbmihpmcgiinaaGreatDoor.Rows.thresholdUnitesRow.domain.isEmpty then [] else Tryz.f7.params.toList.map fun t => match Tryz.prog.underlying t with | some (.int k) => some k | _ => none)) = true := by kernel_rfl
theorem j7_pb : (Go.Proofs.YtlbmihpmcgiinaaGreatDoor.Rows.thresholdUnitesRow.pinned == Go.Proofs.YtlbmihpmcgiinaaGreatDoor.Rows.thresholdUnitesRow.pinnedBy) = true := by kernel_rfl
theorem j7_ve : (Go.Proofs.YtlbmihpmcgiinaaGreatDoor.Rows.thresholdUnitesRow.veiled == (Tryz.f7.params.toList ++ Go.Proofs.YtlbmihpmcgiinaaGreatDoor.Rows.thresholdUnitesSpec.plain.varTypes Tryz.prog ++ Tryz.f7.resultTypes.toList).any (Tryz.prog.veiledRec ·)) = true := by kernel_rfl
theorem j7_vf : Go.Proofs.YtlbmihpmcgiinaaGreatDoor.Rows.thresholdUnitesRow.veiledFits Tryz.prog Tryz.f7.params.toList (Tryz.f7.params.toList ++ Go.Proofs.YtlbmihpmcgiinaaGreatDoor.Rows.thresholdUnitesSpec.plain.varTypes Tryz.prog ++ Tryz.f7.resultTypes.toList) = true := by kernel_rfl
theorem j7_fn : Tryz.prog.funcNamed "surveyor/surveyorlaw39.ThresholdUnites" = some 7 := by kernel_rfl

theorem facts7 : joinedFacts Tryz.prog 7 Tryz.f7 Go.Proofs.YtlbmihpmcgiinaaGreatDoor.Rows.thresholdUnitesSpec Go.Proofs.YtlbmihpmcgiinaaGreatDoor.Rows.thresholdUnitesRow = true := by
  unfold joinedFacts
  exact and2 (and2 (and2 (and2 (and2 (and2 (and2 (and2 (and2 (and2 (and2 (and2 (and2 (and2 (and2 (and2 (and2 (and2 (and2 (and2 (and2 (and2 (and2 (and2 (and2 (and2 (and2 (and2 (and2 (and2 (and2 (j7_wf) laidOut39) j7_mr) j7_pr) j7_nt) j7_s1) j7_s2) j7_s3) j7_s4) j7_ip) j7_uf) j7_rc) j7_nm) j7_m1) j7_m2) j7_m3) j7_l1) j7_l2) j7_v1) j7_v2) j7_o1) j7_o2) j7_pk) j7_st) j7_sh) j7_me) j7_lf) j7_mk) j7_ks) j7_pb) j7_ve) j7_vf

end Go.Proofs.YtlbmihpmcgiinaaGreatDoor.Own
