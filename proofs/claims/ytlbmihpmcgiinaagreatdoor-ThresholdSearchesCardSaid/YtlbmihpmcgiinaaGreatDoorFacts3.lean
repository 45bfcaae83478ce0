/- Chapter 39: ThresholdSearches: the row's closed facts. -/
import Derived.Test.YtlbmihpmcgiinaaGreatDoorFacts3a
namespace Go.Proofs.YtlbmihpmcgiinaaGreatDoor.Own
open Go Go.Proofs
set_option maxRecDepth 100000

theorem j3_m1 : (Go.Proofs.YtlbmihpmcgiinaaGreatDoor.Rows.thresholdSearchesRow.maps == (Tryz.f3.params.toList ++ Go.Proofs.YtlbmihpmcgiinaaGreatDoor.Rows.thresholdSearchesSpec.plain.varTypes Tryz.prog).any (Tryz.prog.mapsRec ·)) = true := by kernel_rfl
theorem j3_m2 : (Go.Proofs.YtlbmihpmcgiinaaGreatDoor.Rows.thresholdSearchesRow.ifaces == (Tryz.f3.params.toList ++ Go.Proofs.YtlbmihpmcgiinaaGreatDoor.Rows.thresholdSearchesSpec.plain.varTypes Tryz.prog).any (Tryz.prog.ifacesRec ·)) = true := by kernel_rfl
theorem j3_m3 : (Go.Proofs.YtlbmihpmcgiinaaGreatDoor.Rows.thresholdSearchesRow.mapsOut == Tryz.prog.mapsAmong Tryz.f3.resultTypes.toList) = true := by kernel_rfl
theorem j3_l1 : (Go.Proofs.YtlbmihpmcgiinaaGreatDoor.Rows.thresholdSearchesRow.loops == (Tryz.f3.params.toList ++ Go.Proofs.YtlbmihpmcgiinaaGreatDoor.Rows.thresholdSearchesSpec.plain.varTypes Tryz.prog).any (Tryz.prog.loopsFrom ·)) = true := by kernel_rfl
theorem j3_l2 : (Go.Proofs.YtlbmihpmcgiinaaGreatDoor.Rows.thresholdSearchesRow.wideKeys == (Tryz.f3.params.toList ++ Go.Proofs.YtlbmihpmcgiinaaGreatDoor.Rows.thresholdSearchesSpec.plain.varTypes Tryz.prog ++ Tryz.f3.resultTypes.toList).any (Tryz.prog.wideKeysFrom ·)) = true := by kernel_rfl
theorem j3_v1 : Go.Proofs.YtlbmihpmcgiinaaGreatDoor.Rows.thresholdSearchesSpec.vars.all (Tryz.prog.varReadable ·) = true := by kernel_rfl
theorem j3_v2 : Tryz.f3.resultTypes.all (fun t => Tryz.prog.readableRec t && decide (t < Tryz.prog.types.size)) = true := by kernel_rfl
theorem j3_o1 : (Go.Proofs.YtlbmihpmcgiinaaGreatDoor.Rows.thresholdSearchesRow.ifacesOut == Tryz.f3.resultTypes.toList.any (Tryz.prog.ifacesRec ·)) = true := by kernel_rfl
theorem j3_o2 : (Go.Proofs.YtlbmihpmcgiinaaGreatDoor.Rows.thresholdSearchesRow.loopsOut == Tryz.f3.resultTypes.toList.any (Tryz.prog.loopsFrom ·)) = true := by kernel_rfl
theorem j3_pk : (Go.Proofs.YtlbmihpmcgiinaaGreatDoor.Rows.thresholdSearchesRow.plainKeys == Tryz.prog.plainKeys) = true := by kernel_rfl
theorem j3_st : Go.Proofs.YtlbmihpmcgiinaaGreatDoor.Rows.thresholdSearchesRow.shortTexts.isNone = true := by kernel_rfl
theorem j3_sh : Tryz.prog.stopsHeard = true := by kernel_rfl
theorem j3_me : Tryz.prog.mayEnter = true := by kernel_rfl
theorem j3_lf : (Go.Proofs.YtlbmihpmcgiinaaGreatDoor.Rows.thresholdSearchesRow.lifted == Tryz.prog.liftsFinal) = true := by kernel_rfl
theorem j3_mk : (Tryz.prog.make == some Go.Proofs.YtlbmihpmcgiinaaGreatDoor.Rows.thresholdSearchesRow.make) = true := by kernel_rfl
theorem j3_ks : (Go.Proofs.YtlbmihpmcgiinaaGreatDoor.Rows.thresholdSearchesRow.kinds == (if Go.Proofs.YtlbmihpmcgiinaaGreatDoor.Rows.thresholdSearchesRow.domain.isEmpty then [] else Tryz.f3.params.toList.map fun t => match Tryz.prog.underlying t with | some (.int k) => some k | _ => none)) = true := by kernel_rfl
theorem j3_pb : (Go.Proofs.YtlbmihpmcgiinaaGreatDoor.Rows.thresholdSearchesRow.pinned == Go.Proofs.YtlbmihpmcgiinaaGreatDoor.Rows.thresholdSearchesRow.pinnedBy) = true := by kernel_rfl
theorem j3_ve : (Go.Proofs.YtlbmihpmcgiinaaGreatDoor.Rows.thresholdSearchesRow.veiled == (Tryz.f3.params.toList ++ Go.Proofs.YtlbmihpmcgiinaaGreatDoor.Rows.thresholdSearchesSpec.plain.varTypes Tryz.prog ++ Tryz.f3.resultTypes.toList).any (Tryz.prog.veiledRec ·)) = true := by kernel_rfl
theorem j3_vf : Go.Proofs.YtlbmihpmcgiinaaGreatDoor.Rows.thresholdSearchesRow.veiledFits Tryz.prog Tryz.f3.params.toList (Tryz.f3.params.toList ++ Go.Proofs.YtlbmihpmcgiinaaGreatDoor.Rows.thresholdSearchesSpec.plain.varTypes Tryz.prog ++ Tryz.f3.resultTypes.toList) = true := by kernel_rfl
theorem j3_fn : Tryz.prog.funcNamed "surveyor/surveyorlaw39.ThresholdSearches" = some 3 := by kernel_rfl

theorem facts3 : joinedFacts Tryz.prog 3 Tryz.f3 Go.Proofs.YtlbmihpmcgiinaaGreatDoor.Rows.thresholdSearchesSpec Go.Proofs.YtlbmihpmcgiinaaGreatDoor.Rows.thresholdSearchesRow = true := by
  unfold joinedFacts
  exact and2 (and2 (and2 (and2 (and2 (and2 (and2 (and2 (and2 (and2 (and2 (and2 (and2 (and2 (and2 (and2 (and2 (and2 (and2 (and2 (and2 (and2 (and2 (and2 (and2 (and2 (and2 (and2 (and2 (and2 (and2 (j3_wf) laidOut39) j3_mr) j3_pr) j3_nt) j3_s1) j3_s2) j3_s3) j3_s4) j3_ip) j3_uf) j3_rc) j3_nm) j3_m1) j3_m2) j3_m3) j3_l1) j3_l2) j3_v1) j3_v2) j3_o1) j3_o2) j3_pk) j3_st) j3_sh) j3_me) j3_lf) j3_mk) j3_ks) j3_pb) j3_ve) j3_vf

end Go.Proofs.YtlbmihpmcgiinaaGreatDoor.Own
