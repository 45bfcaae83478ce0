/- Called with any arguments, surveyor/surveyorlaw39.ThresholdUnites returns true, and each argument reads behind the call as it read before: the given row and its tied card are proved. The conditions: those of the given row alone: the package-level variables that it lists hold what the program's text lays. -/
import Derived.Test.YtlbmihpmcgiinaaGreatDoorLift7
import Derived.Test.YtlbmihpmcgiinaaGreatDoorFacts7
import Derived.Test.YtlbmihpmcgiinaaGreatDoorLook7

section
namespace Go.Proofs.YtlbmihpmcgiinaaGreatDoor.Own
open Go Go.Proofs Go.RowKit Go.ChangeShapes Go.WideShapes Go.ChangeAt Go.ChangeMaps

theorem inst7 : Func.isInstance Tryz.prog Tryz.f7 Go.Proofs.YtlbmihpmcgiinaaGreatDoor.Rows.thresholdUnitesRow.origin Go.Proofs.YtlbmihpmcgiinaaGreatDoor.Rows.thresholdUnitesRow.targs := of_decide_eq_true (by kernel_rfl)
theorem wrap7 : Func.isWrapper Tryz.prog Tryz.f7 Go.Proofs.YtlbmihpmcgiinaaGreatDoor.Rows.thresholdUnitesRow.wrapper Go.Proofs.YtlbmihpmcgiinaaGreatDoor.Rows.thresholdUnitesRow.mainSum := by
  unfold Func.isWrapper
  first | (rw [if_pos (by decide +kernel)]; kernel_rfl) | (rw [if_neg (by decide +kernel)]; exact ⟨rfl, rfl⟩)

theorem said7 : Go.Proofs.YtlbmihpmcgiinaaGreatDoor.Rows.ThresholdUnitesSaid :=
  OpenClaim.holds_of_wide 7 Tryz.f7 rfl rfl rfl rfl rfl rfl rfl ⟨rfl, rfl, rfl, rfl, rfl⟩ rfl rfl rfl rfl rfl j7_fn Tryz.func7 facts7 inst7 wrap7
    (fun os started H enc _ => lifted7 os started H enc)

end Go.Proofs.YtlbmihpmcgiinaaGreatDoor.Own
end

/- Chapter 39: ThresholdUnites: its card. -/
section
namespace Go.Proofs.YtlbmihpmcgiinaaGreatDoor.Own
open Go Go.Proofs

/-- No parameter wants a stand-in; the program's own looks. -/
theorem plain7 (f : FuncId) (fn : Func) (hf : Tryz.prog.funcNamed "surveyor/surveyorlaw39.ThresholdUnites" = some f) (hfn : Tryz.prog.funcs[f]? = some fn) :
    true = Tryz.prog.looks [] ∧ ∀ (j : Nat) t, fn.params[j]? = some t → Tryz.prog.wantsStandIn t = false := by
  obtain rfl : f = 7 := (Option.some.inj (j7_fn.symm.trans hf)).symm
  obtain rfl : fn = Tryz.f7 := (Option.some.inj (Tryz.func7.symm.trans hfn)).symm
  refine ⟨looks7, fun j t ht => ?_⟩
  rw [Tryz.params7] at ht
  have hm : t ∈ [22, 22, 23] := by simpa using Array.mem_of_getElem? ht
  exact (show Tryz.prog.wantsStandIn t = false by simpa using List.all_eq_true.1 stand7 t hm)

theorem thresholdUnites_card : Go.Proofs.YtlbmihpmcgiinaaGreatDoor.Rows.ThresholdUnitesCardSaid :=
  Claim7.holds_tied_plain_at .later [] _ _ _ _ said7 (fun _ h => by cases h) text7 (fun _ h => by cases h) Go.Proofs.YtlbmihpmcgiinaaGreatDoor.thresholdUnites_row_tie rfl ⟨rfl, rfl⟩ main7 rfl plain7 goes7

end Go.Proofs.YtlbmihpmcgiinaaGreatDoor.Own
end
