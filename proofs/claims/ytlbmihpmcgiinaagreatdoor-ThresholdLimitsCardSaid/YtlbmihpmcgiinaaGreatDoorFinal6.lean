/- Called with any arguments, surveyor/surveyorlaw39.ThresholdLimits returns true, and each argument reads behind the call as it read before: the given row and its tied card are proved. The conditions: those of the given row alone: the package-level variables that it lists hold what the program's text lays. -/
import Derived.Test.YtlbmihpmcgiinaaGreatDoorLift6
import Derived.Test.YtlbmihpmcgiinaaGreatDoorFacts6
import Derived.Test.YtlbmihpmcgiinaaGreatDoorLook6

section
namespace Go.Proofs.YtlbmihpmcgiinaaGreatDoor.Own
open Go Go.Proofs Go.RowKit Go.ChangeShapes Go.WideShapes Go.ChangeAt Go.ChangeMaps

theorem inst6 : Func.isInstance Tryz.prog Tryz.f6 Go.Proofs.YtlbmihpmcgiinaaGreatDoor.Rows.thresholdLimitsRow.origin Go.Proofs.YtlbmihpmcgiinaaGreatDoor.Rows.thresholdLimitsRow.targs := of_decide_eq_true (by kernel_rfl)
theorem wrap6 : Func.isWrapper Tryz.prog Tryz.f6 Go.Proofs.YtlbmihpmcgiinaaGreatDoor.Rows.thresholdLimitsRow.wrapper Go.Proofs.YtlbmihpmcgiinaaGreatDoor.Rows.thresholdLimitsRow.mainSum := by
  unfold Func.isWrapper
  first | (rw [if_pos (by decide +kernel)]; kernel_rfl) | (rw [if_neg (by decide +kernel)]; exact ⟨rfl, rfl⟩)

theorem said6 : Go.Proofs.YtlbmihpmcgiinaaGreatDoor.Rows.ThresholdLimitsSaid :=
  OpenClaim.holds_of_wide 6 Tryz.f6 rfl rfl rfl rfl rfl rfl rfl ⟨rfl, rfl, rfl, rfl, rfl⟩ rfl rfl rfl rfl rfl j6_fn Tryz.func6 facts6 inst6 wrap6
    (fun os started H enc _ => lifted6 os started H enc)

end Go.Proofs.YtlbmihpmcgiinaaGreatDoor.Own
end

/- Chapter 39: ThresholdLimits: its card. -/
section
namespace Go.Proofs.YtlbmihpmcgiinaaGreatDoor.Own
open Go Go.Proofs

/-- No parameter wants a stand-in; the program's own looks. -/
theorem plain6 (f : FuncId) (fn : Func) (hf : Tryz.prog.funcNamed "surveyor/surveyorlaw39.ThresholdLimits" = some f) (hfn : Tryz.prog.funcs[f]? = some fn) :
    true = Tryz.prog.looks [] ∧ ∀ (j : Nat) t, fn.params[j]? = some t → Tryz.prog.wantsStandIn t = false := by
  obtain rfl : f = 6 := (Option.some.inj (j6_fn.symm.trans hf)).symm
  obtain rfl : fn = Tryz.f6 := (Option.some.inj (Tryz.func6.symm.trans hfn)).symm
  refine ⟨looks6, fun j t ht => ?_⟩
  rw [Tryz.params6] at ht
  have hm : t ∈ [65, 65] := by simpa using Array.mem_of_getElem? ht
  exact (show Tryz.prog.wantsStandIn t = false by simpa using List.all_eq_true.1 stand6 t hm)

theorem thresholdLimits_card : Go.Proofs.YtlbmihpmcgiinaaGreatDoor.Rows.ThresholdLimitsCardSaid :=
  Claim7.holds_tied_plain_at .later [] _ _ _ _ said6 (fun _ h => by cases h) text6 (fun _ h => by cases h) Go.Proofs.YtlbmihpmcgiinaaGreatDoor.thresholdLimits_row_tie rfl ⟨rfl, rfl⟩ main6 rfl plain6 goes6

end Go.Proofs.YtlbmihpmcgiinaaGreatDoor.Own
end
