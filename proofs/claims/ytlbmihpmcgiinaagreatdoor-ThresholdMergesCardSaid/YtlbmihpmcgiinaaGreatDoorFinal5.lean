/- Called with any arguments, surveyor/surveyorlaw39.ThresholdMerges returns true, and each argument reads behind the call as it read before: the given row and its tied card are proved. The conditions: those of the given row alone: the package-level variables that it lists hold what the program's text lays. -/
import Derived.Test.YtlbmihpmcgiinaaGreatDoorLift5
import Derived.Test.YtlbmihpmcgiinaaGreatDoorFacts5
import Derived.Test.YtlbmihpmcgiinaaGreatDoorLook5

section
namespace Go.Proofs.YtlbmihpmcgiinaaGreatDoor.Own
open Go Go.Proofs Go.RowKit Go.ChangeShapes Go.WideShapes Go.ChangeAt Go.ChangeMaps

theorem inst5 : Func.isInstance Tryz.prog Tryz.f5 Go.Proofs.YtlbmihpmcgiinaaGreatDoor.Rows.thresholdMergesRow.origin Go.Proofs.YtlbmihpmcgiinaaGreatDoor.Rows.thresholdMergesRow.targs := of_decide_eq_true (by kernel_rfl)
theorem wrap5 : Func.isWrapper Tryz.prog Tryz.f5 Go.Proofs.YtlbmihpmcgiinaaGreatDoor.Rows.thresholdMergesRow.wrapper Go.Proofs.YtlbmihpmcgiinaaGreatDoor.Rows.thresholdMergesRow.mainSum := by
  unfold Func.isWrapper
  first | (rw [if_pos (by decide +kernel)]; kernel_rfl) | (rw [if_neg (by decide +kernel)]; exact ⟨rfl, rfl⟩)

theorem said5 : Go.Proofs.YtlbmihpmcgiinaaGreatDoor.Rows.ThresholdMergesSaid :=
  OpenClaim.holds_of_wide 5 Tryz.f5 rfl rfl rfl rfl rfl rfl rfl ⟨rfl, rfl, rfl, rfl, rfl⟩ rfl rfl rfl rfl rfl j5_fn Tryz.func5 facts5 inst5 wrap5
    (fun os started H enc _ => lifted5 os started H enc)

end Go.Proofs.YtlbmihpmcgiinaaGreatDoor.Own
end

/- Chapter 39: ThresholdMerges: its card. -/
section
namespace Go.Proofs.YtlbmihpmcgiinaaGreatDoor.Own
open Go Go.Proofs

/-- No parameter wants a stand-in; the program's own looks. -/
theorem plain5 (f : FuncId) (fn : Func) (hf : Tryz.prog.funcNamed "surveyor/surveyorlaw39.ThresholdMerges" = some f) (hfn : Tryz.prog.funcs[f]? = some fn) :
    true = Tryz.prog.looks [] ∧ ∀ (j : Nat) t, fn.params[j]? = some t → Tryz.prog.wantsStandIn t = false := by
  obtain rfl : f = 5 := (Option.some.inj (j5_fn.symm.trans hf)).symm
  obtain rfl : fn = Tryz.f5 := (Option.some.inj (Tryz.func5.symm.trans hfn)).symm
  refine ⟨looks5, fun j t ht => ?_⟩
  rw [Tryz.params5] at ht
  have hm : t ∈ [22, 22] := by simpa using Array.mem_of_getElem? ht
  exact (show Tryz.prog.wantsStandIn t = false by simpa using List.all_eq_true.1 stand5 t hm)

theorem thresholdMerges_card : Go.Proofs.YtlbmihpmcgiinaaGreatDoor.Rows.ThresholdMergesCardSaid :=
  Claim7.holds_tied_plain_at .later [] _ _ _ _ said5 (fun _ h => by cases h) text5 (fun _ h => by cases h) Go.Proofs.YtlbmihpmcgiinaaGreatDoor.thresholdMerges_row_tie rfl ⟨rfl, rfl⟩ main5 rfl plain5 goes5

end Go.Proofs.YtlbmihpmcgiinaaGreatDoor.Own
end
