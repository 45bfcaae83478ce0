/- Called with any arguments, surveyor/surveyorlaw39.ThresholdSearches returns true, and each argument reads behind the call as it read before: the given row and its tied card are proved. The conditions: those of the given row alone: the package-level variables that it lists hold what the program's text lays. -/
import Derived.Test.YtlbmihpmcgiinaaGreatDoorLift3
import Derived.Test.YtlbmihpmcgiinaaGreatDoorFacts3
import Derived.Test.YtlbmihpmcgiinaaGreatDoorClosed3

section
namespace Go.Proofs.YtlbmihpmcgiinaaGreatDoor.Own
open Go Go.Proofs Go.RowKit Go.ChangeShapes Go.WideShapes Go.ChangeAt Go.ChangeMaps

theorem inst3 : Func.isInstance Tryz.prog Tryz.f3 Go.Proofs.YtlbmihpmcgiinaaGreatDoor.Rows.thresholdSearchesRow.origin Go.Proofs.YtlbmihpmcgiinaaGreatDoor.Rows.thresholdSearchesRow.targs := of_decide_eq_true (by kernel_rfl)
theorem wrap3 : Func.isWrapper Tryz.prog Tryz.f3 Go.Proofs.YtlbmihpmcgiinaaGreatDoor.Rows.thresholdSearchesRow.wrapper Go.Proofs.YtlbmihpmcgiinaaGreatDoor.Rows.thresholdSearchesRow.mainSum := by
  unfold Func.isWrapper
  first | (rw [if_pos (by decide +kernel)]; kernel_rfl) | (rw [if_neg (by decide +kernel)]; exact ⟨rfl, rfl⟩)

theorem said3 : Go.Proofs.YtlbmihpmcgiinaaGreatDoor.Rows.ThresholdSearchesSaid :=
  OpenClaim.holds_of_wide 3 Tryz.f3 rfl rfl rfl rfl rfl rfl rfl ⟨rfl, rfl, rfl, rfl, rfl⟩ rfl rfl rfl rfl rfl j3_fn Tryz.func3 facts3 inst3 wrap3
    (fun os started H enc _ => lifted3 os started H enc)

end Go.Proofs.YtlbmihpmcgiinaaGreatDoor.Own
end

/- Chapter 39: ThresholdSearches: its card. -/
section
namespace Go.Proofs.YtlbmihpmcgiinaaGreatDoor.Own
open Go Go.Proofs

/-- No parameter wants a stand-in; the program's own looks. -/
theorem plain3 (f : FuncId) (fn : Func) (hf : Tryz.prog.funcNamed "surveyor/surveyorlaw39.ThresholdSearches" = some f) (hfn : Tryz.prog.funcs[f]? = some fn) :
    true = Tryz.prog.looks [] ∧ ∀ (j : Nat) t, fn.params[j]? = some t → Tryz.prog.wantsStandIn t = false := by
  obtain rfl : f = 3 := (Option.some.inj (j3_fn.symm.trans hf)).symm
  obtain rfl : fn = Tryz.f3 := (Option.some.inj (Tryz.func3.symm.trans hfn)).symm
  refine ⟨looks3, fun j t ht => ?_⟩
  rw [Tryz.params3] at ht
  have hm : t ∈ [22, 23] := by simpa using Array.mem_of_getElem? ht
  exact (show Tryz.prog.wantsStandIn t = false by simpa using List.all_eq_true.1 stand3 t hm)

theorem thresholdSearches_card : Go.Proofs.YtlbmihpmcgiinaaGreatDoor.Rows.ThresholdSearchesCardSaid :=
  Claim7.holds_tied_plain_at .later [] _ _ _ _ said3 (fun _ h => by cases h) text3 (fun _ h => by cases h) Go.Proofs.YtlbmihpmcgiinaaGreatDoor.thresholdSearches_row_tie rfl ⟨rfl, rfl⟩ main3 rfl plain3 goes3

end Go.Proofs.YtlbmihpmcgiinaaGreatDoor.Own
end
