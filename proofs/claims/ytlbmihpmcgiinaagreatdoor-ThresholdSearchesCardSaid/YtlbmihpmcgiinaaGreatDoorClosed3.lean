/- No function of the program starts a goroutine. -/
import Derived.Test.YtlbmihpmcgiinaaGreatDoorWorld39
import Derived.Test.YtlbmihpmcgiinaaGreatDoorLift3

section
namespace Go.Proofs.YtlbmihpmcgiinaaGreatDoor.Own
open Go Go.Proofs

theorem nogo39 : Tryz.prog.funcs.any Func.goes = false := by kernel_rfl

theorem goes_none {P : Program} (h : P.funcs.any Func.goes = false) (f : FuncId) : P.goes f = false := by
  have h2 : ∀ fn ∈ P.funcs, Func.goes fn = false := by
    intro fn hfn
    rcases hg : Func.goes fn with _ | _
    · rfl
    · have : P.funcs.any Func.goes = true := by rw [← Array.any_toList]; exact List.any_eq_true.mpr ⟨fn, Array.mem_toList_iff.mpr hfn, hg⟩
      rw [h] at this
      cases this
  unfold Program.goes
  rw [h, Bool.and_false, Bool.or_false, List.any_eq_false]
  intro g _
  cases hx : P.funcs[g]? with
  | none => simp
  | some fn => simp [h2 fn (Array.mem_of_getElem? hx)]

theorem goesBy_none {P : Program} (h : P.funcs.any Func.goes = false) {c : OpenClaim} (hs : c.start = .entering) : false = c.goesBy P := by
  unfold OpenClaim.goesBy Program.goesAt Program.goesFrom
  rw [hs]
  cases P.funcNamed c.func with
  | none => rfl
  | some f => simp [goes_none h f]

end Go.Proofs.YtlbmihpmcgiinaaGreatDoor.Own
end

/- Chapter 39: ThresholdSearches: closed facts of its card, the first part. -/
section
namespace Go.Proofs.YtlbmihpmcgiinaaGreatDoor.Own
open Go Go.Proofs

theorem text3 : OpenClaim.wfByText (OpenSpec.ofChange Go.Proofs.YtlbmihpmcgiinaaGreatDoor.Rows.thresholdSearchesSpec) Go.Proofs.YtlbmihpmcgiinaaGreatDoor.Rows.thresholdSearchesRow = true := by kernel_rfl
theorem main3 : Tryz.prog.mainIs = some (Go.Proofs.YtlbmihpmcgiinaaGreatDoor.Rows.thresholdSearchesCard.stood.harness.1, Go.Proofs.YtlbmihpmcgiinaaGreatDoor.Rows.thresholdSearchesCard.stood.harness.2.toList) := by kernel_rfl
theorem goes3 : false = Go.Proofs.YtlbmihpmcgiinaaGreatDoor.Rows.thresholdSearchesRow.goesBy Tryz.prog := goesBy_none nogo39 rfl
theorem looks3 : true = Tryz.prog.looks [] := by kernel_rfl
theorem stand3 : ([22, 23].all fun u => !Tryz.prog.wantsStandIn u) = true := by kernel_rfl


end Go.Proofs.YtlbmihpmcgiinaaGreatDoor.Own
end
