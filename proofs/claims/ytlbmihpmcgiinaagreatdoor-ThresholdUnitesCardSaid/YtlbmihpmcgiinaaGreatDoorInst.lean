/- The engine at the program of chapter 39. -/
import Derived.Test.YtlbmihpmcgiinaaGreatDoorEngF
import Derived.Test.YtlbmihpmcgiinaaGreatDoorProg
import Derived.KernelRfl
open Go Go.Proofs Go.Proofs.YtlbmihpmcgiinaaGreatDoor.Own
set_option maxRecDepth 100000
namespace Go.Proofs.YtlbmihpmcgiinaaGreatDoor.Own

noncomputable def P0 : Program := Tryz.prog
noncomputable def F0 : Tr AFunc := mkF P0 (mkTr 0 P0.types.toList .leaf) 0 P0.funcs.toList .leaf
theorem named0 : Named P0 := named_of (by kernel_rfl)
theorem mix0 : P0.follows .mixedOrders = true := rfl
theorem ext270 : Ext P0 270 Extern.AbiNoEscape.same := ⟨Tryz.f270, by kernel_rfl, by kernel_rfl, by kernel_rfl, by kernel_rfl, by kernel_rfl⟩
theorem ext328 : Ext P0 328 Extern.BytealgIndexByte.indexByte := ⟨Tryz.f328, by kernel_rfl, by kernel_rfl, by kernel_rfl, by kernel_rfl, by kernel_rfl⟩
theorem ext325 : Ext P0 325 (Extern.SlicesOverlaps.overlaps Tryz.f325.params Tryz.f325.resultTypes) := ⟨Tryz.f325, by kernel_rfl, by kernel_rfl, by kernel_rfl, by kernel_rfl, by kernel_rfl⟩

theorem info164 : ∃ i, P0.info? 164 = some i ∧ i.size = 4 := by
  have h : ((P0.info? 164).map (·.size)) = some 4 := by kernel_rfl
  obtain ⟨i, h1, h2⟩ := Option.map_eq_some_iff.mp h
  exact ⟨i, h1, h2⟩

noncomputable def s0 : Sums := sums1 270 sumSame (sums1 328 sumIndexByte (sums1 325 (sumOverlaps 4) fun _ => none))
theorem s0_ok : SumOK P0 s0 := by
  refine sums1_ok (sums1_ok (sums1_ok noSums ?_) (indexByte_ok ext328)) (same_ok ext270)
  obtain ⟨i, h1, h2⟩ := info164
  intro args H va H' h wf
  rw [← h2] at h
  exact overlaps_ok ext325 (t := 160) (by kernel_rfl) (by kernel_rfl) h1 args H va H' h wf
noncomputable def ev0 : EvA := evC F0 s0 100000
theorem ev0_ok : EvOK P0 (mkTr 0 P0.types.toList .leaf) ev0 := ev_ok mix0 named0 s0_ok 100000
def bs (l : List UInt8) : Value := .string ⟨l.toArray⟩

end Go.Proofs.YtlbmihpmcgiinaaGreatDoor.Own
