/-
  DERIVED: LAID BY THE SHELF's contract.sh OFF ITS TEMPLATE 'strings.TrimPrefix' FOR THE PROGRAM 'Tryz' (the function's number there: 95). THE LIBRARY's OWN TEXT IS WALKED: nothing is assumed of it. Behind the contract: ONE FALSE NEIGHBOUR, a contract that says a little too much, REFUTED.
-/
import Derived.Test.YtlbmihpmcgiinaaGreatDoorProg
import Derived.Lib.Strings
import Derived.Lib.Slices
import Derived.Lib.Walk
namespace Go.Proofs

set_option maxHeartbeats 1000000 in
/-- strings.TrimPrefix: "TrimPrefix returns s without the provided leading prefix string. If s doesn't start with prefix, s is returned unchanged.": IT RETURNS 'Lib.trimPrefix s prefix'; the world is as it was. -/
theorem Tryz.strings_TrimPrefix (s p : ByteArray) (w : World) :
    Calls Tryz.prog 95 #[.string s, .string p] w fun e w' => e = .returned (.string ⟨(Lib.trimPrefix s.data.toList p.data.toList).toArray⟩) ∧ w' = w := by
  go_enter Tryz.func95, Tryz.ntmps95
  go_wp2
  · have h1 : p.size ≤ s.size := by assumption
    have h2 : ((s.extract 0 p.size).toList == p.toList) = true := by assumption
    go_ret
    refine ⟨?_, rfl⟩
    rw [Lib.trimPrefix_hit s p h1 h2]
    rfl
  · have h2 : ((s.extract 0 p.size).toList == p.toList) = false := by assumption
    go_ret
    refine ⟨?_, rfl⟩
    rw [Lib.trimPrefix_miss s p (by rw [h2]; simp)]
    rfl
  · have h1 : ¬ p.size ≤ s.size := by assumption
    go_ret
    refine ⟨?_, rfl⟩
    rw [Lib.trimPrefix_miss s p (by simp [h1])]
    rfl

/-- A LITTLE TOO MUCH: 'as many bytes as prefix has are dropped, whatever they are': falls at "ab", "b". -/
theorem Tryz.strings_TrimPrefix_not : ¬ ∀ (s p : ByteArray) (w : World),
    Calls Tryz.prog 95 #[.string s, .string p] w fun e w' => e = .returned (.string ⟨(s.data.toList.drop p.data.toList.length).toArray⟩) ∧ w' = w := by
  intro h
  have e := Lib.agree (by kernel_rfl) (Tryz.strings_TrimPrefix ⟨#[97, 98]⟩ ⟨#[98]⟩ default) (h ⟨#[97, 98]⟩ ⟨#[98]⟩ default)
  injection e with e
  revert e
  decide

end Go.Proofs
