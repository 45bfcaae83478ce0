/-
  DERIVED: LAID BY THE SHELF's contract.sh OFF ITS TEMPLATE 'strings.CutPrefix' FOR THE PROGRAM 'Tryz' (the function's number there: 93). THE LIBRARY's OWN TEXT IS WALKED: nothing is assumed of it. Behind the contract: ONE FALSE NEIGHBOUR, a contract that says a little too much, REFUTED.
-/
import Derived.Test.YtlbmihpmcgiinaaGreatDoorProg
import Derived.Lib.Strings
import Derived.Lib.Slices
import Derived.Lib.Walk
namespace Go.Proofs

set_option maxHeartbeats 1000000 in
/-- strings.CutPrefix: "CutPrefix returns s without the provided leading prefix string and reports whether it found the prefix. If s doesn't start with prefix, CutPrefix returns s, false. If prefix is the empty string, CutPrefix returns s, true.": IT RETURNS ('Lib.trimPrefix s prefix', 'Lib.hasPrefix s prefix'); the world is as it was. -/
theorem Tryz.strings_CutPrefix (s p : ByteArray) (w : World) :
    Calls Tryz.prog 93 #[.string s, .string p] w fun e w' => e = .returned (.tuple #[.string ⟨(Lib.trimPrefix s.data.toList p.data.toList).toArray⟩, .bool (Lib.hasPrefix s.data.toList p.data.toList)]) ∧ w' = w := by
  go_enter Tryz.func93, Tryz.ntmps93
  go_wp2
  · have h2 : (!((s.extract 0 p.size).toList == p.toList)) = true := by assumption
    have h3 : (decide (p.size ≤ s.size) && ((s.extract 0 p.size).toList == p.toList)) = false := by
      have : ((s.extract 0 p.size).toList == p.toList) = false := by simpa using h2
      rw [this]
      simp
    go_ret2
    refine ⟨?_, rfl⟩
    rw [Lib.trimPrefix_miss s p h3, ← Lib.hasPrefix_raw, h3]
    rfl
  · have h1 : p.size ≤ s.size := by assumption
    have h2 : (!((s.extract 0 p.size).toList == p.toList)) = false := by assumption
    have h2' : ((s.extract 0 p.size).toList == p.toList) = true := by simpa using h2
    go_ret2
    refine ⟨?_, rfl⟩
    rw [Lib.trimPrefix_hit s p h1 h2', ← Lib.hasPrefix_raw, h2', decide_eq_true h1]
    rfl
  · have h1 : ¬ p.size ≤ s.size := by assumption
    have h3 : (decide (p.size ≤ s.size) && ((s.extract 0 p.size).toList == p.toList)) = false := by simp [h1]
    go_ret2
    refine ⟨?_, rfl⟩
    rw [Lib.trimPrefix_miss s p h3, ← Lib.hasPrefix_raw, h3]
    rfl

/-- A LITTLE TOO MUCH: 'it always finds the prefix': falls at "ab", "b". -/
theorem Tryz.strings_CutPrefix_not : ¬ ∀ (s p : ByteArray) (w : World),
    Calls Tryz.prog 93 #[.string s, .string p] w fun e w' => e = .returned (.tuple #[.string ⟨(Lib.trimPrefix s.data.toList p.data.toList).toArray⟩, .bool true]) ∧ w' = w := by
  intro h
  have e := Lib.agree (by kernel_rfl) (Tryz.strings_CutPrefix ⟨#[97, 98]⟩ ⟨#[98]⟩ default) (h ⟨#[97, 98]⟩ ⟨#[98]⟩ default)
  injection e with e
  have e2 := congrArg (fun a : Array Value => a[1]?) e
  simp at e2
  revert e2
  decide

end Go.Proofs
