/- The contract of strings.TrimPrefix at this program, laid by the shelf's template. -/
import Derived.Test.YtlbmihpmcgiinaaGreatDoorProg
import Derived.Lib.Strings
import Derived.Lib.Slices
import Derived.Lib.Walk
namespace Go.Proofs

set_option maxHeartbeats 1000000 in
/-- strings.TrimPrefix: its answer; the world is as it was. -/
theorem Tryz.strings_TrimPrefix (s p : ByteArray) (w : World) :
    Calls Tryz.prog 95 #[.string s, .string p] w fun e w' => e = .returned (.string ⟨(Lib.trimPrefix s.data.toList p.data.toList).toArray⟩) ∧ w' = w := by
  go_enter Tryz.func95, Tryz.ntmps95
  go_wp2
  · have h1 : p.size ≤ s.size := by assumption
    have h2 : ((s.extract 0 p.size).toList == p.toList) = true := by assumption
    go_ret
    refine ⟨?_, rfl⟩
    rw [Lib.trimPrefix_hit s p h1 h2]
    rfl
  · have h2 : ((s.extract 0 p.size).toList == p.toList) = false := by assumption
    go_ret
    refine ⟨?_, rfl⟩
    rw [Lib.trimPrefix_miss s p (by rw [h2]; simp)]
    rfl
  · have h1 : ¬ p.size ≤ s.size := by assumption
    go_ret
    refine ⟨?_, rfl⟩
    rw [Lib.trimPrefix_miss s p (by simp [h1])]
    rfl

end Go.Proofs
