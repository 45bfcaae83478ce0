/- Chapter 39: walks: the reference's Whole: the text of an int. -/
import Derived.Test.YtlbmihpmcgiinaaGreatDoorProg
import Derived.WalkKit
import Derived.ProofKit
import Derived.Lib.Hide
import Derived.IntWalk
namespace Go.Proofs.YtlbmihpmcgiinaaGreatDoor.Own
open Go Go.Proofs Go.RowKit

/-- The digits of a number, before some others. -/
def decF : Nat → Nat → List UInt8 → List UInt8
  | 0, _, acc => acc
  | f + 1, m, acc => if m = 0 then acc else decF f (m / 10) (UInt8.ofNat (48 + m % 10) :: acc)

theorem decF_zero (f : Nat) (acc : List UInt8) : decF f 0 acc = acc := by cases f <;> rfl
theorem decF_fuel : ∀ (m f g : Nat) (acc : List UInt8), m ≤ f → m ≤ g → decF f m acc = decF g m acc := by
  intro m
  induction m using Nat.strongRecOn with
  | _ m ih =>
    intro f g acc hf hg
    by_cases h : m = 0
    · subst h; rw [decF_zero, decF_zero]
    · obtain ⟨f', rfl⟩ : ∃ f', f = f' + 1 := ⟨f - 1, by omega⟩
      obtain ⟨g', rfl⟩ : ∃ g', g = g' + 1 := ⟨g - 1, by omega⟩
      rw [decF, decF, if_neg h, if_neg h]
      exact ih (m / 10) (by omega) f' g' _ (by omega) (by omega)
theorem decF_step {m : Nat} (h : m ≠ 0) (acc : List UInt8) : decF m m acc = decF (m / 10) (m / 10) (UInt8.ofNat (48 + m % 10) :: acc) := by
  obtain ⟨k, rfl⟩ : ∃ k, m = k + 1 := ⟨m - 1, by omega⟩
  rw [decF, if_neg h]
  exact decF_fuel _ _ _ _ (by omega) (Nat.le_refl _)

/-- The text of an int. -/
def wholeL (n : Int) : List UInt8 := if n = 0 then [48] else if n < 0 then 45 :: decF n.natAbs n.natAbs [] else decF n.natAbs n.natAbs []
def wholeT (n : Int) : ByteArray := ⟨(wholeL n).toArray⟩

theorem digit_front (d : Nat) (h : d < 10) (acc : List UInt8) : (({ data := #[48, 49, 50, 51, 52, 53, 54, 55, 56, 57] } : ByteArray).extract d (d + 1)) ++ (⟨acc.toArray⟩ : ByteArray) = ⟨(UInt8.ofNat (48 + d) :: acc).toArray⟩ := by
  have e : ({ data := #[48, 49, 50, 51, 52, 53, 54, 55, 56, 57] } : ByteArray).extract d (d + 1) = ⟨#[UInt8.ofNat (48 + d)]⟩ := by
    rcases (by omega : d = 0 ∨ d = 1 ∨ d = 2 ∨ d = 3 ∨ d = 4 ∨ d = 5 ∨ d = 6 ∨ d = 7 ∨ d = 8 ∨ d = 9) with rfl | rfl | rfl | rfl | rfl | rfl | rfl | rfl | rfl | rfl <;> decide
  rw [e]
  simp [ByteArray.ext_iff]

theorem slice_digit (d : Nat) (h : d < 10) (w : World) :
    Sem.run Tryz.prog (Instr.slice 9 (.string ⟨#[48, 49, 50, 51, 52, 53, 54, 55, 56, 57]⟩) (some (.int .i64 (d : Int))) (some (.int .i64 ((d : Int) + 1))) none) w = .ok (.string ⟨#[UInt8.ofNat (48 + d)]⟩) w := by
  rcases (by omega : d = 0 ∨ d = 1 ∨ d = 2 ∨ d = 3 ∨ d = 4 ∨ d = 5 ∨ d = 6 ∨ d = 7 ∨ d = 8 ∨ d = 9) with rfl | rfl | rfl | rfl | rfl | rfl | rfl | rfl | rfl | rfl <;> simp [go_sem, Instr.slice] <;> rfl

set_option maxRecDepth 100000 in
set_option maxHeartbeats 1000000 in
theorem w14 (n : Int) (h0 : -1000000000 < n) (h1 : n < 1000000000) (w : World) :
    Calls Tryz.prog 14 #[.int .i64 n] w fun e w' => e = .returned (.string (wholeT n)) ∧ w' = w := by
  rcases Int.lt_trichotomy n 0 with h | rfl | h
  · obtain ⟨r, hr⟩ : ∃ r, decF n.natAbs n.natAbs [] = r := ⟨_, rfl⟩
    have HR : Hid (wholeT n = ⟨(45 :: r).toArray⟩) := Lib.hid (by rw [← hr]; unfold wholeT wholeL; rw [if_neg (by omega), if_pos (by omega)])
    have HR2 := Lib.hid hr
    have HN : Hid (n = -(n.natAbs : Int)) := Lib.hid (by omega)
    rw [HR.out]
    have hne : (n == 0) = false := by simp; omega
    clear hr
    go_enter Tryz.func14, Tryz.ntmps14
    go_wp2
    go_loop [3, 4, 5] (fun o v _ => ∃ (a : Nat) (acc : List UInt8), v = .int .i64 (-(a : Int)) ∧ acc.length + a ≤ 1000000000 ∧ o = .string ⟨acc.toArray⟩ ∧ Hid (decF a a acc = r)) (fun _ v _ => (-(intOf v)).toNat)
    case atStart => exact ⟨n.natAbs, [], by rw [← HN.out], by simp; omega, rfl, HR2⟩
    case round =>
      obtain ⟨a, acc, rfl, ha, rfl, HA⟩ := hrel
      by_cases h : a = 0
      · subst h
        have e := HA.out
        rw [decF_zero] at e
        subst e
        have hal : ¬ 9223372036854775807 < 1 + acc.length := by omega
        go_wp2
        go_ret
        exact ⟨congrArg (fun s => Ending.returned (.string s)) (show (⟨#[45]⟩ : ByteArray) ++ ⟨acc.toArray⟩ = ⟨(45 :: acc).toArray⟩ by simp [ByteArray.ext_iff]), rfl⟩
      · have HS := Lib.hid ((decF_step h acc).symm.trans HA.out)
        have hal : ¬ 9223372036854775807 < 1 + acc.length := by omega
        have hsl : ∀ w, Sem.run Tryz.prog (Instr.slice 9 (.string ⟨#[48, 49, 50, 51, 52, 53, 54, 55, 56, 57]⟩) (some (.int .i64 ((a : Int) % 10))) (some (.int .i64 ((a : Int) % 10 + 1))) none) w = .ok (.string ⟨#[UInt8.ofNat (48 + a % 10)]⟩) w := fun w => by
          have h2 := slice_digit (a % 10) (Nat.mod_lt _ (by omega)) w
          have e2 : ((a % 10 : Nat) : Int) = (a : Int) % 10 := Int.natCast_emod a 10
          rw [e2] at h2
          exact h2
        have hneg : -(a : Int) < 0 := by omega
        have hmod : (-(a : Int)).tmod 10 = -((a : Int) % 10) := by rw [Int.neg_tmod]; rfl
        have hdiv : (-(a : Int)).tdiv 10 = -((a : Int) / 10) := by rw [Int.neg_tdiv]; rfl
        have hna : (-(a : Int) == 0) = false := by simp; omega
        by_cases hz : (a : Int) % 10 = 0
        · have hz2 : a % 10 = 0 := by omega
          rw [hz2] at HS
          have hs0 : ∀ w, Sem.run Tryz.prog (Instr.slice 9 (.string ⟨#[48, 49, 50, 51, 52, 53, 54, 55, 56, 57]⟩) (some (.int .i64 0)) (some (.int .i64 1)) none) w = .ok (.string ⟨#[48]⟩) w := fun w => slice_digit 0 (by omega) w
          rw [hz] at hmod
          clear hsl hz2
          go_wp2
          clear hmod hdiv hz
          refine ⟨⟨a / 10, 48 :: acc, by simp, by simp; omega, by simp [ByteArray.ext_iff], HS⟩, ?_⟩
          show (- (-((a : Int) / 10))).toNat < (-(-(a : Int))).toNat
          omega
        · have hnm : ¬ ((a : Int) % 10 ≤ -((a : Int) % 10)) := by omega
          generalize UInt8.ofNat (48 + a % 10) = c at *
          go_wp2
          clear hmod hdiv
          refine ⟨⟨a / 10, c :: acc, by simp, by simp; omega, by simp [ByteArray.ext_iff], HS⟩, ?_⟩
          show (- (-((a : Int) / 10))).toNat < (-(-(a : Int))).toNat
          omega
  · go_enter Tryz.func14, Tryz.ntmps14
    go_wp2
    go_ret
    exact ⟨rfl, rfl⟩
  · obtain ⟨r, hr⟩ : ∃ r, decF n.natAbs n.natAbs [] = r := ⟨_, rfl⟩
    have HR : Hid (wholeT n = ⟨r.toArray⟩) := Lib.hid (by rw [← hr]; unfold wholeT wholeL; rw [if_neg (by omega), if_neg (by omega)])
    have HR2 := Lib.hid hr
    have HN : Hid (n = (n.natAbs : Int)) := Lib.hid (by omega)
    rw [HR.out]
    have hne : (n == 0) = false := by simp; omega
    clear hr
    go_enter Tryz.func14, Tryz.ntmps14
    go_wp2
    go_loop [3, 4, 5] (fun o v _ => ∃ (a : Nat) (acc : List UInt8), v = .int .i64 a ∧ acc.length + a ≤ 1000000000 ∧ o = .string ⟨acc.toArray⟩ ∧ Hid (decF a a acc = r)) (fun _ v _ => (intOf v).toNat)
    case atStart => exact ⟨n.natAbs, [], by rw [← HN.out], by simp; omega, rfl, HR2⟩
    case round =>
      obtain ⟨a, acc, rfl, ha, rfl, HA⟩ := hrel
      by_cases h : a = 0
      · subst h
        have e := HA.out
        rw [decF_zero] at e
        subst e
        go_wp2
        go_ret
        exact ⟨rfl, rfl⟩
      · have HS := Lib.hid ((decF_step h acc).symm.trans HA.out)
        have hpos : (0 : Int) < (a : Int) := by omega
        have hna : ((a : Int) == 0) = false := by simp; omega
        have hsl : ∀ w, Sem.run Tryz.prog (Instr.slice 9 (.string ⟨#[48, 49, 50, 51, 52, 53, 54, 55, 56, 57]⟩) (some (.int .i64 ((a : Int) % 10))) (some (.int .i64 ((a : Int) % 10 + 1))) none) w = .ok (.string ⟨#[UInt8.ofNat (48 + a % 10)]⟩) w := fun w => by
          have h2 := slice_digit (a % 10) (Nat.mod_lt _ (by omega)) w
          have e2 : ((a % 10 : Nat) : Int) = (a : Int) % 10 := Int.natCast_emod a 10
          rw [e2] at h2
          exact h2
        generalize UInt8.ofNat (48 + a % 10) = c at *
        have hal : ¬ 9223372036854775807 < 1 + acc.length := by omega
        go_wp2
        refine ⟨⟨a / 10, c :: acc, by simp, by simp; omega, by simp [ByteArray.ext_iff], HS⟩, ?_⟩
        show ((a : Int) / 10).toNat < (a : Int).toNat
        omega

end Go.Proofs.YtlbmihpmcgiinaaGreatDoor.Own
