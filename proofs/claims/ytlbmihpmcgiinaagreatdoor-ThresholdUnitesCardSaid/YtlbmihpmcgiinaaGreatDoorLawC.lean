/- Chapter 39: the walk of ThresholdMerges. -/
import Derived.Test.YtlbmihpmcgiinaaGreatDoorLawB
import Derived.Test.YtlbmihpmcgiinaaGreatDoorMergC
namespace Go.Proofs.YtlbmihpmcgiinaaGreatDoor.Own
open Go Go.Proofs Go.RowKit

theorem eqB_self (l : List ByteArray) : eqB l l = true := by simp [eqB]

theorem mergeR_len (a b : List ByteArray) : (mergeR a b).1.length ≤ 256 := by
  unfold mergeR
  split
  · exact Nat.zero_le _
  · split
    · exact Nat.zero_le _
    · exact limL_len _ _ (Nat.le_refl _)

set_option maxRecDepth 100000 in
set_option maxHeartbeats 1000000 in
theorem w5 (pa pb : Option Addr) (ca cb : Nat) (a b : List ByteArray) (w : World) (ha : StrsAt w pa a) (hb : StrsAt w pb b) (hla : a.length < 4611686018427387904) (hlb : b.length < 4611686018427387904) (hL : Laid39 w) :
    Calls Tryz.prog 5 #[.slice pa a.length ca, .slice pb b.length cb] w fun e w' => e = .returned (.bool true) ∧ Below w.heap.size w w' := by
  have H8 := w8 pa ca a w ha hla
  have H8b := w8 pb cb b w hb hlb
  have h10 := hL.size
  by_cases hfa : fewB a = true
  · by_cases hfb : fewB b = true
    · rw [hfa] at H8
      rw [hfb] at H8b
      have sa : ∀ s ∈ a, s.size < 4611686018427387904 := fun s hs => Nat.lt_of_le_of_lt (fewB_size hfa s hs) (by omega)
      have sb : ∀ s ∈ b, s.size < 4611686018427387904 := fun s hs => Nat.lt_of_le_of_lt (fewB_size hfb s hs) (by omega)
      have la : a.length ≤ 1000 := Nat.le_trans (fewB_len hfa) (by omega)
      have lb : b.length ≤ 1000 := Nat.le_trans (fewB_len hfb) (by omega)
      have K24 := Lib.hid (fun W (hW : Below w.heap.size w W) => w24 pa pb ca cb a b W (ha.below hW) (hb.below hW) sa sb la lb (Nat.le_trans h10 hW.size))
      have K25 := Lib.hid (fun W (hW : Below w.heap.size w W) => w25 pa pb ca cb a b W (ha.below hW) (hb.below hW) sa sb la lb)
      have K26 := Lib.hid (fun W (hW : Below w.heap.size w W) => w26 pa ca a W (ha.below hW) sa hla (Nat.le_trans h10 hW.size))
      have K27 := Lib.hid (fun W (hW : Below w.heap.size w W) => w27 pa ca a W (ha.below hW) sa hla)
      have K9 := Lib.hid (fun W (hW : Below w.heap.size w W) => awake9 (hL.below hW))
      have hrl := mergeR_len a b
      generalize mergeR a b = r at *
      generalize checkL a = x at *
      obtain ⟨u, z⟩ := r
      have HE := Lib.hid (fun q q' c c' W (h1 : StrsAt W q u) (h2 : StrsAt W q' u) => w28 q q' c c' u u W h1 h2 (Nat.lt_of_le_of_lt hrl (by omega)))
      have HES := Lib.hid (eqB_self u)
      clear hfa hfb ha hb hL h10 sa sb la lb hla hlb
      go_enter Tryz.func5, Tryz.ntmps5
      go_wp2_with (first | (go_at_call 8; ((with_reducible refine H8.mono ?_); rintro e w2 ⟨rfl, rfl⟩)) | (go_at_call 8; ((with_reducible refine H8b.mono ?_); rintro e w2 ⟨rfl, rfl⟩)))
      refine (K24.out _ (Below.refl _ _)).mono ?_
      rintro e w3 ⟨q, c, rfl, hat, hB3⟩
      have HAT := Lib.hid hat
      clear hat
      go_wp2_with (fail)
      refine (K25.out _ hB3).mono ?_
      rintro e w4 ⟨q', c', rfl, hat', hB4'⟩
      have HAT2 := Lib.hid (HAT.out.below hB4')
      have HAT3 := Lib.hid hat'
      have hB4 := hB3.trans (hB4'.mono hB3.size)
      clear hat'
      go_wp2_with (fail)
      refine (K9.out _ hB4).mono ?_
      rintro e w5 ⟨rfl, hB5'⟩
      have hB5 := hB4.trans (hB5'.mono hB4.size)
      go_wp2_with (fail)
      refine (K26.out _ hB5).mono ?_
      rintro e w6 ⟨rfl, hB6'⟩
      have hB6 := hB5.trans (hB6'.mono hB5.size)
      go_wp2_with (fail)
      refine (K27.out _ hB6).mono ?_
      rintro e w7 ⟨rfl, hB7'⟩
      have hB7 := hB6.trans (hB7'.mono hB6.size)
      have hBB : Below w4.heap.size w4 w7 := (hB5'.trans (hB6'.mono hB5'.size)).trans (hB7'.mono (Nat.le_trans hB5'.size hB6'.size))
      go_wp2_with (fail)
      refine (HE.out _ _ _ _ _ (HAT2.out.below hBB) (HAT3.out.below hBB)).mono ?_
      rintro e w8 ⟨rfl, hB8'⟩
      have hB8 := hB7.trans (hB8'.mono hB7.size)
      rw [HES.out]
      go_wp2_with (fail)
      go_ret
      exact ⟨rfl, hB8⟩
    · have H9 := awake9 hL
      have hfb : fewB b = false := by simpa using hfb
      rw [hfa] at H8
      rw [hfb] at H8b
      clear hfa hfb ha hb hL h10 hla hlb
      go_enter Tryz.func5, Tryz.ntmps5
      go_wp2_with (first | (go_at_call 8; ((with_reducible refine H8.mono ?_); rintro e w2 ⟨rfl, rfl⟩)) | (go_at_call 8; ((with_reducible refine H8b.mono ?_); rintro e w2 ⟨rfl, rfl⟩)) | (go_at_call 9; refine H9.mono ?_; rintro e w3 ⟨rfl, hB3⟩))
      go_ret
      exact ⟨rfl, hB3⟩
  · have H9 := awake9 hL
    have hfa : fewB a = false := by simpa using hfa
    rw [hfa] at H8
    clear hfa ha hb hL h10 hla hlb
    go_enter Tryz.func5, Tryz.ntmps5
    go_wp2_with (first | (go_at_call 8; ((with_reducible refine H8.mono ?_); rintro e w2 ⟨rfl, rfl⟩)) | (go_at_call 9; refine H9.mono ?_; rintro e w3 ⟨rfl, hB3⟩))
    go_ret
    exact ⟨rfl, hB3⟩

end Go.Proofs.YtlbmihpmcgiinaaGreatDoor.Own
