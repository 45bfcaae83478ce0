/- Chapter 39: walks: the reference's search, Above and Below. -/
import Derived.Test.YtlbmihpmcgiinaaGreatDoorW27
import Derived.Test.YtlbmihpmcgiinaaGreatDoorStart

section
namespace Go.Proofs.YtlbmihpmcgiinaaGreatDoor.Own
open Go Go.Proofs Go.RowKit

theorem w41 (p : Option Addr) (cap : Nat) (l : List ByteArray) (v : ByteArray) (w : World) (h : StrsAt w p l) (hsz : ∀ s ∈ l, s.size < 4611686018427387904) (hv : v.size < 4611686018427387904) (hl : l.length < 4611686018427387904) :
    Calls Tryz.prog 41 #[.slice p l.length cap, .string v] w fun e w' => e = .returned (.int .i64 (besideL l v)) ∧ Below w.heap.size w w' := by
  have H27 := w27 p cap l w h hsz hl
  have K30 := Lib.hid (fun W => w30 v hv W)
  obtain ⟨c, hc⟩ : ∃ c, besideL l v = c := ⟨_, rfl⟩
  rw [hc]
  unfold besideL at hc
  generalize checkL l = x at *
  generalize chk v = y at *
  clear h hsz
  go_enter Tryz.func41, Tryz.ntmps41
  by_cases h0 : x = 0
  · rw [if_neg (by simp [h0])] at hc
    subst h0
    subst hc
    go_wp2_with (first | (go_at_call 27; refine H27.mono ?_; rintro e w2 ⟨rfl, hB⟩) | (go_at_call 30; refine (K30.out _).mono ?_; rintro e w3 ⟨rfl, rfl⟩))
    go_ret
    exact ⟨rfl, hB⟩
  · rw [if_pos h0] at hc
    subst hc
    have hne : (x != 0) = true := by simpa using h0
    go_wp2_with (first | (go_at_call 27; refine H27.mono ?_; rintro e w2 ⟨rfl, hB⟩))
    go_ret
    exact ⟨rfl, hB⟩

theorem drop_find (l : List ByteArray) (v : ByteArray) (k : Nat) (hk : k < l.length) :
    (l.drop k).find? (notLess · v) = if notLess l[k] v then some l[k] else (l.drop (k + 1)).find? (notLess · v) := by
  rw [List.drop_eq_getElem_cons hk, List.find?_cons]
  cases notLess l[k] v <;> rfl

set_option maxRecDepth 100000 in
set_option maxHeartbeats 1000000 in
theorem w11 (p : Option Addr) (cap : Nat) (l : List ByteArray) (v : ByteArray) (w : World) (h : StrsAt w p l) (hsz : ∀ s ∈ l, s.size < 4611686018427387904) (hv : v.size < 4611686018427387904) (hl : l.length < 4611686018427387904) :
    Calls Tryz.prog 11 #[.slice p l.length cap, .string v] w fun e w' => e = .returned (.tuple #[.string (aboveL l v).1, .int .i64 (aboveL l v).2]) ∧ Below w.heap.size w w' := by
  have H41 := w41 p cap l v w h hsz hv hl
  have HALL := Lib.hid (fun (h0 : besideL l v = 0) => besideL_zero h0)
  have HS := Lib.hid h
  obtain ⟨c, hc⟩ : ∃ c, aboveL l v = c := ⟨_, rfl⟩
  rw [hc]
  unfold aboveL at hc
  generalize besideL l v = x at *
  clear h hsz
  go_enter Tryz.func11, Tryz.ntmps11
  by_cases h0 : x = 0
  · rw [if_neg (by simp [h0])] at hc
    subst h0
    obtain ⟨hall, hv0⟩ := HALL.out rfl
    have HCC := Lib.hid hc
    have HAL := Lib.hid hall
    clear hc hall HALL
    go_wp2_with (first | (go_at_call 41; refine H41.mono ?_; rintro e w2 ⟨rfl, hB⟩))
    go_loopw [7] (fun i wr => ∃ k : Nat, i = .int .i64 k ∧ k ≤ l.length ∧ Hid (l.find? (notLess · v) = (l.drop k).find? (notLess · v)) ∧ Hid (Below w.heap.size w wr)) (fun i _ => l.length - (intOf i).toNat)
    case atStart => exact ⟨0, rfl, Nat.zero_le _, Lib.hid rfl, Lib.hid hB⟩
    case round =>
      obtain ⟨k, rfl, hk, HK, HB⟩ := hrel
      by_cases hk2 : k < l.length
      · have hBr := HB.out
        obtain ⟨b, off, rfl, hb, hcells⟩ := (HS.out.below hBr) (by rintro rfl; simp at hk2)
        have hck := hcells k hk2
        have H32 := w32 l[k] v (HAL.out _ (List.getElem_mem hk2)) hv0 wr
        have hst := HK.out.trans (drop_find l v k hk2)
        unfold notLess at hst
        obtain ⟨s, hs⟩ : ∃ s, l[k] = s := ⟨_, rfl⟩
        rw [hs] at hck H32 hst
        generalize sgn (decInt s.data.toList - decInt v.data.toList) = z at H32 hst
        have HST := Lib.hid hst
        clear hcells hs hst
        by_cases hz : 0 ≤ z
        · have hcc := HCC.out
          have hst := HST.out
          rw [if_pos (by simpa using hz)] at hst
          unfold notLess at hcc
          rw [hst] at hcc
          have hcc : (s, 0) = c := hcc
          subst hcc
          clear hst HST HCC HK
          go_wp2_with (first | (go_at_call 32; refine H32.mono ?_; rintro e w3 ⟨rfl, hB3⟩; have hck3 := (hB3.cell (p := ⟨b, off + k, none⟩) hb).trans hck))
          go_ret2
          exact ⟨rfl, HB.out.trans (hB3.mono HB.out.size)⟩
        · have hst := HST.out
          rw [if_neg (by simpa using hz)] at hst
          have HST2 := Lib.hid hst
          clear hst HST HCC HK
          go_wp2_with (first | (go_at_call 32; refine H32.mono ?_; rintro e w3 ⟨rfl, hB3⟩))
          refine ⟨⟨k + 1, rfl, hk2, HST2, Lib.hid (HB.out.trans (hB3.mono HB.out.size))⟩, ?_⟩
          show l.length - ((k : Int) + 1).toNat < l.length - (k : Int).toNat
          omega
      · obtain rfl : k = l.length := by omega
        have hcc := HCC.out
        rw [HK.out, List.drop_length] at hcc
        have hcc : (emptyB, 6) = c := hcc
        subst hcc
        clear HCC HK
        go_wp2
        go_ret2
        exact ⟨rfl, HB.out⟩
  · rw [if_pos h0] at hc
    subst hc
    have hne : (x != 0) = true := by simpa using h0
    go_wp2_with (first | (go_at_call 41; refine H41.mono ?_; rintro e w2 ⟨rfl, hB⟩))
    go_ret2
    exact ⟨rfl, hB⟩

set_option maxRecDepth 100000 in
set_option maxHeartbeats 1000000 in
theorem w13 (p : Option Addr) (cap : Nat) (l : List ByteArray) (v : ByteArray) (w : World) (h : StrsAt w p l) (hsz : ∀ s ∈ l, s.size < 4611686018427387904) (hv : v.size < 4611686018427387904) (hl : l.length < 4611686018427387904) :
    Calls Tryz.prog 13 #[.slice p l.length cap, .string v] w fun e w' => e = .returned (.tuple #[.string (belowL l v).1, .int .i64 (belowL l v).2]) ∧ Below w.heap.size w w' := by
  have H41 := w41 p cap l v w h hsz hv hl
  have HALL := Lib.hid (fun (h0 : besideL l v = 0) => besideL_zero h0)
  have HS := Lib.hid h
  obtain ⟨c, hc⟩ : ∃ c, belowL l v = c := ⟨_, rfl⟩
  rw [hc]
  unfold belowL at hc
  generalize besideL l v = x at *
  clear h hsz
  go_enter Tryz.func13, Tryz.ntmps13
  by_cases h0 : x = 0
  · rw [if_neg (by simp [h0])] at hc
    subst h0
    obtain ⟨hall, hv0⟩ := HALL.out rfl
    have HCC := Lib.hid hc
    have HAL := Lib.hid hall
    clear hc hall HALL
    go_wp2_with (first | (go_at_call 41; refine H41.mono ?_; rintro e w2 ⟨rfl, hB⟩))
    go_loopw [7] (fun i wr => ∃ k : Nat, i = .int .i64 ((k : Int) - 1) ∧ k ≤ l.length ∧ Hid (l.reverse.find? (notMore · v) = (l.take k).reverse.find? (notMore · v)) ∧ Hid (Below w.heap.size w wr)) (fun i _ => (intOf i + 1).toNat)
    case atStart => exact ⟨l.length, rfl, Nat.le_refl _, Lib.hid (by rw [List.take_of_length_le (Nat.le_refl _)]), Lib.hid hB⟩
    case round =>
      obtain ⟨k, rfl, hk, HK, HB⟩ := hrel
      by_cases hk0 : 0 < k
      · obtain ⟨j, rfl⟩ : ∃ j, k = j + 1 := ⟨k - 1, by omega⟩
        have ej : (((j + 1 : Nat) : Int) - 1) = (j : Int) := by omega
        rw [ej]
        have hBr := HB.out
        have hj : j < l.length := by omega
        obtain ⟨b, off, rfl, hb, hcells⟩ := (HS.out.below hBr) (by rintro rfl; simp at hj)
        have hck := hcells j hj
        have H32 := w32 l[j] v (HAL.out _ (List.getElem_mem hj)) hv0 wr
        have hst := HK.out.trans (take_find l v j hj)
        unfold notMore at hst
        obtain ⟨s, hs⟩ : ∃ s, l[j] = s := ⟨_, rfl⟩
        rw [hs] at hck H32 hst
        generalize sgn (decInt s.data.toList - decInt v.data.toList) = z at H32 hst
        have HST := Lib.hid hst
        clear hcells hs hst
        by_cases hz : z ≤ 0
        · have hcc := HCC.out
          have hst := HST.out
          rw [if_pos (by simpa using hz)] at hst
          unfold notMore at hcc
          rw [hst] at hcc
          have hcc : (s, 0) = c := hcc
          subst hcc
          clear hst HST HCC HK
          go_wp2_with (first | (go_at_call 32; refine H32.mono ?_; rintro e w3 ⟨rfl, hB3⟩; have hck3 := (hB3.cell (p := ⟨b, off + j, none⟩) hb).trans hck))
          go_ret2
          exact ⟨rfl, HB.out.trans (hB3.mono HB.out.size)⟩
        · have hst := HST.out
          rw [if_neg (by simpa using hz)] at hst
          have HST2 := Lib.hid hst
          clear hst HST HCC HK
          go_wp2_with (first | (go_at_call 32; refine H32.mono ?_; rintro e w3 ⟨rfl, hB3⟩))
          refine ⟨⟨j, rfl, Nat.le_of_lt hj, HST2, Lib.hid (HB.out.trans (hB3.mono HB.out.size))⟩, ?_⟩
          show (((j : Int) - 1) + 1).toNat < ((j : Int) + 1).toNat
          omega
      · obtain rfl : k = 0 := by omega
        have hcc := HCC.out
        rw [HK.out, List.take_zero] at hcc
        have hcc : (emptyB, 6) = c := hcc
        subst hcc
        clear HCC HK
        go_wp2
        go_ret2
        exact ⟨rfl, HB.out⟩
  · rw [if_pos h0] at hc
    subst hc
    have hne : (x != 0) = true := by simpa using h0
    go_wp2_with (first | (go_at_call 41; refine H41.mono ?_; rintro e w2 ⟨rfl, hB⟩))
    go_ret2
    exact ⟨rfl, hB⟩

end Go.Proofs.YtlbmihpmcgiinaaGreatDoor.Own
end

/- Chapter 39: walks: the reference's Few. -/
section
namespace Go.Proofs.YtlbmihpmcgiinaaGreatDoor.Own
open Go Go.Proofs Go.RowKit

/-- Few texts, and none of them long. -/
def fewB (l : List ByteArray) : Bool := decide (l.length ≤ 300) && l.all (fun s => decide (s.size ≤ 200))

theorem fewB_len {l : List ByteArray} (h : fewB l = true) : l.length ≤ 300 := by
  unfold fewB at h
  rw [Bool.and_eq_true] at h
  exact of_decide_eq_true h.1

theorem fewB_size {l : List ByteArray} (h : fewB l = true) : ∀ s ∈ l, s.size ≤ 200 := by
  unfold fewB at h
  rw [Bool.and_eq_true] at h
  intro s hs
  exact of_decide_eq_true (List.all_eq_true.mp h.2 s hs)

theorem few_step (l : List ByteArray) (k : Nat) (hk : k < l.length) :
    (l.drop k).all (fun s => decide (s.size ≤ 200)) = (decide (l[k].size ≤ 200) && (l.drop (k + 1)).all (fun s => decide (s.size ≤ 200))) := by
  rw [List.drop_eq_getElem_cons hk, List.all_cons]

set_option maxRecDepth 100000 in
set_option maxHeartbeats 1000000 in
theorem w8 (p : Option Addr) (cap : Nat) (l : List ByteArray) (w : World) (h : StrsAt w p l) (hl : l.length < 4611686018427387904) :
    Calls Tryz.prog 8 #[.slice p l.length cap] w fun e w' => e = .returned (.bool (fewB l)) ∧ w' = w := by
  have H := Lib.hid h
  obtain ⟨c, hc⟩ : ∃ c, fewB l = c := ⟨_, rfl⟩
  rw [hc]
  unfold fewB at hc
  clear h
  go_enter Tryz.func8, Tryz.ntmps8
  by_cases hlen : 300 < l.length
  · rw [decide_eq_false (by omega), Bool.false_and] at hc
    subst hc
    go_wp2
    go_ret
    exact ⟨rfl, rfl⟩
  · rw [decide_eq_true (by omega), Bool.true_and] at hc
    have HC := Lib.hid hc
    clear hc
    go_wp2
    go_loopw [3] (fun i wr => ∃ k : Nat, i = .int .i64 k ∧ k ≤ l.length ∧ Hid ((l.drop k).all (fun s => decide (s.size ≤ 200)) = c) ∧ Hid (wr = w)) (fun i _ => l.length - (intOf i).toNat)
    case atStart => exact ⟨0, rfl, Nat.zero_le _, HC, Lib.hid rfl⟩
    case round =>
      obtain ⟨k, rfl, hk, HK, HB⟩ := hrel
      by_cases hk2 : k < l.length
      · have hw := HB.out
        subst hw
        obtain ⟨b, off, rfl, hb, hcells⟩ := H.out (by rintro rfl; simp at hk2)
        have hck := hcells k hk2
        have hst := (few_step l k hk2).symm.trans HK.out
        obtain ⟨s, hs⟩ : ∃ s, l[k] = s := ⟨_, rfl⟩
        rw [hs] at hck hst
        have HST := Lib.hid hst
        clear hcells hs hst
        by_cases hz : 200 < s.size
        · have hcc := HST.out
          rw [decide_eq_false (by omega), Bool.false_and] at hcc
          subst hcc
          go_wp2
          go_ret
          exact ⟨rfl, rfl⟩
        · have hcc := HST.out
          rw [decide_eq_true (by omega), Bool.true_and] at hcc
          have HCC := Lib.hid hcc
          clear hcc HST HK
          go_wp2
          refine ⟨⟨k + 1, rfl, hk2, HCC, Lib.hid (by first | trivial | rfl)⟩, ?_⟩
          show l.length - ((k : Int) + 1).toNat < l.length - (k : Int).toNat
          omega
      · obtain rfl : k = l.length := by omega
        have hcc := HK.out
        rw [List.drop_length] at hcc
        have hcc : true = c := hcc
        subst hcc
        have hw := HB.out
        subst hw
        go_wp2
        go_ret
        exact ⟨rfl, rfl⟩

end Go.Proofs.YtlbmihpmcgiinaaGreatDoor.Own
end

/- Chapter 39: the walk of ThresholdSearches. -/
section
namespace Go.Proofs.YtlbmihpmcgiinaaGreatDoor.Own
open Go Go.Proofs Go.RowKit

theorem Laid39.below {w w' : World} (h : Laid39 w) (k : Below w.heap.size w w') : Laid39 w' := by
  obtain ⟨h1, ⟨e, f, h2⟩, ⟨b, off, e', f', c, e2, f2, h3, h4, h5, h6, h7⟩⟩ := h
  have hb : b < w.heap.size := (Array.getElem?_eq_some_iff.1 h4).1
  exact ⟨Nat.le_trans h1 k.size, ⟨e, f, (k.block 1 (by omega)).trans h2⟩, ⟨b, off, e', f', c, e2, f2, (k.block 0 (by omega)).trans h3, (k.block b hb).trans h4, h5, h6, h7⟩⟩

theorem awake9 {w : World} (h : Laid39 w) : Calls Tryz.prog 9 #[] w (fun e w' => e = .returned (.bool true) ∧ Below w.heap.size w w') :=
  (awake_of h).mono fun _ _ ⟨h1, h2⟩ => ⟨h1, below_of_grown h2⟩

set_option maxRecDepth 100000 in
set_option maxHeartbeats 1000000 in
theorem w3 (p : Option Addr) (cap : Nat) (l : List ByteArray) (v : ByteArray) (w : World) (h : StrsAt w p l) (hl : l.length < 4611686018427387904) (hL : Laid39 w) :
    Calls Tryz.prog 3 #[.slice p l.length cap, .string v] w fun e w' => e = .returned (.bool true) ∧ Below w.heap.size w w' := by
  have H8 := w8 p cap l w h hl
  have h10 := hL.size
  by_cases hg : fewB l = true ∧ v.size ≤ 200
  · have hv : v.size < 4611686018427387904 := Nat.lt_of_le_of_lt hg.2 (by omega)
    have hsz : ∀ s ∈ l, s.size < 4611686018427387904 := fun s hs => Nat.lt_of_le_of_lt (fewB_size hg.1 s hs) (by omega)
    have K10 := Lib.hid (fun W (hW : Below w.heap.size w W) => w10 p cap l v W (h.below hW) hsz hv hl (Nat.le_trans h10 hW.size))
    have K11 := Lib.hid (fun W (hW : Below w.heap.size w W) => w11 p cap l v W (h.below hW) hsz hv hl)
    have K12 := Lib.hid (fun W (hW : Below w.heap.size w W) => w12 p cap l v W (h.below hW) hsz hv hl (Nat.le_trans h10 hW.size))
    have K13 := Lib.hid (fun W (hW : Below w.heap.size w W) => w13 p cap l v W (h.below hW) hsz hv hl)
    have K9 := Lib.hid (fun W (hW : Below w.heap.size w W) => awake9 (hL.below hW))
    rw [hg.1] at H8
    generalize aboveL l v = A at *
    generalize belowL l v = B at *
    obtain ⟨A1, A2⟩ := A
    obtain ⟨B1, B2⟩ := B
    have hvv := hg.2
    clear hg hv hsz h hL h10
    go_enter Tryz.func3, Tryz.ntmps3
    go_wp2_with (first | (go_at_call 8; refine H8.mono ?_; rintro e w2 ⟨rfl, rfl⟩))
    refine (K10.out _ (Below.refl _ _)).mono ?_
    rintro e w3 ⟨rfl, hB3⟩
    go_wp2_with (fail)
    refine (K11.out _ hB3).mono ?_
    rintro e w4 ⟨rfl, hB4'⟩
    have hB4 := hB3.trans (hB4'.mono hB3.size)
    go_wp2_with (fail)
    refine (K12.out _ hB4).mono ?_
    rintro e w5 ⟨rfl, hB5'⟩
    have hB5 := hB4.trans (hB5'.mono hB4.size)
    go_wp2_with (fail)
    refine (K13.out _ hB5).mono ?_
    rintro e w6 ⟨rfl, hB6'⟩
    have hB6 := hB5.trans (hB6'.mono hB5.size)
    go_wp2_with (fail)
    refine (K9.out _ hB6).mono ?_
    rintro e w7 ⟨rfl, hB7'⟩
    have hB7 := hB6.trans (hB7'.mono hB6.size)
    go_wp2_with (fail)
    go_ret
    exact ⟨rfl, hB7⟩
  · have H9 := awake9 hL
    by_cases hf : fewB l = true
    · have hvv : ¬ v.size ≤ 200 := fun k => hg ⟨hf, k⟩
      rw [hf] at H8
      clear hg hf h hL h10
      go_enter Tryz.func3, Tryz.ntmps3
      go_wp2_with (first | (go_at_call 8; refine H8.mono ?_; rintro e w2 ⟨rfl, rfl⟩) | (go_at_call 9; refine H9.mono ?_; rintro e w3 ⟨rfl, hB3⟩))
      go_ret
      exact ⟨rfl, hB3⟩
    · have hf : fewB l = false := by simpa using hf
      rw [hf] at H8
      clear hg hf h hL h10
      go_enter Tryz.func3, Tryz.ntmps3
      go_wp2_with (first | (go_at_call 8; refine H8.mono ?_; rintro e w2 ⟨rfl, rfl⟩) | (go_at_call 9; refine H9.mono ?_; rintro e w3 ⟨rfl, hB3⟩))
      go_ret
      exact ⟨rfl, hB3⟩

end Go.Proofs.YtlbmihpmcgiinaaGreatDoor.Own
end
