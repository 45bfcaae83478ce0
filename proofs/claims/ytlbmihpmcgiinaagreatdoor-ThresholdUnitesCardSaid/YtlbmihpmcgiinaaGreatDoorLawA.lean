/- Chapter 39: walks: threshold.Above. -/
import Derived.Test.YtlbmihpmcgiinaaGreatDoorW26

section
namespace Go.Proofs.YtlbmihpmcgiinaaGreatDoor.Own
open Go Go.Proofs Go.RowKit

/-- The number of the error of a list and a number. -/
def besideL (l : List ByteArray) (v : ByteArray) : Int := if checkL l ≠ 0 then checkL l else chk v

theorem ckL_all : ∀ (l : List ByteArray) (q : Option ByteArray), ckL l q = 0 → ∀ s ∈ l, chk s = 0 := by
  intro l
  induction l with
  | nil => intro _ _ s h; cases h
  | cons t l ih =>
    intro q h s hs
    unfold ckL at h
    by_cases h0 : chk t = 0
    · rw [if_neg (by simp [h0])] at h
      split at h
      · cases h
      · split at h
        · cases h
        · rcases List.mem_cons.mp hs with rfl | hs
          · exact h0
          · exact ih _ h s hs
    · rw [if_pos h0] at h
      exact absurd h h0

theorem checkL_all {l : List ByteArray} (h : checkL l = 0) : ∀ s ∈ l, chk s = 0 := by
  unfold checkL at h
  split at h
  · cases h
  · exact ckL_all _ _ h

theorem besideL_zero {l : List ByteArray} {v : ByteArray} (h : besideL l v = 0) : (∀ s ∈ l, chk s = 0) ∧ chk v = 0 := by
  unfold besideL at h
  by_cases h0 : checkL l = 0
  · rw [if_neg (by simp [h0])] at h
    exact ⟨checkL_all h0, h⟩
  · rw [if_pos h0] at h
    exact absurd h h0

theorem w37 (p : Option Addr) (cap : Nat) (l : List ByteArray) (v : ByteArray) (w : World) (h : StrsAt w p l) (hsz : ∀ s ∈ l, s.size < 4611686018427387904) (hv : v.size < 4611686018427387904) (hl : l.length < 4611686018427387904) (h10 : 10 ≤ w.heap.size) :
    Calls Tryz.prog 37 #[.slice p l.length cap, .string v] w fun e w' => e = .returned (.int .i64 (besideL l v)) ∧ Below w.heap.size w w' := by
  have H26 := w26 p cap l w h hsz hl h10
  have K59 := Lib.hid (fun W (hW : 10 ≤ W.heap.size) => w59 v hv W hW)
  obtain ⟨c, hc⟩ : ∃ c, besideL l v = c := ⟨_, rfl⟩
  rw [hc]
  unfold besideL at hc
  generalize checkL l = x at *
  generalize chk v = y at *
  clear h hsz
  go_enter Tryz.func37, Tryz.ntmps37
  by_cases h0 : x = 0
  · rw [if_neg (by simp [h0])] at hc
    subst h0
    subst hc
    go_wp2_with (first | (go_at_call 26; refine H26.mono ?_; rintro e w2 ⟨rfl, hB⟩) | (go_at_call 59; refine (K59.out _ (Nat.le_trans h10 hB.size)).mono ?_; rintro e w3 ⟨rfl, hB2⟩))
    go_ret
    exact ⟨rfl, hB.trans (hB2.mono hB.size)⟩
  · rw [if_pos h0] at hc
    subst hc
    have hne : (x != 0) = true := by simpa using h0
    go_wp2_with (first | (go_at_call 26; refine H26.mono ?_; rintro e w2 ⟨rfl, hB⟩))
    go_ret
    exact ⟨rfl, hB⟩

theorem w39 (t v : ByteArray) (ht : chk t = 0) (hv : chk v = 0) (B : Nat) (w : World) (hc : w.cell? ⟨B, 0, none⟩ = some (.string v)) (h10 : 10 ≤ w.heap.size) :
    Calls Tryz.prog 39 #[.string t, .pointer (some ⟨B, 0, none⟩)] w fun e w' => e = .returned (.bool (notLess t v)) ∧ Below w.heap.size w w' := by
  have H40 := w40 t v ht hv w h10
  unfold notLess
  generalize sgn (decInt t.data.toList - decInt v.data.toList) = z at H40 ⊢
  clear ht hv
  go_enter Tryz.func39, Tryz.ntmps39
  go_wp2_with (first | (go_at_call 40; refine H40.mono ?_; rintro e w2 ⟨rfl, hB⟩))
  go_ret
  exact ⟨rfl, hB⟩

set_option maxRecDepth 100000 in
set_option maxHeartbeats 1000000 in
theorem w38 (p : Option Addr) (cap : Nat) (l : List ByteArray) (v : ByteArray) (B : Nat) (w : World) (h : StrsAt w p l) (hl : l.length < 4611686018427387904) (hall : ∀ s ∈ l, chk s = 0) (hv : chk v = 0) (hc : w.cell? ⟨B, 0, none⟩ = some (.string v)) (hBl : B < w.heap.size) (h10 : 10 ≤ w.heap.size) :
    Calls Tryz.prog 38 #[.slice p l.length cap, .func (.func 39) #[] #[.pointer (some ⟨B, 0, none⟩)]] w fun e w' =>
      ((∃ k, ∃ hk : k < l.length, e = .returned (.int .i64 (k : Nat)) ∧ l.find? (notLess · v) = some l[k]) ∨ (e = .returned (.int .i64 (-1)) ∧ l.find? (notLess · v) = none)) ∧ Below w.heap.size w w' := by
  have H := Lib.hid h
  have HALL := Lib.hid hall
  have HC := Lib.hid hc
  clear h hall hc
  go_enter Tryz.func38, Tryz.ntmps38
  go_wp2
  go_loopw [8] (fun i wr => ∃ k : Nat, i = .int .i64 k ∧ k ≤ l.length ∧ Hid (l.find? (notLess · v) = (l.drop k).find? (notLess · v)) ∧ Hid (Below w.heap.size w wr)) (fun i _ => l.length - (intOf i).toNat)
  case atStart => exact ⟨0, rfl, Nat.zero_le _, Lib.hid rfl, Lib.hid (Below.refl _ _)⟩
  case round =>
    obtain ⟨k, rfl, hk, HK, HB⟩ := hrel
    by_cases hk2 : k < l.length
    · have hB := HB.out
      obtain ⟨b, off, rfl, hb, hcells⟩ := (H.out.below hB) (by rintro rfl; simp at hk2)
      have hck := hcells k hk2
      have h10r : 10 ≤ wr.heap.size := Nat.le_trans h10 hB.size
      have H39 := w39 l[k] v (HALL.out _ (List.getElem_mem hk2)) hv B wr ((hB.cell (p := ⟨B, 0, none⟩) hBl).trans HC.out) h10r
      have HSTEP : Hid ((l.drop k).find? (notLess · v) = if notLess l[k] v then some l[k] else (l.drop (k + 1)).find? (notLess · v)) := Lib.hid (by
        rw [List.drop_eq_getElem_cons hk2, List.find?_cons]
        cases notLess l[k] v <;> rfl)
      have HSK : Hid (∃ hk : k < l.length, l[k] = l[k]) := Lib.hid ⟨hk2, rfl⟩
      obtain ⟨s, hs⟩ : ∃ s, l[k] = s := ⟨_, rfl⟩
      obtain ⟨x, hx⟩ : ∃ x, notLess l[k] v = x := ⟨_, rfl⟩
      have HS := Lib.hid hs
      rw [hx] at HSTEP H39
      rw [hs] at HSTEP H39 hck
      clear hs hx hcells
      cases x
      · go_wp2_with (first | (go_at_call 39; refine H39.mono ?_; rintro e w2 ⟨rfl, hB2⟩))
        refine ⟨⟨k + 1, rfl, hk2, Lib.hid (HK.out.trans HSTEP.out), Lib.hid (hB.trans (hB2.mono hB.size))⟩, ?_⟩
        show l.length - ((k : Int) + 1).toNat < l.length - (k : Int).toNat
        omega
      · go_wp2_with (first | (go_at_call 39; refine H39.mono ?_; rintro e w2 ⟨rfl, hB2⟩))
        go_ret
        refine ⟨.inl ⟨k, hk2, rfl, ?_⟩, hB.trans (hB2.mono hB.size)⟩
        rw [HS.out]
        exact HK.out.trans HSTEP.out
    · obtain rfl : k = l.length := by omega
      go_wp2
      go_ret
      refine ⟨.inr ⟨rfl, ?_⟩, HB.out⟩
      have := HK.out
      rw [List.drop_length] at this
      have this : l.find? (notLess · v) = none := this
      simpa using this

def emptyB : ByteArray := ⟨#[]⟩

/-- What Above answers. -/
def aboveL (l : List ByteArray) (v : ByteArray) : ByteArray × Int :=
  if besideL l v ≠ 0 then (emptyB, besideL l v) else match l.find? (notLess · v) with
    | some t => (t, 0)
    | none => (emptyB, 6)

set_option maxRecDepth 100000 in
set_option maxHeartbeats 1000000 in
theorem w10 (p : Option Addr) (cap : Nat) (l : List ByteArray) (v : ByteArray) (w : World) (h : StrsAt w p l) (hsz : ∀ s ∈ l, s.size < 4611686018427387904) (hv : v.size < 4611686018427387904) (hl : l.length < 4611686018427387904) (h10 : 10 ≤ w.heap.size) :
    Calls Tryz.prog 10 #[.slice p l.length cap, .string v] w fun e w' => e = .returned (.tuple #[.string (aboveL l v).1, .int .i64 (aboveL l v).2]) ∧ Below w.heap.size w w' := by
  have hB1 : Below w.heap.size w (w.alloc (.cells #[.string v] 23)) := (Below.refl _ w).alloc (Nat.le_refl _) _
  have H37 := w37 p cap l v (w.alloc (.cells #[.string v] 23)) (h.below hB1) hsz hv hl (Nat.le_trans h10 hB1.size)
  have bV := Boxed.new w 23 (.string v)
  have hcV := bV.cell
  have K38 := Lib.hid (fun W (hW : Below (w.alloc (.cells #[.string v] 23)).heap.size (w.alloc (.cells #[.string v] 23)) W) (h0 : besideL l v = 0) =>
    w38 p cap l v w.heap.size W ((h.below hB1).below hW) hl (besideL_zero h0).1 (besideL_zero h0).2 ((hW.cell (p := ⟨w.heap.size, 0, none⟩) (by simp)).trans hcV) (by have := hW.size; simp at this; omega) (Nat.le_trans h10 (Nat.le_trans hB1.size hW.size)))
  have HS := Lib.hid (fun W (hW : Below (w.alloc (.cells #[.string v] 23)).heap.size (w.alloc (.cells #[.string v] 23)) W) => (h.below hB1).below hW)
  obtain ⟨c, hc⟩ : ∃ c, aboveL l v = c := ⟨_, rfl⟩
  rw [hc]
  unfold aboveL at hc
  generalize besideL l v = x at *
  clear h hsz bV
  have HB1 := Lib.hid hB1
  clear hB1
  go_enter Tryz.func10, Tryz.ntmps10
  by_cases h0 : x = 0
  · rw [if_neg (by simp [h0])] at hc
    subst h0
    have HCC := Lib.hid hc
    clear hc
    go_wp2_with (first | (go_at_call 37; refine H37.mono ?_; rintro e w2 ⟨rfl, hB⟩))
    have H38 := K38.out w2 hB trivial
    have HSW := Lib.hid (HS.out w2 hB)
    have hBw := HB1.out.trans (hB.mono HB1.out.size)
    have HBW := Lib.hid hBw
    refine H38.mono ?_
    rintro e w3 ⟨⟨k, hk, rfl, hf⟩ | ⟨rfl, hf⟩, hB2⟩
    · obtain ⟨b, off, rfl, hb, hcells⟩ := (HSW.out.below hB2) (by rintro rfl; simp at hk)
      have hck := hcells k hk
      have hcc := HCC.out
      rw [hf] at hcc
      have HBF := Lib.hid (HBW.out.trans (hB2.mono HBW.out.size))
      obtain ⟨s, hs⟩ : ∃ s, l[k] = s := ⟨_, rfl⟩
      rw [hs] at hck hcc
      have hcc : (s, 0) = c := hcc
      subst hcc
      clear hf hcells hs H38 K38 HCC H37 hBw hB2 HSW HS hcV HB1 hB
      go_wp2
      go_ret2
      exact ⟨rfl, HBF.out⟩
    · have hcc := HCC.out
      rw [hf] at hcc
      subst hcc
      have HBF := Lib.hid (HBW.out.trans (hB2.mono HBW.out.size))
      clear hf H38 K38 HCC H37 hBw hB2 HSW HS hcV HB1 hB
      go_wp2
      go_ret2
      exact ⟨rfl, HBF.out⟩
  · rw [if_pos h0] at hc
    subst hc
    have hne : (x != 0) = true := by simpa using h0
    go_wp2_with (first | (go_at_call 37; refine H37.mono ?_; rintro e w2 ⟨rfl, hB⟩))
    go_ret2
    exact ⟨rfl, HB1.out.trans (hB.mono HB1.out.size)⟩

end Go.Proofs.YtlbmihpmcgiinaaGreatDoor.Own
end

/- Chapter 39: walks: threshold.Below. -/
section
namespace Go.Proofs.YtlbmihpmcgiinaaGreatDoor.Own
open Go Go.Proofs Go.RowKit

/-- Is a text's number at most another's? -/
def notMore (q s : ByteArray) : Bool := decide (sgn (decInt q.data.toList - decInt s.data.toList) ≤ 0)

/-- What Below answers. -/
def belowL (l : List ByteArray) (v : ByteArray) : ByteArray × Int :=
  if besideL l v ≠ 0 then (emptyB, besideL l v) else match l.reverse.find? (notMore · v) with
    | some t => (t, 0)
    | none => (emptyB, 6)

theorem take_find (l : List ByteArray) (v : ByteArray) (k : Nat) (hk : k < l.length) :
    (l.take (k + 1)).reverse.find? (notMore · v) = if notMore l[k] v then some l[k] else (l.take k).reverse.find? (notMore · v) := by
  rw [List.take_succ_eq_append_getElem hk, List.reverse_append, List.reverse_singleton, List.singleton_append, List.find?_cons]
  cases notMore l[k] v <;> rfl

set_option maxRecDepth 100000 in
set_option maxHeartbeats 1000000 in
theorem w12 (p : Option Addr) (cap : Nat) (l : List ByteArray) (v : ByteArray) (w : World) (h : StrsAt w p l) (hsz : ∀ s ∈ l, s.size < 4611686018427387904) (hv : v.size < 4611686018427387904) (hl : l.length < 4611686018427387904) (h10 : 10 ≤ w.heap.size) :
    Calls Tryz.prog 12 #[.slice p l.length cap, .string v] w fun e w' => e = .returned (.tuple #[.string (belowL l v).1, .int .i64 (belowL l v).2]) ∧ Below w.heap.size w w' := by
  have H37 := w37 p cap l v w h hsz hv hl h10
  have HALL := Lib.hid (fun (h0 : besideL l v = 0) => besideL_zero h0)
  have HS := Lib.hid h
  obtain ⟨c, hc⟩ : ∃ c, belowL l v = c := ⟨_, rfl⟩
  rw [hc]
  unfold belowL at hc
  generalize besideL l v = x at *
  clear h hsz
  go_enter Tryz.func12, Tryz.ntmps12
  by_cases h0 : x = 0
  · rw [if_neg (by simp [h0])] at hc
    subst h0
    obtain ⟨hall, hv0⟩ := HALL.out rfl
    have HCC := Lib.hid hc
    have HAL := Lib.hid hall
    clear hc hall HALL
    go_wp2_with (first | (go_at_call 37; refine H37.mono ?_; rintro e w2 ⟨rfl, hB⟩))
    go_loopw [7] (fun i wr => ∃ k : Nat, i = .int .i64 ((k : Int) - 1) ∧ k ≤ l.length ∧ Hid (l.reverse.find? (notMore · v) = (l.take k).reverse.find? (notMore · v)) ∧ Hid (Below w.heap.size w wr)) (fun i _ => (intOf i + 1).toNat)
    case atStart => exact ⟨l.length, rfl, Nat.le_refl _, Lib.hid (by rw [List.take_of_length_le (Nat.le_refl _)]), Lib.hid hB⟩
    case round =>
      obtain ⟨k, rfl, hk, HK, HB⟩ := hrel
      by_cases hk0 : 0 < k
      · obtain ⟨j, rfl⟩ : ∃ j, k = j + 1 := ⟨k - 1, by omega⟩
        have ej : (((j + 1 : Nat) : Int) - 1) = (j : Int) := by omega
        rw [ej]
        have hBr := HB.out
        have hj : j < l.length := by omega
        obtain ⟨b, off, rfl, hb, hcells⟩ := (HS.out.below hBr) (by rintro rfl; simp at hj)
        have hck := hcells j hj
        have h10r : 10 ≤ wr.heap.size := Nat.le_trans h10 hBr.size
        have H40 := w40 l[j] v (HAL.out _ (List.getElem_mem hj)) hv0 wr h10r
        have hst := HK.out.trans (take_find l v j hj)
        unfold notMore at hst
        obtain ⟨s, hs⟩ : ∃ s, l[j] = s := ⟨_, rfl⟩
        rw [hs] at hck H40 hst
        generalize sgn (decInt s.data.toList - decInt v.data.toList) = z at H40 hst
        have HST := Lib.hid hst
        clear hcells hs hst
        by_cases hz : z ≤ 0
        · have hcc := HCC.out
          have hst := HST.out
          rw [if_pos (by simpa using hz)] at hst
          unfold notMore at hcc
          rw [hst] at hcc
          have hcc : (s, 0) = c := hcc
          subst hcc
          clear hst HST HCC HK
          go_wp2_with (first | (go_at_call 40; refine H40.mono ?_; rintro e w3 ⟨rfl, hB3⟩; have hck3 := (hB3.cell (p := ⟨b, off + j, none⟩) hb).trans hck))
          go_ret2
          exact ⟨rfl, HB.out.trans (hB3.mono HB.out.size)⟩
        · have hst := HST.out
          rw [if_neg (by simpa using hz)] at hst
          have HST2 := Lib.hid hst
          clear hst HST HCC HK
          go_wp2_with (first | (go_at_call 40; refine H40.mono ?_; rintro e w3 ⟨rfl, hB3⟩))
          refine ⟨⟨j, rfl, Nat.le_of_lt hj, HST2, Lib.hid (HB.out.trans (hB3.mono HB.out.size))⟩, ?_⟩
          show (((j : Int) - 1) + 1).toNat < ((j : Int) + 1).toNat
          omega
      · obtain rfl : k = 0 := by omega
        have hcc := HCC.out
        rw [HK.out, List.take_zero] at hcc
        have hcc : (emptyB, 6) = c := hcc
        subst hcc
        clear HCC HK
        go_wp2
        go_ret2
        exact ⟨rfl, HB.out⟩
  · rw [if_pos h0] at hc
    subst hc
    have hne : (x != 0) = true := by simpa using h0
    go_wp2_with (first | (go_at_call 37; refine H37.mono ?_; rintro e w2 ⟨rfl, hB⟩))
    go_ret2
    exact ⟨rfl, hB⟩

end Go.Proofs.YtlbmihpmcgiinaaGreatDoor.Own
end
