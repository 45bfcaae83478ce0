/- Chapter 39: the walk of ThresholdMerges. -/
import Derived.Test.YtlbmihpmcgiinaaGreatDoorLawB
import Derived.Test.YtlbmihpmcgiinaaGreatDoorMergC
import Derived.Test.YtlbmihpmcgiinaaGreatDoorW14
import Derived.Test.YtlbmihpmcgiinaaGreatDoorMergA
import Derived.Deep.RegionHeld3

section
namespace Go.Proofs.YtlbmihpmcgiinaaGreatDoor.Own
open Go Go.Proofs Go.RowKit

theorem eqB_self (l : List ByteArray) : eqB l l = true := by simp [eqB]

theorem mergeR_len (a b : List ByteArray) : (mergeR a b).1.length ≤ 256 := by
  unfold mergeR
  split
  · exact Nat.zero_le _
  · split
    · exact Nat.zero_le _
    · exact limL_len _ _ (Nat.le_refl _)

set_option maxRecDepth 100000 in
set_option maxHeartbeats 1000000 in
theorem w5 (pa pb : Option Addr) (ca cb : Nat) (a b : List ByteArray) (w : World) (ha : StrsAt w pa a) (hb : StrsAt w pb b) (hla : a.length < 4611686018427387904) (hlb : b.length < 4611686018427387904) (hL : Laid39 w) :
    Calls Tryz.prog 5 #[.slice pa a.length ca, .slice pb b.length cb] w fun e w' => e = .returned (.bool true) ∧ Below w.heap.size w w' := by
  have H8 := w8 pa ca a w ha hla
  have H8b := w8 pb cb b w hb hlb
  have h10 := hL.size
  by_cases hfa : fewB a = true
  · by_cases hfb : fewB b = true
    · rw [hfa] at H8
      rw [hfb] at H8b
      have sa : ∀ s ∈ a, s.size < 4611686018427387904 := fun s hs => Nat.lt_of_le_of_lt (fewB_size hfa s hs) (by omega)
      have sb : ∀ s ∈ b, s.size < 4611686018427387904 := fun s hs => Nat.lt_of_le_of_lt (fewB_size hfb s hs) (by omega)
      have la : a.length ≤ 1000 := Nat.le_trans (fewB_len hfa) (by omega)
      have lb : b.length ≤ 1000 := Nat.le_trans (fewB_len hfb) (by omega)
      have K24 := Lib.hid (fun W (hW : Below w.heap.size w W) => w24 pa pb ca cb a b W (ha.below hW) (hb.below hW) sa sb la lb (Nat.le_trans h10 hW.size))
      have K25 := Lib.hid (fun W (hW : Below w.heap.size w W) => w25 pa pb ca cb a b W (ha.below hW) (hb.below hW) sa sb la lb)
      have K26 := Lib.hid (fun W (hW : Below w.heap.size w W) => w26 pa ca a W (ha.below hW) sa hla (Nat.le_trans h10 hW.size))
      have K27 := Lib.hid (fun W (hW : Below w.heap.size w W) => w27 pa ca a W (ha.below hW) sa hla)
      have K9 := Lib.hid (fun W (hW : Below w.heap.size w W) => awake9 (hL.below hW))
      have hrl := mergeR_len a b
      generalize mergeR a b = r at *
      generalize checkL a = x at *
      obtain ⟨u, z⟩ := r
      have HE := Lib.hid (fun q q' c c' W (h1 : StrsAt W q u) (h2 : StrsAt W q' u) => w28 q q' c c' u u W h1 h2 (Nat.lt_of_le_of_lt hrl (by omega)))
      have HES := Lib.hid (eqB_self u)
      clear hfa hfb ha hb hL h10 sa sb la lb hla hlb
      go_enter Tryz.func5, Tryz.ntmps5
      go_wp2_with (first | (go_at_call 8; ((with_reducible refine H8.mono ?_); rintro e w2 ⟨rfl, rfl⟩)) | (go_at_call 8; ((with_reducible refine H8b.mono ?_); rintro e w2 ⟨rfl, rfl⟩)))
      refine (K24.out _ (Below.refl _ _)).mono ?_
      rintro e w3 ⟨q, c, rfl, hat, hB3⟩
      have HAT := Lib.hid hat
      clear hat
      go_wp2_with (fail)
      refine (K25.out _ hB3).mono ?_
      rintro e w4 ⟨q', c', rfl, hat', hB4'⟩
      have HAT2 := Lib.hid (HAT.out.below hB4')
      have HAT3 := Lib.hid hat'
      have hB4 := hB3.trans (hB4'.mono hB3.size)
      clear hat'
      go_wp2_with (fail)
      refine (K9.out _ hB4).mono ?_
      rintro e w5 ⟨rfl, hB5'⟩
      have hB5 := hB4.trans (hB5'.mono hB4.size)
      go_wp2_with (fail)
      refine (K26.out _ hB5).mono ?_
      rintro e w6 ⟨rfl, hB6'⟩
      have hB6 := hB5.trans (hB6'.mono hB5.size)
      go_wp2_with (fail)
      refine (K27.out _ hB6).mono ?_
      rintro e w7 ⟨rfl, hB7'⟩
      have hB7 := hB6.trans (hB7'.mono hB6.size)
      have hBB : Below w4.heap.size w4 w7 := (hB5'.trans (hB6'.mono hB5'.size)).trans (hB7'.mono (Nat.le_trans hB5'.size hB6'.size))
      go_wp2_with (fail)
      refine (HE.out _ _ _ _ _ (HAT2.out.below hBB) (HAT3.out.below hBB)).mono ?_
      rintro e w8 ⟨rfl, hB8'⟩
      have hB8 := hB7.trans (hB8'.mono hB7.size)
      rw [HES.out]
      go_wp2_with (fail)
      go_ret
      exact ⟨rfl, hB8⟩
    · have H9 := awake9 hL
      have hfb : fewB b = false := by simpa using hfb
      rw [hfa] at H8
      rw [hfb] at H8b
      clear hfa hfb ha hb hL h10 hla hlb
      go_enter Tryz.func5, Tryz.ntmps5
      go_wp2_with (first | (go_at_call 8; ((with_reducible refine H8.mono ?_); rintro e w2 ⟨rfl, rfl⟩)) | (go_at_call 8; ((with_reducible refine H8b.mono ?_); rintro e w2 ⟨rfl, rfl⟩)) | (go_at_call 9; refine H9.mono ?_; rintro e w3 ⟨rfl, hB3⟩))
      go_ret
      exact ⟨rfl, hB3⟩
  · have H9 := awake9 hL
    have hfa : fewB a = false := by simpa using hfa
    rw [hfa] at H8
    clear hfa ha hb hL h10 hla hlb
    go_enter Tryz.func5, Tryz.ntmps5
    go_wp2_with (first | (go_at_call 8; ((with_reducible refine H8.mono ?_); rintro e w2 ⟨rfl, rfl⟩)) | (go_at_call 9; refine H9.mono ?_; rintro e w3 ⟨rfl, hB3⟩))
    go_ret
    exact ⟨rfl, hB3⟩

end Go.Proofs.YtlbmihpmcgiinaaGreatDoor.Own
end

/- Chapter 39: walks: the integers of a row. -/
section
namespace Go.Proofs.YtlbmihpmcgiinaaGreatDoor.Own
open Go Go.Proofs Go.RowKit

/-- The integers of a row. -/
def rowK (f s : Int) (k : Nat) : List ByteArray := (List.range k).map fun (i : Nat) => wholeT (f + (i : Int) * s)
theorem rowK_len (f s : Int) (k : Nat) : (rowK f s k).length = k := by unfold rowK; rw [List.length_map, List.length_range]
theorem rowK_succ (f s : Int) (k : Nat) : rowK f s (k + 1) = rowK f s k ++ [wholeT (f + (k : Int) * s)] := by unfold rowK; rw [List.range_succ, List.map_append]; rfl

theorem three_cells {w : World} {b : Nat} {a0 a1 a2 : Value} {t : TypeId} (h : w.heap[b]? = some (.cells #[a0, a1, a2] t)) :
    w.cell? ⟨b, 0, none⟩ = some a0 ∧ w.cell? ⟨b, 1, none⟩ = some a1 ∧ w.cell? ⟨b, 2, none⟩ = some a2 := by
  simp [World.cell?, h]

theorem mul_small {k : Nat} {s : Int} (hk : k < 270) (hs0 : -32768 ≤ s) (hs1 : s ≤ 32767) : -8847360 ≤ (k : Int) * s ∧ (k : Int) * s ≤ 8847360 := by
  have h1 : (k : Int) * s ≤ (k : Int) * 32768 := Int.mul_le_mul_of_nonneg_left (by omega) (by omega)
  have h2 : (k : Int) * (-32768) ≤ (k : Int) * s := Int.mul_le_mul_of_nonneg_left (by omega) (by omega)
  omega

set_option maxRecDepth 100000 in
set_option maxHeartbeats 1000000 in
theorem w29 (f s : Int) (c : Nat) (hf0 : -32768 ≤ f) (hf1 : f ≤ 32767) (hs0 : -32768 ≤ s) (hs1 : s ≤ 32767) (hc : c ≤ 65535) (w : World) :
    Calls Tryz.prog 29 #[.agg #[.int .i16 f, .int .i16 s, .int .u16 (c : Int)]] w fun e w' => ∃ q cap, e = .returned (.slice q (rowK f s (c % 270)).length cap) ∧ StrsAt w' q (rowK f s (c % 270)) ∧ Below w.heap.size w w' := by
  obtain ⟨i0, hi, hz0, hz1, hz2⟩ := info_parts info23'
  obtain ⟨m, hm⟩ : ∃ m, c % 270 = m := ⟨_, rfl⟩
  have hm2 : m < 270 := by omega
  have HM : Hid (((c : Int) % 270) = (m : Int)) := Lib.hid (by omega)
  rw [hm]
  clear hm
  obtain ⟨w1, hw1⟩ : ∃ w1, w.alloc (.cells #[.int .i16 f, .int .i16 s, .int .u16 (c : Int)] 65) = w1 := ⟨_, rfl⟩
  have hB1 : Below w.heap.size w w1 := by rw [← hw1]; exact (Below.refl _ _).alloc (Nat.le_refl _) _
  have hsz1 : w1.heap.size = w.heap.size + 1 := by rw [← hw1]; simp
  have hcs := three_cells (World.alloc_heap_new w (.cells #[.int .i16 f, .int .i16 s, .int .u16 (c : Int)] 65))
  rw [hw1] at hcs
  have HCS := Lib.hid hcs
  have HSZ := Lib.hid hsz1
  have HB1 := Lib.hid hB1
  have HW1 := Lib.hid hw1
  clear hw1 hcs hsz1 hB1
  go_enter Tryz.func29, Tryz.ntmps29
  go_wp2
  rw [HW1.out]
  go_loopw [3, 4, 9] (fun u _ i wr => ∃ k : Nat, i = .int .i64 k ∧ k ≤ m ∧ wr.ownsRow w1.heap.size 23 1 u (rowK f s k).length ((rowK f s k).map Value.string) ∧ Below w1.heap.size w1 wr) (fun _ _ i _ => m - (intOf i).toNat)
  case atStart => exact ⟨0, rfl, Nat.zero_le _, World.ownsRow_nil _ _ _ _, Below.refl _ _⟩
  case round =>
    obtain ⟨k, rfl, hk, hrow, hB⟩ := hrel
    by_cases hk2 : k < m
    · have hlt : (k : Int) < (c : Int) % 270 := by rw [HM.out]; omega
      have hc0 := (hB.cell (p := ⟨w.heap.size, 0, none⟩) (by rw [HSZ.out]; exact Nat.lt_succ_self _)).trans HCS.out.1
      have hc1 := (hB.cell (p := ⟨w.heap.size, 1, none⟩) (by rw [HSZ.out]; exact Nat.lt_succ_self _)).trans HCS.out.2.1
      have hbd := mul_small (Nat.lt_trans hk2 hm2) hs0 hs1
      have hsum0 : -1000000000 < f + (k : Int) * s := by omega
      have hsum1 : f + (k : Int) * s < 1000000000 := by omega
      have H14 := w14 (f + (k : Int) * s) hsum0 hsum1 wr
      have HS := Lib.hid (rowK_succ f s k)
      have hln : (rowK f s k).length ≤ 270 := by rw [rowK_len]; omega
      generalize wholeT (f + (k : Int) * s) = t at *
      generalize rowK f s k = ss at *
      have hprod0 := hbd.1
      have hprod1 := hbd.2
      clear hbd
      go_wp2_with (first
        | (go_at_call 14; refine H14.mono ?_; rintro e w2 ⟨rfl, rfl⟩)
        | (at_builtin; refine wpList_append_own _ rfl _ _ 22 rfl w1.heap.size 23 i0 (.string ⟨#[]⟩) 1 16 Tryz.underlying22 hi hz0 hz1 hz2 rfl (by decide) _ _ _ rfl (hrow.alloc _) ⟨w2.heap.size, 0, none⟩ 1 1 [.string t] rfl rfl (cell_one_new _ _ _) (by simp [Value.oneCell']) (by unfold maxLen; omega) (by omega) (by have := hB.size; simp; omega) ?_; intro v' w3 hown' hg3 hnil3; go_frame)
        | go_in)
      refine ⟨⟨k + 1, rfl, hk2, by rw [HS.out]; simpa using hown', (hB.alloc hB.size _).grown hg3 (by have := hB.size; simp; omega) (fun j hj => (hrow.lt j hj).1)⟩, ?_⟩
      show m - ((k : Int) + 1).toNat < m - (k : Int).toNat
      omega
    · obtain rfl : k = m := by omega
      have hge : ¬ (k : Int) < (c : Int) % 270 := by rw [HM.out]; omega
      obtain ⟨q, cp, rfl, hat, _⟩ := texts_of_owns hrow
      go_wp2
      go_ret
      first
        | exact ⟨q, ⟨cp, rfl⟩, hat, HB1.out.trans (hB.mono HB1.out.size)⟩
        | exact ⟨q, cp, rfl, hat, HB1.out.trans (hB.mono HB1.out.size)⟩

end Go.Proofs.YtlbmihpmcgiinaaGreatDoor.Own
end

/- Chapter 39: the walk of ThresholdLimits. -/
section
namespace Go.Proofs.YtlbmihpmcgiinaaGreatDoor.Own
open Go Go.Proofs Go.RowKit

/-- A row's numbers are within their types. -/
def GoodRow (f s : Int) (c : Nat) : Prop := -32768 ≤ f ∧ f ≤ 32767 ∧ -32768 ≤ s ∧ s ≤ 32767 ∧ c ≤ 65535

theorem decF_len : ∀ (f m : Nat) (acc : List UInt8), (decF f m acc).length ≤ f + acc.length := by
  intro f
  induction f with
  | zero => intro m acc; exact Nat.le_add_left _ _
  | succ f ih =>
    intro m acc
    unfold decF
    split
    · omega
    · have := ih (m / 10) (UInt8.ofNat (48 + m % 10) :: acc)
      rw [List.length_cons] at this
      omega

theorem wholeT_size {n : Int} (h0 : -1000000000 < n) (h1 : n < 1000000000) : (wholeT n).size < 4611686018427387904 := by
  have hs : (wholeT n).size = (wholeL n).length := by simp [wholeT, ByteArray.size]
  rw [hs]
  unfold wholeL
  have h2 := decF_len n.natAbs n.natAbs []
  simp only [List.length_nil] at h2
  split
  · simp
  · split
    · rw [List.length_cons]; omega
    · omega

theorem rowK_sizes {f s : Int} {c : Nat} (h : GoodRow f s c) : (rowK f s (c % 270)).length ≤ 270 ∧ ∀ t ∈ rowK f s (c % 270), t.size < 4611686018427387904 := by
  obtain ⟨h1, h2, h3, h4, h5⟩ := h
  refine ⟨by rw [rowK_len]; omega, fun t ht => ?_⟩
  unfold rowK at ht
  obtain ⟨i, hi, rfl⟩ := List.mem_map.mp ht
  have hi := List.mem_range.mp hi
  have := mul_small (k := i) (s := s) (by omega) h3 h4
  exact wholeT_size (by omega) (by omega)

set_option maxRecDepth 100000 in
set_option maxHeartbeats 2000000 in
theorem w6 (f1 s1 f2 s2 : Int) (c1 c2 : Nat) (g1 : GoodRow f1 s1 c1) (g2 : GoodRow f2 s2 c2) (w : World) (hL : Laid39 w) :
    Calls Tryz.prog 6 #[.agg #[.int .i16 f1, .int .i16 s1, .int .u16 (c1 : Int)], .agg #[.int .i16 f2, .int .i16 s2, .int .u16 (c2 : Int)]] w fun e w' => e = .returned (.bool true) ∧ Below w.heap.size w w' := by
  have h10 := hL.size
  have K29 : Hid (∀ f s (c : Nat) W, Hid (GoodRow f s c) → Calls Tryz.prog 29 #[.agg #[.int .i16 f, .int .i16 s, .int .u16 (c : Int)]] W fun e w' => ∃ q cap, e = .returned (.slice q (rowK f s (c % 270)).length cap) ∧ StrsAt w' q (rowK f s (c % 270)) ∧ Below W.heap.size W w') :=
    Lib.hid (fun f s c W h => w29 f s c h.out.1 h.out.2.1 h.out.2.2.1 h.out.2.2.2.1 h.out.2.2.2.2 W)
  have hg1 := Lib.hid g1
  have hg2 := Lib.hid g2
  have r1 := rowK_sizes g1
  have r2 := rowK_sizes g2
  have K24 := Lib.hid (fun q1 q2 cap1 cap2 W (ha : StrsAt W q1 (rowK f1 s1 (c1 % 270))) (hb : StrsAt W q2 (rowK f2 s2 (c2 % 270))) (h : 10 ≤ W.heap.size) => w24 q1 q2 cap1 cap2 _ _ W ha hb r1.2 r2.2 (by omega) (by omega) h)
  have K25 := Lib.hid (fun q1 q2 cap1 cap2 W (ha : StrsAt W q1 (rowK f1 s1 (c1 % 270))) (hb : StrsAt W q2 (rowK f2 s2 (c2 % 270))) => w25 q1 q2 cap1 cap2 _ _ W ha hb r1.2 r2.2 (by omega) (by omega))
  have hrl := mergeR_len (rowK f1 s1 (c1 % 270)) (rowK f2 s2 (c2 % 270))
  generalize mergeR (rowK f1 s1 (c1 % 270)) (rowK f2 s2 (c2 % 270)) = r at *
  obtain ⟨u, z⟩ := r
  have hrl : u.length ≤ 256 := hrl
  have HE := Lib.hid (fun q q' c c' W (h1 : StrsAt W q u) (h2 : StrsAt W q' u) => w28 q q' c c' u u W h1 h2 (Nat.lt_of_le_of_lt hrl (by omega)))
  have HES := Lib.hid (eqB_self u)
  have K9 := Lib.hid (fun W (hW : Below w.heap.size w W) => awake9 (hL.below hW))
  obtain ⟨W2, hW2⟩ : ∃ W2, (w.alloc (.cells #[.int .i16 f1, .int .i16 s1, .int .u16 (c1 : Int)] 65)).alloc (.cells #[.int .i16 f2, .int .i16 s2, .int .u16 (c2 : Int)] 65) = W2 := ⟨_, rfl⟩
  have hB2 : Below w.heap.size w W2 := by rw [← hW2]; exact ((Below.refl _ w).alloc (Nat.le_refl _) _).alloc (by simp) _
  have hs2 : W2.heap.size = w.heap.size + 2 := by rw [← hW2]; simp
  have q1 : W2.heap[w.heap.size]? = some (.cells #[.int .i16 f1, .int .i16 s1, .int .u16 (c1 : Int)] 65) := by rw [← hW2]; exact (Below.heap_alloc _ _ _ (by simp)).trans (World.alloc_heap_new w _)
  have q2 : W2.heap[w.heap.size + 1]? = some (.cells #[.int .i16 f2, .int .i16 s2, .int .u16 (c2 : Int)] 65) := by rw [← hW2]; have := World.alloc_heap_new (w.alloc (.cells #[.int .i16 f1, .int .i16 s1, .int .u16 (c1 : Int)] 65)) (.cells #[.int .i16 f2, .int .i16 s2, .int .u16 (c2 : Int)] 65); rwa [World.size_alloc] at this
  obtain ⟨c10, c11, c12⟩ := three_cells q1
  obtain ⟨c20, c21, c22⟩ := three_cells q2
  have HW2 := Lib.hid hW2
  have step : ∀ {A B : World}, (A.cell? ⟨w.heap.size, 0, none⟩ = some (.int .i16 f1) ∧ A.cell? ⟨w.heap.size, 1, none⟩ = some (.int .i16 s1) ∧ A.cell? ⟨w.heap.size, 2, none⟩ = some (.int .u16 (c1 : Int)) ∧ A.cell? ⟨w.heap.size + 1, 0, none⟩ = some (.int .i16 f2) ∧ A.cell? ⟨w.heap.size + 1, 1, none⟩ = some (.int .i16 s2) ∧ A.cell? ⟨w.heap.size + 1, 2, none⟩ = some (.int .u16 (c2 : Int)) ∧ w.heap.size + 2 ≤ A.heap.size ∧ 10 ≤ A.heap.size ∧ Below w.heap.size w A) → Below A.heap.size A B →
      (B.cell? ⟨w.heap.size, 0, none⟩ = some (.int .i16 f1) ∧ B.cell? ⟨w.heap.size, 1, none⟩ = some (.int .i16 s1) ∧ B.cell? ⟨w.heap.size, 2, none⟩ = some (.int .u16 (c1 : Int)) ∧ B.cell? ⟨w.heap.size + 1, 0, none⟩ = some (.int .i16 f2) ∧ B.cell? ⟨w.heap.size + 1, 1, none⟩ = some (.int .i16 s2) ∧ B.cell? ⟨w.heap.size + 1, 2, none⟩ = some (.int .u16 (c2 : Int)) ∧ w.heap.size + 2 ≤ B.heap.size ∧ 10 ≤ B.heap.size ∧ Below w.heap.size w B) := fun {A B} h k => by
    obtain ⟨h1, h2, h3, h4, h5, h6, h7, h8, h9⟩ := h
    have q : ∀ (b o : Nat), b < w.heap.size + 2 → B.cell? ⟨b, o, none⟩ = A.cell? ⟨b, o, none⟩ := fun b o hb => k.cell (p := ⟨b, o, none⟩) (by show b < A.heap.size; omega)
    exact ⟨(q _ _ (by omega)).trans h1, (q _ _ (by omega)).trans h2, (q _ _ (by omega)).trans h3, (q _ _ (by omega)).trans h4, (q _ _ (by omega)).trans h5, (q _ _ (by omega)).trans h6, Nat.le_trans h7 k.size, Nat.le_trans h8 k.size, h9.trans (k.mono h9.size)⟩
  have hS0 : W2.drew.cell? ⟨w.heap.size, 0, none⟩ = some (.int .i16 f1) ∧ W2.drew.cell? ⟨w.heap.size, 1, none⟩ = some (.int .i16 s1) ∧ W2.drew.cell? ⟨w.heap.size, 2, none⟩ = some (.int .u16 (c1 : Int)) ∧ W2.drew.cell? ⟨w.heap.size + 1, 0, none⟩ = some (.int .i16 f2) ∧ W2.drew.cell? ⟨w.heap.size + 1, 1, none⟩ = some (.int .i16 s2) ∧ W2.drew.cell? ⟨w.heap.size + 1, 2, none⟩ = some (.int .u16 (c2 : Int)) ∧ w.heap.size + 2 ≤ W2.drew.heap.size ∧ 10 ≤ W2.drew.heap.size ∧ Below w.heap.size w W2.drew :=
    ⟨c10, c11, c12, c20, c21, c22, by show _ ≤ W2.heap.size; omega, by show _ ≤ W2.heap.size; omega, hB2.drew⟩
  clear c10 c11 c12 c20 c21 c22 q1 q2 hB2 hW2 g1 g2 r1 r2 hL
  go_enter Tryz.func6, Tryz.ntmps6
  go_wp2
  rw [HW2.out]
  go_region_held3 (fun A => A.cell? ⟨w.heap.size, 0, none⟩ = some (.int .i16 f1) ∧ A.cell? ⟨w.heap.size, 1, none⟩ = some (.int .i16 s1) ∧ A.cell? ⟨w.heap.size, 2, none⟩ = some (.int .u16 (c1 : Int)) ∧ A.cell? ⟨w.heap.size + 1, 0, none⟩ = some (.int .i16 f2) ∧ A.cell? ⟨w.heap.size + 1, 1, none⟩ = some (.int .i16 s2) ∧ A.cell? ⟨w.heap.size + 1, 2, none⟩ = some (.int .u16 (c2 : Int)) ∧ w.heap.size + 2 ≤ A.heap.size ∧ 10 ≤ A.heap.size ∧ Below w.heap.size w A)
    (first | exact hS0 | assumption | exact step (by assumption) (by assumption))
    (first
      | (go_at_call 29; ((with_reducible refine (K29.out _ _ _ _ (by assumption)).mono ?_); rintro e w2 ⟨qa, ca, rfl, hata, hBa⟩))
      | (go_at_call 24; ((with_reducible refine (K24.out _ _ _ _ _ ?_ ?_ ?_).mono ?_); (first | assumption | exact StrsAt.below (by assumption) (by assumption)); (first | assumption | exact StrsAt.below (by assumption) (by assumption)); (exact (by assumption : _ ∧ _ ∧ _ ∧ _ ∧ _ ∧ _ ∧ _ ∧ 10 ≤ _ ∧ _).2.2.2.2.2.2.2.1); rintro e w5 ⟨q5, c5, rfl, hat5, hB5⟩)))
  rename_i hHeld
  have hB5w : Below w.heap.size w w5 := hHeld.2.2.2.2.2.2.2.2
  have hS1 := step hHeld (Below.refl w5.heap.size w5).drew
  have HAT5 := Lib.hid hat5
  clear hS0 hata hBa hat5 hB5 hHeld
  go_wp2
  go_region_held3 (fun A => A.cell? ⟨w.heap.size, 0, none⟩ = some (.int .i16 f1) ∧ A.cell? ⟨w.heap.size, 1, none⟩ = some (.int .i16 s1) ∧ A.cell? ⟨w.heap.size, 2, none⟩ = some (.int .u16 (c1 : Int)) ∧ A.cell? ⟨w.heap.size + 1, 0, none⟩ = some (.int .i16 f2) ∧ A.cell? ⟨w.heap.size + 1, 1, none⟩ = some (.int .i16 s2) ∧ A.cell? ⟨w.heap.size + 1, 2, none⟩ = some (.int .u16 (c2 : Int)) ∧ w.heap.size + 2 ≤ A.heap.size ∧ 10 ≤ A.heap.size ∧ Below w.heap.size w A)
    (first | exact hS1 | assumption | exact step (by assumption) (by assumption))
    (first
      | (go_at_call 29; ((with_reducible refine (K29.out _ _ _ _ (by assumption)).mono ?_); rintro e w2 ⟨qa, ca, rfl, hata, hBa⟩))
      | (go_at_call 25; ((with_reducible refine (K25.out _ _ _ _ _ ?_ ?_).mono ?_); (first | assumption | exact StrsAt.below (by assumption) (by assumption)); (first | assumption | exact StrsAt.below (by assumption) (by assumption)); rintro e w6 ⟨q6, c6, rfl, hat6, hB6⟩)))
  rename_i hBx hHeld
  have hB6w : Below w.heap.size w w6 := hHeld.2.2.2.2.2.2.2.2
  have b1 := ((Below.refl w5.heap.size w5).drew).trans (hBx.mono (Nat.le_refl _))
  have b2 := b1.trans (hBa.mono b1.size)
  have b3 := b2.trans (hB6.mono b2.size)
  have HAT6 := Lib.hid hat6
  have HAT5' := Lib.hid (HAT5.out.below b3)
  clear hHeld hBx hBa hB6 hata hat6 b1 b2 b3 hS1 step
  go_wp2_with (fail)
  refine (K9.out _ hB6w).mono ?_
  rintro e w7 ⟨rfl, hB7⟩
  have hB7w := hB6w.trans (hB7.mono hB6w.size)
  go_wp2_with (fail)
  refine (HE.out _ _ _ _ _ (HAT5'.out.below hB7) (HAT6.out.below hB7)).mono ?_
  rintro e w8 ⟨rfl, hB8⟩
  rw [HES.out]
  have hB8w := hB7w.trans (hB8.mono hB7w.size)
  go_wp2_with (fail)
  go_ret
  exact ⟨by first | rfl | (rw [decide_eq_true (by omega)]; rfl), hB8w⟩

end Go.Proofs.YtlbmihpmcgiinaaGreatDoor.Own
end
