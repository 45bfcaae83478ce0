/- Chapter 39: the walk of ThresholdUnites. -/
import Derived.Test.YtlbmihpmcgiinaaGreatDoorLawC
import Derived.Test.YtlbmihpmcgiinaaGreatDoorUniA
namespace Go.Proofs.YtlbmihpmcgiinaaGreatDoor.Own
open Go Go.Proofs Go.RowKit

theorem chk_small {s : ByteArray} (h : chk s = 0) : s.size < 4611686018427387904 := by
  have hd : digs s ≤ 4096 := by
    unfold chk at h
    rw [if_pos (canon_of_chk h)] at h
    split at h
    · cases h
    · omega
  have := digs_size s
  omega

set_option maxRecDepth 100000 in
set_option maxHeartbeats 4000000 in
theorem w7 (pa pb : Option Addr) (ca cb : Nat) (a b : List ByteArray) (v : ByteArray) (w : World) (ha : StrsAt w pa a) (hb : StrsAt w pb b) (hla : a.length < 4611686018427387904) (hlb : b.length < 4611686018427387904) (hL : Laid39 w) :
    Calls Tryz.prog 7 #[.slice pa a.length ca, .slice pb b.length cb, .string v] w fun e w' => e = .returned (.bool true) ∧ Below w.heap.size w w' := by
  obtain ⟨w1, hw1⟩ : ∃ w1, w.alloc (.cells #[.string v] 23) = w1 := ⟨_, rfl⟩
  have hB1 : Below w.heap.size w w1 := by rw [← hw1]; exact (Below.refl _ _).alloc (Nat.le_refl _) _
  have hlt1 : w.heap.size < w1.heap.size := by rw [← hw1]; simp
  have hc1 : w1.cell? ⟨w.heap.size, 0, none⟩ = some (.string v) := by rw [← hw1]; exact (Boxed.new w 23 (.string v)).cell
  have HW1 := Lib.hid hw1
  have ha1 := ha.below hB1
  have hb1 := hb.below hB1
  have hL1 := hL.below hB1
  have h10 := hL1.size
  have HB1 := Lib.hid hB1
  have CELL : Hid (∀ W, Below w1.heap.size w1 W → W.cell? ⟨w.heap.size, 0, none⟩ = some (.string v)) := Lib.hid fun W hW => (hW.cell (p := ⟨w.heap.size, 0, none⟩) hlt1).trans hc1
  have K8a := Lib.hid (w8 pa ca a w1 ha1 hla)
  have K8b := Lib.hid (w8 pb cb b w1 hb1 hlb)
  have K9 := Lib.hid (fun W (hW : Below w1.heap.size w1 W) => awake9 (hL1.below hW))
  have K27a := Lib.hid (fun W (hW : Below w1.heap.size w1 W) (hf : fewB a = true) => w27 pa ca a W (ha1.below hW) (fun s hs => Nat.lt_of_le_of_lt (fewB_size hf s hs) (by omega)) hla)
  have K27b := Lib.hid (fun W (hW : Below w1.heap.size w1 W) (hf : fewB b = true) => w27 pb cb b W (hb1.below hW) (fun s hs => Nat.lt_of_le_of_lt (fewB_size hf s hs) (by omega)) hlb)
  have K30 := Lib.hid (fun W (hv : v.size ≤ 200) => w30 v (Nat.lt_of_le_of_lt hv (by omega)) W)
  clear hw1 hB1 hL
  by_cases h1 : fewB a = true
  rotate_left
  · have h1 : fewB a = false := by simpa using h1
    rw [h1] at K8a
    clear K27a K27b K30 K8b
    go_enter Tryz.func7, Tryz.ntmps7
    go_wp2_with (fail)
    rw [HW1.out]
    refine K8a.out.mono ?_
    rintro e w0 ⟨rfl, hq⟩
    replace hq := hq.symm
    subst hq
    go_wp2_with (fail)
    refine (K9.out _ (Below.refl _ _)).mono ?_
    rintro e w4 ⟨rfl, hB4⟩
    go_wp2_with (fail)
    go_ret
    exact ⟨rfl, HB1.out.trans (hB4.mono HB1.out.size)⟩
  by_cases h2 : fewB b = true
  rotate_left
  · have h2 : fewB b = false := by simpa using h2
    rw [h1] at K8a
    rw [h2] at K8b
    clear K27a K27b K30 h1 h2
    go_enter Tryz.func7, Tryz.ntmps7
    go_wp2_with (fail)
    rw [HW1.out]
    refine K8a.out.mono ?_
    rintro e w0 ⟨rfl, hq⟩
    replace hq := hq.symm
    subst hq
    go_wp2_with (fail)
    refine K8b.out.mono ?_
    rintro e w0 ⟨rfl, hq⟩
    replace hq := hq.symm
    subst hq
    go_wp2_with (fail)
    refine (K9.out _ (Below.refl _ _)).mono ?_
    rintro e w4 ⟨rfl, hB4⟩
    go_wp2_with (fail)
    go_ret
    exact ⟨rfl, HB1.out.trans (hB4.mono HB1.out.size)⟩
  rw [h1] at K8a K27a
  rw [h2] at K8b K27b
  obtain ⟨x, hx⟩ : ∃ x, checkL a = x := ⟨_, rfl⟩
  obtain ⟨y, hy⟩ : ∃ y, checkL b = y := ⟨_, rfl⟩
  obtain ⟨z, hz⟩ : ∃ z, chk v = z := ⟨_, rfl⟩
  have HX := Lib.hid hx
  have HY := Lib.hid hy
  have HZ := Lib.hid hz
  have HF := Lib.hid (And.intro h1 h2)
  rw [hx] at K27a
  rw [hy] at K27b
  rw [hz] at K30
  clear hx hy hz h1 h2
  by_cases h3 : x = 0
  rotate_left
  · have hne : (x != 0) = true := by simpa using h3
    clear K27b K30 h3
    go_enter Tryz.func7, Tryz.ntmps7
    go_wp2_with (fail)
    rw [HW1.out]
    refine K8a.out.mono ?_
    rintro e w0 ⟨rfl, hq⟩
    replace hq := hq.symm
    subst hq
    go_wp2_with (fail)
    refine K8b.out.mono ?_
    rintro e w0 ⟨rfl, hq⟩
    replace hq := hq.symm
    subst hq
    go_wp2_with (fail)
    refine (K27a.out _ (Below.refl _ _) trivial).mono ?_
    rintro e w2 ⟨rfl, hB2⟩
    have hc2 := CELL.out w2 hB2
    go_wp2_with (fail)
    refine (K9.out _ hB2).mono ?_
    rintro e w4 ⟨rfl, hB4⟩
    go_wp2_with (fail)
    go_ret
    exact ⟨rfl, HB1.out.trans ((hB2.trans (hB4.mono hB2.size)).mono HB1.out.size)⟩
  subst h3
  by_cases h4 : y = 0
  rotate_left
  · have hne : (y != 0) = true := by simpa using h4
    clear K30 h4
    go_enter Tryz.func7, Tryz.ntmps7
    go_wp2_with (fail)
    rw [HW1.out]
    refine K8a.out.mono ?_
    rintro e w0 ⟨rfl, hq⟩
    replace hq := hq.symm
    subst hq
    go_wp2_with (fail)
    refine K8b.out.mono ?_
    rintro e w0 ⟨rfl, hq⟩
    replace hq := hq.symm
    subst hq
    go_wp2_with (fail)
    refine (K27a.out _ (Below.refl _ _) trivial).mono ?_
    rintro e w2 ⟨rfl, hB2⟩
    have hc2 := CELL.out w2 hB2
    go_wp2_with (fail)
    refine (K27b.out _ hB2 trivial).mono ?_
    rintro e w3 ⟨rfl, hB3'⟩
    have hB3 := hB2.trans (hB3'.mono hB2.size)
    have hc3 := CELL.out w3 hB3
    go_wp2_with (fail)
    refine (K9.out _ hB3).mono ?_
    rintro e w4 ⟨rfl, hB4⟩
    go_wp2_with (fail)
    go_ret
    exact ⟨rfl, HB1.out.trans ((hB3.trans (hB4.mono hB3.size)).mono HB1.out.size)⟩
  subst h4
  by_cases h5 : v.size ≤ 200
  rotate_left
  · have hgt : (200 : Int) < (v.size : Int) := by omega
    clear K30
    go_enter Tryz.func7, Tryz.ntmps7
    go_wp2_with (fail)
    rw [HW1.out]
    refine K8a.out.mono ?_
    rintro e w0 ⟨rfl, hq⟩
    replace hq := hq.symm
    subst hq
    go_wp2_with (fail)
    refine K8b.out.mono ?_
    rintro e w0 ⟨rfl, hq⟩
    replace hq := hq.symm
    subst hq
    go_wp2_with (fail)
    refine (K27a.out _ (Below.refl _ _) trivial).mono ?_
    rintro e w2 ⟨rfl, hB2⟩
    have hc2 := CELL.out w2 hB2
    go_wp2_with (fail)
    refine (K27b.out _ hB2 trivial).mono ?_
    rintro e w3 ⟨rfl, hB3'⟩
    have hB3 := hB2.trans (hB3'.mono hB2.size)
    have hc3 := CELL.out w3 hB3
    go_wp2_with (fail)
    refine (K9.out _ hB3).mono ?_
    rintro e w4 ⟨rfl, hB4⟩
    go_wp2_with (fail)
    go_ret
    exact ⟨rfl, HB1.out.trans ((hB3.trans (hB4.mono hB3.size)).mono HB1.out.size)⟩
  have hvle : ¬ (200 : Int) < (v.size : Int) := by omega
  by_cases h6 : z = 0
  rotate_left
  · have hne : (z != 0) = true := by simpa using h6
    clear h6
    go_enter Tryz.func7, Tryz.ntmps7
    go_wp2_with (fail)
    rw [HW1.out]
    refine K8a.out.mono ?_
    rintro e w0 ⟨rfl, hq⟩
    replace hq := hq.symm
    subst hq
    go_wp2_with (fail)
    refine K8b.out.mono ?_
    rintro e w0 ⟨rfl, hq⟩
    replace hq := hq.symm
    subst hq
    go_wp2_with (fail)
    refine (K27a.out _ (Below.refl _ _) trivial).mono ?_
    rintro e w2 ⟨rfl, hB2⟩
    have hc2 := CELL.out w2 hB2
    go_wp2_with (fail)
    refine (K27b.out _ hB2 trivial).mono ?_
    rintro e w3 ⟨rfl, hB3'⟩
    have hB3 := hB2.trans (hB3'.mono hB2.size)
    have hc3 := CELL.out w3 hB3
    go_wp2_with (fail)
    refine (K30.out w3 h5).mono ?_
    rintro e w0 ⟨rfl, hq⟩
    replace hq := hq.symm
    subst hq
    go_wp2_with (fail)
    refine (K9.out _ hB3).mono ?_
    rintro e w4 ⟨rfl, hB4⟩
    go_wp2_with (fail)
    go_ret
    exact ⟨rfl, HB1.out.trans ((hB3.trans (hB4.mono hB3.size)).mono HB1.out.size)⟩
  subst h6
  have hf := HF.out
  have hza := HX.out
  have hzb := HY.out
  have hzv := HZ.out
  have sa : ∀ s ∈ a, s.size < 4611686018427387904 := fun s hs => Nat.lt_of_le_of_lt (fewB_size hf.1 s hs) (by omega)
  have sb : ∀ s ∈ b, s.size < 4611686018427387904 := fun s hs => Nat.lt_of_le_of_lt (fewB_size hf.2 s hs) (by omega)
  have la : a.length ≤ 1000 := Nat.le_trans (fewB_len hf.1) (by omega)
  have lb : b.length ≤ 1000 := Nat.le_trans (fewB_len hf.2) (by omega)
  have sv := chk_small hzv
  have K24ab := Lib.hid (fun W (hW : Below w1.heap.size w1 W) => w24 pa pb ca cb a b W (ha1.below hW) (hb1.below hW) sa sb la lb (Nat.le_trans h10 hW.size))
  have K24ba := Lib.hid (fun W (hW : Below w1.heap.size w1 W) => w24 pb pa cb ca b a W (hb1.below hW) (ha1.below hW) sb sa lb la (Nat.le_trans h10 hW.size))
  have K24aa := Lib.hid (fun W (hW : Below w1.heap.size w1 W) => w24 pa pa ca ca a a W (ha1.below hW) (ha1.below hW) sa sa la la (Nat.le_trans h10 hW.size))
  rw [← unite_comm hza hzb] at K24ba
  rw [unite_self hza] at K24aa
  have hcu := unite_check hza hzb
  have hmu := unite_mem hza hzb
  have hul := mergeR_len a b
  have hru : mergeR a b = ((mergeR a b).1, 0) := by rw [unite_pair hza hzb]
  rw [hru] at K24ab K24ba
  obtain ⟨u, hu⟩ : ∃ u, (mergeR a b).1 = u := ⟨_, rfl⟩
  rw [hu] at K24ab K24ba hcu hmu hul
  clear hu hru
  have su : ∀ s ∈ u, s.size < 4611686018427387904 := fun s hs => chk_small (checkL_all hcu s hs)
  have K28u := Lib.hid (fun q q' c c' W (h1 : StrsAt W q u) (h2 : StrsAt W q' u) => w28 q q' c c' u u W h1 h2 (by omega))
  have K28a := Lib.hid (fun q q' c c' W (h1 : StrsAt W q a) (h2 : StrsAt W q' a) => w28 q q' c c' a a W h1 h2 (by omega))
  rw [eqB_self] at K28u K28a
  have K26u := Lib.hid (fun q c W (h1 : StrsAt W q u) (h : 10 ≤ W.heap.size) => w26 q c u W h1 su (by omega) h)
  rw [hcu] at K26u
  have K31 := Lib.hid (fun B W (hW : Below w1.heap.size w1 W) (hB : B < W.heap.size) (c0 : W.cell? ⟨B, 0, none⟩ = some (.slice pa a.length ca)) (c1 : W.cell? ⟨B, 1, none⟩ = some (.slice pb b.length cb)) => w31 B pa pb ca cb a b W hB c0 c1 (ha1.below hW) (hb1.below hW) la lb)
  have K22 := Lib.hid (fun q c s W (h1 : StrsAt W q u) (hs : s ∈ u) => w22 q c u s W h1 hs (by omega))
  have K10 := Lib.hid (fun W (hW : Below w1.heap.size w1 W) => w10 pa ca a v W (ha1.below hW) sa sv hla (Nat.le_trans h10 hW.size))
  have K12 := Lib.hid (fun W (hW : Below w1.heap.size w1 W) => w12 pa ca a v W (ha1.below hW) sa sv hla (Nat.le_trans h10 hW.size))
  have hall := checkL_all hza
  have K33 := Lib.hid (fun W (hW : Below w1.heap.size w1 W) => w33 pa ca a v w.heap.size W (ha1.below hW) hla hall hzv (CELL.out W hW) (Nat.lt_of_lt_of_le hlt1 hW.size))
  have HA := Lib.hid (fun s (hs : s ∈ a) => above_fact hza hzv hs)
  have HBf := Lib.hid (fun s (hs : s ∈ a) => below_fact hza hzv hs)
  have hany := above_any hza hzv
  generalize aboveL a v = A at *
  generalize belowL a v = B at *
  obtain ⟨A1, A2⟩ := A
  obtain ⟨B1, B2⟩ := B
  have HANY := Lib.hid hany
  have K32 := Lib.hid (fun s (hs : s ∈ a) W => w32 s v (hall s hs) hzv W)
  have HALL := Lib.hid hall
  have HAT := Lib.hid ha1
  have HMU := Lib.hid hmu
  have hul2 : u.length ≤ 256 := hul
  clear hf hza hzb hzv sa sb sv ha hb ha1 hb1 hcu hmu hul su hany hall hL1 HX HY HZ HF hla hlb
  go_enter Tryz.func7, Tryz.ntmps7
  go_wp2_with (fail)
  rw [HW1.out]
  refine K8a.out.mono ?_
  rintro e w0 ⟨rfl, hq⟩
  replace hq := hq.symm
  subst hq
  go_wp2_with (fail)
  refine K8b.out.mono ?_
  rintro e w0 ⟨rfl, hq⟩
  replace hq := hq.symm
  subst hq
  go_wp2_with (fail)
  refine (K27a.out _ (Below.refl _ _) trivial).mono ?_
  rintro e w2 ⟨rfl, hB2⟩
  have hc2 := CELL.out w2 hB2
  go_wp2_with (fail)
  refine (K27b.out _ hB2 trivial).mono ?_
  rintro e w3 ⟨rfl, hB3'⟩
  have hB3 := hB2.trans (hB3'.mono hB2.size)
  have hc3 := CELL.out w3 hB3
  go_wp2_with (fail)
  refine (K30.out w3 h5).mono ?_
  rintro e w0 ⟨rfl, hq⟩
  replace hq := hq.symm
  subst hq
  go_wp2_with (fail)
  refine (K24ab.out _ hB3).mono ?_
  rintro e w4 ⟨q4, c4, rfl, hat4, hB4'⟩
  have hB4 := hB3.trans (hB4'.mono hB3.size)
  have HAT4 := Lib.hid hat4
  clear hat4
  go_wp2_with (fail)
  refine (K24ba.out _ hB4).mono ?_
  rintro e w5 ⟨q5, c5, rfl, hat5, hB5'⟩
  have hB5 := hB4.trans (hB5'.mono hB4.size)
  have HAT5 := Lib.hid hat5
  clear hat5
  go_wp2_with (fail)
  refine (K24aa.out _ hB5).mono ?_
  rintro e w6 ⟨q6, c6, rfl, hat6, hB6'⟩
  have hB6 := hB5.trans (hB6'.mono hB5.size)
  have HAT6 := Lib.hid hat6
  have S4 := Lib.hid ((HAT4.out.below hB5').below hB6')
  have S5 := Lib.hid (HAT5.out.below hB6')
  clear hat6
  go_wp2_with (fail)
  refine (K28u.out _ _ _ _ _ S4.out S5.out).mono ?_
  rintro e w7 ⟨rfl, hB7'⟩
  have hB7 := hB6.trans (hB7'.mono hB6.size)
  go_wp2_with (fail)
  refine (K28a.out _ _ _ _ _ (HAT6.out.below hB7') (HAT.out.below hB7)).mono ?_
  rintro e w8 ⟨rfl, hB8'⟩
  have hB8 := hB7.trans (hB8'.mono hB7.size)
  have S8 := Lib.hid ((S4.out.below hB7').below hB8')
  go_wp2_with (fail)
  refine (K26u.out _ _ _ S8.out (Nat.le_trans h10 hB8.size)).mono ?_
  rintro e w9 ⟨rfl, hB9'⟩
  have hB9 := hB8.trans (hB9'.mono hB8.size)
  have hc9 := CELL.out w9 hB9
  have S9 := Lib.hid (S8.out.below hB9')
  clear S4 S5 S8 HAT4 HAT5 HAT6 K24ab K24ba K24aa K28u K28a K26u K8a K8b K27a K27b K30 hc2 hc3 hB2 hB3 hB3' hB4 hB4' hB5 hB5' hB6 hB6' hB7 hB7' hB8 hB8' hB9' hc1
  by_cases hlen : a.length + b.length ≤ 256
  · have hle : (a.length : Int) + (b.length : Int) ≤ 256 := by omega
    go_wp2_with (fail)
    obtain ⟨d0, d1, _, _⟩ := two_cells (World.alloc_heap_new w9 (.cells #[.slice pa a.length ca, .slice pb b.length cb] 22))
    have hB9a := hB9.alloc hB9.size (.cells #[.slice pa a.length ca, .slice pb b.length cb] 22)
    refine (K31.out _ _ hB9a (by simp) d0 d1).mono ?_
    rintro e w10 ⟨q10, c10, rfl, hat10, hB10'⟩
    have hB10 := hB9a.trans (hB10'.mono hB9a.size)
    have S10 := Lib.hid (S9.out.below (((Below.refl _ w9).alloc (Nat.le_refl _) (.cells #[.slice pa a.length ca, .slice pb b.length cb] 22)).trans (hB10'.mono (by simp))))
    have HAT10 := Lib.hid hat10
    have HM := Lib.hid (HMU.out hlen)
    obtain ⟨l, hl⟩ : ∃ l, a ++ b = l := ⟨_, rfl⟩
    rw [hl] at HAT10 HM ⊢
    have hll : l.length ≤ 2000 := by rw [← hl, List.length_append]; omega
    clear hat10 d0 d1 hB10' hl hB9a hc9 hB9 S9
    go_wp2_with (fail)
    go_loopw [14, 101] (fun _ i wr => ∃ k : Nat, i = .int .i64 k ∧ k ≤ l.length ∧ Hid (wr = w10)) (fun _ i _ => l.length - (intOf i).toNat)
    case atStart => exact ⟨0, rfl, Nat.zero_le _, Lib.hid rfl⟩
    case round =>
      obtain ⟨k, rfl, hk, HW⟩ := hrel
      have hw := HW.out
      subst hw
      by_cases hk2 : k < l.length
      · obtain ⟨bb, ob, rfl, hbb, hcells⟩ := HAT10.out (by rintro rfl; simp at hk2)
        have hck := hcells k hk2
        have K22s := Lib.hid (K22.out _ c4 _ wr S10.out (HM.out _ (List.getElem_mem hk2)))
        obtain ⟨s, hs⟩ : ∃ s, l[k] = s := ⟨_, rfl⟩
        rw [hs] at hck K22s
        clear hs hcells
        go_wp2_with (fail)
        refine K22s.out.mono ?_
        rintro e _ ⟨rfl, hq⟩
        replace hq := hq.symm
        subst hq
        go_wp2_with (fail)
        refine ⟨⟨k + 1, rfl, hk2, Lib.hid (by first | trivial | rfl)⟩, ?_⟩
        show l.length - ((k : Int) + 1).toNat < l.length - (k : Int).toNat
        omega
      · obtain rfl : k = l.length := by omega
        have hcw := CELL.out _ hB10
        go_wp2_with (fail)
        refine (K10.out _ hB10).mono ?_
        rintro e wA ⟨rfl, hBA'⟩
        have hBA := hB10.trans (hBA'.mono hB10.size)
        have hcA := CELL.out wA hBA
        clear hBA'
        go_wp2_with (fail)
        refine (K12.out _ hBA).mono ?_
        rintro e wB ⟨rfl, hBB'⟩
        have hBB := hBA.trans (hBB'.mono hBA.size)
        clear hBB' hcA hBA
        go_wp2_with (fail)
        go_loopw [18, 19, 124] (fun _ _ i wr => ∃ k : Nat, i = .int .i64 k ∧ k ≤ a.length ∧ Below w1.heap.size w1 wr) (fun _ _ i _ => a.length - (intOf i).toNat)
        case atStart => exact ⟨0, rfl, Nat.zero_le _, hBB⟩
        case round =>
          obtain ⟨k, rfl, hk, hBr⟩ := hrel
          have hcr := CELL.out _ hBr
          by_cases hk2 : k < a.length
          · obtain ⟨bb, ob, rfl, hbb, hcells⟩ := (HAT.out.below hBr) (by rintro rfl; simp at hk2)
            have hck := hcells k hk2
            have hmem : a[k] ∈ a := List.getElem_mem hk2
            have K32s := Lib.hid (K32.out _ hmem)
            have FA := Lib.hid (HA.out _ hmem)
            have FB := Lib.hid (HBf.out _ hmem)
            have hs0 := HALL.out _ hmem
            obtain ⟨s, hs⟩ : ∃ s, a[k] = s := ⟨_, rfl⟩
            rw [hs] at hck K32s FA FB hs0
            have K32A := Lib.hid (fun (h : chk A1 = 0) W => w32 A1 s h hs0 W)
            have K32B := Lib.hid (fun (h : chk B1 = 0) W => w32 B1 s h hs0 W)
            have K30A := Lib.hid (fun (h : chk A1 = 0) W => w30 A1 (chk_small h) W)
            have K30B := Lib.hid (fun (h : chk B1 = 0) W => w30 B1 (chk_small h) W)
            generalize sgn (decInt s.data.toList - decInt v.data.toList) = z at K32s FA FB
            generalize sgn (decInt A1.data.toList - decInt s.data.toList) = zA at K32A FA
            generalize sgn (decInt B1.data.toList - decInt s.data.toList) = zB at K32B FB
            clear hs hcells hmem hs0
            by_cases hz : 0 ≤ z
            · obtain ⟨hA2, hA1, hzA⟩ := FA.out hz
              have hA2 : A2 = 0 := hA2
              subst hA2
              have KA32 := Lib.hid (K32A.out hA1)
              have KA30 := Lib.hid (K30A.out hA1)
              have hA1 : chk A1 = 0 := hA1
              rw [hA1] at KA30
              have hzA : zA ≤ 0 := hzA
              have hzA2 : ¬ 0 < zA := by omega
              by_cases hz2 : z ≤ 0
              · obtain ⟨hB2, hB1c, hzB⟩ := FB.out hz2
                have hB2 : B2 = 0 := hB2
                subst hB2
                have KB32 := Lib.hid (K32B.out hB1c)
                have KB30 := Lib.hid (K30B.out hB1c)
                have hB1c : chk B1 = 0 := hB1c
                rw [hB1c] at KB30
                have hzB : 0 ≤ zB := hzB
                have hzB2 : ¬ zB < 0 := by omega
                clear FA FB hA1 hB1c K32A K32B K30A K30B
                go_wp2_with (fail)
                refine (K32s.out _).mono ?_
                rintro e wr1 ⟨rfl, hb1⟩
                go_wp2_with (fail)
                refine (KA30.out _).mono ?_
                rintro e _ ⟨rfl, hq⟩
                replace hq := hq.symm
                subst hq
                go_wp2_with (fail)
                refine (KA32.out _).mono ?_
                rintro e wr2 ⟨rfl, hb2⟩
                have hb12 := hb1.trans (hb2.mono hb1.size)
                go_wp2_with (fail)
                refine (KB30.out _).mono ?_
                rintro e _ ⟨rfl, hq⟩
                replace hq := hq.symm
                subst hq
                go_wp2_with (fail)
                refine (KB32.out _).mono ?_
                rintro e wr3 ⟨rfl, hb3⟩
                have hb13 := hb12.trans (hb3.mono hb12.size)
                go_wp2_with (fail)
                refine ⟨⟨k + 1, rfl, hk2, hBr.trans (hb13.mono hBr.size)⟩, ?_⟩
                show a.length - ((k : Int) + 1).toNat < a.length - (k : Int).toNat
                omega
              · clear FA FB hA1 K32A K32B K30A K30B
                go_wp2_with (fail)
                refine (K32s.out _).mono ?_
                rintro e wr1 ⟨rfl, hb1⟩
                go_wp2_with (fail)
                refine (KA30.out _).mono ?_
                rintro e _ ⟨rfl, hq⟩
                replace hq := hq.symm
                subst hq
                go_wp2_with (fail)
                refine (KA32.out _).mono ?_
                rintro e wr2 ⟨rfl, hb2⟩
                have hb12 := hb1.trans (hb2.mono hb1.size)
                go_wp2_with (fail)
                refine ⟨⟨k + 1, rfl, hk2, hBr.trans (hb12.mono hBr.size)⟩, ?_⟩
                show a.length - ((k : Int) + 1).toNat < a.length - (k : Int).toNat
                omega
            · have hz2 : z ≤ 0 := by omega
              obtain ⟨hB2, hB1c, hzB⟩ := FB.out hz2
              have hB2 : B2 = 0 := hB2
              subst hB2
              have KB32 := Lib.hid (K32B.out hB1c)
              have KB30 := Lib.hid (K30B.out hB1c)
              have hB1c : chk B1 = 0 := hB1c
              rw [hB1c] at KB30
              have hzB : 0 ≤ zB := hzB
              have hzB2 : ¬ zB < 0 := by omega
              clear FA FB hB1c K32A K32B K30A K30B
              go_wp2_with (fail)
              refine (K32s.out _).mono ?_
              rintro e wr1 ⟨rfl, hb1⟩
              go_wp2_with (fail)
              refine (KB30.out _).mono ?_
              rintro e _ ⟨rfl, hq⟩
              replace hq := hq.symm
              subst hq
              go_wp2_with (fail)
              refine (KB32.out _).mono ?_
              rintro e wr3 ⟨rfl, hb3⟩
              have hb13 := hb1.trans (hb3.mono hb1.size)
              go_wp2_with (fail)
              refine ⟨⟨k + 1, rfl, hk2, hBr.trans (hb13.mono hBr.size)⟩, ?_⟩
              show a.length - ((k : Int) + 1).toNat < a.length - (k : Int).toNat
              omega
          · obtain rfl : k = a.length := by omega
            go_wp2_with (fail)
            refine (K33.out _ hBr).mono ?_
            rintro e wC ⟨rfl, hBC'⟩
            have hBC := hBr.trans (hBC'.mono hBr.size)
            have heq : (A2 == 0) = anyGe a v := HANY.out
            have heq2 : ((A2 == 0) == anyGe a v) = true := by rw [heq]; exact beq_self_eq_true _
            have heq3 : ((decide (A2 = 0)) == anyGe a v) = true := by rw [← heq2]; rfl
            have heq4 : decide (A2 = 0) = anyGe a v := heq
            clear HANY heq
            go_wp2_with (fail)
            refine (K9.out _ hBC).mono ?_
            rintro e wD ⟨rfl, hBD'⟩
            have hBD := hBC.trans (hBD'.mono hBC.size)
            go_wp2_with (fail)
            go_ret
            exact ⟨rfl, HB1.out.trans (hBD.mono HB1.out.size)⟩
  · have hle : ¬ (a.length : Int) + (b.length : Int) ≤ 256 := by omega
    go_wp2_with (fail)
    refine (K10.out _ hB9).mono ?_
    rintro e wA ⟨rfl, hBA'⟩
    have hBA := hB9.trans (hBA'.mono hB9.size)
    have hcA := CELL.out wA hBA
    clear hBA'
    go_wp2_with (fail)
    refine (K12.out _ hBA).mono ?_
    rintro e wB ⟨rfl, hBB'⟩
    have hBB := hBA.trans (hBB'.mono hBA.size)
    clear hBB' hcA hBA
    go_wp2_with (fail)
    go_loopw [18, 19, 124] (fun _ _ i wr => ∃ k : Nat, i = .int .i64 k ∧ k ≤ a.length ∧ Below w1.heap.size w1 wr) (fun _ _ i _ => a.length - (intOf i).toNat)
    case atStart => exact ⟨0, rfl, Nat.zero_le _, hBB⟩
    case round =>
      obtain ⟨k, rfl, hk, hBr⟩ := hrel
      have hcr := CELL.out _ hBr
      by_cases hk2 : k < a.length
      · obtain ⟨bb, ob, rfl, hbb, hcells⟩ := (HAT.out.below hBr) (by rintro rfl; simp at hk2)
        have hck := hcells k hk2
        have hmem : a[k] ∈ a := List.getElem_mem hk2
        have K32s := Lib.hid (K32.out _ hmem)
        have FA := Lib.hid (HA.out _ hmem)
        have FB := Lib.hid (HBf.out _ hmem)
        have hs0 := HALL.out _ hmem
        obtain ⟨s, hs⟩ : ∃ s, a[k] = s := ⟨_, rfl⟩
        rw [hs] at hck K32s FA FB hs0
        have K32A := Lib.hid (fun (h : chk A1 = 0) W => w32 A1 s h hs0 W)
        have K32B := Lib.hid (fun (h : chk B1 = 0) W => w32 B1 s h hs0 W)
        have K30A := Lib.hid (fun (h : chk A1 = 0) W => w30 A1 (chk_small h) W)
        have K30B := Lib.hid (fun (h : chk B1 = 0) W => w30 B1 (chk_small h) W)
        generalize sgn (decInt s.data.toList - decInt v.data.toList) = z at K32s FA FB
        generalize sgn (decInt A1.data.toList - decInt s.data.toList) = zA at K32A FA
        generalize sgn (decInt B1.data.toList - decInt s.data.toList) = zB at K32B FB
        clear hs hcells hmem hs0
        by_cases hz : 0 ≤ z
        · obtain ⟨hA2, hA1, hzA⟩ := FA.out hz
          have hA2 : A2 = 0 := hA2
          subst hA2
          have KA32 := Lib.hid (K32A.out hA1)
          have KA30 := Lib.hid (K30A.out hA1)
          have hA1 : chk A1 = 0 := hA1
          rw [hA1] at KA30
          have hzA : zA ≤ 0 := hzA
          have hzA2 : ¬ 0 < zA := by omega
          by_cases hz2 : z ≤ 0
          · obtain ⟨hB2, hB1c, hzB⟩ := FB.out hz2
            have hB2 : B2 = 0 := hB2
            subst hB2
            have KB32 := Lib.hid (K32B.out hB1c)
            have KB30 := Lib.hid (K30B.out hB1c)
            have hB1c : chk B1 = 0 := hB1c
            rw [hB1c] at KB30
            have hzB : 0 ≤ zB := hzB
            have hzB2 : ¬ zB < 0 := by omega
            clear FA FB hA1 hB1c K32A K32B K30A K30B
            go_wp2_with (fail)
            refine (K32s.out _).mono ?_
            rintro e wr1 ⟨rfl, hb1⟩
            go_wp2_with (fail)
            refine (KA30.out _).mono ?_
            rintro e _ ⟨rfl, hq⟩
            replace hq := hq.symm
            subst hq
            go_wp2_with (fail)
            refine (KA32.out _).mono ?_
            rintro e wr2 ⟨rfl, hb2⟩
            have hb12 := hb1.trans (hb2.mono hb1.size)
            go_wp2_with (fail)
            refine (KB30.out _).mono ?_
            rintro e _ ⟨rfl, hq⟩
            replace hq := hq.symm
            subst hq
            go_wp2_with (fail)
            refine (KB32.out _).mono ?_
            rintro e wr3 ⟨rfl, hb3⟩
            have hb13 := hb12.trans (hb3.mono hb12.size)
            go_wp2_with (fail)
            refine ⟨⟨k + 1, rfl, hk2, hBr.trans (hb13.mono hBr.size)⟩, ?_⟩
            show a.length - ((k : Int) + 1).toNat < a.length - (k : Int).toNat
            omega
          · clear FA FB hA1 K32A K32B K30A K30B
            go_wp2_with (fail)
            refine (K32s.out _).mono ?_
            rintro e wr1 ⟨rfl, hb1⟩
            go_wp2_with (fail)
            refine (KA30.out _).mono ?_
            rintro e _ ⟨rfl, hq⟩
            replace hq := hq.symm
            subst hq
            go_wp2_with (fail)
            refine (KA32.out _).mono ?_
            rintro e wr2 ⟨rfl, hb2⟩
            have hb12 := hb1.trans (hb2.mono hb1.size)
            go_wp2_with (fail)
            refine ⟨⟨k + 1, rfl, hk2, hBr.trans (hb12.mono hBr.size)⟩, ?_⟩
            show a.length - ((k : Int) + 1).toNat < a.length - (k : Int).toNat
            omega
        · have hz2 : z ≤ 0 := by omega
          obtain ⟨hB2, hB1c, hzB⟩ := FB.out hz2
          have hB2 : B2 = 0 := hB2
          subst hB2
          have KB32 := Lib.hid (K32B.out hB1c)
          have KB30 := Lib.hid (K30B.out hB1c)
          have hB1c : chk B1 = 0 := hB1c
          rw [hB1c] at KB30
          have hzB : 0 ≤ zB := hzB
          have hzB2 : ¬ zB < 0 := by omega
          clear FA FB hB1c K32A K32B K30A K30B
          go_wp2_with (fail)
          refine (K32s.out _).mono ?_
          rintro e wr1 ⟨rfl, hb1⟩
          go_wp2_with (fail)
          refine (KB30.out _).mono ?_
          rintro e _ ⟨rfl, hq⟩
          replace hq := hq.symm
          subst hq
          go_wp2_with (fail)
          refine (KB32.out _).mono ?_
          rintro e wr3 ⟨rfl, hb3⟩
          have hb13 := hb1.trans (hb3.mono hb1.size)
          go_wp2_with (fail)
          refine ⟨⟨k + 1, rfl, hk2, hBr.trans (hb13.mono hBr.size)⟩, ?_⟩
          show a.length - ((k : Int) + 1).toNat < a.length - (k : Int).toNat
          omega
      · obtain rfl : k = a.length := by omega
        go_wp2_with (fail)
        refine (K33.out _ hBr).mono ?_
        rintro e wC ⟨rfl, hBC'⟩
        have hBC := hBr.trans (hBC'.mono hBr.size)
        have heq : (A2 == 0) = anyGe a v := HANY.out
        have heq2 : ((A2 == 0) == anyGe a v) = true := by rw [heq]; exact beq_self_eq_true _
        have heq3 : ((decide (A2 = 0)) == anyGe a v) = true := by rw [← heq2]; rfl
        have heq4 : decide (A2 = 0) = anyGe a v := heq
        clear HANY heq
        go_wp2_with (fail)
        refine (K9.out _ hBC).mono ?_
        rintro e wD ⟨rfl, hBD'⟩
        have hBD := hBC.trans (hBD'.mono hBC.size)
        go_wp2_with (fail)
        go_ret
        exact ⟨rfl, HB1.out.trans (hBD.mono HB1.out.size)⟩

end Go.Proofs.YtlbmihpmcgiinaaGreatDoor.Own
