/- Chapter 39: walks: the reference's Limited. -/
import Derived.Test.YtlbmihpmcgiinaaGreatDoorMergA
import Derived.Test.YtlbmihpmcgiinaaGreatDoorW27
import Derived.Deep.RegionHeld3
import Derived.BigQuiet

section
namespace Go.Proofs.YtlbmihpmcgiinaaGreatDoor.Own
open Go Go.Proofs Go.RowKit

theorem StrsAt.tail {w : World} {b off : Nat} {l : List ByteArray} (h : StrsAt w (some ⟨b, off, none⟩) l) : StrsAt w (some ⟨b, off + 1, none⟩) l.tail := by
  intro hne
  have hl : 1 < l.length := by
    have := List.length_pos_iff.mpr hne
    rw [List.length_tail] at this
    omega
  obtain ⟨b', off', e, hb, hc⟩ := h (by rintro rfl; simp at hl)
  cases e
  refine ⟨b, off + 1, rfl, hb, fun k hk => ?_⟩
  rw [List.length_tail] at hk
  have := hc (k + 1) (by omega)
  rw [List.getElem_tail, show off + 1 + k = off + (k + 1) by omega]
  exact this

theorem StrsAt.dropLast {w : World} {p : Option Addr} {l : List ByteArray} (h : StrsAt w p l) : StrsAt w p l.dropLast := by
  intro hne
  have hl : 1 < l.length := by
    have := List.length_pos_iff.mpr hne
    rw [List.length_dropLast] at this
    omega
  obtain ⟨b, off, e, hb, hc⟩ := h (by rintro rfl; simp at hl)
  refine ⟨b, off, e, hb, fun k hk => ?_⟩
  rw [List.length_dropLast] at hk
  rw [List.getElem_dropLast]
  exact hc k (by omega)

theorem head_get {l : List ByteArray} (h : 256 < l.length) : l.headD ByteArray.empty = l[0] := by
  cases l with
  | nil => simp at h
  | cons a l => rfl
theorem last_get {l : List ByteArray} (h : 256 < l.length) : l.getLastD ByteArray.empty = l[l.length - 1] := by
  rw [List.getLastD_eq_getLast?, List.getLast?_eq_getElem?, List.getElem?_eq_getElem (by omega)]
  rfl

theorem mem_tail {l : List ByteArray} {P : ByteArray → Prop} (h : ∀ s ∈ l, P s) : ∀ s ∈ l.tail, P s := fun s hs => h s (List.mem_of_mem_tail hs)
theorem mem_init {l : List ByteArray} {P : ByteArray → Prop} (h : ∀ s ∈ l, P s) : ∀ s ∈ l.dropLast, P s := fun s hs => h s (List.dropLast_subset l hs)

theorem filter_all {l : List ByteArray} (h : ∀ s ∈ l, digs s ≤ 100) (k : Nat) (hk : k < l.length) : digs l[k] ≤ 100 := h _ (List.getElem_mem hk)

set_option maxRecDepth 100000 in
set_option maxHeartbeats 2000000 in
theorem w75 (p : Option Addr) (cap : Nat) (l : List ByteArray) (w : World) (h : StrsAt w p l) (hc : ∀ s ∈ l, chk s = 0) (hd : ∀ s ∈ l, digs s ≤ 100) (hl : l.length < 1000000000) :
    Calls Tryz.prog 75 #[.slice p l.length cap] w fun e w' => ∃ q c, e = .returned (.slice q (limL l).length c) ∧ StrsAt w' q (limL l) ∧ Below w.heap.size w w' := by
  have H := Lib.hid h
  have HC := Lib.hid hc
  have HD := Lib.hid hd
  obtain ⟨i0, hi, hz0, hz1, hz2⟩ := info_parts info23'
  have size_of : ∀ s : ByteArray, chk s = 0 → digs s ≤ 100 → 0 < s.size ∧ s.size < 4611686018427387904 := fun s h1 h2 => by
    have hp := canon_pos (canon_of_chk h1)
    refine ⟨hp, ?_⟩
    have hlen : s.data.toList.length = s.size := by rw [Array.length_toList]; rfl
    unfold digs at h2
    split at h2
    · rename_i m e
      rw [← hlen, e, List.length_cons]
      omega
    · rw [← hlen]
      omega
  have SZ := Lib.hid size_of
  obtain ⟨r, hr⟩ : ∃ r, limL l = r := ⟨_, rfl⟩
  rw [hr]
  have HR := Lib.hid hr
  clear h hc hd hr size_of
  go_enter Tryz.func75, Tryz.ntmps75
  go_wp2
  go_loopw [3, 4] (fun u i wr => ∃ (k : Nat), i = .int .i64 k ∧ k ≤ l.length ∧ wr.ownsRow w.heap.size 23 1 u (l.take k).length ((l.take k).map Value.string) ∧ Below w.heap.size w wr) (fun _ i _ => l.length - (intOf i).toNat)
  case atStart => exact ⟨0, rfl, Nat.zero_le _, World.ownsRow_nil _ _ _ _, Below.refl _ _⟩
  case round =>
    obtain ⟨k, rfl, hk, hrow, hB⟩ := hrel
    by_cases hk2 : k < l.length
    · obtain ⟨b, off, rfl, hb, hcells⟩ := H.out (by rintro rfl; simp at hk2)
      have hck := (hB.cell (p := ⟨b, off + k, none⟩) hb).trans (hcells k hk2)
      have hdk := filter_all HD.out k hk2
      have hszk := SZ.out l[k] (HC.out _ (List.getElem_mem hk2)) hdk
      have H61 := w61 l[k] hszk.1 hszk.2 wr
      have HT : Hid (l.take (k + 1) = l.take k ++ [l[k]]) := Lib.hid (List.take_succ_eq_append_getElem hk2)
      have htl : (l.take k).length = k := by rw [List.length_take]; omega
      obtain ⟨s, hs⟩ : ∃ s, l[k] = s := ⟨_, rfl⟩
      rw [hs] at hck hdk H61 HT
      generalize digs s = d at *
      generalize l.take k = ss at *
      clear hcells hs hszk
      go_wp2_with (first
        | (go_at_call 61; refine H61.mono ?_; rintro e w2 ⟨rfl, rfl⟩)
        | (at_builtin; refine wpList_append_own _ rfl _ _ 22 rfl w.heap.size 23 i0 (.string ⟨#[]⟩) 1 16 Tryz.underlying22 hi hz0 hz1 hz2 rfl (by decide) _ _ _ rfl (hrow.alloc _) ⟨w2.heap.size, 0, none⟩ 1 1 [.string s] rfl rfl (cell_one_new _ _ _) (by simp [Value.oneCell']) (by unfold maxLen; omega) (by omega) (by have := hB.size; simp; omega) ?_; intro v' w3 hown' hg3 hnil3; go_frame)
        | go_in)
      refine ⟨⟨k + 1, rfl, hk2, ?_, (hB.alloc hB.size _).grown hg3 (by have := hB.size; simp; omega) (fun j hj => (hrow.lt j hj).1)⟩, ?_⟩
      · rw [HT.out]
        simpa using hown'
      · show l.length - ((k : Int) + 1).toNat < l.length - (k : Int).toNat
        omega
    · obtain rfl : k = l.length := by omega
      rw [List.take_length] at hrow
      obtain ⟨q, c, rfl, hat, _⟩ := texts_of_owns hrow
      clear hrow
      go_wp2
      go_loopw [3] (fun u wr2 => ∃ (q : Option Addr) (c : Nat) (m : List ByteArray), u = .slice q m.length c ∧ m.length ≤ c ∧ Hid (StrsAt wr2 q m) ∧ Hid (∀ s ∈ m, chk s = 0) ∧ Hid (∀ s ∈ m, digs s ≤ 100) ∧ m.length < 1000000000 ∧ Hid (limL m = r) ∧ Below w.heap.size w wr2) (fun u _ => match u with | .slice _ n _ => n | _ => 0)
      case atStart => exact ⟨q, c, l, rfl, by assumption, Lib.hid hat, HC, HD, hl, HR, hB⟩
      case round =>
        obtain ⟨q, c, m, rfl, hmc, HS, HCm, HDm, hml, HRm, hBm⟩ := hrel
        by_cases hlen : 256 < m.length
        · have hst := HRm.out
          rw [limL_step hlen, head_get hlen, last_get hlen] at hst
          obtain ⟨b, off, rfl, hb, hcells⟩ := HS.out (by rintro rfl; simp at hlen)
          obtain ⟨j, hj⟩ : ∃ j, m.length = j + 1 := ⟨m.length - 1, by omega⟩
          have hc0 := hcells 0 (by omega)
          have hc1 := hcells (m.length - 1) (by omega)
          have ht0 := HCm.out m[0] (List.getElem_mem _)
          have ht1 := HCm.out m[m.length - 1] (List.getElem_mem _)
          have hz0 := SZ.out _ ht0 (HDm.out m[0] (List.getElem_mem _))
          have hz1 := SZ.out _ ht1 (HDm.out m[m.length - 1] (List.getElem_mem _))
          obtain ⟨x, hx⟩ : ∃ x, m[0] = x := ⟨_, rfl⟩
          obtain ⟨y, hy⟩ : ∃ y, m[m.length - 1] = y := ⟨_, rfl⟩
          rw [hx] at hc0 ht0 hz0 hst
          rw [hy] at hc1 ht1 hz1 hst
          have e1 : m.length - 1 = j := by omega
          rw [e1] at hc1
          have hgx := Lib.hid hz0
          have hgy := Lib.hid hz1
          have K92 : Hid (∀ s W, Hid (0 < s.size ∧ s.size < 4611686018427387904) → Calls Tryz.prog 92 #[.string s] W fun e w' => e = .returned (.string (magT s)) ∧ w' = W) := Lib.hid (fun s W h => w92 s h.out.1 h.out.2 W)
          have K32 := Lib.hid (fun W => w32 (magT x) (magT y) (magT_chk ht0) (magT_chk ht1) W)
          generalize sgn (decInt (magT x).data.toList - decInt (magT y).data.toList) = z at K32 hst
          have HST := Lib.hid hst
          have hjj : j < 4611686018427387904 := by omega
          have hjm : j < 1000000000 := by omega
          have hkb3 : (0 : Int) ≤ (j : Int) := by omega
          have hkb4 : (0 : Int) < (j : Int) + 1 := by omega
          have hkb5 : (j : Int) < (j : Int) + 1 := by omega
          have hg : (256 : Int) < (j : Int) + 1 := by omega
          have hjc : (j : Int) + 1 ≤ (c : Int) := by omega
          have hS0 : wr.drew.cell? ⟨b, off, none⟩ = some (.string x) ∧ wr.drew.cell? ⟨b, off + j, none⟩ = some (.string y) ∧ Below wr.heap.size wr wr.drew := ⟨hc0, hc1, (Below.refl _ _).drew⟩
          have step : ∀ {A B : World}, (A.cell? ⟨b, off, none⟩ = some (.string x) ∧ A.cell? ⟨b, off + j, none⟩ = some (.string y) ∧ Below wr.heap.size wr A) → Below A.heap.size A B → (B.cell? ⟨b, off, none⟩ = some (.string x) ∧ B.cell? ⟨b, off + j, none⟩ = some (.string y) ∧ Below wr.heap.size wr B) := fun {A B} h k' => by
            have hsz := h.2.2.size
            exact ⟨(k'.cell (p := ⟨b, off, none⟩) (by show b < _; omega)).trans h.1, (k'.cell (p := ⟨b, off + j, none⟩) (by show b < _; omega)).trans h.2.1, h.2.2.trans (k'.mono hsz)⟩
          have hw3 : wrap64 (j : Int) = (j : Int) := w27_wrap3 j hjj
          have hw4 : IntKind.i64.wrap (j : Int) = (j : Int) := w27_wrap4 j hjj
          have hw5 : IntKind.i64.wrap ((j : Int) + 1 - 1) = (j : Int) := w27_wrap5 j hjj
          have hw6 : wrap64 ((j : Int) + 1 - 1) = (j : Int) := w27_wrap6 j hjj
          have ek : (((j + 1 : Nat) : Int)) = (j : Int) + 1 := rfl
          have HM := Lib.hid hj
          rw [hj]
          rw [hj] at hmc
          clear hcells hc0 hc1 ht0 ht1 hz0 hz1 hx hy hst e1 hlen hml hjj hj
          go_wp2
          go_region_held3 (fun A => A.cell? ⟨b, off, none⟩ = some (.string x) ∧ A.cell? ⟨b, off + j, none⟩ = some (.string y) ∧ Below wr.heap.size wr A) (first | exact hS0 | assumption | exact step (by assumption) (by assumption)) (first | (go_at_call 92; ((with_reducible refine (K92.out _ _ (by assumption)).mono ?_); rintro e w2 ⟨rfl, rfl⟩)) | (go_at_call 32; ((with_reducible refine (K32.out _).mono ?_); rintro e w4 ⟨rfl, hB3⟩)))
          rename_i hHeld
          have hB4 : Below w.heap.size w w4 := hBm.trans (hHeld.2.2.mono hBm.size)
          have hBw := hHeld.2.2
          have hS2 : StrsAt w4 (some ⟨b, off, none⟩) m := HS.out.below hBw
          have HS2 := Lib.hid hS2
          have HT1 : Hid (m.tail.length = j) := Lib.hid (by rw [List.length_tail, HM.out]; rfl)
          have HT2 : Hid (m.dropLast.length = j) := Lib.hid (by rw [List.length_dropLast, HM.out]; rfl)
          have hc1 : ¬ c = 1 := by omega
          clear hS2 hHeld hBw hB3 hS0 step K32 K92
          by_cases hz : 0 ≤ z
          · have hst2 := HST.out
            rw [if_pos hz] at hst2
            have HST2 := Lib.hid hst2
            clear hst2 HST
            go_wp2
            clear hw3 hw4 hw5 hw6 ek
            refine ⟨⟨_, c - 1, m.tail, by rw [HT1.out], by rw [HT1.out]; omega, Lib.hid HS2.out.tail, Lib.hid (mem_tail HCm.out), Lib.hid (mem_tail HDm.out), by rw [HT1.out]; omega, HST2, hB4⟩, ?_⟩
            show j < j + 1
            omega
          · have hst2 := HST.out
            rw [if_neg hz] at hst2
            have HST2 := Lib.hid hst2
            clear hst2 HST
            go_wp2
            clear hw3 hw4 hw5 hw6 ek
            refine ⟨⟨_, c, m.dropLast, by rw [HT2.out], by rw [HT2.out]; omega, Lib.hid HS2.out.dropLast, Lib.hid (mem_init HCm.out), Lib.hid (mem_init HDm.out), by rw [HT2.out]; omega, HST2, hB4⟩, ?_⟩
            show j < j + 1
            omega
        · have hst := HRm.out
          rw [limL_stop hlen] at hst
          subst hst
          go_wp2
          go_ret
          exact ⟨q, c, rfl, HS.out, hBm⟩

end Go.Proofs.YtlbmihpmcgiinaaGreatDoor.Own
end

/- Chapter 39: walks: the reference's Merged and Merge; slices.Equal. -/
section
namespace Go.Proofs.YtlbmihpmcgiinaaGreatDoor.Own
open Go Go.Proofs Go.RowKit

theorem mergeL_take (a b : List ByteArray) (k : Nat) (hk : k < b.length) : mergeL a (b.take (k + 1)) = putL (mergeL a (b.take k)) b[k] := by
  unfold mergeL
  rw [List.take_succ_eq_append_getElem hk, List.foldl_append]
  rfl

theorem mergeL_len : ∀ (b a : List ByteArray), (mergeL a b).length ≤ a.length + b.length := by
  intro b
  induction b with
  | nil => intro a; exact Nat.le_refl _
  | cons v b ih =>
    intro a
    have h1 := ih (putL a v)
    have h2 : (putL a v).length ≤ a.length + 1 := putGo_len v a false
    unfold mergeL at h1 ⊢
    rw [List.foldl_cons, List.length_cons]
    omega

theorem mergeL_all {P : ByteArray → Prop} {a b : List ByteArray} (ha : ∀ s ∈ a, P s) (hb : ∀ s ∈ b, P s) : ∀ s ∈ mergeL a b, P s := fun s hs => by
  rcases (mergeL_mem b a s).mp hs with h | h
  · exact ha s h
  · exact hb s h

set_option maxRecDepth 100000 in
set_option maxHeartbeats 2000000 in
theorem w58 (pa pb : Option Addr) (ca cb : Nat) (a b : List ByteArray) (w : World) (ha : StrsAt w pa a) (hb : StrsAt w pb b) (hca : ∀ s ∈ a, chk s = 0 ∧ digs s ≤ 100) (hcb : ∀ s ∈ b, chk s = 0 ∧ digs s ≤ 100) (hla : a.length ≤ 1000) (hlb : b.length ≤ 1000) :
    Calls Tryz.prog 58 #[.slice pa a.length ca, .slice pb b.length cb] w fun e w' => ∃ q c, e = .returned (.slice q (limL (mergeL a b)).length c) ∧ StrsAt w' q (limL (mergeL a b)) ∧ Below w.heap.size w w' := by
  have HB0 := Lib.hid hb
  have HA0 := Lib.hid ha
  have HCA := Lib.hid hca
  have HCB := Lib.hid hcb
  have HT : Hid (mergeL a (b.take 0) = a) := Lib.hid (by simp [mergeL])
  obtain ⟨m0, hm0⟩ : ∃ m0, m0 = a := ⟨_, rfl⟩
  have HM0 := Lib.hid hm0
  have e0 : a.length = m0.length := by rw [hm0]
  rw [e0] at hla ⊢
  clear ha hb hca hcb hm0 e0
  go_enter Tryz.func58, Tryz.ntmps58
  go_wp2
  go_loopw [0, 5] (fun u i wr => ∃ (k : Nat) (q : Option Addr) (c : Nat) (m : List ByteArray), i = .int .i64 k ∧ k ≤ b.length ∧ u = .slice q m.length c ∧ m.length ≤ 1000 + k ∧ Hid (m = mergeL a (b.take k)) ∧ Hid (StrsAt wr q m) ∧ Below w.heap.size w wr) (fun _ i _ => b.length - (intOf i).toNat)
  case atStart => exact ⟨0, pa, ca, m0, rfl, Nat.zero_le _, rfl, by omega, Lib.hid (HM0.out.trans HT.out.symm), Lib.hid (by rw [HM0.out]; exact HA0.out), Below.refl _ _⟩
  case round =>
    obtain ⟨k, q, c, m, rfl, hk, rfl, hml, HM, HS, hB⟩ := hrel
    by_cases hk2 : k < b.length
    · obtain ⟨blk, off, rfl, hbl, hcells⟩ := (HB0.out.below hB) (by rintro rfl; simp at hk2)
      have hck := hcells k hk2
      have hall : ∀ s ∈ m, chk s = 0 := fun s hs => by
        rw [HM.out] at hs
        exact mergeL_all (P := fun s => chk s = 0) (fun s h => (HCA.out s h).1) (fun s h => (HCB.out s (List.mem_of_mem_take h)).1) s hs
      have H74 := w74 q c m b[k] wr HS.out hall (HCB.out _ (List.getElem_mem hk2)).1 (by omega)
      have hln : (putL m b[k]).length ≤ m.length + 1 := putGo_len b[k] m false
      have HST : Hid (putL m b[k] = mergeL a (b.take (k + 1))) := Lib.hid (by rw [mergeL_take a b k hk2, ← HM.out])
      generalize putL m b[k] = m2 at *
      obtain ⟨s, hs⟩ : ∃ s, b[k] = s := ⟨_, rfl⟩
      rw [hs] at H74 hck
      clear hcells hall hs
      go_wp2_with (go_at_call 74; refine H74.mono ?_; rintro e w2 ⟨u, rfl, hrow, hB2⟩; obtain ⟨q2, c2, rfl, hat, _⟩ := texts_of_owns hrow)
      refine ⟨⟨k + 1, q2, c2, m2, rfl, hk2, rfl, by omega, HST, Lib.hid hat, hB.trans (hB2.mono hB.size)⟩, ?_⟩
      show b.length - ((k : Int) + 1).toNat < b.length - (k : Int).toNat
      omega
    · obtain rfl : k = b.length := by omega
      have hm := HM.out
      rw [List.take_length] at hm
      have hall : ∀ s ∈ m, chk s = 0 ∧ digs s ≤ 100 := fun s hs => by
        rw [hm] at hs
        exact mergeL_all (P := fun s => chk s = 0 ∧ digs s ≤ 100) HCA.out HCB.out s hs
      have H75 := w75 q c m wr HS.out (fun s hs => (hall s hs).1) (fun s hs => (hall s hs).2) (by omega)
      rw [hm] at H75
      rw [← hm] at H75
      have HMM := Lib.hid hm
      clear hm hall
      go_wp2_with (go_at_call 75; refine H75.mono ?_; rintro e w2 ⟨q2, c2, rfl, hat, hB2⟩)
      go_ret
      rw [HMM.out] at hat ⊢
      exact ⟨q2, c2, rfl, hat, hB.trans (hB2.mono hB.size)⟩

set_option maxRecDepth 100000 in
set_option maxHeartbeats 1000000 in
theorem w25 (pa pb : Option Addr) (ca cb : Nat) (a b : List ByteArray) (w : World) (ha : StrsAt w pa a) (hb : StrsAt w pb b) (sa : ∀ s ∈ a, s.size < 4611686018427387904) (sb : ∀ s ∈ b, s.size < 4611686018427387904) (hla : a.length ≤ 1000) (hlb : b.length ≤ 1000) :
    Calls Tryz.prog 25 #[.slice pa a.length ca, .slice pb b.length cb] w fun e w' => ∃ q c, e = .returned (.tuple #[.slice q (mergeR a b).1.length c, .int .i64 (mergeR a b).2]) ∧ StrsAt w' q (mergeR a b).1 ∧ Below w.heap.size w w' := by
  have H27 := w27 pa ca a w ha sa (by omega)
  have K27 := Lib.hid (fun W (hW : Below w.heap.size w W) => w27 pb cb b W (hb.below hW) sb (by omega))
  have K58 := Lib.hid (fun W (hW : Below w.heap.size w W) (h1 : checkL a = 0) (h2 : checkL b = 0) => w58 pa pb ca cb a b W (ha.below hW) (hb.below hW) (fun s hs => ⟨checkL_all h1 s hs, (checkL_asc h1).2.1 s hs⟩) (fun s hs => ⟨checkL_all h2 s hs, (checkL_asc h2).2.1 s hs⟩) hla hlb)
  obtain ⟨r, hr⟩ : ∃ r, mergeR a b = r := ⟨_, rfl⟩
  rw [hr]
  unfold mergeR at hr
  generalize limL (mergeL a b) = m at *
  generalize checkL a = x at *
  generalize checkL b = y at *
  clear ha hb sa sb
  by_cases hx : x = 0
  · subst hx
    rw [if_neg (by simp)] at hr
    by_cases hy : y = 0
    · subst hy
      rw [if_neg (by simp)] at hr
      subst hr
      go_enter Tryz.func25, Tryz.ntmps25
      go_wp2_with (first | (go_at_call 27; ((with_reducible refine H27.mono ?_); rintro e w2 ⟨rfl, hB⟩); have H27b := K27.out w2 hB) | (go_at_call 27; ((with_reducible refine H27b.mono ?_); rintro e w3 ⟨rfl, hB2⟩); have hBB := hB.trans (hB2.mono hB.size)) | (go_at_call 58; refine (K58.out _ hBB trivial trivial).mono ?_; rintro e w4 ⟨q, c, rfl, hat, hB4⟩))
      go_ret2
      exact ⟨q, c, rfl, hat, hBB.trans (hB4.mono hBB.size)⟩
    · rw [if_pos hy] at hr
      subst hr
      have hne : (y != 0) = true := by simpa using hy
      go_enter Tryz.func25, Tryz.ntmps25
      go_wp2_with (first | (go_at_call 27; ((with_reducible refine H27.mono ?_); rintro e w2 ⟨rfl, hB⟩); have H27b := K27.out w2 hB) | (go_at_call 27; ((with_reducible refine H27b.mono ?_); rintro e w3 ⟨rfl, hB2⟩); have hBB := hB.trans (hB2.mono hB.size)))
      go_ret2
      exact ⟨none, 0, rfl, fun k => absurd rfl k, hBB⟩
  · rw [if_pos hx] at hr
    subst hr
    have hne : (x != 0) = true := by simpa using hx
    go_enter Tryz.func25, Tryz.ntmps25
    go_wp2_with (first | (go_at_call 27; ((with_reducible refine H27.mono ?_); rintro e w2 ⟨rfl, hB⟩)))
    go_ret2
    exact ⟨none, 0, rfl, fun k => absurd rfl k, hB⟩

end Go.Proofs.YtlbmihpmcgiinaaGreatDoor.Own
end

/- Chapter 39: walks: slices.Equal at lists of texts. -/
section
namespace Go.Proofs.YtlbmihpmcgiinaaGreatDoor.Own
open Go Go.Proofs Go.RowKit

/-- Are two lists of texts equal? -/
def eqB (a b : List ByteArray) : Bool := decide (a = b)

theorem drop_eq_iff {a b : List ByteArray} (hl : a.length = b.length) {k : Nat} (hk : k < a.length) : (a.drop k = b.drop k) ↔ (a[k] = b[k]'(by omega) ∧ a.drop (k + 1) = b.drop (k + 1)) := by
  rw [List.drop_eq_getElem_cons hk, List.drop_eq_getElem_cons (show k < b.length by omega), List.cons.injEq]

theorem toList_inj' {a b : ByteArray} : a.toList = b.toList ↔ a = b := by
  constructor
  · intro e
    rw [ByteArray.toList_eq, ByteArray.toList_eq] at e
    exact Go.WideShapes.bytes_inj e
  · rintro rfl; rfl

set_option maxRecDepth 100000 in
set_option maxHeartbeats 1000000 in
theorem w28 (pa pb : Option Addr) (ca cb : Nat) (a b : List ByteArray) (w : World) (ha : StrsAt w pa a) (hb : StrsAt w pb b) (hlb : b.length < 4611686018427387904) :
    Calls Tryz.prog 28 #[.slice pa a.length ca, .slice pb b.length cb] w fun e w' => e = .returned (.bool (eqB a b)) ∧ Below w.heap.size w w' := by
  have HA := Lib.hid ha
  have HB := Lib.hid hb
  obtain ⟨r, hr⟩ : ∃ r, eqB a b = r := ⟨_, rfl⟩
  rw [hr]
  have HR := Lib.hid hr
  clear ha hb hr
  go_enter Tryz.func28, Tryz.ntmps28
  by_cases hl : a.length = b.length
  · obtain ⟨n, hn⟩ : ∃ n, b.length = n := ⟨_, rfl⟩
    have HN : Hid (a.length = n ∧ b.length = n) := Lib.hid ⟨hl.trans hn, hn⟩
    rw [hl, hn]
    rw [hn] at hlb
    clear hl hn
    go_wp2
    go_loopw [13] (fun i wr => ∃ k : Nat, i = .int .i64 k ∧ k ≤ n ∧ Hid ((a.drop k = b.drop k) ↔ r = true) ∧ Below w.heap.size w wr) (fun i _ => n - (intOf i).toNat)
    case atStart => exact ⟨0, rfl, Nat.zero_le _, Lib.hid (by rw [← HR.out]; simp [eqB]), Below.refl _ _⟩
    case round =>
      obtain ⟨k, rfl, hk, HK, hB⟩ := hrel
      by_cases hk2 : k < n
      · have hka : k < a.length := by rw [HN.out.1]; exact hk2
        have hkb : k < b.length := by rw [HN.out.2]; exact hk2
        obtain ⟨ba, oa, rfl, hba, hcA⟩ := (HA.out.below hB) (by rintro rfl; simp at hka)
        obtain ⟨bb, ob, rfl, hbb, hcB⟩ := (HB.out.below hB) (by rintro rfl; simp at hkb)
        have c1 := hcA k hka
        have c2 := hcB k hkb
        have HI := Lib.hid ((drop_eq_iff (HN.out.1.trans HN.out.2.symm) hka).symm.trans HK.out)
        obtain ⟨s, hs⟩ : ∃ s, a[k] = s := ⟨_, rfl⟩
        obtain ⟨t, ht⟩ : ∃ t, b[k] = t := ⟨_, rfl⟩
        rw [hs] at c1 HI
        rw [ht] at c2 HI
        clear hs ht hcA hcB hka hkb
        by_cases he : s = t
        · subst he
          have HI2 : Hid ((a.drop (k + 1) = b.drop (k + 1)) ↔ r = true) := Lib.hid (by rw [← HI.out]; simp)
          clear HI
          go_wp2
          go_quiet (fail)
          go_wp2
          refine ⟨⟨k + 1, rfl, hk2, HI2, ?_⟩, ?_⟩
          · exact below_drewN hB _
          · show n - ((k : Int) + 1).toNat < n - (k : Int).toNat
            omega
        · have hrf : r = false := by
            cases r
            · rfl
            · exact absurd (HI.out.mpr rfl).1 he
          subst hrf
          have hne := toList_ne he
          clear HI HR
          go_wp2
          go_quiet (fail)
          go_wp2
          go_ret
          exact ⟨rfl, below_drewN hB _⟩
      · obtain rfl : k = n := by omega
        have hrt : r = true := HK.out.mp (by rw [List.drop_of_length_le (by rw [HN.out.1]; exact Nat.le_refl _), List.drop_of_length_le (by rw [HN.out.2]; exact Nat.le_refl _)])
        subst hrt
        go_wp2
        go_ret
        exact ⟨rfl, hB⟩
  · have hrf : r = false := by
      rw [← HR.out]
      unfold eqB
      rw [decide_eq_false]
      rintro rfl
      exact hl rfl
    subst hrf
    go_wp2
    go_ret
    exact ⟨rfl, Below.refl _ _⟩

end Go.Proofs.YtlbmihpmcgiinaaGreatDoor.Own
end
