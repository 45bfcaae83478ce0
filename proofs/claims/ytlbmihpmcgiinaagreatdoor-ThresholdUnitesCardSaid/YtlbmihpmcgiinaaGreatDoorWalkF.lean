/- Chapter 39: walks: bigint.minus. -/
import Derived.Test.YtlbmihpmcgiinaaGreatDoorW137
import Derived.Deep.RegionHeld3

section
namespace Go.Proofs.YtlbmihpmcgiinaaGreatDoor.Own
open Go Go.Proofs Go.RowKit

/-- The step of a subtraction. -/
theorem minus_step {a b o : List Int} {c : Int} (ha : InB B9 a) (hb : InB B9 b) (hc : 0 ≤ c ∧ c ≤ 1)
    (h : lval B9 o - B9 ^ o.length * c = lval B9 (a.take o.length) - lval B9 (b.take o.length)) :
    let s := a.getD o.length 0 - c - b.getD o.length 0
    (-1000000000 ≤ s) ∧ s < 1000000000 ∧
    (s < 0 → lval B9 (o ++ [s + B9]) - B9 ^ (o ++ [s + B9]).length * 1 = lval B9 (a.take (o ++ [s + B9]).length) - lval B9 (b.take (o ++ [s + B9]).length)) ∧
    lval B9 (o ++ [s]) - B9 ^ (o ++ [s]).length * 0 = lval B9 (a.take (o ++ [s]).length) - lval B9 (b.take (o ++ [s]).length) := by
  intro s
  have h1 := getD_in (B := B9) (by decide) ha o.length
  have h2 := getD_in (B := B9) (by decide) hb o.length
  refine ⟨by simp only [s, B9] at *; omega, by simp only [s, B9] at *; omega, fun _ => ?_, ?_⟩
  · rw [lval_snoc, List.length_append, List.length_singleton, lval_take_succ, lval_take_succ, Int.pow_succ, Int.mul_one, Int.mul_add]
    simp only [s, Int.mul_sub]
    omega
  · rw [lval_snoc, List.length_append, List.length_singleton, lval_take_succ, lval_take_succ, Int.mul_zero]
    simp only [s, Int.mul_sub]
    omega

theorem minus_end {a b o : List Int} {c : Int} (ho : InB B9 o) (hc : 0 ≤ c ∧ c ≤ 1) (hl : o.length = a.length) (hba : b.length ≤ a.length) (hle : lval B9 b ≤ lval B9 a)
    (h : lval B9 o - B9 ^ o.length * c = lval B9 (a.take o.length) - lval B9 (b.take o.length)) : lval B9 o = lval B9 a - lval B9 b := by
  rw [List.take_of_length_le (by omega), List.take_of_length_le (by omega)] at h
  have h1 := lval_lt (B := B9) (by decide) ho
  by_cases hc0 : c = 0
  · subst hc0; simpa using h
  · obtain rfl : c = 1 := by omega
    simp only [B9] at *
    omega

/-- The way on from a round of a subtraction. -/
theorem minus_fin {w wr : World} {a b o : List Int} {s c : Int} (hk : o.length < a.length) (HO : Hid (InB B9 o)) (hc : 0 ≤ c ∧ c ≤ 1) (HM : 0 ≤ s ∧ s < B9)
    (HVV : lval B9 (o ++ [s]) - B9 ^ (o ++ [s]).length * c = lval B9 (a.take (o ++ [s]).length) - lval B9 (b.take (o ++ [s]).length))
    (HROW : Hid (wr.heap[w.heap.size]? = some (.cells (rowOf o a.length) 3))) (HBW : Hid (Below w.heap.size w wr)) :
    (∃ (o_1 : List Int) (cc_1 : Int), o_1.length ≤ a.length ∧ Value.int .i64 ((o.length : Int) + 1) = .int .i64 (o_1.length : Int) ∧ Value.int .i64 c = .int .i64 cc_1 ∧ (0 ≤ cc_1 ∧ cc_1 ≤ 1) ∧ Hid (InB B9 o_1) ∧
      Hid (lval B9 o_1 - B9 ^ o_1.length * cc_1 = lval B9 (a.take o_1.length) - lval B9 (b.take o_1.length)) ∧
      Hid ((wr.setCell ⟨w.heap.size, o.length, none⟩ (.int .i64 s)).heap[w.heap.size]? = some (.cells (rowOf o_1 a.length) 3)) ∧
      Hid (Below w.heap.size w (wr.setCell ⟨w.heap.size, o.length, none⟩ (.int .i64 s)))) ∧
    a.length - (intOf (.int .i64 ((o.length : Int) + 1))).toNat < a.length - (intOf (.int .i64 (o.length : Int))).toNat := by
  refine ⟨⟨o ++ [s], c, by simp; omega, by simp, rfl, hc, Lib.hid (HO.out.append (InB.one HM.1 HM.2)), Lib.hid HVV, Lib.hid ?_, Lib.hid (HBW.out.setCell (p := ⟨w.heap.size, o.length, none⟩) (Nat.le_refl _) _)⟩, ?_⟩
  · rw [heap_set HROW.out, rowOf_set o _ _ hk]
  · show a.length - ((o.length : Int) + 1).toNat < a.length - (o.length : Int).toNat
    omega

set_option maxRecDepth 100000 in
set_option maxHeartbeats 1000000 in
theorem w141 (pa pb : Option Addr) (ca cb : Nat) (a b : List Int) (w : World) (hx : RowAt w pa a) (hy : RowAt w pb b) (ix : InB B9 a) (iy : InB B9 b) (tb : Trimmed b) (hle : lval B9 b ≤ lval B9 a)
    (la : a.length < 1000000000) :
    Calls Tryz.prog 141 #[.slice pa a.length ca, .slice pb b.length cb] w fun e w' => LimbsOut w' e (lval B9 a - lval B9 b) a.length ∧ Below w.heap.size w w' := by
  have hlen : b.length ≤ a.length := by
    rcases Nat.lt_or_ge a.length b.length with h | h
    · have := lval_len (B := B9) (by decide) ix iy tb h
      omega
    · exact h
  have hm : (Instr.makeSlice 50 (.int .i64 (a.length : Int)) (.int .i64 (a.length : Int))).run Tryz.prog w = .ok (.slice (some ⟨w.heap.size, 0, none⟩) a.length a.length) (w.alloc (.cells (rowOf [] a.length) 3)) := by
    have := run_make_row' (P := Tryz.prog) 50 3 (.int .i64 0) 8 Tryz.underlying50 info3 rfl .i64 .i64 a.length (by omega) (by omega) w
    rw [made_row] at this
    exact this
  have HA := Lib.hid hx
  have HB := Lib.hid hy
  have IA := Lib.hid ix
  have IB := Lib.hid iy
  have HLE := Lib.hid hle
  have HLEN := Lib.hid hlen
  clear hx hy ix iy tb hle hlen
  have hB0 : Below w.heap.size w (w.alloc (.cells (rowOf [] a.length) 3)) := (Below.refl _ w).alloc (Nat.le_refl _) _
  have hr0 : (w.alloc (.cells (rowOf [] a.length) 3)).heap[w.heap.size]? = some (.cells (rowOf [] a.length) 3) := World.alloc_heap_new w _
  go_enter Tryz.func141, Tryz.ntmps141
  go_wp2
  go_loopw [6, 14] (fun c v wr => ∃ (o : List Int) (cc : Int), o.length ≤ a.length ∧ v = .int .i64 (o.length : Int) ∧ c = .int .i64 cc ∧ (0 ≤ cc ∧ cc ≤ 1) ∧ Hid (InB B9 o) ∧
      Hid (lval B9 o - B9 ^ o.length * cc = lval B9 (a.take o.length) - lval B9 (b.take o.length)) ∧ Hid (wr.heap[w.heap.size]? = some (.cells (rowOf o a.length) 3)) ∧ Hid (Below w.heap.size w wr))
    (fun _ v _ => a.length - (intOf v).toNat)
  case atStart => exact ⟨[], 0, Nat.zero_le _, rfl, rfl, by omega, Lib.hid InB.nil, Lib.hid (by simp [lval]), Lib.hid hr0, Lib.hid hB0⟩
  case round =>
    obtain ⟨o, cc, ho, rfl, rfl, hcc, HO, HV, HR, HBW⟩ := hrel
    by_cases hk : o.length < a.length
    · obtain ⟨hs0, hs1, hv1, hv0⟩ := minus_step IA.out IB.out hcc HV.out
      have hrow := HR.out
      have hco : wr.cell? ⟨w.heap.size, o.length, none⟩ = some (.int .i64 0) := by
        rw [cell_of hrow]
        unfold rowOf
        obtain ⟨m, hm⟩ : ∃ m, a.length - o.length = m + 1 := ⟨a.length - o.length - 1, by omega⟩
        rw [hm]
        simp [List.replicate_succ]
      have hfo : wr.frozen? ⟨w.heap.size, o.length, none⟩ = false := by simp [World.frozen?, hrow]
      have av := getD_in (B := B9) (by decide) IA.out o.length
      have bv := getD_in (B := B9) (by decide) IB.out o.length
      obtain ⟨ka, hka⟩ : ∃ k, a.getD o.length 0 = k := ⟨_, rfl⟩
      obtain ⟨kb, hkb⟩ : ∃ k, b.getD o.length 0 = k := ⟨_, rfl⟩
      have hzb : ¬ o.length < b.length → kb = 0 := fun h => by rw [← hkb]; simp [List.getD, List.getElem?_eq_none (show b.length ≤ o.length by omega)]
      obtain ⟨ba, offa, rfl, hca⟩ : ∃ ba offa, pa = some ⟨ba, offa, none⟩ ∧ wr.cell? ⟨ba, offa + o.length, none⟩ = some (.int .i64 ka) := by
        obtain ⟨ba, offa, h1, hba, hcells⟩ := ((show RowLow w.heap.size w pa a from HA.out).below HBW.out) (by rintro rfl; simp at hk)
        have := hcells _ hk
        rw [← getD_get a _ hk, hka] at this
        exact ⟨ba, offa, h1, this⟩
      have hCB : o.length < b.length → ∃ ba offa, pb = some ⟨ba, offa, none⟩ ∧ wr.cell? ⟨ba, offa + o.length, none⟩ = some (.int .i64 kb) := fun h => by
        obtain ⟨ba, offa, h1, hba, hcells⟩ := ((show RowLow w.heap.size w pb b from HB.out).below HBW.out) (by rintro rfl; simp at h)
        have := hcells _ h
        rw [← getD_get b _ h, hkb] at this
        exact ⟨ba, offa, h1, this⟩
      rw [hka, hkb] at hs0 hs1 hv1 hv0
      obtain ⟨s, hs⟩ : ∃ s, ka - cc - kb = s := ⟨_, rfl⟩
      rw [hs] at hs0 hs1 hv1 hv0
      have HS := Lib.hid hs
      rw [hka] at av
      rw [hkb] at bv
      have H1 := Lib.hid hv1
      have H0 := Lib.hid hv0
      have HROW := Lib.hid hrow
      simp only [B9] at av bv
      have HB1 := Lib.hid hs0
      have HB2 := Lib.hid hs1
      clear hka hkb hv1 hv0 hrow hs hs0 hs1
      by_cases hkb : o.length < b.length
      · obtain ⟨bb, offb, rfl, hcb⟩ := hCB hkb
        clear hzb hCB
        go_wp2
        · rename_i hneg
          have e := HS.out
          have h1 := HB1.out
          rw [show ka - cc - kb + 1000000000 = s + 1000000000 by omega]
          exact minus_fin hk HO (by omega) (by simp only [B9]; omega) (H1.out (by omega)) HROW HBW
        · rename_i hneg
          have e := HS.out
          have h1 := HB2.out
          rw [show ka - cc - kb = s by omega]
          exact minus_fin hk HO (by omega) (by simp only [B9]; omega) H0.out HROW HBW
      · have HZ := Lib.hid (hzb hkb)
        clear hzb hCB
        go_wp2
        · rename_i hneg
          have e := HS.out
          have h1 := HB1.out
          have h2 := HZ.out
          rw [show ka - cc + 1000000000 = s + 1000000000 by omega]
          exact minus_fin hk HO (by omega) (by simp only [B9]; omega) (H1.out (by omega)) HROW HBW
        · rename_i hneg
          have e := HS.out
          have h1 := HB2.out
          have h2 := HZ.out
          rw [show ka - cc = s by omega]
          exact minus_fin hk HO (by omega) (by simp only [B9]; omega) H0.out HROW HBW
    · have hk2 : o.length = a.length := by omega
      have hend := minus_end HO.out hcc hk2 HLEN.out HLE.out HV.out
      have hrow := row_at_of HR.out
      have HE := Lib.hid hend
      have H134 := w134' (some ⟨w.heap.size, 0, none⟩) a.length a.length o hk2 wr hrow (Nat.le_refl _) (by omega)
      clear hend hrow
      go_wp2_with (go_at_call 134; refine H134.mono ?_; rintro e w' ⟨⟨l, rfl, hrow, hll, htr, hval, hsub⟩, rfl⟩)
      go_ret
      exact ⟨⟨some ⟨w.heap.size, 0, none⟩, a.length, l, rfl, hrow, hll, fun x hx => HO.out x (hsub x hx), htr, by rw [hval, HE.out], hll⟩, HBW.out⟩

end Go.Proofs.YtlbmihpmcgiinaaGreatDoor.Own
end

/- Chapter 39: walks: the operations of bigint.sum. -/
section
namespace Go.Proofs.YtlbmihpmcgiinaaGreatDoor.Own
open Go Go.Proofs Go.RowKit

theorem RowAt.low {w : World} {p : Option Addr} {l : List Int} (h : RowAt w p l) : RowLow w.heap.size w p l := h

/-- The difference of two magnitudes. -/
def gap (x y : List Int) : Int := if lval B9 x < lval B9 y then lval B9 y - lval B9 x else lval B9 x - lval B9 y

theorem w139 (px py : Option Addr) (cx cy : Nat) (x y : List Int) (w : World) (hx : RowAt w px x) (hy : RowAt w py y) (ix : InB B9 x) (iy : InB B9 y) (tx : Trimmed x) (ty : Trimmed y)
    (lx : x.length < 1000000000) (ly : y.length < 1000000000) :
    Calls Tryz.prog 139 #[.slice px x.length cx, .slice py y.length cy] w fun e w' => LimbsOut w' e (gap x y) (max x.length y.length) ∧ Below w.heap.size w w' := by
  have H140 := w140 px py cx cy x y w hx hy ix iy tx ty lx ly
  have H141 : ∀ w', Below w.heap.size w w' → lval B9 y ≤ lval B9 x → Calls Tryz.prog 141 #[.slice px x.length cx, .slice py y.length cy] w' fun e w2 => LimbsOut w2 e (lval B9 x - lval B9 y) x.length ∧ Below w'.heap.size w' w2 :=
    fun w' hB hle => w141 px py cx cy x y w' (hx.below hB) (hy.below hB) ix iy ty hle lx
  have H141' : ∀ w', Below w.heap.size w w' → lval B9 x ≤ lval B9 y → Calls Tryz.prog 141 #[.slice py y.length cy, .slice px x.length cx] w' fun e w2 => LimbsOut w2 e (lval B9 y - lval B9 x) y.length ∧ Below w'.heap.size w' w2 :=
    fun w' hB hle => w141 py px cy cx y x w' (hy.below hB) (hx.below hB) iy ix tx hle ly
  have K := Lib.hid H141
  have K' := Lib.hid H141'
  clear H141 H141' hx hy ix iy tx ty
  go_enter Tryz.func139, Tryz.ntmps139
  go_wp2_with (go_at_call 140; refine H140.mono ?_; rintro e w' ⟨c, rfl, hc, hB⟩)
  · have hneg : c < 0 := by assumption
    have hlt := hc.1.mp hneg
    refine (K'.out w' hB (by omega)).mono ?_
    rintro e w2 ⟨⟨p, cap, l, rfl, h1, h2, h3, h4, h5, h6⟩, hB2⟩
    go_wp2
    go_ret
    exact ⟨⟨p, cap, l, rfl, h1, h2, h3, h4, by rw [h5, gap, if_pos hlt], Nat.le_trans h6 (Nat.le_max_right _ _)⟩, hB.trans (hB2.mono hB.size)⟩
  · have hlt : ¬ lval B9 x < lval B9 y := fun h => by have := hc.1.mpr h; omega
    refine (K.out w' hB (Int.not_lt.mp hlt)).mono ?_
    rintro e w2 ⟨⟨p, cap, l, rfl, h1, h2, h3, h4, h5, h6⟩, hB2⟩
    go_wp2
    go_ret
    exact ⟨⟨p, cap, l, rfl, h1, h2, h3, h4, by rw [h5, gap, if_neg (Int.not_lt.mpr hlt)], Nat.le_trans h6 (Nat.le_max_left _ _)⟩, hB.trans (hB2.mono hB.size)⟩

theorem w138 (n m : Bool) (v u : Value) (w : World) :
    Calls Tryz.prog 138 #[.agg #[.bool n, v], .agg #[.bool m, u]] w fun e w' => e = .returned (.bool n) ∧ Below w.heap.size w w' := by
  go_enter Tryz.func138, Tryz.ntmps138
  go_wp2
  go_ret
  exact ⟨rfl, ((Below.refl _ w).alloc (Nat.le_refl _) _).alloc (by simp) _⟩

theorem w142 (n m : Bool) (px py : Option Addr) (cx cy : Nat) (x y : List Int) (w : World) (hx : RowAt w px x) (hy : RowAt w py y) (ix : InB B9 x) (iy : InB B9 y) (tx : Trimmed x) (ty : Trimmed y)
    (lx : x.length < 1000000000) (ly : y.length < 1000000000) :
    Calls Tryz.prog 142 #[.agg #[.bool n, .slice px x.length cx], .agg #[.bool m, .slice py y.length cy]] w fun e w' => e = .returned (.bool (decide (lval B9 x < lval B9 y) != n)) ∧ Below w.heap.size w w' := by
  have H140 : ∀ w', Below w.heap.size w w' → Calls Tryz.prog 140 #[.slice px x.length cx, .slice py y.length cy] w' fun e w2 => ∃ c, e = .returned (.int .i64 c) ∧ CmpIs x y c ∧ Below w'.heap.size w' w2 :=
    fun w' hB => w140 px py cx cy x y w' (hx.below hB) (hy.below hB) ix iy tx ty lx ly
  have K := Lib.hid H140
  clear H140 hx hy ix iy tx ty
  go_enter Tryz.func142, Tryz.ntmps142
  go_wp2
  obtain ⟨W2, hW2⟩ : ∃ W2, (w.alloc (.cells #[.bool n, .slice px x.length cx] 117)).alloc (.cells #[.bool m, .slice py y.length cy] 117) = W2 := ⟨_, rfl⟩
  have hB2 : Below w.heap.size w W2 := by rw [← hW2]; exact ((Below.refl _ w).alloc (Nat.le_refl _) _).alloc (by simp) _
  have hs2 : W2.heap.size = w.heap.size + 2 := by rw [← hW2]; simp
  have hr1 : W2.heap[w.heap.size]? = some (.cells #[.bool n, .slice px x.length cx] 117) := by rw [← hW2]; exact (Below.heap_alloc _ _ _ (by simp)).trans (World.alloc_heap_new w _)
  have hr2 : W2.heap[w.heap.size + 1]? = some (.cells #[.bool m, .slice py y.length cy] 117) := by rw [← hW2]; have := World.alloc_heap_new (w.alloc (.cells #[.bool n, .slice px x.length cx] 117)) (.cells #[.bool m, .slice py y.length cy] 117); rwa [World.size_alloc] at this
  rw [hW2]
  obtain ⟨hx0, hx1, _, _⟩ := two_cells hr1
  obtain ⟨_, hy1, _, _⟩ := two_cells hr2
  have hB20 := Below.refl W2.heap.size W2
  have step : ∀ {A B : World}, (A.cell? ⟨w.heap.size, 0, none⟩ = some (.bool n) ∧ A.cell? ⟨w.heap.size, 1, none⟩ = some (.slice px x.length cx) ∧ A.cell? ⟨w.heap.size + 1, 1, none⟩ = some (.slice py y.length cy) ∧ Below W2.heap.size W2 A) → Below A.heap.size A B →
      (B.cell? ⟨w.heap.size, 0, none⟩ = some (.bool n) ∧ B.cell? ⟨w.heap.size, 1, none⟩ = some (.slice px x.length cx) ∧ B.cell? ⟨w.heap.size + 1, 1, none⟩ = some (.slice py y.length cy) ∧ Below W2.heap.size W2 B) := fun {A B} h k => by
    have hs := h.2.2.2.size
    exact ⟨(k.cell (p := ⟨w.heap.size, 0, none⟩) (by show w.heap.size < _; omega)).trans h.1, (k.cell (p := ⟨w.heap.size, 1, none⟩) (by show w.heap.size < _; omega)).trans h.2.1, (k.cell (p := ⟨w.heap.size + 1, 1, none⟩) (by show w.heap.size + 1 < _; omega)).trans h.2.2.1, h.2.2.2.trans (k.mono hs)⟩
  go_region_held3 (fun w' => w'.cell? ⟨w.heap.size, 0, none⟩ = some (.bool n) ∧ w'.cell? ⟨w.heap.size, 1, none⟩ = some (.slice px x.length cx) ∧ w'.cell? ⟨w.heap.size + 1, 1, none⟩ = some (.slice py y.length cy) ∧ Below W2.heap.size W2 w')
    (first | exact ⟨hx0, hx1, hy1, hB20.drew⟩ | exact step (by assumption) (by assumption))
    (first | (go_at_call 140; refine (K.out _ ?_).mono ?_; exact hB2.trans (Below.mono (by assumption : _ ∧ _ ∧ _ ∧ Below W2.heap.size W2 _).2.2.2 hB2.size); rintro e w' ⟨c, rfl, hc, hB⟩))
  rename_i w' c hc hB hH
  go_wp2
  go_ret
  refine ⟨?_, hB2.trans (hH.2.2.2.mono hB2.size)⟩
  show Ending.returned (.bool (!decide (c < 0) == n)) = _
  have e : decide (c < 0) = decide (lval B9 x < lval B9 y) := decide_eq_decide.mpr hc.1
  rw [e]
  cases decide (lval B9 x < lval B9 y) <;> cases n <;> rfl

end Go.Proofs.YtlbmihpmcgiinaaGreatDoor.Own
end
