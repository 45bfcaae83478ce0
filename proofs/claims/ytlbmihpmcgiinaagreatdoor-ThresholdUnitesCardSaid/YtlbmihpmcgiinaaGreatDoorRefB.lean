/- Chapter 39: walks: the reference's cut and order of digits. -/
import Derived.Test.YtlbmihpmcgiinaaGreatDoorRefA
import Derived.Test.YtlbmihpmcgiinaaGreatDoorW140
import Derived.RegionTactic
import Derived.Deep.QuietTactic
import Derived.BigQuiet

section
namespace Go.Proofs.YtlbmihpmcgiinaaGreatDoor.Own
open Go Go.Proofs Go.RowKit

set_option maxRecDepth 100000 in
theorem w46 (p : Option Addr) (cap : Nat) (l : List Int) (w : World) (h : RowAt w p l) (hc : l.length ≤ cap) (hl : l.length < 4611686018427387904) :
    Calls Tryz.prog 46 #[.slice p l.length cap] w fun e w' => (∃ l' : List Int, e = .returned (.slice p l'.length cap) ∧ RowAt w p l' ∧ l'.length ≤ l.length ∧ Trimmed l' ∧ (∀ B, lval B l' = lval B l) ∧ (∀ x ∈ l', x ∈ l)) ∧ w' = w := by
  have H := Lib.hid h
  clear h
  go_enter Tryz.func46, Tryz.ntmps46
  go_wp2
  go_loop [3] (fun v => ∃ k : Nat, k ≤ l.length ∧ Hid (∀ j (_ : j < l.length), k ≤ j → l[j] = 0) ∧ v = .int .i64 k) (fun v => (intOf v).toNat)
  case atStart => exact ⟨l.length, Nat.le_refl _, Lib.hid fun j h1 h2 => by omega, rfl⟩
  case round =>
    obtain ⟨k, hk, HZ, rfl⟩ := hrel
    by_cases h0 : k = 0
    · subst h0
      go_wp2
      go_ret
      exact ⟨⟨[], rfl, fun h => absurd rfl h, Nat.zero_le _, Trimmed.nil, fun B => by rw [← lval_take B l 0 HZ.out]; rfl, fun x h => by cases h⟩, rfl⟩
    · obtain ⟨b, off, rfl, hb, hcell⟩ := H.out (by rintro rfl; simp at hk; omega)
      have hc1 := hcell (k - 1) (by omega)
      go_wp2
      · rename_i hz
        refine ⟨⟨k - 1, by omega, Lib.hid fun j h1 h2 => ?_, by congr 1; omega⟩, ?_⟩
        · by_cases e : j = k - 1
          · subst e
            exact beq_iff_eq.mp hz
          · exact HZ.out j h1 (by omega)
        · show ((k : Int) - 1).toNat < (k : Int).toNat
          omega
      · rename_i hz _
        go_ret
        have hkl : (l.take k).length = k := by rw [List.length_take]; omega
        exact ⟨⟨l.take k, by rw [hkl]; rfl, H.out.take k, by rw [hkl]; exact hk, trimmed_take (by omega) hk (by simpa using hz), fun B => lval_take B l k HZ.out, fun x hx => List.mem_of_mem_take hx⟩, rfl⟩

theorem sgn_lt {a b : Int} (h : a < b) : sgn (a - b) = -1 := by unfold sgn; rw [if_pos (by omega)]
theorem sgn_gt {a b : Int} (h : b < a) : sgn (a - b) = 1 := by unfold sgn; rw [if_neg (by omega), if_neg (by omega)]
theorem sgn_eq {a b : Int} (h : a = b) : sgn (a - b) = 0 := by unfold sgn; rw [if_neg (by omega), if_pos (by omega)]

theorem sgn_at {B : Int} (hB : 1 < B) {x y : List Int} (hx : InB B x) (hy : InB B y) (h : x.length = y.length) (i : Nat) (hi : i < x.length)
    (ha : ∀ j (h1 : j < x.length), i < j → x[j] = y.getD j 0) : (x[i] < y.getD i 0 → sgn (lval B x - lval B y) = -1) ∧ (y.getD i 0 < x[i] → sgn (lval B x - lval B y) = 1) := by
  have ht : x.drop (i + 1) = y.drop (i + 1) := by
    apply List.ext_getElem
    · rw [List.length_drop, List.length_drop, h]
    · intro j h1 h2
      rw [List.getElem_drop, List.getElem_drop]
      rw [List.length_drop] at h1 h2
      have := ha (i + 1 + j) (by omega) (by omega)
      rw [getD_get y _ (by omega)] at this
      exact this
  have ex := split_at x i hi
  have ey := split_at y i (by omega)
  rw [getD_get y i (by omega)]
  have hx1 : InB B (x.take i) := fun v hv => hx v (List.mem_of_mem_take hv)
  have hy1 : InB B (y.take i) := fun v hv => hy v (List.mem_of_mem_take hv)
  have hl : (x.take i).length = (y.take i).length := by rw [List.length_take, List.length_take, h]
  rw [← ht] at ey
  constructor
  · intro k
    have := lval_place (B := B) (t := x.drop (i + 1)) hB hx1 hy1 hl k
    rw [← ex, ← ey] at this
    exact sgn_lt this
  · intro k
    have := lval_place (B := B) (t := x.drop (i + 1)) hB hy1 hx1 hl.symm k
    rw [← ex, ← ey] at this
    exact sgn_gt this

set_option maxRecDepth 100000 in
set_option maxHeartbeats 2000000 in
theorem w55 (px py : Option Addr) (cx cy : Nat) (x y : List Int) (w : World) (hx : RowAt w px x) (hy : RowAt w py y) (ix : InB 10 x) (iy : InB 10 y) (tx : Trimmed x) (ty : Trimmed y)
    (lx : x.length < 1000000000) (ly : y.length < 1000000000) :
    Calls Tryz.prog 55 #[.slice px x.length cx, .slice py y.length cy] w fun e w' => e = .returned (.int .i64 (sgn (lval 10 x - lval 10 y))) ∧ Below w.heap.size w w' := by
  have HLT := Lib.hid (fun h => sgn_lt (lval_len (B := 10) (by decide) ix iy ty h))
  have HGT := Lib.hid (fun h => sgn_gt (lval_len (B := 10) (by decide) iy ix tx h))
  have HAT := Lib.hid (fun h => sgn_at (B := 10) (by decide) ix iy h)
  have HEQ : Hid (x.length = y.length → (∀ j (h1 : j < x.length), x[j] = y.getD j 0) → sgn (lval 10 x - lval 10 y) = 0) := Lib.hid (fun h ha => by
    have : x = y := List.ext_getElem h (fun j h1 h2 => by rw [ha j h1, getD_get y j h2])
    rw [this]
    exact sgn_eq rfl)
  have HX := Lib.hid hx
  have HY := Lib.hid hy
  generalize sgn (lval 10 x - lval 10 y) = z at *
  clear hx hy tx ty
  go_enter Tryz.func55, Tryz.ntmps55
  by_cases hlen : x.length = y.length
  · have HLEN := Lib.hid hlen
    have hne : ((x.length : Int) != (y.length : Int)) = false := by rw [bne_eq_false_iff_eq]; omega
    have hat := HAT.out hlen
    have heq := HEQ.out hlen
    have HAT2 := Lib.hid hat
    have HEQ2 := Lib.hid heq
    clear hlen hat heq HAT HEQ HLT HGT
    go_wp2
    go_loopw [5] (fun i wr => ∃ k : Nat, i = .int .i64 ((k : Int) - 1) ∧ k ≤ x.length ∧ Hid (∀ j (h : j < x.length), k ≤ j → x[j] = y.getD j 0) ∧ Hid (Below w.heap.size w wr)) (fun i _ => (intOf i + 1).toNat)
    case atStart => exact ⟨x.length, rfl, Nat.le_refl _, Lib.hid (fun j h1 h2 => by omega), Lib.hid (Below.refl _ _)⟩
    case round =>
      obtain ⟨k, rfl, hk, HA, HB⟩ := hrel
      by_cases hk0 : 0 < k
      · obtain ⟨j, rfl⟩ : ∃ j, k = j + 1 := ⟨k - 1, by omega⟩
        have ej : (((j + 1 : Nat) : Int) - 1) = (j : Int) := by omega
        rw [ej]
        have hjx : j < x.length := by omega
        have hjy : j < y.length := by rw [← HLEN.out]; exact hjx
        obtain ⟨bx, ox, rfl, hbx, hcx⟩ := (HX.out.below HB.out) (by rintro rfl; simp at hjx)
        obtain ⟨by', oy, rfl, hby, hcy⟩ := (HY.out.below HB.out) (by rintro rfl; simp at hjy)
        have c1 := hcx j hjx
        have c2 := hcy j hjy
        rw [← getD_get y j hjy] at c2
        have HJ := Lib.hid (HAT2.out j hjx (fun i h1 h2 => HA.out i h1 h2))
        have HE : Hid (x[j] = y.getD j 0 → ∀ i (h : i < x.length), j ≤ i → x[i] = y.getD i 0) := Lib.hid (fun e i h1 h2 => by
          by_cases e2 : i = j
          · subst e2; exact e
          · exact HA.out i h1 (by omega))
        obtain ⟨u, hu⟩ : ∃ u, x[j] = u := ⟨_, rfl⟩
        obtain ⟨v, hv⟩ : ∃ v, y.getD j 0 = v := ⟨_, rfl⟩
        rw [hu, hv] at HJ HE
        rw [hu] at c1
        rw [hv] at c2
        clear hcx hcy hu hv HA
        have b1 : (j : Int) < (x.length : Int) := by omega
        have b2 : (j : Int) < (y.length : Int) := by omega
        by_cases huv : u = v
        · subst huv
          have HA2 := Lib.hid (HE.out rfl)
          go_wp2
          go_quiet (fail)
          go_wp2
          refine ⟨⟨j, rfl, Nat.le_of_lt hjx, HA2, Lib.hid (HB.out.trans ⟨rfl, rfl, rfl, Nat.le_refl _, fun _ _ => rfl⟩)⟩, ?_⟩
          show (((j : Int) - 1) + 1).toNat < ((j : Int) + 1).toNat
          omega
        · have huv' : (u != v) = true := by simpa using huv
          rcases Int.lt_or_gt_of_ne huv with hlt | hgt
          · have hz := HJ.out.1 hlt
            subst hz
            clear HJ HE HAT2 HEQ2
            go_wp2
            go_quiet (fail)
            go_wp2
            go_quiet (fail)
            go_wp2
            go_ret
            exact ⟨rfl, HB.out.trans ⟨rfl, rfl, rfl, Nat.le_refl _, fun _ _ => rfl⟩⟩
          · have hz := HJ.out.2 hgt
            subst hz
            clear HJ HE HAT2 HEQ2
            have hge : ¬ u < v := by omega
            go_wp2
            go_quiet (fail)
            go_wp2
            go_quiet (fail)
            go_wp2
            go_ret
            exact ⟨rfl, HB.out.trans ⟨rfl, rfl, rfl, Nat.le_refl _, fun _ _ => rfl⟩⟩
      · obtain rfl : k = 0 := by omega
        have hz := HEQ2.out (fun j h => HA.out j h (Nat.zero_le _))
        subst hz
        clear HEQ2 HAT2 HA
        go_wp2
        go_ret
        exact ⟨rfl, HB.out⟩
  · rcases Nat.lt_or_gt_of_ne hlen with h | h
    · have hz := HLT.out h
      subst hz
      clear HLT HGT HAT HEQ
      go_wp2
      go_ret
      exact ⟨rfl, Below.refl _ _⟩
    · have hz := HGT.out h
      subst hz
      have hge : ¬ x.length < y.length := by omega
      clear HLT HGT HAT HEQ
      go_wp2
      go_ret
      exact ⟨rfl, Below.refl _ _⟩

end Go.Proofs.YtlbmihpmcgiinaaGreatDoor.Own
end

/- Chapter 39: walks: the reference's Order. -/
section
namespace Go.Proofs.YtlbmihpmcgiinaaGreatDoor.Own
open Go Go.Proofs Go.RowKit

theorem sgn_range (z : Int) : -1 ≤ sgn z ∧ sgn z ≤ 1 := by unfold sgn; repeat' split <;> omega

theorem sgn_apart {a b : Int} : (sgn a < sgn b → sgn (a - b) = -1) ∧ (sgn b < sgn a → sgn (a - b) = 1) := by
  unfold sgn
  constructor <;> intro h <;> (repeat' split at h) <;> (repeat' split) <;> omega

theorem sgn_same (n m : Bool) (A B : Nat) (h : sgn (if n then -(A : Int) else A) = sgn (if m then -(B : Int) else B)) :
    sgn ((if n then -(A : Int) else A) - (if m then -(B : Int) else B)) = sgn (if n then -(A : Int) else A) * sgn ((A : Int) - B) := by
  unfold sgn at *
  cases n <;> cases m <;> simp only [Bool.false_eq_true, if_false, if_true] at h ⊢ <;> (repeat' split at h) <;> (repeat' split) <;> omega

set_option maxRecDepth 100000 in
set_option maxHeartbeats 2000000 in
theorem w32 (s t : ByteArray) (hs : chk s = 0) (ht : chk t = 0) (w : World) :
    Calls Tryz.prog 32 #[.string s, .string t] w fun e w' => e = .returned (.int .i64 (sgn (decInt s.data.toList - decInt t.data.toList))) ∧ Below w.heap.size w w' := by
  have good : ∀ s : ByteArray, chk s = 0 → canon s.data.toList = true ∧ s.size < 5000 := fun s h => by
    have hc := canon_of_chk h
    unfold chk at h
    rw [if_pos hc] at h
    split at h
    · cases h
    · have := digs_size s
      exact ⟨hc, by omega⟩
  have gs := good s hs
  have gt := good t ht
  obtain ⟨dS, _, eS, _⟩ := canon_val gs.1
  obtain ⟨dT, _, eT, _⟩ := canon_val gt.1
  have H64s := Lib.hid (w64 s gs.1)
  have H64t := Lib.hid (w64 t gt.1)
  have H47s := Lib.hid (w47 s gs.1 (by omega))
  have H47t := Lib.hid (w47 t gt.1 (by omega))
  have DS := Lib.hid (digsL_val _ dS)
  have DT := Lib.hid (digsL_val _ dT)
  have hlS : (digsL (magn s.data.toList)).length ≤ 5000 := by
    have h1 : (magn s.data.toList).length ≤ s.data.toList.length := by unfold magn Lib.trimPrefix; split <;> simp
    have h2 : s.data.toList.length = s.size := by rw [Array.length_toList]; rfl
    have := gs.2
    unfold digsL; rw [List.length_map, List.length_reverse]; omega
  have hlT : (digsL (magn t.data.toList)).length ≤ 5000 := by
    have h1 : (magn t.data.toList).length ≤ t.data.toList.length := by unfold magn Lib.trimPrefix; split <;> simp
    have h2 : t.data.toList.length = t.size := by rw [Array.length_toList]; rfl
    have := gt.2
    unfold digsL; rw [List.length_map, List.length_reverse]; omega
  have HAP := Lib.hid (@sgn_apart (decInt s.data.toList) (decInt t.data.toList))
  have HSA : Hid (sgn (decInt s.data.toList) = sgn (decInt t.data.toList) → sgn (decInt s.data.toList - decInt t.data.toList) = sgn (decInt s.data.toList) * sgn ((decNat (magn s.data.toList) 0 : Nat) - (decNat (magn t.data.toList) 0 : Nat) : Int)) := Lib.hid (by
    rw [eS, eT]
    exact sgn_same _ _ _ _)
  have rS := sgn_range (decInt s.data.toList)
  have rT := sgn_range (decInt t.data.toList)
  clear eS eT gs gt good hs ht dS dT
  generalize sgn (decInt s.data.toList - decInt t.data.toList) = z at *
  generalize digsL (magn s.data.toList) = x at *
  generalize digsL (magn t.data.toList) = y at *
  obtain ⟨A, hA⟩ : ∃ A, decNat (magn s.data.toList) 0 = A := ⟨_, rfl⟩
  obtain ⟨B, hB⟩ : ∃ B, decNat (magn t.data.toList) 0 = B := ⟨_, rfl⟩
  rw [hA] at DS HSA
  rw [hB] at DT HSA
  clear hA hB
  generalize sgn (decInt s.data.toList) = u at *
  generalize sgn (decInt t.data.toList) = v at *
  go_enter Tryz.func32, Tryz.ntmps32
  go_wp2_with fail
  refine (H64s.out _).mono ?_
  rintro e w1 ⟨rfl, rfl⟩
  go_wp2_with fail
  refine (H64t.out _).mono ?_
  rintro e w2 ⟨rfl, rfl⟩
  by_cases huv : u = v
  · have hz := HSA.out huv
    have hne : (u != v) = false := by simpa using huv
    have HZ := Lib.hid hz
    clear huv hz HSA HAP
    go_wp2_with fail
    refine (H47s.out _).mono ?_
    rintro e w3 ⟨v1, rfl, hr1, hB1⟩
    obtain ⟨p1, c1, rfl, ra1, hc1⟩ := row_of_owns hr1
    go_wp2_with fail
    refine (w46 p1 c1 x w3 ra1 hc1 (by omega)).mono ?_
    rintro e w4 ⟨⟨x', rfl, ra2, hl2, t2, val2, sub2⟩, rfl⟩
    go_wp2_with fail
    refine (H47t.out _).mono ?_
    rintro e w5 ⟨v2, rfl, hr3, hB3⟩
    obtain ⟨p2, c2, rfl, ra3, hc3⟩ := row_of_owns hr3
    go_wp2_with fail
    refine (w46 p2 c2 y w5 ra3 hc3 (by omega)).mono ?_
    rintro e w6 ⟨⟨y', rfl, ra4, hl4, t4, val4, sub4⟩, rfl⟩
    have H55 := w55 p1 p2 c1 c2 x' y' w6 (ra2.below hB3) ra4 (fun a ha => DS.out.1 a (sub2 a ha)) (fun a ha => DT.out.1 a (sub4 a ha)) t2 t4 (by omega) (by omega)
    rw [val2, val4, DS.out.2, DT.out.2] at H55
    have rC := sgn_range ((A : Int) - B)
    generalize sgn ((A : Int) - B) = c at *
    have hz := HZ.out
    have hBB := Lib.hid (hB1.trans (hB3.mono hB1.size))
    clear ra2 ra4 ra1 ra3 hr1 hr3 t2 t4 val2 val4 sub2 sub4 hB1 hB3 DS DT H47s H47t H64s H64t HZ
    have hu3 : u = -1 ∨ u = 0 ∨ u = 1 := by omega
    have hc4 : c = -1 ∨ c = 0 ∨ c = 1 := by omega
    go_wp2_with fail
    refine H55.mono ?_
    rintro e w7 ⟨rfl, hB7⟩
    have hmul : -1 ≤ u * c ∧ u * c ≤ 1 := by rcases hu3 with rfl | rfl | rfl <;> rcases hc4 with rfl | rfl | rfl <;> omega
    obtain ⟨k, hk⟩ : ∃ k, u * c = k := ⟨_, rfl⟩
    rw [hk] at hz hmul
    subst hz
    go_wp2_with fail
    go_ret
    exact ⟨rfl, hBB.out.trans (hB7.mono hBB.out.size)⟩
  · have hne : (u != v) = true := by simpa using huv
    rcases Int.lt_or_gt_of_ne huv with hlt | hgt
    · have hz := HAP.out.1 hlt
      subst hz
      clear huv HSA HAP
      go_wp2_with fail
      go_ret
      exact ⟨rfl, Below.refl _ _⟩
    · have hz := HAP.out.2 hgt
      subst hz
      have hge : ¬ u < v := by omega
      clear huv HSA HAP
      go_wp2_with fail
      go_ret
      exact ⟨rfl, Below.refl _ _⟩

end Go.Proofs.YtlbmihpmcgiinaaGreatDoor.Own
end
