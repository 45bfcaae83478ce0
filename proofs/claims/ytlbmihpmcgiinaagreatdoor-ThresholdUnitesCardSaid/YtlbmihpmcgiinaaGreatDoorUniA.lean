/- Chapter 39: walks: slices.Grow of nil, slices.Concat of two lists of texts; slices.Index and Contains. -/
import Derived.Test.YtlbmihpmcgiinaaGreatDoorMergC
import Derived.Lib.AppendZeros
import Derived.Test.YtlbmihpmcgiinaaGreatDoorMergB
import Derived.Test.YtlbmihpmcgiinaaGreatDoorLawA

section
namespace Go.Proofs.YtlbmihpmcgiinaaGreatDoor.Own
open Go Go.Proofs Go.RowKit

/-- append(s, x...) of a list of texts, nil or not. -/
theorem run_append_strs {w : World} {base : Nat} {v : Value} {ss l : List ByteArray} {p : Option Addr} (c : Nat) (ty : TypeId) (hown : w.ownsRow base 23 1 v ss.length (ss.map Value.string)) (h : StrsAt w p l) (hl : ss.length + l.length ≤ 1000000) (hb : base ≤ w.heap.size) :
    ∃ v' w', (Builtin.append_ #[22, 22] ty #[v, .slice p l.length c]).run Tryz.prog w = .ok v' w' ∧ w'.ownsRow base 23 1 v' (ss ++ l).length ((ss ++ l).map Value.string) ∧ w.grownBy w' v.ownBlock := by
  obtain ⟨i0, hi, hz0, hz1, hz2⟩ := info_parts info23'
  have key : ∀ ad, (∀ j u, (l.map Value.string)[j]? = some u → w.cell? (ad.add j) = some u) → ∃ v' w', (Builtin.append_ #[22, 22] ty #[v, .slice (some ad) l.length c]).run Tryz.prog w = .ok v' w' ∧ w'.ownsRow base 23 1 v' (ss ++ l).length ((ss ++ l).map Value.string) ∧ w.grownBy w' v.ownBlock := fun ad hnews => by
    obtain ⟨v', w', h1, h2, h3, _, _⟩ := run_append_own_at (P := Tryz.prog) w base 22 ty 23 i0 (.string ⟨#[]⟩) 1 16 Tryz.underlying22 hi hz0 hz1 hz2 rfl (by decide) v ss.length (ss.map Value.string) hown ad l.length c (l.map Value.string) (by simp) hnews (fun u hu => by obtain ⟨x, _, rfl⟩ := List.mem_map.mp hu; rfl) (by unfold maxLen; omega) (by omega) hb
    exact ⟨v', w', h1, by simpa using h2, h3⟩
  by_cases hne : l = []
  · subst hne
    cases p with
    | some ad => exact key ad (fun j u hj => by simp at hj)
    | none =>
      refine ⟨v, w, ?_, by simpa using hown, ⟨rfl, rfl, rfl, Nat.le_refl _, fun _ _ _ => rfl⟩⟩
      rcases hown.2 with ⟨rfl, h0⟩ | ⟨g, cap, cur, rfl, _, _, hnc, _⟩
      · rw [h0] at *
        simp [Builtin.append_, run_underlying Tryz.underlying22, sizeOf, typeInfo, hi, Builtin.lenOf, Builtin.firstCells]
      · simp [Builtin.append_, run_underlying Tryz.underlying22, sizeOf, typeInfo, hi, Builtin.lenOf, Builtin.firstCells, hnc, storeCells]
  · obtain ⟨b, off, rfl, hb2, hcells⟩ := h hne
    refine key ⟨b, off, none⟩ fun j u hj => ?_
    rw [List.getElem?_map] at hj
    by_cases hjl : j < l.length
    · rw [List.getElem?_eq_getElem hjl] at hj
      have : Value.string l[j] = u := by simpa using hj
      rw [← this]
      have e : (⟨b, off, none⟩ : Addr).add j = ⟨b, off + j, none⟩ := by simp [Addr.add]
      rw [e]
      exact hcells j hjl
    · rw [List.getElem?_eq_none (by omega)] at hj
      cases hj

theorem zeroOne_size (v : Value) (n : Nat) : (Builtin.zeroCells #[v] n).size = n := by
  simp [Builtin.zeroCells]

set_option maxRecDepth 100000 in
set_option maxHeartbeats 1000000 in
theorem w63 (n : Nat) (hn : n ≤ 100000) (w : World) :
    Calls Tryz.prog 63 #[.slice none 0 0, .int .i64 (n : Int)] w fun e w' => ∃ v, e = .returned v ∧ w'.ownsRow w.heap.size 23 1 v 0 [] ∧ Below w.heap.size w w' := by
  obtain ⟨i0, hi, hz0, hz1, hz2⟩ := info_parts info23'
  by_cases h0 : 0 < n
  · have H := Lib.hid (fun ty => Lib.run_append_nil_zeros (P := Tryz.prog) w 22 3 ty 23 i0 (.string ⟨#[]⟩) .i64 .i64 Tryz.underlying22 Tryz.underlying3 hi hz0 n h0 (by rw [hz1]; decide) (by omega) (by rw [hz2]; omega))
    have hpos : (0 : Int) < (n : Int) := by omega
    go_enter Tryz.func63, Tryz.ntmps63
    go_wp2_with (first
      | (at_builtin; refine Lib.wpList_append_run _ rfl _ _ _ _ rfl _ _ rfl rfl _ _ (H.out _) ?_)
      | fail)
    go_ret
    refine ⟨_, rfl, ⟨rfl, .inr ⟨w.heap.size, grownCap w n 0 23, _, rfl, Nat.le_refl _, World.alloc_heap_new w _, Nat.zero_le _, ?_, ?_, rfl⟩⟩, ((Below.refl _ _).alloc (Nat.le_refl _) _).drew⟩
    · exact grownCap_le_maxLen w n 0 23 (by unfold maxLen; omega)
    · have h1 := grownCap_ge w n 0 23
      rw [Array.size_append, zeroOne_size, zeroOne_size]
      omega
  · obtain rfl : n = 0 := by omega
    go_enter Tryz.func63, Tryz.ntmps63
    go_wp2
    go_ret
    exact ⟨_, rfl, World.ownsRow_nil _ _ _ _, Below.refl _ _⟩

set_option maxRecDepth 100000 in
set_option maxHeartbeats 2000000 in
theorem w31 (B : Nat) (pa pb : Option Addr) (ca cb : Nat) (a b : List ByteArray) (w : World) (hBl : B < w.heap.size) (c0 : w.cell? ⟨B, 0, none⟩ = some (.slice pa a.length ca)) (c1 : w.cell? ⟨B, 1, none⟩ = some (.slice pb b.length cb))
    (ha : StrsAt w pa a) (hb : StrsAt w pb b) (hla : a.length ≤ 1000) (hlb : b.length ≤ 1000) :
    Calls Tryz.prog 31 #[.slice (some ⟨B, 0, none⟩) 2 2] w fun e w' => ∃ q c, e = .returned (.slice q (a ++ b).length c) ∧ StrsAt w' q (a ++ b) ∧ Below w.heap.size w w' := by
  have PICK : ∀ k, k < 2 → ∃ px cx x L, Hid (w.cell? ⟨B, k, none⟩ = some (.slice px x.length cx)) ∧ Hid (StrsAt w px x) ∧ x.length ≤ 1000 ∧ Hid ((k = 0 → L = []) ∧ (k = 1 → L = a) ∧ (k = 0 → x = a) ∧ (k = 1 → x = b)) := fun k hk => by
    rcases (by omega : k = 0 ∨ k = 1) with rfl | rfl
    · exact ⟨pa, ca, a, [], Lib.hid c0, Lib.hid ha, hla, Lib.hid ⟨fun _ => rfl, by omega, fun _ => rfl, by omega⟩⟩
    · exact ⟨pb, cb, b, a, Lib.hid c1, Lib.hid hb, hlb, Lib.hid ⟨by omega, fun _ => rfl, by omega, fun _ => rfl⟩⟩
  have HP := Lib.hid PICK
  have HLA := Lib.hid hla
  have HLB := Lib.hid hlb
  obtain ⟨N, hN⟩ : ∃ N, a.length + b.length = N := ⟨_, rfl⟩
  have hN2 : N ≤ 2000 := by omega
  have HN := Lib.hid hN
  clear c0 c1 ha hb hla hlb PICK hN
  go_enter Tryz.func31, Tryz.ntmps31
  go_wp2
  go_loopw [3, 11] (fun t i wr => ∃ (k m : Nat), i = .int .i64 k ∧ k ≤ 2 ∧ t = .int .i64 m ∧ m ≤ 1000 * k ∧ Hid ((k = 0 → m = 0) ∧ (k = 1 → m = a.length) ∧ (k = 2 → m = N)) ∧ Hid (wr = w)) (fun _ i _ => 2 - (intOf i).toNat)
  case atStart => exact ⟨0, 0, rfl, by omega, rfl, by omega, Lib.hid ⟨fun _ => rfl, by omega, by omega⟩, Lib.hid rfl⟩
  case round =>
    obtain ⟨k, m, rfl, hk, rfl, hm, HM, HW⟩ := hrel
    have hw := HW.out
    subst hw
    by_cases hk2 : k < 2
    · obtain ⟨px, cx, x, L', hcl, HX, hlx, HL'⟩ := HP.out k hk2
      have hcell := hcl.out
      have HMN : Hid ((k + 1 = 0 → m + x.length = 0) ∧ (k + 1 = 1 → m + x.length = a.length) ∧ (k + 1 = 2 → m + x.length = N)) := Lib.hid (by
        rcases (by omega : k = 0 ∨ k = 1) with rfl | rfl
        · rw [HM.out.1 rfl, HL'.out.2.2.1 rfl]; exact ⟨by omega, fun _ => by omega, by omega⟩
        · rw [HM.out.2.1 rfl, HL'.out.2.2.2 rfl]; exact ⟨by omega, by omega, fun _ => HN.out⟩)
      have hneg : ¬ ((m : Int) + (x.length : Int) < 0) := by omega
      go_wp2
      refine ⟨⟨k + 1, m + x.length, rfl, hk2, rfl, by omega, HMN, Lib.hid (by first | trivial | rfl)⟩, ?_⟩
      show 2 - ((k : Int) + 1).toNat < 2 - (k : Int).toNat
      omega
    · obtain rfl : k = 2 := by omega
      obtain rfl : m = N := HM.out.2.2 rfl
      have H63 := w63 m (by omega) wr
      go_wp2_with (go_at_call 63; refine H63.mono ?_; rintro e w2 ⟨v, rfl, hown, hB⟩)
      go_loopw [6, 27] (fun u i wr2 => ∃ (k : Nat) (L : List ByteArray), i = .int .i64 k ∧ k ≤ 2 ∧ wr2.ownsRow wr.heap.size 23 1 u L.length (L.map Value.string) ∧ L.length ≤ 1000 * k ∧ Hid ((k = 0 → L = []) ∧ (k = 1 → L = a) ∧ (k = 2 → L = a ++ b)) ∧ Below wr.heap.size wr wr2) (fun _ i _ => 2 - (intOf i).toNat)
      case atStart => exact ⟨0, [], rfl, by omega, hown, by simp, Lib.hid ⟨fun _ => rfl, by omega, by omega⟩, hB⟩
      case round =>
        obtain ⟨k, L, rfl, hk, hrow, hlL, HL, hB2⟩ := hrel
        by_cases hk2 : k < 2
        · obtain ⟨px, cx, x, L', hcl, HX, hlx, HL'⟩ := HP.out k hk2
          have hcell := (hB2.cell (p := ⟨B, k, none⟩) hBl).trans hcl.out
          obtain ⟨v', w', hr, hown', hgr⟩ := run_append_strs cx 22 hrow (HX.out.below hB2) (by omega) hB2.size
          have HLN : Hid ((k + 1 = 0 → L ++ x = []) ∧ (k + 1 = 1 → L ++ x = a) ∧ (k + 1 = 2 → L ++ x = a ++ b)) := Lib.hid (by
            rcases (by omega : k = 0 ∨ k = 1) with rfl | rfl
            · rw [HL.out.1 rfl, HL'.out.2.2.1 rfl]; exact ⟨by omega, fun _ => rfl, by omega⟩
            · rw [HL.out.2.1 rfl, HL'.out.2.2.2 rfl]; exact ⟨by omega, by omega, fun _ => rfl⟩)
          have hlL2 : (L ++ x).length ≤ 1000 * (k + 1) := by rw [List.length_append]; omega
          have hB3 := Lib.hid (hB2.grown hgr hB2.size (fun j hj => (hrow.lt j hj).1))
          have HOWN := Lib.hid hown'
          clear hown' hgr
          go_wp2_with (first
            | (at_builtin; refine Lib.wpList_append_run _ rfl _ _ _ _ rfl _ _ rfl rfl _ _ hr ?_; go_frame)
            | go_in)
          refine ⟨⟨k + 1, L ++ x, rfl, hk2, HOWN.out, hlL2, HLN, hB3.out⟩, ?_⟩
          show 2 - ((k : Int) + 1).toNat < 2 - (k : Int).toNat
          omega
        · obtain rfl : k = 2 := by omega
          obtain rfl := HL.out.2.2 rfl
          obtain ⟨q, cp, rfl, hat, _⟩ := texts_of_owns hrow
          go_wp2
          go_ret
          first
            | exact ⟨q, cp, rfl, hat, hB2⟩
            | exact ⟨q, ⟨cp, rfl⟩, hat, hB2⟩

end Go.Proofs.YtlbmihpmcgiinaaGreatDoor.Own
end

/- Chapter 39: walks: slices.Index and Contains at texts; ContainsFunc with the closure of ThresholdUnites. -/
section
namespace Go.Proofs.YtlbmihpmcgiinaaGreatDoor.Own
open Go Go.Proofs Go.RowKit

theorem toList_yes {a b : ByteArray} (h : a = b) : (a.toList == b.toList) = true := by
  subst h
  exact beq_self_eq_true _

theorem mem_drop_step {l : List ByteArray} {v : ByteArray} {k : Nat} (hk : k < l.length) : v ∈ l.drop k ↔ (v = l[k] ∨ v ∈ l.drop (k + 1)) := by
  rw [List.drop_eq_getElem_cons hk, List.mem_cons]

set_option maxRecDepth 100000 in
set_option maxHeartbeats 1000000 in
theorem w22 (p : Option Addr) (cap : Nat) (l : List ByteArray) (v : ByteArray) (w : World) (h : StrsAt w p l) (hv : v ∈ l) (hl : l.length < 4611686018427387904) :
    Calls Tryz.prog 22 #[.slice p l.length cap, .string v] w fun e w' => e = .returned (.bool true) ∧ w' = w := by
  have H53 : Calls Tryz.prog 53 #[.slice p l.length cap, .string v] w fun e w' => (∃ k : Nat, e = .returned (.int .i64 (k : Int))) ∧ w' = w := by
    have H := Lib.hid h
    have HV := Lib.hid hv
    clear h hv
    go_enter Tryz.func53, Tryz.ntmps53
    go_wp2
    go_loopw [5, 8] (fun _ i wr => ∃ k : Nat, i = .int .i64 k ∧ k ≤ l.length ∧ Hid (v ∈ l.drop k) ∧ Hid (wr = w)) (fun _ i _ => l.length - (intOf i).toNat)
    case atStart => exact ⟨0, rfl, Nat.zero_le _, by rw [List.drop_zero]; exact HV, Lib.hid rfl⟩
    case round =>
      obtain ⟨k, rfl, hk, HK, HW⟩ := hrel
      have hw := HW.out
      subst hw
      have hk2 : k < l.length := by
        rcases Nat.lt_or_ge k l.length with h | h
        · exact h
        · have := HK.out
          rw [List.drop_of_length_le h] at this
          cases this
      obtain ⟨b, off, rfl, hb, hcells⟩ := H.out (by rintro rfl; simp at hk2)
      have hck := hcells k hk2
      have HM := Lib.hid ((mem_drop_step hk2).mp HK.out)
      obtain ⟨s, hs⟩ : ∃ s, l[k] = s := ⟨_, rfl⟩
      rw [hs] at hck HM
      clear hs hcells
      by_cases he : v = s
      · have heq := toList_yes he
        clear HM HK
        go_wp2
        go_ret
        exact ⟨⟨k, rfl⟩, rfl⟩
      · have HM2 : Hid (v ∈ l.drop (k + 1)) := Lib.hid (HM.out.resolve_left he)
        have hne := toList_ne he
        clear HM HK
        go_wp2
        refine ⟨⟨k + 1, rfl, hk2, HM2, Lib.hid (by first | trivial | rfl)⟩, ?_⟩
        show l.length - ((k : Int) + 1).toNat < l.length - (k : Int).toNat
        omega
  go_enter Tryz.func22, Tryz.ntmps22
  go_wp2_with (go_at_call 53; refine H53.mono ?_; rintro e w' ⟨⟨k, rfl⟩, rfl⟩)
  go_ret
  exact ⟨by first | rfl | (rw [decide_eq_true (by omega)]), rfl⟩

theorem w34 (t v : ByteArray) (ht : chk t = 0) (hv : chk v = 0) (B : Nat) (w : World) (hc : w.cell? ⟨B, 0, none⟩ = some (.string v)) :
    Calls Tryz.prog 34 #[.string t, .pointer (some ⟨B, 0, none⟩)] w fun e w' => e = .returned (.bool (notLess t v)) ∧ Below w.heap.size w w' := by
  have H32 := w32 t v ht hv w
  unfold notLess
  generalize sgn (decInt t.data.toList - decInt v.data.toList) = z at H32 ⊢
  clear ht hv
  go_enter Tryz.func34, Tryz.ntmps34
  go_wp2_with (first | (go_at_call 32; refine H32.mono ?_; rintro e w2 ⟨rfl, hB⟩))
  go_ret
  exact ⟨rfl, hB⟩

/-- Is one of some numbers at least v? -/
def anyGe (l : List ByteArray) (v : ByteArray) : Bool := l.any (notLess · v)
theorem anyGe_step (l : List ByteArray) (v : ByteArray) (k : Nat) (hk : k < l.length) : (l.drop k).any (notLess · v) = (notLess l[k] v || (l.drop (k + 1)).any (notLess · v)) := by
  rw [List.drop_eq_getElem_cons hk, List.any_cons]

set_option maxRecDepth 100000 in
set_option maxHeartbeats 1000000 in
theorem w33 (p : Option Addr) (cap : Nat) (l : List ByteArray) (v : ByteArray) (B : Nat) (w : World) (h : StrsAt w p l) (hl : l.length < 4611686018427387904) (hall : ∀ s ∈ l, chk s = 0) (hv : chk v = 0) (hc : w.cell? ⟨B, 0, none⟩ = some (.string v)) (hBl : B < w.heap.size) :
    Calls Tryz.prog 33 #[.slice p l.length cap, .func (.func 34) #[] #[.pointer (some ⟨B, 0, none⟩)]] w fun e w' => e = .returned (.bool (anyGe l v)) ∧ Below w.heap.size w w' := by
  have H38 : Calls Tryz.prog 38 #[.slice p l.length cap, .func (.func 34) #[] #[.pointer (some ⟨B, 0, none⟩)]] w fun e w' => (∃ k : Int, e = .returned (.int .i64 k) ∧ decide (0 ≤ k) = anyGe l v) ∧ Below w.heap.size w w' := by
    have H := Lib.hid h
    have HALL := Lib.hid hall
    have HC := Lib.hid hc
    obtain ⟨r, hr⟩ : ∃ r, anyGe l v = r := ⟨_, rfl⟩
    rw [hr]
    unfold anyGe at hr
    have HR := Lib.hid hr
    clear h hall hc hr
    go_enter Tryz.func38, Tryz.ntmps38
    go_wp2
    go_loopw [8] (fun i wr => ∃ k : Nat, i = .int .i64 k ∧ k ≤ l.length ∧ Hid ((l.drop k).any (notLess · v) = r) ∧ Hid (Below w.heap.size w wr)) (fun i _ => l.length - (intOf i).toNat)
    case atStart => exact ⟨0, rfl, Nat.zero_le _, by rw [List.drop_zero]; exact HR, Lib.hid (Below.refl _ _)⟩
    case round =>
      obtain ⟨k, rfl, hk, HK, HB⟩ := hrel
      by_cases hk2 : k < l.length
      · have hB := HB.out
        obtain ⟨b, off, rfl, hb, hcells⟩ := (H.out.below hB) (by rintro rfl; simp at hk2)
        have hck := hcells k hk2
        have H34 := w34 l[k] v (HALL.out _ (List.getElem_mem hk2)) hv B wr ((hB.cell (p := ⟨B, 0, none⟩) hBl).trans HC.out)
        have HST := Lib.hid ((anyGe_step l v k hk2).symm.trans HK.out)
        obtain ⟨s, hs⟩ : ∃ s, l[k] = s := ⟨_, rfl⟩
        obtain ⟨x, hx⟩ : ∃ x, notLess l[k] v = x := ⟨_, rfl⟩
        rw [hx] at HST H34
        rw [hs] at H34 hck
        clear hs hx hcells HK
        cases x
        · have HS2 : Hid ((l.drop (k + 1)).any (notLess · v) = r) := Lib.hid HST.out
          clear HST
          go_wp2_with (first | (go_at_call 34; refine H34.mono ?_; rintro e w2 ⟨rfl, hB2⟩))
          refine ⟨⟨k + 1, rfl, hk2, HS2, Lib.hid (hB.trans (hB2.mono hB.size))⟩, ?_⟩
          show l.length - ((k : Int) + 1).toNat < l.length - (k : Int).toNat
          omega
        · have hst : true = r := HST.out
          subst hst
          clear HST HR
          go_wp2_with (first | (go_at_call 34; refine H34.mono ?_; rintro e w2 ⟨rfl, hB2⟩))
          go_ret
          exact ⟨⟨_, rfl, decide_eq_true (by omega)⟩, hB.trans (hB2.mono hB.size)⟩
      · obtain rfl : k = l.length := by omega
        have hst := HK.out
        rw [List.drop_length] at hst
        have hst : false = r := hst
        subst hst
        clear HK HR
        go_wp2
        go_ret
        exact ⟨⟨_, rfl, rfl⟩, HB.out⟩
  generalize anyGe l v = r at *
  clear h hall hc
  go_enter Tryz.func33, Tryz.ntmps33
  go_wp2_with (go_at_call 38; refine H38.mono ?_; rintro e w' ⟨⟨k, rfl, hk⟩, hB⟩)
  go_ret
  exact ⟨by rw [← hk]; rfl, hB⟩

end Go.Proofs.YtlbmihpmcgiinaaGreatDoor.Own
end

/- Chapter 39: uniting thresholds: the plain law. -/
section
namespace Go.Proofs.YtlbmihpmcgiinaaGreatDoor.Own
open Go Go.Proofs Go.RowKit

theorem limL_sub : ∀ (n : Nat) (m : List ByteArray), m.length ≤ n → (limL m).Sublist m := by
  intro n
  induction n with
  | zero => intro m h; rw [limL_stop (by omega)]; exact List.Sublist.refl _
  | succ n ih =>
    intro m h
    by_cases h2 : 256 < m.length
    · rw [limL_step h2]
      split
      · exact (ih _ (by rw [List.length_tail]; omega)).trans (List.tail_sublist m)
      · exact (ih _ (by rw [List.length_dropLast]; omega)).trans (List.dropLast_sublist m)
    · rw [limL_stop h2]; exact List.Sublist.refl _

theorem ckL_ok : ∀ (l : List ByteArray) (q : Option ByteArray), (∀ s ∈ l, chk s = 0) → (∀ s ∈ l, digs s ≤ 100) → Asc l → (∀ x, q = some x → ∀ s ∈ l, val x < val s) → ckL l q = 0 := by
  intro l
  induction l with
  | nil => intros; rfl
  | cons t l ih =>
    intro q hc hd ha hq
    have h1 := hc t List.mem_cons_self
    have h2 := hd t List.mem_cons_self
    obtain ⟨a1, a2⟩ := List.pairwise_cons.mp ha
    unfold ckL
    rw [if_neg (by simp [h1]), if_neg (by omega)]
    have hn : ¬ (q.map (notLess · t)).getD false = true := by
      cases q with
      | none => simp
      | some x =>
        have := hq x rfl t List.mem_cons_self
        show ¬ notLess x t = true
        rw [notLess_iff]
        omega
    rw [if_neg hn]
    exact ih _ (fun s hs => hc s (List.mem_cons_of_mem _ hs)) (fun s hs => hd s (List.mem_cons_of_mem _ hs)) a2 (fun x hx s hs => by cases hx; exact a1 s hs)

theorem checkL_ok {l : List ByteArray} (hc : ∀ s ∈ l, chk s = 0) (hd : ∀ s ∈ l, digs s ≤ 100) (ha : Asc l) (hl : l.length ≤ 256) : checkL l = 0 := by
  unfold checkL
  rw [if_neg (by omega)]
  exact ckL_ok l none hc hd ha (fun x hx => by cases hx)

section
variable {a b : List ByteArray} (ha : checkL a = 0) (hb : checkL b = 0)
include ha hb

theorem unite_pair : mergeR a b = (limL (mergeL a b), 0) := by
  unfold mergeR
  rw [if_neg (by simp [ha]), if_neg (by simp [hb])]

theorem unite_comm : mergeR a b = mergeR b a := by
  rw [unite_pair ha hb, unite_pair hb ha]
  have e : mergeL a b = mergeL b a := by
    have ca := checkL_all ha
    have cb := checkL_all hb
    exact asc_ext _ _ (mergeL_asc b a ca cb (checkL_asc ha).1) (mergeL_asc a b cb ca (checkL_asc hb).1) (mergeL_all (P := fun s => chk s = 0) ca cb) (mergeL_all (P := fun s => chk s = 0) cb ca) (fun x => by rw [mergeL_mem, mergeL_mem, Or.comm])
  rw [e]

theorem unite_check : checkL (mergeR a b).1 = 0 := by
  rw [unite_pair ha hb]
  have ca := checkL_all ha
  have cb := checkL_all hb
  have hs := limL_sub _ (mergeL a b) (Nat.le_refl _)
  have hm := mergeL_all (P := fun s => chk s = 0 ∧ digs s ≤ 100) (fun s h => ⟨ca s h, (checkL_asc ha).2.1 s h⟩) (fun s h => ⟨cb s h, (checkL_asc hb).2.1 s h⟩)
  exact checkL_ok (fun s h => (hm s (hs.subset h)).1) (fun s h => (hm s (hs.subset h)).2) ((mergeL_asc b a ca cb (checkL_asc ha).1).sublist hs) (limL_len _ _ (Nat.le_refl _))

theorem unite_mem (hl : a.length + b.length ≤ 256) : ∀ w ∈ a ++ b, w ∈ (mergeR a b).1 := by
  intro w hw
  rw [unite_pair ha hb]
  have h1 := mergeL_len b a
  show w ∈ limL (mergeL a b)
  rw [limL_stop (by omega), mergeL_mem]
  exact List.mem_append.mp hw
end

theorem unite_self {a : List ByteArray} (ha : checkL a = 0) : mergeR a a = (a, 0) := by
  rw [unite_pair ha ha]
  have ca := checkL_all ha
  have e : mergeL a a = a := asc_ext _ _ (mergeL_asc a a ca ca (checkL_asc ha).1) (checkL_asc ha).1 (mergeL_all (P := fun s => chk s = 0) ca ca) ca (fun x => by rw [mergeL_mem, or_self])
  rw [e, limL_stop (by have := (checkL_asc ha).2.2; omega)]

theorem sgn_val (x y : ByteArray) : sgn (decInt x.data.toList - decInt y.data.toList) = sgn (val x - val y) := rfl

theorem find_first (v : ByteArray) : ∀ (l : List ByteArray), Asc l → (∀ w ∈ l, val v ≤ val w → ∃ t, l.find? (notLess · v) = some t ∧ t ∈ l ∧ val t ≤ val w) := by
  intro l
  induction l with
  | nil => intro _ w hw; cases hw
  | cons s l ih =>
    intro h w hw hv
    obtain ⟨h1, h2⟩ := List.pairwise_cons.mp h
    rw [List.find?_cons]
    cases hs : notLess s v with
    | true =>
      refine ⟨s, rfl, List.mem_cons_self, ?_⟩
      rcases List.mem_cons.mp hw with rfl | hw
      · exact Int.le_refl _
      · have := h1 w hw; omega
    | false =>
      rcases List.mem_cons.mp hw with rfl | hw
      · have : notLess w v = true := (notLess_iff w v).mpr hv
        rw [hs] at this
        cases this
      · obtain ⟨t, e1, e2, e3⟩ := ih h2 w hw hv
        exact ⟨t, e1, List.mem_cons_of_mem _ e2, e3⟩

theorem notMore_iff (q s : ByteArray) : notMore q s = true ↔ val q ≤ val s := by
  unfold notMore
  rw [decide_eq_true_iff, sgn_le]
  unfold val
  omega

theorem find_last (v : ByteArray) : ∀ (l : List ByteArray), l.Pairwise (fun x y => val y < val x) → (∀ w ∈ l, val w ≤ val v → ∃ t, l.find? (notMore · v) = some t ∧ t ∈ l ∧ val w ≤ val t) := by
  intro l
  induction l with
  | nil => intro _ w hw; cases hw
  | cons s l ih =>
    intro h w hw hv
    obtain ⟨h1, h2⟩ := List.pairwise_cons.mp h
    rw [List.find?_cons]
    cases hs : notMore s v with
    | true =>
      refine ⟨s, rfl, List.mem_cons_self, ?_⟩
      rcases List.mem_cons.mp hw with rfl | hw
      · exact Int.le_refl _
      · have := h1 w hw; omega
    | false =>
      rcases List.mem_cons.mp hw with rfl | hw
      · have : notMore w v = true := (notMore_iff w v).mpr hv
        rw [hs] at this
        cases this
      · obtain ⟨t, e1, e2, e3⟩ := ih h2 w hw hv
        exact ⟨t, e1, List.mem_cons_of_mem _ e2, e3⟩

section
variable {a : List ByteArray} {v : ByteArray} (ha : checkL a = 0) (hv : chk v = 0)
include ha hv

theorem beside_zero : besideL a v = 0 := by
  unfold besideL
  rw [if_neg (by simp [ha])]
  exact hv

theorem above_fact {w : ByteArray} (hw : w ∈ a) (h : 0 ≤ sgn (decInt w.data.toList - decInt v.data.toList)) : (aboveL a v).2 = 0 ∧ chk (aboveL a v).1 = 0 ∧ sgn (decInt (aboveL a v).1.data.toList - decInt w.data.toList) ≤ 0 := by
  rw [sgn_val, sgn_ge] at h
  obtain ⟨t, e1, e2, e3⟩ := find_first v a (checkL_asc ha).1 w hw (by omega)
  have e : aboveL a v = (t, 0) := by
    unfold aboveL
    rw [if_neg (by simp [beside_zero ha hv]), e1]
  rw [e, sgn_val, sgn_le]
  exact ⟨rfl, checkL_all ha t e2, by show val t - val w ≤ 0; omega⟩

theorem below_fact {w : ByteArray} (hw : w ∈ a) (h : sgn (decInt w.data.toList - decInt v.data.toList) ≤ 0) : (belowL a v).2 = 0 ∧ chk (belowL a v).1 = 0 ∧ 0 ≤ sgn (decInt (belowL a v).1.data.toList - decInt w.data.toList) := by
  rw [sgn_val, sgn_le] at h
  obtain ⟨t, e1, e2, e3⟩ := find_last v a.reverse (List.pairwise_reverse.mpr (checkL_asc ha).1) w (List.mem_reverse.mpr hw) (by omega)
  have e : belowL a v = (t, 0) := by
    unfold belowL
    rw [if_neg (by simp [beside_zero ha hv]), e1]
  rw [e, sgn_val, sgn_ge]
  exact ⟨rfl, checkL_all ha t (List.mem_reverse.mp e2), by show 0 ≤ val t - val w; omega⟩

theorem above_any : ((aboveL a v).2 == 0) = anyGe a v := by
  unfold aboveL anyGe
  rw [if_neg (by simp [beside_zero ha hv])]
  cases hf : a.find? (notLess · v) with
  | none =>
    have h2 : a.any (notLess · v) = false := by
      rw [List.any_eq_false]
      intro x hx
      exact (List.find?_eq_none.mp hf) x hx
    rw [h2]; rfl
  | some t =>
    have h2 : a.any (notLess · v) = true := List.any_eq_true.mpr ⟨t, List.mem_of_find?_eq_some hf, by simpa using List.find?_some hf⟩
    rw [h2]; rfl
end

end Go.Proofs.YtlbmihpmcgiinaaGreatDoor.Own
end
