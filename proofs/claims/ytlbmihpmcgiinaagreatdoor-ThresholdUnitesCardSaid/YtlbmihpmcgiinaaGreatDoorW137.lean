/- Chapter 39: walks: bigint.plus. -/
import Derived.Test.YtlbmihpmcgiinaaGreatDoorW140
import Derived.Deep.OwnRows
namespace Go.Proofs.YtlbmihpmcgiinaaGreatDoor.Own
open Go Go.Proofs Go.RowKit

/-- What an operation on magnitudes hands back: the limbs of a value. -/
def LimbsOut (w' : World) (e : Ending) (T : Int) (N : Nat) : Prop :=
  ∃ p cap l, e = .returned (.slice p (List.length l) cap) ∧ RowAt w' p l ∧ l.length ≤ cap ∧ InB B9 l ∧ Trimmed l ∧ lval B9 l = T ∧ l.length ≤ N

theorem w134' (p : Option Addr) (cap n : Nat) (l : List Int) (hn : l.length = n) (w : World) (h : RowAt w p l) (hc : n ≤ cap) (hl : n < 4611686018427387904) :
    Calls Tryz.prog 134 #[.slice p n cap] w fun e w' => (∃ l' : List Int, e = .returned (.slice p l'.length cap) ∧ RowAt w p l' ∧ l'.length ≤ n ∧ Trimmed l' ∧ lval B9 l' = lval B9 l ∧ (∀ x ∈ l', x ∈ l)) ∧ w' = w := by
  subst hn
  refine (w134 p cap l w h hc hl).mono ?_
  rintro e w' ⟨⟨k, hk, ht, hz, rfl⟩, rfl⟩
  have hkl : (l.take k).length = k := by rw [List.length_take]; omega
  exact ⟨⟨l.take k, by rw [hkl], h.take k, by rw [hkl]; exact hk, ht, lval_take B9 l k hz, fun x hx => List.mem_of_mem_take hx⟩, rfl⟩

/-- A row that is being filled. -/
def rowOf (o : List Int) (n : Nat) : Array Value := ((o ++ List.replicate (n - o.length) 0).map (Value.int .i64)).toArray

theorem rowOf_size (o : List Int) (n : Nat) (h : o.length ≤ n) : (rowOf o n).size = n := by
  simp [rowOf]; omega

theorem rowOf_set (o : List Int) (n : Nat) (v : Int) (h : o.length < n) : (rowOf o n).setIfInBounds o.length (.int .i64 v) = rowOf (o ++ [v]) n := by
  unfold rowOf
  obtain ⟨m, hm⟩ : ∃ m, n - o.length = m + 1 := ⟨n - o.length - 1, by omega⟩
  have hm2 : n - (o ++ [v]).length = m := by simp; omega
  rw [hm, hm2, List.replicate_succ]
  apply Array.ext'
  simp

theorem rowOf_get (o : List Int) (n k : Nat) (h : k < o.length) : (rowOf o n)[k]? = some (.int .i64 o[k]) := by
  unfold rowOf
  simp [h, List.getElem?_append]

theorem made_row (n : Nat) : madeCells #[.int .i64 0] n = rowOf [] n := by
  unfold rowOf madeCells
  apply Array.ext
  · simp
  · intro i h1 h2
    simp [Nat.mod_one]

theorem lval_take_succ (B : Int) (l : List Int) (k : Nat) : lval B (l.take (k + 1)) = lval B (l.take k) + B ^ k * l.getD k 0 := by
  by_cases h : k < l.length
  · rw [List.take_succ_eq_append_getElem h, lval_snoc, List.length_take, Nat.min_eq_left (by omega), getD_get l k h]
  · rw [List.take_of_length_le (by omega), List.take_of_length_le (by omega)]
    simp [List.getD, List.getElem?_eq_none (show l.length ≤ k by omega)]

theorem getD_in {B : Int} (hB : 0 < B) {l : List Int} (h : InB B l) (k : Nat) : 0 ≤ l.getD k 0 ∧ l.getD k 0 < B := by
  by_cases hk : k < l.length
  · rw [getD_get l k hk]; exact h _ (List.getElem_mem hk)
  · simp [List.getD, List.getElem?_eq_none (show l.length ≤ k by omega), hB]

/-- The step of an addition. -/
theorem plus_step {a b o : List Int} {c : Int} (ha : InB B9 a) (hb : InB B9 b) (hc : 0 ≤ c ∧ c ≤ 1)
    (h : lval B9 o + B9 ^ o.length * c = lval B9 (a.take o.length) + lval B9 (b.take o.length)) :
    let s := c + a.getD o.length 0 + b.getD o.length 0
    0 ≤ s ∧ s < 2000000000 ∧ (0 ≤ s % B9 ∧ s % B9 < B9) ∧ (0 ≤ s / B9 ∧ s / B9 ≤ 1) ∧
    lval B9 (o ++ [s % B9]) + B9 ^ (o ++ [s % B9]).length * (s / B9) = lval B9 (a.take (o ++ [s % B9]).length) + lval B9 (b.take (o ++ [s % B9]).length) := by
  intro s
  have h1 := getD_in (B := B9) (by decide) ha o.length
  have h2 := getD_in (B := B9) (by decide) hb o.length
  have hs0 : 0 ≤ s := by simp only [s]; omega
  have hs1 : s < 2000000000 := by simp only [s, B9] at *; omega
  have hm : s % B9 + B9 * (s / B9) = s := Int.emod_add_mul_ediv s B9
  refine ⟨hs0, hs1, ⟨Int.emod_nonneg _ (by decide), Int.emod_lt_of_pos _ (by decide)⟩, ⟨Int.ediv_nonneg hs0 (by decide), ?_⟩, ?_⟩
  · simp only [B9]; omega
  · rw [lval_snoc, List.length_append, List.length_singleton, lval_take_succ, lval_take_succ, Int.pow_succ, Int.add_assoc, Int.mul_assoc, ← Int.mul_add, hm]
    simp only [s, Int.mul_add]
    omega

theorem plus_end {a b o : List Int} {c : Int} (ha : InB B9 a) (hb : InB B9 b) (ho : InB B9 o) (hc : 0 ≤ c ∧ c ≤ 1) (hl : o.length = a.length + 1) (hba : b.length ≤ a.length)
    (h : lval B9 o + B9 ^ o.length * c = lval B9 (a.take o.length) + lval B9 (b.take o.length)) : lval B9 o = lval B9 a + lval B9 b := by
  rw [List.take_of_length_le (by omega), List.take_of_length_le (by omega)] at h
  have h1 := lval_lt (B := B9) (by decide) ha
  have h2 := lval_lt (B := B9) (by decide) hb
  have h3 : B9 ^ b.length ≤ B9 ^ a.length := pow_mono (by decide) hba
  have h4 := lval_nonneg (B := B9) (by decide) ho
  have h5 : 0 < B9 ^ a.length := pow_pos' (by decide) _
  rw [hl, Int.pow_succ] at h
  by_cases hc0 : c = 0
  · subst hc0; simpa using h
  · obtain rfl : c = 1 := by omega
    simp only [B9] at *
    omega

/-- The way on from a round of an addition. -/
theorem plus_fin {w wr : World} {a b o : List Int} {s : Int} (hk : o.length < a.length + 1) (HO : Hid (InB B9 o)) (HQ : Hid (0 ≤ s / B9 ∧ s / B9 ≤ 1)) (HM : Hid (0 ≤ s % B9 ∧ s % B9 < B9))
    (HVV : Hid (lval B9 (o ++ [s % B9]) + B9 ^ (o ++ [s % B9]).length * (s / B9) = lval B9 (a.take (o ++ [s % B9]).length) + lval B9 (b.take (o ++ [s % B9]).length)))
    (HROW : Hid (wr.heap[w.heap.size]? = some (.cells (rowOf o (a.length + 1)) 3))) (HBW : Hid (Below w.heap.size w wr)) :
    (∃ (o_1 : List Int) (cc_1 : Int), o_1.length ≤ a.length + 1 ∧ Value.int .i64 ((o.length : Int) + 1) = .int .i64 (o_1.length : Int) ∧ Value.int .i64 (s / 1000000000) = .int .i64 cc_1 ∧ (0 ≤ cc_1 ∧ cc_1 ≤ 1) ∧ Hid (InB B9 o_1) ∧
      Hid (lval B9 o_1 + B9 ^ o_1.length * cc_1 = lval B9 (a.take o_1.length) + lval B9 (b.take o_1.length)) ∧
      Hid ((wr.setCell ⟨w.heap.size, o.length, none⟩ (.int .i64 (s % 1000000000))).heap[w.heap.size]? = some (.cells (rowOf o_1 (a.length + 1)) 3)) ∧
      Hid (Below w.heap.size w (wr.setCell ⟨w.heap.size, o.length, none⟩ (.int .i64 (s % 1000000000))))) ∧
    a.length + 1 - (intOf (.int .i64 ((o.length : Int) + 1))).toNat < a.length + 1 - (intOf (.int .i64 (o.length : Int))).toNat := by
  refine ⟨⟨o ++ [s % B9], s / B9, by simp; omega, by simp, rfl, HQ.out, Lib.hid (HO.out.append (InB.one HM.out.1 HM.out.2)), HVV, Lib.hid ?_, Lib.hid (HBW.out.setCell (p := ⟨w.heap.size, o.length, none⟩) (Nat.le_refl _) _)⟩, ?_⟩
  · rw [heap_set HROW.out, rowOf_set o _ _ hk]
  · show a.length + 1 - ((o.length : Int) + 1).toNat < a.length + 1 - (o.length : Int).toNat
    omega

theorem row_at_of {wr : World} {g n : Nat} {o : List Int} (h : wr.heap[g]? = some (.cells (rowOf o n) 3)) : RowAt wr (some ⟨g, 0, none⟩) o :=
  fun _ => ⟨g, 0, rfl, (Array.getElem?_eq_some_iff.1 h).1, fun k hk => by rw [cell_of (c := rowOf o n) (e := 3) (fz := (0, 0)) h, Nat.zero_add]; exact rowOf_get o n k hk⟩

set_option maxRecDepth 100000 in
set_option maxHeartbeats 1000000 in
theorem w137 (px py : Option Addr) (cx cy : Nat) (x y : List Int) (w : World) (hx : RowAt w px x) (hy : RowAt w py y) (ix : InB B9 x) (iy : InB B9 y)
    (lx : x.length < 1000000000) (ly : y.length < 1000000000) :
    Calls Tryz.prog 137 #[.slice px x.length cx, .slice py y.length cy] w fun e w' => LimbsOut w' e (lval B9 x + lval B9 y) (max x.length y.length + 1) ∧ Below w.heap.size w w' := by
  obtain ⟨T, hT⟩ : ∃ T, T = lval B9 x + lval B9 y := ⟨_, rfl⟩
  obtain ⟨N, hN⟩ : ∃ N, N = max x.length y.length + 1 := ⟨_, rfl⟩
  rw [← hT, ← hN]
  have hmk : ∀ (n : Nat), n < 1000000000 → (Instr.makeSlice 50 (.int .i64 ((n : Int) + 1)) (.int .i64 ((n : Int) + 1))).run Tryz.prog w = .ok (.slice (some ⟨w.heap.size, 0, none⟩) (n + 1) (n + 1)) (w.alloc (.cells (rowOf [] (n + 1)) 3)) := fun n hn => by
    have := run_make_row' (P := Tryz.prog) 50 3 (.int .i64 0) 8 Tryz.underlying50 info3 rfl .i64 .i64 (n + 1) (by omega) (by omega) w
    rw [made_row] at this
    exact this
  go_enter Tryz.func137, Tryz.ntmps137
  rcases Nat.lt_or_ge x.length y.length with h | h
  · have hm := hmk y.length ly
    have HA := Lib.hid hy
    have HB := Lib.hid hx
    have IA := Lib.hid iy
    have IB := Lib.hid ix
    have HT : Hid (lval B9 y + lval B9 x = T) := Lib.hid (by omega)
    have HN : Hid (y.length + 1 = N) := Lib.hid (by omega)
    clear hmk hx hy ix iy hT hN
    go_wp2
    obtain ⟨a, rfl⟩ : ∃ a, a = y := ⟨_, rfl⟩
    obtain ⟨b, rfl⟩ : ∃ b, b = x := ⟨_, rfl⟩
    obtain ⟨pa, rfl⟩ : ∃ p, p = py := ⟨_, rfl⟩
    obtain ⟨pb, rfl⟩ : ∃ p, p = px := ⟨_, rfl⟩
    have HLE : Hid (b.length ≤ a.length) := Lib.hid (by omega)
    have la : a.length < 1000000000 := ly
    clear h hm lx ly
    have hB0 : Below w.heap.size w (w.alloc (.cells (rowOf [] (a.length + 1)) 3)) := (Below.refl _ w).alloc (Nat.le_refl _) _
    have hr0 : (w.alloc (.cells (rowOf [] (a.length + 1)) 3)).heap[w.heap.size]? = some (.cells (rowOf [] (a.length + 1)) 3) := World.alloc_heap_new w _
    go_loopw [6, 21] (fun c v wr => ∃ (o : List Int) (cc : Int), o.length ≤ a.length + 1 ∧ v = .int .i64 (o.length : Int) ∧ c = .int .i64 cc ∧ (0 ≤ cc ∧ cc ≤ 1) ∧ Hid (InB B9 o) ∧
        Hid (lval B9 o + B9 ^ o.length * cc = lval B9 (a.take o.length) + lval B9 (b.take o.length)) ∧ Hid (wr.heap[w.heap.size]? = some (.cells (rowOf o (a.length + 1)) 3)) ∧ Hid (Below w.heap.size w wr))
      (fun _ v _ => a.length + 1 - (intOf v).toNat)
    case atStart => exact ⟨[], 0, Nat.zero_le _, rfl, rfl, by omega, Lib.hid InB.nil, Lib.hid (by simp [lval]), Lib.hid hr0, Lib.hid hB0⟩
    case round =>
      obtain ⟨o, cc, ho, rfl, rfl, hcc, HO, HV, HR, HBW⟩ := hrel
      by_cases hk : o.length < a.length + 1
      · obtain ⟨hs0, hs1, ⟨hm0, hm1⟩, ⟨hq0, hq1⟩, hv⟩ := plus_step IA.out IB.out hcc HV.out
        have hrow := HR.out
        have hco : wr.cell? ⟨w.heap.size, o.length, none⟩ = some (.int .i64 0) := by
          rw [cell_of hrow]
          unfold rowOf
          obtain ⟨m, hm⟩ : ∃ m, a.length + 1 - o.length = m + 1 := ⟨a.length - o.length, by omega⟩
          rw [hm]
          simp [List.replicate_succ]
        have hfo : wr.frozen? ⟨w.heap.size, o.length, none⟩ = false := by simp [World.frozen?, hrow]
        have av := getD_in (B := B9) (by decide) IA.out o.length
        have bv := getD_in (B := B9) (by decide) IB.out o.length
        obtain ⟨ka, hka⟩ : ∃ k, a.getD o.length 0 = k := ⟨_, rfl⟩
        obtain ⟨kb, hkb⟩ : ∃ k, b.getD o.length 0 = k := ⟨_, rfl⟩
        have hza : ¬ o.length < a.length → ka = 0 := fun h => by rw [← hka]; simp [List.getD, List.getElem?_eq_none (show a.length ≤ o.length by omega)]
        have hzb : ¬ o.length < b.length → kb = 0 := fun h => by rw [← hkb]; simp [List.getD, List.getElem?_eq_none (show b.length ≤ o.length by omega)]
        have hCA : o.length < a.length → ∃ ba offa, pa = some ⟨ba, offa, none⟩ ∧ wr.cell? ⟨ba, offa + o.length, none⟩ = some (.int .i64 ka) := fun h => by
          obtain ⟨ba, offa, rfl, hba, hcells⟩ := ((show RowLow w.heap.size w pa a from HA.out).below HBW.out) (by rintro rfl; simp at h)
          have := hcells _ h
          rw [← getD_get a _ h, hka] at this
          exact ⟨ba, offa, rfl, this⟩
        have hCB : o.length < b.length → ∃ ba offa, pb = some ⟨ba, offa, none⟩ ∧ wr.cell? ⟨ba, offa + o.length, none⟩ = some (.int .i64 kb) := fun h => by
          obtain ⟨ba, offa, rfl, hba, hcells⟩ := ((show RowLow w.heap.size w pb b from HB.out).below HBW.out) (by rintro rfl; simp at h)
          have := hcells _ h
          rw [← getD_get b _ h, hkb] at this
          exact ⟨ba, offa, rfl, this⟩
        rw [hka, hkb] at hs0 hs1 hm0 hm1 hq0 hq1 hv
        obtain ⟨s, hs⟩ : ∃ s, cc + ka + kb = s := ⟨_, rfl⟩
        rw [hs] at hm0 hm1 hq0 hq1 hv
        have HS := Lib.hid hs
        rw [hka] at av
        rw [hkb] at bv
        have HQ := Lib.hid (And.intro hq0 hq1)
        have HM := Lib.hid (And.intro hm0 hm1)
        have HVV := Lib.hid hv
        have HROW := Lib.hid hrow
        simp only [B9] at av bv hs0 hs1
        clear hka hkb hv hrow hq0 hq1 hm0 hm1 hs
        by_cases hka : o.length < a.length <;> by_cases hkb : o.length < b.length
        · obtain ⟨ba, offa, rfl, hca⟩ := hCA hka
          obtain ⟨bb, offb, rfl, hcb⟩ := hCB hkb
          clear hza hzb hCA hCB
          go_wp2
          rw [HS.out]
          exact plus_fin hk HO HQ HM HVV HROW HBW
        · obtain ⟨ba, offa, rfl, hca⟩ := hCA hka
          have HZ := Lib.hid (hzb hkb)
          clear hza hzb hCA hCB
          go_wp2
          rw [show cc + ka = s by have := HZ.out; have := HS.out; omega]
          exact plus_fin hk HO HQ HM HVV HROW HBW
        · obtain ⟨bb, offb, rfl, hcb⟩ := hCB hkb
          have HZ := Lib.hid (hza hka)
          clear hza hzb hCA hCB
          go_wp2
          all_goals rw [show cc + kb = s by have := HZ.out; have := HS.out; omega]
          all_goals exact plus_fin hk HO HQ HM HVV HROW HBW
        · have HZ := Lib.hid (And.intro (hza hka) (hzb hkb))
          clear hza hzb hCA hCB
          go_wp2
          rw [show cc = s by have := HZ.out; have := HS.out; omega]
          exact plus_fin hk HO HQ HM HVV HROW HBW
      · have hk2 : o.length = a.length + 1 := by omega
        have hend := plus_end IA.out IB.out HO.out hcc hk2 HLE.out HV.out
        have hrow := row_at_of HR.out
        have HE := Lib.hid hend
        have H134 := w134' (some ⟨w.heap.size, 0, none⟩) (a.length + 1) (a.length + 1) o hk2 wr hrow (Nat.le_refl _) (by omega)
        clear hend hrow
        go_wp2_with (go_at_call 134; refine H134.mono ?_; rintro e w' ⟨⟨l, rfl, hrow, hll, htr, hval, hsub⟩, rfl⟩)
        go_ret
        exact ⟨⟨some ⟨w.heap.size, 0, none⟩, a.length + 1, l, rfl, hrow, hll, fun x hx => HO.out x (hsub x hx), htr, by rw [hval, HE.out, HT.out], by rw [← HN.out]; exact hll⟩, HBW.out⟩
  · have hm := hmk x.length lx
    have HA := Lib.hid hx
    have HB := Lib.hid hy
    have IA := Lib.hid ix
    have IB := Lib.hid iy
    have HT : Hid (lval B9 x + lval B9 y = T) := Lib.hid (by omega)
    have HN : Hid (x.length + 1 = N) := Lib.hid (by omega)
    clear hmk hx hy ix iy hT hN
    go_wp2
    obtain ⟨a, rfl⟩ : ∃ a, a = x := ⟨_, rfl⟩
    obtain ⟨b, rfl⟩ : ∃ b, b = y := ⟨_, rfl⟩
    obtain ⟨pa, rfl⟩ : ∃ p, p = px := ⟨_, rfl⟩
    obtain ⟨pb, rfl⟩ : ∃ p, p = py := ⟨_, rfl⟩
    have HLE : Hid (b.length ≤ a.length) := Lib.hid (by omega)
    have la : a.length < 1000000000 := lx
    clear h lx ly
    have hB0 : Below w.heap.size w (w.alloc (.cells (rowOf [] (a.length + 1)) 3)) := (Below.refl _ w).alloc (Nat.le_refl _) _
    have hr0 : (w.alloc (.cells (rowOf [] (a.length + 1)) 3)).heap[w.heap.size]? = some (.cells (rowOf [] (a.length + 1)) 3) := World.alloc_heap_new w _
    go_loopw [6, 21] (fun c v wr => ∃ (o : List Int) (cc : Int), o.length ≤ a.length + 1 ∧ v = .int .i64 (o.length : Int) ∧ c = .int .i64 cc ∧ (0 ≤ cc ∧ cc ≤ 1) ∧ Hid (InB B9 o) ∧
        Hid (lval B9 o + B9 ^ o.length * cc = lval B9 (a.take o.length) + lval B9 (b.take o.length)) ∧ Hid (wr.heap[w.heap.size]? = some (.cells (rowOf o (a.length + 1)) 3)) ∧ Hid (Below w.heap.size w wr))
      (fun _ v _ => a.length + 1 - (intOf v).toNat)
    case atStart => exact ⟨[], 0, Nat.zero_le _, rfl, rfl, by omega, Lib.hid InB.nil, Lib.hid (by simp [lval]), Lib.hid hr0, Lib.hid hB0⟩
    case round =>
      obtain ⟨o, cc, ho, rfl, rfl, hcc, HO, HV, HR, HBW⟩ := hrel
      by_cases hk : o.length < a.length + 1
      · obtain ⟨hs0, hs1, ⟨hm0, hm1⟩, ⟨hq0, hq1⟩, hv⟩ := plus_step IA.out IB.out hcc HV.out
        have hrow := HR.out
        have hco : wr.cell? ⟨w.heap.size, o.length, none⟩ = some (.int .i64 0) := by
          rw [cell_of hrow]
          unfold rowOf
          obtain ⟨m, hm⟩ : ∃ m, a.length + 1 - o.length = m + 1 := ⟨a.length - o.length, by omega⟩
          rw [hm]
          simp [List.replicate_succ]
        have hfo : wr.frozen? ⟨w.heap.size, o.length, none⟩ = false := by simp [World.frozen?, hrow]
        have av := getD_in (B := B9) (by decide) IA.out o.length
        have bv := getD_in (B := B9) (by decide) IB.out o.length
        obtain ⟨ka, hka⟩ : ∃ k, a.getD o.length 0 = k := ⟨_, rfl⟩
        obtain ⟨kb, hkb⟩ : ∃ k, b.getD o.length 0 = k := ⟨_, rfl⟩
        have hza : ¬ o.length < a.length → ka = 0 := fun h => by rw [← hka]; simp [List.getD, List.getElem?_eq_none (show a.length ≤ o.length by omega)]
        have hzb : ¬ o.length < b.length → kb = 0 := fun h => by rw [← hkb]; simp [List.getD, List.getElem?_eq_none (show b.length ≤ o.length by omega)]
        have hCA : o.length < a.length → ∃ ba offa, pa = some ⟨ba, offa, none⟩ ∧ wr.cell? ⟨ba, offa + o.length, none⟩ = some (.int .i64 ka) := fun h => by
          obtain ⟨ba, offa, rfl, hba, hcells⟩ := ((show RowLow w.heap.size w pa a from HA.out).below HBW.out) (by rintro rfl; simp at h)
          have := hcells _ h
          rw [← getD_get a _ h, hka] at this
          exact ⟨ba, offa, rfl, this⟩
        have hCB : o.length < b.length → ∃ ba offa, pb = some ⟨ba, offa, none⟩ ∧ wr.cell? ⟨ba, offa + o.length, none⟩ = some (.int .i64 kb) := fun h => by
          obtain ⟨ba, offa, rfl, hba, hcells⟩ := ((show RowLow w.heap.size w pb b from HB.out).below HBW.out) (by rintro rfl; simp at h)
          have := hcells _ h
          rw [← getD_get b _ h, hkb] at this
          exact ⟨ba, offa, rfl, this⟩
        rw [hka, hkb] at hs0 hs1 hm0 hm1 hq0 hq1 hv
        obtain ⟨s, hs⟩ : ∃ s, cc + ka + kb = s := ⟨_, rfl⟩
        rw [hs] at hm0 hm1 hq0 hq1 hv
        have HS := Lib.hid hs
        rw [hka] at av
        rw [hkb] at bv
        have HQ := Lib.hid (And.intro hq0 hq1)
        have HM := Lib.hid (And.intro hm0 hm1)
        have HVV := Lib.hid hv
        have HROW := Lib.hid hrow
        simp only [B9] at av bv hs0 hs1
        clear hka hkb hv hrow hq0 hq1 hm0 hm1 hs
        by_cases hka : o.length < a.length <;> by_cases hkb : o.length < b.length
        · obtain ⟨ba, offa, rfl, hca⟩ := hCA hka
          obtain ⟨bb, offb, rfl, hcb⟩ := hCB hkb
          clear hza hzb hCA hCB
          go_wp2
          rw [HS.out]
          exact plus_fin hk HO HQ HM HVV HROW HBW
        · obtain ⟨ba, offa, rfl, hca⟩ := hCA hka
          have HZ := Lib.hid (hzb hkb)
          clear hza hzb hCA hCB
          go_wp2
          rw [show cc + ka = s by have := HZ.out; have := HS.out; omega]
          exact plus_fin hk HO HQ HM HVV HROW HBW
        · obtain ⟨bb, offb, rfl, hcb⟩ := hCB hkb
          have HZ := Lib.hid (hza hka)
          clear hza hzb hCA hCB
          go_wp2
          all_goals rw [show cc + kb = s by have := HZ.out; have := HS.out; omega]
          all_goals exact plus_fin hk HO HQ HM HVV HROW HBW
        · have HZ := Lib.hid (And.intro (hza hka) (hzb hkb))
          clear hza hzb hCA hCB
          go_wp2
          rw [show cc = s by have := HZ.out; have := HS.out; omega]
          exact plus_fin hk HO HQ HM HVV HROW HBW
      · have hk2 : o.length = a.length + 1 := by omega
        have hend := plus_end IA.out IB.out HO.out hcc hk2 HLE.out HV.out
        have hrow := row_at_of HR.out
        have HE := Lib.hid hend
        have H134 := w134' (some ⟨w.heap.size, 0, none⟩) (a.length + 1) (a.length + 1) o hk2 wr hrow (Nat.le_refl _) (by omega)
        clear hend hrow
        go_wp2_with (go_at_call 134; refine H134.mono ?_; rintro e w' ⟨⟨l, rfl, hrow, hll, htr, hval, hsub⟩, rfl⟩)
        go_ret
        exact ⟨⟨some ⟨w.heap.size, 0, none⟩, a.length + 1, l, rfl, hrow, hll, fun x hx => HO.out x (hsub x hx), htr, by rw [hval, HE.out, HT.out], by rw [← HN.out]; exact hll⟩, HBW.out⟩

end Go.Proofs.YtlbmihpmcgiinaaGreatDoor.Own
