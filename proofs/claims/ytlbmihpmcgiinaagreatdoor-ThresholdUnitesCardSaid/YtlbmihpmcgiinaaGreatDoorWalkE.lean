/- Chapter 39: walks: slices.Collect of the groups of nine digits. -/
import Derived.Test.YtlbmihpmcgiinaaGreatDoorWalkD

section
namespace Go.Proofs.YtlbmihpmcgiinaaGreatDoor.Own
open Go Go.Proofs Go.RowKit Go.Shelf
attribute [local go_sem] Oper.semAt_some

theorem w136 (s : ByteArray) (w : World) :
    Calls Tryz.prog 136 #[.string s] w fun e w' => e = .returned (.func (.func 188) #[] #[.pointer (some ⟨w.heap.size, 0, none⟩)]) ∧ w' = w.alloc (.cells #[.string s] 9) := by
  go_enter Tryz.func136, Tryz.ntmps136
  go_wp2
  go_ret
  exact ⟨rfl, rfl⟩

theorem chunks_stops (n : Nat) (hn : 1 ≤ n) (Bd n₀ : Nat) (s : ByteArray) (hs : s.size < 4611686018427387904) (hd : Digits s.data.toList) (w : World) (hB : Bd < n₀) (hn₀ : n₀ ≤ w.heap.size)
    (hc : w.cell? ⟨Bd, 0, none⟩ = some (.string s)) :
    SeqStopsK Fence.wide n Tryz.prog 188 #[.pointer (some ⟨Bd, 0, none⟩)] (fun x : Int => #[Value.int .i64 x]) (Below n₀) (Chunks s) (fun _ => True) s.size w := fun l J Jx W hW hJ _ hY h0 =>
  chunks1 n hn l Bd n₀ s hs hd J Jx hY W hJ (Nat.le_trans hn₀ hW.size) hB ((hW.cell (p := ⟨Bd, 0, none⟩) (by show Bd < _; omega)).trans hc) h0

theorem info3 : (Tryz.prog.info? 3).map (fun i => (i.zero, i.size, i.bytes)) = some (some (.int .i64 0), 1, 8) := by kernel_rfl

set_option maxRecDepth 100000 in
set_option maxHeartbeats 2000000 in
theorem w187 (Bd : Nat) (s : ByteArray) (hs : s.size < 1000000000) (hd : Digits s.data.toList) (w : World) (hB : Bd < w.heap.size) (hc : w.cell? ⟨Bd, 0, none⟩ = some (.string s)) :
    Calls Tryz.prog 187 #[.slice none 0 0, .func (.func 188) #[] #[.pointer (some ⟨Bd, 0, none⟩)]] w fun e W' => ∃ v xs, e = .returned v ∧ Chunks s xs ∧ W'.ownsRow w.heap.size 3 1 v xs.length (xs.map (Value.int .i64)) ∧ (v = .slice none 0 0 ↔ xs = []) ∧ xs.length ≤ s.size ∧ Below w.heap.size w W' := by
  obtain ⟨i0, hi, hz0, hz1, hz2⟩ := info_parts info3
  refine (callsIn_wide (n := 4)).1 ?_
  refine callsIn_of_wp_marks Tryz.func187 rfl trivial ?_ rfl
  simp only [Tryz.ntmps187, List.size_toArray, List.length_cons, List.length_nil, Nat.reduceAdd, Nat.reduceSub, Array.replicate_succ, Array.replicate_zero, List.push_toArray, List.append_toArray, List.nil_append, List.cons_append]
  gi_wp2
  have bO := Boxed.new w 50 (.slice none 0 0)
  have hB0 : Below w.heap.size w (w.alloc (.cells #[.slice none 0 0] 50)) := (Below.refl _ w).alloc (Nat.le_refl _) _
  refine wpIn_rangeFunc_ownG rfl (by omega) (gf := 188) (lb := #[.pointer (some ⟨Bd, 0, none⟩)]) rfl trivial (enters_of Tryz.func188 (by kernel_rfl) rfl)
    (chunks_stops 3 (by omega) Bd w.heap.size s (by omega) hd _ hB (by simp) ((hB0.cell (p := ⟨Bd, 0, none⟩) hB).trans hc)) belowK_t (belowK_b (by simp)) (Below.refl _ _) (fun _ => rfl)
    (fun pre W => ((∃ v, Boxed W w.heap.size 50 v ∧ W.ownsRow w.heap.size 3 1 v pre.length (pre.map (Value.int .i64)) ∧ (v = .slice none 0 0 ↔ pre = [])) ∧ Below w.heap.size w W) ∧ pre.length ≤ s.size)
    (fun _ _ _ => False)
    (OwnFrom.and (OwnFrom.and (Own.from (holdsRow_own w.heap.size w.heap.size 50 3 1 (fun pre => pre.length) (fun pre => pre.map (Value.int .i64)) (fun pre v => v = .slice none 0 0 ↔ pre = [])) _) (ownFrom_below (Nat.le_refl _) (by simp))) (fun _ _ _ _ h _ _ => h))
    (fun _ _ _ _ _ hs _ _ => hs)
    ⟨⟨⟨_, bO, World.ownsRow_nil _ _ _ _, by simp⟩, hB0⟩, Nat.zero_le _⟩
    (fun x => { tmps := #[.slice none 0 0, .func (.func 188) #[] #[.pointer (some ⟨Bd, 0, none⟩)], .pointer (some ⟨w.heap.size, 0, none⟩), undef, .slice none 0 0, .int .i64 x, .func (.func 188) #[] #[.pointer (some ⟨Bd, 0, none⟩)], .int .i64 x, undef, undef, undef, undef, undef], defers := [] }) ?assign ?body ?done ?stop
  case assign =>
    intro l x W K hK
    gi_wp2
    exact hK
  case body =>
    rintro l pre x W ⟨⟨⟨v, hv, hrow, hnil⟩, hBW⟩, hple⟩ hlt
    have hc := hv.cell
    gi_wp2_with (gi_at_builtin; refine wpListIn_append_own _ rfl _ _ 50 rfl w.heap.size 3 i0 (.int .i64 0) 1 8 Tryz.underlying50 hi hz0 hz1 hz2 rfl (by decide) _ _ _ rfl (hrow.alloc _) ⟨W.heap.size, 0, none⟩ 1 1 [.int .i64 x] rfl rfl (cell_one_new _ _ _) (by simp [Value.oneCell']) (by unfold maxLen; omega) (by omega) (by have := hBW.size; simp; omega) ?_; intro v' w1 hown' hgrow _; obtain ⟨g', cap', rfl⟩ := ownsRow_succ hown'; obtain ⟨hv1, hv2, hr2, hk2, hb2⟩ := hv.appended (by decide) hrow hBW.size (Nat.le_refl _) hown' hgrow; have hc1 := hv1.cell; have hf1 := hv1.frozen)
    exact ⟨hk2.from _, hb2, ⟨⟨_, hv2, by simpa using hr2, by simp⟩, hBW.trans hb2⟩, by rw [List.length_append, List.length_singleton]; omega⟩
  case done =>
    rintro D ys W hD hS ⟨⟨⟨v, hv, hrow, hnil⟩, hBW⟩, hple⟩ hK
    have hc := hv.cell
    gi_wp2
    refine ⟨by simp, .inl ⟨_, _, rfl, run_takeDeferred hK, ?_⟩⟩
    exact ⟨_, results_tmp rfl _ _ _, v, ys, rfl, hS, ownsRow_putObj hrow _ hK rfl, hnil, hple, hBW.trans (belowK_b (w := w) (Nat.le_refl _) W D _ _ (by simp at hD; omega) hK rfl rfl)⟩
  case stop =>
    rintro D c pre W _ _ h _
    exact h.elim

theorem w135 (Bd : Nat) (s : ByteArray) (hs : s.size < 1000000000) (hd : Digits s.data.toList) (w : World) (hB : Bd < w.heap.size) (hc : w.cell? ⟨Bd, 0, none⟩ = some (.string s)) :
    Calls Tryz.prog 135 #[.func (.func 188) #[] #[.pointer (some ⟨Bd, 0, none⟩)]] w fun e W' => ∃ v xs, e = .returned v ∧ Chunks s xs ∧ W'.ownsRow w.heap.size 3 1 v xs.length (xs.map (Value.int .i64)) ∧ (v = .slice none 0 0 ↔ xs = []) ∧ xs.length ≤ s.size ∧ Below w.heap.size w W' := by
  have H := w187 Bd s hs hd w hB hc
  clear hd
  go_enter Tryz.func135, Tryz.ntmps135
  go_wp2_with (go_at_call 187; refine H.mono ?_; rintro e w' ⟨v, xs, rfl, h1, h2, h3, h4, h5⟩)
  go_ret
  exact ⟨v, xs, rfl, h1, h2, h3, h4, h5⟩

end Go.Proofs.YtlbmihpmcgiinaaGreatDoor.Own
end

/- Chapter 39: walks: bigint.read. -/
section
namespace Go.Proofs.YtlbmihpmcgiinaaGreatDoor.Own
open Go Go.Proofs Go.RowKit

/-- A number of the program: its sign and its limbs. -/
def NumAt (w : World) (v : Value) (neg : Bool) (l : List Int) : Prop :=
  ∃ p cap, v = .agg #[.bool neg, .slice p l.length cap] ∧ RowAt w p l ∧ l.length ≤ cap ∧ InB B9 l ∧ Trimmed l

theorem NumAt.below {w w' : World} {v : Value} {neg : Bool} {l : List Int} (h : NumAt w v neg l) (k : Below w.heap.size w w') : NumAt w' v neg l := by
  obtain ⟨p, cap, h1, h2, h3⟩ := h
  exact ⟨p, cap, h1, h2.below k, h3⟩

theorem row_of_owns {w : World} {base : Nat} {v : Value} {xs : List Int} (h : w.ownsRow base 3 1 v xs.length (xs.map (Value.int .i64))) : ∃ p cap, v = .slice p xs.length cap ∧ RowAt w p xs ∧ xs.length ≤ cap := by
  rcases h.2 with ⟨rfl, h0⟩ | ⟨g, cap, cur, rfl, hb, hg, h1, h2, h3, h4⟩
  · have : xs = [] := List.length_eq_zero_iff.mp h0
    subst this
    exact ⟨none, 0, rfl, fun k => absurd rfl k, Nat.le_refl _⟩
  · refine ⟨_, cap, rfl, fun _ => ⟨g, 0, rfl, (Array.getElem?_eq_some_iff.1 hg).1, fun k hk => ?_⟩, h1⟩
    rw [cell_of (c := cur) (e := 3) (fz := (0, 0)) hg, ← Array.getElem?_toList]
    have e := congrArg (fun l => l[k]?) h4
    simp only [Nat.mul_one] at e
    rw [List.getElem?_take_of_lt hk] at e
    rw [Nat.zero_add, e]
    simp [hk]

theorem heap_set {w : World} {b : Nat} {cs : Array Value} {t : TypeId} {fz : Nat × Nat} (h : w.heap[b]? = some (.cells cs t fz)) (i : Nat) (v : Value) : (w.setCell ⟨b, i, none⟩ v).heap[b]? = some (.cells (cs.setIfInBounds i v) t fz) := by
  obtain ⟨hlt, hk⟩ := Array.getElem?_eq_some_iff.1 h
  show (w.heap.modify b _)[b]? = _
  rw [Array.getElem?_eq_getElem (by rw [Array.size_modify]; exact hlt), Array.getElem_modify_self, hk]
  rfl

theorem cell?_setCell_ne_block (w : World) (p q : Addr) (v : Value) (h : q.block ≠ p.block) : (w.setCell p v).cell? q = w.cell? q := by
  unfold World.cell?
  have : (w.setCell p v).heap[q.block]? = w.heap[q.block]? := by
    show (w.heap.modify p.block _)[q.block]? = _
    rw [Array.getElem?_modify, if_neg (Ne.symm h)]
  rw [this]

theorem set2 {w : World} {b : Nat} {a0 a1 : Value} {t : TypeId} (h : w.heap[b]? = some (.cells #[a0, a1] t)) (v0 v1 : Value) : ((w.setCell ⟨b, 0, none⟩ v0).setCell ⟨b, 1, none⟩ v1).heap[b]? = some (.cells #[v0, v1] t) :=
  heap_set (heap_set h 0 v0) 1 v1

theorem two_cells {w : World} {b : Nat} {a0 a1 : Value} {t : TypeId} (h : w.heap[b]? = some (.cells #[a0, a1] t)) :
    w.cell? ⟨b, 0, none⟩ = some a0 ∧ w.cell? ⟨b, 1, none⟩ = some a1 ∧ w.frozen? ⟨b, 0, none⟩ = false ∧ w.frozen? ⟨b, 1, none⟩ = false := by
  simp [World.cell?, World.frozen?, h]

theorem size117 : (Tryz.prog.info? 117).map (·.size) = some 2 := by kernel_rfl

theorem w97 (s : ByteArray) (hs : s.size < 1000000000) (hc : canon s.data.toList = true) (w : World) :
    Calls Tryz.prog 97 #[.string s] w fun e w' => ∃ v l, e = .returned v ∧ NumAt w' v (Lib.hasPrefix s.data.toList [45]) l ∧ lval B9 l = (decNat (magn s.data.toList) 0 : Nat) ∧ l.length ≤ s.size ∧ Below w.heap.size w w' := by
  have hdig := (canon_val hc).1
  have hm := magn_len s (by omega)
  clear hc
  go_enter Tryz.func97, Tryz.ntmps97
  go_wp2_with (first | (go_at_call 93; refine (Tryz.strings_CutPrefix _ _ _).mono ?_; rintro e w' ⟨rfl, rfl⟩) | (go_at_call 136; refine (w136 _ _).mono ?_; rintro e w' ⟨rfl, rfl⟩))
  obtain ⟨W2, hW2⟩ : ∃ W2, (w.alloc (.cells #[.bool false, .slice none 0 0] 117)).alloc (.cells #[.string ⟨(Lib.trimPrefix s.data.toList [45]).toArray⟩] 9) = W2 := ⟨_, rfl⟩
  have hB2 : Below w.heap.size w W2 := by rw [← hW2]; exact ((Below.refl _ w).alloc (Nat.le_refl _) _).alloc (by simp) _
  have hs2 : W2.heap.size = w.heap.size + 2 := by rw [← hW2]; simp
  have hc2 : W2.cell? ⟨w.heap.size + 1, 0, none⟩ = some (.string ⟨(Lib.trimPrefix s.data.toList [45]).toArray⟩) := by rw [← hW2]; have := (Boxed.new (w.alloc (.cells #[.bool false, .slice none 0 0] 117)) 9 (.string ⟨(Lib.trimPrefix s.data.toList [45]).toArray⟩)).cell; rw [World.size_alloc] at this; exact this
  have hr2 : W2.heap[w.heap.size]? = some (.cells #[.bool false, .slice none 0 0] 117) := by rw [← hW2]; exact (Below.heap_alloc _ _ _ (by simp)).trans (World.alloc_heap_new w _)
  rw [hW2]
  have hsz : (⟨(Lib.trimPrefix s.data.toList [45]).toArray⟩ : ByteArray).size ≤ s.size := by
    have h1 : (⟨(Lib.trimPrefix s.data.toList [45]).toArray⟩ : ByteArray).size = (Lib.trimPrefix s.data.toList [45]).length := by simp [ByteArray.size]
    have h2 : s.data.toList.length = s.size := by rw [Array.length_toList]; rfl
    have h3 : (Lib.trimPrefix s.data.toList [45]).length ≤ s.data.toList.length := by unfold Lib.trimPrefix; split <;> simp
    omega
  refine (w135 (w.heap.size + 1) _ (by omega) hdig W2 (by omega) hc2).mono ?_
  rintro e W3 ⟨v, xs, rfl, ⟨hin, hval⟩, hrow, _, hlen, hB3⟩
  have hr3 : W3.heap[w.heap.size]? = some (.cells #[.bool false, .slice none 0 0] 117) := (hB3.block _ (by omega)).trans hr2
  obtain ⟨p, cap, rfl, hrowat, hcap⟩ := row_of_owns hrow
  have hB03 : Below w.heap.size w W3 := hB2.trans (hB3.mono hB2.size)
  have HV := Lib.hid hval
  have HI := Lib.hid hin
  clear hval hin hW2 hdig
  have H134 := w134 p cap xs W3 hrowat hcap (by omega)
  have HR3 := Lib.hid hr3
  obtain ⟨hc0, hc1, hf0, hf1⟩ := two_cells hr3
  clear hr3
  go_wp2_with (go_at_call 134; refine H134.mono ?_; rintro e w' ⟨⟨k, hk, htr, hz, rfl⟩, rfl⟩)
  (try simp only [Exit.inBlock, Exit.then])
  have hrow4 := set2 HR3.out (.bool (Lib.hasPrefix s.data.toList [45])) (.slice p k cap)
  refine bodyPost_ret (results_cell_row rfl _ _ w.heap.size 117 _ (0, 0) _ rfl hrow4 Tryz.underlying117 rfl size117) rfl ?_
  have hB4 := (hB03.setCell (p := ⟨w.heap.size, 0, none⟩) (Nat.le_refl _) (.bool (Lib.hasPrefix s.data.toList [45]))).setCell (p := ⟨w.heap.size, 1, none⟩) (Nat.le_refl _) (.slice p k cap)
  have hkl : (xs.take k).length = k := by rw [List.length_take, Nat.min_eq_left hk]
  refine ⟨_, xs.take k, rfl, ⟨p, cap, by rw [hkl], ?_, by rw [hkl]; omega, fun x hx => HI.out x (List.mem_of_mem_take hx), htr⟩, ?_, by rw [hkl]; omega, hB4⟩
  · intro hne
    obtain ⟨b, off, rfl, hb, hcell⟩ := hrowat.take k hne
    have hbb : b ≠ w.heap.size := by
      have h2 : xs ≠ [] := by rintro rfl; simp at hne
      rcases hrow.2 with ⟨h0, _⟩ | ⟨g, c', cur, hv, hg1, _⟩
      · cases h0
      · cases hv
        omega
    refine ⟨b, off, rfl, by simpa using hb, fun j hj => ?_⟩
    rw [cell?_setCell_ne_block _ _ _ _ hbb, cell?_setCell_ne_block _ _ _ _ hbb]
    exact hcell j hj
  · rw [lval_take B9 xs k hz]
    exact HV.out

end Go.Proofs.YtlbmihpmcgiinaaGreatDoor.Own
end

/- Chapter 39: walks: slices.Backward's iterator over a row of ints. -/
section
namespace Go.Proofs.YtlbmihpmcgiinaaGreatDoor.Own
open Go Go.Proofs Go.RowKit Go.Shelf
attribute [local go_sem] Oper.semAt_some

/-- A row in blocks below n₀. -/
def RowLow (n₀ : Nat) (w : World) (p : Option Addr) (l : List Int) : Prop :=
  l ≠ [] → ∃ b off, p = some ⟨b, off, none⟩ ∧ b < n₀ ∧ ∀ k (hk : k < l.length), w.cell? ⟨b, off + k, none⟩ = some (.int .i64 l[k])

theorem RowLow.below {n₀ : Nat} {w w' : World} {p : Option Addr} {l : List Int} (h : RowLow n₀ w p l) (k : Below n₀ w w') : RowLow n₀ w' p l := by
  intro hne
  obtain ⟨b, off, h1, h2, h3⟩ := h hne
  exact ⟨b, off, h1, h2, fun j hj => (k.cell (p := ⟨b, off + j, none⟩) h2).trans (h3 j hj)⟩

def back (n : Nat) : List (Fin n) := (List.finRange n).reverse

theorem back_len (n : Nat) : (back n).length = n := by simp [back]

theorem back_take {n k : Nat} (h0 : 0 < k) (hk : k ≤ n) : (back n).take (n - k) ++ [⟨k - 1, by omega⟩] = (back n).take (n - (k - 1)) := by
  have hl := back_len n
  have e : n - (k - 1) = (n - k) + 1 := by omega
  rw [e, List.take_succ_eq_append_getElem (by omega)]
  congr 1
  unfold back
  simp only [List.getElem_reverse, List.getElem_finRange, List.length_finRange]
  congr 1
  ext
  simp
  omega

theorem back1 (n : Nat) (hn : 1 ≤ n) (l Bx n₀ : Nat) (p : Option Addr) (cap : Nat) (xs : List Int) (hxs : xs.length < 4611686018427387904) (J Jx : List (Fin xs.length) → World → Prop)
    (hY : ∀ pre x W, J pre W → pre.length < xs.length → YieldAt Fence.wide (n - 1) Tryz.prog l #[.int .i64 (x.1 : Nat), .int .i64 xs[x.1]] W fun e W' =>
      (e = .returned (.bool true) ∧ J (pre ++ [x]) W' ∧ Below n₀ W W') ∨ (e = .returned (.bool false) ∧ Jx (pre ++ [x]) W'))
    (W : World) (hBlt : Bx < n₀) (hBx : W.cell? ⟨Bx, 0, none⟩ = some (.slice p xs.length cap)) (hrow : RowLow n₀ W p xs) (h0 : J [] W) :
    CallsIn Fence.wide n Tryz.prog 234 #[.func (.yield l) #[] #[], .pointer (some ⟨Bx, 0, none⟩)] W fun e W' => (∃ v, e = .returned v) ∧
      ((∃ ys, ys = back xs.length ∧ J ys W') ∨ (∃ pre, pre <+: back xs.length ∧ Jx pre W')) := by
  refine callsIn_of_wp Tryz.func234 rfl trivial ?_ rfl
  simp only [Tryz.ntmps234, List.size_toArray, List.length_cons, List.length_nil, Nat.reduceAdd, Nat.reduceSub, Array.replicate_succ, Array.replicate_zero, List.push_toArray, List.append_toArray, List.nil_append, List.cons_append]
  gi_wp2
  gi_loopw [3] (fun v wr => ∃ (k : Nat), k ≤ xs.length ∧ v = .int .i64 ((k : Int) - 1) ∧ J ((back xs.length).take (xs.length - k)) wr ∧ wr.cell? ⟨Bx, 0, none⟩ = some (.slice p xs.length cap) ∧ Hid (RowLow n₀ wr p xs))
    (fun v _ => (intOf v + 1).toNat)
  case atStart =>
    exact ⟨xs.length, Nat.le_refl _, rfl, by rw [Nat.sub_self]; exact h0, hBx, Lib.hid hrow⟩
  case round =>
    obtain ⟨k, hk, rfl, hJs, hcell, HR⟩ := hrel
    by_cases hk0 : 0 < k
    · obtain ⟨j, rfl⟩ : ∃ j, k = j + 1 := ⟨k - 1, by omega⟩
      have ej : (((j + 1 : Nat) : Int) - 1) = (j : Int) := by omega
      obtain ⟨b, off, rfl, hb, hcells⟩ := HR.out (by rintro rfl; simp at hk)
      have hcj := hcells j (by omega)
      have hl := back_len xs.length
      obtain ⟨fn, tmps, assign, body, hy, hR⟩ := hY ((back xs.length).take (xs.length - (j + 1))) ⟨j, by omega⟩ wr hJs (by rw [List.length_take]; omega)
      have hbt : (back xs.length).take (xs.length - (j + 1)) ++ [⟨j, by omega⟩] = (back xs.length).take (xs.length - j) := back_take (k := j + 1) (by omega) hk
      rw [ej]
      dsimp only at hy
      gi_wp2
      refine hR.mono ?_
      rintro e W3 (⟨rfl, hJ3, hk3⟩ | ⟨rfl, hJx3⟩)
      · have hcell3 : W3.cell? ⟨Bx, 0, none⟩ = some (.slice (some ⟨b, off, none⟩) xs.length cap) := (hk3.cell (p := ⟨Bx, 0, none⟩) hBlt).trans hcell
        gi_wp2
        go_roundw
        case rel =>
          exact ⟨j, by omega, rfl, by rw [← hbt]; exact hJ3, hcell3, Lib.hid (HR.out.below hk3)⟩
        case measure =>
          show (((j : Int) - 1) + 1).toNat < ((j : Int) + 1).toNat
          omega
      · gi_wp2
        refine bodyPost_ret (results_none rfl _ _ _) rfl ?_
        have hpre : (back xs.length).take (xs.length - (j + 1)) ++ [⟨j, by omega⟩] <+: back xs.length := by rw [hbt]; exact List.take_prefix _ _
        exact ⟨⟨_, rfl⟩, .inr ⟨_, hpre, hJx3⟩⟩
    · obtain rfl : k = 0 := by omega
      gi_wp2
      go_end0
      exact ⟨⟨_, rfl⟩, .inl ⟨_, rfl, by rw [Nat.sub_zero, List.take_of_length_le (by rw [back_len]; exact Nat.le_refl _)] at hJs; exact hJs⟩⟩

theorem w183 (p : Option Addr) (m cap : Nat) (w : World) :
    Calls Tryz.prog 183 #[.slice p m cap] w fun e w' => e = .returned (.func (.func 234) #[] #[.pointer (some ⟨w.heap.size, 0, none⟩)]) ∧ w' = w.alloc (.cells #[.slice p m cap] 50) := by
  go_enter Tryz.func183, Tryz.ntmps183
  go_wp2
  go_ret
  exact ⟨rfl, rfl⟩

theorem back_stops (n : Nat) (hn : 1 ≤ n) (Bx n₀ : Nat) (p : Option Addr) (cap : Nat) (xs : List Int) (hxs : xs.length < 4611686018427387904) (w : World) (hB : Bx < n₀) (hn₀ : n₀ ≤ w.heap.size)
    (hc : w.cell? ⟨Bx, 0, none⟩ = some (.slice p xs.length cap)) (hrow : RowLow n₀ w p xs) :
    SeqStopsK Fence.wide n Tryz.prog 234 #[.pointer (some ⟨Bx, 0, none⟩)] (fun x : Fin xs.length => #[.int .i64 (x.1 : Nat), .int .i64 xs[x.1]]) (Below n₀) (fun ys => ys = back xs.length) (fun pre => pre <+: back xs.length) xs.length w := fun l J Jx W hW _ _ hY h0 =>
  back1 n hn l Bx n₀ p cap xs hxs J Jx hY W hB ((hW.cell (p := ⟨Bx, 0, none⟩) (by show Bx < _; omega)).trans hc) (hrow.below (hW.mono hn₀)) h0

end Go.Proofs.YtlbmihpmcgiinaaGreatDoor.Own
end
