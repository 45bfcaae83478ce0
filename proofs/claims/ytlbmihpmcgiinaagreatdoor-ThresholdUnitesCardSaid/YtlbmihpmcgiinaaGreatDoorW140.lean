/- Chapter 39: walks: bigint.order. -/
import Derived.Test.YtlbmihpmcgiinaaGreatDoorWalkE
import Derived.RangeFuncNested
namespace Go.Proofs.YtlbmihpmcgiinaaGreatDoor.Own
open Go Go.Proofs Go.RowKit Go.Shelf
attribute [local go_sem] Oper.semAt_some

/-- A number with the sign of the difference. -/
def CmpIs (x y : List Int) (c : Int) : Prop := (c < 0 ↔ lval B9 x < lval B9 y) ∧ (c = 0 ↔ lval B9 x = lval B9 y)

theorem cmp_len {x y : List Int} (hx : InB B9 x) (hy : InB B9 y) (tx : Trimmed x) (ty : Trimmed y) (h : x.length ≠ y.length) : CmpIs x y ((x.length : Int) - y.length) := by
  rcases Nat.lt_or_gt_of_ne h with h | h
  · have := lval_len (B := B9) (by decide) hx hy ty h
    constructor <;> constructor <;> intro k <;> omega
  · have := lval_len (B := B9) (by decide) hy hx tx h
    constructor <;> constructor <;> intro k <;> omega

theorem split_at (x : List Int) (i : Nat) (h : i < x.length) : x = x.take i ++ x[i] :: x.drop (i + 1) := by
  have := List.take_append_drop i x
  rw [List.drop_eq_getElem_cons h] at this
  exact this.symm

theorem getD_get (y : List Int) (i : Nat) (h : i < y.length) : y.getD i 0 = y[i] := by simp [List.getD, h]

theorem cmp_at {x y : List Int} (hx : InB B9 x) (hy : InB B9 y) (h : x.length = y.length) (i : Nat) (hi : i < x.length)
    (ha : ∀ j (h1 : j < x.length), i < j → x[j] = y.getD j 0) (hne : x[i] ≠ y.getD i 0) : CmpIs x y (x[i] - y.getD i 0) := by
  have ht : x.drop (i + 1) = y.drop (i + 1) := by
    apply List.ext_getElem
    · rw [List.length_drop, List.length_drop, h]
    · intro j h1 h2
      rw [List.getElem_drop, List.getElem_drop]
      rw [List.length_drop] at h1 h2
      have := ha (i + 1 + j) (by omega) (by omega)
      rw [getD_get y _ (by omega)] at this
      exact this
  have ex := split_at x i hi
  have ey := split_at y i (by omega)
  rw [getD_get y i (by omega)] at hne ⊢
  have hx1 : InB B9 (x.take i) := fun v hv => hx v (List.mem_of_mem_take hv)
  have hy1 : InB B9 (y.take i) := fun v hv => hy v (List.mem_of_mem_take hv)
  have hl : (x.take i).length = (y.take i).length := by rw [List.length_take, List.length_take, h]
  rw [← ht] at ey
  rcases Int.lt_or_gt_of_ne hne with k | k
  · have := lval_place (B := B9) (t := x.drop (i + 1)) (by decide) hx1 hy1 hl k
    rw [← ex, ← ey] at this
    constructor <;> constructor <;> intro m <;> omega
  · have := lval_place (B := B9) (t := x.drop (i + 1)) (by decide) hy1 hx1 hl.symm k
    rw [← ex, ← ey] at this
    constructor <;> constructor <;> intro m <;> omega

theorem cmp_eq {x y : List Int} (h : x.length = y.length) (ha : ∀ j (h1 : j < x.length), x[j] = y.getD j 0) : CmpIs x y 0 := by
  have : x = y := List.ext_getElem h (fun j h1 h2 => by rw [ha j h1, getD_get y j h2])
  subst this
  exact ⟨⟨fun h => absurd h (Int.lt_irrefl _), fun h => absurd h (Int.lt_irrefl _)⟩, by simp⟩

theorem back_before {n : Nat} {pre : List (Fin n)} {i : Fin n} (h : pre ++ [i] <+: back n) (j : Fin n) (hj : i < j) : j ∈ pre := by
  obtain ⟨rest, hr⟩ := h
  have hm : j ∈ back n := by unfold back; simp
  rw [← hr] at hm
  have hs : (back n).Pairwise (fun a b => b < a) := by
    unfold back
    rw [List.pairwise_reverse]
    exact List.pairwise_lt_finRange n
  rw [← hr, List.append_assoc] at hs
  rcases List.mem_append.mp hm with hm | hm
  · rcases List.mem_append.mp hm with hm | hm
    · exact hm
    · rw [List.mem_singleton.mp hm] at hj
      exact absurd hj (Nat.lt_irrefl _)
  · have h2 := (List.pairwise_append.mp hs).2.1
    have h3 : j < i := by
      rw [List.singleton_append, List.pairwise_cons] at h2
      exact h2.1 j hm
    exact absurd (Nat.lt_trans hj h3) (Nat.lt_irrefl _)

theorem results_cell1 {P : Program} {fn : Func} {p : Tmp} {ty : TypeId} {a : Addr} {v : Value} (h : fn.results = #[.cell p ty]) (tmps : Array Value) (w : World) (hp : tmps.getD p undef = .pointer (some a)) (hc : w.cell? a = some v) (hu : (isAgg ty).run P w = .ok false w) :
    (results fn tmps).run P w = .ok v w := by
  have hp' : tmps[p]?.getD undef = .pointer (some a) := by simpa using hp
  simp [results, h, hp', asAddr, loadVar, hu, Sem.run_bind, Result.andThen, load, Sem.run, hc]

theorem agg3 (w : World) : (isAgg 3).run Tryz.prog w = .ok false w := Tryz.isAgg3 w

set_option maxRecDepth 100000 in
set_option maxHeartbeats 2000000 in
theorem w140 (px py : Option Addr) (cx cy : Nat) (x y : List Int) (w : World) (hx : RowAt w px x) (hy : RowAt w py y) (ix : InB B9 x) (iy : InB B9 y) (tx : Trimmed x) (ty : Trimmed y)
    (lx : x.length < 1000000000) (ly : y.length < 1000000000) :
    Calls Tryz.prog 140 #[.slice px x.length cx, .slice py y.length cy] w fun e w' => ∃ c, e = .returned (.int .i64 c) ∧ CmpIs x y c ∧ Below w.heap.size w w' := by
  refine (callsIn_wide (n := 4)).1 ?_
  have HX : Hid (RowLow w.heap.size w px x) := Lib.hid hx
  have HY : Hid (RowLow w.heap.size w py y) := Lib.hid hy
  have HL := Lib.hid (cmp_len ix iy tx ty)
  have HAT := Lib.hid (fun h => cmp_at ix iy h)
  have HIX := Lib.hid ix
  have HIY := Lib.hid iy
  clear hx hy tx ty ix iy
  refine callsIn_of_wp_marks Tryz.func140 rfl trivial ?_ rfl
  simp only [Tryz.ntmps140, List.size_toArray, List.length_cons, List.length_nil, Nat.reduceAdd, Nat.reduceSub, Array.replicate_succ, Array.replicate_zero, List.push_toArray, List.append_toArray, List.nil_append, List.cons_append]
  by_cases hlen : x.length = y.length
  · have HLEN := Lib.hid hlen
    have hne : ((x.length : Int) != (y.length : Int)) = false := by rw [bne_eq_false_iff_eq]; omega
    have HE := Lib.hid (fun ha => cmp_eq (x := x) (y := y) hlen ha)
    clear hlen
    gi_wp2_with (refine ⟨trivial, ?_⟩; gi_at_call 183; refine (callsIn_wide.2 (w183 _ _ _ _)).mono ?_; rintro e w' ⟨rfl, rfl⟩)
    obtain ⟨W3, hW3⟩ : ∃ W3, ((w.alloc (.cells #[.slice py y.length cy] 50)).alloc (.cells #[.int .i64 0] 3)).alloc (.cells #[.slice px x.length cx] 50) = W3 := ⟨_, rfl⟩
    have hs3 : W3.heap.size = w.heap.size + 3 := by rw [← hW3]; simp
    have hB3 : Below w.heap.size w W3 := by rw [← hW3]; exact (((Below.refl _ w).alloc (Nat.le_refl _) _).alloc (by simp) _).alloc (by simp; omega) _
    have bY : Boxed W3 w.heap.size 50 (.slice py y.length cy) := by rw [← hW3]; exact ((Boxed.new w 50 _).alloc _).alloc _
    have bR : Boxed W3 (w.heap.size + 1) 3 (.int .i64 0) := by rw [← hW3]; have := (Boxed.new (w.alloc (.cells #[.slice py y.length cy] 50)) 3 (.int .i64 0)).alloc (.cells #[.slice px x.length cx] 50); rw [World.size_alloc] at this; exact this
    have bX : Boxed W3 (w.heap.size + 2) 50 (.slice px x.length cx) := by rw [← hW3]; have := Boxed.new ((w.alloc (.cells #[.slice py y.length cy] 50)).alloc (.cells #[.int .i64 0] 3)) 50 (.slice px x.length cx); rw [World.size_alloc, World.size_alloc] at this; exact this
    rw [hW3]
    clear hW3
    have hX3 : RowLow W3.heap.size W3 px x := by
      intro h
      obtain ⟨b, off, h1, h2, h3⟩ := (HX.out.below hB3) h
      exact ⟨b, off, h1, by omega, h3⟩
    refine wpIn_rangeFunc_ownG rfl (by omega) (gf := 234) (lb := #[.pointer (some ⟨w.heap.size + 1 + 1, 0, none⟩)]) rfl trivial (enters_of Tryz.func234 (by kernel_rfl) rfl)
      (back_stops 3 (by omega) (w.heap.size + 2) W3.heap.size px cx x (by omega) W3 (by omega) (Nat.le_refl _) bX.cell hX3) belowK_t (belowK_b (Nat.le_refl _)) (Below.refl _ _) (fun _ => rfl)
      (fun pre W => ((Boxed W w.heap.size 50 (.slice py y.length cy) ∧ Boxed W (w.heap.size + 1) 3 (.int .i64 0)) ∧ Below w.heap.size w W) ∧ ∀ j ∈ pre, x[j.1] = y.getD j.1 0)
      (fun c pre W => (c = .ret ∧ (∃ i : Fin x.length, ∃ pre', pre = pre' ++ [i] ∧ (∀ j ∈ pre', x[j.1] = y.getD j.1 0) ∧ x[i.1] ≠ y.getD i.1 0 ∧ Boxed W (w.heap.size + 1) 3 (.int .i64 (x[i.1] - y.getD i.1 0))) ∧ Below w.heap.size w W))
      (OwnFrom.and (OwnFrom.and (Own.from (fun s A B row hs hg hr => ⟨boxed_own _ _ (fun _ => _) s A B row hs.1 hg hr, boxed_own _ _ (fun _ => _) s A B row hs.2 hg hr⟩) _) (ownFrom_below (Nat.le_refl _) (by omega))) (ownFrom_pure _ _))
      (fun c s A B row hs hg hr => ⟨hs.1, (by
        obtain ⟨i, pre', h1, h2, h3, h4⟩ := hs.2.1
        exact ⟨i, pre', h1, h2, h3, boxed_own _ _ (fun _ => _) s A B row h4 hg (fun r e => (hr r e).2)⟩), ownFrom_below (B := W3.heap.size) (Nat.le_refl _) (by omega) s A B row hs.2.2 hg hr⟩)
      ⟨⟨⟨bY, bR⟩, hB3⟩, fun j hj => by cases hj⟩
      (fun i => { tmps := #[.slice px x.length cx, .slice py y.length cy, undef, .pointer (some ⟨w.heap.size, 0, none⟩), .pointer (some ⟨w.heap.size + 1, 0, none⟩), .int .i64 (i.1 : Nat), .int .i64 x[i.1], .slice px x.length cx, .int .i64 x.length, .slice py y.length cy, .int .i64 y.length, .bool false, undef, undef, undef, undef, undef, .slice px x.length cx, .func (.func 234) #[] #[.pointer (some ⟨w.heap.size + 1 + 1, 0, none⟩)], .int .i64 (i.1 : Nat), .int .i64 x[i.1], undef, undef, undef, undef, undef, undef, undef, undef, undef, undef, undef, undef], defers := [] }) ?assign ?body ?done ?stop
    case assign =>
      intro l x W K hK
      gi_wp2
      exact hK
    case body =>
      rintro l pre i W ⟨⟨⟨bY, bR⟩, hB⟩, hpre⟩ hlt
      have hcY := bY.cell
      have hcR := bR.cell
      have hfR := bR.frozen
      obtain ⟨b, off, rfl, hb, hcells⟩ := (HY.out.below hB) (by intro e; have h1 := i.2; have h2 : x.length = 0 := (by rw [HLEN.out, e]; rfl); omega)
      have hi2 : i.1 < y.length := by rw [← HLEN.out]; exact i.2
      have hci := hcells i.1 hi2
      rw [← getD_get y i.1 hi2] at hci
      have HPRE := Lib.hid hpre
      have hxb := HIX.out _ (List.getElem_mem i.2)
      have hyb := HIY.out _ (List.getElem_mem hi2)
      rw [← getD_get y i.1 hi2] at hyb
      simp only [B9] at hxb hyb
      obtain ⟨u, hu⟩ : ∃ u, x[i.1] = u := ⟨_, rfl⟩
      obtain ⟨v, hv⟩ : ∃ v, y.getD i.1 0 = v := ⟨_, rfl⟩
      have HU := Lib.hid hu
      have HV := Lib.hid hv
      rw [hu] at hxb
      rw [hv] at hyb hci
      rw [hu]
      clear hpre hcells hu hv
      gi_wp2
      · have hk : KeepsFrom W3.heap.size W (W.setCell ⟨w.heap.size + 1, 0, none⟩ (.int .i64 (u - v))) := (KeepsOthers.setCell _ _ _).from _
        rename_i hne2
        refine ⟨hk, rfl, ⟨i, pre, rfl, HPRE.out, ?_, ?_⟩, hB.setCell (p := ⟨w.heap.size + 1, 0, none⟩) (by show _ ≤ w.heap.size + 1; omega) _⟩
        · rw [HU.out, HV.out]
          simpa using hne2
        · rw [HU.out, HV.out]
          exact bR.set _
      · rename_i hne2
        refine ⟨KeepsFrom.refl _ _, Below.refl _ _, ⟨⟨bY, bR⟩, hB⟩, fun j hj => ?_⟩
        rcases List.mem_append.mp hj with hj | hj
        · exact HPRE.out j hj
        · rw [List.mem_singleton.mp hj, HU.out, HV.out]
          simpa using hne2
    case done =>
      rintro D ys W hD hS ⟨⟨⟨bY, bR⟩, hB⟩, hpre⟩ hK
      have hcR := bR.cell
      have hfR := bR.frozen
      gi_wp2
      have hK1 := (KeepsOthers.setCell W ⟨w.heap.size + 1, 0, none⟩ (.int .i64 0)).same D _ hK rfl
      have bR1 := (bR.set (.int .i64 0)).kept (grownBy_putObj' _ D (.deferred none)) (by simp; omega)
      have hB1 := hB.setCell (p := ⟨w.heap.size + 1, 0, none⟩) (by show _ ≤ w.heap.size + 1; omega) (.int .i64 0)
      refine ⟨by simp, .inl ⟨_, _, rfl, run_takeDeferred hK1, ?_⟩⟩
      refine ⟨_, results_cell1 rfl _ _ rfl bR1.cell (agg3 _), _, rfl, HE.out (fun j hj => hpre ⟨j, hj⟩ (by rw [hS]; unfold back; simp)), hB1.trans (belowK_b (w := w) (Nat.le_refl _) _ D _ _ (by omega) hK1 rfl rfl)⟩
    case stop =>
      rintro D c pre W hD hS ⟨rfl, ⟨i, pre', rfl, h2, h3, bR⟩, hB⟩ hK
      gi_wp2
      have bR1 := bR.kept (grownBy_putObj' _ D (.deferred none)) (by simp; omega)
      refine ⟨by simp, .inl ⟨_, _, rfl, run_takeDeferred hK, ?_⟩⟩
      exact ⟨_, results_cell1 rfl _ _ rfl bR1.cell (agg3 _), _, rfl, HAT.out HLEN.out i.1 i.2 (fun j h1 h2' => h2 ⟨j, h1⟩ (back_before hS ⟨j, h1⟩ h2')) h3, hB.trans (belowK_b (w := w) (Nat.le_refl _) _ D _ _ (by omega) hK rfl rfl)⟩
  · gi_wp2
    (try simp only [Exit.inBlock, Exit.then])
    have bR : Boxed ((w.alloc (.cells #[.slice py y.length cy] 50)).alloc (.cells #[.int .i64 ((x.length : Int) - y.length)] 3)) (w.heap.size + 1) 3 (.int .i64 ((x.length : Int) - y.length)) := by
      have := Boxed.new (w.alloc (.cells #[.slice py y.length cy] 50)) 3 (.int .i64 ((x.length : Int) - y.length)); rw [World.size_alloc] at this; exact this
    exact ⟨_, results_cell1 rfl _ _ rfl bR.cell (agg3 _), _, rfl, HL.out hlen, ((Below.refl _ w).alloc (Nat.le_refl _) _).alloc (by simp) _⟩

end Go.Proofs.YtlbmihpmcgiinaaGreatDoor.Own
