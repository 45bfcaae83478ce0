/- Chapter 39: walks: bigint.sum and what it is made of. -/
import Derived.Test.YtlbmihpmcgiinaaGreatDoorWalkF
import Derived.Laws.EntriesVeiled
namespace Go.Proofs.YtlbmihpmcgiinaaGreatDoor.Own
open Go Go.Proofs Go.RowKit

theorem size142 : (Tryz.prog.info? 142).map (·.size) = some 4 := by kernel_rfl
theorem size141 : (Tryz.prog.info? 141).map (·.size) = some 2 := by kernel_rfl

theorem w98 (w : World) :
    Calls Tryz.prog 98 #[] w fun e w' => e = .returned (.agg #[.func (.func 137) #[] #[], .func (.func 138) #[] #[], .func (.func 139) #[] #[], .func (.func 142) #[] #[]]) ∧ Below w.heap.size w w' := by
  go_enter Tryz.func98, Tryz.ntmps98
  go_wp2
  (try simp only [Exit.inBlock, Exit.then])
  exact bodyPost_ret (results_cell_row rfl _ _ w.heap.size 142 _ (0, 0) _ rfl (World.alloc_heap_new w _) Tryz.underlying142 rfl size142) rfl ⟨rfl, (Below.refl _ w).alloc (Nat.le_refl _) _⟩

theorem w82 (n : Bool) (p : Option Addr) (m cap : Nat) (w : World) :
    Calls Tryz.prog 82 #[.agg #[.bool n, .slice p m cap]] w fun e w' => e = .returned (.agg #[.bool !n, .slice p m cap]) ∧ Below w.heap.size w w' := by
  go_enter Tryz.func82, Tryz.ntmps82
  go_wp2
  (try simp only [Exit.inBlock, Exit.then])
  have hrow := World.alloc_heap_new (w.alloc (.cells #[.bool n, .slice p m cap] 117)) (.cells #[.bool !n, .slice p m cap] 117)
  rw [World.size_alloc] at hrow
  exact bodyPost_ret (results_cell_row rfl _ _ (w.heap.size + 1) 117 _ (0, 0) _ rfl hrow Tryz.underlying117 rfl size117) rfl ⟨rfl, ((Below.refl _ w).alloc (Nat.le_refl _) _).alloc (by simp) _⟩

theorem w80 (n : Bool) (p : Option Addr) (m cap : Nat) (w : World) :
    Calls Tryz.prog 80 #[.agg #[.bool n, .slice p m cap]] w fun e w' => e = .returned (.int .i64 (if m = 0 then 0 else if n then -1 else 1)) ∧ Below w.heap.size w w' := by
  go_enter Tryz.func80, Tryz.ntmps80
  cases n <;> rcases Nat.eq_zero_or_pos m with rfl | hm
  all_goals go_wp2
  all_goals go_ret
  all_goals refine ⟨?_, (Below.refl _ w).alloc (Nat.le_refl _) _⟩
  all_goals (try rfl)

/-- What the sum of two numbers is. -/
def sumNeg (n m : Bool) (x y : List Int) : Bool := if n = m then n else (decide (lval B9 x < lval B9 y) != n)
def sumMag (n m : Bool) (x y : List Int) : Int := if n = m then lval B9 x + lval B9 y else gap x y

theorem RowAt.set2 {w : World} {p : Option Addr} {l : List Int} {g : Nat} {b0 : Bool} {q : Option Addr} {m c : Nat} {t : TypeId} {u v : Value} (h : RowAt w p l) (hg : w.heap[g]? = some (.cells #[.bool b0, .slice q m c] t)) :
    RowAt ((w.setCell ⟨g, 0, none⟩ u).setCell ⟨g, 1, none⟩ v) p l := by
  intro hne
  obtain ⟨b, off, h1, h2, h3⟩ := h hne
  have hb : b ≠ g := by
    rintro rfl
    have := h3 0 (List.length_pos_iff.mpr hne)
    rw [cell_of hg] at this
    rcases off with _ | _ | off <;> simp at this
  refine ⟨b, off, h1, by simpa using h2, fun k hk => ?_⟩
  rw [cell?_setCell_ne_block _ _ _ _ hb, cell?_setCell_ne_block _ _ _ _ hb]
  exact h3 k hk

theorem idx0 (W : World) : (Instr.index 142 (.agg #[.func (.func 137) #[] #[], .func (.func 138) #[] #[], .func (.func 139) #[] #[], .func (.func 142) #[] #[]]) (.int .i64 0)).run Tryz.prog W = .ok (.agg #[.func (.func 137) #[] #[], .func (.func 138) #[] #[]]) W := by kernel_rfl
theorem idx1 (W : World) : (Instr.index 142 (.agg #[.func (.func 137) #[] #[], .func (.func 138) #[] #[], .func (.func 139) #[] #[], .func (.func 142) #[] #[]]) (.int .i64 1)).run Tryz.prog W = .ok (.agg #[.func (.func 139) #[] #[], .func (.func 142) #[] #[]]) W := by kernel_rfl

set_option maxRecDepth 100000 in
set_option maxHeartbeats 4000000 in
theorem w81 (n m : Bool) (px py : Option Addr) (cx cy : Nat) (x y : List Int) (w : World) (hx : RowAt w px x) (hy : RowAt w py y) (ix : InB B9 x) (iy : InB B9 y) (tx : Trimmed x) (ty : Trimmed y)
    (lx : x.length < 1000000000) (ly : y.length < 1000000000) :
    Calls Tryz.prog 81 #[.agg #[.bool n, .slice px x.length cx], .agg #[.bool m, .slice py y.length cy]] w fun e w' => (∃ v l, e = .returned v ∧ NumAt w' v (sumNeg n m x y) l ∧ lval B9 l = sumMag n m x y) ∧ Below w.heap.size w w' := by
  have K137 := Lib.hid (fun w' (hB : Below w.heap.size w w') => w137 px py cx cy x y w' (hx.below hB) (hy.below hB) ix iy lx ly)
  have K139 := Lib.hid (fun w' (hB : Below w.heap.size w w') => w139 px py cx cy x y w' (hx.below hB) (hy.below hB) ix iy tx ty lx ly)
  have K142 := Lib.hid (fun n m w' (hB : Below w.heap.size w w') => w142 n m px py cx cy x y w' (hx.below hB) (hy.below hB) ix iy tx ty lx ly)
  clear hx hy ix iy tx ty
  go_enter Tryz.func81, Tryz.ntmps81
  by_cases hnm : n = m
  · subst hnm
    have hidx := idx0
    go_wp2_with (go_at_call 98; refine (w98 _).mono ?_; rintro e w' ⟨rfl, hB⟩)
    obtain ⟨W3, hW3⟩ : ∃ W3, ((w.alloc (.cells #[.bool n, .slice px x.length cx] 117)).alloc (.cells #[.bool n, .slice py y.length cy] 117)).alloc (.cells #[.bool false, .slice none 0 0] 117) = W3 := ⟨_, rfl⟩
    rw [hW3] at hB
    have hs3 : W3.heap.size = w.heap.size + 3 := by rw [← hW3]; simp
    have hB3 : Below w.heap.size w W3 := by rw [← hW3]; exact (((Below.refl _ w).alloc (Nat.le_refl _) _).alloc (by simp) _).alloc (by simp; omega) _
    have r2 : W3.heap[w.heap.size]? = some (.cells #[.bool n, .slice px x.length cx] 117) := by rw [← hW3]; exact ((Below.heap_alloc _ _ _ (by simp; omega)).trans (Below.heap_alloc _ _ _ (by simp))).trans (World.alloc_heap_new w _)
    have r3 : W3.heap[w.heap.size + 1]? = some (.cells #[.bool n, .slice py y.length cy] 117) := by
      rw [← hW3]
      refine (Below.heap_alloc _ _ _ (by simp)).trans ?_
      have := World.alloc_heap_new (w.alloc (.cells #[.bool n, .slice px x.length cx] 117)) (.cells #[.bool n, .slice py y.length cy] 117)
      rwa [World.size_alloc] at this
    have r4 : W3.heap[w.heap.size + 2]? = some (.cells #[.bool false, .slice none 0 0] 117) := by
      rw [← hW3]
      have := World.alloc_heap_new ((w.alloc (.cells #[.bool n, .slice px x.length cx] 117)).alloc (.cells #[.bool n, .slice py y.length cy] 117)) (.cells #[.bool false, .slice none 0 0] 117)
      rwa [World.size_alloc, World.size_alloc] at this
    clear hW3
    have hs' := hB.size
    obtain ⟨W6, hW6⟩ : ∃ W6, w'.alloc (.cells #[.func (.func 137) #[] #[], .func (.func 138) #[] #[]] 141) = W6 := ⟨_, rfl⟩
    have hs6 : W6.heap.size = w'.heap.size + 1 := by rw [← hW6]; simp
    have hB6 : Below W3.heap.size W3 W6 := by rw [← hW6]; exact hB.alloc hs' _
    have r6 : W6.heap[w'.heap.size]? = some (.cells #[.func (.func 137) #[] #[], .func (.func 138) #[] #[]] 141) := by rw [← hW6]; exact World.alloc_heap_new w' _
    rw [hW6]
    clear hW6
    obtain ⟨b6, hb6⟩ : ∃ b, w'.heap.size = b := ⟨_, rfl⟩
    rw [hb6] at r6 hs6 hs' ⊢
    have hBw : Below w.heap.size w W6 := hB3.trans (hB6.mono hB3.size)
    replace r2 := (hB6.block _ (by omega)).trans r2
    replace r3 := (hB6.block _ (by omega)).trans r3
    replace r4 := (hB6.block _ (by omega)).trans r4
    clear hB6 hB3 hB hb6
    obtain ⟨c20, c21, _, _⟩ := two_cells r2
    obtain ⟨c30, c31, _, _⟩ := two_cells r3
    obtain ⟨c60, c61, _, _⟩ := two_cells r6
    have step : ∀ {A B : World}, (A.cell? ⟨w.heap.size, 0, none⟩ = some (.bool n) ∧ A.cell? ⟨w.heap.size, 1, none⟩ = some (.slice px x.length cx) ∧ A.cell? ⟨w.heap.size + 1, 0, none⟩ = some (.bool n) ∧ A.cell? ⟨w.heap.size + 1, 1, none⟩ = some (.slice py y.length cy) ∧
        A.cell? ⟨b6, 0, none⟩ = some (.func (.func 137) #[] #[]) ∧ A.cell? ⟨b6, 1, none⟩ = some (.func (.func 138) #[] #[]) ∧ Below w.heap.size w A ∧ W6.heap.size ≤ A.heap.size) → Below A.heap.size A B →
        (B.cell? ⟨w.heap.size, 0, none⟩ = some (.bool n) ∧ B.cell? ⟨w.heap.size, 1, none⟩ = some (.slice px x.length cx) ∧ B.cell? ⟨w.heap.size + 1, 0, none⟩ = some (.bool n) ∧ B.cell? ⟨w.heap.size + 1, 1, none⟩ = some (.slice py y.length cy) ∧
        B.cell? ⟨b6, 0, none⟩ = some (.func (.func 137) #[] #[]) ∧ B.cell? ⟨b6, 1, none⟩ = some (.func (.func 138) #[] #[]) ∧ Below w.heap.size w B ∧ W6.heap.size ≤ B.heap.size) := fun {A B} h k => by
      obtain ⟨h1, h2, h3, h4, h5, h6, h7, h8⟩ := h
      have q : ∀ (b o : Nat), b < W6.heap.size → B.cell? ⟨b, o, none⟩ = A.cell? ⟨b, o, none⟩ := fun b o hb => k.cell (p := ⟨b, o, none⟩) (by show b < A.heap.size; omega)
      exact ⟨(q _ _ (by omega)).trans h1, (q _ _ (by omega)).trans h2, (q _ _ (by omega)).trans h3, (q _ _ (by omega)).trans h4, (q _ _ (by omega)).trans h5, (q _ _ (by omega)).trans h6, h7.trans (k.mono h7.size), Nat.le_trans h8 k.size⟩
    have stepset : ∀ {A : World} (u v : Value), (A.cell? ⟨w.heap.size, 0, none⟩ = some (.bool n) ∧ A.cell? ⟨w.heap.size, 1, none⟩ = some (.slice px x.length cx) ∧ A.cell? ⟨w.heap.size + 1, 0, none⟩ = some (.bool n) ∧ A.cell? ⟨w.heap.size + 1, 1, none⟩ = some (.slice py y.length cy) ∧
        A.cell? ⟨b6, 0, none⟩ = some (.func (.func 137) #[] #[]) ∧ A.cell? ⟨b6, 1, none⟩ = some (.func (.func 138) #[] #[]) ∧ Below w.heap.size w A ∧ W6.heap.size ≤ A.heap.size) →
        (((A.setCell ⟨w.heap.size + 1 + 1, 0, none⟩ u).setCell ⟨w.heap.size + 1 + 1, 1, none⟩ v).cell? ⟨w.heap.size, 0, none⟩ = some (.bool n) ∧ ((A.setCell ⟨w.heap.size + 1 + 1, 0, none⟩ u).setCell ⟨w.heap.size + 1 + 1, 1, none⟩ v).cell? ⟨w.heap.size, 1, none⟩ = some (.slice px x.length cx) ∧ ((A.setCell ⟨w.heap.size + 1 + 1, 0, none⟩ u).setCell ⟨w.heap.size + 1 + 1, 1, none⟩ v).cell? ⟨w.heap.size + 1, 0, none⟩ = some (.bool n) ∧ ((A.setCell ⟨w.heap.size + 1 + 1, 0, none⟩ u).setCell ⟨w.heap.size + 1 + 1, 1, none⟩ v).cell? ⟨w.heap.size + 1, 1, none⟩ = some (.slice py y.length cy) ∧
        ((A.setCell ⟨w.heap.size + 1 + 1, 0, none⟩ u).setCell ⟨w.heap.size + 1 + 1, 1, none⟩ v).cell? ⟨b6, 0, none⟩ = some (.func (.func 137) #[] #[]) ∧ ((A.setCell ⟨w.heap.size + 1 + 1, 0, none⟩ u).setCell ⟨w.heap.size + 1 + 1, 1, none⟩ v).cell? ⟨b6, 1, none⟩ = some (.func (.func 138) #[] #[]) ∧ Below w.heap.size w ((A.setCell ⟨w.heap.size + 1 + 1, 0, none⟩ u).setCell ⟨w.heap.size + 1 + 1, 1, none⟩ v) ∧ W6.heap.size ≤ ((A.setCell ⟨w.heap.size + 1 + 1, 0, none⟩ u).setCell ⟨w.heap.size + 1 + 1, 1, none⟩ v).heap.size) := fun {A} u v h => by
      obtain ⟨h1, h2, h3, h4, h5, h6, h7, h8⟩ := h
      have q : ∀ (b o : Nat), b ≠ w.heap.size + 1 + 1 → ((A.setCell ⟨w.heap.size + 1 + 1, 0, none⟩ u).setCell ⟨w.heap.size + 1 + 1, 1, none⟩ v).cell? ⟨b, o, none⟩ = A.cell? ⟨b, o, none⟩ := fun b o hb => by
        rw [cell?_setCell_ne_block _ _ _ _ hb, cell?_setCell_ne_block _ _ _ _ hb]
      exact ⟨(q _ _ (by omega)).trans h1, (q _ _ (by omega)).trans h2, (q _ _ (by omega)).trans h3, (q _ _ (by omega)).trans h4, (q _ _ (by omega)).trans h5, (q _ _ (by omega)).trans h6,
        (h7.setCell (p := ⟨w.heap.size + 1 + 1, 0, none⟩) (by show _ ≤ w.heap.size + 1 + 1; omega) u).setCell (p := ⟨w.heap.size + 1 + 1, 1, none⟩) (by show _ ≤ w.heap.size + 1 + 1; omega) v, by simpa using h8⟩
    have hS0 : W6.drew.cell? ⟨w.heap.size, 0, none⟩ = some (.bool n) ∧ W6.drew.cell? ⟨w.heap.size, 1, none⟩ = some (.slice px x.length cx) ∧ W6.drew.cell? ⟨w.heap.size + 1, 0, none⟩ = some (.bool n) ∧ W6.drew.cell? ⟨w.heap.size + 1, 1, none⟩ = some (.slice py y.length cy) ∧
        W6.drew.cell? ⟨b6, 0, none⟩ = some (.func (.func 137) #[] #[]) ∧ W6.drew.cell? ⟨b6, 1, none⟩ = some (.func (.func 138) #[] #[]) ∧ Below w.heap.size w W6.drew ∧ W6.heap.size ≤ W6.drew.heap.size := ⟨c20, c21, c30, c31, c60, c61, hBw.drew, Nat.le_refl _⟩
    have r4d : W6.drew.heap[w.heap.size + 2]? = some (.cells #[.bool false, .slice none 0 0] 117) := r4
    clear c20 c21 c30 c31 c60 c61 r2 r3 r6 r4 hBw
    have H2 : w.heap.size + 2 < W6.heap.size := by omega
    go_region_held3 (fun A => A.cell? ⟨w.heap.size, 0, none⟩ = some (.bool n) ∧ A.cell? ⟨w.heap.size, 1, none⟩ = some (.slice px x.length cx) ∧ A.cell? ⟨w.heap.size + 1, 0, none⟩ = some (.bool n) ∧ A.cell? ⟨w.heap.size + 1, 1, none⟩ = some (.slice py y.length cy) ∧
        A.cell? ⟨b6, 0, none⟩ = some (.func (.func 137) #[] #[]) ∧ A.cell? ⟨b6, 1, none⟩ = some (.func (.func 138) #[] #[]) ∧ Below w.heap.size w A ∧ W6.heap.size ≤ A.heap.size)
      (first | exact hS0 | exact step (by assumption) (by assumption) | exact stepset _ _ (by assumption))
      (first | (go_at_call 138; refine (w138 _ _ _ _ _).mono ?_; rintro e w2 ⟨rfl, hBn⟩; have r4n := (hBn.block (w.heap.size + 2) (Nat.lt_of_lt_of_le H2 (by assumption : _ ∧ _ ∧ _ ∧ _ ∧ _ ∧ _ ∧ _ ∧ _).2.2.2.2.2.2.2)).trans (by assumption); obtain ⟨_, _, _, _⟩ := two_cells r4n) | (go_at_call 137; refine (K137.out _ ?_).mono ?_; exact (by assumption : _ ∧ _ ∧ _ ∧ _ ∧ _ ∧ _ ∧ Below w.heap.size w _ ∧ _).2.2.2.2.2.2.1; rintro e w2 ⟨⟨p, cap, l, rfl, h1, h2, h3, h4, h5, h6⟩, hBa⟩; have r4a := (hBa.block (w.heap.size + 2) (Nat.lt_of_lt_of_le H2 (by assumption : _ ∧ _ ∧ _ ∧ _ ∧ _ ∧ _ ∧ _ ∧ _).2.2.2.2.2.2.2)).trans (by assumption); obtain ⟨_, _, _, _⟩ := two_cells r4a))
    all_goals
      have hBF := (by assumption : _ ∧ _ ∧ _ ∧ _ ∧ _ ∧ _ ∧ Below w.heap.size w ((_ : World).setCell _ _) ∧ _).2.2.2.2.2.2.1
      go_wp2
      (try simp only [Exit.inBlock, Exit.then])
      first
        | exact bodyPost_ret (results_cell_row rfl _ _ (w.heap.size + 2) 117 _ (0, 0) _ rfl (set2 r4a _ _) Tryz.underlying117 rfl size117) rfl ⟨⟨_, l, rfl, ⟨p, cap, by rw [sumNeg, if_pos rfl], h1.set2 r4a, h2, h3, h4⟩, by rw [h5, sumMag, if_pos rfl]⟩, hBF⟩
        | exact bodyPost_ret (results_cell_row rfl _ _ (w.heap.size + 2) 117 _ (0, 0) _ rfl (set2 r4n _ _) Tryz.underlying117 rfl size117) rfl ⟨⟨_, l, rfl, ⟨p, cap, by rw [sumNeg, if_pos rfl], (h1.below hBn).set2 r4n, h2, h3, h4⟩, by rw [h5, sumMag, if_pos rfl]⟩, hBF⟩
  · have hne : (!(n == m)) = true := by simpa using hnm
    have HNM : Hid (¬ n = m) := Lib.hid hnm
    clear hnm
    have hidx := idx1
    go_wp2_with (go_at_call 98; refine (w98 _).mono ?_; rintro e w' ⟨rfl, hB⟩)
    obtain ⟨W3, hW3⟩ : ∃ W3, ((w.alloc (.cells #[.bool n, .slice px x.length cx] 117)).alloc (.cells #[.bool m, .slice py y.length cy] 117)).alloc (.cells #[.bool false, .slice none 0 0] 117) = W3 := ⟨_, rfl⟩
    rw [hW3] at hB
    have hs3 : W3.heap.size = w.heap.size + 3 := by rw [← hW3]; simp
    have hB3 : Below w.heap.size w W3 := by rw [← hW3]; exact (((Below.refl _ w).alloc (Nat.le_refl _) _).alloc (by simp) _).alloc (by simp; omega) _
    have r2 : W3.heap[w.heap.size]? = some (.cells #[.bool n, .slice px x.length cx] 117) := by rw [← hW3]; exact ((Below.heap_alloc _ _ _ (by simp; omega)).trans (Below.heap_alloc _ _ _ (by simp))).trans (World.alloc_heap_new w _)
    have r3 : W3.heap[w.heap.size + 1]? = some (.cells #[.bool m, .slice py y.length cy] 117) := by
      rw [← hW3]
      refine (Below.heap_alloc _ _ _ (by simp)).trans ?_
      have := World.alloc_heap_new (w.alloc (.cells #[.bool n, .slice px x.length cx] 117)) (.cells #[.bool m, .slice py y.length cy] 117)
      rwa [World.size_alloc] at this
    have r4 : W3.heap[w.heap.size + 2]? = some (.cells #[.bool false, .slice none 0 0] 117) := by
      rw [← hW3]
      have := World.alloc_heap_new ((w.alloc (.cells #[.bool n, .slice px x.length cx] 117)).alloc (.cells #[.bool m, .slice py y.length cy] 117)) (.cells #[.bool false, .slice none 0 0] 117)
      rwa [World.size_alloc, World.size_alloc] at this
    clear hW3
    have hs' := hB.size
    obtain ⟨W6, hW6⟩ : ∃ W6, w'.alloc (.cells #[.func (.func 139) #[] #[], .func (.func 142) #[] #[]] 141) = W6 := ⟨_, rfl⟩
    have hs6 : W6.heap.size = w'.heap.size + 1 := by rw [← hW6]; simp
    have hB6 : Below W3.heap.size W3 W6 := by rw [← hW6]; exact hB.alloc hs' _
    have r6 : W6.heap[w'.heap.size]? = some (.cells #[.func (.func 139) #[] #[], .func (.func 142) #[] #[]] 141) := by rw [← hW6]; exact World.alloc_heap_new w' _
    rw [hW6]
    clear hW6
    obtain ⟨b6, hb6⟩ : ∃ b, w'.heap.size = b := ⟨_, rfl⟩
    rw [hb6] at r6 hs6 hs' ⊢
    have hBw : Below w.heap.size w W6 := hB3.trans (hB6.mono hB3.size)
    replace r2 := (hB6.block _ (by omega)).trans r2
    replace r3 := (hB6.block _ (by omega)).trans r3
    replace r4 := (hB6.block _ (by omega)).trans r4
    clear hB6 hB3 hB hb6
    obtain ⟨c20, c21, _, _⟩ := two_cells r2
    obtain ⟨c30, c31, _, _⟩ := two_cells r3
    obtain ⟨c60, c61, _, _⟩ := two_cells r6
    have step : ∀ {A B : World}, (A.cell? ⟨w.heap.size, 0, none⟩ = some (.bool n) ∧ A.cell? ⟨w.heap.size, 1, none⟩ = some (.slice px x.length cx) ∧ A.cell? ⟨w.heap.size + 1, 0, none⟩ = some (.bool m) ∧ A.cell? ⟨w.heap.size + 1, 1, none⟩ = some (.slice py y.length cy) ∧
        A.cell? ⟨b6, 0, none⟩ = some (.func (.func 139) #[] #[]) ∧ A.cell? ⟨b6, 1, none⟩ = some (.func (.func 142) #[] #[]) ∧ Below w.heap.size w A ∧ W6.heap.size ≤ A.heap.size) → Below A.heap.size A B →
        (B.cell? ⟨w.heap.size, 0, none⟩ = some (.bool n) ∧ B.cell? ⟨w.heap.size, 1, none⟩ = some (.slice px x.length cx) ∧ B.cell? ⟨w.heap.size + 1, 0, none⟩ = some (.bool m) ∧ B.cell? ⟨w.heap.size + 1, 1, none⟩ = some (.slice py y.length cy) ∧
        B.cell? ⟨b6, 0, none⟩ = some (.func (.func 139) #[] #[]) ∧ B.cell? ⟨b6, 1, none⟩ = some (.func (.func 142) #[] #[]) ∧ Below w.heap.size w B ∧ W6.heap.size ≤ B.heap.size) := fun {A B} h k => by
      obtain ⟨h1, h2, h3, h4, h5, h6, h7, h8⟩ := h
      have q : ∀ (b o : Nat), b < W6.heap.size → B.cell? ⟨b, o, none⟩ = A.cell? ⟨b, o, none⟩ := fun b o hb => k.cell (p := ⟨b, o, none⟩) (by show b < A.heap.size; omega)
      exact ⟨(q _ _ (by omega)).trans h1, (q _ _ (by omega)).trans h2, (q _ _ (by omega)).trans h3, (q _ _ (by omega)).trans h4, (q _ _ (by omega)).trans h5, (q _ _ (by omega)).trans h6, h7.trans (k.mono h7.size), Nat.le_trans h8 k.size⟩
    have stepset : ∀ {A : World} (u v : Value), (A.cell? ⟨w.heap.size, 0, none⟩ = some (.bool n) ∧ A.cell? ⟨w.heap.size, 1, none⟩ = some (.slice px x.length cx) ∧ A.cell? ⟨w.heap.size + 1, 0, none⟩ = some (.bool m) ∧ A.cell? ⟨w.heap.size + 1, 1, none⟩ = some (.slice py y.length cy) ∧
        A.cell? ⟨b6, 0, none⟩ = some (.func (.func 139) #[] #[]) ∧ A.cell? ⟨b6, 1, none⟩ = some (.func (.func 142) #[] #[]) ∧ Below w.heap.size w A ∧ W6.heap.size ≤ A.heap.size) →
        (((A.setCell ⟨w.heap.size + 1 + 1, 0, none⟩ u).setCell ⟨w.heap.size + 1 + 1, 1, none⟩ v).cell? ⟨w.heap.size, 0, none⟩ = some (.bool n) ∧ ((A.setCell ⟨w.heap.size + 1 + 1, 0, none⟩ u).setCell ⟨w.heap.size + 1 + 1, 1, none⟩ v).cell? ⟨w.heap.size, 1, none⟩ = some (.slice px x.length cx) ∧ ((A.setCell ⟨w.heap.size + 1 + 1, 0, none⟩ u).setCell ⟨w.heap.size + 1 + 1, 1, none⟩ v).cell? ⟨w.heap.size + 1, 0, none⟩ = some (.bool m) ∧ ((A.setCell ⟨w.heap.size + 1 + 1, 0, none⟩ u).setCell ⟨w.heap.size + 1 + 1, 1, none⟩ v).cell? ⟨w.heap.size + 1, 1, none⟩ = some (.slice py y.length cy) ∧
        ((A.setCell ⟨w.heap.size + 1 + 1, 0, none⟩ u).setCell ⟨w.heap.size + 1 + 1, 1, none⟩ v).cell? ⟨b6, 0, none⟩ = some (.func (.func 139) #[] #[]) ∧ ((A.setCell ⟨w.heap.size + 1 + 1, 0, none⟩ u).setCell ⟨w.heap.size + 1 + 1, 1, none⟩ v).cell? ⟨b6, 1, none⟩ = some (.func (.func 142) #[] #[]) ∧ Below w.heap.size w ((A.setCell ⟨w.heap.size + 1 + 1, 0, none⟩ u).setCell ⟨w.heap.size + 1 + 1, 1, none⟩ v) ∧ W6.heap.size ≤ ((A.setCell ⟨w.heap.size + 1 + 1, 0, none⟩ u).setCell ⟨w.heap.size + 1 + 1, 1, none⟩ v).heap.size) := fun {A} u v h => by
      obtain ⟨h1, h2, h3, h4, h5, h6, h7, h8⟩ := h
      have q : ∀ (b o : Nat), b ≠ w.heap.size + 1 + 1 → ((A.setCell ⟨w.heap.size + 1 + 1, 0, none⟩ u).setCell ⟨w.heap.size + 1 + 1, 1, none⟩ v).cell? ⟨b, o, none⟩ = A.cell? ⟨b, o, none⟩ := fun b o hb => by
        rw [cell?_setCell_ne_block _ _ _ _ hb, cell?_setCell_ne_block _ _ _ _ hb]
      exact ⟨(q _ _ (by omega)).trans h1, (q _ _ (by omega)).trans h2, (q _ _ (by omega)).trans h3, (q _ _ (by omega)).trans h4, (q _ _ (by omega)).trans h5, (q _ _ (by omega)).trans h6,
        (h7.setCell (p := ⟨w.heap.size + 1 + 1, 0, none⟩) (by show _ ≤ w.heap.size + 1 + 1; omega) u).setCell (p := ⟨w.heap.size + 1 + 1, 1, none⟩) (by show _ ≤ w.heap.size + 1 + 1; omega) v, by simpa using h8⟩
    have hS0 : W6.drew.cell? ⟨w.heap.size, 0, none⟩ = some (.bool n) ∧ W6.drew.cell? ⟨w.heap.size, 1, none⟩ = some (.slice px x.length cx) ∧ W6.drew.cell? ⟨w.heap.size + 1, 0, none⟩ = some (.bool m) ∧ W6.drew.cell? ⟨w.heap.size + 1, 1, none⟩ = some (.slice py y.length cy) ∧
        W6.drew.cell? ⟨b6, 0, none⟩ = some (.func (.func 139) #[] #[]) ∧ W6.drew.cell? ⟨b6, 1, none⟩ = some (.func (.func 142) #[] #[]) ∧ Below w.heap.size w W6.drew ∧ W6.heap.size ≤ W6.drew.heap.size := ⟨c20, c21, c30, c31, c60, c61, hBw.drew, Nat.le_refl _⟩
    have r4d : W6.drew.heap[w.heap.size + 2]? = some (.cells #[.bool false, .slice none 0 0] 117) := r4
    clear c20 c21 c30 c31 c60 c61 r2 r3 r6 r4 hBw
    have H2 : w.heap.size + 2 < W6.heap.size := by omega
    go_region_held3 (fun A => A.cell? ⟨w.heap.size, 0, none⟩ = some (.bool n) ∧ A.cell? ⟨w.heap.size, 1, none⟩ = some (.slice px x.length cx) ∧ A.cell? ⟨w.heap.size + 1, 0, none⟩ = some (.bool m) ∧ A.cell? ⟨w.heap.size + 1, 1, none⟩ = some (.slice py y.length cy) ∧
        A.cell? ⟨b6, 0, none⟩ = some (.func (.func 139) #[] #[]) ∧ A.cell? ⟨b6, 1, none⟩ = some (.func (.func 142) #[] #[]) ∧ Below w.heap.size w A ∧ W6.heap.size ≤ A.heap.size)
      (first | exact hS0 | exact step (by assumption) (by assumption) | exact stepset _ _ (by assumption))
      (first | (go_at_call 142; refine (K142.out _ _ _ ?_).mono ?_; exact (by assumption : _ ∧ _ ∧ _ ∧ _ ∧ _ ∧ _ ∧ Below w.heap.size w _ ∧ _).2.2.2.2.2.2.1; rintro e w2 ⟨rfl, hBn⟩; have r4n := (hBn.block (w.heap.size + 2) (Nat.lt_of_lt_of_le H2 (by assumption : _ ∧ _ ∧ _ ∧ _ ∧ _ ∧ _ ∧ _ ∧ _).2.2.2.2.2.2.2)).trans (by assumption); obtain ⟨_, _, _, _⟩ := two_cells r4n) | (go_at_call 139; refine (K139.out _ ?_).mono ?_; exact (by assumption : _ ∧ _ ∧ _ ∧ _ ∧ _ ∧ _ ∧ Below w.heap.size w _ ∧ _).2.2.2.2.2.2.1; rintro e w2 ⟨⟨p, cap, l, rfl, h1, h2, h3, h4, h5, h6⟩, hBa⟩; have r4a := (hBa.block (w.heap.size + 2) (Nat.lt_of_lt_of_le H2 (by assumption : _ ∧ _ ∧ _ ∧ _ ∧ _ ∧ _ ∧ _ ∧ _).2.2.2.2.2.2.2)).trans (by assumption); obtain ⟨_, _, _, _⟩ := two_cells r4a))
    all_goals
      have hBF := (by assumption : _ ∧ _ ∧ _ ∧ _ ∧ _ ∧ _ ∧ Below w.heap.size w ((_ : World).setCell _ _) ∧ _).2.2.2.2.2.2.1
      go_wp2
      (try simp only [Exit.inBlock, Exit.then])
      first
        | exact bodyPost_ret (results_cell_row rfl _ _ (w.heap.size + 2) 117 _ (0, 0) _ rfl (set2 r4a _ _) Tryz.underlying117 rfl size117) rfl ⟨⟨_, l, rfl, ⟨p, cap, by rw [sumNeg, if_neg HNM.out], h1.set2 r4a, h2, h3, h4⟩, by rw [h5, sumMag, if_neg HNM.out]⟩, hBF⟩
        | exact bodyPost_ret (results_cell_row rfl _ _ (w.heap.size + 2) 117 _ (0, 0) _ rfl (set2 r4n _ _) Tryz.underlying117 rfl size117) rfl ⟨⟨_, l, rfl, ⟨p, cap, by rw [sumNeg, if_neg HNM.out], (h1.below hBn).set2 r4n, h2, h3, h4⟩, by rw [h5, sumMag, if_neg HNM.out]⟩, hBF⟩

end Go.Proofs.YtlbmihpmcgiinaaGreatDoor.Own
