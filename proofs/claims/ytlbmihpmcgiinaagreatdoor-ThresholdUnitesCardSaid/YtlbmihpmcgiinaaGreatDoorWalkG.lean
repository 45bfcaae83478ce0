/- Chapter 39: walks: bigint.pair at two canonical integers. -/
import Derived.Test.YtlbmihpmcgiinaaGreatDoorW81
import Derived.Test.YtlbmihpmcgiinaaGreatDoorWalkC

section
namespace Go.Proofs.YtlbmihpmcgiinaaGreatDoor.Own
open Go Go.Proofs Go.RowKit

theorem idx137 (s t : ByteArray) (W : World) : (Instr.index 137 (.agg #[.string s, .string t]) (.int .i64 0)).run Tryz.prog W = .ok (.string s) W := by kernel_rfl
theorem idx137' (s t : ByteArray) (W : World) : (Instr.index 137 (.agg #[.string s, .string t]) (.int .i64 1)).run Tryz.prog W = .ok (.string t) W := by kernel_rfl

theorem digs_size (s : ByteArray) : s.size ≤ digs s + 1 := by
  obtain ⟨⟨l⟩⟩ := s
  unfold digs
  show l.length ≤ _
  split
  · rename_i heq; simp at heq; rw [heq]; simp
  · rename_i heq; simp

/-- The limbs of a text's number. -/
def NumIs (w : World) (v : Value) (s : ByteArray) : Prop := ∃ l, NumAt w v (Lib.hasPrefix s.data.toList [45]) l ∧ lval B9 l = (decNat (magn s.data.toList) 0 : Nat) ∧ l.length < 1000000

theorem NumIs.below {w w' : World} {v : Value} {s : ByteArray} (h : NumIs w v s) (k : Below w.heap.size w w') : NumIs w' v s := by
  obtain ⟨l, h1, h2⟩ := h
  exact ⟨l, h1.below k, h2⟩

theorem results_cct {P : Program} {fn : Func} {p q u : Tmp} {ty : TypeId} (h : fn.results = #[.cell p ty, .cell q ty, .tmp u]) (tmps : Array Value) (w : World) (g g' : Nat) (t t' : TypeId) (cs cs' : Array Value) (fr fr' : Nat × Nat) (d : TypeDesc)
    (hp : tmps.getD p undef = .pointer (some ⟨g, 0, none⟩)) (hq : tmps.getD q undef = .pointer (some ⟨g', 0, none⟩)) (hg : w.heap[g]? = some (.cells cs t fr)) (hg' : w.heap[g']? = some (.cells cs' t' fr'))
    (hu : P.underlying ty = some d) (hd : (match d with | .struct _ | .array _ _ => true | _ => false) = true) (hi : (P.info? ty).map (·.size) = some cs.size) (hi' : (P.info? ty).map (·.size) = some cs'.size) :
    (results fn tmps).run P w = .ok (.tuple #[.agg cs, .agg cs', tmps.getD u undef]) w := by
  have hp' : tmps[p]?.getD undef = .pointer (some ⟨g, 0, none⟩) := by simpa using hp
  have hq' : tmps[q]?.getD undef = .pointer (some ⟨g', 0, none⟩) := by simpa using hq
  simp [results, h, hp', hq', asAddr, run_loadVar_row w g t ty cs fr d hg hu hd hi, run_loadVar_row w g' t' ty cs' fr' d hg' hu hd hi']

theorem heap_set_ne (w : World) (p : Addr) (v : Value) (b : Nat) (h : b ≠ p.block) : (w.setCell p v).heap[b]? = w.heap[b]? := by
  show (w.heap.modify p.block _)[b]? = _
  rw [Array.getElem?_modify, if_neg (Ne.symm h)]

set_option maxRecDepth 100000 in
set_option maxHeartbeats 400000 in
theorem w79 (s t : ByteArray) (hs : chk s = 0) (ht : chk t = 0) (w : World) (h10 : 10 ≤ w.heap.size) :
    Calls Tryz.prog 79 #[.string s, .string t] w fun e w' => (∃ v u, e = .returned (.tuple #[v, u, .int .i64 0]) ∧ NumIs w' v s ∧ NumIs w' u t) ∧ Below w.heap.size w w' := by
  have good : ∀ s : ByteArray, chk s = 0 → canon s.data.toList = true ∧ s.size < 5000 := fun s h => by
    unfold chk at h
    split at h
    · rename_i hc
      split at h
      · cases h
      · rename_i hd
        have := digs_size s
        exact ⟨hc, by omega⟩
    · cases h
  have gs := good s hs
  have gt := good t ht
  have K59s : ∀ W : World, 10 ≤ W.heap.size → Calls Tryz.prog 59 #[.string s] W fun e w' => e = .returned (.int .i64 0) ∧ Below W.heap.size W w' := fun W h => by
    have := w59 s (by omega) W h
    rwa [hs] at this
  have K59t : ∀ W : World, 10 ≤ W.heap.size → Calls Tryz.prog 59 #[.string t] W fun e w' => e = .returned (.int .i64 0) ∧ Below W.heap.size W w' := fun W h => by
    have := w59 t (by omega) W h
    rwa [ht] at this
  have K97s : ∀ W : World, Calls Tryz.prog 97 #[.string s] W fun e w' => ∃ v, e = .returned v ∧ NumIs w' v s ∧ Below W.heap.size W w' := fun W =>
    (w97 s (by omega) gs.1 W).mono fun e w' ⟨v, l, h1, h2, h3, h4, h5⟩ => ⟨v, h1, ⟨l, h2, h3, by omega⟩, h5⟩
  have K97t : ∀ W : World, Calls Tryz.prog 97 #[.string t] W fun e w' => ∃ v, e = .returned v ∧ NumIs w' v t ∧ Below W.heap.size W w' := fun W =>
    (w97 t (by omega) gt.1 W).mono fun e w' ⟨v, l, h1, h2, h3, h4, h5⟩ => ⟨v, h1, ⟨l, h2, h3, by omega⟩, h5⟩
  have H59s := Lib.hid K59s
  have H59t := Lib.hid K59t
  have H97s := Lib.hid K97s
  have H97t := Lib.hid K97t
  clear K59s K59t K97s K97t hs ht gs gt good
  have hi0 := idx137 s t
  have hi1 := idx137' s t
  go_enter Tryz.func79, Tryz.ntmps79
  go_wp2
  obtain ⟨W2, hW2⟩ : ∃ W2, (w.alloc (.cells #[.bool false, .slice none 0 0] 117)).alloc (.cells #[.bool false, .slice none 0 0] 117) = W2 := ⟨_, rfl⟩
  have hB2 : Below w.heap.size w W2 := by rw [← hW2]; exact ((Below.refl _ w).alloc (Nat.le_refl _) _).alloc (by simp) _
  have hs2 : W2.heap.size = w.heap.size + 2 := by rw [← hW2]; simp
  have r4 : W2.heap[w.heap.size]? = some (.cells #[.bool false, .slice none 0 0] 117) := by rw [← hW2]; exact (Below.heap_alloc _ _ _ (by simp)).trans (World.alloc_heap_new w _)
  have r5 : W2.heap[w.heap.size + 1]? = some (.cells #[.bool false, .slice none 0 0] 117) := by rw [← hW2]; have := World.alloc_heap_new (w.alloc (.cells #[.bool false, .slice none 0 0] 117)) (.cells #[.bool false, .slice none 0 0] 117); rwa [World.size_alloc] at this
  rw [hW2]
  clear hW2
  refine wp_loop_rounds 3 ?_
  rw [rounds_succ]
  go_wp2_with (go_at_call 59; refine (H59s.out _ (by omega)).mono ?_; rintro e w' ⟨rfl, hB⟩)
  replace r4 := (hB.block _ (by omega)).trans r4
  replace r5 := (hB.block _ (by omega)).trans r5
  replace hB2 := hB2.trans (hB.mono hB2.size)
  have hs' := hB.size
  clear hB
  rw [rounds_succ]
  go_wp2_with (go_at_call 59; refine (H59t.out _ (by omega)).mono ?_; rintro e w2 ⟨rfl, hB⟩)
  replace r4 := (hB.block _ (by omega)).trans r4
  replace r5 := (hB.block _ (by omega)).trans r5
  replace hB2 := hB2.trans (hB.mono hB2.size)
  have hs'' := hB.size
  clear hB
  rw [rounds_succ]
  go_wp2_with fail
  refine (H97s.out _).mono ?_
  rintro e w3 ⟨v, rfl, hv, hB⟩
  replace r4 := (hB.block _ (by omega)).trans r4
  replace r5 := (hB.block _ (by omega)).trans r5
  replace hB2 := hB2.trans (hB.mono hB2.size)
  have hs3 := hB.size
  clear hB
  go_wp2_with fail
  refine (H97t.out _).mono ?_
  rintro e w4 ⟨u, rfl, hu, hB⟩
  replace r4 := (hB.block _ (by omega)).trans r4
  replace r5 := (hB.block _ (by omega)).trans r5
  replace hB2 := hB2.trans (hB.mono hB2.size)
  replace hv := hv.below hB
  have hs4 := hB.size
  clear hB
  obtain ⟨l1, ⟨p1, cap1, rfl, q1⟩, z1⟩ := hv
  obtain ⟨l2, ⟨p2, cap2, rfl, q2⟩, z2⟩ := hu
  obtain ⟨c40, c41, f40, f41⟩ := two_cells r4
  obtain ⟨c50, c51, f50, f51⟩ := two_cells r5
  have R4 := Lib.hid r4
  have R5 := Lib.hid r5
  have Q1 := Lib.hid q1
  have Q2 := Lib.hid q2
  clear r4 r5 q1 q2
  go_wp2
  (try simp only [Exit.inBlock, Exit.then])
  have A4 := set2 R4.out (.bool (Lib.hasPrefix s.data.toList [45])) (.slice p1 l1.length cap1)
  have A5 : ((w4.setCell ⟨w.heap.size, 0, none⟩ (.bool (Lib.hasPrefix s.data.toList [45]))).setCell ⟨w.heap.size, 1, none⟩ (.slice p1 l1.length cap1)).heap[w.heap.size + 1]? = some (.cells #[.bool false, .slice none 0 0] 117) := by
    rw [heap_set_ne _ _ _ _ (by show w.heap.size + 1 ≠ w.heap.size; omega), heap_set_ne _ _ _ _ (by show w.heap.size + 1 ≠ w.heap.size; omega)]
    exact R5.out
  have B5 := set2 A5 (.bool (Lib.hasPrefix t.data.toList [45])) (.slice p2 l2.length cap2)
  have B4 : ((((w4.setCell ⟨w.heap.size, 0, none⟩ (.bool (Lib.hasPrefix s.data.toList [45]))).setCell ⟨w.heap.size, 1, none⟩ (.slice p1 l1.length cap1)).setCell ⟨w.heap.size + 1, 0, none⟩ (.bool (Lib.hasPrefix t.data.toList [45]))).setCell ⟨w.heap.size + 1, 1, none⟩ (.slice p2 l2.length cap2)).heap[w.heap.size]? = some (.cells #[.bool (Lib.hasPrefix s.data.toList [45]), .slice p1 l1.length cap1] 117) := by
    rw [heap_set_ne _ _ _ _ (by show w.heap.size ≠ w.heap.size + 1; omega), heap_set_ne _ _ _ _ (by show w.heap.size ≠ w.heap.size + 1; omega)]
    exact A4
  refine bodyPost_ret (results_cct rfl _ _ w.heap.size (w.heap.size + 1) 117 117 _ _ (0, 0) (0, 0) _ rfl rfl B4 B5 Tryz.underlying117 rfl size117 size117) rfl ⟨⟨_, _, rfl, ⟨l1, ⟨p1, cap1, rfl, (Q1.out.1.set2 R4.out).set2 A5, Q1.out.2⟩, z1⟩, ⟨l2, ⟨p2, cap2, rfl, (Q2.out.1.set2 R4.out).set2 A5, Q2.out.2⟩, z2⟩⟩, ?_⟩
  exact (((hB2.setCell (p := ⟨w.heap.size, 0, none⟩) (Nat.le_refl _) _).setCell (p := ⟨w.heap.size, 1, none⟩) (Nat.le_refl _) _).setCell (p := ⟨w.heap.size + 1, 0, none⟩) (Nat.le_succ _) _).setCell (p := ⟨w.heap.size + 1, 1, none⟩) (Nat.le_succ _) _

end Go.Proofs.YtlbmihpmcgiinaaGreatDoor.Own
end

/- Chapter 39: walks: bigint.Compare and threshold.order at two canonical integers. -/
section
namespace Go.Proofs.YtlbmihpmcgiinaaGreatDoor.Own
open Go Go.Proofs Go.RowKit

/-- The sign of a number. -/
def sgn (z : Int) : Int := if z < 0 then -1 else if z = 0 then 0 else 1

theorem canon_of_chk {s : ByteArray} (h : chk s = 0) : canon s.data.toList = true := by
  unfold chk at h
  split at h
  · assumption
  · cases h

theorem sign_sum (s t : ByteArray) (hs : chk s = 0) (ht : chk t = 0) (x y l : List Int) (hx : lval B9 x = (decNat (magn s.data.toList) 0 : Nat)) (hy : lval B9 y = (decNat (magn t.data.toList) 0 : Nat)) (hl : InB B9 l) (tl : Trimmed l)
    (h : lval B9 l = sumMag (Lib.hasPrefix s.data.toList [45]) (!Lib.hasPrefix t.data.toList [45]) x y) :
    (if l.length = 0 then 0 else if sumNeg (Lib.hasPrefix s.data.toList [45]) (!Lib.hasPrefix t.data.toList [45]) x y then -1 else 1) = sgn (decInt s.data.toList - decInt t.data.toList) := by
  obtain ⟨_, _, e1, _⟩ := canon_val (canon_of_chk hs)
  obtain ⟨_, _, e2, _⟩ := canon_val (canon_of_chk ht)
  have hz : l.length = 0 ↔ lval B9 l = 0 := by
    rw [List.length_eq_zero_iff]
    exact (trimmed_zero (B := B9) (by decide) hl tl).symm
  rw [h] at hz
  rw [e1, e2]
  clear e1 e2 h hl tl
  unfold sumMag sumNeg gap at *
  rw [hx, hy] at hz ⊢
  generalize decNat (magn s.data.toList) 0 = A at *
  generalize decNat (magn t.data.toList) 0 = B at *
  generalize Lib.hasPrefix s.data.toList [45] = n at *
  generalize Lib.hasPrefix t.data.toList [45] = m at *
  generalize l.length = k at *
  unfold sgn
  cases n <;> cases m <;> simp only [Bool.not_true, Bool.not_false, Bool.false_eq_true, if_false, if_true, reduceCtorEq] at hz ⊢
  all_goals
    by_cases h1 : (A : Int) < B
    all_goals (try simp only [h1, decide_true, decide_false, if_true, if_false, bne_self_eq_false, Bool.true_bne, Bool.false_bne, Bool.not_false, Bool.false_eq_true] at hz ⊢)
    all_goals by_cases hk : k = 0
    all_goals (try simp only [hk, if_true, if_false])
    all_goals (repeat' split)
    all_goals omega

theorem w80' (n : Bool) (p : Option Addr) (m cap : Nat) (w : World) :
    Calls Tryz.prog 80 #[.agg #[.bool n, .slice p m cap]] w fun e w' => ∃ c, e = .returned (.int .i64 c) ∧ Hid (c = (if m = 0 then 0 else if n then -1 else 1)) ∧ Below w.heap.size w w' :=
  (w80 n p m cap w).mono fun _ _ h => ⟨_, h.1, Lib.hid rfl, h.2⟩

set_option maxRecDepth 100000 in
set_option maxHeartbeats 4000000 in
theorem w66 (s t : ByteArray) (hs : chk s = 0) (ht : chk t = 0) (w : World) (h10 : 10 ≤ w.heap.size) :
    Calls Tryz.prog 66 #[.string s, .string t] w fun e w' => e = .returned (.tuple #[.int .i64 (sgn (decInt s.data.toList - decInt t.data.toList)), .int .i64 0]) ∧ Below w.heap.size w w' := by
  have H79 := w79 s t hs ht w h10
  have SG := Lib.hid (sign_sum s t hs ht)
  clear hs ht
  obtain ⟨z, hz⟩ : ∃ z, sgn (decInt s.data.toList - decInt t.data.toList) = z := ⟨_, rfl⟩
  rw [hz] at SG ⊢
  clear hz
  go_enter Tryz.func66, Tryz.ntmps66
  go_wp2_with (go_at_call 79; refine H79.mono ?_; rintro e w' ⟨⟨v, u, rfl, ⟨x, ⟨px, cx, rfl, rx, lx, ix, tx⟩, ex, bx⟩, ⟨y, ⟨py, cy, rfl, ry, ly, iy, ty⟩, ey, by_⟩⟩, hB⟩)
  have K81 := Lib.hid (fun n m W (hB : Below w'.heap.size w' W) => w81 n m px py cx cy x y W (rx.below hB) (ry.below hB) ix iy tx ty (by omega) (by omega))
  have SG2 := Lib.hid (fun l => SG.out x y l ex ey)
  clear SG rx lx ix tx ex bx ry ly iy ty ey by_
  obtain ⟨n, hn⟩ : ∃ n, Lib.hasPrefix s.data.toList [45] = n := ⟨_, rfl⟩
  obtain ⟨m, hm⟩ : ∃ m, Lib.hasPrefix t.data.toList [45] = m := ⟨_, rfl⟩
  rw [hn, hm] at SG2 ⊢
  clear hn hm
  obtain ⟨W2, hW2⟩ : ∃ W2, (w'.alloc (.cells #[.bool n, .slice px x.length cx] 117)).alloc (.cells #[.bool m, .slice py y.length cy] 117) = W2 := ⟨_, rfl⟩
  have hB2 : Below w'.heap.size w' W2 := by rw [← hW2]; exact ((Below.refl _ w').alloc (Nat.le_refl _) _).alloc (by simp) _
  have hs2 : W2.heap.size = w'.heap.size + 2 := by rw [← hW2]; simp
  have r1 : W2.heap[w'.heap.size]? = some (.cells #[.bool n, .slice px x.length cx] 117) := by rw [← hW2]; exact (Below.heap_alloc _ _ _ (by simp)).trans (World.alloc_heap_new w' _)
  have r2 : W2.heap[w'.heap.size + 1]? = some (.cells #[.bool m, .slice py y.length cy] 117) := by rw [← hW2]; have := World.alloc_heap_new (w'.alloc (.cells #[.bool n, .slice px x.length cx] 117)) (.cells #[.bool m, .slice py y.length cy] 117); rwa [World.size_alloc] at this
  rw [hW2]
  clear hW2
  obtain ⟨c10, c11, _, _⟩ := two_cells r1
  obtain ⟨c20, c21, _, _⟩ := two_cells r2
  have step : ∀ {A B : World}, (A.cell? ⟨w'.heap.size, 0, none⟩ = some (.bool n) ∧ A.cell? ⟨w'.heap.size, 1, none⟩ = some (.slice px x.length cx) ∧ A.cell? ⟨w'.heap.size + 1, 0, none⟩ = some (.bool m) ∧ A.cell? ⟨w'.heap.size + 1, 1, none⟩ = some (.slice py y.length cy) ∧ Below w'.heap.size w' A ∧ w'.heap.size + 2 ≤ A.heap.size) → Below A.heap.size A B → (B.cell? ⟨w'.heap.size, 0, none⟩ = some (.bool n) ∧ B.cell? ⟨w'.heap.size, 1, none⟩ = some (.slice px x.length cx) ∧ B.cell? ⟨w'.heap.size + 1, 0, none⟩ = some (.bool m) ∧ B.cell? ⟨w'.heap.size + 1, 1, none⟩ = some (.slice py y.length cy) ∧ Below w'.heap.size w' B ∧ w'.heap.size + 2 ≤ B.heap.size) := fun {A B} h k => by
    obtain ⟨h1, h2, h3, h4, h5, h6⟩ := h
    have q : ∀ (b o : Nat), b < w'.heap.size + 2 → B.cell? ⟨b, o, none⟩ = A.cell? ⟨b, o, none⟩ := fun b o hb => k.cell (p := ⟨b, o, none⟩) (by show b < A.heap.size; omega)
    exact ⟨(q _ _ (by omega)).trans h1, (q _ _ (by omega)).trans h2, (q _ _ (by omega)).trans h3, (q _ _ (by omega)).trans h4, h5.trans (k.mono h5.size), Nat.le_trans h6 k.size⟩
  have hS0 : W2.drew.cell? ⟨w'.heap.size, 0, none⟩ = some (.bool n) ∧ W2.drew.cell? ⟨w'.heap.size, 1, none⟩ = some (.slice px x.length cx) ∧ W2.drew.cell? ⟨w'.heap.size + 1, 0, none⟩ = some (.bool m) ∧ W2.drew.cell? ⟨w'.heap.size + 1, 1, none⟩ = some (.slice py y.length cy) ∧ Below w'.heap.size w' W2.drew ∧ w'.heap.size + 2 ≤ W2.drew.heap.size := ⟨c10, c11, c20, c21, hB2.drew, by show _ ≤ W2.heap.size; omega⟩
  clear c10 c11 c20 c21 r1 r2 hB2
  go_region_held3 (fun A => A.cell? ⟨w'.heap.size, 0, none⟩ = some (.bool n) ∧ A.cell? ⟨w'.heap.size, 1, none⟩ = some (.slice px x.length cx) ∧ A.cell? ⟨w'.heap.size + 1, 0, none⟩ = some (.bool m) ∧ A.cell? ⟨w'.heap.size + 1, 1, none⟩ = some (.slice py y.length cy) ∧ Below w'.heap.size w' A ∧ w'.heap.size + 2 ≤ A.heap.size)
    (first | exact hS0 | exact step (by assumption) (by assumption))
    (first | (go_at_call 82; refine (w82 _ _ _ _ _).mono ?_; rintro e w2 ⟨rfl, hB1⟩) | (go_at_call 81; refine (K81.out _ _ _ ?_).mono ?_; exact (by assumption : _ ∧ _ ∧ _ ∧ _ ∧ Below w'.heap.size w' _ ∧ _).2.2.2.2.1; rintro e w2 ⟨⟨v, l, rfl, ⟨p, cap, rfl, q0, q1, q2, q3⟩, hl⟩, hB3⟩) | (go_at_call 80; refine (w80' _ _ _ _ _).mono ?_; rintro e w2 ⟨c, rfl, hc, hB4⟩))
  rename_i hH
  have e : c = z := hc.out.trans (SG2.out l q2 q3 hl)
  have hBF : Below w.heap.size w w2 := hB.trans (hH.2.2.2.2.1.mono hB.size)
  clear hc hH hB4 q0 hB3 hB1 hS0 step SG2 K81
  subst e
  go_wp2
  go_ret2
  exact ⟨rfl, hBF⟩

/-- threshold.order -/
theorem w40 (s t : ByteArray) (hs : chk s = 0) (ht : chk t = 0) (w : World) (h10 : 10 ≤ w.heap.size) :
    Calls Tryz.prog 40 #[.string s, .string t] w fun e w' => e = .returned (.int .i64 (sgn (decInt s.data.toList - decInt t.data.toList))) ∧ Below w.heap.size w w' := by
  have H := w66 s t hs ht w h10
  generalize sgn (decInt s.data.toList - decInt t.data.toList) = z at H ⊢
  go_enter Tryz.func40, Tryz.ntmps40
  go_wp2_with (go_at_call 66; refine H.mono ?_; rintro e w' ⟨rfl, hB⟩)
  go_ret
  exact ⟨rfl, hB⟩

end Go.Proofs.YtlbmihpmcgiinaaGreatDoor.Own
end
