/- Chapter 39: walks: (threshold.set).list: the keys of a map of numbers, in ascending order. -/
import Derived.Test.YtlbmihpmcgiinaaGreatDoorWalkG
import Derived.Test.YtlbmihpmcgiinaaGreatDoorUp
import Derived.Test.YtlbmihpmcgiinaaGreatDoorSortLay
import Derived.Shelf.SlSortCmp.NoneTotal
import Derived.Sort.KeysCollected
import Derived.Sort.OwnSorted
import Derived.Maps.RangeWalk
import Derived.Maps.AppendAt
import Derived.OwnWalk
namespace Go.Proofs.YtlbmihpmcgiinaaGreatDoor.Own
open Go Go.Proofs Go.RowKit Go.Maps Go.Sort Go.Shelf

/-- The texts of numbers. -/
abbrev IntText : Type := { l : List UInt8 // chk ⟨l.toArray⟩ = 0 }
instance instIntText : Inhabited IntText := ⟨⟨[48], by decide⟩⟩

def encT (x : IntText) : Value := encStr x.1
def cmpT (x y : IntText) : Int := sgn (decInt x.1 - decInt y.1)

theorem lt_cmp (x y : IntText) : ltOf cmpT x y = decide (decInt x.1 < decInt y.1) := by
  unfold ltOf cmpT sgn
  apply decide_eq_decide.mpr
  repeat' split
  all_goals omega

theorem swo_cmp : SWO (ltOf cmpT) where
  irrefl x := by rw [lt_cmp]; simp
  trans x y z h1 h2 := by rw [lt_cmp] at *; simp at *; omega
  ntrans x y z h1 h2 := by rw [lt_cmp] at *; simp at *; omega

/-- Nothing that lay has turned: more blocks, and draws. -/
theorem grow_of_below {w w' : World} (h : Below w.heap.size w w') (hd : w.drawn ≤ w'.drawn) : ∃ q os, w' = grow (w.drewN q) os := by
  refine ⟨w'.drawn - w.drawn, w'.heap.extract w.heap.size w'.heap.size, ?_⟩
  obtain ⟨heap, tape, drawn, os, output⟩ := w'
  have h1 := h.os
  have h2 := h.tape
  have h3 := h.output
  simp only at h1 h2 h3 hd
  subst h1
  subst h2
  subst h3
  unfold grow World.drewN
  simp only [World.mk.injEq, and_true, true_and]
  refine ⟨?_, by omega⟩
  have hs : w.heap.size ≤ heap.size := h.size
  apply Array.ext_getElem?
  intro i
  by_cases hi : i < w.heap.size
  · rw [Array.getElem?_append_left hi]
    exact h.block i hi
  · rw [Array.getElem?_append_right (by omega), Array.getElem?_extract]
    by_cases h2 : i < heap.size
    · rw [if_pos (by omega), show w.heap.size + (i - w.heap.size) = i by omega]
    · rw [if_neg (by omega), Array.getElem?_eq_none (by omega)]

theorem sw_size (enc : IntText → Value) (w : World) (blk off m : Nat) (dk : Array IntText) (os : Array Obj) : w.heap.size ≤ (sortWorld enc w blk off m dk os).heap.size := by
  simp [sortWorld, grow, putRow, mapBlock, Sort.ahead]

theorem cmpLays40 (blk off size : Nat) (w : World) (h : 10 ≤ w.heap.size) : CmpLays1 Tryz.prog 40 #[] encT cmpT blk off size w := by
  intro m os dk _ x y
  have hs := sw_size encT w blk off m dk os
  have := calls_up (w40 ⟨x.1.toArray⟩ ⟨y.1.toArray⟩ x.2 y.2 (sortWorld encT w blk off m dk os) (by omega)) (fun e w' h => ⟨_, h.1⟩)
  exact this.mono fun e w' ⟨⟨h1, h2⟩, h3⟩ => ⟨h1, grow_of_below h2 h3⟩

theorem total_cmp (x y : IntText) (h1 : ltOf cmpT x y = false) (h2 : ltOf cmpT y x = false) : x = y := by
  rw [lt_cmp] at h1 h2
  simp at h1 h2
  exact Subtype.ext (canon_inj (canon_of_chk x.2) (canon_of_chk y.2) (by omega))

def leT (x y : IntText) : Bool := !(ltOf cmpT) y x
theorem leT_iff (x y : IntText) : leT x y = true ↔ decInt x.1 ≤ decInt y.1 := by
  unfold leT
  rw [lt_cmp]
  simp

theorem putRow_T (w : World) (g off : Nat) (d : Array IntText) : putRow encT w g off d = putRow encStr w g off (d.map (·.1)) := by
  unfold putRow
  congr 1
  funext o
  unfold putCells encT
  rw [Array.size_map]
  congr 1
  funext k x
  split
  · rename_i h
    have hk : k - off < d.size := by omega
    have hk2 : k - off < (d.map (·.1)).size := by rw [Array.size_map]; exact hk
    rw [getElem!_pos d (k - off) hk, getElem!_pos (d.map (·.1)) (k - off) hk2, Array.getElem_map]
  · rfl

/-- The texts with the reasons why they are ones of numbers. -/
def liftT (ss : List (List UInt8)) (h : ∀ x ∈ ss, chk ⟨x.toArray⟩ = 0) : List IntText := ss.attach.map fun x => ⟨x.1, h x.1 x.2⟩
theorem liftT_map (ss : List (List UInt8)) (h : ∀ x ∈ ss, chk ⟨x.toArray⟩ = 0) : (liftT ss h).map (·.1) = ss := by
  unfold liftT
  rw [List.map_map]
  exact List.attach_map_subtype_val ss

def ascT (ts : List (List UInt8)) : Prop := ts.Pairwise fun a b => decInt a ≤ decInt b

theorem enters40 : ∀ args w, (callFunc 40 args).run Tryz.prog w = .ok (.enter 40 args) w := enters_of Tryz.func40 (by kernel_rfl) rfl

/-- slices.SortFunc by threshold.order. -/
theorem w88 (g cap : Nat) (ss : List (List UInt8)) (hss : ∀ x ∈ ss, chk ⟨x.toArray⟩ = 0) (w : World) (h10 : 10 ≤ w.heap.size) (hH : Holds encStr w g 0 ss.toArray) (hg : g < w.heap.size) (hsz : ss.length < 4611686018427387904) :
    Calls Tryz.prog 88 #[.slice (some ⟨g, 0, none⟩) ss.length cap, .func (.func 40) #[] #[]] w fun e w' => e = .returned (.tuple #[]) ∧ ∃ n ts os, List.Perm ts ss ∧ ascT ts ∧ w' = grow (putRow encStr (Sort.ahead w n) g 0 ts.toArray) os := by
  have hm := liftT_map ss hss
  have hlen : (liftT ss hss).length = ss.length := by
    have := congrArg List.length hm
    rwa [List.length_map] at this
  have hT : Holds encT w g 0 (liftT ss hss).toArray := by
    intro j hj
    have hj' : j < ss.length := by simpa [hlen] using hj
    have h1 := hH j (by simpa using hj')
    have e : encT (liftT ss hss).toArray[j]! = encStr ss.toArray[j]! := by
      unfold encT
      have hj2 : j < (liftT ss hss).length := by omega
      have e2 : ((liftT ss hss).map (·.1))[j]? = ss[j]? := by rw [hm]
      rw [List.getElem?_map, List.getElem?_eq_getElem hj2, List.getElem?_eq_getElem hj'] at e2
      simp only [Option.map_some, Option.some.injEq] at e2
      simp [hj2, hj', e2]
    rw [e]
    exact h1
  have := Any.slices_SortFunc_total Tryz.sortK encT (fun _ => rfl) cmpT swo_cmp 40 #[] g 0 cap (liftT ss hss).toArray w enters40 (cmpLays40 _ _ _ _ h10) hT hg (by simpa [hlen] using hsz) total_cmp
  simp only [List.size_toArray, hlen] at this
  refine Calls.mono this ?_
  rintro e w' ⟨h1, n, os, h2⟩
  refine ⟨h1, n, ((liftT ss hss).mergeSort leT).map (·.1), os, ?_, ?_, ?_⟩
  · have := (List.mergeSort_perm (liftT ss hss) leT).map (·.1)
    rwa [hm] at this
  · unfold ascT
    rw [List.pairwise_map]
    have tr : ∀ a b c : IntText, leT a b = true → leT b c = true → leT a c = true := fun a b c h1 h2 => by rw [leT_iff] at *; omega
    have to : ∀ a b : IntText, (leT a b || leT b a) = true := fun a b => by rw [Bool.or_eq_true, leT_iff, leT_iff]; omega
    exact (List.pairwise_mergeSort tr to (liftT ss hss)).imp (fun h => (leT_iff _ _).mp h)
  · rw [h2]
    unfold sortWorld
    rw [putRow_T]
    rw [List.map_toArray]
    rfl

theorem w88_none (w : World) : Calls Tryz.prog 88 #[.slice none 0 0, .func (.func 40) #[] #[]] w fun e w' => e = .returned (.tuple #[]) ∧ w' = w :=
  AnyF.slices_SortFunc_none { Tryz.sortK with } none 0 _ w

theorem info23 : (Tryz.prog.info? 23).map (fun i => (i.zero, i.size, i.bytes)) = some (some (.string ⟨#[]⟩), 1, 16) := by kernel_rfl

theorem keyed23 : Keyed Tryz.prog 23 := string_keyed Tryz.underlying23

set_option maxRecDepth 100000 in
set_option maxHeartbeats 1000000 in
theorem w71 {H : Type} (b n : Nat) (D0 : DataW H) (w : World) (hown : w.ownsMap Tryz.prog 23 (plainElem (H := H) Tryz.prog 4) b n D0) (hk : ∀ x ∈ strKeys D0, chk ⟨x.toArray⟩ = 0) (hmax : Maps.size D0 ≤ 1000000000) (h10 : 10 ≤ w.heap.size) :
    Calls Tryz.prog 71 #[.map (some b)] w fun e w' => ∃ v ts, e = .returned v ∧ List.Perm ts (strKeys D0) ∧ ascT ts ∧ w'.ownsRow w.heap.size 23 1 v ts.length (ts.map encStr) ∧ (ts = [] → v = .slice none 0 0) ∧ Below w.heap.size w w' := by
  obtain ⟨i0, hi, hz0, hz1, hz2⟩ := info_parts info23
  have hbl := hown.lt
  have HK := Lib.hid hk
  clear hk
  go_enter Tryz.func71, Tryz.ntmps71
  go_wp2_with (first
    | (at_range; refine wpList_range_own _ rfl _ 110 rfl 23 4 keyed23 Tryz.underlying110 _ b n _ rfl hown ?_; intro w0 hrg0 hg0 hs0)
    | go_in)
  go_frame
  go_loopw [3] (fun v wr => ∃ (left : Lit → Bool) (cnt : Nat) (ss : List (List UInt8)), wr.ranges Tryz.prog 23 (plainElem Tryz.prog 4) b w.heap.size n D0 left cnt ∧ ss.length + cnt ≤ Maps.size D0 ∧
      wr.ownsRow w.heap.size 23 1 v ss.length (ss.map encStr) ∧ (ss = [] → v = .slice none 0 0) ∧ Collected D0 left ss ∧ Below w.heap.size w wr)
    (fun _ wr => wr.rangeLeft b w.heap.size)
  case atStart =>
    exact ⟨_, _, [], hrg0, by simp, World.ownsRow_nil _ _ _ _, fun _ => rfl, Collected.start D0, (Below.refl _ _).grown hg0 (Nat.le_refl _) (fun j hj => by cases hj)⟩
  case round =>
    obtain ⟨left, cnt, ss, hrg, hcs, hrow, hnn, hC, hnx⟩ := hrel
    go_wp2_with (first
      | (at_next; refine wpList_next_ranges _ rfl _ rfl 23 keyed23 (plainElem Tryz.prog 4) encStr id (fun key kl hk => by obtain ⟨x, hx, _⟩ := Maps.keyOf_str Tryz.underlying23 hk; exact ⟨x, hx⟩) (fun v _ _ => ⟨v, rfl⟩) b w.heap.size n _ _ _ rfl hrg ?_ ?_)
      | go_in)
    · intro hc0 hl0
      have hperm := hC.perm hown keyed23 Tryz.underlying23 hl0
      have hss : ∀ x ∈ ss, chk ⟨x.toArray⟩ = 0 := fun x hx => HK.out x (hperm.mem_iff.mp hx)
      have h10r : 10 ≤ wr.heap.size := Nat.le_trans h10 hnx.size
      rcases hrow.2 with ⟨rfl, h0⟩ | ⟨g, cap, cur, rfl, hbase, hb, h1, h2, h3, h4⟩
      · have hs0 : ss = [] := List.length_eq_zero_iff.mp h0
        subst hs0
        clear hrg
        go_wp2_with (go_at_call 88; refine (w88_none _).mono ?_; rintro e w' ⟨rfl, rfl⟩)
        go_ret
        exact ⟨_, [], rfl, hperm, List.Pairwise.nil, hrow, fun _ => rfl, hnx⟩
      · have hH : Holds encStr wr g 0 ss.toArray := holds_of_block hb (by simpa using h4)
        have hgl : g < wr.heap.size := (Array.getElem?_eq_some_iff.1 hb).1
        have hc := w88 g cap ss hss wr h10r hH hgl (by omega)
        have HN := Lib.hid hnn
        clear hrg hss hnn
        go_wp2_with (go_at_call 88; refine hc.mono ?_; rintro e w' ⟨rfl, nn, ts, os, hpt, hasc, rfl⟩)
        go_ret
        have hl := hpt.length_eq
        refine ⟨_, ts, rfl, hpt.trans hperm, hasc, by rw [hl]; exact ownsRow_sorted hl hbase hb h1 h2 h3, fun e => ?_, hnx.grown (grownBy_sorted _) hnx.size (fun j hj => by cases hj; exact hbase)⟩
        rw [e] at hl
        have : ss = [] := List.length_eq_zero_iff.mp hl.symm
        exact HN.out this
    · intro x c kl yd yp w2 cnt2 hkey hlk hv hat hrg2 hlt hg2 hs2 hen
      obtain ⟨x', ex, rfl, _⟩ := Maps.keyOf_str Tryz.underlying23 hkey
      obtain rfl : x = x' := encStr_inj ex
      have hrow2 := hrow.kept hg2 (Or.inr (row_ne_iter hrow hrg).symm)
      have HS2 := Lib.hid hs2
      clear hs2
      go_wp2_with (first
        | (at_builtin; refine wpList_append_own _ rfl _ _ 22 rfl w.heap.size 23 i0 (.string ⟨#[]⟩) 1 16 Tryz.underlying22 hi hz0 hz1 hz2 rfl (by decide) _ _ _ rfl (hrow2.alloc _) ⟨w2.heap.size, 0, none⟩ 1 1 [encStr x] rfl rfl (cell_one_new _ _ _) (by simp [Value.oneCell', encStr]) (by unfold maxLen at *; omega) (by omega) (by have := hnx.size; have := hg2.size; simp; omega) ?_; intro v' w3 hown' hg3 hnil3; go_frame)
        | go_in)
      have hrg3 := (hrg2.alloc _).kept hg3 (row_ne_low hrow2 hbl) (row_ne_iter hrow2 hrg2)
      go_roundw
      case rel =>
        refine ⟨_, cnt2, ss ++ [x], hrg3, by simp; omega, by simpa using hown', by simp, hC.step hlk hat, ?_⟩
        exact ((hnx.grown hg2 hnx.size (fun j hj => by cases hj; exact Nat.le_refl _)).alloc (by have := hnx.size; have := hg2.size; omega) _).grown hg3 (by have := hnx.size; have := hg2.size; simp; omega) (fun j hj => (hrow2.lt j hj).1)
      case measure => rw [hrg3.left_eq, hrg.left_eq]; exact hlt

end Go.Proofs.YtlbmihpmcgiinaaGreatDoor.Own
