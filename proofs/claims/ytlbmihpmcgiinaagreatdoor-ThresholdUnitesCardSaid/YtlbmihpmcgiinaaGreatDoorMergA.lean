/- Chapter 39: merging two ascending lists of numbers: the plain law. -/
import Derived.Test.YtlbmihpmcgiinaaGreatDoorLawA
import Derived.Test.YtlbmihpmcgiinaaGreatDoorRefA
import Derived.Test.YtlbmihpmcgiinaaGreatDoorWalkE
import Derived.Test.YtlbmihpmcgiinaaGreatDoorRefB
import Derived.Maps.AppendAt
import Derived.OwnWalk

section
namespace Go.Proofs.YtlbmihpmcgiinaaGreatDoor.Own
open Go Go.Proofs Go.RowKit

/-- The number of a text. -/
def val (s : ByteArray) : Int := decInt s.data.toList
theorem val_inj {s t : ByteArray} (hs : chk s = 0) (ht : chk t = 0) (h : val s = val t) : s = t := by
  have := canon_inj (canon_of_chk hs) (canon_of_chk ht) h
  cases s; cases t
  simp only [ByteArray.mk.injEq]
  exact Array.toList_inj.mp this

theorem sgn_le (z : Int) : (sgn z ≤ 0) ↔ z ≤ 0 := by unfold sgn; repeat' split <;> omega
theorem sgn_ge (z : Int) : (0 ≤ sgn z) ↔ 0 ≤ z := by unfold sgn; repeat' split <;> omega

/-- Strictly ascending. -/
def Asc (l : List ByteArray) : Prop := l.Pairwise fun a b => val a < val b

theorem notLess_iff (q s : ByteArray) : notLess q s = true ↔ val s ≤ val q := by
  unfold notLess
  rw [decide_eq_true_iff, sgn_ge]
  unfold val
  omega

theorem ckL_asc : ∀ (l : List ByteArray) (q : Option ByteArray), ckL l q = 0 → Asc l ∧ (∀ x, q = some x → ∀ s ∈ l, val x < val s) ∧ ∀ s ∈ l, digs s ≤ 100 := by
  intro l
  induction l with
  | nil => intro q _; exact ⟨List.Pairwise.nil, fun _ _ s hs => (List.not_mem_nil hs).elim, fun s hs => (List.not_mem_nil hs).elim⟩
  | cons t l ih =>
    intro q h
    unfold ckL at h
    split at h
    · rename_i h0; exact absurd h h0
    · split at h
      · cases h
      · rename_i hd
        split at h
        · cases h
        · rename_i hn
          obtain ⟨h1, h2, h3⟩ := ih _ h
          have h4 := h2 t rfl
          refine ⟨List.pairwise_cons.mpr ⟨fun s hs => h4 s hs, h1⟩, ?_, ?_⟩
          · rintro x rfl s hs
            have hx : val x < val t := by
              have hn : ¬ notLess x t = true := hn
              rw [notLess_iff] at hn
              omega
            rcases List.mem_cons.mp hs with rfl | hs
            · exact hx
            · have := h4 s hs; omega
          · intro s hs
            rcases List.mem_cons.mp hs with rfl | hs
            · omega
            · exact h3 s hs

theorem checkL_asc {l : List ByteArray} (h : checkL l = 0) : Asc l ∧ (∀ s ∈ l, digs s ≤ 100) ∧ l.length ≤ 256 := by
  unfold checkL at h
  split at h
  · cases h
  · obtain ⟨h1, _, h3⟩ := ckL_asc _ _ h
    exact ⟨h1, h3, by omega⟩

/-- A further number put into an ascending list. -/
def putGo (v : ByteArray) : List ByteArray → Bool → List ByteArray
  | [], d => if d = true then [] else [v]
  | s :: l, d => if d = true then s :: putGo v l true else if sgn (decInt v.data.toList - decInt s.data.toList) ≤ 0 then (if v = s then s :: putGo v l true else v :: s :: putGo v l true) else s :: putGo v l false
def putL (l : List ByteArray) (v : ByteArray) : List ByteArray := putGo v l false

theorem putGo_true (v : ByteArray) : ∀ l, putGo v l true = l := by
  intro l
  induction l with
  | nil => rfl
  | cons s l ih => simp [putGo, ih]

theorem putL_cons (v s : ByteArray) (l : List ByteArray) : putL (s :: l) v = if val v ≤ val s then (if v = s then s :: l else v :: s :: l) else s :: putL l v := by
  unfold putL
  rw [putGo]
  simp only [Bool.false_eq_true, if_false, putGo_true]
  have : (sgn (decInt v.data.toList - decInt s.data.toList) ≤ 0) ↔ val v ≤ val s := by rw [sgn_le]; unfold val; omega
  simp only [this]

theorem putL_mem (v : ByteArray) : ∀ (l : List ByteArray) (x : ByteArray), x ∈ putL l v ↔ x = v ∨ x ∈ l := by
  intro l
  induction l with
  | nil => intro x; simp [putL, putGo]
  | cons s l ih =>
    intro x
    rw [putL_cons]
    split
    · split
      · rename_i h; subst h; simp
      · simp
    · simp only [List.mem_cons, ih]
      constructor
      · rintro (h | h | h) <;> simp [h]
      · rintro (h | h | h) <;> simp [h]

theorem putL_asc (v : ByteArray) (hv : chk v = 0) : ∀ (l : List ByteArray), (∀ s ∈ l, chk s = 0) → Asc l → Asc (putL l v) := by
  intro l
  induction l with
  | nil => intro _ _; exact List.pairwise_singleton _ _
  | cons s l ih =>
    intro hl h
    obtain ⟨h1, h2⟩ := List.pairwise_cons.mp h
    rw [putL_cons]
    split
    · rename_i hle
      split
      · exact h
      · rename_i hne
        have hlt : val v < val s := by
          have : val v ≠ val s := fun e => hne (val_inj hv (hl s (List.mem_cons_self)) e)
          omega
        refine List.pairwise_cons.mpr ⟨fun x hx => ?_, h⟩
        rcases List.mem_cons.mp hx with rfl | hx
        · exact hlt
        · have := h1 x hx; omega
    · rename_i hgt
      refine List.pairwise_cons.mpr ⟨fun x hx => ?_, ih (fun t ht => hl t (List.mem_cons_of_mem _ ht)) h2⟩
      rcases (putL_mem v l x).mp hx with rfl | hx
      · omega
      · exact h1 x hx

/-- Two lists put together, the reference's way. -/
def mergeL (a b : List ByteArray) : List ByteArray := b.foldl putL a

theorem mergeL_mem : ∀ (b a : List ByteArray) (x : ByteArray), x ∈ mergeL a b ↔ x ∈ a ∨ x ∈ b := by
  intro b
  induction b with
  | nil => intro a x; simp [mergeL]
  | cons v b ih =>
    intro a x
    have := ih (putL a v) x
    unfold mergeL at this ⊢
    rw [List.foldl_cons, this, putL_mem, List.mem_cons]
    constructor
    · rintro ((h | h) | h) <;> simp [h]
    · rintro (h | h | h) <;> simp [h]

theorem mergeL_asc : ∀ (b a : List ByteArray), (∀ s ∈ a, chk s = 0) → (∀ s ∈ b, chk s = 0) → Asc a → Asc (mergeL a b) := by
  intro b
  induction b with
  | nil => intro a _ _ h; exact h
  | cons v b ih =>
    intro a ha hb h
    have hv := hb v List.mem_cons_self
    refine ih (putL a v) (fun s hs => ?_) (fun s hs => hb s (List.mem_cons_of_mem _ hs)) (putL_asc v hv a ha h)
    rcases (putL_mem v a s).mp hs with rfl | hs
    · exact hv
    · exact ha s hs

/-- Ascending lists of the same numbers are the same list. -/
theorem asc_ext : ∀ (a b : List ByteArray), Asc a → Asc b → (∀ s ∈ a, chk s = 0) → (∀ s ∈ b, chk s = 0) → (∀ x, x ∈ a ↔ x ∈ b) → a = b := by
  intro a
  induction a with
  | nil =>
    intro b _ _ _ _ h
    cases b with
    | nil => rfl
    | cons y b => exact absurd ((h y).mpr List.mem_cons_self) (by simp)
  | cons x a ih =>
    intro b ha hb ca cb h
    cases b with
    | nil => exact absurd ((h x).mp List.mem_cons_self) (by simp)
    | cons y b =>
      obtain ⟨a1, a2⟩ := List.pairwise_cons.mp ha
      obtain ⟨b1, b2⟩ := List.pairwise_cons.mp hb
      have e : x = y := by
        refine val_inj (ca x List.mem_cons_self) (cb y List.mem_cons_self) ?_
        have h1 : val y ≤ val x := by
          rcases List.mem_cons.mp ((h x).mp List.mem_cons_self) with e | e
          · subst e; exact Int.le_refl _
          · have := b1 x e; omega
        have h2 : val x ≤ val y := by
          rcases List.mem_cons.mp ((h y).mpr List.mem_cons_self) with e | e
          · subst e; exact Int.le_refl _
          · have := a1 y e; omega
        omega
      subst e
      congr 1
      refine ih b a2 b2 (fun s hs => ca s (List.mem_cons_of_mem _ hs)) (fun s hs => cb s (List.mem_cons_of_mem _ hs)) (fun z => ?_)
      have hz := h z
      rw [List.mem_cons, List.mem_cons] at hz
      constructor
      · intro hza
        rcases hz.mp (.inr hza) with e | e
        · subst e; have := a1 z hza; omega
        · exact e
      · intro hzb
        rcases hz.mpr (.inr hzb) with e | e
        · subst e; have := b1 z hzb; omega
        · exact e

theorem extract1 (s : ByteArray) : (s.extract 1 s.size).data.toList = s.data.toList.drop 1 := by
  rw [ByteArray.data_extract, Array.toList_extract, List.extract_eq_drop_take']
  rw [List.take_of_length_le]
  rw [Array.length_toList]
  exact Nat.le_refl _

/-- A text without its sign. -/
def magT (s : ByteArray) : ByteArray := if Lib.hasPrefix s.data.toList [45] = true then s.extract 1 s.size else s

theorem magT_list (s : ByteArray) : (magT s).data.toList = match s.data.toList with | 45 :: m => m | l => l := by
  unfold magT
  split
  · rename_i h
    cases hl : s.data.toList with
    | nil => rw [hl] at h; cases h
    | cons c m =>
      rw [hl] at h
      have hc : c = 45 := by
        have h2 : (45 : UInt8) = c := by simpa [Lib.hasPrefix] using h
        exact h2.symm
      subst hc
      have : (s.extract 1 s.size).data.toList = s.data.toList.drop 1 := extract1 s
      rw [this, hl]
      rfl
  · rename_i h
    split
    · rename_i m hl
      rw [hl] at h
      simp [Lib.hasPrefix] at h
    · rfl

theorem lead_canon {m : List UInt8} (h : Lead m) : canon m = true := (canon_iff m).mpr (.inr (.inl h))

theorem magT_chk {s : ByteArray} (h : chk s = 0) : chk (magT s) = 0 := by
  have hc := canon_of_chk h
  have hd : digs s ≤ 4096 := by
    unfold chk at h
    rw [if_pos hc] at h
    split at h
    · cases h
    · omega
  have hm := magT_list s
  have hg : canon (magT s).data.toList = true ∧ digs (magT s) = digs s := by
    rcases (canon_iff _).mp hc with e | e | ⟨m, e, hl⟩
    · rw [e] at hm
      have hm : (magT s).data.toList = [48] := hm
      exact ⟨by rw [hm]; exact (canon_iff _).mpr (.inl rfl), by unfold digs; rw [hm, e]⟩
    · have hne : ∀ m, s.data.toList ≠ 45 :: m := by
        intro m em
        rw [em] at e
        exact absurd e (by simp [Lead])
      have hm2 : (magT s).data.toList = s.data.toList := by
        rw [hm]
        split
        · rename_i m em; exact absurd em (hne m)
        · rfl
      exact ⟨by rw [hm2]; exact hc, by unfold digs; rw [hm2]⟩
    · rw [e] at hm
      have hm : (magT s).data.toList = m := hm
      have hne : ∀ x, m ≠ 45 :: x := by
        intro x em
        rw [em] at hl
        exact absurd hl (by simp [Lead])
      refine ⟨by rw [hm]; exact lead_canon hl, ?_⟩
      unfold digs
      rw [e]
      show (match (magT s).data.toList with | 45 :: l => l.length | l => l.length) = m.length
      split
      · rename_i x em; rw [hm] at em; exact absurd em (hne x)
      · rw [hm]
  unfold chk
  rw [if_pos hg.1, if_neg (by omega)]

/-- At most 256 numbers: those of the greatest magnitudes are left out. -/
def limF : Nat → List ByteArray → List ByteArray
  | 0, m => m
  | n + 1, m => if 256 < m.length then (if 0 ≤ sgn (decInt (magT (m.headD ByteArray.empty)).data.toList - decInt (magT (m.getLastD ByteArray.empty)).data.toList) then limF n m.tail else limF n m.dropLast) else m
def limL (m : List ByteArray) : List ByteArray := limF m.length m

theorem limL_stop {m : List ByteArray} (h : ¬ 256 < m.length) : limL m = m := by
  unfold limL
  cases hl : m.length with
  | zero => rfl
  | succ n => rw [limF, if_neg h]

theorem limL_step {m : List ByteArray} (h : 256 < m.length) :
    limL m = if 0 ≤ sgn (decInt (magT (m.headD ByteArray.empty)).data.toList - decInt (magT (m.getLastD ByteArray.empty)).data.toList) then limL m.tail else limL m.dropLast := by
  obtain ⟨n, hn⟩ : ∃ n, m.length = n + 1 := ⟨m.length - 1, by omega⟩
  have e1 : m.tail.length = n := by rw [List.length_tail, hn]; rfl
  have e2 : m.dropLast.length = n := by rw [List.length_dropLast, hn]; rfl
  unfold limL
  rw [hn, limF, if_pos h, e1, e2]

theorem limL_len : ∀ (n : Nat) (m : List ByteArray), m.length ≤ n → (limL m).length ≤ 256 := by
  intro n
  induction n with
  | zero => intro m h; rw [limL_stop (by omega)]; omega
  | succ n ih =>
    intro m h
    by_cases h2 : 256 < m.length
    · rw [limL_step h2]
      split
      · exact ih _ (by rw [List.length_tail]; omega)
      · exact ih _ (by rw [List.length_dropLast]; omega)
    · rw [limL_stop h2]; omega

/-- What Merge answers. -/
def mergeR (a b : List ByteArray) : List ByteArray × Int :=
  if checkL a ≠ 0 then ([], checkL a) else if checkL b ≠ 0 then ([], checkL b) else (limL (mergeL a b), 0)

end Go.Proofs.YtlbmihpmcgiinaaGreatDoor.Own
end

/- Chapter 39: rows of texts that a call has made; the reference's Magnitude. -/
section
namespace Go.Proofs.YtlbmihpmcgiinaaGreatDoor.Own
open Go Go.Proofs Go.RowKit

theorem texts_of_owns {w : World} {base : Nat} {v : Value} {l : List ByteArray} (h : w.ownsRow base 23 1 v l.length (l.map Value.string)) : ∃ p cap, v = .slice p l.length cap ∧ StrsAt w p l ∧ l.length ≤ cap := by
  rcases h.2 with ⟨rfl, h0⟩ | ⟨g, cap, cur, rfl, hb, hg, h1, h2, h3, h4⟩
  · have : l = [] := List.length_eq_zero_iff.mp h0
    subst this
    exact ⟨none, 0, rfl, fun k => absurd rfl k, Nat.le_refl _⟩
  · refine ⟨_, cap, rfl, fun _ => ⟨g, 0, rfl, (Array.getElem?_eq_some_iff.1 hg).1, fun k hk => ?_⟩, h1⟩
    rw [cell_of (c := cur) (e := 23) (fz := (0, 0)) hg, ← Array.getElem?_toList]
    have e := congrArg (fun l => l[k]?) h4
    simp only [Nat.mul_one] at e
    rw [List.getElem?_take_of_lt hk] at e
    rw [Nat.zero_add, e]
    simp [hk]

theorem ownsRow_below {w w' : World} {base n : Nat} {v : Value} {xs : List Value} (h : w.ownsRow base 23 1 v n xs) (k : Below w.heap.size w w') : w'.ownsRow base 23 1 v n xs := by
  refine ⟨h.1, ?_⟩
  rcases h.2 with h0 | ⟨g, cap, cur, e, hb, hg, h1⟩
  · exact .inl h0
  · exact .inr ⟨g, cap, cur, e, hb, (k.block g (Array.getElem?_eq_some_iff.1 hg).1).trans hg, h1⟩

theorem info23' : (Tryz.prog.info? 23).map (fun i => (i.zero, i.size, i.bytes)) = some (some (.string ⟨#[]⟩), 1, 16) := by kernel_rfl

theorem w92 (s : ByteArray) (h : 0 < s.size) (hs : s.size < 4611686018427387904) (w : World) :
    Calls Tryz.prog 92 #[.string s] w fun e w' => e = .returned (.string (magT s)) ∧ w' = w := by
  have H49 := w49 s h w
  unfold magT
  generalize Lib.hasPrefix s.data.toList [45] = x at *
  go_enter Tryz.func92, Tryz.ntmps92
  cases x
  · go_wp2_with (first | (go_at_call 49; refine H49.mono ?_; rintro e w2 ⟨rfl, rfl⟩))
    go_ret
    exact ⟨rfl, rfl⟩
  · go_wp2_with (first | (go_at_call 49; refine H49.mono ?_; rintro e w2 ⟨rfl, rfl⟩))
    go_ret
    exact ⟨rfl, rfl⟩

end Go.Proofs.YtlbmihpmcgiinaaGreatDoor.Own
end

/- Chapter 39: walks: the reference's Put. -/
section
namespace Go.Proofs.YtlbmihpmcgiinaaGreatDoor.Own
open Go Go.Proofs Go.RowKit

theorem toList_ne {a b : ByteArray} (h : ¬ a = b) : (a.toList == b.toList) = false := by
  rw [beq_eq_false_iff_ne]
  intro e
  rw [ByteArray.toList_eq, ByteArray.toList_eq] at e
  exact h (Go.WideShapes.bytes_inj e)

theorem putGo_len (v : ByteArray) : ∀ (l : List ByteArray) (d : Bool), (putGo v l d).length ≤ l.length + 1 := by
  intro l
  induction l with
  | nil => intro d; cases d <;> simp [putGo]
  | cons s l ih =>
    intro d
    have h1 := ih true
    have h2 := ih false
    rw [putGo_true] at h1
    unfold putGo
    rw [putGo_true]
    repeat' split
    all_goals simp only [List.length_cons]
    all_goals omega

theorem putGo_step (v : ByteArray) (l : List ByteArray) (k : Nat) (hk : k < l.length) (d : Bool) :
    putGo v (l.drop k) d = if d = true then l[k] :: putGo v (l.drop (k + 1)) true else if sgn (decInt v.data.toList - decInt l[k].data.toList) ≤ 0 then (if v = l[k] then l[k] :: putGo v (l.drop (k + 1)) true else v :: l[k] :: putGo v (l.drop (k + 1)) true) else l[k] :: putGo v (l.drop (k + 1)) false := by
  rw [List.drop_eq_getElem_cons hk, putGo]

set_option maxRecDepth 100000 in
set_option maxHeartbeats 2000000 in
theorem w74 (p : Option Addr) (cap : Nat) (l : List ByteArray) (v : ByteArray) (w : World) (h : StrsAt w p l) (hc : ∀ s ∈ l, chk s = 0) (hv : chk v = 0) (hl : l.length < 1000000000) :
    Calls Tryz.prog 74 #[.slice p l.length cap, .string v] w fun e w' => ∃ u, e = .returned u ∧ w'.ownsRow w.heap.size 23 1 u (putL l v).length ((putL l v).map Value.string) ∧ Below w.heap.size w w' := by
  have H := Lib.hid h
  have HC := Lib.hid hc
  obtain ⟨i0, hi, hz0, hz1, hz2⟩ := info_parts info23'
  obtain ⟨r, hr⟩ : ∃ r, putL l v = r := ⟨_, rfl⟩
  have hrl : r.length ≤ l.length + 1 := by rw [← hr]; exact putGo_len v l false
  rw [hr]
  have HR := Lib.hid hr
  clear h hc hr
  go_enter Tryz.func74, Tryz.ntmps74
  go_wp2
  go_loopw [5, 6, 7] (fun u d i wr => ∃ (k : Nat) (b : Bool) (ss : List ByteArray), i = .int .i64 k ∧ d = .bool b ∧ k ≤ l.length ∧ Hid (ss ++ putGo v (l.drop k) b = r) ∧ wr.ownsRow w.heap.size 23 1 u ss.length (ss.map Value.string) ∧ Below w.heap.size w wr) (fun _ _ i _ => l.length - (intOf i).toNat)
  case atStart => exact ⟨0, false, [], rfl, rfl, Nat.zero_le _, HR, World.ownsRow_nil _ _ _ _, Below.refl _ _⟩
  case round =>
    obtain ⟨k, d, ss, rfl, rfl, hk, HK, hrow, hB⟩ := hrel
    have hsl : ss.length ≤ r.length := by
      have := congrArg List.length HK.out
      rw [List.length_append] at this
      omega
    by_cases hk2 : k < l.length
    · obtain ⟨b, off, rfl, hb, hcells⟩ := H.out (by rintro rfl; simp at hk2)
      have hck0 := Lib.hid (hcells k hk2)
      have hst := (congrArg (ss ++ ·) (putGo_step v l k hk2 d)).symm.trans HK.out
      have K32 := Lib.hid (fun W => w32 v l[k] hv (HC.out _ (List.getElem_mem hk2)) W)
      obtain ⟨s, hs⟩ : ∃ s, l[k] = s := ⟨_, rfl⟩
      rw [hs] at hck0 hst K32
      generalize sgn (decInt v.data.toList - decInt s.data.toList) = z at K32 hst
      clear hcells hs
      cases d
      · rw [if_neg (by simp)] at hst
        by_cases hz : z ≤ 0
        · rw [if_pos hz] at hst
          by_cases hvs : v = s
          · rw [if_pos hvs] at hst
            subst hvs
            have HST := Lib.hid hst
            clear hst
            have hck := (hB.cell (p := ⟨b, off + k, none⟩) hb).trans hck0.out
            go_wp2_with (first
              | (go_at_call 32; refine (K32.out _).mono ?_; rintro e w2 ⟨rfl, hB2⟩; have hrow2 := ownsRow_below hrow hB2; have hBB := hB.trans (hB2.mono hB.size); have hck2 := (hBB.cell (p := ⟨b, off + k, none⟩) hb).trans hck0.out)
              | (at_builtin; refine wpList_append_own _ rfl _ _ 22 rfl w.heap.size 23 i0 (.string ⟨#[]⟩) 1 16 Tryz.underlying22 hi hz0 hz1 hz2 rfl (by decide) _ _ _ rfl (hrow2.alloc _) ⟨w2.heap.size, 0, none⟩ 1 1 [.string v] rfl rfl (cell_one_new _ _ _) (by simp [Value.oneCell']) (by unfold maxLen; omega) (by omega) (by have := hBB.size; simp; omega) ?_; intro v' w3 hown' hg3 hnil3; go_frame)
              | go_in)
            refine ⟨⟨k + 1, true, ss ++ [v], rfl, rfl, hk2, Lib.hid (by rw [List.append_assoc]; exact HST.out), by simpa using hown', (hBB.alloc hBB.size _).grown hg3 (by have := hBB.size; simp; omega) (fun j hj => (hrow2.lt j hj).1)⟩, ?_⟩
            show l.length - ((k : Int) + 1).toNat < l.length - (k : Int).toNat
            omega
          · rw [if_neg hvs] at hst
            have HST := Lib.hid hst
            have hsl2 : ss.length + 2 ≤ r.length := by
              have := congrArg List.length HST.out
              rw [List.length_append, List.length_cons, List.length_cons] at this
              omega
            clear hst
            have hne := toList_ne hvs
            have hck := (hB.cell (p := ⟨b, off + k, none⟩) hb).trans hck0.out
            go_wp2_with (first
              | (go_at_call 32; refine (K32.out _).mono ?_; rintro e w2 ⟨rfl, hB2⟩; have hrow2 := ownsRow_below hrow hB2; have hBB := hB.trans (hB2.mono hB.size); have hck2 := (hBB.cell (p := ⟨b, off + k, none⟩) hb).trans hck0.out)
              | (at_builtin; refine wpList_append_own _ rfl _ _ 22 rfl w.heap.size 23 i0 (.string ⟨#[]⟩) 1 16 Tryz.underlying22 hi hz0 hz1 hz2 rfl (by decide) _ _ _ rfl (hown'.alloc _) ⟨w3.heap.size, 0, none⟩ 1 1 [.string s] rfl rfl (cell_one_new _ _ _) (by simp [Value.oneCell']) (by unfold maxLen; omega) (by omega) (by have := hB3.size; simp; omega) ?_; intro v'' w4 hown'' hg4 hnil4; go_frame)
              | (at_builtin; refine wpList_append_own _ rfl _ _ 22 rfl w.heap.size 23 i0 (.string ⟨#[]⟩) 1 16 Tryz.underlying22 hi hz0 hz1 hz2 rfl (by decide) _ _ _ rfl (hrow2.alloc _) ⟨w2.heap.size, 0, none⟩ 1 1 [.string v] rfl rfl (cell_one_new _ _ _) (by simp [Value.oneCell']) (by unfold maxLen; omega) (by omega) (by have := hBB.size; simp; omega) ?_; intro v' w3 hown' hg3 hnil3; go_frame; have hB3 := (hBB.alloc hBB.size _).grown hg3 (by have := hBB.size; simp; omega) (fun j hj => (hrow2.lt j hj).1); have hck3 := (hB3.cell (p := ⟨b, off + k, none⟩) hb).trans hck0.out)
              | go_in)
            refine ⟨⟨k + 1, true, ss ++ [v, s], rfl, rfl, hk2, Lib.hid (by rw [List.append_assoc]; exact HST.out), by simpa using hown'', (hB3.alloc hB3.size _).grown hg4 (by have := hB3.size; simp; omega) (fun j hj => (hown'.lt j hj).1)⟩, ?_⟩
            show l.length - ((k : Int) + 1).toNat < l.length - (k : Int).toNat
            omega
        · rw [if_neg hz] at hst
          have HST := Lib.hid hst
          clear hst
          have hck := (hB.cell (p := ⟨b, off + k, none⟩) hb).trans hck0.out
          go_wp2_with (first
            | (go_at_call 32; refine (K32.out _).mono ?_; rintro e w2 ⟨rfl, hB2⟩; have hrow2 := ownsRow_below hrow hB2; have hBB := hB.trans (hB2.mono hB.size); have hck2 := (hBB.cell (p := ⟨b, off + k, none⟩) hb).trans hck0.out)
            | (at_builtin; refine wpList_append_own _ rfl _ _ 22 rfl w.heap.size 23 i0 (.string ⟨#[]⟩) 1 16 Tryz.underlying22 hi hz0 hz1 hz2 rfl (by decide) _ _ _ rfl (hrow2.alloc _) ⟨w2.heap.size, 0, none⟩ 1 1 [.string s] rfl rfl (cell_one_new _ _ _) (by simp [Value.oneCell']) (by unfold maxLen; omega) (by omega) (by have := hBB.size; simp; omega) ?_; intro v' w3 hown' hg3 hnil3; go_frame)
            | go_in)
          refine ⟨⟨k + 1, false, ss ++ [s], rfl, rfl, hk2, Lib.hid (by rw [List.append_assoc]; exact HST.out), by simpa using hown', (hBB.alloc hBB.size _).grown hg3 (by have := hBB.size; simp; omega) (fun j hj => (hrow2.lt j hj).1)⟩, ?_⟩
          show l.length - ((k : Int) + 1).toNat < l.length - (k : Int).toNat
          omega
      · rw [if_pos rfl] at hst
        have HST := Lib.hid hst
        clear hst K32
        have hck := (hB.cell (p := ⟨b, off + k, none⟩) hb).trans hck0.out
        go_wp2_with (first
          | (at_builtin; refine wpList_append_own _ rfl _ _ 22 rfl w.heap.size 23 i0 (.string ⟨#[]⟩) 1 16 Tryz.underlying22 hi hz0 hz1 hz2 rfl (by decide) _ _ _ rfl (hrow.alloc _) ⟨wr.heap.size, 0, none⟩ 1 1 [.string s] rfl rfl (cell_one_new _ _ _) (by simp [Value.oneCell']) (by unfold maxLen; omega) (by omega) (by have := hB.size; simp; omega) ?_; intro v' w3 hown' hg3 hnil3; go_frame)
          | go_in)
        refine ⟨⟨k + 1, true, ss ++ [s], rfl, rfl, hk2, Lib.hid (by rw [List.append_assoc]; exact HST.out), by simpa using hown', (hB.alloc hB.size _).grown hg3 (by have := hB.size; simp; omega) (fun j hj => (hrow.lt j hj).1)⟩, ?_⟩
        show l.length - ((k : Int) + 1).toNat < l.length - (k : Int).toNat
        omega
    · obtain rfl : k = l.length := by omega
      have hst := HK.out
      rw [List.drop_length, putGo] at hst
      cases d
      · rw [if_neg (by simp)] at hst
        have HST := Lib.hid hst
        have hsl2 : ss.length + 1 ≤ r.length := by
          have := congrArg List.length HST.out
          rw [List.length_append, List.length_singleton] at this
          omega
        clear hst
        go_wp2_with (first
          | (at_builtin; refine wpList_append_own _ rfl _ _ 22 rfl w.heap.size 23 i0 (.string ⟨#[]⟩) 1 16 Tryz.underlying22 hi hz0 hz1 hz2 rfl (by decide) _ _ _ rfl (hrow.alloc _) ⟨wr.heap.size, 0, none⟩ 1 1 [.string v] rfl rfl (cell_one_new _ _ _) (by simp [Value.oneCell']) (by unfold maxLen; omega) (by omega) (by have := hB.size; simp; omega) ?_; intro v' w3 hown' hg3 hnil3; go_frame)
          | go_in)
        go_ret
        refine ⟨_, rfl, ?_, (hB.alloc hB.size _).grown hg3 (by have := hB.size; simp; omega) (fun j hj => (hrow.lt j hj).1)⟩
        rw [← HST.out]
        simpa using hown'
      · rw [if_pos rfl, List.append_nil] at hst
        subst hst
        go_wp2
        go_ret
        exact ⟨_, rfl, hrow, hB⟩

end Go.Proofs.YtlbmihpmcgiinaaGreatDoor.Own
end
