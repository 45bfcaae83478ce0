/- Chapter 39: walks: small functions of (threshold.set).limited: no number has too many digits. -/
import Derived.Test.YtlbmihpmcgiinaaGreatDoorMergA
import Derived.Test.YtlbmihpmcgiinaaGreatDoorW71
import Derived.Maps.Views
import Derived.Test.YtlbmihpmcgiinaaGreatDoorMergB

section
namespace Go.Proofs.YtlbmihpmcgiinaaGreatDoor.Own
open Go Go.Proofs Go.RowKit

theorem w90 (s : ByteArray) (hd : digs s ≤ 100) (hs : s.size < 4611686018427387904) (w : World) :
    Calls Tryz.prog 90 #[.string s] w fun e w' => e = .returned (.bool false) ∧ w' = w := by
  have H60 := w60 s hs w
  generalize digs s = d at *
  have hb : decide ((100 : Int) < (d : Int)) = false := decide_eq_false (by omega)
  go_enter Tryz.func90, Tryz.ntmps90
  go_wp2_with (go_at_call 60; refine H60.mono ?_; rintro e w' ⟨rfl, rfl⟩)
  go_ret
  exact ⟨by first | rfl | rw [hb], rfl⟩

theorem magT_trim (s : ByteArray) : (⟨(Lib.trimPrefix s.data.toList [45]).toArray⟩ : ByteArray) = magT s := by
  have h := magT_list s
  have e : Lib.trimPrefix s.data.toList [45] = (magT s).data.toList := by
    rw [h]
    unfold Lib.trimPrefix Lib.hasPrefix
    cases hl : s.data.toList with
    | nil => rfl
    | cons c m =>
      by_cases hc : c = 45
      · subst hc; simp
      · have : ([45] : List UInt8).isPrefixOf (c :: m) = false := by simp [List.isPrefixOf, Ne.symm hc]
        simp [this]
        split
        · rename_i m' e'; cases e'; exact absurd rfl hc
        · rfl
  rw [e]

theorem w91 (s : ByteArray) (hc : chk s = 0) (hs : s.size < 4611686018427387904) (w : World) (h10 : 10 ≤ w.heap.size) :
    Calls Tryz.prog 91 #[.string s] w fun e w' => e = .returned (.tuple #[.string (magT s), .int .i64 0]) ∧ Below w.heap.size w w' := by
  have H59 := w59 s hs w h10
  have K95 := Lib.hid (fun W => Tryz.strings_TrimPrefix s ⟨#[45]⟩ W)
  have HM := Lib.hid (magT_trim s)
  rw [hc] at H59
  clear hc
  go_enter Tryz.func91, Tryz.ntmps91
  go_wp2_with (first | (go_at_call 59; refine H59.mono ?_; rintro e w2 ⟨rfl, hB⟩) | (go_at_call 95; refine (K95.out _).mono ?_; rintro e w3 ⟨rfl, rfl⟩))
  go_ret2
  exact ⟨by rw [← HM.out]; rfl, hB⟩

set_option maxRecDepth 100000 in
set_option maxHeartbeats 1000000 in
theorem w38n (p : Option Addr) (cap : Nat) (l : List ByteArray) (w : World) (h : StrsAt w p l) (hl : l.length < 4611686018427387904) (hd : ∀ s ∈ l, digs s ≤ 100) (hsz : ∀ s ∈ l, s.size < 4611686018427387904) :
    Calls Tryz.prog 38 #[.slice p l.length cap, .func (.func 90) #[] #[]] w fun e w' => e = .returned (.int .i64 (-1)) ∧ w' = w := by
  have H := Lib.hid h
  have HALL := Lib.hid (fun s hs W => w90 s (hd s hs) (hsz s hs) W)
  clear h hd hsz
  go_enter Tryz.func38, Tryz.ntmps38
  go_wp2
  go_loopw [8] (fun i wr => ∃ k : Nat, i = .int .i64 k ∧ k ≤ l.length ∧ Hid (wr = w)) (fun i _ => l.length - (intOf i).toNat)
  case atStart => exact ⟨0, rfl, Nat.zero_le _, Lib.hid rfl⟩
  case round =>
    obtain ⟨k, rfl, hk, HB⟩ := hrel
    have hw := HB.out
    subst hw
    by_cases hk2 : k < l.length
    · obtain ⟨b, off, rfl, hb, hcells⟩ := H.out (by rintro rfl; simp at hk2)
      have hck := hcells k hk2
      have H90 := HALL.out l[k] (List.getElem_mem hk2) wr
      obtain ⟨s, hs⟩ : ∃ s, l[k] = s := ⟨_, rfl⟩
      rw [hs] at H90 hck
      clear hs hcells HB
      go_wp2_with (first | (go_at_call 90; refine H90.mono ?_; rintro e w2 ⟨rfl, rfl⟩))
      refine ⟨⟨k + 1, rfl, hk2, Lib.hid (by first | trivial | rfl)⟩, ?_⟩
      show l.length - ((k : Int) + 1).toNat < l.length - (k : Int).toNat
      omega
    · obtain rfl : k = l.length := by omega
      go_wp2
      go_ret
      exact ⟨rfl, rfl⟩

theorem w89 (p : Option Addr) (cap : Nat) (l : List ByteArray) (w : World) (h : StrsAt w p l) (hl : l.length < 4611686018427387904) (hd : ∀ s ∈ l, digs s ≤ 100) (hsz : ∀ s ∈ l, s.size < 4611686018427387904) :
    Calls Tryz.prog 89 #[.slice p l.length cap, .func (.func 90) #[] #[]] w fun e w' => e = .returned (.slice p l.length cap) ∧ w' = w := by
  have H38 := w38n p cap l w h hl hd hsz
  clear h hd hsz
  go_enter Tryz.func89, Tryz.ntmps89
  go_wp2_with (go_at_call 38; refine H38.mono ?_; rintro e w' ⟨rfl, rfl⟩)
  go_ret
  exact ⟨rfl, rfl⟩

end Go.Proofs.YtlbmihpmcgiinaaGreatDoor.Own
end

/- Chapter 39: sets of texts as data: plain facts. -/
section
namespace Go.Proofs.YtlbmihpmcgiinaaGreatDoor.Own
open Go Go.Proofs Go.RowKit Go.Maps

/-- The set of some texts, as a datum. -/
def setD {H : Type} (L : List (List UInt8)) : DataW H := setOf (.lit (.bool true)) (L.map .string)

theorem setD_nil {H : Type} : (setD [] : DataW H) = .map [] := rfl
theorem setD_snoc {H : Type} (L : List (List UInt8)) (x : List UInt8) : (setD (L ++ [x]) : DataW H) = (setD L).put (.string x) (.lit (.bool true)) := by
  unfold setD
  rw [List.map_append, List.map_singleton, setOf_snoc]

theorem keyLits (L : List (List UInt8)) : ∀ x ∈ L.map Lit.string, WideAt.IsKeyLit x := fun x hx => by
  obtain ⟨y, _, rfl⟩ := List.mem_map.mp hx
  exact trivial

theorem setD_has {H : Type} (L : List (List UInt8)) (x : List UInt8) : has (setD L : DataW H) (.string x) = true ↔ x ∈ L := by
  unfold setD
  rw [has_setOf _ _ _ (keyLits L), List.any_eq_true]
  constructor
  · rintro ⟨y, hy, he⟩
    obtain ⟨z, hz, rfl⟩ := List.mem_map.mp hy
    have : z = x := by simpa [Lit.sameKey] using he
    exact this ▸ hz
  · intro h
    exact ⟨.string x, List.mem_map.mpr ⟨x, h, rfl⟩, by simp [Lit.sameKey]⟩

theorem setD_size {H : Type} (L : List (List UInt8)) : Maps.size (setD L : DataW H) ≤ L.length := by
  have key : ∀ (l : List (List UInt8)) (m : DataW H), Tidy m → Maps.size ((l.map Lit.string).foldl (fun m x => m.put x (.lit (.bool true))) m) ≤ Maps.size m + l.length := by
    intro l
    induction l with
    | nil => intro m _; exact Nat.le_refl _
    | cons x l ih =>
      intro m hm
      have hk : WideAt.IsKeyLit (.string x) := trivial
      have h1 := ih (m.put (.string x) (.lit (.bool true))) (hm.put hk _)
      have h2 : Maps.size (m.put (.string x) (.lit (.bool true))) ≤ Maps.size m + 1 := by
        rw [size_put hm]
        split <;> omega
      rw [List.map_cons, List.foldl_cons, List.length_cons]
      omega
  have := key L (.map []) tidy_empty
  unfold setD setOf
  have h0 : Maps.size (.map [] : DataW H) = 0 := rfl
  omega

/-- The keys of an own map: each once, and just those that it has. -/
theorem own_keys {H : Type} {w : World} {b n : Nat} {L : List (List UInt8)} (h : w.ownsMap Tryz.prog 23 (plainElem (H := H) Tryz.prog 4) b n (setD L)) : (strKeys (setD L : DataW H)).Nodup ∧ ∀ x, x ∈ strKeys (setD L : DataW H) ↔ x ∈ L := by
  obtain ⟨es, he, hp⟩ := tidy_setOf (.lit (.bool true) : DataW H) (L.map .string) (keyLits L)
  have he : (setD L : DataW H) = .map es := he
  have hks : ∀ p ∈ es, ∃ x, p.1 = .string x := by
    obtain ⟨es2, e2, h2⟩ := h.keysOf
    rw [he] at e2
    cases e2
    intro p hp
    obtain ⟨v, hv⟩ := h2 p hp
    obtain ⟨x, _, e, _⟩ := Maps.keyOf_str Tryz.underlying23 hv
    exact ⟨x, e⟩
  have hsk : strKeys (setD L : DataW H) = es.map fun p => Go.strOf p.1 := by rw [he]; rfl
  constructor
  · rw [hsk, List.Nodup, List.pairwise_map]
    refine List.Pairwise.imp_of_mem (fun {p q} hp hq hne e => ?_) hp
    obtain ⟨x, ex⟩ := hks p hp
    obtain ⟨y, ey⟩ := hks q hq
    rw [ex, ey] at e hne
    exact hne (by rw [show x = y from e])
  · intro x
    rw [hsk, ← setD_has (H := H) L x, he, has_eq, List.any_eq_true, List.mem_map]
    constructor
    · rintro ⟨p, hp, rfl⟩
      obtain ⟨y, ey⟩ := hks p hp
      exact ⟨p, hp, by rw [ey]; simp [Go.strOf, Lit.sameKey]⟩
    · rintro ⟨p, hp, hs⟩
      obtain ⟨y, ey⟩ := hks p hp
      refine ⟨p, hp, ?_⟩
      rw [ey] at hs ⊢
      simpa [Go.strOf, Lit.sameKey] using hs

def toB (x : List UInt8) : ByteArray := ⟨x.toArray⟩
theorem toB_enc (l : List (List UInt8)) : l.map encStr = (l.map toB).map Value.string := by rw [List.map_map]; rfl
theorem toB_of (s : ByteArray) : toB s.data.toList = s := rfl
theorem toB_list (x : List UInt8) : (toB x).data.toList = x := by simp [toB]

/-- The sorted keys ascend strictly. -/
theorem asc_of {ts ks : List (List UInt8)} (hp : List.Perm ts ks) (hn : ks.Nodup) (hk : ∀ x ∈ ks, chk (toB x) = 0) (ha : ascT ts) : Asc (ts.map toB) := by
  unfold Asc
  rw [List.pairwise_map]
  have hn2 : ts.Pairwise (· ≠ ·) := hp.nodup_iff.mpr hn
  have h2 := ha.and hn2
  refine List.Pairwise.imp_of_mem (fun {a b} ma mb h => ?_) h2
  have h1 : decInt a ≤ decInt b := h.1
  have h3 : a ≠ b := h.2
  have ca := hk a (hp.mem_iff.mp ma)
  have cb := hk b (hp.mem_iff.mp mb)
  have : decInt a ≠ decInt b := fun e => by
    have := val_inj ca cb (by unfold val; rw [toB_list, toB_list]; exact e)
    exact h3 (by rw [← toB_list a, ← toB_list b, this])
  unfold val
  rw [toB_list, toB_list]
  omega

end Go.Proofs.YtlbmihpmcgiinaaGreatDoor.Own
end

/- Chapter 39: walks: (threshold.set).limited, threshold.merged, threshold.Merge. -/
section
namespace Go.Proofs.YtlbmihpmcgiinaaGreatDoor.Own
open Go Go.Proofs Go.RowKit Go.Maps

theorem chk_size {s : ByteArray} (h : chk s = 0) (hd : digs s ≤ 100) : 0 < s.size ∧ s.size < 4611686018427387904 := by
  refine ⟨canon_pos (canon_of_chk h), ?_⟩
  have hlen : s.data.toList.length = s.size := by rw [Array.length_toList]; rfl
  unfold digs at hd
  split at hd
  · rename_i m e
    rw [← hlen, e, List.length_cons]
    omega
  · rw [← hlen]
    omega

set_option maxRecDepth 100000 in
set_option maxHeartbeats 2000000 in
theorem w73 (b n : Nat) (L : List (List UInt8)) (w : World) (hown : w.ownsMap Tryz.prog 23 (plainElem (H := Unit) Tryz.prog 4) b n (setD L)) (hk : ∀ x ∈ L, chk (toB x) = 0) (hd : ∀ x ∈ L, digs (toB x) ≤ 100) (hlen : L.length ≤ 1000000) (h10 : 10 ≤ w.heap.size) :
    Calls Tryz.prog 73 #[.map (some b)] w fun e w' => ∃ q c m, e = .returned (.slice q (limL m).length c) ∧ StrsAt w' q (limL m) ∧ Asc m ∧ (∀ x, x ∈ m ↔ x.data.toList ∈ L) ∧ Below w.heap.size w w' := by
  obtain ⟨kn, km⟩ := own_keys hown
  have hsz := setD_size (H := Unit) L
  have hk2 : ∀ x ∈ strKeys (setD L : DataW Unit), chk ⟨x.toArray⟩ = 0 := fun x hx => hk x ((km x).mp hx)
  have H71 := w71 b n (setD L : DataW Unit) w hown hk2 (by omega) h10
  have HKD : Hid (∀ x, x.data.toList ∈ L → chk x = 0 ∧ digs x ≤ 100) := Lib.hid fun x hx => ⟨hk _ hx, hd _ hx⟩
  have HP : Hid (∀ ts, List.Perm ts (strKeys (setD L : DataW Unit)) → ascT ts → Asc (ts.map toB) ∧ (∀ x, x ∈ ts.map toB ↔ x.data.toList ∈ L) ∧ ts.length ≤ 1000000) := Lib.hid fun ts hp ha => by
    refine ⟨asc_of hp kn hk2 ha, fun x => ?_, ?_⟩
    · rw [← km, ← hp.mem_iff, List.mem_map]
      constructor
      · rintro ⟨y, hy, rfl⟩
        rw [toB_list]; exact hy
      · intro hx
        exact ⟨_, hx, rfl⟩
    · have h1 := hp.length_eq
      have h2 : (strKeys (setD L : DataW Unit)).length = Maps.size (setD L : DataW Unit) := by
        obtain ⟨es, he⟩ := (hown.keysOf)
        rw [he.1]
        simp [strKeys, Maps.size_eq]
      omega
  clear hown kn km hk2 hk hd hsz hlen
  go_enter Tryz.func73, Tryz.ntmps73
  go_wp2_with (go_at_call 71; refine H71.mono ?_; rintro e w2 ⟨v, ts, rfl, hperm, hasc, hrow, hnil, hB⟩)
  obtain ⟨ham, hmm, hml⟩ := HP.out ts hperm hasc
  rw [toB_enc] at hrow
  have hln : (ts.map toB).length = ts.length := List.length_map ..
  rw [← hln] at hrow hml
  have HAM := Lib.hid ham
  have HMM := Lib.hid hmm
  generalize ts.map toB = m0 at *
  obtain ⟨q, c, rfl, hat, hcap⟩ := texts_of_owns hrow
  have hcd0 : (∀ s ∈ m0, chk s = 0) ∧ (∀ s ∈ m0, digs s ≤ 100) := ⟨fun s hs => (HKD.out s ((HMM.out s).mp hs)).1, fun s hs => (HKD.out s ((HMM.out s).mp hs)).2⟩
  have HCD0 := Lib.hid hcd0
  have H89 := w89 q c m0 w2 hat (by omega) hcd0.2 (fun s hs => (chk_size (hcd0.1 s hs) (hcd0.2 s hs)).2)
  have HAT := Lib.hid hat
  obtain ⟨r, hr⟩ : ∃ r, limL m0 = r := ⟨_, rfl⟩
  have HR := Lib.hid hr
  clear ham hmm hrow hat hcd0 hr hperm hasc hnil hln HP HKD H71
  go_wp2_with (go_at_call 89; refine H89.mono ?_; rintro e w3 ⟨rfl, rfl⟩)
  clear H89
  go_loopw [3] (fun u wr2 => ∃ (q : Option Addr) (c : Nat) (m : List ByteArray), u = .slice q m.length c ∧ m.length ≤ c ∧ Hid (StrsAt wr2 q m) ∧ Hid (∀ s ∈ m, chk s = 0) ∧ Hid (∀ s ∈ m, digs s ≤ 100) ∧ m.length ≤ 1000000 ∧ Hid (limL m = r) ∧ Below w.heap.size w wr2) (fun u _ => match u with | .slice _ n _ => n | _ => 0)
  case atStart => exact ⟨q, c, m0, rfl, hcap, HAT, Lib.hid HCD0.out.1, Lib.hid HCD0.out.2, hml, HR, hB⟩
  case round =>
    obtain ⟨q, c, m, rfl, hmc, HS, HCm, HDm, hml2, HRm, hBm⟩ := hrel
    have h10r : 10 ≤ wr.heap.size := Nat.le_trans h10 hBm.size
    by_cases hlen : 256 < m.length
    · have hst := HRm.out
      rw [limL_step hlen, head_get hlen, last_get hlen] at hst
      obtain ⟨b', off, rfl, hb, hcells⟩ := HS.out (by rintro rfl; simp at hlen)
      obtain ⟨j, hj⟩ : ∃ j, m.length = j + 1 := ⟨m.length - 1, by omega⟩
      have hc0 : wr.cell? ⟨b', off, none⟩ = some (.string m[0]) := hcells 0 (by omega)
      have hc1 := hcells (m.length - 1) (by omega)
      have ht0 := HCm.out m[0] (List.getElem_mem _)
      have ht1 := HCm.out m[m.length - 1] (List.getElem_mem _)
      have hz0 := chk_size ht0 (HDm.out m[0] (List.getElem_mem _))
      have hz1 := chk_size ht1 (HDm.out m[m.length - 1] (List.getElem_mem _))
      obtain ⟨x, hx⟩ : ∃ x, m[0] = x := ⟨_, rfl⟩
      obtain ⟨y, hy⟩ : ∃ y, m[m.length - 1] = y := ⟨_, rfl⟩
      rw [hx] at hc0 ht0 hz0 hst
      rw [hy] at hc1 ht1 hz1 hst
      have e1 : m.length - 1 = j := by omega
      rw [e1] at hc1
      have K91 := Lib.hid (fun W (hW : 10 ≤ W.heap.size) => w91 x ht0 hz0.2 W hW)
      have K91' := Lib.hid (fun W (hW : 10 ≤ W.heap.size) => w91 y ht1 hz1.2 W hW)
      have K40 := Lib.hid (fun W (hW : 10 ≤ W.heap.size) => w40 (magT x) (magT y) (magT_chk ht0) (magT_chk ht1) W hW)
      generalize sgn (decInt (magT x).data.toList - decInt (magT y).data.toList) = z at K40 hst
      generalize magT x = x' at *
      generalize magT y = y' at *
      have HST := Lib.hid hst
      have hjj : j < 4611686018427387904 := by omega
      have hkb3 : (0 : Int) ≤ (j : Int) := by omega
      have hkb4 : (0 : Int) < (j : Int) + 1 := by omega
      have hkb5 : (j : Int) < (j : Int) + 1 := by omega
      have hg : (256 : Int) < (j : Int) + 1 := by omega
      have hjc : (j : Int) + 1 ≤ (c : Int) := by omega
      have hjc2 : j + 1 ≤ c := by omega
      have hjm : j < 1000000 := by omega
      have hw3 : wrap64 (j : Int) = (j : Int) := w27_wrap3 j hjj
      have hw4 : IntKind.i64.wrap (j : Int) = (j : Int) := w27_wrap4 j hjj
      have hw5 : IntKind.i64.wrap ((j : Int) + 1 - 1) = (j : Int) := w27_wrap5 j hjj
      have hw6 : wrap64 ((j : Int) + 1 - 1) = (j : Int) := w27_wrap6 j hjj
      have ek : (((j + 1 : Nat) : Int)) = (j : Int) + 1 := rfl
      have HM := Lib.hid hj
      rw [hj]
      rw [hj] at hmc
      clear hcells ht0 ht1 hz0 hz1 hx hy hst e1 hlen hml2 hjj hj
      go_wp2_with (first
        | (go_at_call 91; ((with_reducible refine (K91.out _ h10r).mono ?_); rintro e w3 ⟨rfl, hB3⟩); have hc13 := (hB3.cell (p := ⟨b', off + j, none⟩) hb).trans hc1; have h10s := Nat.le_trans h10r hB3.size)
        | (go_at_call 91; ((with_reducible refine (K91'.out _ h10s).mono ?_); rintro e w4 ⟨rfl, hB4⟩); have h10t := Nat.le_trans h10s hB4.size)
        | (go_at_call 40; ((with_reducible refine (K40.out _ h10t).mono ?_); rintro e w5 ⟨rfl, hB5⟩)))
      all_goals
        have hBF : Hid (Below wr.heap.size wr w5) := Lib.hid ((hB3.trans (hB4.mono hB3.size)).trans (hB5.mono (Nat.le_trans hB3.size hB4.size)))
        have hBG : Below w.heap.size w w5 := hBm.trans (hBF.out.mono hBm.size)
        have HS2 := Lib.hid (HS.out.below hBF.out)
        have HT1 : m.tail.length = j := by rw [List.length_tail, HM.out]; rfl
        have HT2 : m.dropLast.length = j := by rw [List.length_dropLast, HM.out]; rfl
        clear hw3 hw4 hw5 hw6 ek
        have hst := HST.out
      · rw [if_pos (by assumption)] at hst
        refine ⟨⟨_, c - 1, m.tail, by rw [HT1], by rw [HT1]; omega, Lib.hid HS2.out.tail, Lib.hid (mem_tail HCm.out), Lib.hid (mem_tail HDm.out), by rw [HT1]; omega, Lib.hid hst, hBG⟩, ?_⟩
        show j < j + 1
        omega
      · rw [if_neg (by omega)] at hst
        refine ⟨⟨_, c, m.dropLast, by rw [HT2], by rw [HT2]; omega, Lib.hid HS2.out.dropLast, Lib.hid (mem_init HCm.out), Lib.hid (mem_init HDm.out), by rw [HT2]; omega, Lib.hid hst, hBG⟩, ?_⟩
        show j < j + 1
        omega
    · have hst := HRm.out
      rw [limL_stop hlen] at hst
      have HST := Lib.hid (hst.trans HR.out.symm)
      clear hst
      go_wp2
      go_ret
      exact ⟨q, c, m0, by rw [HST.out]; rfl, by rw [← HST.out]; exact HS.out, HAM.out, HMM.out, hBm⟩

theorem keyLit23 {s : ByteArray} (h : s.size ≤ maxLen) : keyOf Tryz.prog 23 (.string s) = some (.string s.data.toList) := by
  simp [keyOf, Tryz.underlying23, mapKey, h]

/-- The lists' bytes. -/
def datas (l : List ByteArray) : List (List UInt8) := l.map fun s => s.data.toList
theorem datas_len (l : List ByteArray) : (datas l).length = l.length := List.length_map ..
theorem datas_take (l : List ByteArray) (k : Nat) (hk : k < l.length) (L : List (List UInt8)) : L ++ datas (l.take (k + 1)) = (L ++ datas (l.take k)) ++ [l[k].data.toList] := by
  unfold datas
  rw [List.take_succ_eq_append_getElem hk, List.map_append, List.append_assoc]
  rfl

set_option maxRecDepth 100000 in
set_option maxHeartbeats 2000000 in
theorem w57 (B : Nat) (pa pb : Option Addr) (ca cb : Nat) (a b : List ByteArray) (w : World) (hBl : B < w.heap.size) (c0 : w.cell? ⟨B, 0, none⟩ = some (.slice pa a.length ca)) (c1 : w.cell? ⟨B, 1, none⟩ = some (.slice pb b.length cb))
    (ha : StrsAt w pa a) (hb : StrsAt w pb b) (hca : ∀ s ∈ a, chk s = 0 ∧ digs s ≤ 100) (hcb : ∀ s ∈ b, chk s = 0 ∧ digs s ≤ 100) (hla : a.length ≤ 1000) (hlb : b.length ≤ 1000) (h10 : 10 ≤ w.heap.size) :
    Calls Tryz.prog 57 #[.slice (some ⟨B, 0, none⟩) 2 2] w fun e w' => ∃ q c m, e = .returned (.slice q (limL m).length c) ∧ StrsAt w' q (limL m) ∧ Asc m ∧ (∀ x, x ∈ m ↔ x ∈ a ∨ x ∈ b) ∧ Below w.heap.size w w' := by
  have PICK : ∀ k, k < 2 → ∃ px cx x L, Hid (w.cell? ⟨B, k, none⟩ = some (.slice px x.length cx)) ∧ Hid (StrsAt w px x) ∧ Hid (∀ s ∈ x, chk s = 0 ∧ digs s ≤ 100) ∧ x.length ≤ 1000 ∧ Hid ((k = 0 → L = []) ∧ (k = 1 → L = datas a) ∧ (k = 0 → x = a) ∧ (k = 1 → x = b)) := fun k hk => by
    rcases (by omega : k = 0 ∨ k = 1) with rfl | rfl
    · exact ⟨pa, ca, a, [], Lib.hid c0, Lib.hid ha, Lib.hid hca, hla, Lib.hid ⟨fun _ => rfl, by omega, fun _ => rfl, by omega⟩⟩
    · exact ⟨pb, cb, b, datas a, Lib.hid c1, Lib.hid hb, Lib.hid hcb, hlb, Lib.hid ⟨by omega, fun _ => rfl, by omega, fun _ => rfl⟩⟩
  have HP := Lib.hid PICK
  have HFIN : Hid ((∀ x ∈ datas a ++ datas b, chk (toB x) = 0) ∧ (∀ x ∈ datas a ++ datas b, digs (toB x) ≤ 100) ∧ (datas a ++ datas b).length ≤ 2000 ∧ ∀ x : ByteArray, x.data.toList ∈ datas a ++ datas b ↔ x ∈ a ∨ x ∈ b) := by
    have mem : ∀ (l : List ByteArray) (x : ByteArray), x.data.toList ∈ datas l ↔ x ∈ l := fun l x => by
      unfold datas
      rw [List.mem_map]
      constructor
      · rintro ⟨y, hy, e⟩
        rw [← toB_of x, ← e, toB_of]; exact hy
      · intro h; exact ⟨x, h, rfl⟩
    have both : ∀ x ∈ datas a ++ datas b, chk (toB x) = 0 ∧ digs (toB x) ≤ 100 := fun x hx => by
      rcases List.mem_append.mp hx with h | h
      · obtain ⟨s, hs, rfl⟩ := List.mem_map.mp h
        exact hca s hs
      · obtain ⟨s, hs, rfl⟩ := List.mem_map.mp h
        exact hcb s hs
    exact Lib.hid ⟨fun x hx => (both x hx).1, fun x hx => (both x hx).2, by rw [List.length_append, datas_len, datas_len]; omega, fun x => by rw [List.mem_append, mem, mem]⟩
  have HLEN : Hid ((datas a).length ≤ 1000 ∧ (datas b).length ≤ 1000) := Lib.hid ⟨by rw [datas_len]; exact hla, by rw [datas_len]; exact hlb⟩
  clear c0 c1 ha hb hca hcb hla hlb PICK
  have hmm := @run_makeMap Tryz.prog
  go_enter Tryz.func57, Tryz.ntmps57
  go_wp2
  go_loopw [11] (fun i wr => ∃ (k n : Nat) (L : List (List UInt8)), i = .int .i64 k ∧ k ≤ 2 ∧ wr.ownsMap Tryz.prog 23 (plainElem (H := Unit) Tryz.prog 4) w.heap.size n (setD L) ∧ n ≤ 1000 * k ∧ Hid ((k = 0 → L = []) ∧ (k = 1 → L = datas a) ∧ (k = 2 → L = datas a ++ datas b)) ∧ Below w.heap.size w wr) (fun i _ => 2 - (intOf i).toNat)
  case atStart => exact ⟨0, 0, [], rfl, by omega, World.ownsMap_made _ _ _ _, by omega, Lib.hid ⟨fun _ => rfl, by omega, by omega⟩, (Below.refl _ _).alloc (Nat.le_refl _) _⟩
  case round =>
    obtain ⟨k, n, L, rfl, hk, hown, hn, HL, hB⟩ := hrel
    by_cases hk2 : k < 2
    · obtain ⟨px, cx, x, L', hcl, HX, HCX, hlx, HL'⟩ := HP.out k hk2
      have hLL : L' = L := by
        rcases (by omega : k = 0 ∨ k = 1) with rfl | rfl
        · rw [HL.out.1 rfl, HL'.out.1 rfl]
        · rw [HL.out.2.1 rfl, HL'.out.2.1 rfl]
      subst hLL
      have hcell : wr.cell? ⟨B, k, none⟩ = _ := (hB.cell (p := ⟨B, k, none⟩) hBl).trans hcl.out
      have hxn : x.length ≤ 1000 := hlx
      clear hlx
      go_wp2
      go_loopw [17] (fun i2 wr2 => ∃ (j n2 : Nat), i2 = .int .i64 j ∧ j ≤ x.length ∧ wr2.ownsMap Tryz.prog 23 (plainElem (H := Unit) Tryz.prog 4) w.heap.size n2 (setD (L' ++ datas (x.take j))) ∧ n2 ≤ n + j ∧ Below w.heap.size w wr2) (fun i2 _ => x.length - (intOf i2).toNat)
      case atStart => exact ⟨0, n, rfl, Nat.zero_le _, by simpa [datas] using hown, by omega, hB⟩
      case round =>
        rename_i wr0
        obtain ⟨j, n2, rfl, hj, hown2, hn2, hB2⟩ := hrel
        by_cases hj2 : j < x.length
        · obtain ⟨bx, ox, rfl, hbx, hcells⟩ := HX.out (by rintro rfl; simp at hj2)
          have hck := (hB2.cell (p := ⟨bx, ox + j, none⟩) hbx).trans (hcells j hj2)
          have HST := Lib.hid (datas_take x j hj2 L')
          have hsz := chk_size (HCX.out _ (List.getElem_mem hj2)).1 (HCX.out _ (List.getElem_mem hj2)).2
          have hdg := (HCX.out _ (List.getElem_mem hj2)).2
          have hkey := keyLit23 (s := x[j]) (by have := digs_size x[j]; have := (HCX.out _ (List.getElem_mem hj2)).2; unfold maxLen; omega)
          obtain ⟨s, hs⟩ : ∃ s, x[j] = s := ⟨_, rfl⟩
          rw [hs] at hck HST hkey
          clear hs hcells hsz hdg hmm
          go_wp2_with (first
            | (at_mapUpdate; refine wpList_mapUpdate_own _ rfl _ _ _ 110 rfl 23 4 keyed23 Tryz.underlying110 _ w.heap.size n2 _ rfl hown2 (by unfold maxLen; omega) _ _ _ rfl rfl hkey _ [] (plainElem_bool Tryz.underlying4 true) ?_; intro w1 hown1 hgrow1; go_frame)
            | go_in)
          go_roundw
          case rel => exact ⟨j + 1, n2 + 1, by go_num, hj2, by rw [HST.out, setD_snoc]; exact hown1, by omega, hB2.grown hgrow1 hB2.size (fun q hq => by cases hq; exact Nat.le_refl _)⟩
          case measure => simp [intOf]; omega
        · obtain rfl : j = x.length := by omega
          rw [List.take_length] at hown2
          have hnx : n2 ≤ 1000 * (k + 1) := by omega
          have HLN : Hid ((k + 1 = 0 → L' ++ datas x = []) ∧ (k + 1 = 1 → L' ++ datas x = datas a) ∧ (k + 1 = 2 → L' ++ datas x = datas a ++ datas b)) := Lib.hid (by
            rcases (by omega : k = 0 ∨ k = 1) with rfl | rfl
            · rw [HL'.out.1 rfl, HL'.out.2.2.1 rfl]; exact ⟨by omega, fun _ => rfl, by omega⟩
            · rw [HL'.out.2.1 rfl, HL'.out.2.2.2 rfl]; exact ⟨by omega, by omega, fun _ => rfl⟩)
          go_wp2
          refine ⟨⟨k + 1, n2, _, rfl, hk2, hown2, hnx, HLN, hB2⟩, ?_⟩
          show 2 - ((k : Int) + 1).toNat < 2 - (k : Int).toNat
          omega
    · obtain rfl : k = 2 := by omega
      have hL := HL.out.2.2 rfl
      subst hL
      have H73 := w73 w.heap.size n _ wr hown HFIN.out.1 HFIN.out.2.1 (by have := HFIN.out.2.2.1; omega) (Nat.le_trans h10 hB.size)
      clear hown
      go_wp2_with (go_at_call 73; refine H73.mono ?_; rintro e w2 ⟨q, c, m, rfl, hat, ham, hmm, hB2⟩)
      go_ret
      exact ⟨q, c, m, rfl, hat, ham, fun x => (hmm x).trans (HFIN.out.2.2.2 x), hB.trans (hB2.mono hB.size)⟩

end Go.Proofs.YtlbmihpmcgiinaaGreatDoor.Own
end

/- Chapter 39: walks: threshold.Merge. -/
section
namespace Go.Proofs.YtlbmihpmcgiinaaGreatDoor.Own
open Go Go.Proofs Go.RowKit

/-- The limited union of two checked lists is the reference's. -/
theorem union_is {a b m : List ByteArray} (ha : checkL a = 0) (hb : checkL b = 0) (hm : Asc m) (hx : ∀ x, x ∈ m ↔ x ∈ a ∨ x ∈ b) : m = mergeL a b := by
  have ca := checkL_all ha
  have cb := checkL_all hb
  have hmm : ∀ x, x ∈ m ↔ x ∈ mergeL a b := fun x => by rw [hx, mergeL_mem]
  have call := mergeL_all (P := fun s => chk s = 0) ca cb
  exact asc_ext m (mergeL a b) hm (mergeL_asc b a ca cb (checkL_asc ha).1) (fun s hs => call s ((hmm s).mp hs)) call hmm

set_option maxRecDepth 100000 in
set_option maxHeartbeats 1000000 in
theorem w24 (pa pb : Option Addr) (ca cb : Nat) (a b : List ByteArray) (w : World) (ha : StrsAt w pa a) (hb : StrsAt w pb b) (sa : ∀ s ∈ a, s.size < 4611686018427387904) (sb : ∀ s ∈ b, s.size < 4611686018427387904) (hla : a.length ≤ 1000) (hlb : b.length ≤ 1000) (h10 : 10 ≤ w.heap.size) :
    Calls Tryz.prog 24 #[.slice pa a.length ca, .slice pb b.length cb] w fun e w' => ∃ q c, e = .returned (.tuple #[.slice q (mergeR a b).1.length c, .int .i64 (mergeR a b).2]) ∧ StrsAt w' q (mergeR a b).1 ∧ Below w.heap.size w w' := by
  have H26 := w26 pa ca a w ha sa (by omega) h10
  have K26 := Lib.hid (fun W (hW : Below w.heap.size w W) => w26 pb cb b W (hb.below hW) sb (by omega) (Nat.le_trans h10 hW.size))
  have K57 := Lib.hid (fun B W (hW : Below w.heap.size w W) (hB : B < W.heap.size) (c0 : W.cell? ⟨B, 0, none⟩ = some (.slice pa a.length ca)) (c1 : W.cell? ⟨B, 1, none⟩ = some (.slice pb b.length cb)) (h1 : checkL a = 0) (h2 : checkL b = 0) =>
    w57 B pa pb ca cb a b W hB c0 c1 (ha.below hW) (hb.below hW) (fun s hs => ⟨checkL_all h1 s hs, (checkL_asc h1).2.1 s hs⟩) (fun s hs => ⟨checkL_all h2 s hs, (checkL_asc h2).2.1 s hs⟩) hla hlb (Nat.le_trans h10 hW.size))
  have HU : Hid (checkL a = 0 → checkL b = 0 → ∀ m, Asc m → (∀ x, x ∈ m ↔ x ∈ a ∨ x ∈ b) → m = mergeL a b) := Lib.hid fun h1 h2 m h3 h4 => union_is h1 h2 h3 h4
  obtain ⟨r, hr⟩ : ∃ r, mergeR a b = r := ⟨_, rfl⟩
  rw [hr]
  unfold mergeR at hr
  generalize mergeL a b = u at *
  generalize checkL a = x at *
  generalize checkL b = y at *
  clear ha hb sa sb
  by_cases hx : x = 0
  · subst hx
    rw [if_neg (by simp)] at hr
    by_cases hy : y = 0
    · subst hy
      rw [if_neg (by simp)] at hr
      subst hr
      go_enter Tryz.func24, Tryz.ntmps24
      go_wp2_with (first
        | (go_at_call 26; ((with_reducible refine H26.mono ?_); rintro e w2 ⟨rfl, hB⟩); have H26b := K26.out w2 hB)
        | (go_at_call 26; ((with_reducible refine H26b.mono ?_); rintro e w3 ⟨rfl, hB2⟩); have hBB := hB.trans (hB2.mono hB.size))
        | (go_at_call 57; obtain ⟨d0, d1, _, _⟩ := two_cells (World.alloc_heap_new w3 (.cells #[.slice pa a.length ca, .slice pb b.length cb] 22)); ((with_reducible refine (K57.out _ _ (hBB.alloc hBB.size _) (by simp) d0 d1 trivial trivial).mono ?_); rintro e w4 ⟨q, c, m, rfl, hat, ham, hmm, hB4⟩)))
      have hm := HU.out trivial trivial m ham hmm
      have hBF := (hBB.alloc hBB.size _).trans (hB4.mono (hBB.alloc hBB.size _).size)
      go_ret2
      rw [← hm]
      exact ⟨q, c, rfl, hat, hBF⟩
    · rw [if_pos hy] at hr
      subst hr
      have hne : (y != 0) = true := by simpa using hy
      go_enter Tryz.func24, Tryz.ntmps24
      go_wp2_with (first | (go_at_call 26; ((with_reducible refine H26.mono ?_); rintro e w2 ⟨rfl, hB⟩); have H26b := K26.out w2 hB) | (go_at_call 26; ((with_reducible refine H26b.mono ?_); rintro e w3 ⟨rfl, hB2⟩); have hBB := hB.trans (hB2.mono hB.size)))
      go_ret2
      exact ⟨none, 0, rfl, fun k => absurd rfl k, hBB⟩
  · rw [if_pos hx] at hr
    subst hr
    have hne : (x != 0) = true := by simpa using hx
    go_enter Tryz.func24, Tryz.ntmps24
    go_wp2_with (first | (go_at_call 26; ((with_reducible refine H26.mono ?_); rintro e w2 ⟨rfl, hB⟩)))
    go_ret2
    exact ⟨none, 0, rfl, fun k => absurd rfl k, hB⟩

end Go.Proofs.YtlbmihpmcgiinaaGreatDoor.Own
end
