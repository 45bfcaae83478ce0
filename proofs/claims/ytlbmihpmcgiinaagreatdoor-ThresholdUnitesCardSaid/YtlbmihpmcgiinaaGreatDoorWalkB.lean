/- Chapter 39: walks: strings.Trim at the digits. -/
import Derived.Test.YtlbmihpmcgiinaaGreatDoorWalkA
import Derived.Test.YtlbmihpmcgiinaaGreatDoorMemo1
import Derived.Deep.WholeRow
import Derived.Test.YtlbmihpmcgiinaaGreatDoorTCutPrefix

section
namespace Go.Proofs.YtlbmihpmcgiinaaGreatDoor.Own
open Go Go.Proofs Go.RowKit

def isDig (c : UInt8) : Bool := 48 ≤ c && c ≤ 57

def digSet : ByteArray := ⟨#[48, 49, 50, 51, 52, 53, 54, 55, 56, 57]⟩

def set0 : Array Value := match a126_1 with | (_, .tuple ⟨[.agg x, _]⟩) :: _ => x | _ => #[]
theorem set0_ok : a126_1 = [([.string digSet], .tuple #[.agg set0, .bool true])] := rfl
theorem set0_size : set0.size = 256 := by kernel_rfl
theorem set0_all : (List.range 256).all (fun n => match set0[n]? with | some (.bool x) => x == isDig (UInt8.ofNat n) | _ => false) = true := by kernel_rfl
theorem set0_get (c : UInt8) : set0[c.toNat]? = some (.bool (isDig c)) := by
  have h := List.all_eq_true.mp set0_all c.toNat (List.mem_range.mpr c.toNat_lt)
  split at h
  · rename_i x hx
    rw [hx]
    have : UInt8.ofNat c.toNat = c := by simp
    rw [this] at h
    rw [beq_iff_eq.mp h]
  · cases h

/-- strings.makeASCIISet at the digits, by the engine. -/
theorem w126 (w : World) (h : 10 ≤ w.heap.size) : Calls Tryz.prog 126 #[.string digSet] w fun e w' => e = .returned (.tuple #[.agg set0, .bool true]) ∧ Grown w w' := by
  have hk := h126_1
  rw [set0_ok] at hk
  obtain ⟨_, _, hk⟩ := hk [.string digSet] _ (List.mem_singleton.mpr rfl)
  exact hk w (by rw [show P0.globals.size = 10 from by kernel_rfl]; exact h)

end Go.Proofs.YtlbmihpmcgiinaaGreatDoor.Own
end

/- Chapter 39: walks: strings.Trim at the digits. -/
section
namespace Go.Proofs.YtlbmihpmcgiinaaGreatDoor.Own
open Go Go.Proofs Go.RowKit

theorem below_of_grown {w w' : World} (h : Go.Proofs.YtlbmihpmcgiinaaGreatDoor.Own.Grown w w') : Below w.heap.size w w' := ⟨h.os, h.tape, h.output, h.size, fun k hk => h.keep k hk⟩

theorem w94 (s : ByteArray) (hs : s.size < 4611686018427387904) (w : World) (h : 10 ≤ w.heap.size) :
    Calls Tryz.prog 94 #[.string s, .string digSet] w fun e w' => e = .returned (bstr ((cutP isDig s.data.toList).dropWhile isDig)) ∧ Below w.heap.size w w' := by
  obtain ⟨cs, hsz, hc, h126⟩ : ∃ cs : Array Value, cs.size = 256 ∧ (∀ c : UInt8, cs[c.toNat]? = some (.bool (isDig c))) ∧ Calls Tryz.prog 126 #[.string digSet] w fun e w' => e = .returned (.tuple #[.agg cs, .bool true]) ∧ Go.Proofs.YtlbmihpmcgiinaaGreatDoor.Own.Grown w w' := ⟨set0, set0_size, set0_get, w126 w h⟩
  have hone : cs.all (·.oneCell') = true := by
    rw [Array.all_eq_true]
    intro i hi
    have := hc (UInt8.ofNat i)
    have e : (UInt8.ofNat i).toNat = i := by simp; omega
    rw [e, Array.getElem?_eq_getElem hi] at this
    rw [Option.some.inj this]; rfl
  have HST : Hid (∀ W : World, (storeCells ⟨W.heap.size, 0, none⟩ cs.toList).run Tryz.prog (W.alloc (.cells Tryz.zeroCells170 170)) = .ok () (W.alloc (.cells cs 170))) := Lib.hid fun W =>
    run_storeCells_new W 170 Tryz.zeroCells170 cs (by rw [hsz]; kernel_rfl) (by rw [hsz]; kernel_rfl) hone
  have HC2 : Hid (∀ (W : World) (c : UInt8), (W.alloc (.cells cs 170)).cell? ⟨W.heap.size, c.toNat, none⟩ = some (.bool (isDig c))) := Lib.hid fun W c => by
    rw [cell_of (c := cs) (e := 170) (fz := (0, 0)) (by simp [World.alloc, -World.alloc_eq])]
    exact hc c
  have hcut : (cutP isDig s.data.toList).length ≤ s.data.toList.length := by
    unfold cutP
    rw [List.length_reverse]
    exact Nat.le_trans (List.Sublist.length_le (List.dropWhile_sublist _)) (by simp)
  have HS := Lib.hid hsz
  have HC := Lib.hid hc
  clear hsz hc
  go_enter Tryz.func94, Tryz.ntmps94
  go_wp2_with (first | (go_at_call 126; refine h126.mono ?_; rintro e w' ⟨rfl, hG⟩))
  · go_ret
    rename_i h0
    refine ⟨?_, Below.refl _ _⟩
    have hd : s.data.toList = [] := by rw [← ByteArray.toList_eq]; exact h0
    rw [hd]
    show Ending.returned (.string s) = _
    obtain ⟨⟨l⟩⟩ := s
    have : l = [] := hd
    subst this
    rfl
  · exfalso
    rename_i h1 h2
    rcases h2 with h2 | h2
    · exact h1 (List.isEmpty_iff.mp h2)
    · rw [ByteArray.toList_eq] at h2; cases h2
  rename_i w' hG _ _ _
  rw [HST.out w']
  have hcs : (⟨(cutP isDig s.data.toList).toArray⟩ : ByteArray).size < 4611686018427387904 := by
    have : (⟨(cutP isDig s.data.toList).toArray⟩ : ByteArray).size = (cutP isDig s.data.toList).length := by simp [ByteArray.size]
    have h2 : s.data.toList.length = s.size := by rw [Array.length_toList]; rfl
    omega
  go_wp2_with (first | (go_at_call 128; refine (w128 isDig s hs _ _ (HC2.out w')).mono ?_; rintro e w2 ⟨rfl, rfl⟩) | (go_at_call 127; refine (w127 isDig ⟨(cutP isDig s.data.toList).toArray⟩ hcs _ _ (HC2.out w')).mono ?_; rintro e w2 ⟨rfl, rfl⟩))
  all_goals go_ret
  all_goals exact ⟨rfl, (below_of_grown hG).alloc hG.size _⟩

end Go.Proofs.YtlbmihpmcgiinaaGreatDoor.Own
end

/- Chapter 39: walks: bigint.canonical and Check. -/
section
namespace Go.Proofs.YtlbmihpmcgiinaaGreatDoor.Own
open Go Go.Proofs Go.RowKit

/-- The magnitude's text. -/
def magn (l : List UInt8) : List UInt8 := Lib.trimPrefix l [45]

/-- Is a text the one of an integer? -/
def canon (l : List UInt8) : Bool :=
  if magn l = [48] then !(Lib.hasPrefix l [45]) else match magn l with
    | [] => false
    | b :: r => b != 48 && ((cutP isDig (b :: r)).dropWhile isDig == [])

theorem w94' (s : ByteArray) (hs : s.size < 4611686018427387904) (w : World) (h : 10 ≤ w.heap.size) :
    Calls Tryz.prog 94 #[.string s, .string digSet] w fun e w' => e = .returned (.string ⟨((cutP isDig s.data.toList).dropWhile isDig).toArray⟩) ∧ Below w.heap.size w w' := w94 s hs w h

theorem magn_len (s : ByteArray) (hs : s.size < 4611686018427387904) : (⟨(Lib.trimPrefix s.data.toList [45]).toArray⟩ : ByteArray).size < 4611686018427387904 := by
  have h1 : (⟨(Lib.trimPrefix s.data.toList [45]).toArray⟩ : ByteArray).size = (Lib.trimPrefix s.data.toList [45]).length := by simp [ByteArray.size]
  have h2 : s.data.toList.length = s.size := by rw [Array.length_toList]; rfl
  have h3 : (Lib.trimPrefix s.data.toList [45]).length ≤ s.data.toList.length := by
    unfold Lib.trimPrefix; split <;> simp
  omega

theorem canon_zero (l : List UInt8) (h : (Lib.trimPrefix l [45] == [48]) = true) : canon l = !Lib.hasPrefix l [45] := by
  unfold canon magn
  rw [if_pos (beq_iff_eq.mp h)]
theorem canon_nil (l : List UInt8) (h : (Lib.trimPrefix l [45] == [48]) = false) (h1 : Lib.trimPrefix l [45] = []) : canon l = false := by
  unfold canon magn
  rw [if_neg (by intro k; rw [k] at h; simp at h), h1]
theorem canon_lead (l : List UInt8) (h : (Lib.trimPrefix l [45] == [48]) = false) (h1 : 0 < (Lib.trimPrefix l [45]).length) (h2 : 0 < (⟨(Lib.trimPrefix l [45]).toArray⟩ : ByteArray).size) :
    canon l = (!(Lib.trimPrefix l [45]).isEmpty && ((((⟨(Lib.trimPrefix l [45]).toArray⟩ : ByteArray)[0]'h2).toNat : Int) != 48) && ((cutP isDig (Lib.trimPrefix l [45])).dropWhile isDig).isEmpty) := by
  unfold canon magn
  rw [if_neg (by intro k; rw [k] at h; simp at h)]
  revert h h1 h2
  generalize Lib.trimPrefix l [45] = M
  intro h h1 h2
  cases M with
  | nil => simp at h1
  | cons b r =>
    have e : ((⟨(b :: r).toArray⟩ : ByteArray)[0]'h2) = b := rfl
    rw [e]
    have e2 : (b != 48) = ((b.toNat : Int) != 48) := by
      rw [Bool.eq_iff_iff, bne_iff_ne, bne_iff_ne]
      refine not_congr ⟨fun k => by rw [k]; rfl, fun k => UInt8.toNat_inj.mp ?_⟩
      show b.toNat = 48
      omega
    rw [← e2]
    simp only [List.isEmpty_cons, Bool.not_false, Bool.true_and]
    congr 1
    cases (cutP isDig (b :: r)).dropWhile isDig <;> rfl

theorem w76 (s : ByteArray) (hs : s.size < 4611686018427387904) (w : World) (h : 10 ≤ w.heap.size) :
    Calls Tryz.prog 76 #[.string s] w fun e w' => e = .returned (.bool (canon s.data.toList)) ∧ Below w.heap.size w w' := by
  have hm := magn_len s hs
  go_enter Tryz.func76, Tryz.ntmps76
  go_wp2_with (first | (go_at_call 93; refine (Tryz.strings_CutPrefix _ _ _).mono ?_; rintro e w' ⟨rfl, rfl⟩) | (go_at_call 94; refine (w94' _ hm _ h).mono ?_; rintro e w' ⟨rfl, hB⟩))
  · go_ret
    exact ⟨congrArg (fun x => Ending.returned (.bool x)) (canon_zero _ (by assumption)).symm, Below.refl _ _⟩
  · go_ret
    exact ⟨congrArg (fun x => Ending.returned (.bool x)) (canon_nil _ (by assumption) (by assumption)).symm, Below.refl _ _⟩
  · rename_i h1 h2 h3
    go_ret
    refine ⟨congrArg (fun x => Ending.returned (.bool x)) ?_, Below.refl _ _⟩
    have h4 : 0 < (⟨(Lib.trimPrefix s.data.toList [45]).toArray⟩ : ByteArray).size := by simpa [ByteArray.size] using h2
    rw [canon_lead _ (by assumption) h2 h4, h3]
    simp
  · go_ret
    refine ⟨congrArg (fun x => Ending.returned (.bool x)) ?_, by assumption⟩
    have h2 : 0 < (Lib.trimPrefix s.data.toList [45]).length := by assumption
    have h4 : 0 < (⟨(Lib.trimPrefix s.data.toList [45]).toArray⟩ : ByteArray).size := by simpa [ByteArray.size] using h2
    exact (canon_lead _ (by assumption) h2 h4).symm
  · have h1 : ¬ Lib.trimPrefix s.data.toList [45] = [] := by assumption
    have h2 : ¬ 0 < (Lib.trimPrefix s.data.toList [45]).length := by assumption
    exact absurd (List.length_pos_iff.mpr h1) h2

end Go.Proofs.YtlbmihpmcgiinaaGreatDoor.Own
end
