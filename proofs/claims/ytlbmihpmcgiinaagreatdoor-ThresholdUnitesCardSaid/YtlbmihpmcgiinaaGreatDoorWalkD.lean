/- Chapter 39: walks: bigint.trim. -/
import Derived.Test.YtlbmihpmcgiinaaGreatDoorWalkC
import Derived.Lib.ConvBytes
import Derived.RangeFuncBox
import Derived.RangeFuncFrom
import Derived.RangeFuncLeaves
import Derived.Shelf.Abstract
import Derived.WalkKit
import Derived.OwnWalkIn
import Derived.TacticsInMore
import Derived.LoopNIn
import Derived.LoopIn
import Derived.Maps.AppendAt

section
namespace Go.Proofs.YtlbmihpmcgiinaaGreatDoor.Own
open Go Go.Proofs Go.RowKit

/-- Where a slice begins: its cells hold these numbers. -/
def RowAt (w : World) (p : Option Addr) (l : List Int) : Prop :=
  l ≠ [] → ∃ b off, p = some ⟨b, off, none⟩ ∧ b < w.heap.size ∧ ∀ k (hk : k < l.length), w.cell? ⟨b, off + k, none⟩ = some (.int .i64 l[k])

theorem RowAt.take {w : World} {p : Option Addr} {l : List Int} (h : RowAt w p l) (k : Nat) : RowAt w p (l.take k) := by
  intro hne
  obtain ⟨b, off, h1, h2, h3⟩ := h (by rintro rfl; simp at hne)
  refine ⟨b, off, h1, h2, fun j hj => ?_⟩
  rw [List.length_take] at hj
  rw [List.getElem_take]
  exact h3 j (by omega)

theorem RowAt.below {w w' : World} {p : Option Addr} {l : List Int} (h : RowAt w p l) (k : Below w.heap.size w w') : RowAt w' p l := by
  intro hne
  obtain ⟨b, off, h1, h2, h3⟩ := h hne
  exact ⟨b, off, h1, Nat.lt_of_lt_of_le h2 k.size, fun j hj => (k.cell (p := ⟨b, off + j, none⟩) h2).trans (h3 j hj)⟩

theorem trimmed_take {l : List Int} {k : Nat} (h0 : 0 < k) (hk : k ≤ l.length) (h : l[k - 1] ≠ 0) : Trimmed (l.take k) := by
  intro x a e hx
  apply h
  have h1 : (l.take k).length = a.length + 1 := by rw [e]; simp
  rw [List.length_take, Nat.min_eq_left hk] at h1
  have h2 : (l.take k)[k - 1]? = some x := by
    rw [e, List.getElem?_append_right (by omega), show k - 1 - a.length = 0 by omega]
    rfl
  rw [List.getElem?_take_of_lt (by omega), List.getElem?_eq_getElem (by omega)] at h2
  rw [Option.some.inj h2, hx]

theorem lval_zeros (B : Int) : ∀ (l : List Int), (∀ x ∈ l, x = 0) → lval B l = 0 := by
  intro l
  induction l with
  | nil => intro _; rfl
  | cons x l ih =>
    intro h
    rw [lval, h x (List.mem_cons_self ..), ih (fun y hy => h y (List.mem_cons_of_mem _ hy))]
    simp

theorem lval_take (B : Int) (l : List Int) (k : Nat) (h : ∀ j (_ : j < l.length), k ≤ j → l[j] = 0) : lval B (l.take k) = lval B l := by
  have e : l.take k ++ l.drop k = l := List.take_append_drop k l
  have hz : lval B (l.drop k) = 0 := lval_zeros B _ (fun x hx => by
    obtain ⟨j, hj, rfl⟩ := List.getElem_of_mem hx
    rw [List.getElem_drop]
    exact h _ _ (by omega))
  have := lval_append B (l.take k) (l.drop k)
  rw [e, hz] at this
  rw [this]; simp

theorem w134 (p : Option Addr) (cap : Nat) (l : List Int) (w : World) (h : RowAt w p l) (hc : l.length ≤ cap) (hl : l.length < 4611686018427387904) :
    Calls Tryz.prog 134 #[.slice p l.length cap] w fun e w' => (∃ k, k ≤ l.length ∧ Trimmed (l.take k) ∧ (∀ j (_ : j < l.length), k ≤ j → l[j] = 0) ∧ e = .returned (.slice p k cap)) ∧ w' = w := by
  have H := Lib.hid h
  clear h
  go_enter Tryz.func134, Tryz.ntmps134
  go_wp2
  go_loop [0] (fun v => ∃ k, k ≤ l.length ∧ Hid (∀ j (_ : j < l.length), k ≤ j → l[j] = 0) ∧ v = .slice p k cap) (fun v => match v with | .slice _ k _ => k | _ => 0)
  case atStart => exact ⟨l.length, Nat.le_refl _, Lib.hid fun j h1 h2 => by omega, rfl⟩
  case round =>
    obtain ⟨k, hk, HZ, rfl⟩ := hrel
    by_cases h0 : k = 0
    · subst h0
      go_wp2
      go_ret
      exact ⟨⟨0, Nat.zero_le _, by rw [List.take_zero]; exact Trimmed.nil, HZ.out, rfl⟩, rfl⟩
    · obtain ⟨b, off, rfl, hb, hcell⟩ := H.out (by rintro rfl; simp at hk; omega)
      have hc1 := hcell (k - 1) (by omega)
      go_wp2
      · rename_i hz
        refine ⟨⟨k - 1, by omega, Lib.hid fun j h1 h2 => ?_, rfl⟩, ?_⟩
        · by_cases e : j = k - 1
          · subst e
            exact beq_iff_eq.mp hz
          · exact HZ.out j h1 (by omega)
        · show k - 1 < k
          omega
      · rename_i hz _
        go_ret
        exact ⟨⟨k, hk, trimmed_take (by omega) hk (by simpa using hz), HZ.out, rfl⟩, rfl⟩

end Go.Proofs.YtlbmihpmcgiinaaGreatDoor.Own
end

/- Chapter 39: walks: strconv.Atoi at few digits. -/
section
namespace Go.Proofs.YtlbmihpmcgiinaaGreatDoor.Own
open Go Go.Proofs Go.RowKit

theorem byte_lit (b : UInt8) (c : Nat) (h : b.toNat ≠ c) : ((b.toNat : Int) == (c : Int)) = false := by
  rw [beq_eq_false_iff_ne]
  intro e
  exact h (Int.ofNat.inj e)

theorem decNat_take_succ (l : List UInt8) (k : Nat) (h : k < l.length) : decNat (l.take (k + 1)) 0 = 10 * decNat (l.take k) 0 + (l[k].toNat - 48) := by
  rw [List.take_succ_eq_append_getElem h, decNat_append]
  rfl

set_option maxRecDepth 100000 in
theorem w239 (s : ByteArray) (h0 : 0 < s.size) (h9 : s.size ≤ 9) (hd : Digits s.data.toList) (w : World) :
    Calls Tryz.prog 239 #[.string s] w fun e w' => e = .returned (.tuple #[.int .i64 (decNat s.data.toList 0 : Nat), .nilIface]) ∧ Below w.heap.size w w' := by
  have hlen : s.data.toList.length = s.size := by rw [Array.length_toList]; rfl
  have hb0 := hd s[0] (by rw [show s[0] = s.data.toList[0]'(by omega) from by simp; rfl]; exact List.getElem_mem _)
  have e45 : ((s[0].toNat : Int) == 45) = false := byte_lit _ 45 (by omega)
  have e43 : ((s[0].toNat : Int) == 43) = false := byte_lit _ 43 (by omega)
  have hconv := Lib.run_convert_string_bytes (P := Tryz.prog) w 9 106 5 s Tryz.underlying9 Tryz.underlying106 Tryz.underlying5
  have hcell : ∀ k (hk : k < s.size), (Lib.bytesWorld w 5 s).cell? ⟨w.heap.size, k, none⟩ = some (.int .u8 (s.data.toList[k]'(by omega)).toNat) := fun k hk => by
    rw [Lib.bytesWorld_cell w 5 s k hk]
    simp [List.getD, List.getElem?_eq_getElem (show k < s.data.toList.length by omega)]
  have HC := Lib.hid hcell
  have hB : Below w.heap.size w (Lib.bytesWorld w 5 s) := ⟨rfl, rfl, rfl, by rw [Lib.bytesWorld_size]; omega, fun k hk => Lib.bytesWorld_at_old w 5 s k hk⟩
  have HB := Lib.hid hB
  have HD := Lib.hid hd
  clear hcell hB hd hb0
  go_enter Tryz.func239, Tryz.ntmps239
  go_wp2
  go_loop [6, 49] (fun n i => ∃ k : Nat, k ≤ s.size ∧ i = .int .i64 k ∧ n = .int .i64 (decNat (s.data.toList.take k) 0 : Nat)) (fun _ i => s.size - (intOf i).toNat)
  case atStart => exact ⟨0, Nat.zero_le _, rfl, rfl⟩
  case round =>
    obtain ⟨k, hk, rfl, rfl⟩ := hrel
    by_cases hk2 : k < s.size
    · have hc := HC.out k hk2
      have hdk := HD.out _ (List.getElem_mem (show k < s.data.toList.length by omega))
      have hn1 : decNat (s.data.toList.take k) 0 < 1000000000 := by
        have h1 := decNat_lt (s.data.toList.take k) (fun b hb => HD.out b (List.mem_of_mem_take hb))
        have h2 : 10 ^ (s.data.toList.take k).length ≤ 10 ^ 9 := Nat.pow_le_pow_right (by omega) (by rw [List.length_take]; omega)
        omega
      have HN := Lib.hid (decNat_take_succ s.data.toList k (by omega))
      generalize (s.data.toList[k]'(by omega)).toNat = c at hc hdk HN
      generalize decNat (s.data.toList.take k) 0 = m at hn1 HN ⊢
      go_wp2
      have hn := HN.out
      refine ⟨⟨k + 1, hk2, by simp, ?_⟩, ?_⟩
      · rw [hn]
        congr 1
        omega
      · show s.size - ((k : Int) + 1).toNat < s.size - (k : Int).toNat
        omega
    · obtain rfl : k = s.size := by omega
      go_wp2
      go_ret2
      have e : s.data.toList.take s.size = s.data.toList := List.take_of_length_le (by omega)
      refine ⟨?_, HB.out⟩
      show Ending.returned (.tuple #[.int .i64 (decNat (s.data.toList.take s.size) 0 : Nat), .nilIface]) = _
      rw [e]

/-- strconv.Atoi -/
theorem w189 (s : ByteArray) (h0 : 0 < s.size) (h9 : s.size ≤ 9) (hd : Digits s.data.toList) (w : World) :
    Calls Tryz.prog 189 #[.string s] w fun e w' => e = .returned (.tuple #[.int .i64 (decNat s.data.toList 0 : Nat), .nilIface]) ∧ Below w.heap.size w w' := by
  have H := w239 s h0 h9 hd w
  generalize decNat s.data.toList 0 = n at H ⊢
  go_enter Tryz.func189, Tryz.ntmps189
  go_wp2_with (first | (go_at_call 239; refine H.mono ?_; rintro e w' ⟨rfl, hB⟩))
  go_ret2
  exact ⟨rfl, hB⟩

end Go.Proofs.YtlbmihpmcgiinaaGreatDoor.Own
end

/- Chapter 39: walks: the groups of nine digits (bigint.chunks and its iterator). -/
section
namespace Go.Proofs.YtlbmihpmcgiinaaGreatDoor.Own
open Go Go.Proofs Go.RowKit Go.Shelf
attribute [local go_sem] Oper.semAt_some

abbrev B9 : Int := 1000000000

/-- The limbs of a text of digits. -/
def Chunks (s : ByteArray) (xs : List Int) : Prop := InB B9 xs ∧ lval B9 xs = (decNat s.data.toList 0 : Nat)

theorem seg_val (l : List UInt8) (t : Nat) (ht : t ≤ l.length) : decNat (l.take t) 0 = 1000000000 * decNat (l.take (t - 9)) 0 + decNat ((l.take t).drop (t - 9)) 0 := by
  have e : l.take (t - 9) ++ (l.take t).drop (t - 9) = l.take t := by
    have := List.take_append_drop (t - 9) (l.take t)
    rwa [List.take_take, Nat.min_eq_left (by omega)] at this
  rw [← e, decNat_append, decNat_acc, e]
  by_cases h : 9 ≤ t
  · have hl : ((l.take t).drop (t - 9)).length = 9 := by rw [List.length_drop, List.length_take]; omega
    rw [hl]; omega
  · have h0 : t - 9 = 0 := by omega
    rw [h0]; simp [decNat]

theorem seg_list (s : ByteArray) (a t : Nat) : (s.extract a t).data.toList = (s.data.toList.take t).drop a := by
  rw [ByteArray.data_extract, Array.toList_extract, List.extract_eq_take_drop, List.drop_take]

theorem seg_step (s : ByteArray) (t : Nat) (ht : t ≤ s.size) (pre : List Int) (h : lval B9 pre + B9 ^ pre.length * (decNat (s.data.toList.take t) 0 : Nat) = (decNat s.data.toList 0 : Nat)) :
    lval B9 (pre ++ [((decNat (s.extract (t - 9) t).data.toList 0 : Nat) : Int)]) + B9 ^ (pre ++ [((decNat (s.extract (t - 9) t).data.toList 0 : Nat) : Int)]).length * (decNat (s.data.toList.take (t - 9)) 0 : Nat) = (decNat s.data.toList 0 : Nat) := by
  have hlen : s.data.toList.length = s.size := by rw [Array.length_toList]; rfl
  have e := seg_val s.data.toList t (by omega)
  rw [← seg_list] at e
  rw [e] at h
  rw [lval_snoc, List.length_append, List.length_singleton, Int.pow_succ, Int.mul_assoc]
  rw [← h, Int.add_assoc, ← Int.mul_add]
  congr 1
  rw [show (B9 * (decNat (List.take (t - 9) s.data.toList) 0 : Nat) : Int) = ((1000000000 * decNat (List.take (t - 9) s.data.toList) 0 : Nat) : Int) by simp [B9]]
  congr 1
  omega

theorem chunks1 (n : Nat) (hn : 1 ≤ n) (l Bd n₀ : Nat) (s : ByteArray) (hs : s.size < 4611686018427387904) (hd : Digits s.data.toList) (J Jx : List Int → World → Prop)
    (hY : ∀ pre x W, J pre W → pre.length < s.size → YieldAt Fence.wide (n - 1) Tryz.prog l #[.int .i64 x] W fun e W' =>
      (e = .returned (.bool true) ∧ J (pre ++ [x]) W' ∧ Below n₀ W W') ∨ (e = .returned (.bool false) ∧ Jx (pre ++ [x]) W'))
    (W : World) (hJ : AbidesFrom W.heap.size J) (hn₀ : n₀ ≤ W.heap.size) (hBlt : Bd < n₀) (hBd : W.cell? ⟨Bd, 0, none⟩ = some (.string s)) (h0 : J [] W) :
    CallsIn Fence.wide n Tryz.prog 188 #[.func (.yield l) #[] #[], .pointer (some ⟨Bd, 0, none⟩)] W fun e W' => (∃ v, e = .returned v) ∧
      ((∃ ys, Chunks s ys ∧ J ys W') ∨ (∃ pre, True ∧ Jx pre W')) := by
  have hlen : s.data.toList.length = s.size := by rw [Array.length_toList]; rfl
  have HD := Lib.hid hd
  clear hd
  refine callsIn_of_wp Tryz.func188 rfl trivial ?_ rfl
  simp only [Tryz.ntmps188, List.size_toArray, List.length_cons, List.length_nil, Nat.reduceAdd, Nat.reduceSub, Array.replicate_succ, Array.replicate_zero, List.push_toArray, List.append_toArray, List.nil_append, List.cons_append]
  gi_wp2
  gi_loopw [3] (fun p wr => ∃ (z : Int) (pre : List Int), p = .int .i64 z ∧ z ≤ s.size ∧ -9 < z ∧ InB B9 pre ∧ pre.length * 9 + z = s.size ∧
      Hid (lval B9 pre + B9 ^ pre.length * (decNat (s.data.toList.take z.toNat) 0 : Nat) = (decNat s.data.toList 0 : Nat)) ∧ J pre wr ∧ wr.cell? ⟨Bd, 0, none⟩ = some (.string s) ∧ n₀ ≤ wr.heap.size)
    (fun p _ => (intOf p + 9).toNat)
  case atStart =>
    exact ⟨s.size, [], rfl, Int.le_refl _, by omega, InB.nil, by simp, Lib.hid (by simp [lval, List.take_of_length_le (Nat.le_of_eq hlen)]), h0, hBd, hn₀⟩
  case round =>
    obtain ⟨z, pre, rfl, hz1, hz2, hin, hcount, HV, hJs, hcell, hsz⟩ := hrel
    by_cases hz : 0 < z
    · obtain ⟨t, rfl⟩ : ∃ t : Nat, z = t := ⟨z.toNat, by omega⟩
      have hmax : max (0 : Int) ((t : Int) - 9) = ((t - 9 : Nat) : Int) := by omega
      gi_wp2
      refine ⟨trivial, ?_⟩
      have hsz0 : (s.extract (t - 9) t).size = t - (t - 9) := by rw [ByteArray.size_extract, Nat.min_eq_left (by omega)]
      have hdig : Digits (s.extract (t - 9) t).data.toList := by
        rw [seg_list]
        exact fun b hb => HD.out b (List.mem_of_mem_take (List.mem_of_mem_drop hb))
      have HS := Lib.hid (seg_step s t (by omega) pre HV.out)
      have hx : decNat (s.extract (t - 9) t).data.toList 0 < 1000000000 := by
        have h1 := decNat_lt _ hdig
        have h2 : (s.extract (t - 9) t).data.toList.length = t - (t - 9) := by rw [Array.length_toList]; exact hsz0
        have h3 : 10 ^ (s.extract (t - 9) t).data.toList.length ≤ 10 ^ 9 := Nat.pow_le_pow_right (by omega) (by omega)
        omega
      refine (callsIn_wide.2 (w189 _ (by omega) (by omega) hdig wr)).mono ?_
      rintro e w2 ⟨rfl, hB⟩
      generalize decNat (s.extract (t - 9) t).data.toList 0 = x at HS hx ⊢
      have hJ2 : J pre w2 := hJ pre wr w2 none hJs ⟨hB.os, hB.tape, hB.output, hB.size, fun k hk _ => hB.block k hk⟩ (fun r h => by cases h)
      have hBlt2 : Bd < wr.heap.size := by omega
      have hcell2 : w2.cell? ⟨Bd, 0, none⟩ = some (.string s) := (hB.cell (p := ⟨Bd, 0, none⟩) hBlt2).trans hcell
      have hsz2 : n₀ ≤ w2.heap.size := Nat.le_trans hsz hB.size
      obtain ⟨fn, tmps, assign, body, hy, hR⟩ := hY pre x w2 hJ2 (by omega)
      gi_wp2
      refine hR.mono ?_
      rintro e W3 (⟨rfl, hJ3, hk3⟩ | ⟨rfl, hJx3⟩)
      · have hcell3 : W3.cell? ⟨Bd, 0, none⟩ = some (.string s) := (hk3.cell (p := ⟨Bd, 0, none⟩) hBlt).trans hcell2
        gi_wp2
        go_roundw
        case rel =>
          refine ⟨(t : Int) - 9, pre ++ [(x : Int)], rfl, by omega, by omega, hin.append (InB.one (by omega) (by simp only [B9]; omega)), ?_, Lib.hid ?_, hJ3, hcell3, Nat.le_trans hsz2 hk3.size⟩
          · rw [List.length_append, List.length_singleton]; omega
          · rw [show ((t : Int) - 9).toNat = t - 9 by omega]
            exact HS.out
        case measure =>
          show (((t : Int) - 9) + 9).toNat < ((t : Int) + 9).toNat
          omega
      · gi_wp2
        refine bodyPost_ret (results_none rfl _ _ _) rfl ?_
        exact ⟨⟨_, rfl⟩, .inr ⟨_, trivial, hJx3⟩⟩
    · gi_wp2
      go_end0
      refine ⟨⟨_, rfl⟩, .inl ⟨pre, ⟨hin, ?_⟩, hJs⟩⟩
      have hv := HV.out
      rw [show z.toNat = 0 by omega, List.take_zero] at hv
      simpa [decNat] using hv

end Go.Proofs.YtlbmihpmcgiinaaGreatDoor.Own
end
