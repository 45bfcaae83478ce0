/- Chapter 39: walks: the reference's Check and Few. -/
import Derived.Test.YtlbmihpmcgiinaaGreatDoorRefB
import Derived.Test.YtlbmihpmcgiinaaGreatDoorLawA
import Derived.Deep.RegionHeld3
import Derived.Deep.QuietTactic
import Derived.BigQuiet
namespace Go.Proofs.YtlbmihpmcgiinaaGreatDoor.Own
open Go Go.Proofs Go.RowKit

theorem w27_wrap3 (j : Nat) (h : j < 4611686018427387904) : wrap64 (j : Int) = (j : Int) := IntWalk.wrap64_in _ ⟨by omega, by omega⟩
theorem w27_wrap4 (j : Nat) (h : j < 4611686018427387904) : IntKind.i64.wrap (j : Int) = (j : Int) := IntWalk.i64_in _ ⟨by omega, by omega⟩
theorem w27_lt (j n : Nat) (h : j < n) (h2 : n < 4611686018427387904) : j < 4611686018427387904 := Nat.lt_trans h h2
theorem w27_wrap5 (j : Nat) (h : j < 4611686018427387904) : IntKind.i64.wrap ((j : Int) + 1 - 1) = (j : Int) := by rw [Int.add_sub_cancel]; exact w27_wrap4 j h
theorem w27_wrap6 (j : Nat) (h : j < 4611686018427387904) : wrap64 ((j : Int) + 1 - 1) = (j : Int) := by rw [Int.add_sub_cancel]; exact w27_wrap3 j h

theorem below_drewN {n : Nat} {w w' : World} (h : Below n w w') (q : Nat) : Below n w (w'.drewN q) := by
  cases q with
  | zero => exact h
  | succ q => exact ⟨h.os, h.tape, h.output, h.size, h.block⟩

set_option maxRecDepth 100000 in
set_option maxHeartbeats 1000000 in
theorem w27 (p : Option Addr) (cap : Nat) (l : List ByteArray) (w : World) (h : StrsAt w p l) (hsz : ∀ s ∈ l, s.size < 4611686018427387904) (hl : l.length < 4611686018427387904) :
    Calls Tryz.prog 27 #[.slice p l.length cap] w fun e w' => e = .returned (.int .i64 (checkL l)) ∧ Below w.heap.size w w' := by
  have H := Lib.hid h
  have HSZ := Lib.hid hsz
  obtain ⟨c, hc⟩ : ∃ c, checkL l = c := ⟨_, rfl⟩
  rw [hc]
  unfold checkL at hc
  clear h hsz
  go_enter Tryz.func27, Tryz.ntmps27
  by_cases hlen : 256 < l.length
  · rw [if_pos hlen] at hc
    subst hc
    go_wp2
    go_ret
    exact ⟨rfl, Below.refl _ _⟩
  · rw [if_neg hlen] at hc
    have HC := Lib.hid hc
    clear hc
    go_wp2
    go_loopw [3] (fun i wr => ∃ k : Nat, i = .int .i64 k ∧ k ≤ l.length ∧ Hid (ckL (l.drop k) (prevAt l k) = c) ∧ Hid (∀ j (_ : j < l.length), j < k → chk l[j] = 0) ∧ Hid (Below w.heap.size w wr)) (fun i _ => l.length - (intOf i).toNat)
    case atStart => exact ⟨0, rfl, Nat.zero_le _, HC, Lib.hid (fun j _ h => by omega), Lib.hid (Below.refl _ _)⟩
    case round =>
      obtain ⟨k, rfl, hk, HK, HP, HB⟩ := hrel
      by_cases hk2 : k < l.length
      · have hB := HB.out
        obtain ⟨b, off, rfl, hb, hcells⟩ := (H.out.below hB) (by rintro rfl; simp at hk2)
        have hck := hcells k hk2
        have hs := HSZ.out l[k] (List.getElem_mem hk2)
        have HSTEP := Lib.hid ((ckL_step l k hk2).symm.trans HK.out)
        obtain ⟨s, hsk⟩ : ∃ s, l[k] = s := ⟨_, rfl⟩
        have H30 := w30 s (hsk ▸ hs) wr
        have K61 := Lib.hid (fun (h0 : chk s = 0) => w61 s (canon_pos (canon_of_chk h0)) (hsk ▸ hs) wr)
        rw [hsk] at hck HSTEP
        by_cases h0 : chk s = 0
        · rw [h0] at H30
          have H61 := K61.out h0
          by_cases hd : 100 < digs s
          · have hcc := HSTEP.out
            rw [if_neg (by simp [h0]), if_pos hd] at hcc
            subst hcc
            generalize digs s = d at *
            clear hs hsk HSTEP hcells K61
            go_wp2_with (first | (go_at_call 30; refine H30.mono ?_; rintro e w2 ⟨rfl, rfl⟩) | (go_at_call 61; refine H61.mono ?_; rintro e w3 ⟨rfl, rfl⟩))
            go_ret
            exact ⟨rfl, HB.out⟩
          · have hcc := HSTEP.out
            rw [if_neg (by simp [h0]), if_neg hd] at hcc
            have HCC := Lib.hid hcc
            have HNX : Hid (∀ j (_ : j < l.length), j < k + 1 → chk l[j] = 0) := Lib.hid fun j h1 h2 => by
              by_cases e : j = k
              · subst e; rw [hsk]; exact h0
              · exact HP.out j h1 (by omega)
            by_cases hk0 : 0 < k
            · obtain ⟨j, rfl⟩ : ∃ j, k = j + 1 := ⟨k - 1, by omega⟩
              have hjj : j < 4611686018427387904 := w27_lt j _ (Nat.lt_of_succ_lt hk2) hl
              have hcp := hcells j (by omega)
              obtain ⟨q, hq⟩ : ∃ q, l[j]'(by omega) = q := ⟨_, rfl⟩
              have hq0 : chk q = 0 := by rw [← hq]; exact HP.out _ _ (by omega)
              rw [hq] at hcp
              have K32 := Lib.hid (fun W => w32 q s hq0 h0 W)
              have hpv : prevAt l (j + 1) = some q := by rw [prevAt_pos l hk0, Nat.add_sub_cancel, List.getElem?_eq_getElem (by omega), hq]
              rw [hpv] at hcc
              have hcc : (if decide (0 ≤ sgn (decInt q.data.toList - decInt s.data.toList)) = true then 14 else ckL (l.drop (j + 1 + 1)) (prevAt l (j + 1 + 1))) = c := hcc
              generalize sgn (decInt q.data.toList - decInt s.data.toList) = z at K32 hcc
              generalize digs s = d at *
              have HCC2 := Lib.hid hcc
              have hkb : (j : Int) < (l.length : Int) := by omega
              have hkb2 : (j : Int) + 1 < (l.length : Int) := by omega
              have hkb3 : (0 : Int) ≤ (j : Int) := by omega
              have hkb4 : (0 : Int) ≤ (j : Int) + 1 := by omega
              have hg : (0 : Int) < (j : Int) + 1 := by omega
              have hgd : decide ((0 : Int) < (j : Int) + 1) = true := decide_eq_true hg
              have hw3 : wrap64 (j : Int) = (j : Int) := w27_wrap3 j hjj
              have hw4 : IntKind.i64.wrap (j : Int) = (j : Int) := w27_wrap4 j hjj
              have hw5 : IntKind.i64.wrap ((j : Int) + 1 - 1) = (j : Int) := w27_wrap5 j hjj
              have hw : wrap64 ((j : Int) + 1 - 1) = (j : Int) := w27_wrap6 j hjj
              have ek : (((j + 1 : Nat) : Int)) = (j : Int) + 1 := rfl
              rw [ek]
              clear hjj hcells hs hsk hq hq0 hpv hcc HSTEP HCC K61 hk0 ek
              go_wp2_with (first | (go_at_call 30; refine H30.mono ?_; rintro e w2 ⟨rfl, rfl⟩) | (go_at_call 61; refine H61.mono ?_; rintro e w3 ⟨rfl, rfl⟩))
              have hS0 : w3.drew.cell? ⟨b, off + (j + 1), none⟩ = some (.string s) ∧ w3.drew.cell? ⟨b, off + j, none⟩ = some (.string q) ∧ Below w3.heap.size w3 w3.drew := ⟨hck, hcp, (Below.refl _ _).drew⟩
              have step : ∀ {A B : World}, (A.cell? ⟨b, off + (j + 1), none⟩ = some (.string s) ∧ A.cell? ⟨b, off + j, none⟩ = some (.string q) ∧ Below w3.heap.size w3 A) → Below A.heap.size A B → (B.cell? ⟨b, off + (j + 1), none⟩ = some (.string s) ∧ B.cell? ⟨b, off + j, none⟩ = some (.string q) ∧ Below w3.heap.size w3 B) := fun {A B} h k' => by
                have hsz := h.2.2.size
                exact ⟨(k'.cell (p := ⟨b, off + (j + 1), none⟩) (by show b < _; omega)).trans h.1, (k'.cell (p := ⟨b, off + j, none⟩) (by show b < _; omega)).trans h.2.1, h.2.2.trans (k'.mono hsz)⟩
              clear hck hcp H30 H61
              go_region_held3 (fun A => A.cell? ⟨b, off + (j + 1), none⟩ = some (.string s) ∧ A.cell? ⟨b, off + j, none⟩ = some (.string q) ∧ Below w3.heap.size w3 A) (first | exact hS0 | exact step (by assumption) (by assumption)) (first | (go_at_call 32; refine (K32.out _).mono ?_; rintro e w4 ⟨rfl, hB3⟩))
              rename_i w4 hB3 hH
              have hBF := Lib.hid (HB.out.trans (hH.2.2.mono HB.out.size))
              clear hH hB3 step hS0 K32
              by_cases hz : 0 ≤ z
              · have hcc := HCC2.out
                rw [if_pos (by simpa using hz)] at hcc
                subst hcc
                go_wp2
                go_ret
                exact ⟨rfl, hBF.out⟩
              · have hcc := HCC2.out
                rw [if_neg (by simpa using hz)] at hcc
                have HCC := Lib.hid hcc
                clear hcc HCC2
                go_wp2
                refine ⟨⟨j + 1 + 1, rfl, hk2, HCC, HNX, hBF⟩, ?_⟩
                show l.length - ((j : Int) + 1 + 1).toNat < l.length - ((j : Int) + 1).toNat
                omega
            · rw [prevAt_zero l hk0] at hcc
              have hcc : ckL (l.drop (k + 1)) (prevAt l (k + 1)) = c := hcc
              have HCC2 := Lib.hid hcc
              generalize digs s = d at *
              have hg : ¬ ((0 : Int) < (k : Int)) := by omega
              have hgd : decide ((0 : Int) < (k : Int)) = false := decide_eq_false hg
              have hgn : decide (0 < k) = false := decide_eq_false hk0
              have hkb : (k : Int) < (l.length : Int) := by omega
              have hkb3 : (0 : Int) ≤ (k : Int) := by omega
              clear hcells hs hsk hcc HSTEP HCC K61
              go_wp2_with (first | (go_at_call 30; refine H30.mono ?_; rintro e w2 ⟨rfl, rfl⟩) | (go_at_call 61; refine H61.mono ?_; rintro e w3 ⟨rfl, rfl⟩))
              clear hck hb H30 H61 hkb hg hgd hgn hkb3
              obtain rfl : k = 0 := by omega
              have ek : (((0 : Nat)) : Int) = 0 := rfl
              rw [ek]
              clear hk0 ek
              go_quiet (fail)
              go_wp2
              refine ⟨⟨0 + 1, rfl, hk2, HCC2, HNX, Lib.hid (below_drewN HB.out nq)⟩, ?_⟩
              show l.length - ((0 : Int) + 1).toNat < l.length - ((0 : Int)).toNat
              omega
        · have hcc := HSTEP.out
          rw [if_pos h0] at hcc
          generalize chk s = x at *
          subst hcc
          have hne : (x != 0) = true := by simpa using h0
          clear hs hsk HSTEP hcells K61
          go_wp2_with (first | (go_at_call 30; refine H30.mono ?_; rintro e w2 ⟨rfl, rfl⟩))
          go_ret
          exact ⟨rfl, HB.out⟩
      · obtain rfl : k = l.length := by omega
        have hcc := HK.out
        rw [List.drop_length] at hcc
        have hcc : 0 = c := hcc
        subst hcc
        go_wp2
        go_ret
        exact ⟨rfl, HB.out⟩

end Go.Proofs.YtlbmihpmcgiinaaGreatDoor.Own
