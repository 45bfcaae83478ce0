/- Chapter 39: walks: threshold.Check. -/
import Derived.Test.YtlbmihpmcgiinaaGreatDoorWalkG
namespace Go.Proofs.YtlbmihpmcgiinaaGreatDoor.Own
open Go Go.Proofs Go.RowKit

/-- Where a slice of texts begins. -/
def StrsAt (w : World) (p : Option Addr) (l : List ByteArray) : Prop :=
  l ≠ [] → ∃ b off, p = some ⟨b, off, none⟩ ∧ b < w.heap.size ∧ ∀ k (hk : k < l.length), w.cell? ⟨b, off + k, none⟩ = some (.string l[k])

theorem StrsAt.below {w w' : World} {p : Option Addr} {l : List ByteArray} (h : StrsAt w p l) (k : Below w.heap.size w w') : StrsAt w' p l := by
  intro hne
  obtain ⟨b, off, h1, h2, h3⟩ := h hne
  exact ⟨b, off, h1, Nat.lt_of_lt_of_le h2 k.size, fun j hj => (k.cell (p := ⟨b, off + j, none⟩) h2).trans (h3 j hj)⟩

/-- Is a text's number at least the next one's? -/
def notLess (q s : ByteArray) : Bool := decide (0 ≤ sgn (decInt q.data.toList - decInt s.data.toList))

/-- The number of Check's error from a place on. -/
def ckL : List ByteArray → Option ByteArray → Int
  | [], _ => 0
  | s :: l, q => if chk s ≠ 0 then chk s else if 100 < digs s then 10 else if (q.map (notLess · s)).getD false then 14 else ckL l (some s)

def checkL (l : List ByteArray) : Int := if 256 < l.length then 5 else ckL l none

def prevAt (l : List ByteArray) : Nat → Option ByteArray
  | 0 => none
  | k + 1 => l[k]?

theorem ckL_step (l : List ByteArray) (k : Nat) (hk : k < l.length) :
    ckL (l.drop k) (prevAt l k) = if chk l[k] ≠ 0 then chk l[k] else if 100 < digs l[k] then 10 else if ((prevAt l k).map (notLess · l[k])).getD false then 14 else ckL (l.drop (k + 1)) (prevAt l (k + 1)) := by
  rw [List.drop_eq_getElem_cons hk, ckL]
  simp only [prevAt]
  rw [List.getElem?_eq_getElem hk]

theorem prevAt_pos (l : List ByteArray) {k : Nat} (h : 0 < k) : prevAt l k = l[k - 1]? := by
  cases k with
  | zero => omega
  | succ k => rfl
theorem prevAt_zero (l : List ByteArray) {k : Nat} (h : ¬ 0 < k) : prevAt l k = none := by
  obtain rfl : k = 0 := by omega
  rfl

set_option maxRecDepth 100000 in
set_option maxHeartbeats 1000000 in
theorem w26 (p : Option Addr) (cap : Nat) (l : List ByteArray) (w : World) (h : StrsAt w p l) (hsz : ∀ s ∈ l, s.size < 4611686018427387904) (hl : l.length < 4611686018427387904) (h10 : 10 ≤ w.heap.size) :
    Calls Tryz.prog 26 #[.slice p l.length cap] w fun e w' => e = .returned (.int .i64 (checkL l)) ∧ Below w.heap.size w w' := by
  have H := Lib.hid h
  have HSZ := Lib.hid hsz
  obtain ⟨c, hc⟩ : ∃ c, checkL l = c := ⟨_, rfl⟩
  rw [hc]
  unfold checkL at hc
  clear h hsz
  go_enter Tryz.func26, Tryz.ntmps26
  by_cases hlen : 256 < l.length
  · rw [if_pos hlen] at hc
    subst hc
    go_wp2
    go_ret
    exact ⟨rfl, Below.refl _ _⟩
  · rw [if_neg hlen] at hc
    have HC := Lib.hid hc
    clear hc
    go_wp2
    go_loopw [11] (fun i wr => ∃ k : Nat, i = .int .i64 k ∧ k ≤ l.length ∧ Hid (ckL (l.drop k) (prevAt l k) = c) ∧ Hid (∀ j (_ : j < l.length), j < k → chk l[j] = 0) ∧ Hid (Below w.heap.size w wr)) (fun i _ => l.length - (intOf i).toNat)
    case atStart => exact ⟨0, rfl, Nat.zero_le _, HC, Lib.hid (fun j _ h => by omega), Lib.hid (Below.refl _ _)⟩
    case round =>
      obtain ⟨k, rfl, hk, HK, HP, HB⟩ := hrel
      by_cases hk2 : k < l.length
      · have hB := HB.out
        obtain ⟨b, off, rfl, hb, hcells⟩ := (H.out.below hB) (by rintro rfl; simp at hk2)
        have hck := hcells k hk2
        have hs := HSZ.out l[k] (List.getElem_mem hk2)
        have h10r : 10 ≤ wr.heap.size := Nat.le_trans h10 hB.size
        have HSTEP := Lib.hid ((ckL_step l k hk2).symm.trans HK.out)
        obtain ⟨s, hsk⟩ : ∃ s, l[k] = s := ⟨_, rfl⟩
        have H59 := w59 s (hsk ▸ hs) wr h10r
        have K60 : ∀ w, Calls Tryz.prog 60 #[.string s] w fun e w' => e = .returned (.int .i64 (digs s)) ∧ w' = w := fun w => w60 s (hsk ▸ hs) w
        rw [hsk] at hck HSTEP
        by_cases h0 : chk s = 0
        · rw [h0] at H59
          by_cases hd : 100 < digs s
          · have hcc := HSTEP.out
            rw [if_neg (by simp [h0]), if_pos hd] at hcc
            subst hcc
            generalize digs s = d at *
            clear hs hsk HSTEP hcells
            go_wp2_with (first | (go_at_call 59; refine H59.mono ?_; rintro e w2 ⟨rfl, hB2⟩) | (go_at_call 60; refine (K60 _).mono ?_; rintro e w3 ⟨rfl, rfl⟩))
            go_ret
            exact ⟨rfl, hB.trans (hB2.mono hB.size)⟩
          · have hcc := HSTEP.out
            rw [if_neg (by simp [h0]), if_neg hd] at hcc
            have HCC := Lib.hid hcc
            have HNX : Hid (∀ j (_ : j < l.length), j < k + 1 → chk l[j] = 0) := Lib.hid fun j h1 h2 => by
              by_cases e : j = k
              · subst e; rw [hsk]; exact h0
              · exact HP.out j h1 (by omega)
            by_cases hk0 : 0 < k
            · have hcp := hcells (k - 1) (by omega)
              obtain ⟨q, hq⟩ : ∃ q, l[k - 1]'(by omega) = q := ⟨_, rfl⟩
              have hq0 : chk q = 0 := by rw [← hq]; exact HP.out _ _ (by omega)
              rw [hq] at hcp
              have K40 := Lib.hid (fun W (hW : 10 ≤ W.heap.size) => w40 q s hq0 h0 W hW)
              have hpv : prevAt l k = some q := by rw [prevAt_pos l hk0, List.getElem?_eq_getElem (by omega), hq]
              rw [hpv] at hcc
              have hcc : (if decide (0 ≤ sgn (decInt q.data.toList - decInt s.data.toList)) = true then 14 else ckL (l.drop (k + 1)) (prevAt l (k + 1))) = c := hcc
              generalize sgn (decInt q.data.toList - decInt s.data.toList) = z at K40 hcc
              generalize digs s = d at *
              have HCC2 := Lib.hid hcc
              clear hcells hs hsk hq hq0 hpv hcc HSTEP HCC
              by_cases hz : 0 ≤ z
              · have hcc := HCC2.out
                rw [if_pos (by simpa using hz)] at hcc
                subst hcc
                go_wp2_with (first | (go_at_call 59; refine H59.mono ?_; rintro e w2 ⟨rfl, hB2⟩; have hcp3 := (hB2.cell (p := ⟨b, off + (k - 1), none⟩) hb).trans hcp) | (go_at_call 60; refine (K60 _).mono ?_; rintro e w3 ⟨rfl, rfl⟩) | (go_at_call 40; refine (K40.out _ (Nat.le_trans h10r hB2.size)).mono ?_; rintro e w4 ⟨rfl, hB3⟩))
                go_ret
                exact ⟨rfl, hB.trans ((hB2.trans (hB3.mono hB2.size)).mono hB.size)⟩
              · have hcc := HCC2.out
                rw [if_neg (by simpa using hz)] at hcc
                have HCC := Lib.hid hcc
                clear hcc HCC2
                go_wp2_with (first | (go_at_call 59; refine H59.mono ?_; rintro e w2 ⟨rfl, hB2⟩; have hcp3 := (hB2.cell (p := ⟨b, off + (k - 1), none⟩) hb).trans hcp) | (go_at_call 60; refine (K60 _).mono ?_; rintro e w3 ⟨rfl, rfl⟩) | (go_at_call 40; refine (K40.out _ (Nat.le_trans h10r hB2.size)).mono ?_; rintro e w4 ⟨rfl, hB3⟩))
                refine ⟨⟨k + 1, rfl, hk2, HCC, HNX, Lib.hid (hB.trans ((hB2.trans (hB3.mono hB2.size)).mono hB.size))⟩, ?_⟩
                show l.length - ((k : Int) + 1).toNat < l.length - (k : Int).toNat
                omega
            · rw [prevAt_zero l hk0] at hcc
              have hcc : ckL (l.drop (k + 1)) (prevAt l (k + 1)) = c := hcc
              have HCC2 := Lib.hid hcc
              generalize digs s = d at *
              clear hcells hs hsk hcc HSTEP HCC
              go_wp2_with (first | (go_at_call 59; refine H59.mono ?_; rintro e w2 ⟨rfl, hB2⟩) | (go_at_call 60; refine (K60 _).mono ?_; rintro e w3 ⟨rfl, rfl⟩))
              refine ⟨⟨k + 1, rfl, hk2, HCC2, HNX, Lib.hid (hB.trans (hB2.mono hB.size))⟩, ?_⟩
              show l.length - ((k : Int) + 1).toNat < l.length - (k : Int).toNat
              omega
        · have hcc := HSTEP.out
          rw [if_pos h0] at hcc
          generalize chk s = x at *
          subst hcc
          have hne : (x != 0) = true := by simpa using h0
          clear hs hsk HSTEP hcells
          go_wp2_with (first | (go_at_call 59; refine H59.mono ?_; rintro e w2 ⟨rfl, hB2⟩))
          go_ret
          exact ⟨rfl, hB.trans (hB2.mono hB.size)⟩
      · obtain rfl : k = l.length := by omega
        have hcc := HK.out
        rw [List.drop_length] at hcc
        have hcc : 0 = c := hcc
        subst hcc
        go_wp2
        go_ret
        exact ⟨rfl, HB.out⟩

end Go.Proofs.YtlbmihpmcgiinaaGreatDoor.Own
