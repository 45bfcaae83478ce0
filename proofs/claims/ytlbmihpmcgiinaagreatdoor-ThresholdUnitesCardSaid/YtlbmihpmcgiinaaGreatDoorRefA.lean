/- Chapter 39: walks: the reference's Form, Negative, Digits, Check. -/
import Derived.Test.YtlbmihpmcgiinaaGreatDoorWalkC
import Derived.Test.YtlbmihpmcgiinaaGreatDoorWalkD
import Derived.Test.YtlbmihpmcgiinaaGreatDoorWalkG
import Derived.Maps.AppendAt
import Derived.OwnWalk
import Derived.Maps.RangeWalk

section
namespace Go.Proofs.YtlbmihpmcgiinaaGreatDoor.Own
open Go Go.Proofs Go.RowKit

theorem byte_get (s : ByteArray) (i : Nat) (h : i < s.size) : ∃ h2 : i < s.data.toList.length, s[i] = s.data.toList[i] := by
  have hlen : s.data.toList.length = s.size := by rw [Array.length_toList]; rfl
  exact ⟨by omega, by simp; rfl⟩

theorem canon_drop {l : List UInt8} (h0 : l ≠ [48]) {f : Nat} (hf : (f = 1 ∧ ∃ m, l = 45 :: m) ∨ (f = 0 ∧ ∀ m, l ≠ 45 :: m)) : canon l = true ↔ Lead (l.drop f) := by
  rw [canon_iff]
  rcases hf with ⟨rfl, m, rfl⟩ | ⟨rfl, hm⟩
  · constructor
    · rintro (h | ⟨⟨b, r, e, h⟩, _⟩ | ⟨m', h, h2⟩)
      · exact absurd h h0
      · cases e; simp at h
      · cases h; exact h2
    · exact fun h => .inr (.inr ⟨m, rfl, h⟩)
  · constructor
    · rintro (h | h | ⟨m', h, h2⟩)
      · exact absurd h h0
      · exact h
      · exact absurd h (hm m')
    · exact fun h => .inr (.inl h)

theorem lead_iff (m : List UInt8) : Lead m ↔ (∃ b r, m = b :: r ∧ b.toNat ≠ 48) ∧ Digits m := by
  constructor
  · rintro ⟨⟨b, r, rfl, h⟩, h2⟩
    exact ⟨⟨b, r, rfl, by omega⟩, h2⟩
  · rintro ⟨⟨b, r, rfl, h⟩, h2⟩
    have := h2 b (List.mem_cons_self ..)
    exact ⟨⟨b, r, rfl, by omega⟩, h2⟩

/-- Form, by its places. -/
theorem canon_places (s : ByteArray) (h0 : s.data.toList ≠ [48]) (f : Nat) (hf : (f = 1 ∧ ∃ h : 0 < s.size, s[0].toNat = 45) ∨ (f = 0 ∧ ∀ h : 0 < s.size, s[0].toNat ≠ 45)) :
    canon s.data.toList = true ↔ (∃ h : f < s.size, s[f].toNat ≠ 48) ∧ ∀ j (h : j < s.size), f ≤ j → 48 ≤ s[j].toNat ∧ s[j].toNat ≤ 57 := by
  have hlen : s.data.toList.length = s.size := by rw [Array.length_toList]; rfl
  have hf' : (f = 1 ∧ ∃ m, s.data.toList = 45 :: m) ∨ (f = 0 ∧ ∀ m, s.data.toList ≠ 45 :: m) := by
    rcases hf with ⟨h1, h2, h3⟩ | ⟨h1, h2⟩
    · obtain ⟨k, e⟩ := byte_get s 0 h2
      refine .inl ⟨h1, s.data.toList.tail, ?_⟩
      cases hl : s.data.toList with
      | nil => rw [hl] at k; simp at k
      | cons b m =>
        simp only [hl, List.getElem_cons_zero] at e
        rw [e] at h3
        have : b = 45 := UInt8.toNat_inj.mp h3
        rw [this]; rfl
    · refine .inr ⟨h1, fun m hm => ?_⟩
      have h4 : 0 < s.size := by rw [← hlen, hm]; simp
      obtain ⟨k, e⟩ := byte_get s 0 h4
      simp only [hm, List.getElem_cons_zero] at e
      exact h2 h4 (by rw [e]; rfl)
  rw [canon_drop h0 hf', lead_iff]
  refine and_congr ?_ ?_
  · constructor
    · rintro ⟨b, r, e, hb⟩
      have h1 : f < s.size := by
        rw [← hlen]
        have := congrArg List.length e
        rw [List.length_drop] at this
        simp at this
        omega
      obtain ⟨k, e2⟩ := byte_get s f h1
      refine ⟨h1, ?_⟩
      rw [List.drop_eq_getElem_cons k] at e
      cases e
      rw [e2]
      exact hb
    · rintro ⟨h1, h2⟩
      obtain ⟨k, e2⟩ := byte_get s f h1
      exact ⟨_, _, List.drop_eq_getElem_cons k, by rw [← e2]; exact h2⟩
  · constructor
    · intro h j hj hfj
      obtain ⟨k, e2⟩ := byte_get s j hj
      rw [e2]
      refine h _ ?_
      have : s.data.toList[j] = (s.data.toList.drop f)[j - f]'(by rw [List.length_drop]; omega) := by
        rw [List.getElem_drop]; congr 1; omega
      rw [this]
      exact List.getElem_mem _
    · intro h b hb
      obtain ⟨j, hj, rfl⟩ := List.getElem_of_mem hb
      rw [List.length_drop] at hj
      rw [List.getElem_drop]
      obtain ⟨k, e2⟩ := byte_get s (f + j) (by omega)
      rw [← e2]
      exact h _ _ (by omega)

set_option maxRecDepth 100000 in
set_option maxHeartbeats 1000000 in
theorem w62 (s : ByteArray) (hs : s.size < 4611686018427387904) (w : World) :
    Calls Tryz.prog 62 #[.string s] w fun e w' => e = .returned (.bool (canon s.data.toList)) ∧ w' = w := by
  obtain ⟨c, hc⟩ : ∃ c, canon s.data.toList = c := ⟨_, rfl⟩
  rw [hc]
  go_enter Tryz.func62, Tryz.ntmps62
  by_cases h0 : s.data.toList = [48]
  · have hcc : canon s.data.toList = true := by rw [h0]; rfl
    rw [hc] at hcc
    subst hcc
    have he : (s.toList == [48]) = true := by rw [ByteArray.toList_eq, h0]; rfl
    go_wp2
    go_ret
    exact ⟨rfl, rfl⟩
  · have he : (s.toList == [48]) = false := by rw [ByteArray.toList_eq]; simpa using h0
    have fin : ∀ (f : Nat), Hid (c = true ↔ (∃ h : f < s.size, s[f].toNat ≠ 48) ∧ ∀ j (h : j < s.size), f ≤ j → 48 ≤ s[j].toNat ∧ s[j].toNat ≤ 57) → s.size ≤ f → c = false := fun f HP h => by
      rw [← Bool.not_eq_true]
      exact fun k => by have := (HP.out.mp k).1.1; omega
    have fin48 : ∀ (f : Nat), Hid (c = true ↔ (∃ h : f < s.size, s[f].toNat ≠ 48) ∧ ∀ j (h : j < s.size), f ≤ j → 48 ≤ s[j].toNat ∧ s[j].toNat ≤ 57) → ∀ (hk : f < s.size), s[f].toNat = 48 → c = false := fun f HP hk h => by
      rw [← Bool.not_eq_true]
      exact fun k => (HP.out.mp k).1.2 h
    have finD : ∀ (f : Nat), Hid (c = true ↔ (∃ h : f < s.size, s[f].toNat ≠ 48) ∧ ∀ j (h : j < s.size), f ≤ j → 48 ≤ s[j].toNat ∧ s[j].toNat ≤ 57) → ∀ k (hk : k < s.size), f ≤ k → ¬ (48 ≤ s[k].toNat ∧ s[k].toNat ≤ 57) → c = false := fun f HP k hk hfk h => by
      rw [← Bool.not_eq_true]
      exact fun e => h ((HP.out.mp e).2 k hk hfk)
    have FIN := Lib.hid fin
    have FIN48 := Lib.hid fin48
    have FIND := Lib.hid finD
    clear fin fin48 finD
    by_cases hm : ∃ h : 0 < s.size, s[0].toNat = 45
    · have HP := Lib.hid (canon_places s h0 1 (.inl ⟨rfl, hm⟩))
      rw [hc] at HP
      obtain ⟨hp, hm⟩ := hm
      have hb : ((s[0].toNat : Int) == 45) = true := by rw [hm]; rfl
      clear hc h0
      by_cases hs1 : s.size = 1
      · have hcc := FIN.out 1 HP (by omega)
        subst hcc
        have hz : ((1 : Int) == s.size) = true := by rw [hs1]; rfl
        clear HP FIN FIN48 FIND
        go_wp2
        go_ret
        exact ⟨rfl, rfl⟩
      · have hlt : 1 < s.size := by omega
        have hz : ((1 : Int) == s.size) = false := by rw [beq_eq_false_iff_ne]; omega
        by_cases h48 : s[1].toNat = 48
        · have hcc := FIN48.out 1 HP hlt h48
          subst hcc
          have h48b : ((s[1].toNat : Int) == 48) = true := by rw [h48]; rfl
          clear HP FIN FIN48 FIND
          go_wp2
          all_goals go_ret
          all_goals exact ⟨rfl, rfl⟩
        · have h48b : ((s[1].toNat : Int) == 48) = false := byte_lit _ 48 h48
          have HP1 : Hid ((∀ j (h : j < s.size), 1 ≤ j → 48 ≤ s[j].toNat ∧ s[j].toNat ≤ 57) → c = true) := Lib.hid (fun h => HP.out.mpr ⟨⟨hlt, h48⟩, h⟩)
          have FD := Lib.hid (FIND.out 1 HP)
          clear HP FIN FIN48 FIND
          go_wp2
          go_loop [4] (fun i => ∃ k : Nat, i = .int .i64 k ∧ 1 ≤ k ∧ k ≤ s.size ∧ Hid (∀ j (h : j < s.size), 1 ≤ j → j < k → 48 ≤ s[j].toNat ∧ s[j].toNat ≤ 57)) (fun i => s.size - (intOf i).toNat)
          case atStart => exact ⟨1, rfl, Nat.le_refl _, Nat.le_of_lt hlt, Lib.hid (fun j _ h1 h2 => by omega)⟩
          case round =>
            obtain ⟨k, rfl, hk1, hk2, HD⟩ := hrel
            by_cases hk : k < s.size
            · by_cases hd1 : s[k].toNat < 48
              · have hcc := FD.out k hk hk1 (by omega)
                subst hcc
                clear HP1 FD HD
                go_wp2
                all_goals go_ret
                all_goals exact ⟨rfl, rfl⟩
              · by_cases hd2 : 57 < s[k].toNat
                · have hcc := FD.out k hk hk1 (by omega)
                  subst hcc
                  clear HP1 FD HD
                  go_wp2
                  all_goals go_ret
                  all_goals exact ⟨rfl, rfl⟩
                · have HD2 : Hid (∀ j (h : j < s.size), 1 ≤ j → j < k + 1 → 48 ≤ s[j].toNat ∧ s[j].toNat ≤ 57) := Lib.hid (fun j h h1 h2 => by
                    by_cases e : j = k
                    · subst e; omega
                    · exact HD.out j h h1 (by omega))
                  go_wp2
                  all_goals refine ⟨⟨k + 1, rfl, by omega, hk, HD2⟩, ?_⟩
                  all_goals show s.size - ((k : Int) + 1).toNat < s.size - (k : Int).toNat
                  all_goals omega
            · obtain rfl : k = s.size := by omega
              have hcc := HP1.out (fun j h h1 => HD.out j h h1 h)
              subst hcc
              go_wp2
              go_ret
              exact ⟨rfl, rfl⟩
    · have HP := Lib.hid (canon_places s h0 0 (.inr ⟨rfl, fun h e => hm ⟨h, e⟩⟩))
      rw [hc] at HP
      clear hc h0
      by_cases hs1 : s.size = 0
      · have hcc := FIN.out 0 HP (by omega)
        subst hcc
        have hz : ((0 : Int) == s.size) = true := by rw [hs1]; rfl
        clear HP FIN FIN48 FIND hm
        go_wp2
        go_ret
        exact ⟨rfl, rfl⟩
      · have hlt : 0 < s.size := by omega
        have hz : ((0 : Int) == s.size) = false := by rw [beq_eq_false_iff_ne]; omega
        have hb : ((s[0].toNat : Int) == 45) = false := byte_lit _ 45 (fun e => hm ⟨hlt, e⟩)
        clear hm
        by_cases h48 : s[0].toNat = 48
        · have hcc := FIN48.out 0 HP hlt h48
          subst hcc
          have h48b : ((s[0].toNat : Int) == 48) = true := by rw [h48]; rfl
          clear HP FIN FIN48 FIND
          go_wp2
          all_goals go_ret
          all_goals exact ⟨rfl, rfl⟩
        · have h48b : ((s[0].toNat : Int) == 48) = false := byte_lit _ 48 h48
          have HP1 : Hid ((∀ j (h : j < s.size), 0 ≤ j → 48 ≤ s[j].toNat ∧ s[j].toNat ≤ 57) → c = true) := Lib.hid (fun h => HP.out.mpr ⟨⟨hlt, h48⟩, h⟩)
          have FD := Lib.hid (FIND.out 0 HP)
          clear HP FIN FIN48 FIND
          go_wp2
          go_loop [4] (fun i => ∃ k : Nat, i = .int .i64 k ∧ 0 ≤ k ∧ k ≤ s.size ∧ Hid (∀ j (h : j < s.size), 0 ≤ j → j < k → 48 ≤ s[j].toNat ∧ s[j].toNat ≤ 57)) (fun i => s.size - (intOf i).toNat)
          case atStart => exact ⟨0, rfl, Nat.le_refl _, Nat.le_of_lt hlt, Lib.hid (fun j _ h1 h2 => by omega)⟩
          case round =>
            obtain ⟨k, rfl, hk1, hk2, HD⟩ := hrel
            by_cases hk : k < s.size
            · by_cases hd1 : s[k].toNat < 48
              · have hcc := FD.out k hk hk1 (by omega)
                subst hcc
                clear HP1 FD HD
                go_wp2
                all_goals go_ret
                all_goals exact ⟨rfl, rfl⟩
              · by_cases hd2 : 57 < s[k].toNat
                · have hcc := FD.out k hk hk1 (by omega)
                  subst hcc
                  clear HP1 FD HD
                  go_wp2
                  all_goals go_ret
                  all_goals exact ⟨rfl, rfl⟩
                · have HD2 : Hid (∀ j (h : j < s.size), 0 ≤ j → j < k + 1 → 48 ≤ s[j].toNat ∧ s[j].toNat ≤ 57) := Lib.hid (fun j h h1 h2 => by
                    by_cases e : j = k
                    · subst e; omega
                    · exact HD.out j h h1 (by omega))
                  go_wp2
                  all_goals refine ⟨⟨k + 1, rfl, Nat.zero_le _, hk, HD2⟩, ?_⟩
                  all_goals show s.size - ((k : Int) + 1).toNat < s.size - (k : Int).toNat
                  all_goals omega
            · obtain rfl : k = s.size := by omega
              have hcc := HP1.out (fun j h h1 => HD.out j h h1 h)
              subst hcc
              go_wp2
              go_ret
              exact ⟨rfl, rfl⟩

end Go.Proofs.YtlbmihpmcgiinaaGreatDoor.Own
end

/- Chapter 39: walks: the reference's Negative, Digits, Check, Sign. -/
section
namespace Go.Proofs.YtlbmihpmcgiinaaGreatDoor.Own
open Go Go.Proofs Go.RowKit

theorem neg_first (s : ByteArray) (h : 0 < s.size) : ((s[0].toNat : Int) == 45) = Lib.hasPrefix s.data.toList [45] := by
  obtain ⟨⟨l⟩⟩ := s
  cases l with
  | nil => simp [ByteArray.size] at h
  | cons b m =>
    show (((b.toNat : Nat) : Int) == 45) = List.isPrefixOf [45] (b :: m)
    simp only [List.isPrefixOf, Bool.and_true]
    rw [Bool.eq_iff_iff, beq_iff_eq, beq_iff_eq]
    constructor
    · intro e
      exact (UInt8.toNat_inj.mp (by show b.toNat = 45; omega)).symm
    · intro e
      rw [← e]; rfl

theorem w49 (s : ByteArray) (h : 0 < s.size) (w : World) :
    Calls Tryz.prog 49 #[.string s] w fun e w' => e = .returned (.bool (Lib.hasPrefix s.data.toList [45])) ∧ w' = w := by
  have e := neg_first s h
  obtain ⟨x, hx⟩ : ∃ x, ((s[0].toNat : Int) == 45) = x := ⟨_, rfl⟩
  rw [← e, hx]
  clear e
  go_enter Tryz.func49, Tryz.ntmps49
  go_wp2
  go_ret
  exact ⟨rfl, rfl⟩

theorem digs_pre (s : ByteArray) (h : 0 < s.size) : (Lib.hasPrefix s.data.toList [45] = true → (s.size : Int) - 1 = digs s) ∧ (Lib.hasPrefix s.data.toList [45] = false → (s.size : Int) = digs s) := by
  constructor
  · intro k
    exact digs_minus s h (by rw [neg_first s h]; exact k)
  · intro k
    exact digs_plain s h (by rw [neg_first s h]; exact k)

theorem w61 (s : ByteArray) (h : 0 < s.size) (hs : s.size < 4611686018427387904) (w : World) :
    Calls Tryz.prog 61 #[.string s] w fun e w' => e = .returned (.int .i64 (digs s)) ∧ w' = w := by
  have H49 := w49 s h w
  obtain ⟨h1, h2⟩ := digs_pre s h
  generalize Lib.hasPrefix s.data.toList [45] = x at *
  generalize digs s = d at *
  go_enter Tryz.func61, Tryz.ntmps61
  cases x
  · have H2 := Lib.hid (h2 rfl)
    clear h1 h2
    go_wp2_with (first | (go_at_call 49; refine H49.mono ?_; rintro e w2 ⟨rfl, rfl⟩))
    go_ret
    exact ⟨congrArg (fun n : Int => Ending.returned (.int .i64 n)) H2.out, rfl⟩
  · have H1 := Lib.hid (h1 rfl)
    clear h1 h2
    go_wp2_with (first | (go_at_call 49; refine H49.mono ?_; rintro e w2 ⟨rfl, rfl⟩))
    go_ret
    exact ⟨congrArg (fun n : Int => Ending.returned (.int .i64 n)) H1.out, rfl⟩

theorem canon_pos {s : ByteArray} (h : canon s.data.toList = true) : 0 < s.size := by
  obtain ⟨⟨l⟩⟩ := s
  cases l with
  | nil => cases h
  | cons b l => simp [ByteArray.size]

theorem w30 (s : ByteArray) (hs : s.size < 4611686018427387904) (w : World) :
    Calls Tryz.prog 30 #[.string s] w fun e w' => e = .returned (.int .i64 (chk s)) ∧ w' = w := by
  have H62 := w62 s hs w
  have K61 := Lib.hid (fun (hc : canon s.data.toList = true) => w61 s (canon_pos hc) hs w)
  obtain ⟨c, hc⟩ : ∃ c, chk s = c := ⟨_, rfl⟩
  rw [hc]
  unfold chk at hc
  generalize canon s.data.toList = x at *
  generalize digs s = d at *
  have HC := Lib.hid hc
  clear hc
  go_enter Tryz.func30, Tryz.ntmps30
  cases x
  · have hc := HC.out
    rw [if_neg (by simp)] at hc
    subst hc
    clear K61 HC
    go_wp2_with (first | (go_at_call 62; refine H62.mono ?_; rintro e w2 ⟨rfl, rfl⟩))
    go_ret
    exact ⟨rfl, rfl⟩
  · have hc := HC.out
    rw [if_pos rfl] at hc
    have H61 := K61.out rfl
    by_cases h : 4096 < d
    · rw [if_pos h] at hc
      subst hc
      clear K61 HC
      go_wp2_with (first | (go_at_call 62; refine H62.mono ?_; rintro e w2 ⟨rfl, rfl⟩) | (go_at_call 61; refine H61.mono ?_; rintro e w2 ⟨rfl, rfl⟩))
      go_ret
      exact ⟨rfl, rfl⟩
    · rw [if_neg h] at hc
      subst hc
      clear K61 HC
      go_wp2_with (first | (go_at_call 62; refine H62.mono ?_; rintro e w2 ⟨rfl, rfl⟩) | (go_at_call 61; refine H61.mono ?_; rintro e w2 ⟨rfl, rfl⟩))
      go_ret
      exact ⟨rfl, rfl⟩

/-- Sign -/
theorem sgn_canon {s : ByteArray} (hc : canon s.data.toList = true) :
    sgn (decInt s.data.toList) = if s.data.toList = [48] then 0 else if Lib.hasPrefix s.data.toList [45] then -1 else 1 := by
  obtain ⟨_, _, e, hp, hz, _⟩ := canon_val hc
  rw [e]
  by_cases h0 : s.data.toList = [48]
  · rw [if_pos h0, h0]
    rfl
  · rw [if_neg h0]
    have hne : decNat (magn s.data.toList) 0 ≠ 0 := fun k => h0 (hz k)
    cases hh : Lib.hasPrefix s.data.toList [45]
    · unfold sgn
      simp only [Bool.false_eq_true, if_false]
      rw [if_neg (by omega), if_neg (by omega)]
    · unfold sgn
      simp only [if_true]
      rw [if_pos (by omega)]

theorem w64 (s : ByteArray) (hc : canon s.data.toList = true) (w : World) :
    Calls Tryz.prog 64 #[.string s] w fun e w' => e = .returned (.int .i64 (sgn (decInt s.data.toList))) ∧ w' = w := by
  have H49 := w49 s (canon_pos hc) w
  have HS := Lib.hid (sgn_canon hc)
  obtain ⟨c, hcc⟩ : ∃ c, sgn (decInt s.data.toList) = c := ⟨_, rfl⟩
  rw [hcc] at HS ⊢
  clear hcc hc
  go_enter Tryz.func64, Tryz.ntmps64
  by_cases h0 : s.data.toList = [48]
  · have he : (s.toList == [48]) = true := by rw [ByteArray.toList_eq, h0]; rfl
    have hc := HS.out
    rw [if_pos h0] at hc
    subst hc
    clear h0 H49 HS
    go_wp2
    go_ret
    exact ⟨rfl, rfl⟩
  · have he : (s.toList == [48]) = false := by rw [ByteArray.toList_eq]; simpa using h0
    have hc := HS.out
    rw [if_neg h0] at hc
    generalize Lib.hasPrefix s.data.toList [45] = x at *
    have HC := Lib.hid hc
    clear h0 HS hc
    cases x
    · have hc := HC.out
      rw [if_neg (by simp)] at hc
      subst hc
      go_wp2_with (first | (go_at_call 49; refine H49.mono ?_; rintro e w2 ⟨rfl, rfl⟩))
      go_ret
      exact ⟨rfl, rfl⟩
    · have hc := HC.out
      rw [if_pos rfl] at hc
      subst hc
      go_wp2_with (first | (go_at_call 49; refine H49.mono ?_; rintro e w2 ⟨rfl, rfl⟩))
      go_ret
      exact ⟨rfl, rfl⟩

end Go.Proofs.YtlbmihpmcgiinaaGreatDoor.Own
end

/- Chapter 39: walks: the reference's digits. -/
section
namespace Go.Proofs.YtlbmihpmcgiinaaGreatDoor.Own
open Go Go.Proofs Go.RowKit

/-- A byte's digit. -/
def dig (b : UInt8) : Int := (b.toNat : Int) - 48

/-- The digits of a text, the last one first. -/
def digsL (l : List UInt8) : List Int := l.reverse.map dig

theorem digsL_val : ∀ (l : List UInt8), Digits l → InB 10 (digsL l) ∧ lval 10 (digsL l) = (decNat l 0 : Nat) := by
  intro l
  induction l with
  | nil => intro _; exact ⟨InB.nil, rfl⟩
  | cons b l ih =>
    intro h
    obtain ⟨h1, h2⟩ := ih (fun c hc => h c (List.mem_cons_of_mem _ hc))
    have hb := h b (List.mem_cons_self ..)
    have e : digsL (b :: l) = digsL l ++ [dig b] := by simp [digsL]
    rw [e]
    refine ⟨h1.append (InB.one (by unfold dig; omega) (by unfold dig; omega)), ?_⟩
    rw [lval_snoc, h2, decNat, decNat_acc l (10 * 0 + _)]
    have hl : (digsL l).length = l.length := by simp [digsL]
    rw [hl]
    have : dig b = ((b.toNat - 48 : Nat) : Int) := by unfold dig; omega
    rw [this]
    have e0 : 10 * 0 + (b.toNat - 48) = b.toNat - 48 := by omega
    rw [e0, Int.natCast_add, Int.natCast_mul, Int.natCast_pow, Int.mul_comm, Int.add_comm]
    rfl

/-- Where the digits of a canonical text begin. -/
theorem canon_first {s : ByteArray} (hc : canon s.data.toList = true) : ∃ f, f ≤ 1 ∧ f < s.size ∧ magn s.data.toList = s.data.toList.drop f ∧ (f = 1 → ∃ h : 0 < s.size, s[0].toNat = 45) ∧ ∀ j (h : j < s.size), f ≤ j → 48 ≤ s[j].toNat ∧ s[j].toNat ≤ 57 := by
  have hlen : s.data.toList.length = s.size := by rw [Array.length_toList]; rfl
  have hdig := (canon_val hc).1
  have hne := (canon_val hc).2.1
  have hD : ∀ f, magn s.data.toList = s.data.toList.drop f → ∀ j (h : j < s.size), f ≤ j → 48 ≤ s[j].toNat ∧ s[j].toNat ≤ 57 := fun f e j h hf => by
    rw [e] at hdig
    obtain ⟨k, e2⟩ := byte_get s j h
    rw [e2]
    refine hdig _ ?_
    have : s.data.toList[j] = (s.data.toList.drop f)[j - f]'(by rw [List.length_drop]; omega) := by
      rw [List.getElem_drop]; congr 1; omega
    rw [this]
    exact List.getElem_mem _
  by_cases hm : ∃ m, s.data.toList = 45 :: m
  · obtain ⟨m, hm⟩ := hm
    have e : magn s.data.toList = s.data.toList.drop 1 := by rw [hm, magn_minus]; rfl
    have h0 : 0 < s.size := by rw [← hlen, hm]; simp
    have h1 : 1 < s.size := by
      rw [e] at hne
      have : s.data.toList.drop 1 ≠ [] := hne
      have := List.length_pos_iff.mpr this
      rw [List.length_drop] at this
      omega
    refine ⟨1, Nat.le_refl _, h1, e, fun _ => ⟨h0, ?_⟩, hD 1 e⟩
    obtain ⟨k, e2⟩ := byte_get s 0 h0
    rw [e2]
    simp [hm]
  · have e : magn s.data.toList = s.data.toList.drop 0 := magn_plain _ (fun m h => hm ⟨m, h⟩)
    exact ⟨0, by omega, canon_pos hc, e, (fun h => by cases h), hD 0 e⟩

set_option maxRecDepth 100000 in
set_option maxHeartbeats 1000000 in
theorem w47 (s : ByteArray) (hc : canon s.data.toList = true) (hs : s.size < 1000000000) (w : World) :
    Calls Tryz.prog 47 #[.string s] w fun e w' => ∃ v, e = .returned v ∧ w'.ownsRow w.heap.size 3 1 v (digsL (magn s.data.toList)).length ((digsL (magn s.data.toList)).map (Value.int .i64)) ∧ Below w.heap.size w w' := by
  have hlen : s.data.toList.length = s.size := by rw [Array.length_toList]; rfl
  obtain ⟨f, hf1, hf2, hmag, hf3, hfd⟩ := canon_first hc
  rw [hmag]
  obtain ⟨o0, ho0⟩ : ∃ o, digsL (s.data.toList.drop f) = o := ⟨_, rfl⟩
  rw [ho0]
  have HO0 := Lib.hid ho0
  clear ho0
  have HD := Lib.hid hfd
  have HF3 := Lib.hid hf3
  obtain ⟨i0, hi, hz0, hz1, hz2⟩ := info_parts info3
  clear hc hmag hfd hf3
  go_enter Tryz.func47, Tryz.ntmps47
  go_wp2
  go_loopw [3, 4] (fun v i wr => ∃ k : Nat, i = .int .i64 ((k : Int) - 1) ∧ f ≤ k ∧ k ≤ s.size ∧ wr.ownsRow w.heap.size 3 1 v (digsL (s.data.toList.drop k)).length ((digsL (s.data.toList.drop k)).map (Value.int .i64)) ∧ Below w.heap.size w wr) (fun _ i _ => (intOf i + 1).toNat)
  case atStart =>
    exact ⟨s.size, rfl, Nat.le_of_lt hf2, Nat.le_refl _, by rw [List.drop_of_length_le (Nat.le_of_eq hlen)]; exact World.ownsRow_nil _ _ _ _, Below.refl _ _⟩
  case round =>
    obtain ⟨k, rfl, hk1, hk2, hrow, hB⟩ := hrel
    by_cases hk : f < k
    · obtain ⟨j, rfl⟩ : ∃ j, k = j + 1 := ⟨k - 1, by omega⟩
      have ej : (((j + 1 : Nat) : Int) - 1) = (j : Int) := by omega
      rw [ej]
      have hj : j < s.size := by omega
      have hd := HD.out j hj (by omega)
      have h45 : ((s[j].toNat : Int) != 45) = true := by rw [bne_iff_ne]; omega
      have HDR : Hid (digsL (s.data.toList.drop j) = digsL (s.data.toList.drop (j + 1)) ++ [(s[j].toNat : Int) - 48]) := Lib.hid (by
        obtain ⟨k2, e2⟩ := byte_get s j hj
        rw [List.drop_eq_getElem_cons k2, e2]
        simp [digsL, dig])
      have HLEN : Hid ((digsL (s.data.toList.drop (j + 1))).length ≤ s.size) := Lib.hid (by unfold digsL; rw [List.length_map, List.length_reverse, List.length_drop]; omega)
      have hHL := HLEN.out
      generalize digsL (s.data.toList.drop (j + 1)) = o at hrow HDR hHL HLEN
      obtain ⟨x, hx⟩ : ∃ x, s[j].toNat = x := ⟨_, rfl⟩
      rw [hx] at hd h45 HDR
      go_wp2_with (first
        | (at_builtin; refine wpList_append_own _ rfl _ _ 50 rfl w.heap.size 3 i0 (.int .i64 0) 1 8 Tryz.underlying50 hi hz0 hz1 hz2 rfl (by decide) _ _ _ rfl (hrow.alloc _) ⟨wr.heap.size, 0, none⟩ 1 1 [.int .i64 ((x : Int) - 48)] rfl rfl (cell_one_new _ _ _) (by simp [Value.oneCell']) (by unfold maxLen; omega) (by omega) (by have := hB.size; simp; omega) ?_; intro v' w3 hown' hg3 hnil3; go_frame)
        | go_in)
      refine ⟨⟨j, rfl, by omega, Nat.le_of_lt hj, ?_, ?_⟩, ?_⟩
      · rw [HDR.out]
        simpa using hown'
      · exact (hB.alloc hB.size _).grown hg3 (by have := hB.size; simp; omega) (fun j hj => (hrow.lt j hj).1)
      · show (((j : Int) - 1) + 1).toNat < ((j : Int) + 1).toNat
        omega
    · obtain rfl : k = f := by omega
      rw [HO0.out] at hrow
      rcases Nat.eq_zero_or_pos k with rfl | hk0
      · go_wp2
        go_ret
        exact ⟨_, rfl, hrow, hB⟩
      · obtain rfl : k = 1 := by omega
        obtain ⟨hp, h45⟩ := HF3.out rfl
        have hb : ((s[0].toNat : Int) != 45) = false := by rw [h45]; rfl
        clear h45
        have e0 : (((1 : Nat) : Int) - 1) = ((0 : Nat) : Int) := rfl
        rw [e0]
        go_wp2
        go_ret
        exact ⟨_, rfl, hrow, hB⟩

end Go.Proofs.YtlbmihpmcgiinaaGreatDoor.Own
end
