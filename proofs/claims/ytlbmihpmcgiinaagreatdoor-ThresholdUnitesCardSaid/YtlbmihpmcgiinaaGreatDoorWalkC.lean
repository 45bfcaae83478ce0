/- Chapter 39: the texts of integers: plain facts. -/
import Derived.Test.YtlbmihpmcgiinaaGreatDoorWalkA
import Derived.Test.YtlbmihpmcgiinaaGreatDoorWalkB

section
namespace Go.Proofs.YtlbmihpmcgiinaaGreatDoor.Own
open Go

/-- Digits without a zero at the front. -/
def Lead (m : List UInt8) : Prop := (∃ b r, m = b :: r ∧ 49 ≤ b.toNat) ∧ Digits m

theorem dig_iff (b : UInt8) : isDig b = true ↔ (48 ≤ b.toNat ∧ b.toNat ≤ 57) := by
  unfold isDig
  rw [Bool.and_eq_true, decide_eq_true_eq, decide_eq_true_eq, UInt8.le_iff_toNat_le, UInt8.le_iff_toNat_le]
  exact Iff.rfl

theorem drop_nil (l : List UInt8) : l.dropWhile isDig = [] ↔ ∀ b ∈ l, isDig b = true := by
  induction l with
  | nil => simp
  | cons x l ih =>
    rw [List.dropWhile_cons]
    split
    · rename_i h
      rw [ih]
      exact ⟨fun k b hb => (List.mem_cons.mp hb).elim (fun e => e ▸ h) (k b), fun k b hb => k b (List.mem_cons_of_mem _ hb)⟩
    · rename_i h
      exact ⟨fun k => (by cases k), fun k => absurd (k x (List.mem_cons_self ..)) h⟩

theorem all_of_cut (l : List UInt8) (h : (cutP isDig l).dropWhile isDig = []) : Digits l := by
  have h1 : cutP isDig l = [] := by
    rcases List.eq_nil_or_concat (cutP isDig l) with k | ⟨a, x, k⟩
    · exact k
    · rw [List.concat_eq_append] at k
      exfalso
      have hx : isDig x = true := by
        have : ∀ y ∈ cutP isDig l, isDig y = true := by
          intro y hy
          have := (drop_nil _).mp h y hy
          exact this
        exact this x (by rw [k]; simp)
      have h2 : l.reverse.dropWhile isDig = x :: a.reverse := by
        have : (cutP isDig l).reverse = x :: a.reverse := by rw [k]; simp
        unfold cutP at this
        rwa [List.reverse_reverse] at this
      have h3 := List.head?_dropWhile_not isDig l.reverse
      rw [h2] at h3
      simp at h3
      rw [hx] at h3
      cases h3
  unfold cutP at h1
  have h2 : l.reverse.dropWhile isDig = [] := by simpa using h1
  intro b hb
  exact (dig_iff b).mp ((drop_nil _).mp h2 b (by simpa using hb))

theorem cut_of_all (l : List UInt8) (h : Digits l) : (cutP isDig l).dropWhile isDig = [] := by
  have : l.reverse.dropWhile isDig = [] := (drop_nil _).mpr (fun b hb => (dig_iff b).mpr (h b (by simpa using hb)))
  unfold cutP
  rw [this]
  rfl

theorem magn_minus (m : List UInt8) : magn (45 :: m) = m := by
  simp [magn, Lib.trimPrefix, Lib.hasPrefix]

theorem magn_plain (l : List UInt8) (h : ∀ m, l ≠ 45 :: m) : magn l = l := by
  unfold magn Lib.trimPrefix Lib.hasPrefix
  cases l with
  | nil => rfl
  | cons b l =>
    have hb : b ≠ 45 := fun e => h l (by rw [e])
    simp [Ne.symm hb]

theorem canon_iff (l : List UInt8) : canon l = true ↔ l = [48] ∨ Lead l ∨ ∃ m, l = 45 :: m ∧ Lead m := by
  have key : ∀ b r, ((b != 48 && ((cutP isDig (b :: r)).dropWhile isDig == [])) = true ↔ Lead (b :: r)) := by
    intro b r
    rw [Bool.and_eq_true, bne_iff_ne, beq_iff_eq]
    constructor
    · rintro ⟨h1, h2⟩
      have h3 := all_of_cut _ h2
      refine ⟨⟨b, r, rfl, ?_⟩, h3⟩
      have := h3 b (by simp)
      have h4 : b.toNat ≠ 48 := fun e => h1 (UInt8.toNat_inj.mp e)
      omega
    · rintro ⟨⟨b', r', e, h1⟩, h2⟩
      cases e
      exact ⟨fun e => by rw [e] at h1; simp at h1, cut_of_all _ h2⟩
  by_cases hm : ∃ m, l = 45 :: m
  · obtain ⟨m, rfl⟩ := hm
    have hl : ¬ Lead (45 :: m) := by
      rintro ⟨⟨b, r, e, h⟩, _⟩
      cases e
      simp at h
    unfold canon
    rw [magn_minus]
    by_cases h0 : m = [48]
    · subst h0
      rw [if_pos rfl]
      simp only [Lib.hasPrefix]
      constructor
      · intro h; simp at h
      · rintro (h | h | ⟨m, h, ⟨⟨b, r, e, h1⟩, _⟩⟩)
        · cases h
        · exact absurd h hl
        · cases h; cases e; simp at h1
    · rw [if_neg h0]
      cases m with
      | nil =>
        constructor
        · intro h; cases h
        · rintro (h | h | ⟨m, h, ⟨⟨b, r, e, h1⟩, _⟩⟩)
          · cases h
          · exact absurd h hl
          · cases h; cases e
      | cons b r =>
        simp only
        rw [key]
        constructor
        · intro h; exact .inr (.inr ⟨_, rfl, h⟩)
        · rintro (h | h | ⟨m, h, h2⟩)
          · cases h
          · exact absurd h hl
          · cases h; exact h2
  · have hm' : ∀ m, l ≠ 45 :: m := fun m e => hm ⟨m, e⟩
    unfold canon
    rw [magn_plain l hm']
    by_cases h0 : l = [48]
    · subst h0
      rw [if_pos rfl]
      exact ⟨fun _ => .inl rfl, fun _ => rfl⟩
    · rw [if_neg h0]
      cases l with
      | nil =>
        constructor
        · intro h; cases h
        · rintro (h | ⟨⟨b, r, e, h1⟩, _⟩ | ⟨m, h, _⟩)
          · cases h
          · cases e
          · cases h
      | cons b r =>
        simp only
        rw [key]
        constructor
        · intro h; exact .inr (.inl h)
        · rintro (h | h | ⟨m, h, h2⟩)
          · exact absurd h h0
          · exact h
          · exact absurd h (hm' m)

theorem Lead.digits {m : List UInt8} (h : Lead m) : Digits m := h.2
theorem Lead.pos {m : List UInt8} (h : Lead m) : 0 < decNat m 0 := by
  obtain ⟨⟨b, r, rfl, hb⟩, _⟩ := h
  exact Nat.lt_of_lt_of_le (Nat.pow_pos (by omega)) (decNat_ge b r hb)

/-- A canonical text's magnitude and sign. -/
theorem canon_val {l : List UInt8} (h : canon l = true) :
    Digits (magn l) ∧ (magn l ≠ []) ∧ decInt l = (if Lib.hasPrefix l [45] then -(decNat (magn l) 0 : Int) else (decNat (magn l) 0 : Int)) ∧
    (Lib.hasPrefix l [45] = true → 0 < decNat (magn l) 0) ∧ (decNat (magn l) 0 = 0 → l = [48]) ∧ (magn l = [48] ∨ Lead (magn l)) := by
  have h0 := (canon_iff l).mp h
  clear h
  rcases h0 with rfl | h | ⟨m, rfl, h⟩
  · have e : magn [48] = [48] := rfl
    rw [e]
    refine ⟨fun b hb => by simp at hb; subst hb; simp, by simp, by simp [Lib.hasPrefix, decInt, decNat], by simp [Lib.hasPrefix], fun _ => rfl, .inl rfl⟩
  · obtain ⟨b, r, rfl, hb⟩ := h.1
    have hb' : b ≠ 45 := fun e => by subst e; simp at hb
    have e : magn (b :: r) = b :: r := magn_plain _ (fun m k => by cases k; exact hb' rfl)
    have hp : Lib.hasPrefix (b :: r) [45] = false := by
      show List.isPrefixOf [45] (b :: r) = false
      simp [List.isPrefixOf, Ne.symm hb']
    rw [e, hp]
    refine ⟨h.2, by simp, by simp [decInt, hb'], by simp, fun k => ?_, .inr h⟩
    have := h.pos
    omega
  · have e := magn_minus m
    have hp : Lib.hasPrefix (45 :: m) [45] = true := by simp [Lib.hasPrefix]
    rw [e, hp]
    refine ⟨h.2, ?_, by simp [decInt], fun _ => h.pos, fun k => ?_, .inr h⟩
    · obtain ⟨b, r, rfl, _⟩ := h.1
      simp
    · have := h.pos
      omega

/-! ## One text for each number -/
theorem digits_inj : ∀ (l m : List UInt8), Digits l → Digits m → l.length = m.length → decNat l 0 = decNat m 0 → l = m := by
  intro l
  induction l with
  | nil =>
    intro m _ _ h _
    exact (List.length_eq_zero_iff.mp h.symm).symm
  | cons b l ih =>
    intro m hl hm hlen h
    cases m with
    | nil => simp at hlen
    | cons c m =>
      have hlen' : l.length = m.length := by simpa using hlen
      have hl' : Digits l := fun x hx => hl x (List.mem_cons_of_mem _ hx)
      have hm' : Digits m := fun x hx => hm x (List.mem_cons_of_mem _ hx)
      have h1 := decNat_lt l hl'
      have h2 := decNat_lt m hm'
      have hb := hl b (List.mem_cons_self ..)
      have hc := hm c (List.mem_cons_self ..)
      rw [decNat, decNat_acc, decNat, decNat_acc m] at h
      simp only [Nat.mul_zero, Nat.zero_add] at h
      rw [← hlen'] at h h2
      have hp : 0 < 10 ^ l.length := Nat.pow_pos (by omega)
      have e : b.toNat - 48 = c.toNat - 48 := by
        have q : ∀ x r : Nat, r < 10 ^ l.length → (x * 10 ^ l.length + r) / 10 ^ l.length = x := fun x r hr => by
          rw [Nat.mul_comm, Nat.mul_add_div hp, Nat.div_eq_of_lt hr, Nat.add_zero]
        have e1 := q (b.toNat - 48) _ h1
        rw [h, q _ _ h2] at e1
        exact e1.symm
      have ebc : b = c := UInt8.toNat_inj.mp (by omega)
      rw [e] at h
      rw [ebc, ih m hl' hm' hlen' (by omega)]

theorem lead_inj {l m : List UInt8} (hl : Lead l) (hm : Lead m) (h : decNat l 0 = decNat m 0) : l = m := by
  refine digits_inj l m hl.2 hm.2 ?_ h
  have up : ∀ {a b : List UInt8}, Lead a → Lead b → decNat a 0 = decNat b 0 → a.length ≤ b.length := by
    intro a b ha hb h
    obtain ⟨⟨x, r, rfl, hx⟩, _⟩ := ha
    have h1 := decNat_ge x r hx
    have h2 := decNat_lt b hb.2
    rw [← h] at h2
    have h3 : 10 ^ r.length < 10 ^ b.length := Nat.lt_of_le_of_lt h1 h2
    have := (Nat.pow_lt_pow_iff_right (by omega : 1 < 10)).mp h3
    exact this
  exact Nat.le_antisymm (up hl hm h) (up hm hl h.symm)

theorem decInt_zero_of : decInt [48] = 0 := by simp [decInt, decNat]
theorem decInt_lead {l : List UInt8} (h : Lead l) : decInt l = decNat l 0 := by
  obtain ⟨⟨b, r, rfl, hb⟩, _⟩ := h
  have : b ≠ 45 := fun e => by subst e; simp at hb
  simp [decInt, this]
theorem decInt_minus (m : List UInt8) : decInt (45 :: m) = -(decNat m 0 : Int) := by simp [decInt]

theorem canon_inj {l m : List UInt8} (hl : canon l = true) (hm : canon m = true) (h : decInt l = decInt m) : l = m := by
  have hl0 := (canon_iff l).mp hl
  have hm0 := (canon_iff m).mp hm
  clear hl hm
  rcases hl0 with rfl | hl | ⟨l', rfl, hl⟩ <;> rcases hm0 with rfl | hm | ⟨m', rfl, hm⟩
  · rfl
  · rw [decInt_zero_of, decInt_lead hm] at h; have := hm.pos; omega
  · rw [decInt_zero_of, decInt_minus] at h; have := hm.pos; omega
  · rw [decInt_zero_of, decInt_lead hl] at h; have := hl.pos; omega
  · rw [decInt_lead hl, decInt_lead hm] at h; exact lead_inj hl hm (by omega)
  · rw [decInt_lead hl, decInt_minus] at h; have := hl.pos; have := hm.pos; omega
  · rw [decInt_zero_of, decInt_minus] at h; have := hl.pos; omega
  · rw [decInt_minus, decInt_lead hm] at h; have := hl.pos; have := hm.pos; omega
  · rw [decInt_minus, decInt_minus] at h; rw [lead_inj hl hm (by omega)]

end Go.Proofs.YtlbmihpmcgiinaaGreatDoor.Own
end

/- Chapter 39: walks: bigint.Check. -/
section
namespace Go.Proofs.YtlbmihpmcgiinaaGreatDoor.Own
open Go Go.Proofs Go.RowKit

/-- The number of bigint.Check's error. -/
def chk (s : ByteArray) : Int := if canon s.data.toList = true then (if 4096 < digs s then 10 else 0) else 3

theorem w59 (s : ByteArray) (hs : s.size < 4611686018427387904) (w : World) (h : 10 ≤ w.heap.size) :
    Calls Tryz.prog 59 #[.string s] w fun e w' => e = .returned (.int .i64 (chk s)) ∧ Below w.heap.size w w' := by
  have h76 := w76 s hs w h
  have e77 : ∀ w, Calls Tryz.prog 77 #[.string s] w fun e w' => e = .returned (.int .i64 (digs s)) ∧ w' = w := fun w => w77 s hs w
  have hdef : Hid (chk s = if canon s.data.toList = true then (if 4096 < digs s then 10 else 0) else 3) := Lib.hid rfl
  generalize chk s = x at hdef ⊢
  generalize digs s = d at hdef e77
  generalize canon s.data.toList = c at hdef h76
  go_enter Tryz.func59, Tryz.ntmps59
  cases c
  · go_wp2_with (first | (go_at_call 76; refine h76.mono ?_; rintro e w' ⟨rfl, hB⟩) | (go_at_call 77; refine (e77 _).mono ?_; rintro e w' ⟨rfl, rfl⟩))
    go_ret
    have e := hdef.out
    simp at e
    exact ⟨congrArg (fun n : Int => Ending.returned (.int .i64 n)) e.symm, hB⟩
  · go_wp2_with (first | (go_at_call 76; refine h76.mono ?_; rintro e w' ⟨rfl, hB⟩) | (go_at_call 77; refine (e77 _).mono ?_; rintro e w' ⟨rfl, rfl⟩))
    · go_ret
      have e := hdef.out
      rw [if_pos trivial, if_pos (by omega)] at e
      exact ⟨congrArg (fun n : Int => Ending.returned (.int .i64 n)) e.symm, by assumption⟩
    · go_ret
      have e := hdef.out
      rw [if_pos trivial, if_neg (by omega)] at e
      exact ⟨congrArg (fun n : Int => Ending.returned (.int .i64 n)) e.symm, by assumption⟩

end Go.Proofs.YtlbmihpmcgiinaaGreatDoor.Own
end
