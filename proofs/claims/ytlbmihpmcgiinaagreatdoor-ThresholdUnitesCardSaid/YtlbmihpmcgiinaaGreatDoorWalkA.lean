/- Chapter 39: numbers as lists of limbs, and texts of numbers: plain facts, no program in sight. -/
import Derived.Test.YtlbmihpmcgiinaaGreatDoorEngA
import Derived.Test.YtlbmihpmcgiinaaGreatDoorProg
import Derived.WalkKit
import Derived.ProofKit
import Derived.Test.YtlbmihpmcgiinaaGreatDoorTTrimPrefix
import Derived.Test.YtlbmihpmcgiinaaGreatDoorInst
import Derived.Lib.Hide

section
namespace Go.Proofs.YtlbmihpmcgiinaaGreatDoor.Own
open Go

/-- The value of limbs, the lowest one first. -/
def lval (B : Int) : List Int → Int
  | [] => 0
  | x :: l => x + B * lval B l

def InB (B : Int) (l : List Int) : Prop := ∀ x ∈ l, 0 ≤ x ∧ x < B

theorem InB.nil {B : Int} : InB B [] := fun x h => by cases h
theorem InB.append {B : Int} {a b : List Int} (h : InB B a) (k : InB B b) : InB B (a ++ b) := fun x m => (List.mem_append.mp m).elim (h x) (k x)
theorem InB.one {B x : Int} (h0 : 0 ≤ x) (h1 : x < B) : InB B [x] := fun y m => by rw [List.mem_singleton.mp m]; exact ⟨h0, h1⟩
theorem InB.left {B : Int} {a b : List Int} (h : InB B (a ++ b)) : InB B a := fun x m => h x (List.mem_append.mpr (.inl m))
theorem InB.right {B : Int} {a b : List Int} (h : InB B (a ++ b)) : InB B b := fun x m => h x (List.mem_append.mpr (.inr m))
theorem InB.tail {B x : Int} {a : List Int} (h : InB B (x :: a)) : InB B a := fun y m => h y (List.mem_cons_of_mem _ m)
theorem InB.head {B x : Int} {a : List Int} (h : InB B (x :: a)) : 0 ≤ x ∧ x < B := h x (List.mem_cons_self ..)

theorem lval_append (B : Int) (a b : List Int) : lval B (a ++ b) = lval B a + B ^ a.length * lval B b := by
  induction a with
  | nil => simp [lval]
  | cons x a ih => simp only [List.cons_append, lval, ih, List.length_cons, Int.pow_succ, Int.mul_add, ← Int.mul_assoc, Int.mul_comm B (B ^ a.length)]; omega

theorem lval_snoc (B : Int) (a : List Int) (x : Int) : lval B (a ++ [x]) = lval B a + B ^ a.length * x := by
  rw [lval_append]; simp [lval]

theorem lval_nonneg {B : Int} (hB : 0 < B) : ∀ {l : List Int}, InB B l → 0 ≤ lval B l := by
  intro l
  induction l with
  | nil => intro _; exact Int.le_refl _
  | cons x l ih =>
    intro h
    have h1 := ih h.tail
    have h2 := h.head
    have h3 := Int.mul_nonneg (Int.le_of_lt hB) h1
    simp only [lval]; omega

theorem lval_lt {B : Int} (hB : 0 < B) : ∀ {l : List Int}, InB B l → lval B l < B ^ l.length := by
  intro l
  induction l with
  | nil => intro _; simp [lval]
  | cons x l ih =>
    intro h
    have h1 := ih h.tail
    have h2 := h.head
    have h3 : lval B l + 1 ≤ B ^ l.length := h1
    have h4 := Int.mul_le_mul_of_nonneg_left h3 (Int.le_of_lt hB)
    rw [Int.mul_add, Int.mul_one] at h4
    simp only [lval, List.length_cons, Int.pow_succ, Int.mul_comm (B ^ l.length) B]
    omega

theorem pow_pos' {B : Int} (hB : 0 < B) (n : Nat) : 0 < B ^ n := Int.pow_pos hB

/-- No zero at the end. -/
def Trimmed (l : List Int) : Prop := ∀ x a, l = a ++ [x] → x ≠ 0

theorem Trimmed.nil : Trimmed [] := fun x a h => by simp at h

theorem lval_zero {B : Int} (hB : 0 < B) : ∀ {l : List Int}, InB B l → lval B l = 0 → ∀ x ∈ l, x = 0 := by
  intro l
  induction l with
  | nil => intro _ _ x h; cases h
  | cons y l ih =>
    intro h e x m
    have h1 := lval_nonneg hB h.tail
    have h2 := h.head
    simp only [lval] at e
    have h3 := Int.mul_nonneg (Int.le_of_lt hB) h1
    have h4 : B * lval B l = 0 := by omega
    have h5 : lval B l = 0 := by
      rcases Int.mul_eq_zero.mp h4 with k | k
      · omega
      · exact k
    rcases List.mem_cons.mp m with rfl | m
    · omega
    · exact ih h.tail h5 x m

theorem trimmed_zero {B : Int} (hB : 0 < B) {l : List Int} (h : InB B l) (ht : Trimmed l) : lval B l = 0 ↔ l = [] := by
  constructor
  · intro e
    rcases List.eq_nil_or_concat l with k | ⟨a, x, k⟩
    · exact k
    · rw [List.concat_eq_append] at k
      have := lval_zero hB h e x (by rw [k]; simp)
      exact absurd this (ht x a k)
  · rintro rfl; rfl

/-- A trimmed list's value is at least the power of its last place. -/
theorem trimmed_ge {B : Int} (hB : 0 < B) {a : List Int} {x : Int} (h : InB B (a ++ [x])) (hx : x ≠ 0) : B ^ a.length ≤ lval B (a ++ [x]) := by
  have h1 := lval_nonneg hB h.left
  have h2 := h.right.head
  rw [lval_snoc]
  have : B ^ a.length * 1 ≤ B ^ a.length * x := Int.mul_le_mul_of_nonneg_left (by omega) (Int.le_of_lt (pow_pos' hB _))
  omega

theorem pow_mono {B : Int} (hB : 1 < B) {m n : Nat} (h : m ≤ n) : B ^ m ≤ B ^ n := by
  obtain ⟨k, rfl⟩ := Nat.le.dest h
  rw [Int.pow_add]
  have h1 : 0 < B ^ m := pow_pos' (by omega) m
  have h2 : 0 < B ^ k := pow_pos' (by omega) k
  have := Int.mul_le_mul_of_nonneg_left (c := B ^ m) (show (1 : Int) ≤ B ^ k by omega) (by omega)
  omega

/-- The longer one of two trimmed lists is the greater number. -/
theorem lval_len {B : Int} (hB : 1 < B) {x y : List Int} (hx : InB B x) (hy : InB B y) (ty : Trimmed y) (h : x.length < y.length) : lval B x < lval B y := by
  rcases List.eq_nil_or_concat y with k | ⟨a, c, k⟩
  · rw [k] at h; simp at h
  · rw [List.concat_eq_append] at k
    have h1 := lval_lt (by omega : 0 < B) hx
    have h2 := trimmed_ge (by omega : 0 < B) (k ▸ hy) (ty c a k)
    have h3 : B ^ x.length ≤ B ^ a.length := pow_mono hB (by rw [k] at h; simp at h; omega)
    rw [k]
    omega

/-- Of two lists of one length with one and the same end behind a place, the place decides. -/
theorem lval_place {B : Int} (hB : 1 < B) {a b t : List Int} {x y : Int} (ha : InB B a) (hb : InB B b) (h : a.length = b.length) (hxy : x < y) :
    lval B (a ++ x :: t) < lval B (b ++ y :: t) := by
  rw [lval_append, lval_append, ← h]
  have h1 := lval_lt (by omega : 0 < B) ha
  have h2 := lval_nonneg (by omega : 0 < B) hb
  simp only [lval]
  have h3 : B ^ a.length * (x + B * lval B t) + B ^ a.length ≤ B ^ a.length * (y + B * lval B t) := by
    have := Int.mul_le_mul_of_nonneg_left (c := B ^ a.length) (show x + B * lval B t + 1 ≤ y + B * lval B t by omega) (Int.le_of_lt (pow_pos' (by omega) _))
    rw [Int.mul_add _ _ 1] at this
    omega
  omega

/-! ## Texts -/
theorem decNat_acc (l : List UInt8) (n : Nat) : decNat l n = n * 10 ^ l.length + decNat l 0 := by
  induction l generalizing n with
  | nil => simp [decNat]
  | cons b l ih =>
    rw [decNat, ih, decNat, ih (10 * 0 + _)]
    simp only [List.length_cons, Nat.pow_succ, Nat.mul_zero, Nat.zero_add, Nat.add_mul]
    have : 10 * n * 10 ^ l.length = n * (10 ^ l.length * 10) := by
      rw [Nat.mul_comm 10 n, Nat.mul_assoc, Nat.mul_comm 10]
    omega

theorem decNat_append (a b : List UInt8) (n : Nat) : decNat (a ++ b) n = decNat b (decNat a n) := by
  induction a generalizing n with
  | nil => rfl
  | cons x a ih => simp only [List.cons_append, decNat]; exact ih _

def Digits (l : List UInt8) : Prop := ∀ b ∈ l, 48 ≤ b.toNat ∧ b.toNat ≤ 57

theorem decNat_lt (l : List UInt8) (h : Digits l) : decNat l 0 < 10 ^ l.length := by
  induction l with
  | nil => simp [decNat]
  | cons b l ih =>
    have h1 := ih (fun c hc => h c (List.mem_cons_of_mem _ hc))
    have h2 := h b (List.mem_cons_self ..)
    rw [decNat, decNat_acc]
    simp only [List.length_cons, Nat.pow_succ, Nat.mul_zero, Nat.zero_add]
    have : (b.toNat - 48) * 10 ^ l.length ≤ 9 * 10 ^ l.length := Nat.mul_le_mul_right _ (by omega)
    omega

/-- A text without a zero at the front is as great as its length says. -/
theorem decNat_ge (b : UInt8) (l : List UInt8) (h : 49 ≤ b.toNat) : 10 ^ l.length ≤ decNat (b :: l) 0 := by
  rw [decNat, decNat_acc]
  simp only [Nat.mul_zero, Nat.zero_add]
  have : 1 * 10 ^ l.length ≤ (b.toNat - 48) * 10 ^ l.length := Nat.mul_le_mul_right _ (by omega)
  omega

end Go.Proofs.YtlbmihpmcgiinaaGreatDoor.Own
end

/- Chapter 39: walks of small functions. -/
section
namespace Go.Proofs.YtlbmihpmcgiinaaGreatDoor.Own
open Go Go.Proofs Go.RowKit

/-- The number of digits of an integer's text. -/
def digs (s : ByteArray) : Nat := match s.data.toList with | 45 :: l => l.length | l => l.length

theorem digs_minus (s : ByteArray) (h : 0 < s.size) (h0 : ((s[0].toNat : Int) == 45) = true) : ((s.size : Int) - 1) = digs s := by
  have h1 : s[0] = 45 := by
    have : s[0].toNat = 45 := by
      have := beq_iff_eq.mp h0
      omega
    exact UInt8.toNat_inj.mp this
  obtain ⟨⟨l⟩⟩ := s
  cases l with
  | nil => simp [ByteArray.size] at h
  | cons b l =>
    have : b = 45 := h1
    subst this
    simp [digs, ByteArray.size]

theorem digs_plain (s : ByteArray) (h : 0 < s.size) (h0 : ((s[0].toNat : Int) == 45) = false) : (s.size : Int) = digs s := by
  have h1 : s[0] ≠ 45 := by
    intro e
    rw [e] at h0
    simp at h0
  obtain ⟨⟨l⟩⟩ := s
  cases l with
  | nil => simp [ByteArray.size] at h
  | cons b l =>
    have : b ≠ 45 := h1
    unfold digs
    split
    · rename_i l' heq
      simp at heq
      exact absurd heq.1 this
    · simp [ByteArray.size]

theorem digs_empty (s : ByteArray) (h : ¬ 0 < s.size) : (s.size : Int) = digs s := by
  obtain ⟨⟨l⟩⟩ := s
  cases l with
  | nil => rfl
  | cons b l => simp [ByteArray.size] at h

/-- threshold.digits -/
theorem w60 (s : ByteArray) (hs : s.size < 4611686018427387904) (w : World) : Calls Tryz.prog 60 #[.string s] w fun e w' => e = .returned (.int .i64 (digs s)) ∧ w' = w := by
  go_enter Tryz.func60, Tryz.ntmps60
  go_wp2
  all_goals go_ret
  · rename_i h h0
    exact ⟨congrArg (fun n : Int => Ending.returned (.int .i64 n)) (digs_minus s h h0), rfl⟩
  · rename_i h h0
    exact ⟨congrArg (fun n : Int => Ending.returned (.int .i64 n)) (digs_plain s h h0), rfl⟩
  · rename_i h
    exact ⟨congrArg (fun n : Int => Ending.returned (.int .i64 n)) (digs_empty s h), rfl⟩

end Go.Proofs.YtlbmihpmcgiinaaGreatDoor.Own
end

/- Chapter 39: walks of small functions: bigint.digits. -/
section
namespace Go.Proofs.YtlbmihpmcgiinaaGreatDoor.Own
open Go Go.Proofs Go.RowKit

theorem trim_digs (s : ByteArray) : (Lib.trimPrefix s.data.toList [45]).length = digs s := by
  unfold digs Lib.trimPrefix Lib.hasPrefix
  obtain ⟨⟨l⟩⟩ := s
  cases l with
  | nil => rfl
  | cons b l =>
    by_cases h : b = 45
    · subst h; simp
    · simp [h, Ne.symm h]

/-- bigint.digits -/
theorem w77 (s : ByteArray) (_hs : s.size < 4611686018427387904) (w : World) : Calls Tryz.prog 77 #[.string s] w fun e w' => e = .returned (.int .i64 (digs s)) ∧ w' = w := by
  go_enter Tryz.func77, Tryz.ntmps77
  go_wp2_with (first | (go_at_call 95; refine (Tryz.strings_TrimPrefix _ _ _).mono ?_; rintro e w' ⟨rfl, rfl⟩))
  all_goals go_ret
  exact ⟨congrArg (fun n : Nat => Ending.returned (.int .i64 (n : Int))) (trim_digs s), rfl⟩

end Go.Proofs.YtlbmihpmcgiinaaGreatDoor.Own
end

/- Chapter 39: walks of small functions: the library's sets of ASCII bytes. -/
section
namespace Go.Proofs.YtlbmihpmcgiinaaGreatDoor.Own
open Go Go.Proofs Go.RowKit

theorem w177 (b : Nat) (c : UInt8) (x : Bool) (w : World) (h : w.cell? ⟨b, c.toNat, none⟩ = some (.bool x)) :
    Calls Tryz.prog 177 #[.pointer (some ⟨b, 0, none⟩), .int .u8 c.toNat] w fun e w' => e = .returned (.bool x) ∧ w' = w := by
  have hc : c.toNat < 256 := c.toNat_lt
  have ha : (⟨b, 0, none⟩ : Addr).add c.toNat = ⟨b, c.toNat, none⟩ := by
    rw [addr_add]; simp
  go_enter Tryz.func177, Tryz.ntmps177
  go_wp2
  all_goals go_ret
  exact ⟨rfl, rfl⟩

end Go.Proofs.YtlbmihpmcgiinaaGreatDoor.Own
end

/- Chapter 39: walks: trimming at a set of ASCII bytes. -/
section
namespace Go.Proofs.YtlbmihpmcgiinaaGreatDoor.Own
open Go Go.Proofs Go.RowKit

def strSize : Value → Nat
  | .string s => s.size
  | _ => 0

theorem bstr_self (t : ByteArray) : bstr t.data.toList = .string t := by
  obtain ⟨⟨l⟩⟩ := t; rfl

theorem drop_stop (p : UInt8 → Bool) (t : ByteArray) (h : 0 < t.size) (hp : (!p t[0]) = true) : t.data.toList.dropWhile p = t.data.toList := by
  obtain ⟨⟨l⟩⟩ := t
  cases l with
  | nil => simp [ByteArray.size] at h
  | cons b l =>
    have : (!p b) = true := hp
    simp at this
    simp [this]

theorem drop_on (p : UInt8 → Bool) (t : ByteArray) (h : 0 < t.size) (hp : (!p t[0]) = false) (n : Nat) (hn : n = t.size) : (t.extract 1 n).data.toList.dropWhile p = t.data.toList.dropWhile p := by
  subst hn
  obtain ⟨⟨l⟩⟩ := t
  cases l with
  | nil => simp [ByteArray.size] at h
  | cons b l =>
    have : (!p b) = false := hp
    simp at this
    simp [this, ByteArray.size, ByteArray.data_extract]

theorem drop_none (p : UInt8 → Bool) (t : ByteArray) (h : ¬ 0 < t.size) : t.data.toList.dropWhile p = t.data.toList := by
  obtain ⟨⟨l⟩⟩ := t
  cases l with
  | nil => rfl
  | cons b l => simp [ByteArray.size] at h

theorem w127 (p : UInt8 → Bool) (s : ByteArray) (hs : s.size < 4611686018427387904) (b : Nat) (w : World) (h : ∀ c : UInt8, w.cell? ⟨b, c.toNat, none⟩ = some (.bool (p c))) :
    Calls Tryz.prog 127 #[.string s, .pointer (some ⟨b, 0, none⟩)] w fun e w' => e = .returned (bstr (s.data.toList.dropWhile p)) ∧ w' = w := by
  have H := Lib.hid h
  clear h
  go_enter Tryz.func127, Tryz.ntmps127
  go_wp2
  go_loop [0] (fun v => ∃ t : ByteArray, t.size ≤ s.size ∧ t.data.toList.dropWhile p = s.data.toList.dropWhile p ∧ v = .string t) (fun v => strSize v)
  case atStart => exact ⟨s, Nat.le_refl _, rfl, rfl⟩
  case round =>
    obtain ⟨t, ht, hd, rfl⟩ := hrel
    have HD := Lib.hid hd
    clear hd
    go_wp2_with (first | (go_at_call 177; refine (w177 _ _ _ _ (H.out _)).mono ?_; rintro e w' ⟨rfl, rfl⟩))
    · go_ret
      exact ⟨by rw [← HD.out, drop_stop p t (by assumption) (by assumption), bstr_self]; rfl, rfl⟩
    · go_round
      case rel => exact ⟨t.extract 1 t.size, by rw [ByteArray.size_extract]; omega, by rw [drop_on p t (by assumption) (by assumption) _ rfl]; exact HD.out, rfl⟩
      case measure =>
        have : 0 < t.size := by assumption
        show (t.extract 1 t.size).size < t.size
        rw [ByteArray.size_extract]; omega
    · go_ret
      exact ⟨by rw [← HD.out, drop_none p t (by assumption), bstr_self]; rfl, rfl⟩

end Go.Proofs.YtlbmihpmcgiinaaGreatDoor.Own
end

/- Chapter 39: walks: trimming at a set of ASCII bytes, from the end. -/
section
namespace Go.Proofs.YtlbmihpmcgiinaaGreatDoor.Own
open Go Go.Proofs Go.RowKit

/-- Bytes without the last ones that are in a set. -/
def cutP (p : UInt8 → Bool) (l : List UInt8) : List UInt8 := (l.reverse.dropWhile p).reverse

theorem cut_snoc (p : UInt8 → Bool) (l : List UInt8) (b : UInt8) : cutP p (l ++ [b]) = if p b then cutP p l else l ++ [b] := by
  unfold cutP
  rw [List.reverse_append, List.reverse_singleton, List.singleton_append, List.dropWhile_cons]
  split <;> simp

theorem snoc_of (t : ByteArray) (h : 0 < t.size) (n : Nat) (hn : n = t.size - 1) (hlt : n < t.size) : t.data.toList = (t.extract 0 n).data.toList ++ [t[n]] := by
  subst hn
  obtain ⟨⟨l⟩⟩ := t
  have hl : 0 < l.length := h
  have hlt' : l.length - 1 < l.length := hlt
  show l = ((⟨⟨l⟩⟩ : ByteArray).extract 0 (l.length - 1)).data.toList ++ [l[l.length - 1]]
  rw [ByteArray.data_extract, Array.toList_extract]
  simp only [List.extract_eq_take_drop, List.drop_zero, Nat.sub_zero]
  rw [← List.getLast_eq_getElem (List.ne_nil_of_length_pos hl)]
  have := List.dropLast_concat_getLast (List.ne_nil_of_length_pos hl)
  rw [List.dropLast_eq_take] at this
  exact this.symm

theorem cut_stop (p : UInt8 → Bool) (t : ByteArray) (h : 0 < t.size) (n : Nat) (hn : n = t.size - 1) (hlt : n < t.size) (hp : (!p t[n]) = true) : cutP p t.data.toList = t.data.toList := by
  rw [snoc_of t h n hn hlt, cut_snoc, if_neg (by simpa using hp)]

theorem cut_on (p : UInt8 → Bool) (t : ByteArray) (h : 0 < t.size) (n : Nat) (hn : n = t.size - 1) (hlt : n < t.size) (hp : (!p t[n]) = false) : cutP p (t.extract 0 n).data.toList = cutP p t.data.toList := by
  rw [snoc_of t h n hn hlt, cut_snoc, if_pos (by simpa using hp)]

theorem cut_none (p : UInt8 → Bool) (t : ByteArray) (h : ¬ 0 < t.size) : cutP p t.data.toList = t.data.toList := by
  obtain ⟨⟨l⟩⟩ := t
  cases l with
  | nil => rfl
  | cons b l => simp [ByteArray.size] at h

theorem w128 (p : UInt8 → Bool) (s : ByteArray) (hs : s.size < 4611686018427387904) (b : Nat) (w : World) (h : ∀ c : UInt8, w.cell? ⟨b, c.toNat, none⟩ = some (.bool (p c))) :
    Calls Tryz.prog 128 #[.string s, .pointer (some ⟨b, 0, none⟩)] w fun e w' => e = .returned (bstr (cutP p s.data.toList)) ∧ w' = w := by
  have H := Lib.hid h
  clear h
  go_enter Tryz.func128, Tryz.ntmps128
  go_wp2
  go_loop [0] (fun v => ∃ t : ByteArray, t.size ≤ s.size ∧ cutP p t.data.toList = cutP p s.data.toList ∧ v = .string t) (fun v => strSize v)
  case atStart => exact ⟨s, Nat.le_refl _, rfl, rfl⟩
  case round =>
    obtain ⟨t, ht, hd, rfl⟩ := hrel
    have HD := Lib.hid hd
    clear hd
    go_wp2_with (first | (go_at_call 177; refine (w177 _ _ _ _ (H.out _)).mono ?_; rintro e w' ⟨rfl, rfl⟩))
    · go_ret
      exact ⟨by rw [← HD.out, cut_stop p t (by assumption) (t.size - 1) rfl (by omega) (by assumption), bstr_self]; rfl, rfl⟩
    · go_round
      case rel => exact ⟨t.extract 0 (t.size - 1), by rw [ByteArray.size_extract]; omega, by rw [cut_on p t (by assumption) (t.size - 1) rfl (by omega) (by assumption)]; exact HD.out, rfl⟩
      case measure =>
        have : 0 < t.size := by assumption
        show (t.extract 0 (t.size - 1)).size < t.size
        rw [ByteArray.size_extract]; omega
    · go_ret
      exact ⟨by rw [← HD.out, cut_none p t (by assumption), bstr_self]; rfl, rfl⟩

end Go.Proofs.YtlbmihpmcgiinaaGreatDoor.Own
end
