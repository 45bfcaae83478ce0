/- The engine, part 4: each operation of the abstract code does what the model's operation does. -/
import Derived.Test.YtlbmihpmcgiinaaGreatDoorEngA
import Derived.Laws.Strings
import Derived.IntWalk

section
namespace Go.Proofs.YtlbmihpmcgiinaaGreatDoor.Own
open Go

/-- What an operation comes to: a value, or nothing. -/
def Gives (nx : Next) (v : Value) : Prop := nx = .value v ∨ nx = .skip ∧ v = undef

/-- An abstract operation does what the model's operation does. -/
def OpOK (P : Program) (o : Oper) (r : Run) : Prop :=
  ∀ (call : CallA) (ρa : Operand → Value) (H : AH) (va : Value) (H' : AH), WF H → r call ρa H = some (va, H') →
    HX H H' ∧ ∀ (β : Ren) (w : World) (ρ : Operand → Value), Rep β H.get w → Free β H.ctr H'.ctr → (∀ x ∈ o.op.operands.toList, VR β (ρa x) (ρ x)) →
      ∃ β' w' nx v, (execOp ρ o).run P w = .ok nx w' ∧ Gives nx v ∧ VR β' va v ∧ Rep β' H'.get w' ∧ Ev β H.get H.ro H.ctr w β' H'.ctr w'

/-- The same where the heap stays. -/
theorem calmG {P : Program} {o : Oper} {ρa : Operand → Value} {H : AH} {va : Value} (wf : WF H)
    (h : ∀ (β : Ren) (w : World) (ρ : Operand → Value), Rep β H.get w → (∀ x ∈ o.op.operands.toList, VR β (ρa x) (ρ x)) →
      ∃ w' v, (execOp ρ o).run P w = .ok (.value v) w' ∧ Drawn w w' ∧ VR β va v) :
    HX H H ∧ ∀ (β : Ren) (w : World) (ρ : Operand → Value), Rep β H.get w → Free β H.ctr H.ctr → (∀ x ∈ o.op.operands.toList, VR β (ρa x) (ρ x)) →
      ∃ β' w' nx v, (execOp ρ o).run P w = .ok nx w' ∧ Gives nx v ∧ VR β' va v ∧ Rep β' H.get w' ∧ Ev β H.get H.ro H.ctr w β' H.ctr w' := by
  refine ⟨HX.refl wf, fun β w ρ hr _ ho => ?_⟩
  obtain ⟨w', v, h1, h2, h3⟩ := h β w ρ hr ho
  exact ⟨β, w', .value v, v, h1, .inl rfl, h3, hr.drawn h2, Ev.drawn h2⟩

section inv
variable {β : Ren} {v : Value}
theorem VR.int_inv {k : IntKind} {n : Int} (h : VR β (.int k n) v) : v = .int k n := by cases h; rfl
theorem VR.bool_inv {b : Bool} (h : VR β (.bool b) v) : v = .bool b := by cases h; rfl
theorem VR.str_inv {s : ByteArray} (h : VR β (.string s) v) : v = .string s := by cases h; rfl
theorem VR.pnil_inv (h : VR β (.pointer none) v) : v = .pointer none := by cases h; rfl
theorem VR.mnil_inv (h : VR β (.map none) v) : v = .map none := by cases h; rfl
theorem VR.snil_inv {l c : Nat} (h : VR β (.slice none l c) v) : v = .slice none 0 0 ∧ l = 0 ∧ c = 0 := by cases h; exact ⟨rfl, rfl, rfl⟩
theorem VR.ptr_inv {a : Addr} (h : VR β (.pointer (some a)) v) : ∃ a', v = .pointer (some a') ∧ VR β (.pointer (some a)) (.pointer (some a')) := by
  cases h with
  | ptr e => exact ⟨_, rfl, .ptr e⟩
theorem VR.map_inv {n : Nat} (h : VR β (.map (some n)) v) : ∃ I, β n = some I ∧ v = .map (some I.blk) := by
  cases h with
  | map e => exact ⟨_, e, rfl⟩
theorem VR.agg_inv {cs : Array Value} (h : VR β (.agg cs) v) : ∃ ds, v = .agg ds ∧ VRs β cs.toList ds.toList := by
  cases h with
  | agg e k => exact ⟨_, rfl, VRs.of_arr e k⟩
theorem VR.tuple_inv {cs : Array Value} (h : VR β (.tuple cs) v) : ∃ ds, v = .tuple ds ∧ VRs β cs.toList ds.toList := by
  cases h with
  | tuple e k => exact ⟨_, rfl, VRs.of_arr e k⟩
theorem VR.iface_inv {t : TypeId} {x : Value} (h : VR β (.iface t x) v) : ∃ y, v = .iface t y ∧ VR β x y := by
  cases h with
  | iface k => exact ⟨_, rfl, k⟩
theorem VR.slice_inv {n o l c : Nat} (h : VR β (.slice (some ⟨n, o, none⟩) l c) v) : ∃ I c', β n = some I ∧ v = .slice (some ⟨I.blk, o + I.shift, none⟩) l c' ∧ l ≤ c ∧ c ≤ c' ∧ (n % 2 = 0 → c = c') ∧ (n % 2 = 1 → o + I.shift + c' * I.esz ≤ I.tot) := by
  cases h with
  | slice e a b c d => exact ⟨_, _, e, rfl, a, b, c, d⟩
theorem VR.slice_addr {a : Addr} {l c : Nat} (h : VR β (.slice (some a) l c) v) : (∃ n o, a = ⟨n, o, none⟩) ∨ (a = ⟨0, 0, some 0⟩ ∧ l = 0 ∧ c = 0 ∧ ∃ a' c', v = .slice (some a') 0 c') := by
  cases h with
  | slice e a b c d => exact .inl ⟨_, _, rfl⟩
  | nowhere => exact .inr ⟨rfl, rfl, rfl, _, _, rfl⟩
theorem VR.cells {x : Value} (h : VR β x v) : VRs β x.cells.toList v.cells.toList := by
  cases h with
  | agg e k => exact VRs.of_arr e k
  | _ => exact VRs.cons (by constructor <;> assumption) VRs.nil
theorem VR.agg_mk {l l' : List Value} (h : VRs β l l') : VR β (.agg l.toArray) (.agg l'.toArray) := .agg h.to_arr.1 h.to_arr.2
theorem VR.tuple_mk {l l' : List Value} (h : VRs β l l') : VR β (.tuple l.toArray) (.tuple l'.toArray) := .tuple h.to_arr.1 h.to_arr.2
end inv

/-! ## Types -/
def TyOK (P : Program) (Y : Tr TypeInfo) : Prop := ∀ t i, Y.get t = some i → P.info? t = some i

section
variable {P : Program} {Y : Tr TypeInfo}

theorem under_ok (hY : TyOK P Y) {t : TypeId} {d : TypeDesc} (h : underX Y t = some d) : P.underlying t = some d := by
  unfold underX at h
  split at h
  · rename_i i hi
    have h1 := hY _ _ hi
    unfold Program.underlying
    rw [h1]
    split at h
    · rename_i nm u hd
      split at h
      · rename_i k hk
        have h2 := hY _ _ hk
        cases i; simp at hd; subst hd
        simp [h2]; simpa using h
      · cases h
    · rename_i hd
      cases i with
      | mk d0 _ _ _ _ _ _ _ _ _ =>
        simp at h hd
        subst h
        cases d0 <;> first | rfl | (exact absurd rfl (hd _ _))
  · cases h

theorem size_ok (hY : TyOK P Y) {t : TypeId} {n : Nat} (h : sizeP Y t = some n) : ∃ i, P.info? t = some i ∧ i.size = n := by
  unfold sizeP at h
  obtain ⟨i, hi, hn⟩ := Option.map_eq_some_iff.mp h
  exact ⟨i, hY _ _ hi, hn⟩

theorem bytes_ok (hY : TyOK P Y) {t : TypeId} {n : Nat} (h : bytesP Y t = some n) : ∃ i, P.info? t = some i ∧ i.bytes = n := by
  unfold bytesP at h
  obtain ⟨i, hi, hn⟩ := Option.map_eq_some_iff.mp h
  exact ⟨i, hY _ _ hi, hn⟩

theorem zero_ok (hY : TyOK P Y) {t : TypeId} {z : Value} (h : zeroP Y t = some z) : ∃ i, P.info? t = some i ∧ i.zero = some z ∧ scal 4 z = true := by
  unfold zeroP at h
  split at h
  · rename_i i hi
    split at h
    · rename_i z' hz
      split at h
      · rename_i hs; cases h; exact ⟨i, hY _ _ hi, hz, hs⟩
      · cases h
    · cases h
  · cases h
end

section
variable {P : Program} (w : World)
theorem run_under {t : TypeId} {d : TypeDesc} (h : P.underlying t = some d) : (underlying t).run P w = .ok d w := by simp [underlying, h]
theorem run_info {t : TypeId} {i : TypeInfo} (h : P.info? t = some i) : (typeInfo t).run P w = .ok i w := by simp [typeInfo, h]
theorem run_size {t : TypeId} {i : TypeInfo} (h : P.info? t = some i) : (sizeOf t).run P w = .ok i.size w := by simp [sizeOf, run_info w h]
theorem run_zero {t : TypeId} {i : TypeInfo} {z : Value} (h : P.info? t = some i) (hz : i.zero = some z) : (zeroValue t).run P w = .ok z w := by simp [zeroValue, run_info w h, hz]
theorem run_isAgg_true {t : TypeId} {d : TypeDesc} (h : P.underlying t = some d) (k : (∃ fs, d = .struct fs) ∨ ∃ n e, d = .array n e) : (isAgg t).run P w = .ok true w := by
  rcases k with ⟨fs, rfl⟩ | ⟨n, e, rfl⟩ <;> simp [isAgg, run_under w h]
theorem run_isAgg_false {t : TypeId} {d : TypeDesc} (h : P.underlying t = some d) (k : (∀ fs, d ≠ .struct fs) ∧ ∀ n e, d ≠ .array n e) : (isAgg t).run P w = .ok false w := by
  simp only [isAgg, Sem.run_bind, run_under w h, Result.andThen_ok]
  cases d <;> first | rfl | (exact absurd rfl (k.1 _)) | (exact absurd rfl (k.2 _ _))
end

theorem isAgg_ok {P : Program} {Y : Tr TypeInfo} (hY : TyOK P Y) {t : TypeId} {b : Bool} (h : isAggP Y t = some b) (w : World) : (isAgg t).run P w = .ok b w := by
  unfold isAggP at h
  split at h
  · rename_i fs hd; cases h; exact run_isAgg_true w (under_ok hY hd) (.inl ⟨fs, rfl⟩)
  · rename_i n e hd; cases h; exact run_isAgg_true w (under_ok hY hd) (.inr ⟨n, e, rfl⟩)
  · rename_i d h1 h2 hd; cases h; exact run_isAgg_false w (under_ok hY hd) ⟨fun fs k => h1 fs k, fun n e k => h2 n e k⟩
  · cases h

/-! ## Operations that only reckon -/
section
variable {P : Program} {o : Oper}

theorem move_ok {x : Operand} (ho : o.op = .move x ∨ o.op = .assign x) : OpOK P o (R.move x).run := by
  intro call ρa H va H' wf e
  simp only [R.move, evMove] at e; cases e
  refine calmG wf fun β w ρ _ hx => ⟨w, ρ x, ?_, Drawn.refl w, hx x ?_⟩
  · rcases ho with ho | ho <;> simp [execOp, ho]
  · rcases ho with ho | ho <;> simp [ho, Op.operands]

theorem pick_ok {c a b : Operand} (ho : o.op = .pick c a b) : OpOK P o (R.pick c a b).run := by
  intro call ρa H va H' wf e
  simp only [R.pick, evPick] at e
  split at e
  · rename_i hb
    cases e
    refine calmG wf fun β w ρ _ hx => ⟨w, ρ a, ?_, Drawn.refl w, hx a (by simp [ho, Op.operands])⟩
    have hc := hx c (by simp [ho, Op.operands])
    rw [hb] at hc
    simp [execOp, ho, hc.bool_inv, asBool]
  · rename_i hb
    cases e
    refine calmG wf fun β w ρ _ hx => ⟨w, ρ b, ?_, Drawn.refl w, hx b (by simp [ho, Op.operands])⟩
    have hc := hx c (by simp [ho, Op.operands])
    rw [hb] at hc
    simp [execOp, ho, hc.bool_inv, asBool]
  · cases e

theorem un_ok {op : UnOp} {t : TypeId} {x : Operand} (ho : o.op = .unOp op t x) : OpOK P o (R.un op x).run := by
  intro call ρa H va H' wf e
  simp only [R.un, evUn] at e
  split at e
  · rename_i b hb
    cases e
    refine calmG wf fun β w ρ _ hx => ⟨w, .bool !b, ?_, Drawn.refl w, .bool _⟩
    have hc := hx x (by simp [ho, Op.operands]); rw [hb] at hc
    simp [execOp, ho, hc.bool_inv, Op.unary]
  · rename_i k n hb
    cases e
    refine calmG wf fun β w ρ _ hx => ⟨w, .int k (k.wrap (0 - n)), ?_, Drawn.refl w, .int _ _⟩
    have hc := hx x (by simp [ho, Op.operands]); rw [hb] at hc
    simp [execOp, ho, hc.int_inv, Op.unary, Op.intArith]
  · cases e

theorem wrapK_eq (k : IntKind) (n : Int) : wrapK k n = k.wrap n := by
  unfold wrapK
  split
  · split
    · rename_i m
      cases hb : Nat.blt m 9223372036854775808 with
      | true => rw [cond_true]; exact (IntWalk.i64_in _ (by have := Nat.blt_eq.mp hb; rw [Int.ofNat_eq_natCast]; constructor <;> omega)).symm
      | false => rw [cond_false]
    · rename_i m
      cases hb : Nat.blt m 9223372036854775808 with
      | true => rw [cond_true]; exact (IntWalk.i64_in _ (by have := Nat.blt_eq.mp hb; rw [Int.negSucc_eq]; constructor <;> omega)).symm
      | false => rw [cond_false]
  · rfl

theorem bytesLt_eq : ∀ (x y : List UInt8), bytesLt x y = Op.bytesLess x y
  | _, [] => by simp [bytesLt, Op.bytesLess]
  | [], _ :: _ => by simp [bytesLt, Op.bytesLess]
  | a :: x, b :: y => by simp [bytesLt, Op.bytesLess, bytesLt_eq x y]

theorem bstr_append (a b : ByteArray) : bstr (a.data.toList ++ b.data.toList) = .string (a ++ b) := by
  unfold bstr
  congr 1

theorem run_eqGuard_int (op : BinOp) (t : TypeId) (x y : Operand) (k : IntKind) (n : Int) (b : Value) (w : World) : (eqGuard op t x y (.int k n) b).run P w = .ok () w := by
  unfold eqGuard; cases op <;> simp
theorem run_eqGuard_str (op : BinOp) (t : TypeId) (x y : Operand) (s : ByteArray) (b : Value) (w : World) : (eqGuard op t x y (.string s) b).run P w = .ok () w := by
  unfold eqGuard; cases op <;> simp
theorem run_eqGuard_bool (op : BinOp) (t : TypeId) (x y : Operand) (s : Bool) (b : Value) (w : World) : (eqGuard op t x y (.bool s) b).run P w = .ok () w := by
  unfold eqGuard; cases op <;> simp

theorem run_bool_eq {t : TypeId} (ht : P.underlying t = some .bool) (x y : Bool) (w : World) : (Op.equal t (.bool x) (.bool y)).run P w = .ok (x == y) w := by
  rw [Op.equal, Op.maxDepth, show (10000 : Nat) = 9999 + 1 from rfl, Op.equalIn]
  simp [run_under w ht]

theorem ok_eq {α : Type} {w : World} {x y : α} (h : x = y) : (Result.ok x w) = .ok y w := by rw [h]

theorem bin_int_run {op : BinOp} {t : TypeId} {k k' : IntKind} {n m : Int} {c : Value} (h : binA op (.int k n) (.int k' m) = some c) (w : World) :
    (binOp op t (.int k n) (.int k' m)).run P w = .ok c w ∧ scal 4 c = true := by
  unfold binA at h
  cases op <;> simp only [] at h <;> (try split at h) <;> (try split at h) <;> (try cases h) <;>
    simp_all [binOp, Op.shift, Op.intArith, Op.intDiv, Op.intBits, Op.intCmp, wrapK_eq, scal]
  all_goals first | rfl | (intro _; exfalso; omega)

theorem bin_str_run {op : BinOp} {t : TypeId} {x y : ByteArray} {c : Value} (h : binA op (.string x) (.string y) = some c) (w : World) :
    (binOp op t (.string x) (.string y)).run P w = .ok c w ∧ scal 4 c = true := by
  unfold binA at h
  cases op <;> simp only [] at h <;> (try split at h) <;> (try cases h) <;>
    simp_all [binOp, Op.stringOp, ByteArray.toList_eq, bytesLt_eq, scal, bstr_append]
  all_goals (split <;> simp_all <;> omega)

theorem binA_scal {op : BinOp} {a b c : Value} (h : binA op a b = some c) : (∃ k n k' m, a = .int k n ∧ b = .int k' m) ∨ (∃ s s', a = .string s ∧ b = .string s') := by
  unfold binA at h
  split at h
  · exact .inl ⟨_, _, _, _, rfl, rfl⟩
  · exact .inr ⟨_, _, rfl, rfl⟩
  · cases h

theorem bin_ok {op : BinOp} {t t' : TypeId} {x y : Operand} (ho : o.op = .binOp op t x y t') : OpOK P o (R.bin op x y).run := by
  intro call ρa H va H' wf e
  simp only [R.bin, evBin, vH] at e
  split at e
  · rename_i c hc
    cases e
    refine calmG wf fun β w ρ _ hx => ⟨w, va, ?_, Drawn.refl w, ?_⟩
    · have h1 := hx x (by simp [ho, Op.operands])
      have h2 := hx y (by simp [ho, Op.operands])
      rcases binA_scal hc with ⟨k, n, k', m, ha, hb⟩ | ⟨s, s', ha, hb⟩
      · rw [ha] at h1; rw [hb] at h2; rw [ha, hb] at hc
        simp [execOp, ho, h1.int_inv, h2.int_inv, run_eqGuard_int, (bin_int_run (P := P) (t := t) hc w).1]
      · rw [ha] at h1; rw [hb] at h2; rw [ha, hb] at hc
        simp [execOp, ho, h1.str_inv, h2.str_inv, run_eqGuard_str, (bin_str_run (P := P) (t := t) hc w).1]
    · rcases binA_scal hc with ⟨k, n, k', m, ha, hb⟩ | ⟨s, s', ha, hb⟩
      · rw [ha, hb] at hc
        exact VR.refl_of_scal 4 _ (bin_int_run (P := P) (t := t) hc w).2
      · rw [ha, hb] at hc
        exact VR.refl_of_scal 4 _ (bin_str_run (P := P) (t := t) hc w).2
  · cases e

theorem binB_ok {op : BinOp} {t t' : TypeId} {x y : Operand} (ho : o.op = .binOp op t x y t') (ht : P.underlying t = some .bool) : OpOK P o (R.binB op x y).run := by
  intro call ρa H va H' wf e
  simp only [R.binB, evBinB, vH, binB] at e
  split at e
  · rename_i c hc
    cases e
    split at hc
    · rename_i a b ha hb
      cases hc
      refine calmG wf fun β w ρ _ hx => ⟨w, .bool (a == b), ?_, Drawn.refl w, .bool _⟩
      have h1 := hx x (by simp [ho, Op.operands]); rw [ha] at h1
      have h2 := hx y (by simp [ho, Op.operands]); rw [hb] at h2
      simp [execOp, ho, h1.bool_inv, h2.bool_inv, run_eqGuard_bool, binOp, run_bool_eq ht]
    · rename_i a b ha hb
      cases hc
      refine calmG wf fun β w ρ _ hx => ⟨w, .bool (!(a == b)), ?_, Drawn.refl w, .bool _⟩
      have h1 := hx x (by simp [ho, Op.operands]); rw [ha] at h1
      have h2 := hx y (by simp [ho, Op.operands]); rw [hb] at h2
      simp [execOp, ho, h1.bool_inv, h2.bool_inv, run_eqGuard_bool, binOp, run_bool_eq ht]
    · cases hc
  · cases e

theorem convInt_ok {src dst : TypeId} {k k0 : IntKind} {x : Operand} (ho : o.op = .convert src dst x) (hs : P.underlying src = some (.int k0)) (hd : P.underlying dst = some (.int k)) : OpOK P o (R.convInt k x).run := by
  intro call ρa H va H' wf e
  simp only [R.convInt, evConvInt] at e
  split at e
  · rename_i k1 n hb
    cases e
    refine calmG wf fun β w ρ _ hx => ⟨w, .int k (k.wrap n), ?_, Drawn.refl w, .int _ _⟩
    have h1 := hx x (by simp [ho, Op.operands]); rw [hb] at h1
    simp [execOp, ho, h1.int_inv, convert, run_under w hs, run_under w hd, Conv.intToInt]
  · cases e

theorem convStr_ok {src dst : TypeId} {x : Operand} (ho : o.op = .convert src dst x) (hs : P.underlying src = some .string) (hd : P.underlying dst = some .string) : OpOK P o (R.convStr x).run := by
  intro call ρa H va H' wf e
  simp only [R.convStr, evConvStr] at e
  split at e
  · rename_i s hb
    cases e
    refine calmG wf fun β w ρ _ hx => ⟨w, .string s, ?_, Drawn.refl w, .string _⟩
    have h1 := hx x (by simp [ho, Op.operands]); rw [hb] at h1
    simp [execOp, ho, h1.str_inv, convert, run_under w hs, run_under w hd]
  · cases e

theorem VR.moved {β : Ren} {a a' : Addr} (h : VR β (.pointer (some a)) (.pointer (some a'))) (n : Nat) : VR β (.pointer (some (moved a n))) (.pointer (some (a'.add n))) := by
  cases h with
  | @ptr m o I e =>
    have h1 : Go.Proofs.YtlbmihpmcgiinaaGreatDoor.Own.moved ⟨m, o, none⟩ n = ⟨m, o + n, none⟩ := by
      unfold Go.Proofs.YtlbmihpmcgiinaaGreatDoor.Own.moved; split
      · rename_i k; subst k; rfl
      · rfl
    have h2 : (⟨I.blk, o + I.shift, none⟩ : Addr).add n = ⟨I.blk, o + n + I.shift, none⟩ := by
      unfold Addr.add; split
      · rename_i k; subst k; rfl
      · simp; omega
    rw [h1, h2]; exact .ptr e

theorem fieldAddr_ok {s : TypeId} {f : Nat} {x : Operand} {fs : Array Field} {g : Field} {i : TypeInfo} (ho : o.op = .fieldAddr s x f) (hs : P.underlying s = some (.struct fs)) (hf : fs[f]? = some g) (hi : P.info? g.type = some i) (hn : i.size ≠ 0) :
    OpOK P o (R.fieldAddr g.offset x).run := by
  intro call ρa H va H' wf e
  simp only [R.fieldAddr, evFieldAddr] at e
  split at e
  · rename_i a hb
    split at e
    · rename_i hsp
      cases e
      refine calmG wf fun β w ρ _ hx => ?_
      have h1 := hx x (by simp [ho, Op.operands]); rw [hb] at h1
      obtain ⟨a', hv, hp⟩ := h1.ptr_inv
      refine ⟨w, .pointer (some (a'.add g.offset)), ?_, Drawn.refl w, hp.moved _⟩
      simp [execOp, ho, hv, Instr.fieldAt, run_under w hs, hf, Instr.sureAddr, fieldPlace, run_size w hi, hn]
    · cases e
  · cases e

theorem below_spec {v : Value} {n i : Nat} (h : below v n = some i) : ∃ k, v = .int k (i : Int) ∧ i < n := by
  unfold below asNatA at h
  split at h
  · rename_i j hj
    split at hj
    · cases hj
      split at h
      · rename_i hlt; cases h; exact ⟨_, rfl, by simpa using hlt⟩
      · cases h
    · cases hj
  · cases h

theorem upto_spec {v : Value} {n i : Nat} (h : upto v n = some i) : ∃ k, v = .int k (i : Int) ∧ i ≤ n := by
  unfold upto asNatA at h
  split at h
  · rename_i j hj
    split at hj
    · cases hj
      split at h
      · rename_i hlt; cases h; exact ⟨_, rfl, by simpa using hlt⟩
      · cases h
    · cases hj
  · cases h

theorem idxS_ok {t e0 : TypeId} {x ix : Operand} {i : TypeInfo} (ho : o.op = .indexAddr t x ix) (ht : P.underlying t = some (.slice e0)) (hi : P.info? e0 = some i) : OpOK P o (R.idxS i.size x ix).run := by
  intro call ρa H va H' wf e
  simp only [R.idxS, evIdxS] at e
  split at e
  · rename_i a l c hb
    split at e
    · rename_i hsp
      split at e
      · rename_i j hj
        cases e
        obtain ⟨k, hk, hlt⟩ := below_spec hj
        refine calmG wf fun β w ρ _ hx => ?_
        have h1 := hx x (by simp [ho, Op.operands]); rw [hb] at h1
        have h2 := hx ix (by simp [ho, Op.operands]); rw [hk] at h2
        rcases h1.slice_addr with ⟨n, p, rfl⟩ | ⟨rfl, _⟩
        · obtain ⟨I, c', hI, hv, hlc, _⟩ := h1.slice_inv
          refine ⟨w, .pointer (some ((⟨I.blk, p + I.shift, none⟩ : Addr).add (j * i.size))), ?_, Drawn.refl w, (VR.ptr hI).moved _⟩
          simp [execOp, ho, hv, h2.int_inv, Instr.indexAt, asIntOf, run_under w ht, run_size w hi]
          omega
        · simp at hsp
      · cases e
    · cases e
  · cases e

theorem idxA_ok {t e0 : TypeId} {n : Nat} {x ix : Operand} {i : TypeInfo} (ho : o.op = .indexAddr t x ix) (ht : P.underlying t = some (.array n e0)) (hi : P.info? e0 = some i) : OpOK P o (R.idxA n i.size x ix).run := by
  intro call ρa H va H' wf e
  simp only [R.idxA, evIdxA] at e
  split at e
  · rename_i a hb
    split at e
    · rename_i hsp
      split at e
      · rename_i j hj
        cases e
        obtain ⟨k, hk, hlt⟩ := below_spec hj
        refine calmG wf fun β w ρ _ hx => ?_
        have h1 := hx x (by simp [ho, Op.operands]); rw [hb] at h1
        have h2 := hx ix (by simp [ho, Op.operands]); rw [hk] at h2
        obtain ⟨a', hv, hp⟩ := h1.ptr_inv
        refine ⟨w, .pointer (some (a'.add (j * i.size))), ?_, Drawn.refl w, hp.moved _⟩
        simp [execOp, ho, hv, h2.int_inv, Instr.indexAt, asIntOf, Instr.sureAddr, run_under w ht, run_size w hi]
        omega
      · cases e
    · cases e
  · cases e

theorem takeX_VRs {β : Ren} {n k : Nat} {cs ds r : List Value} (h : takeX (dropX cs n) k = some r) (hv : VRs β cs ds) : VRs β r ((ds.drop n).take k) ∧ r.length = k := by
  obtain ⟨h1, h2⟩ := takeX_get _ _ _ h
  refine ⟨⟨?_, fun i hi => ?_⟩, h1⟩
  · rw [h1]
    by_cases hk : k = 0
    · subst hk; simp
    · have := (h2 (k - 1) (by omega)).1
      rw [dropX_get, List.getElem?_eq_getElem (by omega)] at this
      have hl : n + (k - 1) < cs.length := by
        by_cases c : n + (k - 1) < cs.length
        · exact c
        · rw [List.getElem?_eq_none (by omega)] at this; cases this
      have := hv.1
      simp; omega
  · rw [h1] at hi
    have := (h2 i hi).1
    rw [dropX_get, List.getElem?_eq_getElem (by omega)] at this
    obtain ⟨y, hy, hr⟩ := hv.get this.symm
    rw [List.getD_eq_getElem?_getD, List.getD_eq_getElem?_getD, List.getElem?_eq_getElem (by omega), List.getElem?_take_of_lt hi, List.getElem?_drop, hy]
    exact hr

theorem partA_ok {P : Program} {β : Ren} {agg : Bool} {cs : List Value} {ds : Array Value} {off : Nat} {i : TypeInfo} {t : TypeId} {v : Value} (h : partA agg cs off i.size = some v) (hv : VRs β cs ds.toList)
    (w : World) (hi : P.info? t = some i) (ha : (isAgg t).run P w = .ok agg w) : ∃ v', (part t ds off).run P w = .ok v' w ∧ VR β v v' := by
  cases agg with
  | true =>
    simp only [partA] at h
    split at h
    · rename_i c hc
      cases h
      obtain ⟨h1, h2⟩ := takeX_VRs hc hv
      refine ⟨.agg (ds.extract off (off + i.size)), by simp [part, ha, run_size w hi], ?_⟩
      have : ds.extract off (off + i.size) = ((ds.toList.drop off).take i.size).toArray := by
        apply Array.toList_inj.mp
        simp [Array.toList_extract, List.extract_eq_take_drop]
      rw [this]; exact VR.agg_mk h1
    · cases h
  | false =>
    simp only [partA] at h
    obtain ⟨y, hy, hr⟩ := hv.get h
    rw [Array.getElem?_toList] at hy
    exact ⟨y, by simp [part, ha, hy], hr⟩

theorem idxV_ok {t e0 : TypeId} {n : Nat} {agg : Bool} {x ix : Operand} {i : TypeInfo} (ho : o.op = .index t x ix) (ht : P.underlying t = some (.array n e0)) (hi : P.info? e0 = some i) (ha : ∀ w, (isAgg e0).run P w = .ok agg w) :
    OpOK P o (R.idxV n i.size agg x ix).run := by
  intro call ρa H va H' wf e
  simp only [R.idxV, evIdxV, vH] at e
  split at e
  · rename_i cs hb
    split at e
    · rename_i j hj
      split at e
      · rename_i v hv
        cases e
        obtain ⟨k, hk, hlt⟩ := below_spec hj
        refine calmG wf fun β w ρ _ hx => ?_
        have h1 := hx x (by simp [ho, Op.operands]); rw [hb] at h1
        have h2 := hx ix (by simp [ho, Op.operands]); rw [hk] at h2
        obtain ⟨ds, hd, hvs⟩ := h1.agg_inv
        obtain ⟨v', hr, hvv⟩ := partA_ok hv hvs w hi (ha w)
        refine ⟨w, v', ?_, Drawn.refl w, hvv⟩
        simp [execOp, ho, hd, h2.int_inv, Instr.index, asIntOf, run_under w ht, run_size w hi, hlt, hr]
      · cases e
    · cases e
  · cases e

theorem fieldV_ok {t : TypeId} {f : Nat} {agg : Bool} {x : Operand} {fs : Array Field} {g : Field} {i : TypeInfo} (ho : o.op = .field t x f) (ht : P.underlying t = some (.struct fs)) (hf : fs[f]? = some g) (hi : P.info? g.type = some i) (ha : ∀ w, (isAgg g.type).run P w = .ok agg w) :
    OpOK P o (R.fieldV g.offset i.size agg x).run := by
  intro call ρa H va H' wf e
  simp only [R.fieldV, evFieldV, vH] at e
  split at e
  · rename_i cs hb
    split at e
    · rename_i v hv
      cases e
      refine calmG wf fun β w ρ _ hx => ?_
      have h1 := hx x (by simp [ho, Op.operands]); rw [hb] at h1
      obtain ⟨ds, hd, hvs⟩ := h1.agg_inv
      obtain ⟨v', hr, hvv⟩ := partA_ok hv hvs w hi (ha w)
      refine ⟨w, v', ?_, Drawn.refl w, hvv⟩
      simp [execOp, ho, hd, Instr.field, asAgg, run_under w ht, hf, hr]
    · cases e
  · cases e

theorem asNatA_spec {v : Value} {n : Nat} (h : asNatA v = some n) : ∃ k, v = .int k (n : Int) := by
  unfold asNatA at h
  split at h
  · cases h; exact ⟨_, rfl⟩
  · cases h

theorem idxStr_ok {t : TypeId} {x ix : Operand} (ho : o.op = .index t x ix) (ht : P.underlying t = some .string) : OpOK P o (R.idxStr x ix).run := by
  intro call ρa H va H' wf e
  simp only [R.idxStr, evIdxStr] at e
  split at e
  · rename_i s hb
    split at e
    · rename_i j hj
      split at e
      · rename_i b hbj
        cases e
        obtain ⟨k, hk⟩ := asNatA_spec hj
        refine calmG wf fun β w ρ _ hx => ?_
        have h1 := hx x (by simp [ho, Op.operands]); rw [hb] at h1
        have h2 := hx ix (by simp [ho, Op.operands]); rw [hk] at h2
        refine ⟨w, .int .u8 b.toNat, ?_, Drawn.refl w, .int _ _⟩
        have hb' : s[j]? = some b := by
          rw [← hbj]
          rw [Array.getElem?_toList, getElem?_def, getElem?_def]; rfl
        simp [execOp, ho, h1.str_inv, h2.int_inv, Instr.index, asIntOf, run_under w ht, hb']
      · cases e
    · cases e
  · cases e

theorem extract_ok {x : Operand} {i : Nat} (ho : o.op = .extract x i) : OpOK P o (R.extract x i).run := by
  intro call ρa H va H' wf e
  simp only [R.extract, evExtract, vH] at e
  split at e
  · rename_i vs hb
    split at e
    · rename_i v hv
      cases e
      refine calmG wf fun β w ρ _ hx => ?_
      have h1 := hx x (by simp [ho, Op.operands]); rw [hb] at h1
      obtain ⟨ds, hd, hvs⟩ := h1.tuple_inv
      obtain ⟨y, hy, hr⟩ := hvs.get hv
      rw [Array.getElem?_toList] at hy
      exact ⟨w, y, by simp [execOp, ho, hd, Instr.extract, hy], Drawn.refl w, hr⟩
    · cases e
  · cases e

theorem mkIface_ok {t : TypeId} {x : Operand} {d : TypeDesc} (ho : o.op = .makeInterface t x) (ht : P.underlying t = some d) (hd : ∀ ms, d ≠ .interface ms) : OpOK P o (R.mkIface t x).run := by
  intro call ρa H va H' wf e
  simp only [R.mkIface, evMkIface] at e
  cases e
  refine calmG wf fun β w ρ _ hx => ⟨w, .iface t (ρ x), ?_, Drawn.refl w, .iface (hx x (by simp [ho, Op.operands]))⟩
  simp only [execOp, ho, Instr.makeInterface, Sem.run_bind, run_under w ht, Result.andThen_ok]
  cases d <;> first | rfl | exact absurd rfl (hd _)

theorem VRs.map {β : Ren} {ρa ρ : Operand → Value} : ∀ (l : List Operand), (∀ x ∈ l, VR β (ρa x) (ρ x)) → VRs β (l.map ρa) (l.map ρ) := by
  intro l
  induction l with
  | nil => intro _; exact .nil
  | cons x l ih => intro h; exact .cons (h x (by simp)) (ih (fun y hy => h y (by simp [hy])))

theorem mkFunc_ok {f : FuncId} {captured : Array Operand} (ho : o.op = .makeFunc (.func f) #[] captured) : OpOK P o (R.mkFunc (.func f) [] captured.toList).run := by
  intro call ρa H va H' wf e
  simp only [R.mkFunc, evMkFunc] at e
  cases e
  refine calmG wf fun β w ρ _ hx => ⟨w, .func (.func f) #[] (captured.map ρ), by simp [execOp, ho, Instr.makeFunc], Drawn.refl w, ?_⟩
  have hm := VRs.map (β := β) (ρa := ρa) (ρ := ρ) captured.toList (fun x h => hx x (by rw [ho]; show x ∈ (#[] ++ captured).toList; rw [Array.empty_append]; exact h))
  have : captured.map ρ = (captured.toList.map ρ).toArray := Array.toList_inj.mp (by rw [Array.toList_map])
  rw [this]
  exact .func hm.to_arr.1 hm.to_arr.2

theorem lenA_ok {v v' : Value} {n : Nat} (h : lenA v = some n) {β : Ren} (hv : VR β v v') (w : World) : (Builtin.lenOf v').run P w = .ok n w := by
  unfold lenA at h
  split at h
  · cases h
    cases hv <;> simp [Builtin.lenOf]
  · cases h
    rw [hv.str_inv]; simp [Builtin.lenOf]
  · cases h

theorem getObj_run {w : World} {r : Nat} {ob : Obj} (h : w.heap[r]? = some ob) (hc : ∀ c e f, ob ≠ .cells c e f) : (getObj r).run P w = .ok ob w := by
  simp only [getObj, Sem.run, h]

theorem setObj_run {w : World} {r : Nat} {ob o2 : Obj} (h : w.heap[r]? = some ob) (hc : ∀ c e f, ob ≠ .cells c e f) : (setObj r o2).run P w = .ok () { w with heap := w.heap.setIfInBounds r o2 } := by
  simp only [setObj, Sem.run, h]

theorem setObj_turned {w : World} {r : Nat} {ob o2 : Obj} (h : w.heap[r]? = some ob) : Turned w r o2 { w with heap := w.heap.setIfInBounds r o2 } := by
  have hlt : r < w.heap.size := by
    by_cases k : r < w.heap.size
    · exact k
    · rw [Array.getElem?_eq_none (by omega)] at h; cases h
  refine ⟨by simp, by simp [hlt], fun k hk => ?_, rfl, rfl, rfl⟩
  simp only [Array.getElem?_setIfInBounds]
  rw [if_neg (fun h => hk h.symm)]

theorem exec_builtin {c : Call} {b : Builtin} (ho : o.op = .call c) (hc : c.callee = .builtin b) (ρ : Operand → Value) :
    execOp ρ o = builtin b c.argTypes o.type (c.args.map fun | .const _ => true | _ => false) (c.args.map ρ) := by
  simp only [execOp, ho, resolve, hc]
  rfl

theorem call_operands {c : Call} {b : Builtin} (ho : o.op = .call c) (hc : c.callee = .builtin b) {x : Operand} (h : x ∈ c.args.toList) : x ∈ o.op.operands.toList := by
  rw [ho]
  show x ∈ (Call.operands c).toList
  unfold Call.operands
  rw [hc]
  simpa using h

theorem lenS_ok {c : Call} {t e0 : TypeId} {x : Operand} (ho : o.op = .call c) (hc : c.callee = .builtin .len) (ha : c.args = #[x]) (ht0 : c.argTypes[0]? = some t) (ht : P.underlying t = some (.slice e0)) : OpOK P o (R.lenS x).run := by
  intro call ρa H va H' wf e
  simp only [R.lenS, evLenS] at e
  split at e
  · rename_i a n cc hb
    cases e
    refine calmG wf fun β w ρ hr hx => ?_
    have h1 := hx x (call_operands ho hc (by simp [ha])); rw [hb] at h1
    refine ⟨w, .int .i64 n, ?_, Drawn.refl w, .int _ _⟩
    rw [exec_builtin ho hc, ha]
    have : ∃ a' c', ρ x = .slice a' n c' := by
      generalize ρ x = y at h1
      cases h1 with
      | snil => exact ⟨_, _, rfl⟩
      | slice => exact ⟨_, _, rfl⟩
      | nowhere => exact ⟨_, _, rfl⟩
    obtain ⟨a', c', hv⟩ := this
    simp [builtin, Builtin.len_, ht0, hv, run_under w ht, goInt]
  · cases e

theorem lenStr_ok {c : Call} {t : TypeId} {x : Operand} (ho : o.op = .call c) (hc : c.callee = .builtin .len) (ha : c.args = #[x]) (ht0 : c.argTypes[0]? = some t) (ht : P.underlying t = some .string) : OpOK P o (R.lenStr x).run := by
  intro call ρa H va H' wf e
  simp only [R.lenStr, evLenStr] at e
  split at e
  · rename_i s hb
    cases e
    refine calmG wf fun β w ρ hr hx => ?_
    have h1 := hx x (call_operands ho hc (by simp [ha])); rw [hb] at h1
    refine ⟨w, .int .i64 s.data.toList.length, ?_, Drawn.refl w, .int _ _⟩
    rw [exec_builtin ho hc, ha]
    simp [builtin, Builtin.len_, ht0, h1.str_inv, run_under w ht, goInt]
  · cases e

theorem lenM_ok {c : Call} {t k0 e0 : TypeId} {x : Operand} (ho : o.op = .call c) (hc : c.callee = .builtin .len) (ha : c.args = #[x]) (ht0 : c.argTypes[0]? = some t) (ht : P.underlying t = some (.map k0 e0)) : OpOK P o (R.lenM x).run := by
  intro call ρa H va H' wf e
  simp only [R.lenM, evLenM] at e
  split at e
  · rename_i hb
    cases e
    refine calmG wf fun β w ρ hr hx => ?_
    have h1 := hx x (call_operands ho hc (by simp [ha])); rw [hb] at h1
    refine ⟨w, .int .i64 0, ?_, Drawn.refl w, .int _ _⟩
    rw [exec_builtin ho hc, ha]
    simp [builtin, Builtin.len_, ht0, h1.mnil_inv, run_under w ht, goInt]
  · rename_i r hb
    split at e
    · rename_i es clock hg
      cases e
      refine calmG wf fun β w ρ hr hx => ?_
      have h1 := hx x (call_operands ho hc (by simp [ha])); rw [hb] at h1
      refine ⟨w, .int .i64 es.length, ?_, Drawn.refl w, .int _ _⟩
      rw [exec_builtin ho hc, ha]
      obtain ⟨I, hI, hv⟩ := h1.map_inv
      obtain ⟨J, o', hb', hw, hor⟩ := hr.obj r _ hg
      rw [hI] at hb'; cases hb'
      cases hor with
      | map h2 h3 =>
        simp [builtin, Builtin.len_, ht0, hv, run_under w ht, goInt, getObj_run hw (by intro c e f h; cases h), h2]
    · cases e
  · cases e

theorem constLen_ok {c : Call} {t : TypeId} {x : Operand} {n : Nat} (ho : o.op = .call c) (hc : c.callee = .builtin .len) (ha : c.args = #[x]) (ht0 : c.argTypes[0]? = some t)
    (ht : (∃ e0, P.underlying t = some (.array n e0)) ∨ (∃ u e0, P.underlying t = some (.pointer u) ∧ P.underlying u = some (.array n e0))) : OpOK P o (R.constLen n).run := by
  intro call ρa H va H' wf e
  simp only [R.constLen, evConstLen] at e
  cases e
  refine calmG wf fun β w ρ hr hx => ⟨w, .int .i64 n, ?_, Drawn.refl w, .int _ _⟩
  rw [exec_builtin ho hc, ha]
  rcases ht with ⟨e0, h⟩ | ⟨u, e0, h, h'⟩
  · simp [builtin, Builtin.len_, ht0, run_under w h, goInt]
  · simp [builtin, Builtin.len_, ht0, run_under w h, run_under w h', goInt]

theorem cap_ok {c : Call} {t e0 : TypeId} {x : Operand} (ho : o.op = .call c) (hc : c.callee = .builtin .cap) (ha : c.args = #[x]) (ht0 : c.argTypes[0]? = some t) (ht : P.underlying t = some (.slice e0)) : OpOK P o (R.cap x).run := by
  intro call ρa H va H' wf e
  simp only [R.cap, evCap] at e
  split at e
  · rename_i hb
    cases e
    refine calmG wf fun β w ρ hr hx => ?_
    have h1 := hx x (call_operands ho hc (by simp [ha])); rw [hb] at h1
    refine ⟨w, .int .i64 0, ?_, Drawn.refl w, .int _ _⟩
    rw [exec_builtin ho hc, ha]
    simp [builtin, Builtin.cap_, ht0, h1.snil_inv.1, run_under w ht, goInt]
  · rename_i a l cc hb
    split at e
    · rename_i hs he
      cases e
      refine calmG wf fun β w ρ hr hx => ?_
      have h1 := hx x (call_operands ho hc (by simp [ha])); rw [hb] at h1
      refine ⟨w, .int .i64 cc, ?_, Drawn.refl w, .int _ _⟩
      rw [exec_builtin ho hc, ha]
      rcases h1.slice_addr with ⟨n, p, rfl⟩ | ⟨rfl, _⟩
      · obtain ⟨I, c', hI, hv, _, _, h4, _⟩ := h1.slice_inv
        have : cc = c' := h4 (by simpa using he)
        simp [builtin, Builtin.cap_, ht0, hv, run_under w ht, goInt, this]
      · simp at hs
    · cases e
  · cases e

end

/-! ## Operations on the heap -/
section
variable {P : Program} {o : Oper}

theorem pushed_alloc (w : World) (ob : Obj) : Pushed w ob { w with heap := w.heap.push ob } := ⟨rfl, rfl, rfl, rfl⟩

/-- A new exact block. -/
theorem OR.fresh {β : Ren} {n : Nat} {I : BI} {c : List Value} {c' : Array Value} {e : TypeId} (hv : VRs β c c'.toList) (hn : n % 2 = 0) (hs : I.shift = 0) : OR β n I (.cells c e false 0) (.cells c' e (0, 0)) := by
  refine .cells (fun i v h => ?_) (fun h => by omega) (fun _ => Nat.le_refl _) (fun _ => ⟨hs, by have := hv.1; simpa using this.symm⟩)
  obtain ⟨w, h1, h2⟩ := hv.get h
  exact ⟨w, by rw [hs]; simpa using h1, h2⟩

def freshBI (w : World) : BI := ⟨w.heap.size, 0, 0, 0, none⟩

/-- Making a block of cells and giving its address. -/
theorem new_cells {H H' : AH} (wf : WF H) {c : List Value} {e : TypeId} {n : Nat} (h : H.new false (.cells c e false 0) = (n, H')) :
    HX H H' ∧ ∀ (β : Ren) (w : World) (c' : Array Value), Rep β H.get w → Free β H.ctr H'.ctr → VRs β c c'.toList →
      (newRow e c').run P w = .ok ⟨w.heap.size, 0, none⟩ { w with heap := w.heap.push (.cells c' e) } ∧
      Rep (β.ext n (freshBI w)) H'.get { w with heap := w.heap.push (.cells c' e) } ∧ Ev β H.get H.ro H.ctr w (β.ext n (freshBI w)) H'.ctr { w with heap := w.heap.push (.cells c' e) } ∧
      (β.ext n (freshBI w)) n = some (freshBI w) ∧ n % 2 = 0 := by
  obtain ⟨x1, x2, x3, x4, x5, x6, x7, x8⟩ := new_rep wf false _ h
  refine ⟨x1, fun β w c' hr hf hv => ?_⟩
  have hle : β.le (β.ext n (freshBI w)) := Ren.ext_le (hf n x4 x5)
  have hn : n % 2 = 0 := by simpa using x6
  obtain ⟨r1, r2⟩ := x8 β w _ (.cells c' e) (freshBI w) hr hf (pushed_alloc w _) rfl (OR.fresh (hv.mono hle) hn rfl)
  exact ⟨by simp [newRow], r1, r2, Ren.ext_same _ _ _, hn⟩

theorem ptr_fresh {β : Ren} {n : Nat} {w : World} (h : β n = some (freshBI w)) : VR β (.pointer (some ⟨n, 0, none⟩)) (.pointer (some ⟨w.heap.size, 0, none⟩)) := by
  have := VR.ptr (o := 0) h
  simpa [freshBI] using this

theorem slice_fresh {β : Ren} {n l c : Nat} {w : World} (h : β n = some (freshBI w)) (hn : n % 2 = 0) (hlc : l ≤ c) : VR β (.slice (some ⟨n, 0, none⟩) l c) (.slice (some ⟨w.heap.size, 0, none⟩) l c) := by
  have := VR.slice (o := 0) h hlc (Nat.le_refl c) (fun _ => rfl) (fun k => by omega)
  simpa [freshBI] using this

theorem alloc_ok {e : TypeId} {i : TypeInfo} {z : Value} (ho : o.op = .alloc e) (hi : P.info? e = some i) (hz : i.zero = some z) (hs : scal 4 z = true) : OpOK P o (R.alloc e z.cells.toList).run := by
  intro call ρa H va H' wf h
  simp only [R.alloc, evAlloc] at h
  cases hnew : H.new false (.cells z.cells.toList e false 0) with
  | mk n H1 =>
    rw [hnew] at h; cases h
    obtain ⟨hx, hr⟩ := new_cells (P := P) wf hnew
    refine ⟨hx, fun β w ρ hrep hf _ => ?_⟩
    obtain ⟨r1, r2, r3, r4, _⟩ := hr β w z.cells hrep hf (VR.refl_of_scal 4 z hs).cells
    refine ⟨_, _, _, _, ?_, .inl rfl, ptr_fresh r4, r2, r3⟩
    simp [execOp, ho, Instr.alloc, run_zero w hi hz, newVar, r1]

theorem box_ok {e : TypeId} {x : Operand} (ho : o.op = .box e x) : OpOK P o (R.box e x).run := by
  intro call ρa H va H' wf h
  simp only [R.box, evBox] at h
  cases hnew : H.new false (.cells (ρa x).cells.toList e false 0) with
  | mk n H1 =>
    rw [hnew] at h; cases h
    obtain ⟨hx, hr⟩ := new_cells (P := P) wf hnew
    refine ⟨hx, fun β w ρ hrep hf ha => ?_⟩
    obtain ⟨r1, r2, r3, r4, _⟩ := hr β w (ρ x).cells hrep hf (ha x (by simp [ho, Op.operands])).cells
    refine ⟨_, _, _, _, ?_, .inl rfl, ptr_fresh r4, r2, r3⟩
    simp [execOp, ho, Instr.box, newVar, r1]

theorem load1_ok {t : TypeId} {x : Operand} (ho : o.op = .load t x) (ha : ∀ w, (isAgg t).run P w = .ok false w) : OpOK P o (R.load1 x).run := by
  intro call ρa H va H' wf e
  simp only [R.load1, evLoad1] at e
  split at e
  · rename_i a haa
    split at e
    · rename_i c hc
      cases e
      refine calmG wf fun β w ρ hr hx => ?_
      have h1 := hx x (by simp [ho, Op.operands])
      have hb : ρa x = .pointer (some a) := by
        unfold asAddrA at haa; split at haa
        · rename_i hh; cases haa; exact hh
        · cases haa
      rw [hb] at h1
      obtain ⟨a', hv, hp⟩ := h1.ptr_inv
      obtain ⟨hs, l', hl, hlen, hcell⟩ := readCells_rep hc hr hp
      obtain ⟨y, m, rfl, hy, hm⟩ := hl.head
      have h0 := hcell 0 y (by simp)
      refine ⟨w, y, ?_, Drawn.refl w, hy⟩
      have : a'.add 0 = a' := by simp [Addr.add]
      rw [this] at h0
      simp [execOp, ho, hv, Instr.loadAt, Instr.sureAddr, loadVar, ha w, h0]
    · cases e
  · cases e

theorem loadN_ok {t : TypeId} {x : Operand} {i : TypeInfo} (ho : o.op = .load t x) (ha : ∀ w, (isAgg t).run P w = .ok true w) (hi : P.info? t = some i) : OpOK P o (R.loadN i.size x).run := by
  intro call ρa H va H' wf e
  simp only [R.loadN, evLoadN] at e
  split at e
  · rename_i a haa
    split at e
    · rename_i c hc
      cases e
      refine calmG wf fun β w ρ hr hx => ?_
      have h1 := hx x (by simp [ho, Op.operands])
      have hb : ρa x = .pointer (some a) := by
        unfold asAddrA at haa; split at haa
        · rename_i hh; cases haa; exact hh
        · cases haa
      rw [hb] at h1
      obtain ⟨a', hv, hp⟩ := h1.ptr_inv
      obtain ⟨hs, l', hl, hlen, hcell⟩ := readCells_rep hc hr hp
      refine ⟨w, .agg l'.toArray, ?_, Drawn.refl w, VR.agg_mk hl⟩
      have := run_loadCells P w a' l' i.size (by rw [← hl.1, hlen]) hcell
      simp [execOp, ho, hv, Instr.loadAt, Instr.sureAddr, loadVar, ha w, run_size w hi, this]
    · cases e
  · cases e

theorem store_ok {t : TypeId} {a x : Operand} {i : TypeInfo} (ho : o.op = .store t a x) (hi : P.info? t = some i) : OpOK P o (R.store i.size a x).run := by
  intro call ρa H va H' wf e
  simp only [R.store, evStore] at e
  split at e
  · rename_i ad haa
    split at e
    · rename_i hlen
      split at e
      · rename_i H1 hw
        cases e
        obtain ⟨x1, x2, x3⟩ := writeCells_rep P wf hw
        refine ⟨x1, fun β w ρ hr _ hx => ?_⟩
        have h1 := hx a (by simp [ho, Op.operands])
        have h2 := hx x (by simp [ho, Op.operands])
        have hb : ρa a = .pointer (some ad) := by
          unfold asAddrA at haa; split at haa
          · rename_i hh; cases haa; exact hh
          · cases haa
        rw [hb] at h1
        obtain ⟨a', hv, hp⟩ := h1.ptr_inv
        obtain ⟨w', r1, r2, r3⟩ := x3 β w a' (ρ x).cells.toList hr hp h2.cells
        refine ⟨β, w', .skip, undef, ?_, .inr ⟨rfl, rfl⟩, VR.uv, r2, r3⟩
        have hsz : (ρ x).cells.size = i.size := by
          have := h2.cells.1
          have hl' : (ρa x).cells.toList.length = i.size := by simpa using hlen
          rw [this] at hl'; simpa using hl'
        simp [execOp, ho, hv, Instr.storeAt, Instr.sureAddr, storeVar, run_size w hi, hsz, r1]
      · cases e
    · cases e
  · cases e

end

end Go.Proofs.YtlbmihpmcgiinaaGreatDoor.Own
end

/- The engine, part 5: more operations. -/
section
namespace Go.Proofs.YtlbmihpmcgiinaaGreatDoor.Own
open Go

section
variable {P : Program} {o : Oper}

/-! ## Building -/
theorem fold_set_get (vs : List Value) : ∀ (j : Nat) (off : Nat) (cs : Array Value), off + j + vs.length ≤ cs.size →
    ((vs.zipIdx j).foldl (fun (cs : Array Value) (x : Value × Nat) => cs.setIfInBounds (off + x.2) x.1) cs).size = cs.size ∧
    ∀ i, ((vs.zipIdx j).foldl (fun (cs : Array Value) (x : Value × Nat) => cs.setIfInBounds (off + x.2) x.1) cs)[i]? = if off + j ≤ i ∧ i < off + j + vs.length then vs[i - (off + j)]? else cs[i]? := by
  induction vs with
  | nil => intro j off cs _; simp; intro i h1 h2; omega
  | cons v vs ih =>
    intro j off cs h
    simp only [List.length_cons] at h
    simp only [List.zipIdx_cons, List.foldl_cons]
    obtain ⟨h1, h2⟩ := ih (j + 1) off (cs.setIfInBounds (off + j) v) (by simp; omega)
    refine ⟨by simpa using h1, fun i => ?_⟩
    rw [h2]
    by_cases k : off + (j + 1) ≤ i ∧ i < off + (j + 1) + vs.length
    · rw [if_pos k, if_pos ⟨by omega, by simp only [List.length_cons]; omega⟩, show i - (off + j) = (i - (off + (j + 1))) + 1 from by omega, List.getElem?_cons_succ]
    · rw [if_neg k, Array.getElem?_setIfInBounds]
      by_cases k' : off + j = i
      · subst k'
        rw [if_pos rfl, if_pos (by omega), if_pos ⟨by omega, by simp only [List.length_cons]; omega⟩]; simp
      · rw [if_neg k', if_neg (by simp only [List.length_cons]; omega)]

theorem VRs.of_get {β : Ren} {l l' : List Value} (h : l.length = l'.length) (k : ∀ (i : Nat) (v : Value), l[i]? = some v → ∃ w, l'[i]? = some w ∧ VR β v w) : VRs β l l' := by
  refine ⟨h, fun i hi => ?_⟩
  obtain ⟨w, h1, h2⟩ := k i _ (List.getElem?_eq_getElem hi)
  rw [List.getD_eq_getElem?_getD, List.getD_eq_getElem?_getD, List.getElem?_eq_getElem hi, h1]; exact h2

/-- The parts of a literal, laid into the zero value. -/
theorem fillA_ok {β : Ren} {ρa ρ : Operand → Value} {place : Nat → Option (Nat × Nat)} : ∀ (parts : List (Nat × Operand)) (pa : List (Nat × Nat × Operand)), partsP place parts = some pa →
    (∀ p ∈ parts, VR β (ρa p.2) (ρ p.2)) → ∀ (c r : List Value) (c' : Array Value), fillA ρa pa c = some r → VRs β c c'.toList →
      ∃ r', Instr.fill place c' (parts.map fun p => (p.1, ρ p.2)) = some r' ∧ VRs β r r'.toList := by
  intro parts
  induction parts with
  | nil =>
    intro pa h _ c r c' hf hv
    simp [partsP] at h; subst h
    simp [fillA] at hf; subst hf
    exact ⟨c', rfl, hv⟩
  | cons p parts ih =>
    intro pa h hx c r c' hf hv
    obtain ⟨i, x⟩ := p
    simp only [partsP] at h
    split at h
    · rename_i off s l hp hl
      split at h
      · cases h
      rename_i hsne
      cases h
      simp only [fillA] at hf
      split at hf
      · rename_i c1 hlen hput
        have hxv : VRs β (ρa x).cells.toList (ρ x).cells.toList := (hx (i, x) (by simp)).cells
        have hlen' : (ρa x).cells.toList.length = s := by simpa using hlen
        obtain ⟨p1, p2, p3⟩ := putX_get _ _ _ _ hput
        have hsz : (ρ x).cells.size = s := by have := hxv.1; rw [hlen'] at this; simpa using this.symm
        have hcl : c.length = c'.size := by simpa using hv.1
        · have hs0 : s ≠ 0 := hsne
          have hle : off + s ≤ c'.size := by
            have := p2 (by intro k; rw [k] at hlen'; simp at hlen'; omega)
            omega
          have hcond : ¬ ((ρ x).cells.size ≠ s || decide (off + (ρ x).cells.size > c'.size)) = true := by
            simp [hsz]; omega
          obtain ⟨f1, f2⟩ := fold_set_get (ρ x).cells.toList 0 off c' (by simp; omega)
          have harr : (ρ x).cells.zipIdx.foldl (fun (cs : Array Value) (y : Value × Nat) => cs.setIfInBounds (off + y.2) y.1) c' = ((ρ x).cells.toList.zipIdx 0).foldl (fun (cs : Array Value) (y : Value × Nat) => cs.setIfInBounds (off + y.2) y.1) c' := by
            rw [← Array.foldl_toList]; simp
          obtain ⟨r', q1, q2⟩ := ih l hl (fun q hq => hx q (by simp [hq])) c1 r (((ρ x).cells.toList.zipIdx 0).foldl (fun (cs : Array Value) (y : Value × Nat) => cs.setIfInBounds (off + y.2) y.1) c') hf
            (VRs.of_get (by rw [p1, hcl]; simpa using f1.symm) (fun j v hj => by
              rw [p3] at hj
              rw [Array.getElem?_toList, f2]
              have e1 := hxv.1
              by_cases k : off ≤ j ∧ j < off + (ρa x).cells.toList.length
              · rw [if_pos k] at hj
                rw [if_pos (by omega)]
                obtain ⟨y, hy, hr⟩ := hxv.get hj
                exact ⟨y, by simpa using hy, hr⟩
              · rw [if_neg k] at hj
                rw [if_neg (by omega)]
                obtain ⟨y, hy, hr⟩ := hv.get hj
                exact ⟨y, by simpa using hy, hr⟩))
          refine ⟨r', ?_, q2⟩
          simp only [List.map_cons, Instr.fill, hp]
          rw [if_neg hcond, harr]
          exact q1
      · cases hf
    · cases h

theorem run_placesL {Y : Tr TypeInfo} (hY : TyOK P Y) (w : World) : ∀ (fs : List Field) (l : List (Nat × Nat)), placesL Y fs = some l → (fs.mapM fun f => (do pure (f.offset, ← sizeOf f.type) : Sem (Nat × Nat))).run P w = .ok l w := by
  intro fs
  induction fs with
  | nil => intro l h; simp [placesL] at h; subst h; simp
  | cons f fs ih =>
    intro l h
    simp only [placesL] at h
    split at h
    · rename_i i l' hi hl
      cases h
      simp [List.mapM_cons, run_size w (hY _ _ hi)]
      have := ih l' hl
      simp at this
      simp [this]
    · cases h

theorem parts_map (parts : Array (Nat × Operand)) (ρ : Operand → Value) : (parts.map fun p => (p.1, ρ p.2)).toList = parts.toList.map fun p => (p.1, ρ p.2) := by simp

theorem build_ok {Y : Tr TypeInfo} (hY : TyOK P Y) {t : TypeId} {parts : Array (Nat × Operand)} {z : Value} {g : Nat → Option (Nat × Nat)} {l : List (Nat × Nat × Operand)}
    (ho : o.op = .build t parts) (hz : zeroP Y t = some z) (hg : placesP Y t = some g) (hl : partsP g parts.toList = some l) : OpOK P o (R.build z.cells.toList l).run := by
  intro call ρa H va H' wf e
  simp only [R.build, evBuild] at e
  split at e
  · rename_i c hc
    cases e
    refine calmG wf fun β w ρ _ hx => ?_
    obtain ⟨i, hi, hiz, hs⟩ := zero_ok hY hz
    have hxp : ∀ p ∈ parts.toList, VR β (ρa p.2) (ρ p.2) := by
      intro p hp
      apply hx
      rw [ho]
      simp only [Op.operands]
      simp
      exact ⟨p.1, by simpa using hp⟩
    obtain ⟨r', h1, h2⟩ := fillA_ok parts.toList l hl hxp _ _ z.cells hc (VR.refl_of_scal 4 z hs).cells
    refine ⟨w, .agg r', ?_, Drawn.refl w, ?_⟩
    · unfold placesP at hg
      split at hg
      · rename_i fs hd
        split at hg
        · rename_i pl hpl
          cases hg
          have hrun := run_placesL hY w fs.toList pl hpl
          have hm : (fs.mapM fun f => (do pure (f.offset, ← sizeOf f.type) : Sem (Nat × Nat))).run P w = .ok pl.toArray w := by
            rw [Array.mapM_eq_mapM_toList]
            simp at hrun ⊢
            simp [hrun]
          simp only [execOp, ho, Instr.build, Sem.run_bind, run_zero w hi hiz, Result.andThen_ok, run_under w (under_ok hY hd), hm]
          rw [parts_map]
          have : (fun (x : Nat) => pl.toArray[x]?) = fun i => pl[i]? := by funext x; simp
          rw [this, h1]
          simp
        · cases hg
      · rename_i n e0 hd
        split at hg
        · rename_i s hs'
          cases hg
          obtain ⟨i', hi', rfl⟩ := size_ok hY hs'
          simp only [execOp, ho, Instr.build, Sem.run_bind, run_zero w hi hiz, Result.andThen_ok, run_under w (under_ok hY hd), run_size w hi']
          rw [parts_map, h1]
          simp
        · cases hg
      · cases hg
    · have : r' = r'.toList.toArray := by simp
      rw [this]
      exact VR.agg_mk h2
  · cases e

theorem copies_get (zero : List Value) : ∀ (n i : Nat), (copies zero n)[i]? = if i < n * zero.length then zero[i % zero.length]? else none := by
  intro n
  induction n with
  | zero => intro i; simp [copies]
  | succ n ih =>
    intro i
    simp only [copies]
    by_cases k : i < zero.length
    · rw [List.getElem?_append_left k, if_pos (by rw [Nat.succ_mul]; omega), Nat.mod_eq_of_lt k]
    · rw [List.getElem?_append_right (by omega), ih]
      have e : (i - zero.length) % zero.length = i % zero.length := by
        conv => rhs; rw [show i = (i - zero.length) + zero.length from by omega, Nat.add_mod_right]
      rw [e]
      by_cases k2 : i - zero.length < n * zero.length
      · rw [if_pos k2, if_pos (by rw [Nat.succ_mul]; omega)]
      · rw [if_neg k2, if_neg (by rw [Nat.succ_mul]; omega)]

theorem copies_length (zero : List Value) : ∀ n, (copies zero n).length = n * zero.length := by
  intro n
  induction n with
  | zero => simp [copies]
  | succ n ih => simp [copies, ih, Nat.succ_mul]; omega

/-- The model's row of zero cells. -/
theorem zeros_eq (z : Array Value) (n : Nat) (hne : n * z.size ≠ 0) : ((Array.range (n * z.size)).map (fun i => z[i % z.size]!)).toList = copies z.toList n := by
  have hpos : 0 < z.size := by
    by_cases k : 0 < z.size
    · exact k
    · have : z.size = 0 := by omega
      rw [this] at hne; simp at hne
  apply List.ext_getElem?
  intro i
  rw [copies_get]
  simp only [Array.toList_map, List.getElem?_map, Array.toList_range, Array.length_toList]
  by_cases k : i < n * z.size
  · rw [List.getElem?_range k]
    rw [if_pos k]
    have : i % z.size < z.size := Nat.mod_lt _ hpos
    simp [this]
  · rw [if_neg k, List.getElem?_eq_none (by simp; omega)]; rfl

theorem copies_scal {β : Ren} {z : List Value} (h : VRs β z z) : ∀ n, VRs β (copies z n) (copies z n) := by
  intro n
  induction n with
  | zero => exact .nil
  | succ n ih => exact h.append ih

theorem copies_nil (n : Nat) (z : List Value) (h : n * z.length = 0) : copies z n = [] := List.length_eq_zero_iff.mp (by rw [copies_length]; exact h)

theorem bslice_ok {Y : Tr TypeInfo} (hY : TyOK P Y) {t e0 : TypeId} {len : Nat} {parts : Array (Nat × Operand)} {z : Value} {s : Nat} {l : List (Nat × Nat × Operand)}
    (ho : o.op = .buildSlice t len parts) (ht : P.underlying t = some (.slice e0)) (hs : sizeP Y e0 = some s) (hz : zeroP Y e0 = some z) (hl : partsP (fun i => some (i * s, s)) parts.toList = some l)
    (hsz : s = z.cells.toList.length) (hle : len * s ≤ 4096) : OpOK P o (R.bslice e0 z.cells.toList len l).run := by
  intro call ρa H va H' wf e
  simp only [R.bslice, evBslice] at e
  split at e
  · rename_i c hc
    cases hnew : H.new false (.cells c e0 false 0) with
    | mk n H1 =>
      rw [hnew] at e; cases e
      obtain ⟨hx', hr'⟩ := new_cells (P := P) wf hnew
      refine ⟨hx', fun β w ρ hrep hf hx => ?_⟩
      obtain ⟨i, hi, hiz, hsc⟩ := zero_ok hY hz
      obtain ⟨i2, hi2, hi2s⟩ := size_ok hY hs
      rw [hi] at hi2; cases hi2
      have hxp : ∀ p ∈ parts.toList, VR β (ρa p.2) (ρ p.2) := by
        intro p hp
        apply hx
        rw [ho]
        simp only [Op.operands]
        simp
        exact ⟨p.1, by simpa using hp⟩
      have hzs : s = z.cells.size := by simpa using hsz
      -- the zero cells
      let zc : Array Value := if len * s = 0 then #[] else z.cells
      have hzero : ((Array.range (len * s)).map (fun i => zc[i % zc.size]!)).toList = copies z.cells.toList len := by
        by_cases k : len * s = 0
        · rw [copies_nil _ _ (by rw [← hsz]; exact k), k]; simp
        · simp only [zc, if_neg k]
          rw [hzs] at k ⊢
          exact zeros_eq z.cells len k
      have hvz : VRs β (copies z.cells.toList len) ((Array.range (len * s)).map (fun i => zc[i % zc.size]!)).toList := by
        rw [hzero]; exact copies_scal (VR.refl_of_scal 4 z hsc).cells len
      obtain ⟨r', h1, h2⟩ := fillA_ok parts.toList l hl hxp _ _ _ hc hvz
      obtain ⟨q1, q2, q3, q4, q5⟩ := hr' β w r' hrep hf h2
      refine ⟨_, _, _, _, ?_, .inl rfl, slice_fresh q4 q5 (Nat.le_refl _), q2, q3⟩
      have hbig : ¬ (len * i.size > 2 ^ 24) := by rw [hi2s]; omega
      simp only [execOp, ho, Instr.buildSlice, Sem.run_bind, run_under w ht, Result.andThen_ok, run_size w hi, if_neg hbig, Sem.run_pure]
      rw [hi2s]
      by_cases k : len * s = 0
      · have hzc : zc = #[] := by simp only [zc, if_pos k]
        rw [hzc] at h1
        simp only [if_pos k, Sem.run_bind, Sem.run_pure, Result.andThen_ok, parts_map, h1, q1]
      · have hzc : zc = z.cells := by simp only [zc, if_neg k]
        rw [hzc] at h1
        simp only [if_neg k, Sem.run_bind, Sem.run_pure, run_zero w hi hiz, Result.andThen_ok, parts_map, h1, q1]
  · cases e

theorem room_small {n b : Nat} (h : n * (b + 1) ≤ roomA) : n ≤ 68719476736 ∧ n * b ≤ 68719476736 := by
  unfold roomA at h
  have : n * (b + 1) = n * b + n := Nat.mul_succ n b
  omega

theorem mkSlice_ok {Y : Tr TypeInfo} (hY : TyOK P Y) {t e0 : TypeId} {lo co : Operand} {z : Value} {s b : Nat}
    (ho : o.op = .makeSlice t lo co) (ht : P.underlying t = some (.slice e0)) (hs : sizeP Y e0 = some s) (hb : bytesP Y e0 = some b) (hz : zeroP Y e0 = some z)
    (hsz : s = z.cells.toList.length) : OpOK P o (R.mkSlice e0 s b z.cells.toList lo co).run := by
  intro call ρa H va H' wf e
  simp only [R.mkSlice, evMkSlice] at e
  split at e
  · rename_i k1 l k2 c hlv hcv
    split at e
    · rename_i hcond
      cases hnew : H.new false (.cells (copies z.cells.toList c) e0 false 0) with
      | mk n H1 =>
        rw [hnew] at e; cases e
        obtain ⟨hx', hr'⟩ := new_cells (P := P) wf hnew
        refine ⟨hx', fun β w ρ hrep hf hx => ?_⟩
        have h1 := hx lo (by simp [ho, Op.operands]); rw [hlv] at h1
        have h2 := hx co (by simp [ho, Op.operands]); rw [hcv] at h2
        simp only [Bool.and_eq_true, Nat.ble_eq] at hcond
        obtain ⟨hlc, hroom⟩ := hcond
        obtain ⟨hc1, hc2⟩ := room_small hroom
        obtain ⟨i, hi, hiz, hsc⟩ := zero_ok hY hz
        obtain ⟨i2, hi2, hi2s⟩ := size_ok hY hs
        rw [hi] at hi2; cases hi2
        obtain ⟨i3, hi3, hi3b⟩ := bytes_ok hY hb
        rw [hi] at hi3; cases hi3
        have hzs : s = z.cells.size := by simpa using hsz
        let zc : Array Value := if c * s = 0 then #[] else z.cells
        have hzero : ((Array.range (c * s)).map (fun i => zc[i % zc.size]!)).toList = copies z.cells.toList c := by
          by_cases k : c * s = 0
          · rw [copies_nil _ _ (by rw [← hsz]; exact k), k]; simp
          · simp only [zc, if_neg k]
            rw [hzs] at k ⊢
            exact zeros_eq z.cells c k
        have hvz : VRs β (copies z.cells.toList c) ((Array.range (c * s)).map (fun i => zc[i % zc.size]!)).toList := by
          rw [hzero]; exact copies_scal (VR.refl_of_scal 4 z hsc).cells c
        obtain ⟨q1, q2, q3, q4, q5⟩ := hr' β w _ hrep hf hvz
        refine ⟨_, _, _, _, ?_, .inl rfl, slice_fresh q4 q5 hlc, q2, q3⟩
        have hwl : IntKind.i64.wrap (l : Int) = l := IntWalk.i64_in _ (by constructor <;> omega)
        have hwc : IntKind.i64.wrap (c : Int) = c := IntWalk.i64_in _ (by constructor <;> omega)
        have hbc : (b : Int) * (c : Int) ≤ 281474976710656 := by
          rw [← Int.natCast_mul, Nat.mul_comm]; omega
        have hno : ¬ ((decide ((c : Int) < 0) || decide ((b : Int) * (c : Int) > 2 ^ 48) || decide ((l : Int) < 0) || decide ((l : Int) > c)) = true) := by
          have h48 : (2 : Int) ^ 48 = 281474976710656 := by decide
          intro hh
          simp only [Bool.or_eq_true, decide_eq_true_eq] at hh
          omega
        have hlv' := h1.int_inv
        have hcv' := h2.int_inv
        rw [Int.ofNat_eq_natCast] at hlv' hcv'
        simp only [execOp, ho, Instr.makeSlice, Sem.run_bind, run_under w ht, Result.andThen_ok, hlv', hcv', asInt, asIntOf, Sem.run_pure, run_info w hi, hwl, hwc, hi3b, if_neg hno, run_askRoom, run_size w hi]
        rw [hi2s]
        by_cases k : c * s = 0
        · have hzc : zc = #[] := by simp only [zc, if_pos k]
          rw [hzc] at q1
          simp only [Int.toNat_natCast, if_pos k, Sem.run_bind, Sem.run_pure, Result.andThen_ok, q1]
          rw [hzc]
        · have hzc : zc = z.cells := by simp only [zc, if_neg k]
          rw [hzc] at q1
          simp only [Int.toNat_natCast, if_neg k, Sem.run_bind, Sem.run_pure, run_zero w hi hiz, Result.andThen_ok, q1]
          rw [hzc]
    · cases e
  · cases e

end

end Go.Proofs.YtlbmihpmcgiinaaGreatDoor.Own
end

/- The engine, part 6: slices. -/
section
namespace Go.Proofs.YtlbmihpmcgiinaaGreatDoor.Own
open Go

section
variable {P : Program} {o : Oper}

def OVR (β : Ren) : Option Value → Option Value → Prop
  | none, none => True
  | some v, some w => VR β v w
  | _, _ => False

theorem OVR.of_opd {β : Ren} {ρa ρ : Operand → Value} {x : Option Operand} (h : ∀ y, x = some y → VR β (ρa y) (ρ y)) : OVR β (mapO ρa x) (x.map ρ) := by
  cases x with
  | none => trivial
  | some y => exact h y rfl

theorem run_sliceBound {β : Ren} {v v' : Value} {n n' i : Nat} {code : BoundsCode} (h : upto v n = some i) (hn : n ≤ n') (hv : VR β v v') (w : World) : (Instr.sliceBound v' n' code).run P w = .ok i w ∧ i ≤ n := by
  obtain ⟨k, rfl, hi⟩ := upto_spec h
  refine ⟨?_, hi⟩
  rw [hv.int_inv]
  simp only [Instr.sliceBound, asIntOf, Sem.run_bind, Sem.run_pure, Result.andThen_ok]
  rw [if_pos ⟨by omega, by omega⟩]
  simp

theorem bounds_ok {β : Ren} {len cap cap' l h m : Nat} {lo hi mx lo' hi' mx' : Option Value} {b : Bool} (e : bounds3 len cap lo hi mx = some (l, h, m)) (hc : cap ≤ cap') (hl : len ≤ cap)
    (vl : OVR β lo lo') (vh : OVR β hi hi') (vm : OVR β mx mx') (w : World) :
    ∃ m', (Instr.sliceBounds b len cap' lo' hi' mx').run P w = .ok (l, h, m') w ∧ (mx = none → m = cap ∧ m' = cap') ∧ (mx ≠ none → m' = m) ∧ l ≤ h ∧ h ≤ m ∧ m ≤ cap := by
  unfold bounds3 at e
  split at e
  · cases e
  · rename_i m0 hm0
    split at e
    · cases e
    · rename_i h0 hh0
      split at e
      · cases e
      · rename_i l0 hl0
        cases e
        -- the greatest
        have A : ∃ m', ((match (generalizing := false) mx' with | some v => Instr.sliceBound v cap' (if b then .slice3Acap else .slice3Alen) | none => pure cap') : Sem Nat).run P w = .ok m' w ∧ (mx = none → m = cap ∧ m' = cap') ∧ (mx ≠ none → m' = m) ∧ m ≤ cap ∧ m ≤ m' := by
          cases mx with
          | none =>
            cases mx' with
            | none => simp at hm0; subst hm0; exact ⟨cap', rfl, fun _ => ⟨rfl, rfl⟩, fun k => absurd rfl k, Nat.le_refl _, hc⟩
            | some _ => exact vm.elim
          | some v =>
            cases mx' with
            | none => exact vm.elim
            | some v' =>
              obtain ⟨r1, r2⟩ := run_sliceBound (P := P) (code := if b then .slice3Acap else .slice3Alen) hm0 hc vm w
              exact ⟨m, r1, fun k => (by cases k), fun _ => rfl, r2, Nat.le_refl _⟩
        obtain ⟨m', a1, a2, a3, a4, a5⟩ := A
        have B : ((match (generalizing := false) hi', mx' with
            | some v, some _ => Instr.sliceBound v m' .slice3B
            | some v, none => Instr.sliceBound v m' (if b then .sliceAcap else .sliceAlen)
            | none, none => pure len
            | none, some _ => stuck "Slice: max without high") : Sem Nat).run P w = .ok h w ∧ h ≤ m := by
          cases hi with
          | none =>
            cases hi' with
            | some _ => exact vh.elim
            | none =>
              cases mx with
              | some _ => simp at hh0
              | none =>
                cases mx' with
                | some _ => exact vm.elim
                | none => simp at hh0 hm0; subst hh0; subst hm0; exact ⟨rfl, hl⟩
          | some v =>
            cases hi' with
            | none => exact vh.elim
            | some v' =>
              have hh0 : upto v m = some h := by cases mx <;> exact hh0
              cases mx' with
              | none => exact run_sliceBound hh0 a5 vh w
              | some _ => exact run_sliceBound hh0 a5 vh w
        obtain ⟨b1, b2⟩ := B
        have C : ((match (generalizing := false) lo' with
            | some v => Instr.sliceBound v h (if mx'.isSome then .slice3C else .sliceB)
            | none => pure 0) : Sem Nat).run P w = .ok l w ∧ l ≤ h := by
          cases lo with
          | none =>
            cases lo' with
            | none => simp at hl0; subst hl0; exact ⟨rfl, Nat.zero_le _⟩
            | some _ => exact vl.elim
          | some v =>
            cases lo' with
            | none => exact vl.elim
            | some v' => exact run_sliceBound hl0 (Nat.le_refl _) vl w
        obtain ⟨c1, c2⟩ := C
        refine ⟨m', ?_, a2, a3, c2, b2, a4⟩
        clear a2 a3 a4 a5 b2 c2 hm0 hh0 hl0 vl vh vm
        cases mx' <;> cases hi' <;> cases lo' <;> simp only [Option.isSome_none, Option.isSome_some] at a1 b1 c1 <;>
          simp only [Instr.sliceBounds, Sem.run_bind, a1, b1, c1, Result.andThen_ok, Sem.run_pure, Option.isSome_none, Option.isSome_some] <;> simp_all

theorem mem_slice {t : TypeId} {x : Operand} {lo hi mx : Option Operand} (ho : o.op = .slice t x lo hi mx) {y : Operand} (h : y = x ∨ lo = some y ∨ hi = some y ∨ mx = some y) : y ∈ o.op.operands.toList := by
  rw [ho]
  simp only [Op.operands]
  rcases h with rfl | rfl | rfl | rfl <;> simp

theorem extract_str (s : ByteArray) (l h : Nat) : Value.string (s.extract l h) = bstr ((s.data.toList.drop l).take (h - l)) := by
  unfold bstr
  congr 1
  apply ByteArray.ext
  rw [ByteArray.data_extract]
  apply Array.toList_inj.mp
  simp [Array.toList_extract, List.extract_eq_take_drop]

theorem sliceStr_ok {t : TypeId} {x : Operand} {lo hi : Option Operand} (ho : o.op = .slice t x lo hi none) (ht : P.underlying t = some .string) : OpOK P o (R.sliceStr x lo hi).run := by
  intro call ρa H va H' wf e
  simp only [R.sliceStr, evSliceStr] at e
  split at e
  · rename_i s hb
    split at e
    · rename_i l h m hbd
      cases e
      refine calmG wf fun β w ρ hr hx => ?_
      have h1 := hx x (mem_slice ho (.inl rfl)); rw [hb] at h1
      have hl := OVR.of_opd (x := lo) (fun y k => hx y (mem_slice ho (.inr (.inl k))))
      have hh := OVR.of_opd (x := hi) (fun y k => hx y (mem_slice ho (.inr (.inr (.inl k)))))
      obtain ⟨m', r1, r2, r3, r4, r5, r6⟩ := bounds_ok (P := P) (b := false) (mx' := none) hbd (Nat.le_refl _) (Nat.le_refl _) hl hh trivial w
      refine ⟨w, .string (s.extract l h), ?_, Drawn.refl w, by rw [extract_str]; exact VR.string _⟩
      have hsz : s.size = s.data.toList.length := by simp
      simp [execOp, ho, Instr.sliceAt, Instr.slice, run_under w ht, h1.str_inv]
      rw [hsz, r1]
      simp
    · cases e
  · cases e

theorem bounds_slice {β : Ren} {len cap : Nat} {a : Addr} {v' : Value} (h : VR β (.slice (some a) len cap) v') : ∃ a' c', v' = .slice (some a') len c' ∧ cap ≤ c' ∧ len ≤ cap := by
  cases h with
  | slice e a b c d => exact ⟨_, _, rfl, b, a⟩
  | nowhere => exact ⟨_, _, rfl, Nat.zero_le _, Nat.le_refl _⟩

theorem addr_add_zero (a : Addr) : a.add 0 = a := by simp [Addr.add]

theorem addr_add (B o n : Nat) : (⟨B, o, none⟩ : Addr).add n = ⟨B, o + n, none⟩ := by
  unfold Addr.add; split
  · rename_i k; subst k; rfl
  · rfl

theorem moved_plain (B o n : Nat) : moved ⟨B, o, none⟩ n = ⟨B, o + n, none⟩ := by
  unfold moved; split
  · rename_i k; subst k; rfl
  · rfl

theorem sliceS_ok {t e0 : TypeId} {i : TypeInfo} {x : Operand} {lo hi mx : Option Operand} (ho : o.op = .slice t x lo hi mx) (ht : P.underlying t = some (.slice e0)) (hi0 : P.info? e0 = some i) : OpOK P o (R.sliceS i.size x lo hi mx).run := by
  intro call ρa H va H' wf e
  simp only [R.sliceS, evSliceS, vH] at e
  split at e
  · rename_i v hv
    cases e
    refine calmG wf fun β w ρ hr hx => ?_
    have h1 := hx x (mem_slice ho (.inl rfl))
    have hl := OVR.of_opd (x := lo) (fun y k => hx y (mem_slice ho (.inr (.inl k))))
    have hh := OVR.of_opd (x := hi) (fun y k => hx y (mem_slice ho (.inr (.inr (.inl k)))))
    have hm := OVR.of_opd (x := mx) (fun y k => hx y (mem_slice ho (.inr (.inr (.inr k)))))
    have hmn : (mapO ρa mx = none ↔ mx = none) := by cases mx <;> simp [mapO]
    -- the model's run, once the bounds are known
    have run : ∀ (a' : Option Addr) (len c' l h m' : Nat), ρ x = .slice a' len c' → (Instr.sliceBounds true len c' (lo.map ρ) (hi.map ρ) (mx.map ρ)).run P w = .ok (l, h, m') w →
        (execOp ρ o).run P w = .ok (.value (.slice (if m' = l then a' else a'.map (·.add (l * i.size))) (h - l) (m' - l))) w := by
      intro a' len c' l h m' k1 k2
      simp [execOp, ho, Instr.sliceAt, Instr.slice, run_under w ht, k1, k2, run_size w hi0]
    unfold sliceA at hv
    split at hv
    · rename_i hb
      rw [hb] at h1
      split at hv
      · rename_i q hbd
        cases hv
        obtain ⟨l, h, m⟩ := q
        obtain ⟨m', r1, r2, r3, r4, r5, r6⟩ := bounds_ok (P := P) (b := true) hbd (Nat.le_refl _) (Nat.le_refl _) hl hh hm w
        have hm0 : m' = 0 := by
          by_cases k : mapO ρa mx = none
          · exact (r2 k).2
          · rw [r3 k]; omega
        have := run none 0 0 l h m' h1.snil_inv.1 r1
        have hl0 : l = 0 := by omega
        have hh0 : h = 0 := by omega
        subst hl0; subst hh0; subst hm0
        exact ⟨w, _, this, Drawn.refl w, by rw [hb]; exact VR.snil⟩
      · cases hv
    · rename_i a len cap hb
      rw [hb] at h1
      obtain ⟨a', c', hx', hcc, hlc⟩ := bounds_slice h1
      split at hv
      · rename_i s0 hs
        -- the empty slice somewhere
        rcases h1.slice_addr with ⟨n, p, rfl⟩ | ⟨rfl, rfl, rfl, a2, c2, hx2⟩
        · simp at hs
        · split at hv
          · rename_i q hbd
            cases hv
            obtain ⟨l, h, m⟩ := q
            rw [hx2] at hx'; cases hx'
            obtain ⟨m', r1, r2, r3, r4, r5, r6⟩ := bounds_ok (P := P) (b := true) hbd (Nat.zero_le c') (Nat.le_refl _) hl hh hm w
            have := run (some a') 0 c' l h m' hx2 r1
            have hl0 : l = 0 := by omega
            have hh0 : h = 0 := by omega
            subst hl0; subst hh0
            refine ⟨w, _, this, Drawn.refl w, ?_⟩
            rw [hb]
            split
            · exact VR.nowhere
            · exact VR.nowhere
          · cases hv
      · rename_i hs
        split at hv
        · cases hv
        · rename_i l h m hbd
          rcases h1.slice_addr with ⟨n, p, rfl⟩ | ⟨rfl, _⟩
          · obtain ⟨I, c2, hI, hx2, g1, g2, g3, g4⟩ := h1.slice_inv
            rw [hx2] at hx'; cases hx'
            obtain ⟨m', r1, r2, r3, r4, r5, r6⟩ := bounds_ok (P := P) (b := true) hbd g2 g1 hl hh hm w
            have hrun := run _ len c' l h m' hx2 r1
            simp only at hv
            split at hv
            · rename_i heven
              cases hv
              have heven : n % 2 = 0 := by simpa using heven
              have hcap := g3 heven
              have hmm : m' = m := by
                by_cases k : mapO ρa mx = none
                · have := r2 k; omega
                · exact r3 k
              subst hmm
              refine ⟨w, _, hrun, Drawn.refl w, ?_⟩
              by_cases k : m' = l
              · rw [if_pos k, if_pos k]
                exact VR.slice hI (by omega) (by omega) (fun _ => rfl) (fun k => by omega)
              · rw [if_neg k, if_neg k, moved_plain]
                simp only [Option.map_some, addr_add]
                rw [show p + I.shift + l * i.size = p + l * i.size + I.shift from by omega]
                exact VR.slice hI (by omega) (by omega) (fun _ => rfl) (fun k => by omega)
            · rename_i hodd hmx
              have hodd : n % 2 = 1 := by
                have : ¬ n % 2 = 0 := fun k => by rw [k] at hodd; cases hodd
                omega
              obtain ⟨hm1, hm2⟩ := r2 hmx
              subst hm1; subst hm2
              split at hv
              · rename_i c0 e1 f1 z hlt hg
                split at hv
                · rename_i hz
                  cases hv
                  have hlt : l < m := by simpa using hlt
                  refine ⟨w, _, hrun, Drawn.refl w, ?_⟩
                  rw [if_neg (by omega), moved_plain]
                  simp only [Option.map_some, addr_add]
                  rw [show p + I.shift + l * i.size = p + l * i.size + I.shift from by omega]
                  obtain ⟨J, o', hb', hw, hor⟩ := hr.obj n _ hg
                  rw [hI] at hb'; cases hb'
                  have hesz : I.esz = i.size := by
                    cases hor with
                    | cells q1 q2 q3 q4 => rw [← (q2 hodd).1, hz]
                  refine VR.slice hI (by omega) (by omega) (fun k => by omega) (fun _ => ?_)
                  have := g4 hodd
                  rw [hesz] at this ⊢
                  have e3 : l * i.size + (m' - l) * i.size = m' * i.size := by rw [← Nat.add_mul]; congr 1; omega
                  omega
                · cases hv
              · cases hv
              · rename_i hlt
                have hlt : m ≤ l := by
                  by_cases k : l < m
                  · rw [Nat.blt_eq.mpr k] at hlt; cases hlt
                  · omega
                split at hv
                · rename_i hl0
                  subst hl0
                  cases hv
                  refine ⟨w, _, hrun, Drawn.refl w, ?_⟩
                  rw [hb]
                  have hlen : len = 0 := by omega
                  have hh0 : h = 0 := by omega
                  have hm0 : m = 0 := by omega
                  subst hlen; subst hh0; subst hm0
                  have : (if m' = 0 then some (⟨I.blk, p + I.shift, none⟩ : Addr) else Option.map (fun x : Addr => x.add (0 * i.size)) (some ⟨I.blk, p + I.shift, none⟩)) = some ⟨I.blk, p + I.shift, none⟩ := by
                    split
                    · rfl
                    · simp [addr_add_zero]
                  rw [this]
                  exact VR.slice hI (Nat.le_refl _) (by omega) (fun k => by omega) (fun k => by simpa using g4 k)
                · cases hv
                  refine ⟨w, _, hrun, Drawn.refl w, ?_⟩
                  have hh0 : h - l = 0 := by omega
                  rw [hh0]
                  split
                  · exact VR.nowhere
                  · exact VR.nowhere
            · cases hv
          · simp at hs
    · cases hv
  · cases e

end

end Go.Proofs.YtlbmihpmcgiinaaGreatDoor.Own
end
