/- The engine, part 22: its use at a program: the tables, calls, and answers that were reckoned before. -/
import Derived.Test.YtlbmihpmcgiinaaGreatDoorEngE

section
namespace Go.Proofs.YtlbmihpmcgiinaaGreatDoor.Own
open Go

section
variable {P : Program}

/-! ## The tables -/
theorem tyOK_mk : TyOK P (mkTr 0 P.types.toList .leaf) := by
  intro t i h
  rw [mkTr_get] at h
  rw [if_neg (Nat.not_lt_zero t), Nat.sub_zero] at h
  split at h
  · rename_i hx
    cases h
    have hx' : P.types[t]? = some i := by simpa using hx
    have hlt : t < P.types.size := (Array.getElem?_eq_some_iff.1 hx').1
    unfold Tables.info?
    rw [if_pos hlt]; exact hx'
  · rw [get_leaf] at h; cases h

theorem mkF_get (Y : Tr TypeInfo) : ∀ (l : List Func) (i : Nat) (t : Tr AFunc) (n : Nat), (mkF P Y i l t).get n = if n < i then t.get n else match l[n - i]? with | some fn => compF P Y fn | none => t.get n := by
  intro l
  induction l with
  | nil => intro i t n; simp [mkF]
  | cons x l ih =>
    intro i t n
    rw [mkF, ih]
    by_cases h : n < i
    · rw [if_pos (by omega), if_pos h, Tr.get_set_ne _ _ _ _ (by omega)]
    · by_cases e : n = i
      · subst e; rw [if_pos (by omega), if_neg h]; simp [Tr.get_set_same]
      · rw [if_neg (by omega), if_neg h]
        obtain ⟨k, hk⟩ : ∃ k, n - i = k + 1 := ⟨n - i - 1, by omega⟩
        have : n - (i + 1) = k := by omega
        rw [hk, this]
        simp only [List.getElem?_cons_succ]
        rw [Tr.get_set_ne _ _ _ _ e]

/-- No function is the one that the machine answers itself. -/
def Named (P : Program) : Prop := ∀ (k : Nat) (fn : Func), P.funcs[k]? = some fn → fn.name ≠ "runtime.NumGoroutine"

theorem named_of (h : P.funcs.toList.all (fun fn => !(fn.name == "runtime.NumGoroutine")) = true) : Named P := by
  intro k fn hk
  have := List.all_eq_true.mp h fn (by
    have : P.funcs.toList[k]? = some fn := by simpa using hk
    exact List.mem_of_getElem? this)
  simpa using this

theorem tabOK_mk (hn : Named P) (Y : Tr TypeInfo) : TabOK P Y (mkF P Y 0 P.funcs.toList .leaf) := by
  intro k a h
  rw [mkF_get] at h
  rw [if_neg (Nat.not_lt_zero k), Nat.sub_zero] at h
  split at h
  · rename_i fn hfn
    have hfn' : P.funcs[k]? = some fn := by simpa using hfn
    exact ⟨fn, hfn', h, hn k fn hfn'⟩
  · rw [get_leaf] at h; cases h

/-! ## Calls -/
/-- A call in the machine, from a contract. -/
theorem goes_of_calls (hn : Named P) {k : FuncId} {fn : Func} {c : Code} (hf : P.funcs[k]? = some fn) (hb : fn.body = some c) {args : Array Value} {w : World} {R : Ending → World → Prop} {Q : Value → World → Prop} (h : Calls P k args w R)
    (hr : ∀ e w', R e w' → ∃ v, e = .returned v ∧ Q v w') {fr : Frame} {cs : List Frame} (hp : Plain fr) : Goes P (callFunc k args) fr cs w Q := by
  refine goes_enter (f := k) (args := args) (w1 := w) hp ?_ ?_
  · unfold callFunc
    simp only [Sem.run_bind, run_program, Result.andThen_ok, hf]
    have h1 : (fn.name == "runtime.NumGoroutine") = false := by simpa using hn k fn hf
    rw [h1]
    simp [hb]
  · obtain ⟨e, w', fr', hre, hcomes, _, hleave⟩ := h (fr :: cs)
    obtain ⟨v, rfl, hq⟩ := hr e w' hre
    exact ⟨v, w', Steps.trans hcomes (.one (step_leave_returned hleave)), hq⟩

section eval
variable {Y : Tr TypeInfo}

theorem calls_of_eval (hY : TyOK P Y) {F : Tr AFunc} (hF : TabOK P Y F) {ev : EvA} (hev : EvOK P Y ev) {k : Nat} {args : List Value} {H : AH} {va : Value} {H' : AH} (h : callFn F ev [] k args H = some (va, H')) (wf : WF H) :
    HX H H' ∧ ∀ (β : Ren) (w : World) (args' : Array Value), Rep β H.get w → Free β H.ctr H'.ctr → GlobOK P β → VRs β args args'.toList →
      Calls P k args' w (fun e w' => ∃ v, e = .returned v ∧ Post β H H' w va v w') := by
  have henv : EnvC P Y [] := fun e he => by simp at he
  unfold callFn at h
  split at h
  · rename_i nt rs body hget
    obtain ⟨fn, hfn, hcomp, hname⟩ := hF _ _ hget
    unfold compF at hcomp
    split at hcomp
    · rename_i c hbody
      split at hcomp
      · rename_i b r hcb hcr
        cases hcomp
        split at h
        · rename_i hle
          have hle : args.length ≤ fn.ntmps := by simpa using hle
          split at h
          · cases h
          · rename_i out T H1 hout hev1
            split at h
            · rename_i vs hvs
              cases h
              obtain ⟨x1, x2⟩ := hev _ _ _ _ _ _ _ _ henv ⟨c, fn.ntmps, hcb⟩ hev1 wf
              refine ⟨x1, fun β w args' hr hf hg hv cs => ?_⟩
              have he : EnvOK P Y β [] := fun e he => by simp at he
              have hal : args'.size = args.length := by have := hv.1; simpa using this.symm
              let fr0 : Frame := Frame.enter P k args' .normal
              have htm : fr0.tmps = args' ++ Array.replicate (fn.ntmps - args'.size) undef := by simp [fr0, Frame.enter, hfn]
              have hbeg : Begins (lone fr0 cs w) fr0 c [] cs w := by
                left
                congr 1
                simp [fr0, Frame.enter, hfn, hbody]
              obtain ⟨β', w', tmps', D, q1, q2, q3, q4, q5, q6, q7, q8⟩ := x2 β w fr0 [] cs c fn.ntmps _ hcb hr hf ⟨rfl, rfl, rfl, hg, he⟩ (by rw [htm]; have := initT_ok hv (fn.ntmps - args'.size); simpa using this) (by rw [htm]; simp; omega) hbeg
              have fin : ∀ K, Steps P (lone fr0 cs w) (lone { fr0 with todo := K, tmps := tmps', defers := D ++ fr0.defers, mode := .returning } cs w') →
                  ∃ e w' fr, (∃ v, e = .returned v ∧ Post β H H' w (packA vs) v w') ∧ Comes P (lone (Frame.enter P k args' .normal) cs w) (lone fr cs w') e ∧ fr.fn = k ∧ fr.leaving P w' e := by
                intro K s
                let fr1 : Frame := { fr0 with todo := K, tmps := tmps', defers := D ++ fr0.defers, mode := .returning }
                have hD : Marks β' w' fr1.defers := by
                  show Marks β' w' (D ++ [])
                  rw [List.append_nil]; exact q6
                obtain ⟨w2, s2, g1, g2, g3, g4, g5⟩ := unwind_marks (P := P) fr1.defers w' fr1 cs hD rfl rfl
                have hr' : Rep β' H'.get w2 := by
                  refine ⟨fun n o e => ?_, q4.inj, fun n I e => by rw [g1]; exact q4.bnd n I e⟩
                  obtain ⟨I, o', h1, h2, h3⟩ := q4.obj n o e
                  refine ⟨I, o', h1, ?_, h3⟩
                  rw [g5 I.blk (fun d hd C hC he => ?_)]
                  · exact h2
                  · clear s2 g5
                    revert hd
                    generalize fr1.defers = ds at hD
                    intro hd
                    induction ds with
                    | nil => simp at hd
                    | cons e ds ih =>
                      obtain ⟨⟨B, rfl, _, k3, _⟩, k5⟩ := hD
                      rcases List.mem_cons.mp hd with rfl | hd
                      · cases hC; exact k3 n I h1 he.symm
                      · exact ih k5 hd
                obtain ⟨v, hv1, hv2⟩ := results_ok hY hcr hvs hr' (tmps := tmps') q3
                refine ⟨.returned v, w2, { fr1 with defers := [] }, ⟨v, rfl, β', hv2, hr', ⟨q5.le, q5.fresh, q5.img, ?_, by rw [g1]; exact q5.size, g2.trans q5.tape, g3.trans q5.os, g4.trans q5.output⟩⟩, s.trans s2, rfl, ⟨rfl, rfl, rfl, fn, hfn, hv1⟩⟩
                intro B hB hk
                rw [g5 B (fun d hd C hC hCB => ?_)]
                · exact q5.keep B hB hk
                · have hd' : d ∈ D := by
                    have : d ∈ D ++ [] := hd
                    simpa using this
                  have := q7 d hd' C hC
                  omega
              cases out with
              | normal =>
                refine fin [] (Steps.trans q1 (.one ?_))
                apply step_lone_go
                simp [stepG, stepG.exec, fr0, Frame.enter]
              | exit id => exact (hout id rfl).elim
              | ret =>
                obtain ⟨K, s⟩ := q1
                refine fin (.code .ret :: K) (Steps.trans s (.one ?_))
                apply step_lone_go
                simp [stepG, stepG.exec, fr0, Frame.enter]
            · cases h
          · cases h
        · cases h
      · cases hcomp
    · cases hcomp
  · cases h
end eval

/-! ## The package-level variables alone -/
def globR (P : Program) : Ren := fun n => if n % 2 = 0 ∧ n / 2 < P.globals.size then some ⟨n / 2, 0, 0, 0, none⟩ else none

theorem globR_ok : GlobOK P (globR P) := by
  intro g hg
  refine ⟨⟨g, 0, 0, 0, none⟩, ?_, rfl, rfl⟩
  unfold globR
  rw [if_pos ⟨by omega, by omega⟩]
  congr 2; omega

/-- A heap without blocks, behind the variables. -/
def bareH (P : Program) : AH := ⟨.leaf, 2 * P.globals.size, 2 * P.globals.size, []⟩

theorem bareH_get (n : Nat) : (bareH P).get n = none := by rw [AH.get_eq]; simp [bareH]

theorem bareH_wf : WF (bareH P) := ⟨fun n h => (by rw [bareH_get] at h; cases h), Nat.le_refl _, fun n h => (by simp [bareH, hidden] at h), by simp [bareH]⟩

theorem bare_rep {w : World} (h : P.globals.size ≤ w.heap.size) : Rep (globR P) (bareH P).get w := by
  refine ⟨fun n o e => (by rw [bareH_get] at e; cases e), fun n m I J a => (by rw [bareH_get] at a; cases a), fun n I e => ?_⟩
  unfold globR at e
  split at e
  · rename_i k; cases e; exact Nat.lt_of_lt_of_le k.2 h
  · cases e

/-- A world that is another one, and more blocks (and draws). -/
structure Grown (w w' : World) : Prop where
  size : w.heap.size ≤ w'.heap.size
  keep : ∀ B, B < w.heap.size → w'.heap[B]? = w.heap[B]?
  tape : w'.tape = w.tape
  os : w'.os = w.os
  output : w'.output = w.output

/-- A call whose arguments and whose answer hold no address. -/
def Known (P : Program) (k : FuncId) (args : List Value) (v : Value) : Prop :=
  ∀ (w : World), P.globals.size ≤ w.heap.size → Calls P k args.toArray w (fun e w' => e = .returned v ∧ Grown w w')

theorem VRs_scal {β : Ren} : ∀ (l : List Value), l.all (scal 4) = true → VRs β l l := by
  intro l
  induction l with
  | nil => intro _; exact .nil
  | cons x l ih =>
    intro h
    simp only [List.all_cons, Bool.and_eq_true] at h
    exact .cons (VR.refl_of_scal 4 x h.1) (ih h.2)

theorem VRs_scal_eq {β : Ren} : ∀ (l l' : List Value), l.all (scal 4) = true → VRs β l l' → l' = l := by
  intro l
  induction l with
  | nil => intro l' _ h; exact h.nil_inv
  | cons x l ih =>
    intro l' h hv
    simp only [List.all_cons, Bool.and_eq_true] at h
    obtain ⟨y, m, rfl, h1, h2⟩ := hv.head
    rw [ih m h.2 h2, ← h1.eq_of_scal 4 h.1]

/-- The answer of a call that is carried out on the heap without blocks. -/
def known? (F : Tr AFunc) (ev : EvA) (P : Program) (k : Nat) (args : List Value) : Option Value :=
  match args.all (scal 4), callFn F ev [] k args (bareH P) with
  | true, some (v, _) => match scal 4 v with | true => some v | false => none
  | _, _ => none

theorem known_of {Y : Tr TypeInfo} (hY : TyOK P Y) {F : Tr AFunc} (hF : TabOK P Y F) {ev : EvA} (hev : EvOK P Y ev) {k : Nat} {args : List Value} {v : Value} (h : known? F ev P k args = some v) : Known P k args v := by
  unfold known? at h
  split at h
  · rename_i v' H' hall hcall
    split at h
    · rename_i hs
      cases h
      obtain ⟨x1, x2⟩ := calls_of_eval hY hF hev hcall bareH_wf
      intro w hw
      refine Calls.mono (x2 (globR P) w args.toArray (bare_rep hw) ?_ globR_ok (by simpa using VRs_scal args hall)) ?_
      · intro n h1 _
        unfold globR
        rw [if_neg]
        intro ⟨_, h2⟩
        simp only [bareH] at h1
        omega
      · rintro e w' ⟨v', rfl, β', q1, q2, q3⟩
        refine ⟨by rw [← q1.eq_of_scal 4 hs], q3.size, fun B hB => q3.keep B hB (fun m J _ hm => by rw [bareH_get] at hm; cases hm), q3.tape, q3.os, q3.output⟩
    · cases h
  · cases h

/-! ## Answers that were reckoned before -/
def sameB : List UInt8 → List UInt8 → Bool
  | [], [] => true
  | a :: x, b :: y => Nat.beq a.toNat b.toNat && sameB x y
  | _, _ => false

theorem sameB_eq : ∀ {x y : List UInt8}, sameB x y = true → x = y := by
  intro x
  induction x with
  | nil => intro y h; cases y with | nil => rfl | cons b y => simp [sameB] at h
  | cons a x ih =>
    intro y h
    cases y with
    | nil => simp [sameB] at h
    | cons b y =>
      simp only [sameB, Bool.and_eq_true] at h
      rw [ih h.2, UInt8.toNat_inj.mp (Nat.eq_of_beq_eq_true h.1)]

def sameI : Int → Int → Bool
  | .ofNat a, .ofNat b => Nat.beq a b
  | .negSucc a, .negSucc b => Nat.beq a b
  | _, _ => false

theorem sameI_eq {a b : Int} (h : sameI a b = true) : a = b := by
  cases a <;> cases b <;> simp [sameI] at h <;> simp [h]

def sameK : IntKind → IntKind → Bool := fun a b => decide (a = b)

def sameV0 : Value → Value → Bool
  | .bool a, .bool b => a == b
  | .int k a, .int k' b => sameI a b && sameK k k'
  | .string a, .string b => sameB a.data.toList b.data.toList
  | .nilIface, .nilIface => true
  | .nilFunc, .nilFunc => true
  | .pointer none, .pointer none => true
  | .slice none 0 0, .slice none 0 0 => true
  | _, _ => false

theorem sameV0_eq {a b : Value} (h : sameV0 a b = true) : a = b := by
  unfold sameV0 at h
  split at h
  · simp at h; rw [h]
  · simp only [sameK, Bool.and_eq_true, decide_eq_true_eq] at h
    rw [sameI_eq h.1, h.2]
  · rename_i a b
    have := sameB_eq h
    cases a; cases b
    simp at this
    rw [this]
  · rfl
  · rfl
  · rfl
  · rfl
  · cases h

def sameL (f : Value → Value → Bool) : List Value → List Value → Bool
  | [], [] => true
  | a :: x, b :: y => f a b && sameL f x y
  | _, _ => false

theorem sameL_eq {f : Value → Value → Bool} (hf : ∀ a b, f a b = true → a = b) : ∀ (x y : List Value), sameL f x y = true → x = y := by
  intro x
  induction x with
  | nil => intro y h; cases y with | nil => rfl | cons b y => simp [sameL] at h
  | cons a x ih =>
    intro y h
    cases y with
    | nil => simp [sameL] at h
    | cons b y =>
      simp only [sameL, Bool.and_eq_true] at h
      rw [hf a b h.1, ih y h.2]

def sameA (f : Value → Value → Bool) : Value → Value → Bool
  | .agg a, .agg b => sameL f a.toList b.toList
  | .tuple a, .tuple b => sameL f a.toList b.toList
  | a, b => sameV0 a b

theorem sameA_eq {f : Value → Value → Bool} (hf : ∀ a b, f a b = true → a = b) (a b : Value) (h : sameA f a b = true) : a = b := by
  unfold sameA at h
  split at h
  · rw [Array.toList_inj.mp (sameL_eq hf _ _ h)]
  · rw [Array.toList_inj.mp (sameL_eq hf _ _ h)]
  · exact sameV0_eq h

def sameV (a b : Value) : Bool := sameA (sameA sameV0) a b

theorem sameV_eq (a b : Value) (h : sameV a b = true) : a = b := sameA_eq (fun a b => sameA_eq (fun _ _ h => sameV0_eq h) a b) a b h

/-- Calls' answers, by function. -/
def lookK (args : List Value) : List (List Value × Value) → Option Value
  | [] => none
  | (a, v) :: l => match sameL sameV a args with
    | true => some v
    | false => lookK args l

theorem lookK_mem {args : List Value} {v : Value} : ∀ {l : List (List Value × Value)}, lookK args l = some v → (args, v) ∈ l := by
  intro l
  induction l with
  | nil => intro h; simp [lookK] at h
  | cons p l ih =>
    intro h
    obtain ⟨a, x⟩ := p
    simp only [lookK] at h
    split at h
    · rename_i hs
      cases h
      rw [sameL_eq sameV_eq _ _ hs]
      exact List.mem_cons_self
    · exact List.mem_cons_of_mem _ (ih h)

abbrev KTab := Tr (List (List Value × Value))

def KTab.OK (P : Program) (K : KTab) : Prop := ∀ k l, K.get k = some l → (∃ fn c, P.funcs[k]? = some fn ∧ fn.body = some c) ∧ ∀ args v, (args, v) ∈ l → args.all (scal 4) = true ∧ scal 4 v = true ∧ Known P k args v

def kSums (K : KTab) (S : Sums) : Sums := fun k => match K.get k with
  | some l => some fun args H => match lookK args l with
    | some v => some (v, H)
    | none => none
  | none => S k

theorem kSums_ok (hn : Named P) {K : KTab} (hK : KTab.OK P K) {S : Sums} (hS : SumOK P S) : SumOK P (kSums K S) := by
  intro k g hg args H va H' h wf
  unfold kSums at hg
  split at hg
  · rename_i l hl
    cases hg
    obtain ⟨⟨fn, c, hfn, hb⟩, hall⟩ := hK k l hl
    simp only at h
    split at h
    · rename_i v hv
      cases h
      obtain ⟨h1, h2, h3⟩ := hall args va (lookK_mem hv)
      refine ⟨HX.refl wf, fun β w args' fr cs hr hf hgl ha hp => ?_⟩
      have he : args' = args.toArray := Array.toList_inj.mp (by rw [VRs_scal_eq args _ h1 ha])
      subst he
      have hsz : P.globals.size ≤ w.heap.size := by
        by_cases k0 : P.globals.size = 0
        · omega
        · obtain ⟨I, hI, hb, _⟩ := hgl (P.globals.size - 1) (by omega)
          have := hr.bnd _ I hI
          omega
      refine goes_of_calls hn hfn hb (h3 w hsz) ?_ hp
      rintro e w' ⟨rfl, hG⟩
      refine ⟨va, rfl, β, VR.refl_of_scal 4 va h2, ⟨fun n o e => ?_, hr.inj, fun n I e => Nat.lt_of_lt_of_le (hr.bnd n I e) hG.size⟩, ⟨Ren.le_refl _, fun n h => absurd rfl h, fun n I h k => (by rw [h] at k; cases k), fun B hB _ => hG.keep B hB, hG.size, hG.tape, hG.os, hG.output⟩⟩
      obtain ⟨I, o', q1, q2, q3⟩ := hr.obj n o e
      exact ⟨I, o', q1, by rw [hG.keep I.blk (hr.bnd n I q1)]; exact q2, q3⟩
    · cases h
  · exact hS k g hg args H va H' h wf

theorem noSums : SumOK P (fun _ => none) := fun k g h => by cases h

/-- Answers, reckoned. -/
def knownAll (F : Tr AFunc) (ev : EvA) (P : Program) (k : Nat) : List (List Value × Value) → Bool
  | [] => true
  | (a, v) :: l => match known? F ev P k a with
    | some v' => sameV v' v && knownAll F ev P k l
    | none => false

theorem known?_scal {F : Tr AFunc} {ev : EvA} {k : Nat} {args : List Value} {v : Value} (h : known? F ev P k args = some v) : args.all (scal 4) = true ∧ scal 4 v = true := by
  unfold known? at h
  split at h
  · rename_i hall hcall
    split at h
    · rename_i hs; cases h; exact ⟨hall, hs⟩
    · cases h
  · cases h

/-- What is to be known of a function's answers. -/
def AllKnown (P : Program) (k : Nat) (l : List (List Value × Value)) : Prop := ∀ args v, (args, v) ∈ l → args.all (scal 4) = true ∧ scal 4 v = true ∧ Known P k args v

theorem allKnown_of {Y : Tr TypeInfo} (hY : TyOK P Y) {F : Tr AFunc} (hF : TabOK P Y F) {ev : EvA} (hev : EvOK P Y ev) {k : Nat} : ∀ {l : List (List Value × Value)}, knownAll F ev P k l = true → AllKnown P k l := by
  intro l
  induction l with
  | nil => intro _ args v h; cases h
  | cons p l ih =>
    intro h args v hm
    obtain ⟨a, x⟩ := p
    simp only [knownAll] at h
    split at h
    · rename_i v' hv
      rw [Bool.and_eq_true] at h
      have e := sameV_eq _ _ h.1
      subst e
      rcases List.mem_cons.mp hm with hm | hm
      · cases hm
        exact ⟨(known?_scal hv).1, (known?_scal hv).2, known_of hY hF hev hv⟩
      · exact ih h.2 args v hm
    · cases h

theorem AllKnown.append {k : Nat} {a b : List (List Value × Value)} (h : AllKnown P k a) (h' : AllKnown P k b) : AllKnown P k (a ++ b) := by
  intro args v hm
  rcases List.mem_append.mp hm with hm | hm
  · exact h args v hm
  · exact h' args v hm

theorem KTab.none_ok : KTab.OK P (.leaf : KTab) := fun k l h => by rw [get_leaf] at h; cases h

theorem KTab.set_ok {K : KTab} (h : KTab.OK P K) {k : Nat} {l : List (List Value × Value)} (hb : ((P.funcs[k]?).bind (·.body)).isSome = true) (hl : AllKnown P k l) : KTab.OK P (K.set k (some l) : KTab) := by
  intro k' l' hg
  by_cases e : k' = k
  · subst e
    have hg2 : some l = some l' := by rw [← Tr.get_set_same K k' (some l)]; exact hg
    have e2 : l = l' := Option.some.inj hg2
    subst e2
    refine ⟨?_, hl⟩
    cases hf : P.funcs[k']? with
    | none => rw [hf] at hb; cases hb
    | some fn =>
      rw [hf] at hb
      cases hc : fn.body with
      | none => simp [hc] at hb
      | some c => exact ⟨fn, c, rfl, hc⟩
  · have hg2 : K.get k' = some l' := by rw [← Tr.get_set_ne K k (some l) k' e]; exact hg
    exact h k' l' hg2

/-- The engine, for a program whose functions bear no name of the machine's own, and whose orders are mixed. -/
theorem ev_ok (hmix : P.follows .mixedOrders = true) (hn : Named P) {S : Sums} (hS : SumOK P S) (n : Nat) : EvOK P (mkTr 0 P.types.toList .leaf) (evC (mkF P (mkTr 0 P.types.toList .leaf) 0 P.funcs.toList .leaf) S n) :=
  evC_ok tyOK_mk (compOK tyOK_mk) (drawOK tyOK_mk hmix) (tabOK_mk hn _) hS n

end

end Go.Proofs.YtlbmihpmcgiinaaGreatDoor.Own
end

/- The engine, part 23: functions without a body. -/
section
namespace Go.Proofs.YtlbmihpmcgiinaaGreatDoor.Own
open Go

section
variable {P : Program}

/-- A function of the model's own table. -/
structure Ext (P : Program) (k : FuncId) (e : Array Value → Sem Value) : Prop where
  ex : ∃ fn, P.funcs[k]? = some fn ∧ (fn.name == "runtime.NumGoroutine") = false ∧ fn.body.isNone = true ∧ Extern.findNext fn = none ∧ Extern.find fn = some e

theorem Ext.run {k : FuncId} {e : Array Value → Sem Value} (h : Ext P k e) {args : Array Value} {w w' : World} {v : Value} (he : (e args).run P w = .ok v w') : (callFunc k args).run P w = .ok (.value v) w' := by
  obtain ⟨fn, h1, h2, h3, h4, h5⟩ := h.ex
  unfold callFunc
  simp only [Sem.run_bind, run_program, Result.andThen_ok, h1, h2, h3, h4, h5]
  simp [mark, Sem.run, he]

def sums1 (k : Nat) (g : List Value → AH → Option (Value × AH)) (S : Sums) : Sums := fun j => match Nat.beq j k with
  | true => some g
  | false => S j

theorem sums1_ok {k : Nat} {g : List Value → AH → Option (Value × AH)} {S : Sums} (hS : SumOK P S)
    (h : ∀ (args : List Value) (H : AH) (va : Value) (H' : AH), g args H = some (va, H') → WF H →
      HX H H' ∧ ∀ (β : Ren) (w : World) (args' : Array Value) (fr : Frame) (cs : List Frame), Rep β H.get w → Free β H.ctr H'.ctr → GlobOK P β → VRs β args args'.toList → Plain fr → Goes P (callFunc k args') fr cs w (Post β H H' w va)) :
    SumOK P (sums1 k g S) := by
  intro j g' hg
  unfold sums1 at hg
  split at hg
  · rename_i hj
    cases hg
    have : j = k := Nat.eq_of_beq_eq_true hj
    subst this
    exact h
  · exact hS j g' hg

theorem post_still {β : Ren} {H : AH} {w : World} {va v : Value} (hr : Rep β H.get w) (hv : VR β va v) : Post β H H w va v w := ⟨β, hv, hr, Ev.refl _ _ _ _ _⟩

theorem same_ok {k : Nat} (hE : Ext P k Extern.AbiNoEscape.same) (args : List Value) (H : AH) (va : Value) (H' : AH) (h : sumSame args H = some (va, H')) (wf : WF H) :
    HX H H' ∧ ∀ (β : Ren) (w : World) (args' : Array Value) (fr : Frame) (cs : List Frame), Rep β H.get w → Free β H.ctr H'.ctr → GlobOK P β → VRs β args args'.toList → Plain fr → Goes P (callFunc k args') fr cs w (Post β H H' w va) := by
  unfold sumSame at h
  split at h
  · rename_i x
    cases h
    refine ⟨HX.refl wf, fun β w args' fr cs hr _ _ ha _ => ?_⟩
    obtain ⟨y, m, hm, h1, h2⟩ := ha.head
    rw [h2.nil_inv] at hm
    have e : args' = #[y] := arr1 hm
    subst e
    exact goes_value (hE.run (show (Extern.AbiNoEscape.same #[y]).run P w = .ok y w from rfl)) (.inl rfl) (post_still hr h1)
  · cases h

theorem cells_of {β : Ren} {n : Nat} {I : BI} {c : List Value} {e : TypeId} {z : Nat} {o' : Obj} (h : OR β n I (.cells c e false z) o') : ∃ c' fz, o' = .cells c' e fz ∧ fz.2 ≤ fz.1 := by
  cases h with
  | cells a b d f => exact ⟨_, _, rfl, d rfl⟩

theorem overlaps_ok {k : Nat} {ps rs : Array TypeId} {t e0 : TypeId} {i : TypeInfo} (hE : Ext P k (Extern.SlicesOverlaps.overlaps ps rs)) (hp : ps[0]? = some t) (ht : P.underlying t = some (.slice e0)) (hi : P.info? e0 = some i)
    (args : List Value) (H : AH) (va : Value) (H' : AH) (h : sumOverlaps i.size args H = some (va, H')) (wf : WF H) :
    HX H H' ∧ ∀ (β : Ren) (w : World) (args' : Array Value) (fr : Frame) (cs : List Frame), Rep β H.get w → Free β H.ctr H'.ctr → GlobOK P β → VRs β args args'.toList → Plain fr → Goes P (callFunc k args') fr cs w (Post β H H' w va) := by
  have hdef : ∀ (a b : Option Addr) (la lb ca cb : Nat), Extern.SlicesOverlaps.overlaps ps rs #[.slice a la ca, .slice b lb cb] = (do
      let some t := ps[0]? | stuck _
      let .slice elem ← underlying t | stuck _
      let size ← sizeOf elem
      match a, b with
      | some a, some b =>
        if la = 0 ∨ lb = 0 ∨ size = 0 then pure (.bool false)
        else if a.block != b.block && (← frozen a) && (← frozen b) then unsupported _
        else do
          if a.block != b.block then do
            noView a; noView b
            if ← mayBeOne a b then return .bool ((← choose _) == 1)
          pure (.bool (a.block == b.block && a.off < b.off + lb * size && b.off < a.off + la * size))
      | _, _ => pure (.bool false)) := fun a b la lb ca cb => rfl
  have two : ∀ {x y : Value} {args' : Array Value} {β : Ren}, VRs β [x, y] args'.toList → ∃ x' y', args' = #[x', y'] ∧ VR β x x' ∧ VR β y y' := by
    intro x y args' β ha
    obtain ⟨x', m, hm, h1, h2⟩ := ha.head
    obtain ⟨y', m', rfl, h3, h4⟩ := h2.head
    rw [h4.nil_inv] at hm
    exact ⟨x', y', arr2 hm, h1, h3⟩
  unfold sumOverlaps at h
  split at h
  · rename_i a la ca b lb cb
    split at h
    · rename_i h0
      cases h
      refine ⟨HX.refl wf, fun β w args' fr cs hr _ _ ha _ => ?_⟩
      obtain ⟨x', y', rfl, h1, h2⟩ := two ha
      obtain ⟨a', ca', hx, _⟩ := bounds_slice h1
      obtain ⟨b', cb', hy, _⟩ := bounds_slice h2
      subst hx; subst hy
      refine goes_value (hE.run (v := .bool false) (w' := w) ?_) (.inl rfl) (post_still hr (.bool _))
      rw [hdef, hp]
      simp [run_under w ht, run_size w hi, h0]
    · rename_i h0
      split at h
      · rename_i hsa hsb
        split at h
        · rename_i hab
          cases h
          refine ⟨HX.refl wf, fun β w args' fr cs hr _ _ ha _ => ?_⟩
          obtain ⟨x', y', rfl, h1, h2⟩ := two ha
          rcases h1.slice_addr with ⟨n, p, rfl⟩ | ⟨rfl, _⟩
          · rcases h2.slice_addr with ⟨m, q, rfl⟩ | ⟨rfl, _⟩
            · obtain ⟨I, c1, hI, hv1, _⟩ := h1.slice_inv
              obtain ⟨J, c2, hJ, hv2, _⟩ := h2.slice_inv
              have hnm : n = m := hab
              subst hnm
              rw [hI] at hJ; cases hJ
              subst hv1; subst hv2
              refine goes_value (hE.run (v := .bool (decide (p < q + lb * i.size) && decide (q < p + la * i.size))) (w' := w) ?_) (.inl rfl) (post_still hr (.bool _))
              rw [hdef, hp]
              have e1 : (p + I.shift < q + I.shift + lb * i.size) ↔ (p < q + lb * i.size) := by omega
              have e2 : (q + I.shift < p + I.shift + la * i.size) ↔ (q < p + la * i.size) := by omega
              simp [run_under w ht, run_size w hi, h0, e1, e2]
            · simp at hsb
          · simp at hsa
        · rename_i hab
          split at h
          · rename_i c1 e1 z1 c2 e2 z2 hg1 hg2
            cases h
            refine ⟨HX.refl wf, fun β w args' fr cs hr _ _ ha _ => ?_⟩
            obtain ⟨x', y', rfl, h1, h2⟩ := two ha
            rcases h1.slice_addr with ⟨n, p, rfl⟩ | ⟨rfl, _⟩
            · rcases h2.slice_addr with ⟨m, q, rfl⟩ | ⟨rfl, _⟩
              · obtain ⟨I, c1', hI, hv1, _⟩ := h1.slice_inv
                obtain ⟨J, c2', hJ, hv2, _⟩ := h2.slice_inv
                subst hv1; subst hv2
                obtain ⟨I', o1, hb1, hw1, hor1⟩ := hr.obj n _ hg1
                rw [hI] at hb1; cases hb1
                obtain ⟨J', o2, hb2, hw2, hor2⟩ := hr.obj m _ hg2
                rw [hJ] at hb2; cases hb2
                obtain ⟨d1, f1, rfl, hf1⟩ := cells_of hor1
                obtain ⟨d2, f2, rfl, hf2⟩ := cells_of hor2
                have hne : I.blk ≠ J.blk := by
                  intro e
                  exact hab (hr.inj n m I J (by rw [hg1]; rfl) (by rw [hg2]; rfl) hI hJ e)
                refine goes_value (hE.run (v := .bool false) (w' := w) ?_) (.inl rfl) (post_still hr (.bool _))
                have z1 : ∀ (x : Nat) (s : Option Nat), w.frozen? ⟨I.blk, x, s⟩ = false := fun x s => frozen_of hw1 hf1 x s
                have z2 : ∀ (x : Nat) (s : Option Nat), w.frozen? ⟨J.blk, x, s⟩ = false := fun x s => frozen_of hw2 hf2 x s
                rw [hdef, hp]
                simp [run_under w ht, run_size w hi, h0, hne, z1, z2, noView, viewAt, shape_of hw1, shape_of hw2, mayBeOne, stringish]
              · simp at hsb
            · simp at hsa
          · cases h
      · cases h
  · cases h
    refine ⟨HX.refl wf, fun β w args' fr cs hr _ _ ha _ => ?_⟩
    obtain ⟨x', y', rfl, h1, h2⟩ := two ha
    obtain ⟨hx, _⟩ := h1.snil_inv
    subst hx
    refine goes_value (hE.run (v := .bool false) (w' := w) ?_) (.inl rfl) (post_still hr (.bool _))
    cases h2 <;> (rw [hdef, hp]; simp [run_under w ht, run_size w hi])
  · rename_i a la ca lb cb
    cases h
    refine ⟨HX.refl wf, fun β w args' fr cs hr _ _ ha _ => ?_⟩
    obtain ⟨x', y', rfl, h1, h2⟩ := two ha
    obtain ⟨hy, _⟩ := h2.snil_inv
    obtain ⟨a', ca', hx, _⟩ := bounds_slice h1
    subst hx; subst hy
    refine goes_value (hE.run (v := .bool false) (w' := w) ?_) (.inl rfl) (post_still hr (.bool _))
    rw [hdef, hp]
    simp [run_under w ht, run_size w hi]
  · cases h

theorem find_congr {α : Type} {p q : α → Bool} : ∀ {l : List α}, (∀ x ∈ l, p x = q x) → l.find? p = l.find? q := by
  intro l
  induction l with
  | nil => intro _; rfl
  | cons x l ih =>
    intro h
    simp only [List.find?_cons]
    rw [h x (List.mem_cons_self), ih (fun y hy => h y (List.mem_cons_of_mem _ hy))]

theorem find_index (l : List UInt8) (c : UInt8) : ∀ (i : Nat), indexB l c i = match (List.range' i l.length).find? (fun j => (l[j - i]?).getD 0 == c) with | some j => (j : Int) | none => -1 := by
  induction l with
  | nil => intro i; rfl
  | cons b l ih =>
    intro i
    simp only [indexB, List.length_cons, List.range'_succ, List.find?_cons, Nat.sub_self, List.getElem?_cons_zero, Option.getD_some]
    cases hb : b == c with
    | true => simp
    | false =>
      simp only [Bool.false_eq_true, if_false]
      rw [ih (i + 1)]
      have : (List.range' (i + 1) l.length).find? (fun j => (l[j - (i + 1)]?).getD 0 == c) = (List.range' (i + 1) l.length).find? (fun j => ((b :: l)[j - i]?).getD 0 == c) := by
        apply find_congr
        intro j hj
        rw [List.mem_range'_1] at hj
        rw [show j - i = (j - (i + 1)) + 1 from by omega, List.getElem?_cons_succ]
      rw [this]

theorem indexByte_ok {k : Nat} (hE : Ext P k Extern.BytealgIndexByte.indexByte) (args : List Value) (H : AH) (va : Value) (H' : AH) (h : sumIndexByte args H = some (va, H')) (wf : WF H) :
    HX H H' ∧ ∀ (β : Ren) (w : World) (args' : Array Value) (fr : Frame) (cs : List Frame), Rep β H.get w → Free β H.ctr H'.ctr → GlobOK P β → VRs β args args'.toList → Plain fr → Goes P (callFunc k args') fr cs w (Post β H H' w va) := by
  unfold sumIndexByte at h
  split at h
  · rename_i s c
    split at h
    · rename_i hc
      cases h
      refine ⟨HX.refl wf, fun β w args' fr cs hr _ _ ha _ => ?_⟩
      obtain ⟨x', m, hm, h1, h2⟩ := ha.head
      obtain ⟨y', m', rfl, h3, h4⟩ := h2.head
      rw [h4.nil_inv] at hm
      have e := arr2 hm
      rw [h1.str_inv, h3.int_inv] at e
      subst e
      refine goes_value (hE.run (v := .int .i64 (indexB s.data.toList (UInt8.ofNat c) 0)) (w' := w) ?_) (.inl rfl) (post_still hr (.int _ _))
      have hdef : Extern.BytealgIndexByte.indexByte #[.string s, .int .u8 (.ofNat c)] = (do
          let b ← Extern.Bytes.bytesOf (.string s)
          let c ← Extern.Bytes.asByte (.int .u8 (.ofNat c))
          match (List.range b.size).find? fun i => b[i]! == c with
          | some i => pure (goInt i)
          | none => pure (goInt (-1))) := rfl
      rw [hdef]
      have hb : (Extern.Bytes.bytesOf (.string s)).run P w = .ok s w := rfl
      have hcc : (Extern.Bytes.asByte (.int .u8 (.ofNat c))).run P w = .ok (UInt8.ofNat c) w := by
        have : c < 256 := by simpa using hc
        simp [Extern.Bytes.asByte]
      simp only [Sem.run_bind, hb, hcc, Result.andThen_ok]
      have hfind : (List.range s.size).find? (fun i => s[i]! == UInt8.ofNat c) = (List.range' 0 s.data.toList.length).find? (fun j => (s.data.toList[j - 0]?).getD 0 == UInt8.ofNat c) := by
        rw [List.range_eq_range']
        rw [show s.size = s.data.toList.length from by rw [Array.length_toList]; rfl]
        apply find_congr
        intro j hj
        rw [List.mem_range'_1] at hj
        have hlt : j < s.data.size := by simpa using hj.2
        simp only [Nat.sub_zero, Array.getElem?_toList]
        rw [Array.getElem?_eq_getElem hlt]
        simp only [Option.getD_some]
        have : s[j]! = s.data[j] := by rw [getElem!_pos s j hlt]; rfl
        rw [this]
      rw [hfind, find_index]
      cases (List.range' 0 s.data.toList.length).find? (fun j => (s.data.toList[j - 0]?).getD 0 == UInt8.ofNat c) <;> rfl
    · cases h
  · cases h

end

end Go.Proofs.YtlbmihpmcgiinaaGreatDoor.Own
end
