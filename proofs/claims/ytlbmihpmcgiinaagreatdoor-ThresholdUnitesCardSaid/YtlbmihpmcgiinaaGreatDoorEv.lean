/- The engine, part 12: the evaluator as a whole. -/
import Derived.Test.YtlbmihpmcgiinaaGreatDoorEngD
namespace Go.Proofs.YtlbmihpmcgiinaaGreatDoor.Own
open Go

section
variable {P : Program} {Y : Tr TypeInfo}

/-! ## What compiled code comes from -/
theorem comp_reg {nt : Nat} {code : Code} {l : List AOper} (h : comp P Y nt code = some (.reg l)) : ∃ id ops, code = .region id ops false ∧ compOpers P Y nt ops #[] 0 ops.toList = some l := by
  cases code with
  | region id ops d =>
    cases d with
    | true => simp only [comp] at h <;> (repeat' split at h) <;> cases h
    | false =>
      simp only [comp] at h
      split at h
      · rename_i m hm
        cases h
        exact ⟨id, ops, rfl, by simpa using hm⟩
      · cases h
  | _ => all_goals (simp only [comp] at h <;> (repeat' split at h) <;> cases h)

theorem comp_draw {nt : Nat} {code : Code} {l : List AOper} (h : comp P Y nt code = some (.draw l)) : ∃ id ops m, code = .region id ops true ∧ compOpers P Y nt ops (Region.before ops) 0 ops.toList = some m ∧ drawOk m = true ∧ l = setSolo m 0 m := by
  cases code with
  | region id ops d =>
    cases d with
    | false => simp only [comp] at h; split at h <;> cases h
    | true =>
      simp only [comp] at h
      split at h
      · rename_i m hm
        split at h
        · rename_i hd
          cases h
          exact ⟨id, ops, m, rfl, by simpa using hm, hd, rfl⟩
        · cases h
      · cases h
  | _ => all_goals (simp only [comp] at h <;> (repeat' split at h) <;> cases h)

theorem comp_skip {nt : Nat} {code : Code} (h : comp P Y nt code = some .skip) : code = .skip := by
  cases code with
  | skip => rfl
  | region id ops d => cases d <;> (simp only [comp] at h <;> (repeat' split at h) <;> cases h)
  | _ => all_goals (simp only [comp] at h <;> (repeat' split at h) <;> cases h)

theorem comp_seq {nt : Nat} {code : Code} {a b : ACode} (h : comp P Y nt code = some (.seq a b)) : ∃ x y, code = .seq x y ∧ comp P Y nt x = some a ∧ comp P Y nt y = some b := by
  cases code with
  | seq x y =>
    simp only [comp] at h
    split at h
    · rename_i a' b' h1 h2
      cases h
      exact ⟨x, y, rfl, h1, h2⟩
    · cases h
  | region id ops d => cases d <;> (simp only [comp] at h <;> (repeat' split at h) <;> cases h)
  | _ => all_goals (simp only [comp] at h <;> (repeat' split at h) <;> cases h)

theorem comp_cond {nt : Nat} {code : Code} {c : Operand} {a b : ACode} (h : comp P Y nt code = some (.cond c a b)) : ∃ x y, code = .cond c x y ∧ okOpd P.globals.size c = true ∧ comp P Y nt x = some a ∧ comp P Y nt y = some b := by
  cases code with
  | cond c' x y =>
    simp only [comp] at h
    split at h
    · rename_i a' b' h0 h1 h2
      cases h
      exact ⟨x, y, rfl, h0, h1, h2⟩
    · cases h
  | region id ops d => cases d <;> (simp only [comp] at h <;> (repeat' split at h) <;> cases h)
  | _ => all_goals (simp only [comp] at h <;> (repeat' split at h) <;> cases h)

theorem comp_block {nt : Nat} {code : Code} {id : Nat} {a : ACode} (h : comp P Y nt code = some (.block id a)) : ∃ x, code = .block id x ∧ comp P Y nt x = some a := by
  cases code with
  | block id' x =>
    simp only [comp] at h
    split at h
    · rename_i a' h1
      cases h
      exact ⟨x, rfl, h1⟩
    · cases h
  | region id ops d => cases d <;> (simp only [comp] at h <;> (repeat' split at h) <;> cases h)
  | _ => all_goals (simp only [comp] at h <;> (repeat' split at h) <;> cases h)

theorem comp_loop {nt : Nat} {code : Code} {a : ACode} (h : comp P Y nt code = some (.loop a)) : ∃ x, code = .loop x ∧ comp P Y nt x = some a := by
  cases code with
  | loop x =>
    simp only [comp] at h
    split at h
    · rename_i a' h1
      cases h
      exact ⟨x, rfl, h1⟩
    · cases h
  | region id ops d => cases d <;> (simp only [comp] at h <;> (repeat' split at h) <;> cases h)
  | _ => all_goals (simp only [comp] at h <;> (repeat' split at h) <;> cases h)

theorem comp_rfun {nt : Nat} {code : Code} {f : Operand} {ps : List Tmp} {a b : ACode} (h : comp P Y nt code = some (.rfun f ps a b)) :
    ∃ q x y, code = .rangeFunc f q x y ∧ q.toList = ps ∧ okOpd P.globals.size f = true ∧ (∀ p ∈ ps, p < nt) ∧ comp P Y nt x = some a ∧ comp P Y nt y = some b := by
  cases code with
  | rangeFunc f' q x y =>
    simp only [comp] at h
    split at h
    · rename_i a' b' h0 hp h1 h2
      cases h
      refine ⟨q, x, y, rfl, rfl, h0, fun p hp' => ?_, h1, h2⟩
      have := List.all_eq_true.mp hp p hp'
      simpa using this
    · cases h
  | region id ops d => cases d <;> (simp only [comp] at h <;> (repeat' split at h) <;> cases h)
  | _ => all_goals (simp only [comp] at h <;> (repeat' split at h) <;> cases h)

theorem comp_exit {nt : Nat} {code : Code} {id : Nat} (h : comp P Y nt code = some (.exit id)) : code = .exit id := by
  cases code with
  | exit i => simp only [comp] at h; cases h; rfl
  | region id ops d => cases d <;> (simp only [comp] at h <;> (repeat' split at h) <;> cases h)
  | _ => all_goals (simp only [comp] at h <;> (repeat' split at h) <;> cases h)

theorem comp_ret {nt : Nat} {code : Code} (h : comp P Y nt code = some .ret) : code = .ret := by
  cases code with
  | ret => rfl
  | region id ops d => cases d <;> (simp only [comp] at h <;> (repeat' split at h) <;> cases h)
  | _ => all_goals (simp only [comp] at h <;> (repeat' split at h) <;> cases h)

/-! ## Compiled regions -/
/-- What is known of each compiled operation. -/
def CompOK (P : Program) (Y : Tr TypeInfo) : Prop := ∀ o a, compOp P Y o = some a → OpGo P Y o a.run

theorem compOK (hY : TyOK P Y) : CompOK P Y := by
  intro o a h
  unfold compOp at h
  split at h
  · cases h
  · split at h
    · rename_i a' hall h0
      cases h
      rcases compOp0_ok hY h0 with h | ⟨c, f, ho, hc, rfl⟩
      · exact OpGo.of_ok h
      · exact OpGo.call ho hc
    · cases h; exact OpGo.of_ok fail_ok
    · cases h

theorem compOp_spec {o : Oper} {a : AOp} (h : compOp P Y o = some a) : (∀ c, o.op ≠ .defer c) ∧ ∀ x ∈ o.op.operands.toList, okOpd P.globals.size x = true := by
  unfold compOp at h
  split at h
  · cases h
  · rename_i hnd
    refine ⟨fun c hc => hnd c hc, ?_⟩
    split at h
    · rename_i hall _; exact List.all_eq_true.mp hall
    · rename_i hall _; exact List.all_eq_true.mp hall
    · cases h

theorem compOper_ok (hC : CompOK P Y) {nt : Nat} {ops : Array Oper} {bf : Array Nat} {i : Nat} {o : Oper} {a : AOper} (h : compOper P Y nt ops bf i o = some a) :
    OperOK P Y ops nt o a ∧ (∀ c, o.op ≠ .defer c) ∧ a.preds = bf.getD i 0 := by
  unfold compOper at h
  split at h
  · rename_i op hop hdst
    obtain ⟨h1, h2⟩ := compOp_spec hop
    have hlt : ∀ d, o.dst = some d → d < nt := by
      intro d hd
      rw [hd] at hdst
      simpa using hdst
    split at h
    · rename_i hg
      cases h
      exact ⟨⟨rfl, hlt, hC o op hop, h2, by rw [hg]⟩, h1, rfl⟩
    · rename_i j b hg
      split at h
      · rename_i d hd
        split at h
        · rename_i hdlt
          cases h
          exact ⟨⟨rfl, hlt, hC o op hop, h2, by rw [hg]; exact ⟨d, hd, rfl, by simpa using hdlt⟩⟩, h1, rfl⟩
        · cases h
      · cases h
  · cases h

theorem compOpers_ok (hC : CompOK P Y) {nt : Nat} {ops : Array Oper} {bf : Array Nat} : ∀ (os : List Oper) (i : Nat) (l : List AOper), compOpers P Y nt ops bf i os = some l → (∀ j, os[j]? = ops[i + j]?) → i + os.length = ops.size →
    OpersOK P Y ops nt i l ∧ ∀ (j : Nat) (a : AOper), l[j]? = some a → a.preds = bf.getD (i + j) 0 := by
  intro os
  induction os with
  | nil =>
    intro i l h _ hs
    simp only [compOpers] at h; cases h
    exact ⟨⟨by simpa using hs, fun j a e => by simp at e⟩, fun j a e => by simp at e⟩
  | cons o os ih =>
    intro i l h hi hs
    simp only [compOpers] at h
    split at h
    · rename_i a m h1 h2
      cases h
      obtain ⟨q1, q2⟩ := ih (i + 1) m h2 (fun j => by rw [show i + 1 + j = i + (j + 1) from by omega, ← hi (j + 1)]; simp) (by simp only [List.length_cons] at hs; omega)
      obtain ⟨k1, k2, k3⟩ := compOper_ok hC h1
      have h0 : ops[i]? = some o := by rw [← Nat.add_zero i, ← hi 0]; simp
      refine ⟨⟨by have := q1.1; simp only [List.length_cons]; omega, fun j b e => ?_⟩, fun j b e => ?_⟩
      · cases j with
        | zero => simp at e; subst e; exact ⟨o, by simpa using h0, k1, k2⟩
        | succ j =>
          obtain ⟨o', e1, e2⟩ := q1.2 j b (by simpa using e)
          exact ⟨o', by rw [show i + (j + 1) = i + 1 + j from by omega]; exact e1, e2⟩
      · cases j with
        | zero => simp at e; subst e; simpa using k3
        | succ j => rw [show i + (j + 1) = i + 1 + j from by omega]; exact q2 j b (by simpa using e)
    · cases h

/-- What is to be known of regions that draw their order. -/
def DrawOK (P : Program) (Y : Tr TypeInfo) : Prop :=
  ∀ (env : List LoopE) (call : CallA), CallOK P Y env call → ∀ (ops : Array Oper) (nt : Nat) (m : List AOper), compOpers P Y nt ops (Region.before ops) 0 ops.toList = some m → drawOk m = true →
    ∀ (T : Tr Value) (H : AH) (T' : Tr Value) (H' : AH), evDraw0 call (setSolo m 0 m) T H = some (T', H') → WF H →
    HX H H' ∧ ∀ (β : Ren) (w : World) (fr : Frame) (k : List Item) (cs : List Frame) (id : Nat), Rep β H.get w → Free β H.ctr H'.ctr → GlobOK P β → EnvOK P Y β env → TR β T fr.tmps → nt ≤ fr.tmps.size → fr.mode = .run →
      fr.todo = .code (.region id ops true) :: k →
      ∃ β' w' tmps', Steps P (lone fr cs w) (lone { fr with tmps := tmps', todo := k } cs w') ∧ tmps'.size = fr.tmps.size ∧ TR β' T' tmps' ∧ Rep β' H'.get w' ∧ Ev β H.get H.ro H.ctr w β' H'.ctr w'

/-! ## One step of the evaluator -/
theorem begins_plain {m : Machine} {fr : Frame} {c : Code} {k : List Item} {cs : List Frame} {w : World} (h : Begins m fr c k cs w) (hn : ∀ b, c ≠ .loop b) : m = lone { fr with todo := .code c :: k } cs w := by
  rcases h with h | ⟨b, h, _⟩
  · exact h
  · exact absurd h (hn b)

theorem frame_same (fr : Frame) (k : List Item) : ({ fr with todo := k, tmps := fr.tmps, defers := [] ++ fr.defers } : Frame) = { fr with todo := k } := rfl

theorem rfun_ok (hY : TyOK P Y) {F : Tr AFunc} (hF : TabOK P Y F) {S : Sums} (hS : SumOK P S) {ev : EvA} (hev : EvOK P Y ev) {env : List LoopE} {rnd : Option Nat} {f : Operand} {ps : List Tmp} {a b : ACode} {T : Tr Value} {H : AH} {out : Out} {T' : Tr Value} {H' : AH}
    (henv : EnvC P Y env) (hca : Comp P Y a) (hcb : Comp P Y b) (h : evRfun F S ev env rnd f ps a b T H = some (out, T', H')) (wf : WF H) :
    HX H H' ∧ ∀ (β : Ren) (w : World) (fr : Frame) (k : List Item) (cs : List Frame) (q : Array Tmp) (x y : Code) (nt : Nat), q.toList = ps → okOpd P.globals.size f = true → (∀ p ∈ ps, p < nt) → comp P Y nt x = some a → comp P Y nt y = some b →
      Rep β H.get w → Free β H.ctr H'.ctr → Ctx P Y β env rnd fr → TR β T fr.tmps → nt ≤ fr.tmps.size →
      ∃ β' w' tmps' D, Reach P (lone { fr with todo := .code (.rangeFunc f q x y) :: k } cs w) fr k cs out tmps' D w' ∧ tmps'.size = fr.tmps.size ∧ TR β' T' tmps' ∧ Rep β' H'.get w' ∧ Ev β H.get H.ro H.ctr w β' H'.ctr w' ∧ Marks β' w' D ∧
        (∀ d ∈ D, ∀ B, d.target = .collected B → w.heap.size ≤ B) ∧ (rnd ≠ none → D = []) := by
  unfold evRfun at h
  split at h
  · cases h
  · rename_i hrnd
    cases hnew : H.new false (.loop .ready none) with
    | mk l H1 =>
      rw [hnew] at h
      simp only at h
      split at h
      · rename_i v0 H2 hcall
        obtain ⟨x1, x1c, x1g, x1a, x1b, x1p, x1o, x1r⟩ := new_rep wf false _ hnew
        obtain ⟨x2, y2⟩ := callA_ok hY hF hS hev (env := ⟨l, T, ps, a, b⟩ :: env) (fun e he => by
          rcases List.mem_cons.mp he with rfl | he
          · exact ⟨hca, hcb⟩
          · exact henv e he) _ _ _ _ _ hcall x1.wf
        obtain ⟨x3, x3c, rfl, y3⟩ := endLoop_ok (P := P) x2.wf h
        refine ⟨x1.trans (x2.trans x3), fun β w fr k cs q x y nt hq hof hps hx hy hr hf hctx ht hn => ?_⟩
        -- the block of marks, where the frame is no round; which deferred block the loop names
        have A : ∃ w0 defers mark, Rep β H.get w0 ∧ Ev β H.get H.ro H.ctr w β H.ctr w0 ∧
            (∀ (hs : w0.heap.size = w0.heap.size), (Instr.enterLoop fr.fn fr.tmps q x y fr.roundOf).run P w = .ok (w0.heap.size, mark) { w0 with heap := w0.heap.push (.loop { state := .ready, pending := none, fn := fr.fn, tmps := fr.tmps, params := q, assign := x, body := y, defers := defers }) }) ∧
            Marks β w0 mark ∧ (∀ d ∈ mark, ∀ B, d.target = .collected B → w.heap.size ≤ B) ∧ (rnd ≠ none → mark = []) := by
          have hround := hctx.round
          cases rnd with
          | none =>
            simp only at hround
            obtain ⟨g1, g2⟩ := push_ghost hr H.ro H.ctr (.deferred (some []))
            refine ⟨_, w.heap.size, [{ target := .collected w.heap.size, args := #[] }], g1, g2, fun _ => ?_, ⟨⟨w.heap.size, rfl, by simp, fun n I hI => ?_, fun e he => by simp at he⟩, trivial⟩, fun d hd B hB => ?_, fun h => absurd rfl h⟩
            · simp only [Instr.enterLoop, hround, Sem.run_bind, run_newObj, Result.andThen_ok, Sem.run_pure]
            · have := hr.bnd n I hI; omega
            · simp at hd; subst hd; cases hB; exact Nat.le_refl _
          | some l0 =>
            obtain ⟨I0, hI0, hro⟩ := hround
            simp only at hrnd
            split at hrnd
            · rename_i st0 p0 hg0
              obtain ⟨J, o', k1, k2, k3⟩ := hr.obj l0 _ hg0
              rw [hI0] at k1; cases k1
              cases k3 with
              | @loop _ _ L0 e0 =>
                refine ⟨w, L0.defers, [], hr, Ev.refl _ _ _ _ _, fun _ => ?_, trivial, fun d hd => by simp at hd, fun _ => rfl⟩
                simp only [Instr.enterLoop, hro, Sem.run_bind, run_getLoop k2, Result.andThen_ok, Sem.run_pure, run_newObj]
            · cases hrnd
        obtain ⟨w0, defers, mark, a1, a2, a3, a4, a5, a6⟩ := A
        have a3 := a3 rfl
        let L : LoopS := ⟨fr.fn, fr.tmps, q, x, y, defers⟩
        let I : BI := ⟨w0.heap.size, 0, 0, 0, some L⟩
        let w1 : World := { w0 with heap := w0.heap.push (.loop { state := .ready, pending := none, fn := fr.fn, tmps := fr.tmps, params := q, assign := x, body := y, defers := defers }) }
        have hf1 : Free β H.ctr H1.ctr := hf.left (by have := x2.ctr; have := x3.ctr; omega)
        obtain ⟨b1, b2⟩ := x1r β w0 w1 _ I a1 hf1 (pushed_alloc w0 _) rfl (OR.loop (L := L) rfl)
        have hle := b2.le
        have hIl : β.ext l I l = some I := Ren.ext_same _ _ _
        have e12 : Ev β H.get H.ro H.ctr w (β.ext l I) H1.ctr w1 := Ev.trans a2 (HX.refl wf) b2 hf1 x1.ctr
        have hf2 : Free (β.ext l I) H1.ctr H'.ctr := hf.right e12 x1.ctr
        let fr1 : Frame := { fr with todo := .inRangeFunc w0.heap.size :: k, defers := mark ++ fr.defers }
        have hgo := y2 (β.ext l I) w1 (fr1.eval f) #[.func (.yield w0.heap.size) #[] #[]] fr1 cs b1 (hf2.left (by have := x3.ctr; omega)) (hctx.glob.mono hle)
          (fun e he => by
            rcases List.mem_cons.mp he with rfl | he
            · exact ⟨I, L, nt, ⟨hIl, rfl, hq, (ht.mono hle), hn, hps, hx, hy⟩⟩
            · exact (hctx.env.mono hle) e he)
          (eval_ok (fr := fr1) (hctx.glob.mono hle) (ht.mono hle) hof) (.cons (.yield hIl) .nil) (.inr ⟨_, _, rfl⟩)
        obtain ⟨fr2, cs2, w2, v, w3, s1, s2, β3, q1, q2, q3⟩ := hgo
        have hIl3 := q3.le _ _ hIl
        obtain ⟨w4, z1, z2, z3⟩ := y3 β3 w3 I L q2 hIl3 rfl
        have st1 : step P (lone { fr with todo := .code (.rangeFunc f q x y) :: k } cs w) = .next (lone fr2 cs2 w2) := by
          apply step_lone_go
          have hm := hctx.mode
          have : (stepG P true { frame := { fr with todo := .code (.rangeFunc f q x y) :: k }, callers := cs, status := .running, dying := none } w).bare = (stepG.apply P true fr1 cs none (callSem (fr1.eval f) #[.func (.yield w0.heap.size) #[] #[]]) w1).bare := by
            simp only [stepG, hm, stepG.exec, Sem.runT_eq, a3, GStep.bare_after]
            have hfr1 : fr1 = { fn := fr.fn, tmps := fr.tmps, todo := .inRangeFunc w0.heap.size :: k, defers := mark ++ fr.defers, mode := .run, kind := fr.kind, roundOf := fr.roundOf } := by simp only [fr1, hm]
            have hres : ∀ fr' : Frame, (do let d ← resolve fr'.eval { callee := .value f, args := #[.const (.func (.yield w0.heap.size) #[] #[])], argTypes := #[] } 0; invoke d.target d.args : Sem Next) = callSem (fr'.eval f) #[.func (.yield w0.heap.size) #[] #[]] := by
              intro fr'
              have he : fr'.eval (.const (.func (.yield w0.heap.size) #[] #[])) = .func (.yield w0.heap.size) #[] #[] := rfl
              simp [resolve, callSem, he]
            rw [hfr1, hres]
          rw [this]; exact s1
        have hfin : fr1.finish v = { fr1 with todo := .endRangeFunc w0.heap.size :: k } := rfl
        rw [hfin] at s2
        have st2 : step P (lone { fr1 with todo := .endRangeFunc w0.heap.size :: k } cs w3) = .next (lone { fr1 with todo := ((outCode out).map Item.code).toList ++ k } cs w4) := by
          apply step_lone_go
          have hm : fr1.mode = .run := hctx.mode
          have z1' : (Instr.endLoop w0.heap.size).run P w3 = .ok (outCode out) w4 := z1
          simp [stepG, hm, stepG.exec, z1']
        have stt : Steps P (lone { fr with todo := .code (.rangeFunc f q x y) :: k } cs w) (lone { fr1 with todo := ((outCode out).map Item.code).toList ++ k } cs w4) :=
          Steps.trans (.head st1 s2) (.one st2)
        have etot : Ev β H.get H.ro H.ctr w β3 H'.ctr w4 := Ev.trans e12 x1 (Ev.trans q3 x2 z3 hf2 x3.ctr) hf (by have := x2.ctr; have := x3.ctr; omega)
        refine ⟨β3, w4, fr.tmps, mark, ?_, rfl, ht.mono etot.le, z2, etot, ?_, a5, a6⟩
        · cases out with
          | normal => exact stt
          | exit id => exact ⟨k, rfl, stt⟩
          | ret => exact ⟨k, stt⟩
        · exact Marks.mono z3 _ (Marks.mono q3 _ (Marks.mono b2 _ a4))
      · cases h

theorem exitTo_skip {id : Nat} {x : Item} {k : List Item} (h : ∀ i, x ≠ .inBlock i) : exitTo id (x :: k) = exitTo id k := by
  cases x <;> first | rfl | exact absurd rfl (h _)

/-- A piece of code behind another one. -/
theorem Reach.then_ {m m' : Machine} {fr : Frame} {k : List Item} {cs : List Frame} {out : Out} {tmps tmps1 : Array Value} {D D1 : List Deferred} {w : World} (h : Steps P m m')
    (r : Reach P m' { fr with tmps := tmps1, defers := D1 ++ fr.defers } k cs out tmps D w) : Reach P m fr k cs out tmps (D ++ D1) w := by
  cases out with
  | normal =>
    have : Steps P m' (lone { fr with todo := k, tmps := tmps, defers := D ++ (D1 ++ fr.defers) } cs w) := r
    show Steps P m (lone { fr with todo := k, tmps := tmps, defers := (D ++ D1) ++ fr.defers } cs w)
    rw [List.append_assoc]; exact h.trans this
  | exit id =>
    obtain ⟨K, hK, r⟩ := r
    refine ⟨K, hK, ?_⟩
    have : Steps P m' (lone { fr with todo := .code (.exit id) :: K, tmps := tmps, defers := D ++ (D1 ++ fr.defers) } cs w) := r
    rw [List.append_assoc]; exact h.trans this
  | ret =>
    obtain ⟨K, r⟩ := r
    refine ⟨K, ?_⟩
    have : Steps P m' (lone { fr with todo := .code .ret :: K, tmps := tmps, defers := D ++ (D1 ++ fr.defers) } cs w) := r
    rw [List.append_assoc]; exact h.trans this

theorem Marks.append {β : Ren} {w : World} {h0 : Nat} : ∀ (D D1 : List Deferred), Marks β w D → Marks β w D1 → (∀ d ∈ D, ∀ B, d.target = .collected B → h0 ≤ B) → (∀ d ∈ D1, ∀ B, d.target = .collected B → B < h0) → Marks β w (D ++ D1) := by
  intro D
  induction D with
  | nil => intro D1 _ h _ _; exact h
  | cons d D ih =>
    intro D1 ⟨⟨B, h1, h2, h3, h4⟩, h5⟩ k hD hD1
    refine ⟨⟨B, h1, h2, h3, fun e he C hC => ?_⟩, ih D1 h5 k (fun d' hd' => hD d' (List.mem_cons_of_mem _ hd')) hD1⟩
    rcases List.mem_append.mp he with he | he
    · exact h4 e he C hC
    · have a1 := hD1 e he C hC
      have a2 := hD d List.mem_cons_self B (by rw [h1])
      omega

theorem Marks.lt {β : Ren} {w : World} : ∀ (D : List Deferred), Marks β w D → ∀ d ∈ D, ∀ B, d.target = .collected B → B < w.heap.size := by
  intro D
  induction D with
  | nil => intro _ d hd; simp at hd
  | cons e D ih =>
    intro ⟨⟨B, h1, h2, _, _⟩, h5⟩ d hd C hC
    rcases List.mem_cons.mp hd with rfl | hd
    · rw [h1] at hC; cases hC; exact heap_lt h2
    · exact ih h5 d hd C hC

/-- Two pieces in a row: what is known behind both. -/
theorem chain {β β1 β2 : Ren} {H H1 H2 : AH} {w w1 w2 : World} {D1 D2 : List Deferred} {rnd : Option Nat} (x1 : HX H H1) (x2 : HX H1 H2) (hf : Free β H.ctr H2.ctr)
    (e1 : Ev β H.get H.ro H.ctr w β1 H1.ctr w1) (e2 : Ev β1 H1.get H1.ro H1.ctr w1 β2 H2.ctr w2) (m1 : Marks β1 w1 D1) (m2 : Marks β2 w2 D2)
    (s1 : ∀ d ∈ D1, ∀ B, d.target = .collected B → w.heap.size ≤ B) (s2 : ∀ d ∈ D2, ∀ B, d.target = .collected B → w1.heap.size ≤ B) (r1 : rnd ≠ none → D1 = []) (r2 : rnd ≠ none → D2 = []) :
    Ev β H.get H.ro H.ctr w β2 H2.ctr w2 ∧ Marks β2 w2 (D2 ++ D1) ∧ (∀ d ∈ D2 ++ D1, ∀ B, d.target = .collected B → w.heap.size ≤ B) ∧ (rnd ≠ none → D2 ++ D1 = []) := by
  refine ⟨Ev.trans e1 x1 e2 hf x2.ctr, Marks.append _ _ m2 (Marks.mono e2 _ m1) s2 (Marks.lt _ m1), fun d hd B hB => ?_, fun h => by rw [r1 h, r2 h]; rfl⟩
  rcases List.mem_append.mp hd with hd | hd
  · have := s2 d hd B hB; have := e1.size; omega
  · exact s1 d hd B hB

theorem evStep_ok (hY : TyOK P Y) (hC : CompOK P Y) (hDr : DrawOK P Y) {F : Tr AFunc} (hF : TabOK P Y F) {S : Sums} (hS : SumOK P S) {ev : EvA} (hev : EvOK P Y ev) : EvOK P Y (evStep F S ev) := by
  intro env rnd c T H out T' H' henv hcomp h wf
  cases c with
  | skip =>
    simp only [evStep] at h; cases h
    refine ⟨HX.refl wf, fun β w fr k cs code nt m hc hr hf hctx ht hn hb => ?_⟩
    have := comp_skip hc; subst this
    rw [begins_plain hb (by intro b h; cases h)]
    refine ⟨β, w, fr.tmps, [], ?_, rfl, ht, hr, Ev.refl _ _ _ _ _, trivial, fun d hd => by simp at hd, fun _ => rfl⟩
    refine .one ?_
    apply step_lone_go
    simp [stepG, hctx.mode, stepG.exec]
  | reg ops =>
    simp only [evStep, outT] at h
    split at h
    · rename_i T1 H1 hops
      cases h
      obtain ⟨code0, nt0, hc0⟩ := hcomp
      obtain ⟨id0, ops0, _, hco0⟩ := comp_reg hc0
      obtain ⟨hok0, _⟩ := compOpers_ok hC ops0.toList 0 ops hco0 (fun j => by simp) (by simp)
      refine ⟨(evOps_ok (callA_ok hY hF hS hev henv) ops 0 hok0 _ _ _ _ hops wf).1, fun β w fr k cs code nt m hc hr hf hctx ht hn hb => ?_⟩
      obtain ⟨id, os, rfl, hco⟩ := comp_reg hc
      obtain ⟨hok, _⟩ := compOpers_ok hC os.toList 0 ops hco (fun j => by simp) (by simp)
      rw [begins_plain hb (by intro b h; cases h)]
      have hlen : ops.length = os.size := by have := hok.1; omega
      obtain ⟨β', w', tmps', s, q1, q2, q3, q4⟩ := (evOps_ok (callA_ok hY hF hS hev henv) ops 0 hok _ _ _ _ hops wf).2 β w { fr with todo := .inRegion os (List.range' 0 ops.length) :: k } k cs hr hf hctx.glob hctx.env ht hn hctx.mode rfl
      refine ⟨β', w', tmps', [], ?_, q1, q2, q3, q4, trivial, fun d hd => by simp at hd, fun _ => rfl⟩
      have st1 : step P (lone { fr with todo := .code (.region id os false) :: k } cs w) = .next (lone { fr with todo := .inRegion os (List.range' 0 ops.length) :: k } cs w) := by
        apply step_lone_go
        rw [hlen, ← List.range_eq_range']
        simp [stepG, hctx.mode, stepG.exec]
      have st2 : step P (lone { fr with tmps := tmps', todo := .inRegion os [] :: k } cs w') = .next (lone { fr with todo := k, tmps := tmps', defers := [] ++ fr.defers } cs w') := by
        apply step_lone_go
        simp [stepG, hctx.mode, stepG.exec]
      exact .head st1 (s.trans (.one st2))
    · cases h
  | draw ops =>
    simp only [evStep, outT] at h
    split at h
    · rename_i T1 H1 hops
      cases h
      obtain ⟨code0, nt0, hc0⟩ := hcomp
      obtain ⟨id0, ops0, m0, _, hco0, hd0, hm0⟩ := comp_draw hc0
      refine ⟨by subst hm0; exact (hDr env _ (callA_ok hY hF hS hev henv) ops0 nt0 m0 hco0 hd0 T H _ _ hops wf).1, fun β w fr k cs code nt m hc hr hf hctx ht hn hb => ?_⟩
      obtain ⟨id, os, m1, rfl, hco, hd1, hm1⟩ := comp_draw hc
      rw [begins_plain hb (by intro b h; cases h)]
      subst hm1
      obtain ⟨β', w', tmps', s, q1, q2, q3, q4⟩ := (hDr env _ (callA_ok hY hF hS hev henv) os nt m1 hco hd1 T H _ _ hops wf).2 β w { fr with todo := .code (.region id os true) :: k } k cs id hr hf hctx.glob hctx.env ht hn hctx.mode rfl
      exact ⟨β', w', tmps', [], s, q1, q2, q3, q4, trivial, fun d hd => by simp at hd, fun _ => rfl⟩
    · cases h
  | seq a b =>
    simp only [evStep, seqA] at h
    obtain ⟨code0, nt0, hc0⟩ := hcomp
    obtain ⟨x0, y0, _, hcx0, hcy0⟩ := comp_seq hc0
    split at h
    · rename_i T1 H1 he1
      obtain ⟨x1, k1⟩ := hev _ _ _ _ _ _ _ _ henv ⟨x0, nt0, hcx0⟩ he1 wf
      obtain ⟨x2, k2⟩ := hev _ _ _ _ _ _ _ _ henv ⟨y0, nt0, hcy0⟩ h x1.wf
      refine ⟨x1.trans x2, fun β w fr k cs code nt m hc hr hf hctx ht hn hb => ?_⟩
      obtain ⟨x, y, rfl, hcx, hcy⟩ := comp_seq hc
      rw [begins_plain hb (by intro b h; cases h)]
      obtain ⟨β1, w1, tmps1, D1, r1, r2, r3, r4, r5, r6, r7, r8⟩ := k1 β w fr (.code y :: k) cs x nt _ hcx hr (hf.left x2.ctr) hctx ht hn (.inl rfl)
      obtain ⟨β2, w2, tmps2, D2, u1, u2, u3, u4, u5, u6, u7, u8⟩ := k2 β1 w1 { fr with tmps := tmps1, defers := D1 ++ fr.defers } k cs y nt _ hcy r4 (hf.right r5 x1.ctr) (hctx.mono r5.le rfl rfl rfl) r3 (by show nt ≤ tmps1.size; rw [r2]; exact hn) (.inl rfl)
      obtain ⟨c1, c2, c3, c4⟩ := chain x1 x2 hf r5 u5 r6 u6 r7 u7 r8 u8
      refine ⟨β2, w2, tmps2, D2 ++ D1, Reach.then_ (.head ?_ r1) u1, by rw [u2]; exact r2, u3, u4, c1, c2, c3, c4⟩
      apply step_lone_go
      simp [stepG, hctx.mode, stepG.exec]
    · rename_i hne
      obtain ⟨x1, k1⟩ := hev _ _ _ _ _ _ _ _ henv ⟨x0, nt0, hcx0⟩ h wf
      refine ⟨x1, fun β w fr k cs code nt m hc hr hf hctx ht hn hb => ?_⟩
      obtain ⟨x, y, rfl, hcx, hcy⟩ := comp_seq hc
      rw [begins_plain hb (by intro b h; cases h)]
      obtain ⟨β1, w1, tmps1, D1, r1, r⟩ := k1 β w fr (.code y :: k) cs x nt _ hcx hr hf hctx ht hn (.inl rfl)
      have st : step P (lone { fr with todo := .code (.seq x y) :: k } cs w) = .next (lone { fr with todo := .code x :: .code y :: k } cs w) := by
        apply step_lone_go
        simp [stepG, hctx.mode, stepG.exec]
      refine ⟨β1, w1, tmps1, D1, ?_, r⟩
      cases out with
      | normal => exact (hne T' H' h).elim
      | exit id =>
        obtain ⟨K, hK, s⟩ := r1
        exact ⟨K, hK, .head st s⟩
      | ret =>
        obtain ⟨K, s⟩ := r1
        exact ⟨K, .head st s⟩
  | cond x a b =>
    simp only [evStep, condA] at h
    obtain ⟨code0, nt0, hc0⟩ := hcomp
    obtain ⟨x0, y0, _, ho0, hcx0, hcy0⟩ := comp_cond hc0
    split at h
    · rename_i hv
      obtain ⟨x1, k1⟩ := hev _ _ _ _ _ _ _ _ henv ⟨x0, nt0, hcx0⟩ h wf
      refine ⟨x1, fun β w fr k cs code nt m hc hr hf hctx ht hn hb => ?_⟩
      obtain ⟨cx, cy, rfl, ho, hcx, hcy⟩ := comp_cond hc
      rw [begins_plain hb (by intro b h; cases h)]
      obtain ⟨β1, w1, tmps1, D1, r1, r⟩ := k1 β w fr k cs cx nt _ hcx hr hf hctx ht hn (.inl rfl)
      have hvv := eval_ok hctx.glob ht ho
      rw [hv] at hvv
      have hvv := hvv.bool_inv
      refine ⟨β1, w1, tmps1, D1, ?_, r⟩
      have := Reach.then_ (m := lone { fr with todo := .code (.cond x cx cy) :: k } cs w) (fr := fr) (tmps1 := fr.tmps) (D1 := []) (.one ?_) r1
      · simpa using this
      · apply step_lone_go
        have hvv' : ∀ fr2 : Frame, fr2.tmps = fr.tmps → fr2.eval x = .bool true := by
          intro fr2 h2
          rw [← hvv]; cases x <;> simp [Frame.eval, h2]
        simp only [stepG, hctx.mode, stepG.exec]
        rw [hvv' { fn := fr.fn, tmps := fr.tmps, todo := .code (.cond x cx cy) :: k, defers := fr.defers, mode := .run, kind := fr.kind, roundOf := fr.roundOf } rfl]
        rfl
    · rename_i hv
      obtain ⟨x1, k1⟩ := hev _ _ _ _ _ _ _ _ henv ⟨y0, nt0, hcy0⟩ h wf
      refine ⟨x1, fun β w fr k cs code nt m hc hr hf hctx ht hn hb => ?_⟩
      obtain ⟨cx, cy, rfl, ho, hcx, hcy⟩ := comp_cond hc
      rw [begins_plain hb (by intro b h; cases h)]
      obtain ⟨β1, w1, tmps1, D1, r1, r⟩ := k1 β w fr k cs cy nt _ hcy hr hf hctx ht hn (.inl rfl)
      have hvv := eval_ok hctx.glob ht ho
      rw [hv] at hvv
      have hvv := hvv.bool_inv
      refine ⟨β1, w1, tmps1, D1, ?_, r⟩
      have := Reach.then_ (m := lone { fr with todo := .code (.cond x cx cy) :: k } cs w) (fr := fr) (tmps1 := fr.tmps) (D1 := []) (.one ?_) r1
      · simpa using this
      · apply step_lone_go
        have hvv' : ∀ fr2 : Frame, fr2.tmps = fr.tmps → fr2.eval x = .bool false := by
          intro fr2 h2
          rw [← hvv]; cases x <;> simp [Frame.eval, h2]
        simp only [stepG, hctx.mode, stepG.exec]
        rw [hvv' { fn := fr.fn, tmps := fr.tmps, todo := .code (.cond x cx cy) :: k, defers := fr.defers, mode := .run, kind := fr.kind, roundOf := fr.roundOf } rfl]
        rfl
    · cases h
  | block id a =>
    simp only [evStep] at h
    obtain ⟨code0, nt0, hc0⟩ := hcomp
    obtain ⟨x0, _, hcx0⟩ := comp_block hc0
    -- what the body does
    have hbody : ∃ out1, ev env rnd a T H = some (out1, T', H') ∧ ((∃ i, out1 = .exit i ∧ i = id ∧ out = .normal) ∨ ((∀ i, out1 = .exit i → i ≠ id) ∧ out = out1)) := by
      unfold exitA at h
      split at h
      · rename_i i T1 H1 he1
        split at h
        · rename_i hi; cases h; exact ⟨_, he1, .inl ⟨i, rfl, by simpa using hi, rfl⟩⟩
        · rename_i hi; cases h
          refine ⟨_, he1, .inr ⟨fun j hj => ?_, rfl⟩⟩
          cases hj
          intro hj; subst hj
          rw [Nat.beq_refl] at hi; cases hi
      · rename_i hne
        exact ⟨out, h, .inr ⟨fun i hi => by subst hi; exact (hne i T' H' h).elim, rfl⟩⟩
    obtain ⟨out1, he1, hout⟩ := hbody
    obtain ⟨x1, k1⟩ := hev _ _ _ _ _ _ _ _ henv ⟨x0, nt0, hcx0⟩ he1 wf
    refine ⟨x1, fun β w fr k cs code nt m hc hr hf hctx ht hn hb => ?_⟩
    obtain ⟨x, rfl, hcx⟩ := comp_block hc
    rw [begins_plain hb (by intro b h; cases h)]
    obtain ⟨β1, w1, tmps1, D1, r1, r⟩ := k1 β w fr (.inBlock id :: k) cs x nt _ hcx hr hf hctx ht hn (.inl rfl)
    have st : step P (lone { fr with todo := .code (.block id x) :: k } cs w) = .next (lone { fr with todo := .code x :: .inBlock id :: k } cs w) := by
      apply step_lone_go
      simp [stepG, hctx.mode, stepG.exec]
    refine ⟨β1, w1, tmps1, D1, ?_, r⟩
    rcases hout with ⟨i, rfl, rfl, rfl⟩ | ⟨hno, rfl⟩
    · obtain ⟨K, hK, s⟩ := r1
      refine Steps.trans (.head st s) (.one ?_)
      apply step_lone_go
      have hx : exitTo i K = some k := by rw [hK]; simp [exitTo]
      simp [stepG, hctx.mode, stepG.exec, hx]
    · cases out with
      | normal =>
        refine Steps.trans (.head st r1) (.one ?_)
        apply step_lone_go
        simp [stepG, hctx.mode, stepG.exec]
      | exit i =>
        obtain ⟨K, hK, s⟩ := r1
        refine ⟨K, ?_, .head st s⟩
        rw [hK]
        have : i ≠ id := hno i rfl
        simp only [exitTo]
        rw [if_neg (by simpa using fun h => this h.symm)]
      | ret =>
        obtain ⟨K, s⟩ := r1
        exact ⟨K, .head st s⟩
  | loop a =>
    simp only [evStep, seqA] at h
    obtain ⟨code0, nt0, hc0⟩ := hcomp
    obtain ⟨x0, _, hcx0⟩ := comp_loop hc0
    have hstep : ∀ (fr : Frame) (k : List Item) (cs : List Frame) (x : Code) (w : World) (m : Machine), fr.mode = .run → Begins m fr (.loop x) k cs w → step P m = .next (lone { fr with todo := .code x :: .inLoop x :: k } cs w) := by
      intro fr k cs x w m hm hb
      rcases hb with rfl | ⟨b, hb, rfl⟩
      · apply step_lone_go
        simp [stepG, hm, stepG.exec]
      · cases hb
        apply step_lone_go
        simp [stepG, hm, stepG.exec]
    split at h
    · rename_i T1 H1 he1
      obtain ⟨x1, k1⟩ := hev _ _ _ _ _ _ _ _ henv ⟨x0, nt0, hcx0⟩ he1 wf
      obtain ⟨x2, k2⟩ := hev _ _ _ _ _ _ _ _ henv ⟨code0, nt0, hc0⟩ h x1.wf
      refine ⟨x1.trans x2, fun β w fr k cs code nt m hc hr hf hctx ht hn hb => ?_⟩
      obtain ⟨x, rfl, hcx⟩ := comp_loop hc
      obtain ⟨β1, w1, tmps1, D1, r1, r2, r3, r4, r5, r6, r7, r8⟩ := k1 β w fr (.inLoop x :: k) cs x nt _ hcx hr (hf.left x2.ctr) hctx ht hn (.inl rfl)
      obtain ⟨β2, w2, tmps2, D2, u1, u2, u3, u4, u5, u6, u7, u8⟩ := k2 β1 w1 { fr with tmps := tmps1, defers := D1 ++ fr.defers } k cs (.loop x) nt _ hc r4 (hf.right r5 x1.ctr) (hctx.mono r5.le rfl rfl rfl) r3 (by show nt ≤ tmps1.size; rw [r2]; exact hn) (.inr ⟨x, rfl, rfl⟩)
      obtain ⟨c1, c2, c3, c4⟩ := chain x1 x2 hf r5 u5 r6 u6 r7 u7 r8 u8
      exact ⟨β2, w2, tmps2, D2 ++ D1, Reach.then_ (.head (hstep _ _ _ _ _ _ hctx.mode hb) r1) u1, by rw [u2]; exact r2, u3, u4, c1, c2, c3, c4⟩
    · rename_i hne
      obtain ⟨x1, k1⟩ := hev _ _ _ _ _ _ _ _ henv ⟨x0, nt0, hcx0⟩ h wf
      refine ⟨x1, fun β w fr k cs code nt m hc hr hf hctx ht hn hb => ?_⟩
      obtain ⟨x, rfl, hcx⟩ := comp_loop hc
      obtain ⟨β1, w1, tmps1, D1, r1, r⟩ := k1 β w fr (.inLoop x :: k) cs x nt _ hcx hr hf hctx ht hn (.inl rfl)
      have st := hstep _ _ _ _ _ _ hctx.mode hb
      refine ⟨β1, w1, tmps1, D1, ?_, r⟩
      cases out with
      | normal => exact (hne T' H' h).elim
      | exit id =>
        obtain ⟨K, hK, s⟩ := r1
        exact ⟨K, hK, .head st s⟩
      | ret =>
        obtain ⟨K, s⟩ := r1
        exact ⟨K, .head st s⟩
  | rfun f ps a b =>
    simp only [evStep] at h
    obtain ⟨code0, nt0, hc0⟩ := hcomp
    obtain ⟨q0, x0, y0, _, _, _, _, hcx0, hcy0⟩ := comp_rfun hc0
    obtain ⟨x1, k1⟩ := rfun_ok hY hF hS hev henv ⟨x0, nt0, hcx0⟩ ⟨y0, nt0, hcy0⟩ h wf
    refine ⟨x1, fun β w fr k cs code nt m hc hr hf hctx ht hn hb => ?_⟩
    obtain ⟨q, x, y, rfl, hq, hof, hps, hcx, hcy⟩ := comp_rfun hc
    rw [begins_plain hb (by intro b h; cases h)]
    exact k1 β w fr k cs q x y nt hq hof hps hcx hcy hr hf hctx ht hn
  | exit id =>
    simp only [evStep] at h; cases h
    refine ⟨HX.refl wf, fun β w fr k cs code nt m hc hr hf hctx ht hn hb => ?_⟩
    have := comp_exit hc; subst this
    rw [begins_plain hb (by intro b h; cases h)]
    exact ⟨β, w, fr.tmps, [], ⟨k, rfl, .refl _ _⟩, rfl, ht, hr, Ev.refl _ _ _ _ _, trivial, fun d hd => by simp at hd, fun _ => rfl⟩
  | ret =>
    simp only [evStep] at h; cases h
    refine ⟨HX.refl wf, fun β w fr k cs code nt m hc hr hf hctx ht hn hb => ?_⟩
    have := comp_ret hc; subst this
    rw [begins_plain hb (by intro b h; cases h)]
    exact ⟨β, w, fr.tmps, [], ⟨k, .refl _ _⟩, rfl, ht, hr, Ev.refl _ _ _ _ _, trivial, fun d hd => by simp at hd, fun _ => rfl⟩
  | stop => simp only [evStep] at h; cases h

theorem evC_ok (hY : TyOK P Y) (hC : CompOK P Y) (hDr : DrawOK P Y) {F : Tr AFunc} (hF : TabOK P Y F) {S : Sums} (hS : SumOK P S) : ∀ n, EvOK P Y (evC F S n) := by
  intro n
  induction n with
  | zero => intro env rnd c T H out T' H' _ _ h; cases h
  | succ n ih => exact evStep_ok hY hC hDr hF hS ih

end

end Go.Proofs.YtlbmihpmcgiinaaGreatDoor.Own
