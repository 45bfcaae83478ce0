/- No step of the machine takes a draw back: what a call comes to has drawn at least as often as the world it was made in. -/
import Derived.Calls
import Derived.StepT
namespace Go.Proofs.YtlbmihpmcgiinaaGreatDoor.Own
open Go

theorem ask_up {α : Type} (a : Ask α) : ∀ w : World, w.drawn ≤ (w.ask a).2.drawn := by
  induction a with
  | done a => intro w; exact Nat.le_refl _
  | ask what range k ih =>
    intro w
    unfold World.ask
    simp only []
    split
    · exact ih _ _
    · exact Nat.le_trans (Nat.le_succ _) (ih _ { w with drawn := w.drawn + 1 })

theorem sys_up (w : World) (c : Sys) : w.drawn ≤ (w.sys c).2.drawn := by
  have h := ask_up (Kernel.perform c w.os) w
  unfold World.sys
  split
  · exact Nat.le_refl _
  · rename_i heq
    rw [heq] at h
    exact h

theorem viewStore_up {p : Program} {w : World} {a : Addr} {u : TypeId} {k : Addr} {v : Value} {b : Bool} {r : World × List Addr} (h : w.viewStore p a u k v b = .ok r) : w.drawn = r.1.drawn := by
  unfold World.viewStore at h
  simp only [bind, Except.bind, pure, Except.pure] at h
  repeat' first
    | (cases h; done)
    | (cases h; rfl)
    | split at h

theorem farStore_up {p : Program} {w : World} {a : Addr} {v : Value} {b : Bool} {r : World × List Addr} (h : w.farStore p a v b = .ok r) : w.drawn = r.1.drawn := by
  unfold World.farStore at h
  split at h
  · split at h
    · rename_i heq
      cases h
      exact viewStore_up heq
    · cases h
  · cases h

theorem freeze_up (w : World) (a : Addr) (n : Nat) : (w.freeze a n).drawn = w.drawn := by
  unfold World.freeze
  split <;> rfl

def resWorld {α : Type} : Result α → World
  | .ok _ w => w
  | .halt _ w => w

theorem run_up {α : Type} (p : Program) (s : Sem α) : ∀ w : World, w.drawn ≤ (resWorld (s.run p w)).drawn := by
  induction s with
  | pure a => intro w; exact Nat.le_refl _
  | load m a k ih =>
    intro w
    unfold Sem.run
    split
    · exact ih _ _
    · split
      · exact ih _ _
      · exact Nat.le_refl _
  | store m a v k ih =>
    intro w
    cases v
    case agg => exact Nat.le_refl _
    case tuple => exact Nat.le_refl _
    all_goals
      simp only [Sem.run]
      split
      · split
        · exact Nat.le_refl _
        · exact ih (w.setCell a _)
      · split
        · rename_i heq
          have := farStore_up heq
          simp only [] at this
          rw [this]
          exact ih _
        · exact Nat.le_refl _
  | new o k ih => intro w; unfold Sem.run; exact ih _ { w with heap := w.heap.push o }
  | shape r k ih => intro w; unfold Sem.run; exact ih _ _
  | freeze a n k ih => intro w; unfold Sem.run; have := ih (w.freeze a n); rw [freeze_up] at this; exact this
  | frozen a k ih => intro w; unfold Sem.run; exact ih _ _
  | getObj r k ih =>
    intro w
    unfold Sem.run
    split
    · exact Nat.le_refl _
    · exact ih _ _
    · exact Nat.le_refl _
  | setObj r o k ih =>
    intro w
    unfold Sem.run
    split
    · exact Nat.le_refl _
    · exact ih { w with heap := w.heap.setIfInBounds r o }
    · exact Nat.le_refl _
  | choose q k ih =>
    intro w
    unfold Sem.run
    split
    · exact ih _ _
    · exact Nat.le_trans (Nat.le_succ _) (ih _ { w with drawn := w.drawn + 1 })
  | sys c k ih => intro w; unfold Sem.run; exact Nat.le_trans (sys_up w c) (ih _ _)
  | program k ih => intro w; unfold Sem.run; exact ih _ _
  | mark m k ih => intro w; unfold Sem.run; exact ih _
  | halt h => intro w; exact Nat.le_refl _

theorem up_ok {α : Type} {p : Program} {s : Sem α} {w w' : World} {v : α} (h : s.run p w = .ok v w') : w.drawn ≤ w'.drawn := by
  have := run_up p s w; rw [h] at this; exact this
theorem up_halt {α : Type} {p : Program} {s : Sem α} {w w' : World} {v : Halt} (h : s.run p w = .halt v w') : w.drawn ≤ w'.drawn := by
  have := run_up p s w; rw [h] at this; exact this

/-! ## A goroutine's step -/
def GUp (d : Nat) : GStep → Prop
  | .go _ w _ => d ≤ w.drawn
  | .comm _ _ _ _ w _ => d ≤ w.drawn
  | .spawn _ _ w _ => d ≤ w.drawn
  | .count _ w _ => d ≤ w.drawn
  | .timer _ _ w _ => d ≤ w.drawn
  | .alone _ _ w _ => d ≤ w.drawn
  | .newcoro _ _ _ w _ => d ≤ w.drawn
  | .coroswitch _ _ _ w _ => d ≤ w.drawn
  | .collect _ w _ => d ≤ w.drawn
  | .watch _ w _ => d ≤ w.drawn
  | .ended _ _ _ => True

theorem GUp.after {d : Nat} {s : GStep} (es : Array Event) (h : GUp d s) : GUp d (s.after es) := by cases s <;> exact h
theorem GUp.mono {d d' : Nat} {s : GStep} (h : GUp d s) (k : d' ≤ d) : GUp d' s := by
  cases s <;> first | exact Nat.le_trans k h | trivial

theorem elim_up {α : Type} {d : Nat} {o : Option α} {a : GStep} {f : α → GStep} (h : GUp d a) (k : ∀ x, GUp d (f x)) : GUp d (o.elim a f) := by
  cases o
  · exact h
  · exact k _

theorem endWith_up (d : Nat) (w : World) (fd : Nat) (t : ByteArray) (o : Outcome) : GUp d (endWith w fd t o) := by
  unfold endWith
  simp only []
  repeat' first
    | trivial
    | split

theorem dieOf_up (fr : Frame) (a : List ByteArray) (m : String) (b : Bool) (w : World) : GUp w.drawn (dieOf fr a m b w) := Nat.le_refl _
theorem endThrow_up (fr : Frame) (m : String) (w : World) : GUp w.drawn (endThrow fr m w) := Nat.le_refl _
theorem endPrinting_up (p : Program) (fr : Frame) (v : Value) (w : World) : GUp w.drawn (endPrinting p fr v w) := by
  unfold endPrinting
  simp only []
  split
  · exact Nat.le_refl _
  · trivial

theorem endFatal_up (p : Program) (fr : Frame) (cs : List Frame) (dy : Option Dying) (m : String) (w : World) : GUp w.drawn (endFatal p fr cs dy m w) := by
  unfold endFatal
  simp only []
  split
  · rename_i heq
    exact (dieOf_up ..).mono (up_ok heq)
  · trivial
  · trivial

theorem writeOn_up (p : Program) (fr : Frame) (d : Dying) (f : Fatal) (w : World) : GUp w.drawn (writeOn p fr d f w) := by
  unfold writeOn
  simp only [Sem.runT_eq]
  split
  · trivial
  · split
    · rename_i heq
      exact up_ok (Prod.mk.inj heq).1
    · rename_i heq
      exact up_halt (Prod.mk.inj heq).1
    · trivial
    · trivial

theorem die_up (p : Program) (fr : Frame) (d : Dying) (w : World) : GUp w.drawn (die p fr d w) := by
  unfold die
  simp only [Sem.runT_eq]
  repeat' first
    | trivial
    | exact Nat.le_refl _
    | exact writeOn_up ..
    | exact endWith_up ..
    | (refine GUp.after _ ?_)
    | exact up_ok (by assumption)
    | exact (endPrinting_up ..).mono (up_halt (by assumption))
    | split

theorem early_up (p : Program) (fr : Frame) (cs : List Frame) (dy : Option Dying) (g : Nat) (w : World) : GUp w.drawn (early p fr cs dy g w) := by
  unfold early
  simp only []
  repeat' first
    | trivial
    | exact Nat.le_refl _
    | exact up_ok (by assumption)
    | (simp only [GUp]; exact up_ok (by assumption))
    | split

theorem doReturn_up (p : Program) (main : Bool) (fr : Frame) (cs : List Frame) (dy : Option Dying) (v : Value) (w : World) : GUp w.drawn (doReturn p main fr cs dy v w) := by
  unfold doReturn
  simp only []
  repeat' first
    | trivial
    | exact Nat.le_refl _
    | split

theorem callDeferred_up (p : Program) (fr : Frame) (cs : List Frame) (dy : Option Dying) (d : Deferred) (w : World) : GUp w.drawn (callDeferred p fr cs dy d w) := by
  unfold callDeferred
  simp only [Sem.runT_eq]
  generalize hc : ((match d.target with | .nil => true | _ => false) && (match fr.mode with | .panicking _ => true | _ => false)) = c
  cases c
  · rw [if_neg (by simp)]
    refine GUp.after _ ?_
    split
    all_goals first
      | trivial
      | exact up_ok (by assumption)
      | exact up_halt (by assumption)
      | exact (endFatal_up ..).mono (up_halt (by assumption))
      | exact (endThrow_up ..).mono (up_halt (by assumption))
      | (split <;> first | exact up_ok (by assumption) | exact up_halt (by assumption))
  · rw [if_pos rfl]
    trivial

theorem unwind_up (p : Program) (main : Bool) (fr : Frame) (cs : List Frame) (dy : Option Dying) (w : World) : GUp w.drawn (unwind p main fr cs dy w) := by
  unfold unwind
  simp only [Sem.runT_eq]
  repeat' first
    | trivial
    | exact Nat.le_refl _
    | (refine GUp.after _ ?_)
    | exact callDeferred_up ..
    | exact doReturn_up ..
    | exact endPrinting_up ..
    | exact up_ok (by assumption)
    | exact up_halt (by assumption)
    | exact (doReturn_up ..).mono (up_ok (by assumption))
    | split

theorem apply_up (p : Program) (listen : Bool) (fr : Frame) (cs : List Frame) (dy : Option Dying) (s : Sem Next) (w : World) : GUp w.drawn (stepG.apply p listen fr cs dy s w) := by
  unfold stepG.apply
  have e : (if listen then s.runT p w #[] else (s.run p w, #[])) = (s.run p w, (if listen then s.runT p w #[] else (s.run p w, #[])).2) := by
    cases listen
    · rfl
    · exact Prod.ext (Sem.runT_fst ..) rfl
  rw [e]
  simp only []
  refine GUp.after _ ?_
  split
  all_goals repeat' first
    | trivial
    | exact up_ok (by assumption)
    | exact up_halt (by assumption)
    | exact (endFatal_up ..).mono (up_halt (by assumption))
    | exact (endThrow_up ..).mono (up_halt (by assumption))
    | exact (endThrow_up ..).mono (up_ok (by assumption))
    | exact (early_up ..).mono (up_halt (by assumption))
    | split

theorem stepG_up (p : Program) (main : Bool) (g : Goroutine) (w : World) (listen : Bool) : GUp w.drawn (stepG p main g w listen) := by
  unfold stepG
  simp only []
  split
  · exact die_up ..
  · unfold stepG.exec
    simp only [Sem.runT_eq]
    repeat' first
      | trivial
      | exact Nat.le_refl _
      | exact apply_up p ..
      | exact (apply_up p ..).mono (up_ok (by assumption))
      | (refine GUp.after _ ?_)
      | (refine elim_up ?_ (fun _ => ?_))
      | exact up_ok (by assumption)
      | exact up_halt (by assumption)
      | exact (doReturn_up ..).mono (up_ok (by assumption))
      | (unfold stepG.oper)
      | split
  · exact unwind_up ..

/-! ## The machine's step -/
theorem waitingAt_up {rest : Rest} {cases : Array CommCase} {w w' : World} (h : waitingAt rest cases w = some w') : w.drawn ≤ w'.drawn := by
  unfold waitingAt at h
  repeat' first
    | (cases h; done)
    | (cases h; exact Nat.le_refl _)
    | split at h

theorem communicate_up (p : Program) (rest : Rest) (gs : Array Goroutine) (i : Nat) (g : Goroutine) (cases : Array CommCase) (blocking : Bool)
    (shape : CommShape) (w : World) (m' : Machine) (h : (communicate p rest gs i g cases blocking shape w).1 = .next m') : w.drawn ≤ m'.world.drawn := by
  unfold communicate at h
  simp only [] at h
  repeat' first
    | (simp at h; done)
    | (simp only [Stepped.next.injEq] at h; subst h; exact Nat.le_refl _)
    | (simp only [Stepped.next.injEq] at h; subst h; (try simp only []); exact waitingAt_up (by assumption))
    | (simp only [Stepped.next.injEq] at h; subst h; (try simp only []); exact up_ok (by assumption))
    | (simp only [Stepped.next.injEq] at h; subst h; (try simp only []); exact Nat.le_trans (up_ok (by assumption)) (up_halt (by assumption)))
    | (simp only [Stepped.next.injEq] at h; subst h; (try simp only []); exact Nat.le_trans (up_ok (by assumption)) (up_ok (by assumption)))
    | split at h

theorem look_up (p : Program) (gs : Array Goroutine) (rest : Rest) (w : World) (m' : Machine)
    (h : look p gs rest w = .next m') : w.drawn ≤ m'.world.drawn := by
  unfold look at h
  simp only [] at h
  repeat' first
    | (simp at h; done)
    | (simp only [Stepped.next.injEq] at h; subst h; (try simp only []); exact up_ok (by assumption))
    | split at h

theorem retime_up (m : Machine) (k : Nat) (t : Timer) (a b : Nat) : m.world.drawn ≤ (retime m k t a b).2.world.drawn := by
  unfold retime drain
  cases t.chan with
  | none => exact Nat.le_refl _
  | some c =>
    simp only []
    split <;> exact Nat.le_refl _

theorem opened_up {m m' : Machine} {var : Addr} (h : timerOp.opened m var = some m') : m.world.drawn ≤ m'.world.drawn := by
  unfold timerOp.opened at h
  repeat' first
    | (cases h; done)
    | (cases h; exact Nat.le_refl _)
    | split at h

theorem named_up {m m' : Machine} {w : World} {var : Addr} {f : Nat → Timer → Value × Machine} (hf : ∀ k t, w.drawn ≤ (f k t).2.world.drawn) {v : Value} (h : timerOp.named m var f = .ok (v, m')) : w.drawn ≤ m'.world.drawn := by
  unfold timerOp.named at h
  split at h
  · rename_i k _
    have := hf k (m.rest.timers.getD k default)
    rw [Except.ok.inj h] at this
    exact this
  · cases h

theorem timerOp_up (m m' : Machine) (op : TimerOp) (v : Value) (h : timerOp m op = .ok (v, m')) : m.world.drawn ≤ m'.world.drawn := by
  unfold timerOp at h
  simp only [] at h
  repeat' first
    | (simp at h; done)
    | exact named_up (fun _ _ => retime_up ..) h
    | exact named_up (fun _ _ => Nat.le_trans (opened_up (by assumption)) (retime_up ..)) h
    | (cases h; exact Nat.le_refl _)
    | split at h

theorem runT_up (p : Program) (m m' : Machine) (i : Nat) (b : Bool) (h : (runT p m i b).1 = .next m') : m.world.drawn ≤ m'.world.drawn := by
  simp only [runT] at h
  revert h
  generalize m.gs.swapAt! _ _ = gg
  have hg := stepG_up p (i == 0) gg.1 m.world b
  revert hg
  generalize stepG p _ gg.1 m.world b = s
  intro hg h
  cases s <;> simp only [] at h <;> simp only [GUp] at hg
  all_goals first
    | (simp at h; done)
    | (exact Nat.le_trans hg (communicate_up _ _ _ _ _ _ _ _ _ _ h))
    | (exact Nat.le_trans hg (look_up _ _ _ _ _ h))
    | (simp only [Stepped.next.injEq] at h; subst h; exact hg)
    | (repeat' first
        | (simp at h; done)
        | (simp only [Stepped.next.injEq] at h; subst h; exact hg)
        | (simp only [Stepped.next.injEq] at h; subst h; exact Nat.le_trans hg (timerOp_up _ _ _ _ (by assumption)))
        | (rename_i heq; simp only [Stepped.next.injEq] at h; subst h; unfold endThrow dieOf at heq; cases heq; exact hg)
        | split at h)

theorem serve_up (p : Program) (m m' : Machine) (k : Nat) (h : serve p m k = .next m') : m.world.drawn ≤ m'.world.drawn := by
  unfold serve at h
  simp only [] at h
  repeat' first
    | (simp at h; done)
    | (simp only [Stepped.next.injEq] at h; subst h; exact Nat.le_refl _)
    | split at h

theorem choose_up {p : Program} {q : Question} {w w' : World} {n : Nat} (h : (choose q).run p w = .ok n w') : w.drawn ≤ w'.drawn := up_ok h

theorem askOn_machine_up (p : Program) (m m' : Machine) (ops : Array MemOp) (h : askOn p m = .machine (.next m') ops) : m.world.drawn ≤ m'.world.drawn := by
  unfold askOn at h
  simp only [] at h
  repeat' first
    | (simp at h; done)
    | (simp only [Move.machine.injEq] at h; exact Nat.le_trans (up_ok (by assumption)) (serve_up _ _ _ _ h.1))
    | (simp only [Move.machine.injEq, Stepped.next.injEq] at h; obtain ⟨rfl, _⟩ := h; (try simp only [Machine.advanceTo]); exact up_ok (by assumption))
    | (simp only [Move.machine.injEq, Stepped.next.injEq] at h; obtain ⟨rfl, _⟩ := h; (try simp only [Machine.advanceTo]); exact Nat.le_trans (up_ok (by assumption)) (up_ok (by assumption)))
    | split at h

theorem askOn_goroutine_up (p : Program) (m m' : Machine) (i : Nat) (h : askOn p m = .goroutine m' i) : m.world.drawn ≤ m'.world.drawn := by
  unfold askOn at h
  simp only [] at h
  repeat' first
    | (simp at h; done)
    | (simp only [Move.goroutine.injEq] at h; obtain ⟨rfl, _⟩ := h; (try simp only [Machine.advanceTo] at *); omega)
    | (have := up_ok (by assumption : _ = Result.ok _ _); split at h)
    | split at h

theorem ask_cases_up (p : Program) (m : Machine) :
    (∃ m₂, m.world.drawn ≤ m₂.world.drawn ∧ ask p m = askOn p m₂) ∨ (∃ o w, ask p m = .machine (.ended o w) #[]) := by
  unfold ask
  by_cases hw : m.rest.watch = true
  · rw [if_pos hw]
    cases hc : (choose (.extern "collector.look" 2)).run p m.world with
    | halt h w => exact .inr ⟨_, _, rfl⟩
    | ok k world =>
      have hu := up_ok hc
      rcases k with _ | _ | k
      · exact .inl ⟨{ m with world }, hu, rfl⟩
      · show (∃ m₂, m.world.drawn ≤ m₂.world.drawn ∧ (match look p m.gs m.rest world with | .next m => askOn p m | e => Move.machine e) = askOn p m₂) ∨
          (∃ o w, (match look p m.gs m.rest world with | .next m => askOn p m | e => Move.machine e) = .machine (.ended o w) #[])
        cases hl : look p m.gs m.rest world with
        | next m₂ => exact .inl ⟨m₂, Nat.le_trans hu (look_up _ _ _ _ _ hl), rfl⟩
        | ended o w => exact .inr ⟨o, w, rfl⟩
      · exact .inl ⟨{ m with world }, hu, rfl⟩
  · simp only [hw, Bool.false_eq_true, if_false]
    exact .inl ⟨m, Nat.le_refl _, rfl⟩

theorem ask_goroutine_up (p : Program) (m m' : Machine) (i : Nat) (h : ask p m = .goroutine m' i) : m.world.drawn ≤ m'.world.drawn := by
  rcases ask_cases_up p m with ⟨m₂, hs, he⟩ | ⟨o, w, he⟩
  · rw [he] at h
    exact Nat.le_trans hs (askOn_goroutine_up p m₂ m' i h)
  · rw [he] at h; cases h

theorem ask_machine_up (p : Program) (m m' : Machine) (ops : Array MemOp) (h : ask p m = .machine (.next m') ops) : m.world.drawn ≤ m'.world.drawn := by
  rcases ask_cases_up p m with ⟨m₂, hs, he⟩ | ⟨o, w, he⟩
  · rw [he] at h
    exact Nat.le_trans hs (askOn_machine_up p m₂ m' ops h)
  · rw [he] at h; cases h

theorem move_goroutine_up (p : Program) (m m' : Machine) (i : Nat) (h : move p m = .goroutine m' i) : m.world.drawn ≤ m'.world.drawn := by
  unfold move at h
  repeat' first
    | (simp at h; done)
    | (have := ask_goroutine_up p _ m' i h; exact this)
    | (simp only [Move.goroutine.injEq] at h; obtain ⟨rfl, _⟩ := h; exact Nat.le_refl _)
    | split at h

theorem move_machine_up (p : Program) (m m' : Machine) (ops : Array MemOp) (h : move p m = .machine (.next m') ops) : m.world.drawn ≤ m'.world.drawn := by
  unfold move at h
  repeat' first
    | (simp at h; done)
    | (have := ask_machine_up p _ m' ops h; exact this)
    | split at h

theorem step_up (p : Program) (m m' : Machine) (h : step p m = .next m') : m.world.drawn ≤ m'.world.drawn := by
  unfold step stepT at h
  split at h
  next m₁ i hm => exact Nat.le_trans (move_goroutine_up p m m₁ i hm) (runT_up p m₁ m' i true h)
  next s ops hm =>
    simp only [] at h
    subst h
    exact move_machine_up p m m' ops hm

theorem runN_up (p : Program) : ∀ (n : Nat) (m m' : Machine), runN p n m = .next m' → m.world.drawn ≤ m'.world.drawn := by
  intro n
  induction n with
  | zero => intro m m' h; cases h; exact Nat.le_refl _
  | succ n ih =>
    intro m m' h
    unfold runN at h
    split at h
    · rename_i m1 h1
      exact Nat.le_trans (step_up p m m1 h1) (ih _ _ h)
    · rename_i h1
      exact absurd h (h1 m')

theorem steps_up {p : Program} {m m' : Machine} (h : Steps p m m') : m.world.drawn ≤ m'.world.drawn := h.elim fun n hn => runN_up p n m m' hn

/-- A call that ends in a world has drawn on. -/
theorem calls_up {P : Program} {f : FuncId} {args : Array Value} {w : World} {R : Ending → World → Prop} (h : Calls P f args w R) (hR : ∀ e w', R e w' → ∃ v, e = .returned v) :
    Calls P f args w fun e w' => R e w' ∧ w.drawn ≤ w'.drawn := by
  intro cs
  obtain ⟨e, w', fr, h1, h2, h3⟩ := h cs
  obtain ⟨v, rfl⟩ := hR e w' h1
  exact ⟨_, w', fr, ⟨h1, steps_up (m := lone _ cs w) (m' := lone fr cs w') h2⟩, h2, h3⟩

end Go.Proofs.YtlbmihpmcgiinaaGreatDoor.Own
