/- The engine, part 16: each compiled operation is sound. -/
import Derived.Test.YtlbmihpmcgiinaaGreatDoorEngC
import Derived.Calls

section
namespace Go.Proofs.YtlbmihpmcgiinaaGreatDoor.Own
open Go

section
variable {P : Program} {Y : Tr TypeInfo}

theorem arr1 {α : Type} {a : Array α} {x : α} (h : a.toList = [x]) : a = #[x] := Array.toList_inj.mp (by simpa using h)
theorem arr2 {α : Type} {a : Array α} {x y : α} (h : a.toList = [x, y]) : a = #[x, y] := Array.toList_inj.mp (by simpa using h)
theorem arr_head {α : Type} {a : Array α} {x : α} {l : List α} (h : a.toList = x :: l) : a[0]? = some x := by rw [← Array.getElem?_toList, h]; rfl
theorem arr_snd {α : Type} {a : Array α} {x y : α} {l : List α} (h : a.toList = x :: y :: l) : a[1]? = some y := by rw [← Array.getElem?_toList, h]; rfl

theorem comp_call (hY : TyOK P Y) {o : Oper} {c : Call} (ho : o.op = .call c) {a : AOp} (h : compOp0 P Y o = some a) : OpOK P o a.run ∨ ∃ f, c.callee = .value f ∧ a = R.call f c.args.toList := by
  simp only [compOp0, ho] at h
  split at h
  · rename_i f hc; cases h; exact .inr ⟨f, hc, rfl⟩
  · cases h
  · rename_i b hc
    left
    split at h
    · rename_i t tl x hb hat hargs
      have h0 := arr_head hat
      have h1 := arr1 hargs
      split at h
      · rename_i hd; cases h; exact lenStr_ok ho hc h1 h0 (under_ok hY hd)
      · rename_i e hd; cases h; exact lenS_ok ho hc h1 h0 (under_ok hY hd)
      · rename_i e hd; cases h; exact lenM_ok ho hc h1 h0 (under_ok hY hd)
      · rename_i n e hd; cases h; exact constLen_ok ho hc h1 h0 (.inl ⟨_, under_ok hY hd⟩)
      · rename_i arr hd
        split at h
        · rename_i n e hd2; cases h; exact constLen_ok ho hc h1 h0 (.inr ⟨_, _, under_ok hY hd, under_ok hY hd2⟩)
        · cases h
      · cases h
    · rename_i t tl x hb hat hargs
      have h0 := arr_head hat
      have h1 := arr1 hargs
      split at h
      · rename_i e hd; cases h; exact cap_ok ho hc h1 h0 (under_ok hY hd)
      · cases h
    · rename_i t u tl s x hb hat hargs
      have h0 := arr_head hat
      have h0' := arr_snd hat
      have h1 := arr2 hargs
      split at h
      · rename_i e d hd hu
        split at h
        · rename_i sz by_ z hs hbb hz
          split at h
          · rename_i hsz
            split at h
            · cases h
            · split at h
              · rename_i hs1
                cases h
                exact append_ok hY ho hc h1 h0 h0' (under_ok hY hd) (under_ok hY hu) hs hbb hz hsz (by intro k; simp)
              · cases h
            · rename_i hni hns
              cases h
              exact append_ok hY ho hc h1 h0 h0' (under_ok hY hd) (under_ok hY hu) hs hbb hz hsz hni
          · cases h
        · cases h
      · cases h
    · rename_i l hb hargs
      cases h
      exact maxmin_ok (isMax := true) ho hc
    · cases h
      exact maxmin_ok (isMax := false) ho hc
    · rename_i x hb hargs
      cases h
      exact sliceData_ok ho hc hargs
    · rename_i pt tl p n hb hat hargs
      split at h
      · rename_i e hd
        split at h
        · rename_i hs
          cases h
          obtain ⟨i, hi, hn⟩ := size_ok hY hs
          exact unsafeStr_ok ho hc hargs hat (under_ok hY hd) hi hn
        · cases h
      · cases h
    · cases h

theorem comp_conv (hY : TyOK P Y) {o : Oper} {src dst : TypeId} {x : Operand} (ho : o.op = .convert src dst x) {a : AOp} (h : compOp0 P Y o = some a) : OpOK P o a.run := by
  simp only [compOp0, ho] at h
  split at h
  · rename_i k0 k hs hd; cases h; exact convInt_ok ho (under_ok hY hs) (under_ok hY hd)
  · rename_i hs hd; cases h; exact convStr_ok ho (under_ok hY hs) (under_ok hY hd)
  · cases h
  · rename_i e hs hd
    split at h
    · rename_i he hz; cases h; exact strBytes_ok ho (under_ok hY hs) (under_ok hY hd) (under_ok hY he)
    · cases h
  · rename_i t hs hd
    split at h
    · cases h
    · rename_i n hne hn
      cases h
      obtain ⟨i, hi, hin⟩ := size_ok hY hn
      exact ptrUp_ok ho (under_ok hY hs) (under_ok hY hd) hi (fun k => hne (by rw [← hin, k]))
    · cases h
  · rename_i t hs hd
    split at h
    · cases h
    · rename_i n hne hn
      cases h
      obtain ⟨i, hi, hin⟩ := size_ok hY hn
      exact ptrDown_ok ho (under_ok hY hs) (under_ok hY hd) hi (fun k => hne (by rw [← hin, k]))
    · cases h
  · cases h

theorem comp_bin (hY : TyOK P Y) {o : Oper} {op : BinOp} {t t' : TypeId} {x y : Operand} (ho : o.op = .binOp op t x y t') {a : AOp} (h : compOp0 P Y o = some a) : OpOK P o a.run := by
  have key : ∀ (neg : Bool), (op = .eql ∧ neg = false ∨ op = .neq ∧ neg = true) → (match underX Y t with
      | some .bool => some (R.binB op x y)
      | some (.int _) | some .string => some (R.bin op x y)
      | some _ => match eqKindP Y t with
        | some .iface => if isConstO x || isConstO y then some (R.eqk .iface neg x y) else none
        | some k => some (R.eqk k neg x y)
        | none => none
      | none => none) = some a → OpOK P o a.run := by
    intro neg hor h
    split at h
    · rename_i hd; cases h; exact binB_ok ho (under_ok hY hd)
    · cases h; exact bin_ok ho
    · cases h; exact bin_ok ho
    · split at h
      · rename_i hk
        split at h
        · rename_i hc
          cases h
          exact eqk_ok hor ho (eqKind_ok hY hk) (fun _ => by simpa using hc)
        · cases h
      · rename_i k hne hk
        cases h
        exact eqk_ok hor ho (eqKind_ok hY hk) (fun e => absurd e hne)
      · cases h
    · cases h
  simp only [compOp0, ho] at h
  cases op <;> first | exact key false (.inl ⟨rfl, rfl⟩) h | exact key true (.inr ⟨rfl, rfl⟩) h | (cases h; exact bin_ok ho)

theorem comp_most (hY : TyOK P Y) {o : Oper} (h1 : ∀ c, o.op ≠ .call c) (h2 : ∀ s d x, o.op ≠ .convert s d x) (h3 : ∀ p t x y t', o.op ≠ .binOp p t x y t') {a : AOp} (h : compOp0 P Y o = some a) : OpOK P o a.run := by
  cases ho : o.op <;> simp only [compOp0, ho] at h
  case call c => exact absurd ho (h1 c)
  case convert s d x => exact absurd ho (h2 s d x)
  case binOp p t x y t' => exact absurd ho (h3 p t x y t')
  case move x => cases h; exact move_ok (.inl ho)
  case assign x => cases h; exact move_ok (.inr ho)
  case pick c x y => cases h; exact pick_ok ho
  case alloc e =>
    split at h
    · rename_i z hz
      cases h
      obtain ⟨i, hi, hiz, hs⟩ := zero_ok hY hz
      exact alloc_ok ho hi hiz hs
    · cases h
  case box e x => cases h; exact box_ok ho
  case build t parts =>
    split at h
    · rename_i z l hz hl
      cases h
      obtain ⟨g, hg, hl⟩ := Option.bind_eq_some_iff.mp hl
      exact build_ok hY ho hz hg hl
    · cases h
  case buildSlice t len parts =>
    split at h
    · rename_i e hd
      split at h
      · rename_i s z hs hz
        split at h
        · rename_i l hl
          split at h
          · rename_i hc
            cases h
            simp only [Bool.and_eq_true, decide_eq_true_eq, Nat.ble_eq] at hc
            exact bslice_ok hY ho (under_ok hY hd) hs hz hl hc.1 hc.2
          · cases h
        · cases h
      · cases h
    · cases h
  case load t x =>
    split at h
    · rename_i n ha hs
      cases h
      obtain ⟨i, hi, rfl⟩ := size_ok hY hs
      exact loadN_ok ho (isAgg_ok hY ha) hi
    · rename_i n ha hs
      cases h
      exact load1_ok ho (isAgg_ok hY ha)
    · cases h
  case store t x y =>
    split at h
    · rename_i n hs
      cases h
      obtain ⟨i, hi, rfl⟩ := size_ok hY hs
      exact store_ok ho hi
    · cases h
  case nilCheck x => cases h; exact nilCheck_ok ho
  case unOp op t x => cases op <;> first | (cases h; exact un_ok ho) | cases h
  case makeInterface t x =>
    split at h
    · cases h
    · rename_i d hni hd
      cases h
      exact mkIface_ok ho (under_ok hY hd) (fun ms k => hni ms k)
    · cases h
  case makeFunc fn first captured =>
    split at h
    · rename_i f hf
      cases h
      have : first = #[] := Array.toList_inj.mp (by simpa using hf)
      subst this
      exact mkFunc_ok ho
    · cases h
  case makeMap t r =>
    split at h
    · rename_i hd; cases h; exact mkMap_ok ho (under_ok hY hd)
    · cases h
  case makeSlice t l c =>
    split at h
    · rename_i e hd
      split at h
      · rename_i s b z hs hb hz
        split at h
        · rename_i hsz; cases h; exact mkSlice_ok hY ho (under_ok hY hd) hs hb hz hsz
        · cases h
      · cases h
    · cases h
  case slice t x lo hi mx =>
    split at h
    · rename_i hd
      split at h
      · rename_i hm
        cases h
        have : mx = none := by simpa using hm
        subst this
        exact sliceStr_ok ho (under_ok hY hd)
      · cases h
    · rename_i e hd
      split at h
      · rename_i n hs
        cases h
        obtain ⟨i, hi, rfl⟩ := size_ok hY hs
        exact sliceS_ok ho (under_ok hY hd) hi
      · cases h
    · cases h
  case fieldAddr s x f =>
    split at h
    · rename_i fs hd
      split at h
      · rename_i g hg
        split at h
        · cases h
        · rename_i n hne hn
          cases h
          obtain ⟨i, hi, hin⟩ := size_ok hY hn
          exact fieldAddr_ok ho (under_ok hY hd) hg hi (fun k => hne (by rw [← hin, k]))
        · cases h
      · cases h
    · cases h
  case field s x f =>
    split at h
    · rename_i fs hd
      split at h
      · rename_i g hg
        split at h
        · rename_i n b hn ha
          cases h
          obtain ⟨i, hi, rfl⟩ := size_ok hY hn
          exact fieldV_ok ho (under_ok hY hd) hg hi (isAgg_ok hY ha)
        · cases h
      · cases h
    · cases h
  case indexAddr t x ix =>
    split at h
    · rename_i e hd
      split at h
      · rename_i n hs
        cases h
        obtain ⟨i, hi, rfl⟩ := size_ok hY hs
        exact idxS_ok ho (under_ok hY hd) hi
      · cases h
    · rename_i m e hd
      split at h
      · rename_i n hs
        cases h
        obtain ⟨i, hi, rfl⟩ := size_ok hY hs
        exact idxA_ok ho (under_ok hY hd) hi
      · cases h
    · cases h
  case index t x ix =>
    split at h
    · rename_i m e hd
      split at h
      · rename_i n b hs ha
        cases h
        obtain ⟨i, hi, rfl⟩ := size_ok hY hs
        exact idxV_ok ho (under_ok hY hd) hi (isAgg_ok hY ha)
      · cases h
    · rename_i hd; cases h; exact idxStr_ok ho (under_ok hY hd)
    · cases h
  case lookup t x ix ok =>
    split at h
    · rename_i k e hd
      split at h
      · rename_i d z hk hz
        split at h
        · rename_i hp; cases h; exact lookup_ok hY ho (under_ok hY hd) (under_ok hY hk) hz hp
        · cases h
      · cases h
    · cases h
  case mapUpdate t m k v =>
    split at h
    · rename_i kt e hd
      split at h
      · rename_i d hk
        split at h
        · rename_i hp; cases h; exact mapSet_ok (.inl ho) (under_ok hY hd) (under_ok hY hk) hp
        · cases h
      · cases h
    · cases h
  case insert t m k v =>
    split at h
    · rename_i kt e hd
      split at h
      · rename_i d hk
        split at h
        · rename_i hp; cases h; exact mapSet_ok (.inr ho) (under_ok hY hd) (under_ok hY hk) hp
        · cases h
      · cases h
    · cases h
  case extract t i => cases h; exact extract_ok ho
  all_goals cases h

/-! ## All of them -/
theorem compOp0_ok (hY : TyOK P Y) {o : Oper} {a : AOp} (h : compOp0 P Y o = some a) : OpOK P o a.run ∨ ∃ c f, o.op = .call c ∧ c.callee = .value f ∧ a = R.call f c.args.toList := by
  cases ho : o.op
  case call c =>
    rcases comp_call hY ho h with h | ⟨f, h1, h2⟩
    · exact .inl h
    · exact .inr ⟨c, f, rfl, h1, h2⟩
  case convert s d x => exact .inl (comp_conv hY ho h)
  case binOp p t x y t' => exact .inl (comp_bin hY ho h)
  all_goals exact .inl (comp_most hY (by intro c; rw [ho]; simp) (by intro s d x; rw [ho]; simp) (by intro p t x y t'; rw [ho]; simp) h)

end

end Go.Proofs.YtlbmihpmcgiinaaGreatDoor.Own
end

/- The engine, part 9: running: frames, calls, regions, loops. -/
section
namespace Go.Proofs.YtlbmihpmcgiinaaGreatDoor.Own
open Go

def TR (β : Ren) (T : Tr Value) (tmps : Array Value) : Prop := ∀ t : Nat, VR β (opv T (.tmp t)) (tmps.getD t undef)

theorem TR.mono {β β' : Ren} (h : β.le β') {T : Tr Value} {tmps : Array Value} (r : TR β T tmps) : TR β' T tmps := fun t => (r t).mono h

theorem opv_set (T : Tr Value) (d : Nat) (v : Value) (t : Nat) : opv (T.set d (some v)) (.tmp t) = if t = d then v else opv T (.tmp t) := by
  simp only [opv, Tr.get_set]
  split
  · rename_i h; split at h
    · rename_i e; subst e; cases h; simp
    · rename_i e; rw [if_neg e, h]
  · rename_i h; split at h
    · cases h
    · rename_i e; rw [if_neg e, h]

theorem TR.set {β : Ren} {T : Tr Value} {tmps : Array Value} (r : TR β T tmps) {d : Nat} (hd : d < tmps.size) {v v' : Value} (hv : VR β v v') : TR β (T.set d (some v)) (tmps.setIfInBounds d v') := by
  intro t
  rw [opv_set]
  by_cases e : t = d
  · subst e
    rw [if_pos rfl, Array.getD_eq_getD_getElem?, Array.getElem?_setIfInBounds]
    simpa [hd] using hv
  · rw [if_neg e, Array.getD_eq_getD_getElem?, Array.getElem?_setIfInBounds, if_neg (fun h => e h.symm)]
    have := r t
    rwa [Array.getD_eq_getD_getElem?] at this

def GlobOK (P : Program) (β : Ren) : Prop := ∀ g, g < P.globals.size → ∃ I, β (2 * g) = some I ∧ I.blk = g ∧ I.shift = 0

theorem GlobOK.mono {P : Program} {β β' : Ren} (h : β.le β') (r : GlobOK P β) : GlobOK P β' := fun g hg => let ⟨I, a, b⟩ := r g hg; ⟨I, h _ _ a, b⟩

theorem eval_ok {P : Program} {β : Ren} {T : Tr Value} {fr : Frame} (hg : GlobOK P β) (ht : TR β T fr.tmps) {x : Operand} (hx : okOpd P.globals.size x = true) : VR β (opv T x) (fr.eval x) := by
  cases x with
  | tmp t => exact ht t
  | const v => exact VR.refl_of_scal 4 v hx
  | global g =>
    obtain ⟨I, h1, h2, h3⟩ := hg g (by simpa [okOpd] using hx)
    have := VR.ptr (o := 0) h1
    rw [h2, h3] at this
    exact this
  | func f => exact .func rfl (fun i h => by simp at h)

structure EnvE (P : Program) (Y : Tr TypeInfo) (β : Ren) (e : LoopE) (I : BI) (L : LoopS) (nt : Nat) : Prop where
  at_ : β e.name = some I
  loop : I.loop = some L
  params : L.params.toList = e.params
  tmps : TR β e.tmps L.tmps
  size : nt ≤ L.tmps.size
  lt : ∀ p ∈ e.params, p < nt
  assign : comp P Y nt L.assign = some e.assign
  body : comp P Y nt L.body = some e.body

def EnvOK (P : Program) (Y : Tr TypeInfo) (β : Ren) (env : List LoopE) : Prop := ∀ e ∈ env, ∃ I L nt, EnvE P Y β e I L nt

theorem EnvOK.mono {P : Program} {Y : Tr TypeInfo} {β β' : Ren} (h : β.le β') {env : List LoopE} (r : EnvOK P Y β env) : EnvOK P Y β' env :=
  fun e he => let ⟨I, L, nt, k⟩ := r e he; ⟨I, L, nt, ⟨h _ _ k.at_, k.loop, k.params, k.tmps.mono h, k.size, k.lt, k.assign, k.body⟩⟩

/-! ## One step that carries something out -/
def Plain (fr : Frame) : Prop := (∃ ops i rest k, fr.todo = .inRegion ops (i :: rest) :: k) ∨ (∃ l k, fr.todo = .inRangeFunc l :: k)

/-- The machine, told to carry out 's' for the frame 'fr', comes back to it with a value. -/
def Goes (P : Program) (s : Sem Next) (fr : Frame) (cs : List Frame) (w : World) (Q : Value → World → Prop) : Prop :=
  ∃ fr1 cs1 w1 v w', (stepG.apply P true fr cs none s w).bare = .go { frame := fr1, callers := cs1, status := .running, dying := none } w1 ∧
    Steps P (lone fr1 cs1 w1) (lone (fr.finish v) cs w') ∧ Q v w'

theorem goes_value {P : Program} {s : Sem Next} {fr : Frame} {cs : List Frame} {w w' : World} {Q : Value → World → Prop} {nx : Next} {v : Value} (h : s.run P w = .ok nx w') (g : Gives nx v) (q : Q v w') : Goes P s fr cs w Q := by
  refine ⟨fr.finish v, cs, w', v, w', ?_, .refl _ _, q⟩
  rcases g with rfl | ⟨rfl, rfl⟩ <;> simp [stepG.apply, h]

theorem goes_enter {P : Program} {s : Sem Next} {fr : Frame} {cs : List Frame} {w w1 : World} {Q : Value → World → Prop} {f : FuncId} {args : Array Value} (hp : Plain fr) (h : s.run P w = .ok (.enter f args) w1)
    (k : ∃ v w', Steps P (lone (Frame.enter P f args .normal) (fr :: cs) w1) (lone (fr.finish v) cs w') ∧ Q v w') : Goes P s fr cs w Q := by
  obtain ⟨v, w', h1, h2⟩ := k
  refine ⟨Frame.enter P f args .normal, fr :: cs, w1, v, w', ?_, h1, h2⟩
  rcases hp with ⟨ops, i, rest, k, e⟩ | ⟨l, k, e⟩ <;> simp [stepG.apply, h, e]

theorem goes_round {P : Program} {s : Sem Next} {fr : Frame} {cs : List Frame} {w w1 : World} {Q : Value → World → Prop} {l : Nat} {f : FuncId} {tmps : Array Value} {assign body : Code} (hp : Plain fr) (h : s.run P w = .ok (.round l f tmps assign body) w1)
    (k : ∃ v w', Steps P (lone (Frame.round l f tmps assign body .normal) (fr :: cs) w1) (lone (fr.finish v) cs w') ∧ Q v w') : Goes P s fr cs w Q := by
  obtain ⟨v, w', h1, h2⟩ := k
  refine ⟨Frame.round l f tmps assign body .normal, fr :: cs, w1, v, w', ?_, h1, h2⟩
  rcases hp with ⟨ops, i, rest, k, e⟩ | ⟨l, k, e⟩ <;> simp [stepG.apply, h]

def callSem (f : Value) (args : Array Value) : Sem Next := do
  let d ← Deferred.ofValue f args
  invoke d.target d.args

/-- What a piece of a run leaves, beside its value. -/
def Post (β : Ren) (H H' : AH) (w : World) (va : Value) : Value → World → Prop := fun v w' => ∃ β', VR β' va v ∧ Rep β' H'.get w' ∧ Ev β H.get H.ro H.ctr w β' H'.ctr w'

/-- A call, carried out abstractly, is one that the machine makes. -/
def CallOK (P : Program) (Y : Tr TypeInfo) (env : List LoopE) (call : CallA) : Prop :=
  ∀ (f : Value) (args : List Value) (H : AH) (va : Value) (H' : AH), call f args H = some (va, H') → WF H →
    HX H H' ∧ ∀ (β : Ren) (w : World) (f' : Value) (args' : Array Value) (fr : Frame) (cs : List Frame), Rep β H.get w → Free β H.ctr H'.ctr → GlobOK P β → EnvOK P Y β env →
      VR β f f' → VRs β args args'.toList → Plain fr → Goes P (callSem f' args') fr cs w (Post β H H' w va)

/-- An operation, carried out abstractly, is one that the machine carries out. -/
def OpGo (P : Program) (Y : Tr TypeInfo) (o : Oper) (r : Run) : Prop :=
  ∀ (env : List LoopE) (call : CallA), CallOK P Y env call → ∀ (T : Tr Value) (H : AH) (va : Value) (H' : AH), r call (opv T) H = some (va, H') → WF H →
    HX H H' ∧ ∀ (β : Ren) (w : World) (fr : Frame) (cs : List Frame), Rep β H.get w → Free β H.ctr H'.ctr → GlobOK P β → EnvOK P Y β env → (∀ x ∈ o.op.operands.toList, VR β (opv T x) (fr.eval x)) → Plain fr →
      Goes P (execOp fr.eval o) fr cs w (Post β H H' w va)

theorem OpGo.of_ok {P : Program} {Y : Tr TypeInfo} {o : Oper} {r : Run} (h : OpOK P o r) : OpGo P Y o r := by
  intro env call _ T H va H' e wf
  obtain ⟨x1, x2⟩ := h call (opv T) H va H' wf e
  refine ⟨x1, fun β w fr cs hr hf _ _ hx _ => ?_⟩
  obtain ⟨β', w', nx, v, h1, h2, h3, h4, h5⟩ := x2 β w fr.eval hr hf hx
  exact goes_value h1 h2 ⟨β', h3, h4, h5⟩

theorem OpGo.call {P : Program} {Y : Tr TypeInfo} {o : Oper} {c : Call} {f : Operand} (ho : o.op = .call c) (hc : c.callee = .value f) : OpGo P Y o (R.call f c.args.toList).run := by
  intro env call hcall T H va H' e wf
  simp only [R.call, evCall] at e
  obtain ⟨x1, x2⟩ := hcall _ _ _ _ _ e wf
  refine ⟨x1, fun β w fr cs hr hf hg he hx hp => ?_⟩
  have hops : ∀ x, x = f ∨ x ∈ c.args.toList → x ∈ o.op.operands.toList := by
    intro x h
    rw [ho]
    show x ∈ (Call.operands c).toList
    unfold Call.operands
    rw [hc]
    simpa using h
  have hv := VRs.map (β := β) (ρa := opv T) (ρ := fr.eval) c.args.toList (fun x h => hx x (hops x (.inr h)))
  have := x2 β w (fr.eval f) (c.args.map fr.eval) fr cs hr hf hg he (hx f (hops f (.inl rfl))) (by rw [Array.toList_map]; exact hv) hp
  have heq : execOp fr.eval o = callSem (fr.eval f) (c.args.map fr.eval) := by
    simp only [execOp, ho, resolve, hc, callSem]
  rw [heq]
  exact this

/-! ## A region in the order of the text -/
section region
variable {P : Program} {Y : Tr TypeInfo}

/-- A compiled operation. -/
structure OperOK (P : Program) (Y : Tr TypeInfo) (ops : Array Oper) (nt : Nat) (o : Oper) (a : AOper) : Prop where
  dst : a.dst = o.dst
  lt : ∀ d, o.dst = some d → d < nt
  go : OpGo P Y o a.run
  opds : ∀ x ∈ o.op.operands.toList, okOpd P.globals.size x = true
  guard : match o.guard with | none => a.guard = none | some (j, b) => ∃ d, (ops[j]?).bind (·.dst) = some d ∧ a.guard = some (d, b) ∧ d < nt

theorem wanted_ok {β : Ren} {T : Tr Value} {tmps : Array Value} (ht : TR β T tmps) {ops : Array Oper} {nt : Nat} {o : Oper} {a : AOper} (h : OperOK P Y ops nt o a) (hn : nt ≤ tmps.size) :
    Region.wanted o (yielded ops tmps) = wantedA a.guard T := by
  have hg := h.guard
  unfold Region.wanted wantedA
  split at hg
  · rename_i e; rw [e, hg]
  · rename_i j b e
    obtain ⟨d, h1, h2, h3⟩ := hg
    rw [e, h2]
    simp only [yielded, h1, Option.bind_some]
    have hd : d < tmps.size := Nat.lt_of_lt_of_le h3 hn
    have hv := ht d
    rw [Array.getD_eq_getD_getElem?, Array.getElem?_eq_getElem hd] at hv
    rw [Array.getElem?_eq_getElem hd]
    simp only [Option.getD_some, opv] at hv
    cases hT : T.get d with
    | none =>
      rw [hT] at hv
      simp only [uv] at hv
      obtain ⟨ds, he, _⟩ := hv.tuple_inv
      rw [he]; simp
    | some v =>
      rw [hT] at hv
      simp only at hv
      cases v with
      | bool x => rw [hv.bool_inv]; rfl
      | _ =>
        simp only
        generalize tmps[d] = y at hv
        cases hv <;> rfl

theorem step_inRegion_skip {fr : Frame} {ops : Array Oper} {i : Nat} {rest : List Nat} {k : List Item} {cs : List Frame} {w : World} {o : Oper} (hm : fr.mode = .run) (ht : fr.todo = .inRegion ops (i :: rest) :: k) (ho : ops[i]? = some o)
    (hw : Region.wanted o (yielded ops fr.tmps) = false) : step P (lone fr cs w) = .next (lone (fr.finish undef) cs w) :=
  step_lone_go (by simp [stepG, stepG.exec, hm, ht, ho, hw])

theorem goes_step {fr : Frame} {ops : Array Oper} {i : Nat} {rest : List Nat} {k : List Item} {cs : List Frame} {w : World} {o : Oper} {Q : Value → World → Prop} (hm : fr.mode = .run) (ht : fr.todo = .inRegion ops (i :: rest) :: k) (ho : ops[i]? = some o)
    (hw : Region.wanted o (yielded ops fr.tmps) = true) (hd : ∀ c, o.op ≠ .defer c) (h : Goes P (execOp fr.eval o) fr cs w Q) : ∃ v w', Steps P (lone fr cs w) (lone (fr.finish v) cs w') ∧ Q v w' := by
  obtain ⟨fr1, cs1, w1, v, w', h1, h2, h3⟩ := h
  refine ⟨v, w', .head ?_ h2, h3⟩
  apply step_lone_go
  have : stepG P true { frame := fr, callers := cs, status := .running, dying := none } w = stepG.apply P true fr cs none (execOp fr.eval o) w := by
    have hop : fr.oper? = some o := by simp [Frame.oper?, ht, ho]
    simp only [stepG, hm, stepG.exec, ht, ho, Option.map_some, Option.getD_some, hw, if_true, stepG.oper, hop]
    cases hr : fr.roundOf with
    | none => rfl
    | some l =>
      cases hoo : o.op <;> first | rfl | exact absurd hoo (hd _)
  rw [this]; exact h1

/-- The compiled operations, from the i-th on. -/
def OpersOK (P : Program) (Y : Tr TypeInfo) (ops : Array Oper) (nt : Nat) (i : Nat) (l : List AOper) : Prop := i + l.length = ops.size ∧ ∀ j a, l[j]? = some a → ∃ o, ops[i + j]? = some o ∧ OperOK P Y ops nt o a ∧ (∀ c, o.op ≠ .defer c)

theorem OpersOK.tail {ops : Array Oper} {nt i : Nat} {a : AOper} {l : List AOper} (h : OpersOK P Y ops nt i (a :: l)) : OpersOK P Y ops nt (i + 1) l :=
  ⟨by have := h.1; simp only [List.length_cons] at this; omega, fun j b e => by
    obtain ⟨o, h1, h2⟩ := h.2 (j + 1) b (by simpa using e)
    exact ⟨o, by rw [show i + 1 + j = i + (j + 1) from by omega]; exact h1, h2⟩⟩

def putT (tmps : Array Value) (dst : Option Tmp) (v : Value) : Array Value :=
  match dst with
  | some d => tmps.setIfInBounds d v
  | none => tmps

theorem putT_size (tmps : Array Value) (dst : Option Tmp) (v : Value) : (putT tmps dst v).size = tmps.size := by cases dst <;> simp [putT]

/-- The frame behind an operation. -/
theorem finish_region {fr : Frame} {ops : Array Oper} {i : Nat} {rest : List Nat} {k : List Item} {o : Oper} (ht : fr.todo = .inRegion ops (i :: rest) :: k) (ho : ops[i]? = some o) (v : Value) :
    fr.finish v = { fr with tmps := putT fr.tmps o.dst v, todo := .inRegion ops rest :: k } := by
  simp only [Frame.finish, ht, ho, Option.bind_some]
  cases o.dst <;> rfl

theorem TR.setDst {β : Ren} {T : Tr Value} {tmps : Array Value} (r : TR β T tmps) {dst : Option Tmp} {nt : Nat} (hd : ∀ d, dst = some d → d < nt) (hn : nt ≤ tmps.size) {v v' : Value} (hv : VR β v v') :
    TR β (setDst T dst v) (putT tmps dst v') := by
  cases dst with
  | none => exact r
  | some d => exact r.set (Nat.lt_of_lt_of_le (hd d rfl) hn) hv

theorem evOps_ok {env : List LoopE} {call : CallA} (hcall : CallOK P Y env call) {ops : Array Oper} {nt : Nat} : ∀ (l : List AOper) (i : Nat), OpersOK P Y ops nt i l → ∀ (T : Tr Value) (H : AH) (T' : Tr Value) (H' : AH),
    evOps call l T H = some (T', H') → WF H →
    HX H H' ∧ ∀ (β : Ren) (w : World) (fr : Frame) (k : List Item) (cs : List Frame), Rep β H.get w → Free β H.ctr H'.ctr → GlobOK P β → EnvOK P Y β env → TR β T fr.tmps → nt ≤ fr.tmps.size → fr.mode = .run →
      fr.todo = .inRegion ops (List.range' i l.length) :: k →
      ∃ β' w' tmps', Steps P (lone fr cs w) (lone { fr with tmps := tmps', todo := .inRegion ops [] :: k } cs w') ∧ tmps'.size = fr.tmps.size ∧ TR β' T' tmps' ∧ Rep β' H'.get w' ∧ Ev β H.get H.ro H.ctr w β' H'.ctr w' := by
  intro l
  induction l with
  | nil =>
    intro i _ T H T' H' e wf
    simp only [evOps] at e; cases e
    refine ⟨HX.refl wf, fun β w fr k cs hr _ _ _ ht _ _ htodo => ⟨β, w, fr.tmps, ?_, rfl, ht, hr, Ev.refl _ _ _ _ _⟩⟩
    have : fr = { fr with tmps := fr.tmps, todo := .inRegion ops [] :: k } := by
      cases fr; simp only at htodo; subst htodo; rfl
    rw [← this]; exact .refl _ _
  | cons a l ih =>
    intro i hl T H T' H' e wf
    obtain ⟨o, ho, hok, hnd⟩ := hl.2 0 a (by simp)
    rw [Nat.add_zero] at ho
    simp only [evOps] at e
    split at e
    · rename_i hw
      split at e
      · rename_i v H1 hrun
        obtain ⟨x1, x2⟩ := hok.go env call hcall T H v H1 hrun wf
        obtain ⟨y1, y2⟩ := ih (i + 1) hl.tail _ _ _ _ e x1.wf
        refine ⟨x1.trans y1, fun β w fr k cs hr hf hg he ht hn hm htodo => ?_⟩
        rw [List.length_cons, List.range'_succ] at htodo
        have hwant : Region.wanted o (yielded ops fr.tmps) = true := by rw [wanted_ok ht hok hn]; exact hw
        have hgo := x2 β w fr cs hr (hf.left y1.ctr) hg he (fun x hx => eval_ok hg ht (hok.opds x hx)) (.inl ⟨ops, i, _, k, htodo⟩)
        obtain ⟨v', w1, s1, β1, q1, q2, q3⟩ := goes_step hm htodo ho hwant hnd hgo
        rw [finish_region htodo ho] at s1
        have hdst := hok.dst
        have hlt := hok.lt
        obtain ⟨β2, w2, tmps2, s2, g1, g2, g3, g4⟩ := y2 β1 w1 { fr with tmps := putT fr.tmps o.dst v', todo := .inRegion ops (List.range' (i + 1) l.length) :: k } k cs q2 (hf.right q3 x1.ctr)
          (hg.mono q3.le) (he.mono q3.le) (by rw [hdst]; exact (ht.mono q3.le).setDst hlt hn q1) (by rw [putT_size]; exact hn) hm rfl
        refine ⟨β2, w2, tmps2, s1.trans s2, ?_, g2, g3, Ev.trans q3 x1 g4 hf y1.ctr⟩
        rw [g1, putT_size]
      · cases e
    · rename_i hw
      obtain ⟨y1, y2⟩ := ih (i + 1) hl.tail _ _ _ _ e wf
      refine ⟨y1, fun β w fr k cs hr hf hg he ht hn hm htodo => ?_⟩
      rw [List.length_cons, List.range'_succ] at htodo
      have hwant : Region.wanted o (yielded ops fr.tmps) = false := by rw [wanted_ok ht hok hn]; simpa using hw
      have s1 := step_inRegion_skip (P := P) (cs := cs) (w := w) hm htodo ho hwant
      rw [finish_region htodo ho] at s1
      have hdst := hok.dst
      have hlt := hok.lt
      obtain ⟨β2, w2, tmps2, s2, g1, g2, g3, g4⟩ := y2 β w { fr with tmps := putT fr.tmps o.dst undef, todo := .inRegion ops (List.range' (i + 1) l.length) :: k } k cs hr hf hg he
        (by rw [hdst]; exact ht.setDst hlt hn VR.uv) (by rw [putT_size]; exact hn) hm rfl
      refine ⟨β2, w2, tmps2, .head s1 s2, ?_, g2, g3, g4⟩
      rw [g1, putT_size]

end region

/-! ## Code -/
/-- The frame in its function or in its round. -/
structure Ctx (P : Program) (Y : Tr TypeInfo) (β : Ren) (env : List LoopE) (rnd : Option Nat) (fr : Frame) : Prop where
  mode : fr.mode = .run
  kind : fr.kind = .normal
  round : match rnd with | none => fr.roundOf = none | some l => ∃ I, β l = some I ∧ fr.roundOf = some I.blk
  glob : GlobOK P β
  env : EnvOK P Y β env

theorem Ctx.mono {P : Program} {Y : Tr TypeInfo} {β β' : Ren} (h : β.le β') {env : List LoopE} {rnd : Option Nat} {fr fr' : Frame} (r : Ctx P Y β env rnd fr) (h1 : fr'.mode = fr.mode) (h2 : fr'.kind = fr.kind) (h3 : fr'.roundOf = fr.roundOf) : Ctx P Y β' env rnd fr' :=
  ⟨h1.trans r.mode, h2.trans r.kind, by
    have := r.round
    cases rnd with
    | none => exact h3.trans this
    | some l => obtain ⟨I, a, b⟩ := this; exact ⟨I, h _ _ a, h3.trans b⟩, r.glob.mono h, r.env.mono h⟩

/-- The marks of loops over functions among a frame's deferred calls. -/
def Marks (β : Ren) (w : World) : List Deferred → Prop
  | [] => True
  | d :: ds => (∃ B, d = { target := .collected B, args := #[] } ∧ w.heap[B]? = some (.deferred (some [])) ∧ (∀ n I, β n = some I → I.blk ≠ B) ∧ (∀ e ∈ ds, ∀ C, e.target = .collected C → C ≠ B)) ∧ Marks β w ds

theorem heap_lt {w : World} {B : Nat} {o : Obj} (h : w.heap[B]? = some o) : B < w.heap.size := by
  by_cases k : B < w.heap.size
  · exact k
  · rw [Array.getElem?_eq_none (by omega)] at h; cases h

theorem Marks.mono {β β' : Ren} {g : Nat → Option AObj} {ro c c' : Nat} {w w' : World} (e : Ev β g ro c w β' c' w') : ∀ (ds : List Deferred), Marks β w ds → Marks β' w' ds := by
  intro ds
  induction ds with
  | nil => intro _; trivial
  | cons d ds ih =>
    intro ⟨⟨B, h1, h2, h3, h4⟩, h5⟩
    have hlt := heap_lt h2
    refine ⟨⟨B, h1, ?_, ?_, h4⟩, ih h5⟩
    · rw [e.keep B hlt (fun m J _ _ hb => h3 m J hb)]; exact h2
    · intro n I hI hb
      cases h : β n with
      | some J =>
        have := e.le _ _ h
        rw [hI] at this; cases this
        exact h3 n I h hb
      | none =>
        rcases e.img n I hI h with k | ⟨m, J, _, _, hj, hk⟩
        · omega
        · exact h3 m J hj (hk.trans hb)

/-- Where a piece of code leaves the frame. -/
def Reach (P : Program) (m : Machine) (fr : Frame) (k : List Item) (cs : List Frame) (out : Out) (tmps : Array Value) (D : List Deferred) (w : World) : Prop :=
  match out with
  | .normal => Steps P m (lone { fr with todo := k, tmps := tmps, defers := D ++ fr.defers } cs w)
  | .exit id => ∃ K, exitTo id K = exitTo id k ∧ Steps P m (lone { fr with todo := .code (.exit id) :: K, tmps := tmps, defers := D ++ fr.defers } cs w)
  | .ret => ∃ K, Steps P m (lone { fr with todo := .code .ret :: K, tmps := tmps, defers := D ++ fr.defers } cs w)

/-- Where a piece of code begins. -/
def Begins (m : Machine) (fr : Frame) (c : Code) (k : List Item) (cs : List Frame) (w : World) : Prop :=
  m = lone { fr with todo := .code c :: k } cs w ∨ ∃ b, c = .loop b ∧ m = lone { fr with todo := .inLoop b :: k } cs w

def Comp (P : Program) (Y : Tr TypeInfo) (c : ACode) : Prop := ∃ code nt, comp P Y nt code = some c

def EnvC (P : Program) (Y : Tr TypeInfo) (env : List LoopE) : Prop := ∀ e ∈ env, Comp P Y e.assign ∧ Comp P Y e.body

/-- Code, run abstractly, is what the machine runs. -/
def EvOK (P : Program) (Y : Tr TypeInfo) (ev : EvA) : Prop :=
  ∀ (env : List LoopE) (rnd : Option Nat) (c : ACode) (T : Tr Value) (H : AH) (out : Out) (T' : Tr Value) (H' : AH), EnvC P Y env → Comp P Y c → ev env rnd c T H = some (out, T', H') → WF H →
    HX H H' ∧ ∀ (β : Ren) (w : World) (fr : Frame) (k : List Item) (cs : List Frame) (code : Code) (nt : Nat) (m : Machine), comp P Y nt code = some c → Rep β H.get w → Free β H.ctr H'.ctr → Ctx P Y β env rnd fr →
      TR β T fr.tmps → nt ≤ fr.tmps.size → Begins m fr code k cs w →
      ∃ β' w' tmps' D, Reach P m fr k cs out tmps' D w' ∧ tmps'.size = fr.tmps.size ∧ TR β' T' tmps' ∧ Rep β' H'.get w' ∧ Ev β H.get H.ro H.ctr w β' H'.ctr w' ∧ Marks β' w' D ∧
        (∀ d ∈ D, ∀ B, d.target = .collected B → w.heap.size ≤ B) ∧ (rnd ≠ none → D = [])

end Go.Proofs.YtlbmihpmcgiinaaGreatDoor.Own
end

/- The engine, part 10: functions, loops over functions, and the whole evaluator. -/
section
namespace Go.Proofs.YtlbmihpmcgiinaaGreatDoor.Own
open Go

section
variable {P : Program} {Y : Tr TypeInfo}

/-! ## Results -/
def resM (tmps : Array Value) (r : ResultVar) : Sem Value :=
  match r with
  | .tmp t => pure (tmps.getD t undef)
  | .cell a t => do loadVar t (← asAddr (tmps.getD a undef))

theorem results_eq (fn : Func) (tmps : Array Value) : results fn tmps = (do
    let vs ← fn.results.mapM (resM tmps)
    pure (if h : vs.size = 1 then vs[0] else .tuple vs)) := by
  unfold results
  congr 1
theorem resA_ok (hY : TyOK P Y) {r : ResultVar} {a : AResult} (hc : compRes Y [r] = some [a]) {T : Tr Value} {H : AH} {v : Value} (h : resA T H a = some v) {β : Ren} {w : World} (hr : Rep β H.get w) {tmps : Array Value} (ht : TR β T tmps) :
    ∃ v', (resM tmps r).run P w = .ok v' w ∧ VR β v v' := by
  cases r with
  | tmp t =>
    simp only [compRes] at hc
    cases hc
    simp only [resA] at h; cases h
    exact ⟨tmps.getD t undef, rfl, ht t⟩
  | cell b t =>
    simp only [compRes] at hc
    split at hc
    · rename_i a' l h1 h2
      cases h2
      cases hc
      split at h1
      · rename_i n hag hsz
        cases h1
        simp only [resA] at h
        split at h
        · rename_i ad had
          split at h
          · rename_i c hcc
            cases h
            have hv := ht b
            have hb : opv T (.tmp b) = .pointer (some ad) := by
              unfold asAddrA at had; split at had
              · rename_i hh; cases had; exact hh
              · cases had
            rw [hb] at hv
            obtain ⟨ad', he, hp⟩ := hv.ptr_inv
            obtain ⟨_, l', hl, hlen, hcell⟩ := readCells_rep hcc hr hp
            obtain ⟨i, hi, rfl⟩ := size_ok hY hsz
            have := run_loadCells P w ad' l' i.size (by rw [← hl.1, hlen]) hcell
            refine ⟨.agg l'.toArray, ?_, VR.agg_mk hl⟩
            simp [resM, he, asAddr, loadVar, isAgg_ok hY hag w, run_size w hi, this]
          · cases h
        · cases h
      · rename_i n hag hsz
        cases h1
        simp only [resA] at h
        split at h
        · rename_i ad had
          split at h
          · rename_i c hcc
            cases h
            have hv := ht b
            have hb : opv T (.tmp b) = .pointer (some ad) := by
              unfold asAddrA at had; split at had
              · rename_i hh; cases had; exact hh
              · cases had
            rw [hb] at hv
            obtain ⟨ad', he, hp⟩ := hv.ptr_inv
            obtain ⟨_, l', hl, hlen, hcell⟩ := readCells_rep hcc hr hp
            obtain ⟨y, m, rfl, hy, hm⟩ := hl.head
            have h0 := hcell 0 y (by simp)
            rw [addr_add_zero] at h0
            refine ⟨y, ?_, hy⟩
            simp [resM, he, asAddr, loadVar, isAgg_ok hY hag w, h0]
          · cases h
        · cases h
      · cases h1
    · cases hc

theorem compRes_cons {r : ResultVar} {l : List ResultVar} {rs : List AResult} (h : compRes Y (r :: l) = some rs) : ∃ a m, rs = a :: m ∧ compRes Y [r] = some [a] ∧ compRes Y l = some m := by
  simp only [compRes] at h ⊢
  split at h
  · rename_i a m h1 h2
    cases h
    refine ⟨a, m, rfl, ?_, h2⟩
    rw [h1]
  · cases h

theorem resultsA_ok (hY : TyOK P Y) {T : Tr Value} {H : AH} {β : Ren} {w : World} (hr : Rep β H.get w) {tmps : Array Value} (ht : TR β T tmps) : ∀ (l : List ResultVar) (rs : List AResult) (vs : List Value), compRes Y l = some rs → resultsA T H rs = some vs →
    ∃ vs', (l.mapM (resM tmps)).run P w = .ok vs' w ∧ VRs β vs vs' := by
  intro l
  induction l with
  | nil =>
    intro rs vs h e
    simp [compRes] at h; subst h
    simp [resultsA] at e; subst e
    exact ⟨[], by simp, .nil⟩
  | cons r l ih =>
    intro rs vs h e
    obtain ⟨a, m, rfl, h1, h2⟩ := compRes_cons h
    simp only [resultsA] at e
    split at e
    · rename_i v hv
      split at e
      · rename_i vs1 hvs
        cases e
        obtain ⟨v', k1, k2⟩ := resA_ok hY h1 hv hr ht
        obtain ⟨vs', k3, k4⟩ := ih m vs1 h2 hvs
        refine ⟨v' :: vs', ?_, .cons k2 k4⟩
        rw [List.mapM_cons]
        simp only [Sem.run_bind, k1, Result.andThen_ok, k3, Sem.run_pure]
      · cases e
    · cases e

theorem results_ok (hY : TyOK P Y) {fn : Func} {rs : List AResult} (hc : compRes Y fn.results.toList = some rs) {T : Tr Value} {H : AH} {vs : List Value} (h : resultsA T H rs = some vs) {β : Ren} {w : World} (hr : Rep β H.get w) {tmps : Array Value} (ht : TR β T tmps) :
    ∃ v, (results fn tmps).run P w = .ok v w ∧ VR β (packA vs) v := by
  obtain ⟨vs', h1, h2⟩ := resultsA_ok hY hr ht _ _ _ hc h
  rw [results_eq, Array.mapM_eq_mapM_toList]
  simp only [Sem.run_bind, Sem.run_map, h1, Result.andThen_ok, Sem.run_pure]
  refine ⟨_, rfl, ?_⟩
  cases vs with
  | nil => rw [h2.nil_inv]; exact VR.tuple_mk VRs.nil
  | cons x l =>
    obtain ⟨y, m, rfl, hy, hm⟩ := h2.head
    cases l with
    | nil => rw [hm.nil_inv]; simpa [packA] using hy
    | cons x2 l2 =>
      obtain ⟨y2, m2, rfl, hy2, hm2⟩ := hm.head
      simp only [packA]
      rw [dif_neg (by simp)]
      exact VR.tuple_mk (.cons hy (.cons hy2 hm2))

/-! ## A function's frame -/
theorem initT_get : ∀ (l : List Value) (i : Nat) (T : Tr Value) (t : Nat), opv (initT i l T) (.tmp t) = if i ≤ t ∧ t < i + l.length then l.getD (t - i) uv else opv T (.tmp t) := by
  intro l
  induction l with
  | nil => intro i T t; simp [initT]; intro h1 h2; omega
  | cons v l ih =>
    intro i T t
    rw [initT, ih, opv_set]
    by_cases h1 : t = i
    · subst h1
      rw [if_neg (by omega), if_pos rfl, if_pos ⟨Nat.le_refl _, by simp only [List.length_cons]; omega⟩]; simp
    · by_cases h2 : i + 1 ≤ t ∧ t < i + 1 + l.length
      · rw [if_pos h2, if_pos ⟨by omega, by simp only [List.length_cons]; omega⟩, show t - i = (t - (i + 1)) + 1 from by omega]; simp
      · rw [if_neg h2, if_neg h1, if_neg (by simp only [List.length_cons]; omega)]

theorem initT_ok {β : Ren} {args args' : List Value} (h : VRs β args args') (n : Nat) : TR β (initT 0 args .leaf) (args'.toArray ++ Array.replicate n undef) := by
  intro t
  rw [initT_get]
  have hl := h.1
  by_cases k : t < args.length
  · rw [if_pos ⟨Nat.zero_le _, by omega⟩, Nat.sub_zero]
    rw [Array.getD_eq_getD_getElem?, Array.getElem?_append_left (by simp; omega)]
    have := h.2 t k
    have e : args'[t]? = some (args'.getD t uv) := by rw [List.getD_eq_getElem?_getD, List.getElem?_eq_getElem (by omega)]; rfl
    rw [List.getElem?_toArray, e]
    exact this
  · rw [if_neg (by omega)]
    have : (args'.toArray ++ Array.replicate n undef).getD t undef = undef := by
      rw [Array.getD_eq_getD_getElem?, Array.getElem?_append_right (by simp; omega), Array.getElem?_replicate]
      split <;> rfl
    rw [this]
    simp only [opv, Tr.get_leaf]
    exact VR.uv

/-- The world behind the marks: blocks that no address of ours names. -/
theorem unwind_marks {β : Ren} : ∀ (D : List Deferred) (w : World) (fr : Frame) (cs : List Frame), Marks β w D → fr.mode = .returning → fr.defers = D →
    ∃ w', Steps P (lone fr cs w) (lone { fr with defers := [] } cs w') ∧ w'.heap.size = w.heap.size ∧ w'.tape = w.tape ∧ w'.os = w.os ∧ w'.output = w.output ∧
      (∀ B, (∀ d ∈ D, ∀ C, d.target = .collected C → C ≠ B) → w'.heap[B]? = w.heap[B]?) := by
  intro D
  induction D with
  | nil =>
    intro w fr cs _ _ hd
    have : fr = { fr with defers := [] } := by cases fr; simp only at hd; subst hd; rfl
    exact ⟨w, by rw [← this]; exact .refl _ _, rfl, rfl, rfl, rfl, fun _ _ => rfl⟩
  | cons d D ih =>
    intro w fr cs hm hmode hd
    obtain ⟨⟨B, rfl, hB, h3, h4⟩, h5⟩ := hm
    have ht := setObj_turned (o2 := .deferred none) hB
    have hm2 : Marks β { w with heap := w.heap.setIfInBounds B (.deferred none) } D := by
      clear ih hd
      induction D with
      | nil => trivial
      | cons e D ih2 =>
        obtain ⟨⟨C, rfl, hC, k3, k4⟩, k5⟩ := h5
        refine ⟨⟨C, rfl, ?_, k3, k4⟩, ih2 k5 (fun e' he' => h4 e' (List.mem_cons_of_mem _ he'))⟩
        rw [ht.rest C (h4 _ List.mem_cons_self C rfl)]; exact hC
    obtain ⟨w', s, g1, g2, g3, g4, g5⟩ := ih _ { fr with defers := D } cs hm2 hmode rfl
    refine ⟨w', .head ?_ s, by rw [g1]; simp, g2, g3, g4, ?_⟩
    · apply step_lone_go
      have hrun : (Instr.takeDeferred B).run P w = .ok [] { w with heap := w.heap.setIfInBounds B (.deferred none) } := by
        simp only [Instr.takeDeferred, Sem.run_bind, getObj_run hB (by intro c e f h; cases h), Result.andThen_ok, setObj_run hB (by intro c e f h; cases h), Sem.run_pure]
      simp [stepG, hmode, unwind, hd, hrun]
    · intro C hC
      rw [g5 C (fun d hd => hC d (List.mem_cons_of_mem _ hd))]
      exact ht.rest C (fun h => hC _ List.mem_cons_self B rfl h.symm)

/-- From the end of a function's body to its caller. -/
theorem leave_fn (hY : TyOK P Y) {fn : Func} {f : FuncId} {rs : List AResult} (hf : P.funcs[f]? = some fn) (hc : compRes Y fn.results.toList = some rs) {T : Tr Value} {H : AH} {vs : List Value} (h : resultsA T H rs = some vs)
    {β : Ren} {w : World} (hr : Rep β H.get w) {fr : Frame} (ht : TR β T fr.tmps) (hm : fr.mode = .returning) (hk : fr.kind = .normal) (hfn : fr.fn = f) (hD : Marks β w fr.defers) (c : Frame) (cs : List Frame) :
    ∃ v w', Steps P (lone fr (c :: cs) w) (lone (c.finish v) cs w') ∧ VR β (packA vs) v ∧ Rep β H.get w' ∧ w'.heap.size = w.heap.size ∧ w'.tape = w.tape ∧ w'.os = w.os ∧ w'.output = w.output ∧
      (∀ B, (∀ d ∈ fr.defers, ∀ C, d.target = .collected C → C ≠ B) → w'.heap[B]? = w.heap[B]?) := by
  obtain ⟨w', s, g1, g2, g3, g4, g5⟩ := unwind_marks (P := P) fr.defers w fr (c :: cs) hD hm rfl
  have hr' : Rep β H.get w' := by
    refine ⟨fun n o e => ?_, hr.inj, fun n I e => by rw [g1]; exact hr.bnd n I e⟩
    obtain ⟨I, o', h1, h2, h3⟩ := hr.obj n o e
    refine ⟨I, o', h1, ?_, h3⟩
    rw [g5 I.blk (fun d hd C hC he => ?_)]
    · exact h2
    · clear s g5
      revert hd
      generalize fr.defers = ds at hD
      intro hd
      induction ds with
      | nil => simp at hd
      | cons e ds ih =>
        obtain ⟨⟨B, rfl, _, k3, _⟩, k5⟩ := hD
        rcases List.mem_cons.mp hd with rfl | hd
        · cases hC; exact k3 n I h1 he.symm
        · exact ih k5 hd
  obtain ⟨v, hv1, hv2⟩ := results_ok hY hc h hr' (tmps := fr.tmps) ht
  refine ⟨v, w', s.trans (.one ?_), hv2, hr', g1, g2, g3, g4, g5⟩
  exact step_leave_returned (fr := { fr with defers := [] }) ⟨hm, rfl, hk, fn, by show P.funcs[fr.fn]? = _; rw [hfn]; exact hf, hv1⟩

/-- The table of compiled functions. -/
def TabOK (P : Program) (Y : Tr TypeInfo) (F : Tr AFunc) : Prop := ∀ k a, F.get k = some a → ∃ fn, P.funcs[k]? = some fn ∧ compF P Y fn = some a ∧ fn.name ≠ "runtime.NumGoroutine"

theorem callFn_ok (hY : TyOK P Y) {F : Tr AFunc} (hF : TabOK P Y F) {ev : EvA} (hev : EvOK P Y ev) {env : List LoopE} (henv : EnvC P Y env) {k : Nat} {args : List Value} {H : AH} {va : Value} {H' : AH} (h : callFn F ev env k args H = some (va, H')) (wf : WF H) :
    HX H H' ∧ ∀ (β : Ren) (w : World) (args' : Array Value) (fr : Frame) (cs : List Frame), Rep β H.get w → Free β H.ctr H'.ctr → GlobOK P β → EnvOK P Y β env → VRs β args args'.toList → Plain fr →
      Goes P (callFunc k args') fr cs w (Post β H H' w va) := by
  unfold callFn at h
  split at h
  · rename_i nt rs body hget
    obtain ⟨fn, hfn, hcomp, hname⟩ := hF _ _ hget
    unfold compF at hcomp
    split at hcomp
    · rename_i c hbody
      split at hcomp
      · rename_i b r hcb hcr
        cases hcomp
        split at h
        · rename_i hle
          have hle : args.length ≤ fn.ntmps := by simpa using hle
          split at h
          · cases h
          · rename_i out T H1 hout hev1
            split at h
            · rename_i vs hvs
              cases h
              obtain ⟨x1, x2⟩ := hev _ _ _ _ _ _ _ _ henv ⟨c, fn.ntmps, hcb⟩ hev1 wf
              refine ⟨x1, fun β w args' fr cs hr hf hg he hv hp => ?_⟩
              have hal : args'.size = args.length := by have := hv.1; simpa using this.symm
              refine goes_enter (f := k) (args := args') (w1 := w) hp ?_ ?_
              · unfold callFunc
                simp only [Sem.run_bind, run_program, Result.andThen_ok, hfn]
                have h1 : (fn.name == "runtime.NumGoroutine") = false := by simpa using hname
                rw [h1]
                simp [hbody]
              · let fr0 : Frame := Frame.enter P k args' .normal
                have htm : fr0.tmps = args' ++ Array.replicate (fn.ntmps - args'.size) undef := by simp [fr0, Frame.enter, hfn]
                have hbeg : Begins (lone fr0 (fr :: cs) w) fr0 c [] (fr :: cs) w := by
                  left
                  congr 1
                  simp [fr0, Frame.enter, hfn, hbody]
                obtain ⟨β', w', tmps', D, q1, q2, q3, q4, q5, q6, q7, q8⟩ := x2 β w fr0 [] (fr :: cs) c fn.ntmps _ hcb hr hf ⟨rfl, rfl, rfl, hg, he⟩ (by rw [htm]; have := initT_ok hv (fn.ntmps - args'.size); simpa using this) (by rw [htm]; simp; omega) hbeg
                have fin : ∀ K, Steps P (lone fr0 (fr :: cs) w) (lone { fr0 with todo := K, tmps := tmps', defers := D ++ fr0.defers, mode := .returning } (fr :: cs) w') →
                    ∃ v w', Steps P (lone (Frame.enter P k args' .normal) (fr :: cs) w) (lone (fr.finish v) cs w') ∧ Post β H H' w (packA vs) v w' := by
                  intro K s
                  obtain ⟨v, w2, s2, e1, e2, e3, e4, e5, e6, e7⟩ := leave_fn hY (f := k) hfn hcr hvs q4 (fr := { fr0 with todo := K, tmps := tmps', defers := D ++ fr0.defers, mode := .returning }) q3 rfl rfl rfl (by
                    show Marks β' w' (D ++ [])
                    rw [List.append_nil]; exact q6) fr cs
                  refine ⟨v, w2, s.trans s2, β', e1, e2, ⟨q5.le, q5.fresh, q5.img, ?_, by rw [e3]; exact q5.size, e4.trans q5.tape, e5.trans q5.os, e6.trans q5.output⟩⟩
                  intro B hB hk
                  rw [e7 B (fun d hd C hC hCB => ?_)]
                  · exact q5.keep B hB hk
                  · have hd' : d ∈ D := by
                      have : d ∈ D ++ [] := hd
                      simpa using this
                    have := q7 d hd' C hC
                    omega
                cases out with
                | normal =>
                  refine fin [] (Steps.trans q1 (.one ?_))
                  apply step_lone_go
                  simp [stepG, stepG.exec, fr0, Frame.enter]
                | exit id => exact (hout id rfl).elim
                | ret =>
                  obtain ⟨K, s⟩ := q1
                  refine fin (.code .ret :: K) (Steps.trans s (.one ?_))
                  apply step_lone_go
                  simp [stepG, stepG.exec, fr0, Frame.enter]
            · cases h
          · cases h
        · cases h
      · cases hcomp
    · cases hcomp
  · cases h

/-! ## A round -/
theorem getLoop_run {β : Ren} {n : Nat} {I : BI} {st : LoopState} {p : Option Out} {L : LoopS} {w : World} {g : Nat → Option AObj} (hr : Rep β g w) (h : g n = some (.loop st p)) (hb : β n = some I) (hl : I.loop = some L) :
    w.heap[I.blk]? = some (.loop { state := st, pending := pendCode p, fn := L.fn, tmps := L.tmps, params := L.params, assign := L.assign, body := L.body, defers := L.defers }) := by
  obtain ⟨J, o', h1, h2, h3⟩ := hr.obj n _ h
  rw [hb] at h1; cases h1
  cases h3 with
  | loop e => rw [hl] at e; cases e; exact h2

theorem run_getLoop {w : World} {l : Nat} {L : Loop} (h : w.heap[l]? = some (.loop L)) : (Instr.getLoop l).run P w = .ok L w := by
  simp only [Instr.getLoop, Sem.run_bind, getObj_run h (by intro c e f k; cases k), Result.andThen_ok, Sem.run_pure]

theorem findLoop_spec : ∀ (env : List LoopE) (n : Nat) (e : LoopE), findLoop env n = some e → e ∈ env ∧ e.name = n := by
  intro env
  induction env with
  | nil => intro n e h; cases h
  | cons x env ih =>
    intro n e h
    simp only [findLoop] at h
    split at h
    · rename_i hb; cases h; exact ⟨List.mem_cons_self, by simpa using hb⟩
    · obtain ⟨h1, h2⟩ := ih n e h; exact ⟨List.mem_cons_of_mem _ h1, h2⟩

theorem setAll_ok {β : Ren} {nt : Nat} : ∀ (ps : List Tmp) (vs vs' : List Value) (T T' : Tr Value) (tmps : Array Value), setAll T ps vs = some T' → VRs β vs vs' → TR β T tmps → nt ≤ tmps.size → (∀ p ∈ ps, p < nt) →
    vs.length = ps.length ∧ TR β T' ((ps.zip vs').foldl (fun (tmps : Array Value) (x : Tmp × Value) => tmps.setIfInBounds x.1 x.2) tmps) ∧ ((ps.zip vs').foldl (fun (tmps : Array Value) (x : Tmp × Value) => tmps.setIfInBounds x.1 x.2) tmps).size = tmps.size := by
  intro ps
  induction ps with
  | nil =>
    intro vs vs' T T' tmps h hv ht _ _
    cases vs with
    | nil => simp only [setAll] at h; cases h; exact ⟨rfl, by simpa using ht, by simp⟩
    | cons x l => simp [setAll] at h
  | cons p ps ih =>
    intro vs vs' T T' tmps h hv ht hn hp
    cases vs with
    | nil => simp [setAll] at h
    | cons x l =>
      obtain ⟨y, m, rfl, hy, hm⟩ := hv.head
      simp only [setAll] at h
      obtain ⟨h1, h2, h3⟩ := ih l m _ T' (tmps.setIfInBounds p y) h hm (ht.set (Nat.lt_of_lt_of_le (hp p List.mem_cons_self) hn) hy) (by simpa using hn) (fun q hq => hp q (List.mem_cons_of_mem _ hq))
      exact ⟨by simp [h1], by simpa using h2, by simpa using h3⟩

theorem step_leave_round {fr c : Frame} {cs : List Frame} {w w' : World} {B : Nat} {jump : Option Code} {v : Value} (hm : fr.mode = .run) (hk : fr.kind = .normal) (hr : fr.roundOf = some B)
    (ht : (fr.todo = [] ∧ jump = none) ∨ (∃ K, fr.todo = .code .ret :: K ∧ jump = some .ret) ∨ (∃ id K, fr.todo = .code (.exit id) :: K ∧ exitTo id K = none ∧ jump = some (.exit id)))
    (h : (Instr.endRound B jump).run P w = .ok v w') : step P (lone fr (c :: cs) w) = .next (lone (c.finish v) cs w') := by
  apply step_lone_go
  rcases ht with ⟨ht, rfl⟩ | ⟨K, ht, rfl⟩ | ⟨id, K, ht, hx, rfl⟩
  · simp [stepG, stepG.exec, hm, ht, hr, h, doReturn, hk]
  · simp [stepG, stepG.exec, hm, ht, hr, h, doReturn, hk]
  · simp [stepG, stepG.exec, hm, ht, hr, h, doReturn, hk, hx]

theorem write_loop {H H' : AH} (wf : WF H) {l : Nat} {st st' : LoopState} {p p' : Option Out} (hg : H.get l = some (.loop st p)) (hw : H.write l (.loop st' p') = some H') :
    HX H H' ∧ H'.ctr = H.ctr ∧ ∀ (β : Ren) (w : World) (I : BI) (L : LoopS), Rep β H.get w → β l = some I → I.loop = some L →
      ∃ w', Turned w I.blk (.loop { state := st', pending := pendCode p', fn := L.fn, tmps := L.tmps, params := L.params, assign := L.assign, body := L.body, defers := L.defers }) w' ∧
        w' = { w with heap := w.heap.setIfInBounds I.blk (.loop { state := st', pending := pendCode p', fn := L.fn, tmps := L.tmps, params := L.params, assign := L.assign, body := L.body, defers := L.defers }) } ∧
        Rep β H'.get w' ∧ Ev β H.get H.ro H.ctr w β H'.ctr w' := by
  obtain ⟨x1, x2, x3, x4, x5⟩ := write_rep wf hg hw
  refine ⟨x1, x2, fun β w I L hr hb hl => ?_⟩
  have hL := getLoop_run hr hg hb hl
  have ht := setObj_turned (o2 := .loop { state := st', pending := pendCode p', fn := L.fn, tmps := L.tmps, params := L.params, assign := L.assign, body := L.body, defers := L.defers }) hL
  obtain ⟨r1, r2⟩ := x5 β w _ _ I hr hb ht (.loop hl)
  exact ⟨_, ht, rfl, r1, r2⟩

theorem endRound_ok {H H' : AH} (wf : WF H) {l : Nat} {out : Out} {va : Value} (h : endRoundA l out H = some (va, H')) :
    HX H H' ∧ H'.ctr = H.ctr ∧ ∀ (β : Ren) (w : World) (I : BI) (L : LoopS), Rep β H.get w → β l = some I → I.loop = some L →
      ∃ w', (Instr.endRound I.blk (outCode out)).run P w = .ok va w' ∧ VR β va va ∧ Rep β H'.get w' ∧ Ev β H.get H.ro H.ctr w β H'.ctr w' := by
  unfold endRoundA at h
  split at h
  · rename_i st p hg
    split at h
    · split at h
      · rename_i H1 hw
        cases h
        obtain ⟨x1, x2, x3⟩ := write_loop wf hg hw
        refine ⟨x1, x2, fun β w I L hr hb hl => ?_⟩
        obtain ⟨w', ht, rfl, r1, r2⟩ := x3 β w I L hr hb hl
        have hL := getLoop_run hr hg hb hl
        refine ⟨_, ?_, .bool _, r1, r2⟩
        simp only [Instr.endRound, Sem.run_bind, run_getLoop hL, Result.andThen_ok, setObj_run hL (by intro c e f k; cases k), Sem.run_pure, outCode, Option.isNone_none, if_true, pendCode]
      · cases h
    · rename_i hout
      split at h
      · rename_i H1 hw
        cases h
        obtain ⟨x1, x2, x3⟩ := write_loop wf hg hw
        refine ⟨x1, x2, fun β w I L hr hb hl => ?_⟩
        obtain ⟨w', ht, rfl, r1, r2⟩ := x3 β w I L hr hb hl
        have hL := getLoop_run hr hg hb hl
        refine ⟨_, ?_, .bool _, r1, r2⟩
        cases out with
        | normal => exact (hout rfl).elim
        | exit id =>
          simp only [Instr.endRound, Sem.run_bind, run_getLoop hL, Result.andThen_ok, setObj_run hL (by intro c e f k; cases k), Sem.run_pure, outCode, Option.isNone_some, pendCode]
          rfl
        | ret =>
          simp only [Instr.endRound, Sem.run_bind, run_getLoop hL, Result.andThen_ok, setObj_run hL (by intro c e f k; cases k), Sem.run_pure, outCode, Option.isNone_some, pendCode]
          rfl
      · cases h
  · cases h

theorem callYield_ok {ev : EvA} (hev : EvOK P Y ev) {env : List LoopE} (henv : EnvC P Y env) {l : Nat} {args : List Value} {H : AH} {va : Value} {H' : AH} (h : callYield ev env l args H = some (va, H')) (wf : WF H) :
    HX H H' ∧ ∀ (β : Ren) (w : World) (I : BI) (args' : Array Value) (fr : Frame) (cs : List Frame), Rep β H.get w → Free β H.ctr H'.ctr → GlobOK P β → EnvOK P Y β env → β l = some I → VRs β args args'.toList → Plain fr →
      Goes P (Instr.yield I.blk args') fr cs w (Post β H H' w va) := by
  unfold callYield at h
  split at h
  · rename_i e st0 p0 hfind hg0
    split at h
    · rename_i T hset
      split at h
      · rename_i T1 H1 hev1
        split at h
        · rename_i p1 hg1
          split at h
          · rename_i H2 hw2
            split at h
            · rename_i out T3 H3 hev3
              have hcc := henv e (findLoop_spec _ _ _ hfind).1
              obtain ⟨x1, y1⟩ := hev _ _ _ _ _ _ _ _ henv hcc.1 hev1 wf
              obtain ⟨x2, x2c, y2⟩ := write_loop x1.wf hg1 hw2
              obtain ⟨x3, y3⟩ := hev _ _ _ _ _ _ _ _ henv hcc.2 hev3 x2.wf
              obtain ⟨x4, x4c, y4⟩ := endRound_ok (P := P) x3.wf h
              refine ⟨x1.trans (x2.trans (x3.trans x4)), fun β w I args' fr cs hr hf hg he hb hv hp => ?_⟩
              obtain ⟨hmem, hname⟩ := findLoop_spec _ _ _ hfind
              obtain ⟨I', L, nt, hE⟩ := he e hmem
              have hII : I' = I := by have := hE.at_; rw [hname, hb] at this; cases this; rfl
              subst hII
              have hL0 := getLoop_run hr hg0 hb hE.loop
              obtain ⟨s1, s2, s3⟩ := setAll_ok (nt := nt) e.params args args'.toList e.tmps T L.tmps hset hv hE.tmps hE.size hE.lt
              have hpl : args'.size = L.params.size := by
                have a1 := hv.1; have a2 := hE.params
                have : args'.toList.length = L.params.toList.length := by rw [← a1, s1, a2]
                simpa using this
              let tm0 : Array Value := (e.params.zip args'.toList).foldl (fun (tmps : Array Value) (x : Tmp × Value) => tmps.setIfInBounds x.1 x.2) L.tmps
              have htm : (L.params.zip args').foldl (fun (tmps : Array Value) (x : Tmp × Value) => tmps.setIfInBounds x.1 x.2) L.tmps = tm0 := by
                rw [← Array.foldl_toList, Array.toList_zip, hE.params]
              have hn0 : nt ≤ tm0.size := by rw [show tm0.size = L.tmps.size from s3]; exact hE.size
              refine goes_round (l := I'.blk) (f := L.fn) (tmps := tm0) (assign := L.assign) (body := L.body) (w1 := w) hp ?_ ?_
              · simp only [Instr.yield, Sem.run_bind, run_getLoop hL0, Result.andThen_ok]
                rw [if_neg (by simpa using hpl)]
                have := htm
                simp only [Sem.run_pure]
                rw [← this]
              · let fr0 : Frame := Frame.round I'.blk L.fn tm0 L.assign L.body .normal
                -- the assignment of what was yielded
                obtain ⟨β1, w1, tmps1, D1, r1, r2, r3, r4, r5, r6, r7, r8⟩ := y1 β w fr0 [.beginRound, .code L.body] (fr :: cs) L.assign nt (lone fr0 (fr :: cs) w) hE.assign hr (hf.left (by have := x2.ctr; have := x3.ctr; have := x4.ctr; omega))
                  ⟨rfl, rfl, ⟨I', hb, rfl⟩, hg, he⟩ s2 hn0 (.inl rfl)
                have hD1 : D1 = [] := r8 (by simp)
                subst hD1
                have hf1 := hf.right r5 x1.ctr
                have hb1 := r5.le _ _ hb
                have hL1 := getLoop_run r4 hg1 hb1 hE.loop
                obtain ⟨w2, t2, rfl, q1, q2⟩ := y2 β1 w1 I' L r4 hb1 hE.loop
                have hf2 : Free β1 H2.ctr H'.ctr := by rw [x2c]; exact hf1
                -- the body
                let fr1 : Frame := { fr0 with todo := [.code L.body], tmps := tmps1, defers := [] }
                obtain ⟨β3, w3, tmps3, D3, u1, u2, u3, u4, u5, u6, u7, u8⟩ := y3 β1 _ fr1 [] (fr :: cs) L.body nt (lone fr1 (fr :: cs) _) hE.body q1 (hf2.left x4.ctr)
                  ⟨rfl, rfl, ⟨I', hb1, rfl⟩, hg.mono r5.le, he.mono r5.le⟩ r3 (by show nt ≤ tmps1.size; rw [r2]; exact hn0) (.inl rfl)
                have hb3 := u5.le _ _ hb1
                obtain ⟨w4, z1, z2, z3, z4⟩ := y4 β3 w3 I' L u4 hb3 hE.loop
                have st1 : Steps P (lone fr0 (fr :: cs) w) (lone { fr0 with todo := [.beginRound, .code L.body], tmps := tmps1, defers := [] } (fr :: cs) w1) := r1
                have st2 : step P (lone { fr0 with todo := [.beginRound, .code L.body], tmps := tmps1, defers := [] } (fr :: cs) w1) = .next (lone fr1 (fr :: cs) { w1 with heap := w1.heap.setIfInBounds I'.blk (.loop { state := .busy, pending := pendCode p1, fn := L.fn, tmps := L.tmps, params := L.params, assign := L.assign, body := L.body, defers := L.defers }) }) := by
                  apply step_lone_go
                  have hbr : (Instr.beginRound I'.blk).run P w1 = .ok () { w1 with heap := w1.heap.setIfInBounds I'.blk (.loop { state := .busy, pending := pendCode p1, fn := L.fn, tmps := L.tmps, params := L.params, assign := L.assign, body := L.body, defers := L.defers }) } := by
                    simp only [Instr.beginRound, Sem.run_bind, run_getLoop hL1, Result.andThen_ok, setObj_run hL1 (by intro c e f k; cases k), Sem.run_pure]
                  simp [stepG, stepG.exec, stepG.apply, fr0, fr1, Frame.round, hbr, Frame.finish]
                refine ⟨va, w4, st1.trans (.head st2 ?_), β3, z2, z3, ?_⟩
                · cases out with
                  | normal => exact Steps.trans u1 (.one (step_leave_round rfl rfl rfl (.inl ⟨rfl, rfl⟩) z1))
                  | exit id =>
                    obtain ⟨K, hK, su⟩ := u1
                    exact Steps.trans su (.one (step_leave_round rfl rfl rfl (.inr (.inr ⟨id, K, rfl, hK, rfl⟩)) z1))
                  | ret =>
                    obtain ⟨K, su⟩ := u1
                    exact Steps.trans su (.one (step_leave_round rfl rfl rfl (.inr (.inl ⟨K, rfl, rfl⟩)) z1))
                · have c1 := x2.ctr; have c2 := x3.ctr; have c3 := x4.ctr
                  exact Ev.trans r5 x1 (Ev.trans q2 x2 (Ev.trans u5 x3 z4 hf2 x4.ctr) (by exact hf1) (by omega)) hf (by omega)
            · cases h
          · cases h
        · cases h
      · cases h
    · cases h
  · cases h

/-! ## Calls of function values -/
def SumOK (P : Program) (S : Sums) : Prop :=
  ∀ k g, S k = some g → ∀ (args : List Value) (H : AH) (va : Value) (H' : AH), g args H = some (va, H') → WF H →
    HX H H' ∧ ∀ (β : Ren) (w : World) (args' : Array Value) (fr : Frame) (cs : List Frame), Rep β H.get w → Free β H.ctr H'.ctr → GlobOK P β → VRs β args args'.toList → Plain fr → Goes P (callFunc k args') fr cs w (Post β H H' w va)

theorem callSem_func (k : FuncId) (caps args : Array Value) : callSem (.func (.func k) #[] caps) args = callFunc k (args ++ caps) := by
  simp [callSem, Deferred.ofValue, invoke]

theorem callSem_yield (l : Nat) (args : Array Value) : callSem (.func (.yield l) #[] #[]) args = Instr.yield l args := by
  simp [callSem, Deferred.ofValue, invoke]

theorem callA_ok (hY : TyOK P Y) {F : Tr AFunc} (hF : TabOK P Y F) {S : Sums} (hS : SumOK P S) {ev : EvA} (hev : EvOK P Y ev) {env : List LoopE} (henv : EnvC P Y env) : CallOK P Y env (callA F S ev env) := by
  intro f args H va H' h wf
  unfold callA at h
  split at h
  · rename_i k fst caps
    split at h
    · rename_i g hg
      split at h
      · rename_i r hgr
        cases h
        obtain ⟨x1, x2⟩ := hS k g hg _ _ _ _ hgr wf
        refine ⟨x1, fun β w f' args' fr cs hr hf hgl he hv ha hp => ?_⟩
        cases hv with
        | @func _ _ caps' h1 h2 =>
          rw [callSem_func]
          exact x2 β w (args' ++ caps') fr cs hr hf hgl (by rw [Array.toList_append]; exact ha.append (VRs.of_arr h1 h2)) hp
      · obtain ⟨x1, x2⟩ := callFn_ok hY hF hev henv h wf
        refine ⟨x1, fun β w f' args' fr cs hr hf hgl he hv ha hp => ?_⟩
        cases hv with
        | @func _ _ caps' h1 h2 =>
          rw [callSem_func]
          exact x2 β w (args' ++ caps') fr cs hr hf hgl he (by rw [Array.toList_append]; exact ha.append (VRs.of_arr h1 h2)) hp
    · rename_i hg
      obtain ⟨x1, x2⟩ := callFn_ok hY hF hev henv h wf
      refine ⟨x1, fun β w f' args' fr cs hr hf hgl he hv ha hp => ?_⟩
      cases hv with
      | @func _ _ caps' h1 h2 =>
        rw [callSem_func]
        exact x2 β w (args' ++ caps') fr cs hr hf hgl he (by rw [Array.toList_append]; exact ha.append (VRs.of_arr h1 h2)) hp
  · rename_i l fst caps
    obtain ⟨x1, x2⟩ := callYield_ok hev henv h wf
    refine ⟨x1, fun β w f' args' fr cs hr hf hgl he hv ha hp => ?_⟩
    cases hv with
    | yield hb =>
      rw [callSem_yield]
      exact x2 β w _ args' fr cs hr hf hgl he hb ha hp
  · cases h

theorem push_ghost {β : Ren} {g : Nat → Option AObj} {w : World} (hr : Rep β g w) (ro c : Nat) (o : Obj) :
    Rep β g { w with heap := w.heap.push o } ∧ Ev β g ro c w β c { w with heap := w.heap.push o } := by
  refine ⟨⟨fun n x e => ?_, hr.inj, fun n I e => ?_⟩, ⟨Ren.le_refl _, fun n h => absurd rfl h, fun n I h k => (by rw [h] at k; cases k), ?_, by simp, rfl, rfl, rfl⟩⟩
  · obtain ⟨I, o', h1, h2, h3⟩ := hr.obj n x e
    refine ⟨I, o', h1, ?_, h3⟩
    have := hr.bnd n I h1
    show (w.heap.push o)[I.blk]? = _
    rw [Array.getElem?_push, if_neg (by omega)]; exact h2
  · have := hr.bnd n I e
    show I.blk < (w.heap.push o).size
    simp; omega
  · intro B hB _
    show (w.heap.push o)[B]? = _
    rw [Array.getElem?_push, if_neg (by omega)]

theorem endLoop_ok {H H' : AH} (wf : WF H) {l : Nat} {T T' : Tr Value} {out : Out} (h : endLoopA l T H = some (out, T', H')) :
    HX H H' ∧ H'.ctr = H.ctr ∧ T' = T ∧ ∀ (β : Ren) (w : World) (I : BI) (L : LoopS), Rep β H.get w → β l = some I → I.loop = some L →
      ∃ w', (Instr.endLoop I.blk).run P w = .ok (outCode out) w' ∧ Rep β H'.get w' ∧ Ev β H.get H.ro H.ctr w β H'.ctr w' := by
  unfold endLoopA at h
  split at h
  · rename_i st pend hg
    split at h
    · cases h
    · rename_i hst
      split at h
      · rename_i H1 hw
        obtain ⟨x1, x2, x3⟩ := write_loop wf hg hw
        have hout : T' = T ∧ H' = H1 ∧ outCode out = pendCode pend := by
          split at h
          · cases h; exact ⟨rfl, rfl, rfl⟩
          · cases h; exact ⟨rfl, rfl, rfl⟩
        obtain ⟨rfl, rfl, ho⟩ := hout
        refine ⟨x1, x2, rfl, fun β w I L hr hb hl => ?_⟩
        obtain ⟨w', ht, rfl, r1, r2⟩ := x3 β w I L hr hb hl
        have hL := getLoop_run hr hg hb hl
        refine ⟨_, ?_, r1, r2⟩
        have hbusy : (st == LoopState.busy) = false := by
          cases st <;> first | rfl | exact (hst rfl).elim
        simp only [Instr.endLoop, Sem.run_bind, run_getLoop hL, Result.andThen_ok, hbusy, Bool.false_eq_true, if_false, setObj_run hL (by intro c e f k; cases k), Sem.run_pure, ho]
      · cases h
  · cases h

end

end Go.Proofs.YtlbmihpmcgiinaaGreatDoor.Own
end
