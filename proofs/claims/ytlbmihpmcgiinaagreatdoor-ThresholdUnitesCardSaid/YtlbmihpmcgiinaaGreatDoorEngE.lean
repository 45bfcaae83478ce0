/- The engine, part 17: regions that draw their order. -/
import Derived.Test.YtlbmihpmcgiinaaGreatDoorEv
import Derived.Orders

section
namespace Go.Proofs.YtlbmihpmcgiinaaGreatDoor.Own
open Go

/-! ## What comes ahead of an operation -/
def maskOf (acc : Array Nat) (o : Oper) : Nat := o.after.foldl (fun s e => if Region.binds .any e then s ||| 2 ^ e.on ||| acc.getD e.on 0 else s) 0

theorem before_eq (ops : Array Oper) : Region.before ops = ops.toList.foldl (fun acc o => acc.push (maskOf acc o)) #[] := by
  unfold Region.before maskOf
  rw [← Array.foldl_toList]

theorem mask_fold (acc : Array Nat) (j : Nat) : ∀ (l : List Edge) (s : Nat), ((l.foldl (fun s e => if Region.binds .any e then s ||| 2 ^ e.on ||| acc.getD e.on 0 else s) s).testBit j = true ↔
    s.testBit j = true ∨ ∃ e ∈ l, Region.binds .any e = true ∧ (j = e.on ∨ (acc.getD e.on 0).testBit j = true)) := by
  intro l
  induction l with
  | nil => intro s; simp
  | cons e l ih =>
    intro s
    rw [List.foldl_cons, ih]
    by_cases hb : Region.binds .any e = true
    · rw [if_pos hb]
      simp only [Nat.testBit_or, Nat.testBit_two_pow, Bool.or_eq_true, decide_eq_true_eq, List.mem_cons, exists_eq_or_imp, hb, true_and, or_assoc, eq_comm (a := j)]
    · rw [if_neg hb]
      simp [hb]

theorem mask_bit (acc : Array Nat) (o : Oper) (j : Nat) : (maskOf acc o).testBit j = true ↔ ∃ e ∈ o.after, Region.binds .any e = true ∧ (j = e.on ∨ (acc.getD e.on 0).testBit j = true) := by
  unfold maskOf
  rw [← Array.foldl_toList, mask_fold]
  simp

theorem before_fold : ∀ (l : List Oper) (acc : Array Nat), (∀ k, k < acc.size → (l.foldl (fun acc o => acc.push (maskOf acc o)) acc).getD k 0 = acc.getD k 0) ∧
    ∀ (j : Nat) (o : Oper), l[j]? = some o → ∃ acc' : Array Nat, acc'.size = acc.size + j ∧ (∀ k, k < acc'.size → acc'.getD k 0 = (l.foldl (fun acc o => acc.push (maskOf acc o)) acc).getD k 0) ∧
      (l.foldl (fun acc o => acc.push (maskOf acc o)) acc).getD (acc.size + j) 0 = maskOf acc' o := by
  intro l
  induction l with
  | nil => intro acc; exact ⟨fun k _ => rfl, fun j o h => by simp at h⟩
  | cons o l ih =>
    intro acc
    obtain ⟨h1, h2⟩ := ih (acc.push (maskOf acc o))
    have hpush : ∀ k, k < acc.size → (acc.push (maskOf acc o)).getD k 0 = acc.getD k 0 := by
      intro k hk
      simp [Array.getD_eq_getD_getElem?, Array.getElem?_push, show k ≠ acc.size from by omega]
    refine ⟨fun k hk => ?_, fun j o' hj => ?_⟩
    · rw [List.foldl_cons, h1 k (by rw [Array.size_push]; omega), hpush k hk]
    · cases j with
      | zero =>
        simp at hj
        subst hj
        refine ⟨acc, by simp, fun k hk => ?_, ?_⟩
        · rw [List.foldl_cons, h1 k (by rw [Array.size_push]; omega), hpush k hk]
        · rw [List.foldl_cons, Nat.add_zero, h1 acc.size (by rw [Array.size_push]; omega)]
          simp [Array.getD_eq_getD_getElem?]
      | succ j =>
        obtain ⟨acc', g1, g2, g3⟩ := h2 j o' (by simpa using hj)
        rw [Array.size_push] at g1 g3
        exact ⟨acc', by omega, g2, by rw [List.foldl_cons, ← g3]; congr 1; omega⟩

theorem before_at {ops : Array Oper} {i : Nat} {o : Oper} (h : ops[i]? = some o) : ∃ acc : Array Nat, acc.size = i ∧ (∀ k, k < i → acc.getD k 0 = (Region.before ops).getD k 0) ∧ (Region.before ops).getD i 0 = maskOf acc o := by
  obtain ⟨_, h2⟩ := before_fold ops.toList #[]
  obtain ⟨acc, g1, g2, g3⟩ := h2 i o (by simpa using h)
  rw [before_eq]
  simp only [Array.size_empty, Nat.zero_add] at g1 g3
  exact ⟨acc, g1, fun k hk => g2 k (by omega), g3⟩

/-- All that operations listed come behind is listed. -/
def Closed (ops : Array Oper) (L : Nat → Bool) : Prop := ∀ i o, ops[i]? = some o → L i = true → ∀ e ∈ o.after, Region.binds .any e = true → L e.on = true

theorem before_closed {ops : Array Oper} {L : Nat → Bool} (hL : Closed ops L) : ∀ (n i : Nat) (o : Oper), i < n → ops[i]? = some o → (∀ e ∈ o.after, Region.binds .any e = true → L e.on = true) → ∀ j, ((Region.before ops).getD i 0).testBit j = true → L j = true := by
  intro n
  induction n with
  | zero => intro i o h; omega
  | succ n ih =>
    intro i o hi ho he j hj
    obtain ⟨acc, g1, g2, g3⟩ := before_at ho
    rw [g3, mask_bit] at hj
    obtain ⟨e, hem, hb, h⟩ := hj
    rcases h with rfl | h
    · exact he e hem hb
    · by_cases hlt : e.on < i
      · rw [g2 e.on hlt] at h
        have hsz : i < ops.size := (Array.getElem?_eq_some_iff.1 ho).1
        have ho' : ops[e.on]? = some ops[e.on] := Array.getElem?_eq_getElem (by omega)
        exact ih e.on _ (by omega) ho' (fun e' h1 h2 => hL e.on _ ho' (he e hem hb) e' h1 h2) j h
      · rw [Array.getD_eq_getD_getElem?, Array.getElem?_eq_none (by omega)] at h
        simp at h

theorem before_edge {ops : Array Oper} {i : Nat} {o : Oper} (ho : ops[i]? = some o) (hlt : (Region.before ops).getD i 0 < 2 ^ i) {e : Edge} (he : e ∈ o.after) (hb : Region.binds .any e = true) : e.on < i := by
  obtain ⟨acc, g1, g2, g3⟩ := before_at ho
  have hbit : ((Region.before ops).getD i 0).testBit e.on = true := by
    rw [g3, mask_bit]; exact ⟨e, he, hb, .inl rfl⟩
  by_cases k : e.on < i
  · exact k
  · rw [Nat.testBit_lt_two_pow (Nat.lt_of_lt_of_le hlt (Nat.pow_le_pow_right (by omega) (by omega)))] at hbit
    cases hbit

theorem bit_lt {x i j : Nat} (h : x < 2 ^ i) (hb : x.testBit j = true) : j < i := by
  by_cases k : j < i
  · exact k
  · rw [Nat.testBit_lt_two_pow (Nat.lt_of_lt_of_le h (Nat.pow_le_pow_right (by omega) (by omega)))] at hb
    cases hb

/-! ## The last of some values -/
def lastX {α : Type} (L W : Nat → Bool) (X : Nat → α) : Nat → α
  | 0 => X 0
  | j + 1 => if (L j && W j) = true then X (j + 1) else lastX L W X j

section
variable {α : Type} {L L' W : Nat → Bool} {X : Nat → α}

theorem lastX_upto : ∀ (k : Nat), (∀ j, j < k → W j = true → L j = true) → (∀ j, j < k → W j = false → X (j + 1) = X j) → lastX L W X k = X k := by
  intro k
  induction k with
  | zero => intro _ _; rfl
  | succ k ih =>
    intro h1 h2
    simp only [lastX]
    cases hw : W k with
    | true => rw [h1 k (by omega) hw]; simp
    | false => simp; rw [ih (fun j hj => h1 j (by omega)) (fun j hj => h2 j (by omega)), h2 k (by omega) hw]

theorem lastX_from {k : Nat} : ∀ (m : Nat), k ≤ m → (∀ j, k ≤ j → j < m → W j = true → L j = false) → lastX L W X m = lastX L W X k := by
  intro m
  induction m with
  | zero => intro hk _; have : k = 0 := by omega
            rw [this]
  | succ m ih =>
    intro hk h
    by_cases e : k = m + 1
    · rw [e]
    · simp only [lastX]
      rw [if_neg (by
        intro hc
        rw [Bool.and_eq_true] at hc
        have := h m (by omega) (by omega) hc.2
        rw [hc.1] at this; cases this)]
      exact ih (by omega) (fun j a b => h j a (by omega))

theorem lastX_congr : ∀ (m : Nat), (∀ j, j < m → W j = true → L j = L' j) → lastX L W X m = lastX L' W X m := by
  intro m
  induction m with
  | zero => intro _; rfl
  | succ m ih =>
    intro h
    simp only [lastX]
    cases hw : W m with
    | true => rw [h m (by omega) hw, ih (fun j hj => h j (by omega))]
    | false => simp; exact ih (fun j hj => h j (by omega))
end

end Go.Proofs.YtlbmihpmcgiinaaGreatDoor.Own
end

/- The engine, part 18: the operations of such a region, one by one. -/
section
namespace Go.Proofs.YtlbmihpmcgiinaaGreatDoor.Own
open Go

/-- What an operation may write. -/
inductive Cls where
  | none | all | iv
  | blk (b : Nat)

def Cls.writes (lo hi : Nat) : Cls → Nat → Bool
  | .none, _ => false
  | .all, _ => true
  | .iv, n => Nat.ble lo n && Nat.blt n hi
  | .blk b, n => Nat.beq n b

/-- A run of one operation on a heap of its own. -/
structure Ran (H H1 : AH) (c : Cls) (calm : Bool) (hid : List (Nat × Nat)) (G G1 : AH) : Prop where
  wf : WF G
  ctr : G.ctr = H.ctr
  ctr1 : G1.ctr = H1.ctr
  sub : ∀ n o, G.get n = some o → H.get n = some o ∧ (c = .all ∨ hidden hid n = false ∧ calm = false)
  out : ∀ n, c.writes H.ctr H1.ctr n = true → H1.get n = G1.get n
  back : ∀ n o, c.writes H.ctr H1.ctr n = false → G1.get n = some o → G.get n = some o
  stay : ∀ n o, c.writes H.ctr H1.ctr n = false → G.get n = some o → G1.get n = some o
  fresh : c = .all ∨ H1.ctr = H.ctr ∨ ∀ m, G.ro ≤ m → G.get m = .none
  ro : ∀ m, G.ro ≤ m → (G.get m).isSome = true → H.ro ≤ m
  whole : c = .all → G = H ∧ G1 = H1

structure Stage (call : CallA) (a : AOper) (ws : List (Nat × Nat)) (i : Nat) (T : Tr Value) (H : AH) (T1 : Tr Value) (H1 : AH) (c : Cls) (hid : List (Nat × Nat)) : Prop where
  wf : WF H
  hx : HX H H1
  temps : ∀ t, a.dst ≠ some t → opv T1 (.tmp t) = opv T (.tmp t)
  heap : ∀ n, c.writes H.ctr H1.ctr n = false → H1.get n = H.get n
  calm : c ≠ .none → a.kind.isCalm = false
  solo : c = .all → a.solo = true
  blk : ∀ b, c = .blk b → (i, b) ∈ ws ∧ hidden hid b = false ∧ b < H.ctr
  run : (wantedA a.guard T = false ∧ c = .none ∧ H1 = H ∧ T1 = setDst T a.dst uv) ∨
    (wantedA a.guard T = true ∧ ∃ v G G1, a.run call (opv T) G = some (v, G1) ∧ T1 = setDst T a.dst v ∧ Ran H H1 c a.kind.isCalm hid G G1)

theorem get_leaf {α : Type} (n : Nat) : (Tr.leaf : Tr α).get n = none := rfl

theorem emptyH_get (H : AH) (n : Nat) : (emptyH H).get n = none := by
  rw [AH.get_eq]; simp [emptyH]

theorem emptyH_wf {H : AH} (wf : WF H) : WF (emptyH H) :=
  ⟨fun n h => (by rw [emptyH_get] at h; cases h), Nat.le_refl _, fun n h => (by simp [emptyH, hidden] at h), wf.even⟩

theorem oneH_get (H : AH) (b : Nat) (o : AObj) (n : Nat) : (oneH H b o).get n = if n = b then some o else none := by
  rw [AH.get_eq]
  simp only [oneH, Tr.get_set, get_leaf]
  simp [hidden]

theorem oneH_wf {H : AH} (wf : WF H) {b : Nat} {o : AObj} (hb : b < H.ctr) : WF (oneH H b o) := by
  refine ⟨fun n h => ?_, wf.ro, fun n h => by simp [oneH, hidden] at h, wf.even⟩
  rw [oneH_get] at h
  split at h
  · rename_i e; subst e; exact hb
  · cases h

theorem hidden_append (a b : List (Nat × Nat)) (n : Nat) : hidden (a ++ b) n = (hidden a n || hidden b n) := by
  simp [hidden, List.any_append]

theorem hidden_mem {l : List (Nat × Nat)} {lo hi n : Nat} (h : (lo, hi) ∈ l) (h1 : lo ≤ n) (h2 : n < hi) : hidden l n = true := by
  unfold hidden
  rw [List.any_eq_true]
  exact ⟨(lo, hi), h, by simp; omega⟩

theorem hidden_inv {l : List (Nat × Nat)} {n : Nat} (h : hidden l n = true) : ∃ lo hi, (lo, hi) ∈ l ∧ lo ≤ n ∧ n < hi := by
  unfold hidden at h
  rw [List.any_eq_true] at h
  obtain ⟨⟨lo, hi⟩, h1, h2⟩ := h
  rw [Bool.and_eq_true] at h2
  exact ⟨lo, hi, h1, by simpa using h2.1, by simpa using h2.2⟩

theorem hidOf_iv {all : List AOper} {i k lo hi : Nat} {ivs : List (Nat × Nat × Nat)} {ws : List (Nat × Nat)} (h : (k, lo, hi) ∈ ivs) (hf : free2 all i k = true) {n : Nat} (h1 : lo ≤ n) (h2 : n < hi) : hidden (hidOf all i ivs ws) n = true := by
  apply hidden_mem (lo := lo) (hi := hi) ?_ h1 h2
  unfold hidOf
  rw [List.mem_append]
  left
  rw [List.mem_map]
  exact ⟨(k, lo, hi), List.mem_filter.mpr ⟨h, hf⟩, rfl⟩

theorem hidOf_ws {all : List AOper} {i k b : Nat} {ivs : List (Nat × Nat × Nat)} {ws : List (Nat × Nat)} (h : (k, b) ∈ ws) (hf : free2 all i k = true) : hidden (hidOf all i ivs ws) b = true := by
  apply hidden_mem (lo := b) (hi := b + 1) ?_ (Nat.le_refl _) (by omega)
  unfold hidOf
  rw [List.mem_append]
  right
  rw [List.mem_map]
  exact ⟨(k, b), List.mem_filter.mpr ⟨h, hf⟩, rfl⟩

theorem hidOf_lt {all : List AOper} {i c : Nat} {ivs : List (Nat × Nat × Nat)} {ws : List (Nat × Nat)} (h1 : ∀ p ∈ ivs, p.2.2 ≤ c) (h2 : ∀ p ∈ ws, p.2 < c) {n : Nat} (h : hidden (hidOf all i ivs ws) n = true) : n < c := by
  obtain ⟨lo, hi, hm, a, b⟩ := hidden_inv h
  unfold hidOf at hm
  rw [List.mem_append, List.mem_map, List.mem_map] at hm
  rcases hm with ⟨p, hp, e⟩ | ⟨p, hp, e⟩
  · have := h1 p (List.mem_filter.mp hp).1
    cases e; omega
  · have := h2 p (List.mem_filter.mp hp).1
    cases e; omega

theorem setDst_other (T : Tr Value) (d : Option Tmp) (v : Value) (t : Nat) (h : d ≠ some t) : opv (setDst T d v) (.tmp t) = opv T (.tmp t) := by
  cases d with
  | none => rfl
  | some d =>
    show opv (T.set d (some v)) (.tmp t) = _
    rw [opv_set, if_neg (fun e => h (by rw [e]))]

/-- What a compiled operation does to abstract heaps. -/
def Tame (call : CallA) (r : Run) : Prop := ∀ (T : Tr Value) (G : AH) (v : Value) (G1 : AH), r call (opv T) G = some (v, G1) → WF G → HX G G1

theorem drawStep_ok {call : CallA} {all : List AOper} {ws : List (Nat × Nat)} {i : Nat} {a : AOper} {ivs ivs1 : List (Nat × Nat × Nat)} {T T1 : Tr Value} {H H1 : AH} (h : drawStep call all ws i a ivs T H = some (ivs1, T1, H1)) (wf : WF H)
    (hw : ∀ p ∈ ws, p.2 < H.ctr) (hiv : ∀ p ∈ ivs, p.2.2 ≤ H.ctr) (ht : Tame call a.run) :
    ∃ c hid, Stage call a ws i T H T1 H1 c hid ∧ (c ≠ .all → (∀ k, free2 all i k = true → (∀ b, (k, b) ∈ ws → hidden hid b = true) ∧ ∀ lo hi n, (k, lo, hi) ∈ ivs → lo ≤ n → n < hi → hidden hid n = true)) ∧
      (∀ p ∈ ivs, p ∈ ivs1) ∧ (∀ p ∈ ivs1, p.2.2 ≤ H1.ctr) ∧ (c = .iv → (i, H.ctr, H1.ctr) ∈ ivs1) := by
  have hhid : ∀ k, free2 all i k = true → (∀ b, (k, b) ∈ ws → hidden (hidOf all i ivs ws) b = true) ∧ ∀ lo hi n, (k, lo, hi) ∈ ivs → lo ≤ n → n < hi → hidden (hidOf all i ivs ws) n = true :=
    fun k hf => ⟨fun b hb => hidOf_ws hb hf, fun lo hi n hm h1 h2 => hidOf_iv hm hf h1 h2⟩
  unfold drawStep at h
  split at h
  · rename_i hwa
    cases h
    exact ⟨.none, hidOf all i ivs ws, ⟨wf, HX.refl wf, fun t ht => setDst_other _ _ _ _ ht, fun n _ => rfl, fun h => absurd rfl h, fun h => (by cases h), fun b h => (by cases h), .inl ⟨hwa, rfl, rfl, rfl⟩⟩, fun _ => hhid, fun p hp => hp, hiv, fun h => (by cases h)⟩
  · rename_i hwa
    split at h
    · -- calm
      split at h
      · rename_i v G1 hr
        split at h
        · rename_i hc
          cases h
          have hc : G1.ctr = H.ctr := Nat.eq_of_beq_eq_true hc
          have hxg := ht T _ v G1 hr (emptyH_wf wf)
          have hdead : ∀ n, (G1.get n).isSome = true → False := by
            intro n hn
            have h1 := hxg.wf.live n hn
            have h2 := hxg.old n (by show n < H.ctr; omega) hn
            rw [emptyH_get] at h2; cases h2
          refine ⟨.none, hidOf all i ivs ws, ⟨wf, HX.refl wf, fun t ht => setDst_other _ _ _ _ ht, fun n _ => rfl, fun h => absurd rfl h, fun h => (by cases h), fun b h => (by cases h),
            .inr ⟨hwa, v, emptyH H, G1, hr, rfl, ⟨emptyH_wf wf, rfl, hc, fun n o hn => ?_, fun n hn => ?_, fun n o _ hn => ?_, fun n o _ hn => ?_, .inr (.inl rfl), fun m _ hm => ?_, fun h => (by cases h)⟩⟩⟩, fun _ => hhid, fun p hp => hp, hiv, fun h => (by cases h)⟩
          · rw [emptyH_get] at hn; cases hn
          · simp [Cls.writes] at hn
          · exact absurd (by rw [hn]; rfl) (hdead n)
          · rw [emptyH_get] at hn; cases hn
          · rw [emptyH_get] at hm; cases hm
        · cases h
      · cases h
    · -- solo
      rename_i hk hs
      split at h
      · rename_i v G1 hr
        cases h
        have hxg := ht T _ v H1 hr wf
        refine ⟨.all, hidOf all i ivs ws, ⟨wf, hxg, fun t ht => setDst_other _ _ _ _ ht, fun n hn => by simp [Cls.writes] at hn, fun _ => hk, fun _ => hs, fun b h => (by cases h),
          .inr ⟨hwa, v, H, H1, hr, rfl, ⟨wf, rfl, rfl, fun n o hn => ⟨hn, .inl rfl⟩, fun n _ => rfl, fun n o hn => by simp [Cls.writes] at hn, fun n o hn => by simp [Cls.writes] at hn, .inl rfl, fun m hm _ => hm, fun _ => ⟨rfl, rfl⟩⟩⟩⟩,
          fun h => absurd rfl h, fun p hp => hp, fun p hp => Nat.le_trans (hiv p hp) hxg.ctr, fun h => (by cases h)⟩
      · cases h
    · rename_i hk hs
      split at h
      · -- a store
        rename_i x hkind
        split at h
        · rename_i b hb
          split at h
          · rename_i ob hcond hg
            rw [Bool.and_eq_true] at hcond
            obtain ⟨hin, hnh⟩ := hcond
            have hin : (i, b.block) ∈ ws := by simpa using hin
            have hnh : hidden (hidOf all i ivs ws) b.block = false := by simpa using hnh
            have hlive : b.block < H.ctr := wf.live _ (by rw [hg]; rfl)
            split at h
            · rename_i v G1 hr
              split at h
              · rename_i ob' hc hg1
                cases h
                have hc : G1.ctr = H.ctr := Nat.eq_of_beq_eq_true hc
                have hxg := ht T _ v G1 hr (oneH_wf wf hlive)
                obtain ⟨hh1, hh2⟩ := AH.get_some hg
                have hput : ∀ n, (H.put b.block (some ob')).get n = if n = b.block then some ob' else H.get n := by
                  intro n
                  rw [AH.get_put, AH.get_eq]
                  by_cases e : n = b.block
                  · subst e; simp [hh1]
                  · simp [e]
                have hxh : HX H (H.put b.block (some ob')) := by
                  refine ⟨Nat.le_refl _, rfl, rfl, fun n hn hs => ?_, fun n hn => ?_, fun n hn => ?_, ⟨fun n hn => ?_, wf.ro, wf.hid, wf.even⟩⟩
                  · rw [hput] at hs
                    split at hs
                    · rename_i e; rw [e, hg]; rfl
                    · exact hs
                  · rw [hput]
                    split
                    · rename_i e
                      subst e
                      have := hxg.low _ hn
                      rw [hg1, oneH_get, if_pos rfl] at this
                      rw [hg, this]
                    · rfl
                  · exact Tr.get_set_ne _ _ _ _ (by intro e; subst e; rw [hh1] at hn; cases hn)
                  · rw [hput] at hn
                    split at hn
                    · rename_i e; rw [e]; exact hlive
                    · exact wf.live n hn
                refine ⟨.blk b.block, hidOf all i ivs ws, ⟨wf, hxh, fun t ht => setDst_other _ _ _ _ ht, fun n hn => ?_, fun _ => hk, fun h => (by cases h), fun b' h => (by cases h; exact ⟨hin, hnh, hlive⟩),
                  .inr ⟨hwa, v, _, G1, hr, rfl, ⟨oneH_wf wf hlive, rfl, hc, fun n o hn => ?_, fun n hn => ?_, fun n o hn hn1 => ?_, fun n o hn hn1 => ?_, .inr (.inl rfl), fun m hm _ => hm, fun h => (by cases h)⟩⟩⟩, fun _ => hhid, fun p hp => hp, hiv, fun h => (by cases h)⟩
                · rw [hput, if_neg]
                  intro e; subst e; simp [Cls.writes] at hn
                · rw [oneH_get] at hn
                  split at hn
                  · rename_i e; subst e; cases hn; exact ⟨hg, .inr ⟨hnh, hk⟩⟩
                  · cases hn
                · have e : n = b.block := by simpa [Cls.writes] using hn
                  subst e
                  rw [hput, if_pos rfl, hg1]
                · have h1 := hxg.wf.live n (by rw [hn1]; rfl)
                  have h2 := hxg.old n (by show n < H.ctr; omega) (by rw [hn1]; rfl)
                  rw [oneH_get] at h2
                  split at h2
                  · rename_i e; subst e; simp [Cls.writes] at hn
                  · cases h2
                · rw [oneH_get] at hn1
                  split at hn1
                  · rename_i e; subst e; simp [Cls.writes] at hn
                  · cases hn1
              · cases h
            · cases h
          · cases h
        · cases h
      · -- any other one
        split at h
        · rename_i v G1 hr
          cases h
          have hgw : WF { H with hid := hidOf all i ivs ws ++ H.hid, ro := H.ctr } := by
            refine ⟨fun n hn => ?_, Nat.le_refl _, fun n hn => ?_, wf.even⟩
            · rw [AH.get_eq] at hn
              split at hn
              · cases hn
              · rename_i hnh
                apply wf.live n
                rw [AH.get_eq, if_neg]
                · exact hn
                · intro hc; apply hnh; show hidden (hidOf all i ivs ws ++ H.hid) n = true; rw [hidden_append, hc]; simp
            · have hn : hidden (hidOf all i ivs ws ++ H.hid) n = true := hn
              rw [hidden_append, Bool.or_eq_true] at hn
              rcases hn with hn | hn
              · exact hidOf_lt hiv hw hn
              · exact wf.hid n hn
          have hxg := ht T _ v G1 hr hgw
          have hctr : H.ctr ≤ G1.ctr := hxg.ctr
          have hgh : G1.hid = hidOf all i ivs ws ++ H.hid := hxg.hid
          -- outside the new blocks nothing changes
          have hold : ∀ n, n < H.ctr → ({ G1 with hid := H.hid, ro := H.ro } : AH).get n = H.get n := by
            intro n hn
            rw [AH.get_eq, AH.get_eq]
            dsimp only
            by_cases k : hidden H.hid n = true
            · rw [if_pos k, if_pos k]
            · rw [if_neg k, if_neg k]
              by_cases k2 : hidden (hidOf all i ivs ws ++ H.hid) n = true
              · exact hxg.hidd n k2
              · have := hxg.low n hn
                rw [AH.get_eq, AH.get_eq] at this
                rw [hgh] at this
                dsimp only at this
                rw [if_neg k2, if_neg k2] at this
                exact this
          have hnew : ∀ n, H.ctr ≤ n → ({ G1 with hid := H.hid, ro := H.ro } : AH).get n = G1.get n := by
            intro n hn
            rw [AH.get_eq, AH.get_eq, hgh]
            dsimp only
            rw [if_neg (fun k => by have := wf.hid n k; omega), if_neg (fun k => by have := hgw.hid n k; dsimp only at this; omega)]
          have hwf1 : WF { G1 with hid := H.hid, ro := H.ro } := by
            refine ⟨fun n hn => ?_, Nat.le_trans wf.ro hctr, fun n hn => Nat.lt_of_lt_of_le (wf.hid n hn) hctr, hxg.wf.even⟩
            by_cases k : n < H.ctr
            · exact Nat.lt_of_lt_of_le k hctr
            · rw [hnew n (by omega)] at hn; exact hxg.wf.live n hn
          have hxh : HX H { G1 with hid := H.hid, ro := H.ro } := by
            refine ⟨hctr, rfl, rfl, fun n hn hs => ?_, fun n hn => hold n (Nat.lt_of_lt_of_le hn wf.ro), fun n hn => ?_, hwf1⟩
            · rw [hold n hn] at hs; exact hs
            · exact hxg.hidd n (by show hidden (hidOf all i ivs ws ++ H.hid) n = true; rw [hidden_append, hn]; simp)
          have hlow : ∀ n, Cls.writes H.ctr G1.ctr .iv n = false → n < H.ctr ∨ G1.ctr ≤ n := by
            intro n hn
            by_cases k1 : H.ctr ≤ n
            · by_cases k2 : n < G1.ctr
              · simp only [Cls.writes, Bool.and_eq_false_iff] at hn
                rcases hn with hn | hn
                · have : Nat.ble H.ctr n = true := Nat.ble_eq.mpr k1
                  rw [this] at hn; cases hn
                · have : Nat.blt n G1.ctr = true := by simpa using k2
                  rw [this] at hn; cases hn
              · right; omega
            · left; omega
          refine ⟨.iv, hidOf all i ivs ws, ⟨wf, hxh, fun t ht => setDst_other _ _ _ _ ht, fun n hn => ?_, fun _ => hk, fun h => (by cases h), fun b h => (by cases h),
            .inr ⟨hwa, v, _, G1, hr, rfl, ⟨hgw, rfl, rfl, fun n o hn => ?_, fun n hn => ?_, fun n o hn hn1 => ?_, fun n o hn hn1 => ?_, .inr (.inr fun m hm => ?_), fun m hm _ => Nat.le_trans wf.ro hm, fun h => (by cases h)⟩⟩⟩, fun _ => hhid, fun p hp => List.mem_cons_of_mem _ hp, fun p hp => ?_, fun _ => List.mem_cons_self⟩
          · rcases hlow n hn with k | k
            · exact hold n k
            · have e1 : ({ G1 with hid := H.hid, ro := H.ro } : AH).get n = none := by
                cases hq : ({ G1 with hid := H.hid, ro := H.ro } : AH).get n with
                | none => rfl
                | some o => have := hwf1.live n (by rw [hq]; rfl); dsimp only at this; omega
              have e2 : H.get n = none := by
                cases hq : H.get n with
                | none => rfl
                | some o => have := wf.live n (by rw [hq]; rfl); omega
              rw [e1, e2]
          · rw [AH.get_eq] at hn
            split at hn
            · cases hn
            · rename_i hnh
              have hnh' : hidden (hidOf all i ivs ws ++ H.hid) n = false := by simpa using hnh
              rw [hidden_append, Bool.or_eq_false_iff] at hnh'
              refine ⟨?_, .inr ⟨hnh'.1, hk⟩⟩
              rw [AH.get_eq, if_neg (by rw [hnh'.2]; simp)]
              exact hn
          · simp only [Cls.writes, Bool.and_eq_true, Nat.ble_eq] at hn
            exact hnew n hn.1
          · rcases hlow n hn with k | k
            · rw [← hxg.low n k]; exact hn1
            · have := hxg.wf.live n (by rw [hn1]; rfl); omega
          · have k : n < H.ctr := hgw.live n (by rw [hn1]; rfl)
            rw [hxg.low n k]; exact hn1
          · cases hq : ({ H with hid := hidOf all i ivs ws ++ H.hid, ro := H.ctr } : AH).get m with
            | none => rfl
            | some o => have := hgw.live m (by rw [hq]; rfl); dsimp only at this hm; omega
          · rcases List.mem_cons.mp hp with rfl | hp
            · exact Nat.le_refl _
            · exact Nat.le_trans (hiv p hp) hctr
        · cases h

end Go.Proofs.YtlbmihpmcgiinaaGreatDoor.Own
end

/- The engine, part 19: any order of such a region comes to the same. -/
section
namespace Go.Proofs.YtlbmihpmcgiinaaGreatDoor.Own
open Go

/-! ## The run in the order of the text -/
theorem evDraw_trace {call : CallA} {all : List AOper} {ws : List (Nat × Nat)} : ∀ (rest : List AOper) (i : Nat) (ivs : List (Nat × Nat × Nat)) (T : Tr Value) (H : AH) (T' : Tr Value) (H' : AH), evDraw call all ws i rest ivs T H = some (T', H') → WF H →
    (∀ p ∈ ws, p.2 < H.ctr) → (∀ p ∈ ivs, p.2.2 ≤ H.ctr) → (∀ a ∈ rest, Tame call a.run) →
    ∃ (Ts : Nat → Tr Value) (Hs : Nat → AH) (Cs : Nat → Cls) (hids : Nat → List (Nat × Nat)), Ts i = T ∧ Hs i = H ∧ Ts (i + rest.length) = T' ∧ Hs (i + rest.length) = H' ∧
      ∀ (j : Nat) (a : AOper), rest[j]? = some a → Stage call a ws (i + j) (Ts (i + j)) (Hs (i + j)) (Ts (i + j + 1)) (Hs (i + j + 1)) (Cs (i + j)) (hids (i + j)) ∧
        (Cs (i + j) ≠ .all → ∀ k, free2 all (i + j) k = true → (∀ b, (k, b) ∈ ws → hidden (hids (i + j)) b = true) ∧ (∀ lo hi n, (k, lo, hi) ∈ ivs → lo ≤ n → n < hi → hidden (hids (i + j)) n = true) ∧
          (∀ j', j' < j → k = i + j' → Cs (i + j') = .iv → ∀ n, (Hs (i + j')).ctr ≤ n → n < (Hs (i + j' + 1)).ctr → hidden (hids (i + j)) n = true)) := by
  intro rest
  induction rest with
  | nil =>
    intro i ivs T H T' H' h wf _ _ _
    simp only [evDraw] at h; cases h
    exact ⟨fun _ => T, fun _ => H, fun _ => .none, fun _ => [], rfl, rfl, rfl, rfl, fun j a h => by simp at h⟩
  | cons o rest ih =>
    intro i ivs T H T' H' h wf hw hiv htame
    simp only [evDraw] at h
    split at h
    · rename_i ivs1 T1 H1 hd
      obtain ⟨c, hid, hst, hh, s1, s2, s3⟩ := drawStep_ok hd wf hw hiv (htame o (by simp))
      obtain ⟨Ts, Hs, Cs, hids, e1, e2, e3, e4, hall⟩ := ih (i + 1) ivs1 T1 H1 T' H' h hst.hx.wf (fun p hp => Nat.lt_of_lt_of_le (hw p hp) hst.hx.ctr) s2 (fun a ha => htame a (by simp [ha]))
      refine ⟨fun k => if k = i then T else Ts k, fun k => if k = i then H else Hs k, fun k => if k = i then c else Cs k, fun k => if k = i then hid else hids k, by simp, by simp, ?_, ?_, ?_⟩
      · show (if i + (rest.length + 1) = i then T else Ts (i + (rest.length + 1))) = T'
        rw [if_neg (by omega), ← e3]; congr 1; omega
      · show (if i + (rest.length + 1) = i then H else Hs (i + (rest.length + 1))) = H'
        rw [if_neg (by omega), ← e4]; congr 1; omega
      · intro j a ha
        cases j with
        | zero =>
          simp at ha
          subst ha
          simp only [Nat.add_zero, if_true, show ¬ (i + 1 = i) from by omega, if_false, e1, e2]
          refine ⟨hst, fun hc k hf => ?_⟩
          obtain ⟨q1, q2⟩ := hh hc k hf
          exact ⟨q1, q2, fun j' hj' => by omega⟩
        | succ j =>
          obtain ⟨g1, g2⟩ := hall j a (by simpa using ha)
          have e : i + 1 + j = i + (j + 1) := by omega
          rw [e] at g1 g2
          simp only [show ¬ (i + (j + 1) = i) from by omega, show ¬ (i + (j + 1) + 1 = i) from by omega, if_false]
          refine ⟨g1, fun hc k hf => ?_⟩
          obtain ⟨q1, q2, q3⟩ := g2 hc k hf
          refine ⟨q1, fun lo hi n hm => q2 lo hi n (s1 _ hm), fun j' hj' hk hcs n h1 h2 => ?_⟩
          cases j' with
          | zero =>
            simp only [Nat.add_zero, if_true] at hcs h1
            simp only [Nat.add_zero, show ¬ (i + 1 = i) from by omega, if_false, e2] at h2
            have := s3 hcs
            refine q2 _ _ n (by rw [hk]; simpa using this) h1 h2
          | succ j' =>
            simp only [show ¬ (i + (j' + 1) = i) from by omega, show ¬ (i + (j' + 1) + 1 = i) from by omega, if_false] at hcs h1 h2
            have e' : i + 1 + j' = i + (j' + 1) := by omega
            exact q3 j' (by omega) (by omega) (by rw [e']; exact hcs) n (by rw [e']; exact h1) (by rw [e']; exact h2)
    · cases h

/-! ## Compiled regions that draw -/
theorem setSolo_get (all : List AOper) : ∀ (l : List AOper) (i j : Nat), (setSolo all i l)[j]? = (l[j]?).map fun o => { o with solo := soloAt all (i + j) } := by
  intro l
  induction l with
  | nil => intro i j; simp [setSolo]
  | cons o l ih =>
    intro i j
    cases j with
    | zero => simp [setSolo]
    | succ j => simp only [setSolo, List.getElem?_cons_succ, ih, show i + 1 + j = i + (j + 1) from by omega]

theorem setSolo_length (all : List AOper) : ∀ (l : List AOper) (i : Nat), (setSolo all i l).length = l.length := by
  intro l
  induction l with
  | nil => intro i; rfl
  | cons o l ih => intro i; simp [setSolo, ih]

theorem predsOf_setSolo (m : List AOper) (i : Nat) : predsOf (setSolo m 0 m) i = predsOf m i := by
  unfold predsOf
  rw [setSolo_get]
  cases m[i]? <;> rfl

theorem free2_setSolo (m : List AOper) (i j : Nat) : free2 (setSolo m 0 m) i j = free2 m i j := by
  unfold free2
  rw [predsOf_setSolo, predsOf_setSolo]

theorem free2_symm (m : List AOper) (i j : Nat) : free2 m i j = free2 m j i := by
  unfold free2
  have : Nat.beq i j = Nat.beq j i := by
    rw [Bool.eq_iff_iff, Nat.beq_eq, Nat.beq_eq]; exact eq_comm
  rw [this, Bool.and_assoc, Bool.and_assoc, Bool.and_comm (!(predsOf m i).testBit j)]

theorem free2_false {m : List AOper} {i j : Nat} (h : free2 m i j = false) (hne : i ≠ j) : (predsOf m i).testBit j = true ∨ (predsOf m j).testBit i = true := by
  unfold free2 at h
  have : Nat.beq i j = false := by
    cases k : Nat.beq i j with
    | false => rfl
    | true => exact absurd (Nat.eq_of_beq_eq_true k) hne
  rw [this] at h
  cases h1 : (predsOf m i).testBit j with
  | true => exact .inl rfl
  | false =>
    rw [h1] at h
    right
    simpa using h

theorem soloAt_spec {m : List AOper} {i j : Nat} (h : soloAt m i = true) {o : AOper} (ho : m[j]? = some o) : o.kind.isCalm = true ∨ free2 m i j = false := by
  unfold soloAt at h
  rw [List.all_eq_true] at h
  have := h (o, j) (by
    rw [List.mem_zipIdx_iff_getElem?]
    simpa using ho)
  simpa using this

theorem drawOk_spec {m : List AOper} (h : drawOk m = true) {i : Nat} {a : AOper} (ha : m[i]? = some a) : a.preds < 2 ^ i ∧ ∀ (j : Nat) (b : AOper) (d : Nat), m[j]? = some b → b.dst = some d → i ≠ j → (d ∈ a.uses ∨ a.dst = some d) → free2 m i j = false := by
  unfold drawOk at h
  rw [List.all_eq_true] at h
  have h1 := h (a, i) (by rw [List.mem_zipIdx_iff_getElem?]; simpa using ha)
  simp only [Bool.and_eq_true] at h1
  obtain ⟨h2, h3⟩ := h1
  refine ⟨by simpa using h2, fun j b d hb hd hne hu => ?_⟩
  rw [List.all_eq_true] at h3
  have h4 := h3 (b, j) (by rw [List.mem_zipIdx_iff_getElem?]; simpa using hb)
  simp only [hd] at h4
  have k1 : Nat.beq i j = false := by
    cases k : Nat.beq i j with
    | false => rfl
    | true => exact absurd (Nat.eq_of_beq_eq_true k) hne
  have k2 : (a.uses.contains d || a.dst == some d) = true := by
    rcases hu with hu | hu
    · simp [hu]
    · simp [hu]
  rw [k1, k2] at h4
  simpa using h4

theorem tmpsOf_mem {t : Nat} : ∀ {l : List Operand}, .tmp t ∈ l → t ∈ tmpsOf l := by
  intro l
  induction l with
  | nil => intro h; simp at h
  | cons x l ih =>
    intro h
    rcases List.mem_cons.mp h with rfl | h2
    · simp [tmpsOf]
    · cases x <;> simp only [tmpsOf] <;> first | exact ih h2 | exact List.mem_cons_of_mem _ (ih h2)

structure UsesOK (o : Oper) (a : AOper) : Prop where
  opds : ∀ t, .tmp t ∈ o.op.operands.toList → t ∈ a.uses
  guard : ∀ d b, a.guard = some (d, b) → d ∈ a.uses

theorem compOper_uses {P : Program} {Y : Tr TypeInfo} {nt : Nat} {ops : Array Oper} {bf : Array Nat} {i : Nat} {o : Oper} {a : AOper} (h : compOper P Y nt ops bf i o = some a) : UsesOK o a := by
  unfold compOper at h
  split at h
  · split at h
    · cases h
      exact ⟨fun t ht => tmpsOf_mem ht, fun d b hg => by cases hg⟩
    · split at h
      · split at h
        · cases h
          exact ⟨fun t ht => List.mem_cons_of_mem _ (tmpsOf_mem ht), fun d b hg => by cases hg; simp⟩
        · cases h
      · cases h
  · cases h

theorem compOpers_uses {P : Program} {Y : Tr TypeInfo} {nt : Nat} {ops : Array Oper} {bf : Array Nat} : ∀ (os : List Oper) (i : Nat) (l : List AOper), compOpers P Y nt ops bf i os = some l → ∀ (j : Nat) (a : AOper), l[j]? = some a → ∃ o, os[j]? = some o ∧ UsesOK o a := by
  intro os
  induction os with
  | nil => intro i l h j a ha; simp only [compOpers] at h; cases h; simp at ha
  | cons o os ih =>
    intro i l h j a ha
    simp only [compOpers] at h
    split at h
    · rename_i b m h1 h2
      cases h
      cases j with
      | zero => simp at ha; subst ha; exact ⟨o, rfl, compOper_uses h1⟩
      | succ j => obtain ⟨o', q1, q2⟩ := ih (i + 1) m h2 j a (by simpa using ha); exact ⟨o', by simpa using q1, q2⟩
    · cases h

/-! ## The last of some values, again -/
section
variable {α : Type} {L W : Nat → Bool} {X : Nat → α} {M i : Nat}

/-- Each other writer is listed if it stands ahead, and is not if it stands behind. -/
def Sorted (L W : Nat → Bool) (M i : Nat) : Prop := ∀ j, j < M → j ≠ i → W j = true → (j < i ∧ L j = true) ∨ (i < j ∧ L j = false)

theorem lastX_ready (hi : i < M) (hL : L i = false) (hs : Sorted L W M i) (hX : ∀ j, j < M → W j = false → X (j + 1) = X j) : lastX L W X M = X i := by
  rw [lastX_from (k := i) M (by omega) (fun j h1 h2 hw => by
    by_cases e : j = i
    · rw [e]; exact hL
    · rcases hs j h2 e hw with ⟨a, _⟩ | ⟨_, b⟩
      · omega
      · exact b)]
  exact lastX_upto i (fun j hj hw => by
    rcases hs j (by omega) (by omega) hw with ⟨_, b⟩ | ⟨a, _⟩
    · exact b
    · omega) (fun j hj hw => hX j (by omega) hw)

def put1 (L : Nat → Bool) (i : Nat) : Nat → Bool := fun j => L j || Nat.beq j i

theorem put1_ne {j : Nat} (h : j ≠ i) : put1 L i j = L j := by
  unfold put1
  have : Nat.beq j i = false := by
    cases k : Nat.beq j i with
    | false => rfl
    | true => exact absurd (Nat.eq_of_beq_eq_true k) h
  rw [this]; simp
theorem put1_same : put1 L i i = true := by simp [put1]

theorem lastX_put (hi : i < M) (hw : W i = true) (hs : Sorted L W M i) : lastX (put1 L i) W X M = X (i + 1) := by
  rw [lastX_from (k := i + 1) M (by omega) (fun j h1 h2 hwj => by
    rw [put1_ne (by omega)]
    rcases hs j h2 (by omega) hwj with ⟨a, _⟩ | ⟨_, b⟩
    · omega
    · exact b)]
  simp [lastX, put1_same, hw]

theorem lastX_pass (hw : W i = false) : lastX (put1 L i) W X M = lastX L W X M :=
  lastX_congr M (fun j _ hwj => put1_ne (fun e => by rw [e, hw] at hwj; cases hwj))
end

end Go.Proofs.YtlbmihpmcgiinaaGreatDoor.Own
end

/- The engine, part 20: any order of such a region comes to the same: the machine. -/
section
namespace Go.Proofs.YtlbmihpmcgiinaaGreatDoor.Own
open Go

/-- All that is known of a region's run in the order of the text. -/
structure Text (P : Program) (Y : Tr TypeInfo) (env : List LoopE) (call : CallA) (ops : Array Oper) (nt : Nat) (m : List AOper) (ws : List (Nat × Nat)) (Ts : Nat → Tr Value) (Hs : Nat → AH) (Cs : Nat → Cls) (hids : Nat → List (Nat × Nat)) : Prop where
  callOK : CallOK P Y env call
  ok : OpersOK P Y ops nt 0 m
  preds : ∀ (j : Nat) (a : AOper), m[j]? = some a → a.preds = (Region.before ops).getD j 0
  uses : ∀ (j : Nat) (a : AOper), m[j]? = some a → ∃ o, ops[j]? = some o ∧ UsesOK o a
  draw : drawOk m = true
  st : ∀ (j : Nat) (a : AOper), m[j]? = some a → Stage call { a with solo := soloAt m j } ws j (Ts j) (Hs j) (Ts (j + 1)) (Hs (j + 1)) (Cs j) (hids j)
  hid : ∀ (j : Nat) (a : AOper), m[j]? = some a → Cs j ≠ .all → ∀ k, free2 m j k = true → (∀ b, (k, b) ∈ ws → hidden (hids j) b = true) ∧
    (k < j → Cs k = .iv → ∀ n, (Hs k).ctr ≤ n → n < (Hs (k + 1)).ctr → hidden (hids j) n = true)

section
variable {P : Program} {Y : Tr TypeInfo} {env : List LoopE} {call : CallA} {ops : Array Oper} {nt : Nat} {m : List AOper} {ws : List (Nat × Nat)} {Ts : Nat → Tr Value} {Hs : Nat → AH} {Cs : Nat → Cls} {hids : Nat → List (Nat × Nat)}

def wr (Hs : Nat → AH) (Cs : Nat → Cls) (n : Nat) (j : Nat) : Bool := (Cs j).writes (Hs j).ctr (Hs (j + 1)).ctr n

def dw (m : List AOper) (t : Nat) (j : Nat) : Bool := match m[j]? with | some a => a.dst == some t | none => false

theorem Text.size (X : Text P Y env call ops nt m ws Ts Hs Cs hids) : m.length = ops.size := by have := X.ok.1; omega

theorem Text.get (_X : Text P Y env call ops nt m ws Ts Hs Cs hids) {j : Nat} (h : j < m.length) : ∃ a, m[j]? = some a := ⟨m[j], List.getElem?_eq_getElem h⟩

theorem Text.mono (X : Text P Y env call ops nt m ws Ts Hs Cs hids) : ∀ (d i : Nat), i + d ≤ m.length → (Hs i).ctr ≤ (Hs (i + d)).ctr := by
  intro d
  induction d with
  | zero => intro i _; exact Nat.le_refl _
  | succ d ih =>
    intro i h
    obtain ⟨a, ha⟩ := X.get (j := i + d) (by omega)
    exact Nat.le_trans (ih i (by omega)) (X.st _ _ ha).hx.ctr

theorem Text.le (X : Text P Y env call ops nt m ws Ts Hs Cs hids) {i j : Nat} (h : i ≤ j) (hj : j ≤ m.length) : (Hs i).ctr ≤ (Hs j).ctr := by
  have := X.mono (j - i) i (by omega)
  rwa [show i + (j - i) = j from by omega] at this

theorem Text.ro (X : Text P Y env call ops nt m ws Ts Hs Cs hids) : ∀ (i : Nat), i ≤ m.length → (Hs i).ro = (Hs 0).ro := by
  intro i
  induction i with
  | zero => intro _; rfl
  | succ i ih =>
    intro h
    obtain ⟨a, ha⟩ := X.get (j := i) (by omega)
    rw [(X.st _ _ ha).hx.ro]; exact ih (by omega)

theorem Text.old (X : Text P Y env call ops nt m ws Ts Hs Cs hids) : ∀ (i : Nat), i ≤ m.length → ∀ n, n < (Hs 0).ctr → ((Hs i).get n).isSome = true → ((Hs 0).get n).isSome = true := by
  intro i
  induction i with
  | zero => intro _ n _ h; exact h
  | succ i ih =>
    intro h n hn hs
    obtain ⟨a, ha⟩ := X.get (j := i) (by omega)
    exact ih (by omega) n hn ((X.st _ _ ha).hx.old n (Nat.lt_of_lt_of_le hn (X.le (by omega) (by omega))) hs)

/-- What operation i may see. -/
def Seen (Hs : Nat → AH) (Cs : Nat → Cls) (hids : Nat → List (Nat × Nat)) (i : Nat) (a : AOper) (n : Nat) : Prop := Cs i = .all ∨ (hidden (hids i) n = false ∧ a.kind.isCalm = false ∧ n < (Hs i).ctr)

theorem Text.cross (X : Text P Y env call ops nt m ws Ts Hs Cs hids) {i k n : Nat} {a : AOper} (ha : m[i]? = some a) (hk : k < m.length) (_hne : i ≠ k) (hs : Seen Hs Cs hids i a n) (hw : wr Hs Cs n k = true) : free2 m i k = false := by
  obtain ⟨b, hb⟩ := X.get hk
  have si := X.st i a ha
  have sk := X.st k b hb
  have hcalm : a.kind.isCalm = false := by
    rcases hs with h | h
    · exact si.calm (by rw [h]; simp)
    · exact h.2.1
  have hkn : Cs k ≠ .none := by intro e; simp [wr, e, Cls.writes] at hw
  have hbcalm : b.kind.isCalm = false := sk.calm hkn
  cases hf : free2 m i k with
  | false => rfl
  | true =>
    exfalso
    by_cases hall : Cs i = .all
    · rcases soloAt_spec (si.solo hall) hb with h | h
      · rw [hbcalm] at h; cases h
      · rw [hf] at h; cases h
    · obtain ⟨hh, _, hlt⟩ := hs.resolve_left hall
      obtain ⟨q1, q2⟩ := X.hid i a ha hall k hf
      cases hc : Cs k with
      | none => exact hkn hc
      | all =>
        rcases soloAt_spec (sk.solo hc) ha with h | h
        · rw [hcalm] at h; cases h
        · rw [free2_symm, hf] at h; cases h
      | iv =>
        simp only [wr, hc, Cls.writes, Bool.and_eq_true, Nat.ble_eq] at hw
        have hw2 : n < (Hs (k + 1)).ctr := by simpa using hw.2
        by_cases hlk : k < i
        · rw [q2 hlk hc n hw.1 hw2] at hh; cases hh
        · have := X.le (i := i) (j := k) (by omega) (by omega); omega
      | blk c =>
        have e : n = c := by simpa [wr, hc, Cls.writes] using hw
        subst e
        rw [q1 _ (sk.blk _ hc).1] at hh; cases hh

theorem Text.seen_of_write (X : Text P Y env call ops nt m ws Ts Hs Cs hids) {i n : Nat} {a : AOper} (ha : m[i]? = some a) (hw : wr Hs Cs n i = true) : Seen Hs Cs hids i a n ∨ Cs i = .iv := by
  have si := X.st i a ha
  cases hc : Cs i with
  | none => simp [wr, hc, Cls.writes] at hw
  | all => exact .inl (.inl hc)
  | iv => exact .inr rfl
  | blk c =>
    have e : n = c := by simpa [wr, hc, Cls.writes] using hw
    subst e
    obtain ⟨_, h2, h3⟩ := si.blk _ hc
    exact .inl (.inr ⟨h2, si.calm (by rw [hc]; simp), h3⟩)

theorem Text.excl (X : Text P Y env call ops nt m ws Ts Hs Cs hids) {i k n : Nat} (hi : i < m.length) (hk : k < m.length) (hne : i ≠ k) (h1 : wr Hs Cs n i = true) (h2 : wr Hs Cs n k = true) : free2 m i k = false := by
  obtain ⟨a, ha⟩ := X.get hi
  obtain ⟨b, hb⟩ := X.get hk
  rcases X.seen_of_write ha h1 with hs | hc
  · exact X.cross ha hk hne hs h2
  · rcases X.seen_of_write hb h2 with hs | hc2
    · rw [free2_symm]; exact X.cross hb hi hne.symm hs h1
    · simp only [wr, hc, hc2, Cls.writes, Bool.and_eq_true, Nat.ble_eq] at h1 h2
      have l1 : n < (Hs (i + 1)).ctr := by simpa using h1.2
      have l2 : n < (Hs (k + 1)).ctr := by simpa using h2.2
      by_cases hlt : i < k
      · have := X.le (i := i + 1) (j := k) (by omega) (by omega); omega
      · have := X.le (i := k + 1) (j := i) (by omega) (by omega); omega

/-- Listed operations are closed, and operation i is ready. -/
structure Ready (ops : Array Oper) (L : Nat → Bool) (i : Nat) : Prop where
  closed : Closed ops L
  lt : i < ops.size
  new : L i = false
  ahead : ∀ o, ops[i]? = some o → ∀ e ∈ o.after, Region.binds .any e = true → L e.on = true

theorem Text.predsOf (X : Text P Y env call ops nt m ws Ts Hs Cs hids) {i : Nat} (hi : i < m.length) : Go.Proofs.YtlbmihpmcgiinaaGreatDoor.Own.predsOf m i = (Region.before ops).getD i 0 := by
  obtain ⟨a, ha⟩ := X.get hi
  unfold Go.Proofs.YtlbmihpmcgiinaaGreatDoor.Own.predsOf
  rw [ha]; exact X.preds i a ha

theorem Text.bound (X : Text P Y env call ops nt m ws Ts Hs Cs hids) {i : Nat} (hi : i < m.length) : (Region.before ops).getD i 0 < 2 ^ i := by
  obtain ⟨a, ha⟩ := X.get hi
  rw [← X.preds i a ha]
  exact (drawOk_spec X.draw ha).1

theorem Text.sorted (X : Text P Y env call ops nt m ws Ts Hs Cs hids) {L : Nat → Bool} {i : Nat} (hr : Ready ops L i) {W : Nat → Bool} (h : ∀ k, k < m.length → k ≠ i → W k = true → free2 m i k = false) : Sorted L W m.length i := by
  intro j hj hne hw
  have hi : i < m.length := by rw [X.size]; exact hr.lt
  have hi' := hr.lt
  have hj' : j < ops.size := by rw [← X.size]; exact hj
  rcases free2_false (h j hj hne hw) (Ne.symm hne) with hb | hb
  · rw [X.predsOf hi] at hb
    have hlt := bit_lt (X.bound hi) hb
    exact .inl ⟨hlt, before_closed hr.closed (i + 1) i _ (by omega) (Array.getElem?_eq_getElem hi') (hr.ahead _ (Array.getElem?_eq_getElem hi')) j hb⟩
  · rw [X.predsOf hj] at hb
    have hlt := bit_lt (X.bound hj) hb
    refine .inr ⟨hlt, ?_⟩
    cases hL : L j with
    | false => rfl
    | true =>
      have ho := Array.getElem?_eq_getElem hj'
      have := before_closed hr.closed (j + 1) j _ (by omega) ho (fun e he hbd => hr.closed j _ ho hL e he hbd) i hb
      rw [hr.new] at this; cases this

/-! ## The state behind some listed operations -/
def gL (m : List AOper) (Hs : Nat → AH) (Cs : Nat → Cls) (L : Nat → Bool) (n : Nat) : Option AObj := lastX L (wr Hs Cs n) (fun j => (Hs j).get n) m.length
def tL (m : List AOper) (Ts : Nat → Tr Value) (L : Nat → Bool) (t : Nat) : Value := lastX L (dw m t) (fun j => opv (Ts j) (.tmp t)) m.length

structure Inv (m : List AOper) (Ts : Nat → Tr Value) (Hs : Nat → AH) (Cs : Nat → Cls) (nt : Nat) (β0 : Ren) (w0 : World) (L : Nat → Bool) (β : Ren) (w : World) (tmps : Array Value) : Prop where
  rep : Rep β (gL m Hs Cs L) w
  tmp : ∀ t, VR β (tL m Ts L t) (tmps.getD t undef)
  free : ∀ i, i < m.length → L i = false → Free β (Hs i).ctr (Hs (i + 1)).ctr
  ev : Ev β0 (Hs 0).get (Hs 0).ro (Hs 0).ctr w0 β (Hs m.length).ctr w
  size : nt ≤ tmps.size

theorem Rep.sub {β : Ren} {g g' : Nat → Option AObj} {w : World} (h : Rep β g' w) (k : ∀ n o, g n = some o → g' n = some o) : Rep β g w := by
  refine ⟨fun n o e => h.obj n o (k n o e), fun n q I J a b => ?_, h.bnd⟩
  refine h.inj n q I J ?_ ?_
  · cases hg : g n with
    | none => rw [hg] at a; cases a
    | some o => rw [k n o hg]; rfl
  · cases hg : g q with
    | none => rw [hg] at b; cases b
    | some o => rw [k q o hg]; rfl

theorem Text.heap_eq (X : Text P Y env call ops nt m ws Ts Hs Cs hids) {L : Nat → Bool} {i : Nat} (hr : Ready ops L i) {n : Nat} (h : ∀ k, k < m.length → k ≠ i → wr Hs Cs n k = true → free2 m i k = false) : gL m Hs Cs L n = (Hs i).get n := by
  have hi : i < m.length := by rw [X.size]; exact hr.lt
  exact lastX_ready hi hr.new (X.sorted hr h) (fun j hj hw => by
    obtain ⟨a, ha⟩ := X.get hj
    exact (X.st j a ha).heap n hw)

theorem Text.heap_put (X : Text P Y env call ops nt m ws Ts Hs Cs hids) {L : Nat → Bool} {i : Nat} (hr : Ready ops L i) {n : Nat} (h : wr Hs Cs n i = true) : gL m Hs Cs (put1 L i) n = (Hs (i + 1)).get n := by
  have hi : i < m.length := by rw [X.size]; exact hr.lt
  exact lastX_put (X := fun j => (Hs j).get n) hi h (X.sorted hr (fun k hk hne hw => X.excl hi hk (Ne.symm hne) h hw))

theorem heap_pass {L : Nat → Bool} {i n : Nat} (h : wr Hs Cs n i = false) : gL m Hs Cs (put1 L i) n = gL m Hs Cs L n := lastX_pass h

theorem Text.tmp_free (X : Text P Y env call ops nt m ws Ts Hs Cs hids) {i : Nat} {a : AOper} (ha : m[i]? = some a) {t : Nat} (ht : t ∈ a.uses ∨ a.dst = some t) : ∀ k, k < m.length → k ≠ i → dw m t k = true → free2 m i k = false := by
  intro k hk hne hw
  obtain ⟨b, hb⟩ := X.get hk
  unfold dw at hw
  rw [hb] at hw
  exact (drawOk_spec X.draw ha).2 k b t hb (by simpa using hw) (Ne.symm hne) ht

theorem Text.tmp_eq (X : Text P Y env call ops nt m ws Ts Hs Cs hids) {L : Nat → Bool} {i : Nat} (hr : Ready ops L i) {a : AOper} (ha : m[i]? = some a) {t : Nat} (ht : t ∈ a.uses ∨ a.dst = some t) : tL m Ts L t = opv (Ts i) (.tmp t) := by
  have hi : i < m.length := by rw [X.size]; exact hr.lt
  exact lastX_ready (X := fun j => opv (Ts j) (.tmp t)) hi hr.new (X.sorted hr (X.tmp_free ha ht)) (fun j hj hw => by
    obtain ⟨b, hb⟩ := X.get hj
    refine (X.st j b hb).temps t ?_
    intro e
    unfold dw at hw
    rw [hb] at hw
    simp only at e
    simp [e] at hw)

theorem Text.tmp_put (X : Text P Y env call ops nt m ws Ts Hs Cs hids) {L : Nat → Bool} {i : Nat} (hr : Ready ops L i) {a : AOper} (ha : m[i]? = some a) {t : Nat} (ht : a.dst = some t) : tL m Ts (put1 L i) t = opv (Ts (i + 1)) (.tmp t) := by
  have hi : i < m.length := by rw [X.size]; exact hr.lt
  exact lastX_put (X := fun j => opv (Ts j) (.tmp t)) hi (by unfold dw; rw [ha]; simp [ht]) (X.sorted hr (X.tmp_free ha (.inr ht)))

theorem tmp_pass {L : Nat → Bool} {i t : Nat} {a : AOper} (ha : m[i]? = some a) (ht : a.dst ≠ some t) : tL m Ts (put1 L i) t = tL m Ts L t := lastX_pass (by unfold dw; rw [ha]; simpa using ht)

/-! ## One listed operation -/
theorem eval_one {β : Ren} {T : Tr Value} {fr : Frame} (hg : GlobOK P β) {x : Operand} (hx : okOpd P.globals.size x = true) (ht : ∀ t, x = .tmp t → VR β (opv T (.tmp t)) (fr.tmps.getD t undef)) : VR β (opv T x) (fr.eval x) := by
  cases x with
  | tmp t => exact ht t rfl
  | const v => exact VR.refl_of_scal 4 v hx
  | global g =>
    obtain ⟨I, h1, h2, h3⟩ := hg g (by simpa [okOpd] using hx)
    have := VR.ptr (o := 0) h1
    rw [h2, h3] at this
    exact this
  | func f => exact .func rfl (fun i h => by simp at h)

theorem wanted_one {β : Ren} {T : Tr Value} {tmps : Array Value} {o : Oper} {a : AOper} (h : OperOK P Y ops nt o a) (hn : nt ≤ tmps.size) (ht : ∀ d b, a.guard = some (d, b) → VR β (opv T (.tmp d)) (tmps.getD d undef)) :
    Region.wanted o (yielded ops tmps) = wantedA a.guard T := by
  have hg := h.guard
  unfold Region.wanted wantedA
  split at hg
  · rename_i e; rw [e, hg]
  · rename_i j b e
    obtain ⟨d, h1, h2, h3⟩ := hg
    rw [e, h2]
    simp only [yielded, h1, Option.bind_some]
    have hd : d < tmps.size := Nat.lt_of_lt_of_le h3 hn
    have hv := ht d b h2
    rw [Array.getD_eq_getD_getElem?, Array.getElem?_eq_getElem hd] at hv
    rw [Array.getElem?_eq_getElem hd]
    simp only [Option.getD_some, opv] at hv
    cases hT : T.get d with
    | none =>
      rw [hT] at hv
      simp only [uv] at hv
      obtain ⟨ds, he, _⟩ := hv.tuple_inv
      rw [he]; simp
    | some v =>
      rw [hT] at hv
      simp only at hv
      cases v with
      | bool x => rw [hv.bool_inv]; rfl
      | _ =>
        simp only
        generalize tmps[d] = y at hv
        cases hv <;> rfl

theorem putT_same {tmps : Array Value} {d : Nat} {v : Value} (h : d < tmps.size) : (putT tmps (some d) v).getD d undef = v := by
  simp [putT, Array.getD_eq_getD_getElem?, h]

theorem putT_other {tmps : Array Value} {dst : Option Tmp} {t : Nat} {v : Value} (h : dst ≠ some t) : (putT tmps dst v).getD t undef = tmps.getD t undef := by
  cases dst with
  | none => rfl
  | some d =>
    have : d ≠ t := fun e => h (by rw [e])
    simp [putT, Array.getD_eq_getD_getElem?, Array.getElem?_setIfInBounds_ne this]

theorem setDst_same {T : Tr Value} {d : Nat} {v : Value} : opv (setDst T (some d) v) (.tmp d) = v := by
  show opv (T.set d (some v)) (.tmp d) = v
  rw [opv_set, if_pos rfl]

theorem Text.step (X : Text P Y env call ops nt m ws Ts Hs Cs hids) {β0 : Ren} {w0 : World} (hg0 : GlobOK P β0) (he0 : EnvOK P Y β0 env) (hf0 : Free β0 (Hs 0).ctr (Hs m.length).ctr)
    {L : Nat → Bool} {i : Nat} (hr : Ready ops L i) {β : Ren} {w : World} {fr : Frame} (I : Inv m Ts Hs Cs nt β0 w0 L β w fr.tmps) (hm : fr.mode = .run) {rest : List Nat} {k : List Item} {cs : List Frame} (htodo : fr.todo = .inRegion ops (i :: rest) :: k) :
    ∃ β' w' tmps', Steps P (lone fr cs w) (lone { fr with tmps := tmps', todo := .inRegion ops rest :: k } cs w') ∧ tmps'.size = fr.tmps.size ∧ Inv m Ts Hs Cs nt β0 w0 (put1 L i) β' w' tmps' := by
  have hi : i < m.length := by rw [X.size]; exact hr.lt
  obtain ⟨a, ha⟩ := X.get hi
  obtain ⟨o, ho, hok, hnd⟩ := X.ok.2 i a ha
  rw [Nat.zero_add] at ho
  obtain ⟨o2, ho2, hu⟩ := X.uses i a ha
  rw [ho] at ho2; cases ho2
  have st := X.st i a ha
  have hguard : ∀ d b, a.guard = some (d, b) → VR β (opv (Ts i) (.tmp d)) (fr.tmps.getD d undef) := by
    intro d b hg
    rw [← X.tmp_eq hr ha (.inl (hu.guard d b hg))]
    exact I.tmp d
  have hwant := wanted_one (T := Ts i) (β := β) hok I.size hguard
  have hdlt : ∀ d, a.dst = some d → d < fr.tmps.size := fun d hd => Nat.lt_of_lt_of_le (hok.lt d (by rw [← hok.dst]; exact hd)) I.size
  have hfree : ∀ (β' : Ren), (∀ n, β' n ≠ β n → (Hs i).ctr ≤ n ∧ n < (Hs (i + 1)).ctr) → ∀ j, j < m.length → put1 L i j = false → Free β' (Hs j).ctr (Hs (j + 1)).ctr := by
    intro β' hfr j hj hL n h1 h2
    by_cases hji : j = i
    · rw [hji, put1_same] at hL; cases hL
    · rw [put1_ne hji] at hL
      by_cases hn : β' n = β n
      · rw [hn]; exact I.free j hj hL n h1 h2
      · have := hfr n hn
        by_cases hlt : i < j
        · have := X.le (i := i + 1) (j := j) (by omega) (by omega); omega
        · have := X.le (i := j + 1) (j := i) (by omega) (by omega); omega
  rcases st.run with ⟨hwf, hc, hH, hT⟩ | ⟨hwt, v, G, G1, hrun, hT, R⟩
  · -- not wanted
    have hwant' : Region.wanted o (yielded ops fr.tmps) = false := by rw [hwant]; exact hwf
    have s1 := step_inRegion_skip (P := P) (cs := cs) (w := w) hm htodo ho hwant'
    rw [finish_region htodo ho] at s1
    refine ⟨β, w, _, .one s1, putT_size _ _ _, ?_⟩
    have hnw : ∀ n, wr Hs Cs n i = false := by intro n; simp [wr, hc, Cls.writes]
    refine ⟨?_, ?_, hfree β (fun n h => absurd rfl h), I.ev, by rw [putT_size]; exact I.size⟩
    · have : gL m Hs Cs (put1 L i) = gL m Hs Cs L := funext fun n => heap_pass (hnw n)
      rw [this]; exact I.rep
    · intro t
      by_cases hd : a.dst = some t
      · rw [X.tmp_put hr ha hd, hT]
        simp only [hd]
        rw [setDst_same, ← hok.dst, hd, putT_same (hdlt t hd)]
        exact VR.uv
      · rw [tmp_pass ha hd, ← hok.dst, putT_other hd]; exact I.tmp t
  · -- carried out
    have hwant' : Region.wanted o (yielded ops fr.tmps) = true := by rw [hwant]; exact hwt
    obtain ⟨x1, x2⟩ := hok.go env call X.callOK _ G v G1 hrun R.wf
    -- what it sees is there
    have hgsub : ∀ n ob, G.get n = some ob → gL m Hs Cs L n = some ob := by
      intro n ob hn
      obtain ⟨h1, h2⟩ := R.sub n ob hn
      have hs : Seen Hs Cs hids i a n := by
        rcases h2 with h2 | ⟨h2, h3⟩
        · exact .inl h2
        · exact .inr ⟨h2, h3, st.wf.live n (by rw [h1]; rfl)⟩
      rw [X.heap_eq hr (fun k hk hne hw => X.cross ha hk (Ne.symm hne) hs hw)]
      exact h1
    have hglob := hg0.mono I.ev.le
    have henv := he0.mono I.ev.le
    have hF : Free β G.ctr G1.ctr := by rw [R.ctr, R.ctr1]; exact I.free i hi hr.new
    have hgo := x2 β w fr cs (I.rep.sub hgsub) hF hglob henv (fun x hx => eval_one hglob (hok.opds x hx) (fun t ht => by
      subst ht
      rw [← X.tmp_eq hr ha (.inl (hu.opds t hx))]
      exact I.tmp t)) (.inl ⟨ops, i, _, k, htodo⟩)
    obtain ⟨v', w1, s1, β1, q1, q2, q3⟩ := goes_step hm htodo ho hwant' hnd hgo
    rw [finish_region htodo ho] at s1
    refine ⟨β1, w1, _, s1, putT_size _ _ _, ?_⟩
    -- what is not seen stays
    have hdead : ∀ n ob, gL m Hs Cs (put1 L i) n = some ob → G1.get n = some ob ∨ (G1.get n = none ∧ G.get n = none ∧ gL m Hs Cs L n = some ob ∧ wr Hs Cs n i = false) := by
      intro n ob hn
      cases hw : wr Hs Cs n i with
      | true =>
        rw [X.heap_put hr hw, R.out n hw] at hn
        exact .inl hn
      | false =>
        rw [heap_pass hw] at hn
        cases hg1 : G1.get n with
        | some ob1 =>
          have := hgsub n ob1 (R.back n ob1 hw hg1)
          rw [hn] at this; cases this
          exact .inl rfl
        | none =>
          refine .inr ⟨rfl, ?_, hn, rfl⟩
          cases hg : G.get n with
          | none => rfl
          | some ob2 => have := R.stay n ob2 hw hg; rw [hg1] at this; cases this
    have hsomeG : ∀ n, (G.get n).isSome = true → (gL m Hs Cs L n).isSome = true := by
      intro n h
      cases hg : G.get n with
      | none => rw [hg] at h; cases h
      | some ob => rw [hgsub n ob hg]; rfl
    have hsomeG1 : ∀ n J, (G1.get n).isSome = true → β n = some J → (gL m Hs Cs L n).isSome = true := by
      intro n J h hb
      by_cases hlt : n < G.ctr
      · exact hsomeG n (x1.old n hlt h)
      · have := hF n (by omega) (x1.wf.live n h)
        rw [hb] at this; cases this
    refine ⟨⟨?_, ?_, q2.bnd⟩, ?_, ?_, ?_, by rw [putT_size]; exact I.size⟩
    · intro n ob hn
      rcases hdead n ob hn with h | ⟨h1, h2, h3, h4⟩
      · exact q2.obj n ob h
      · obtain ⟨J, o', hb, hh, hor⟩ := I.rep.obj n ob h3
        refine ⟨J, o', q3.le _ _ hb, ?_, hor.mono q3.le⟩
        rw [q3.keep J.blk (I.rep.bnd n J hb) ?_]
        · exact hh
        · intro mm K hro hs hbm hblk
          have := I.rep.inj mm n K J (hsomeG mm hs) (by rw [h3]; rfl) hbm hb hblk
          subst this
          rw [h2] at hs; cases hs
    · -- two names for one block
      have one : ∀ n q ob Jn Jq, (G1.get n = none ∧ G.get n = none ∧ gL m Hs Cs L n = some ob ∧ wr Hs Cs n i = false) → (G1.get q).isSome = true → β1 n = some Jn → β1 q = some Jq → Jn.blk = Jq.blk → n = q := by
        intro n q ob Jn Jq ⟨h1, h2, h3, h4⟩ hq hbn hbq hblk
        obtain ⟨J, o', hb, hh, hor⟩ := I.rep.obj n ob h3
        have e := q3.le _ _ hb
        rw [hbn] at e; cases e
        cases hbq0 : β q with
        | some K =>
          have e := q3.le _ _ hbq0
          rw [hbq] at e; cases e
          exact I.rep.inj n q _ _ (by rw [h3]; rfl) (hsomeG1 q _ hq hbq0) hb hbq0 hblk
        | none =>
          rcases q3.img q Jq hbq hbq0 with h | ⟨mm, K, a1, a2, a3, a4⟩
          · have := I.rep.bnd n _ hb; omega
          · rcases R.fresh with hc | hc | hc
            · simp [wr, hc, Cls.writes] at h4
            · have := q3.fresh q (by rw [hbq, hbq0]; simp)
              rw [R.ctr, R.ctr1, hc] at this; omega
            · rw [hc mm a1] at a2; cases a2
      intro n q Jn Jq hn hq hbn hbq hblk
      cases hgn : gL m Hs Cs (put1 L i) n with
      | none => rw [hgn] at hn; cases hn
      | some on =>
        cases hgq : gL m Hs Cs (put1 L i) q with
        | none => rw [hgq] at hq; cases hq
        | some oq =>
          rcases hdead n on hgn with h1 | h1
          · rcases hdead q oq hgq with h2 | h2
            · exact q2.inj n q Jn Jq (by rw [h1]; rfl) (by rw [h2]; rfl) hbn hbq hblk
            · exact (one q n oq Jq Jn h2 (by rw [h1]; rfl) hbq hbn hblk.symm).symm
          · rcases hdead q oq hgq with h2 | h2
            · exact one n q on Jn Jq h1 (by rw [h2]; rfl) hbn hbq hblk
            · obtain ⟨_, _, h1c, _⟩ := h1
              obtain ⟨_, _, h2c, _⟩ := h2
              obtain ⟨J1, _, hb1, _, _⟩ := I.rep.obj n on h1c
              obtain ⟨J2, _, hb2, _, _⟩ := I.rep.obj q oq h2c
              have e1 := q3.le _ _ hb1
              have e2 := q3.le _ _ hb2
              rw [hbn] at e1; cases e1
              rw [hbq] at e2; cases e2
              exact I.rep.inj n q _ _ (by rw [h1c]; rfl) (by rw [h2c]; rfl) hb1 hb2 hblk
    · intro t
      by_cases hd : a.dst = some t
      · rw [X.tmp_put hr ha hd, hT]
        simp only [hd]
        rw [setDst_same, ← hok.dst, hd, putT_same (hdlt t hd)]
        exact q1
      · rw [tmp_pass ha hd, ← hok.dst, putT_other hd]; exact (I.tmp t).mono q3.le
    · exact hfree β1 (fun n hn => by have := q3.fresh n hn; rw [R.ctr, R.ctr1] at this; exact this)
    · -- from the first world on
      have hc0 : (Hs 0).ctr ≤ G.ctr := by rw [R.ctr]; exact X.le (by omega) (by omega)
      have hc1 : G1.ctr ≤ (Hs m.length).ctr := by rw [R.ctr1]; exact X.le (by omega) (by omega)
      have key : ∀ mm J, G.ro ≤ mm → (G.get mm).isSome = true → β mm = some J → w0.heap.size ≤ J.blk ∨ ∃ m' J', (Hs 0).ro ≤ m' ∧ ((Hs 0).get m').isSome = true ∧ β0 m' = some J' ∧ J'.blk = J.blk := by
        intro mm J h1 h2 h3
        have hsub : ((Hs i).get mm).isSome = true := by
          cases hg : G.get mm with
          | none => rw [hg] at h2; cases h2
          | some ob => rw [(R.sub mm ob hg).1]; rfl
        by_cases hlt : mm < (Hs 0).ctr
        · right
          have hb0 : β0 mm = some J := by
            by_cases e : β mm = β0 mm
            · rw [← e]; exact h3
            · have := I.ev.fresh mm e; omega
          exact ⟨mm, J, by rw [← X.ro i (by omega)]; exact R.ro mm h1 h2, X.old i (by omega) mm hlt hsub, hb0, rfl⟩
        · have hlive := st.wf.live mm hsub
          have hb0 : β0 mm = none := hf0 mm (by omega) (by have := X.le (i := i) (j := m.length) (by omega) (Nat.le_refl _); omega)
          exact I.ev.img mm J h3 hb0
      refine ⟨Ren.le_trans I.ev.le q3.le, ?_, ?_, ?_, Nat.le_trans I.ev.size q3.size, q3.tape.trans I.ev.tape, q3.os.trans I.ev.os, q3.output.trans I.ev.output⟩
      · intro n hn
        by_cases e : β n = β0 n
        · have := q3.fresh n (by rw [e]; exact hn); omega
        · exact I.ev.fresh n e
      · intro n J hb1 hb0
        cases hb : β n with
        | some K =>
          have e := q3.le _ _ hb
          rw [hb1] at e; cases e
          exact I.ev.img n _ hb hb0
        | none =>
          rcases q3.img n J hb1 hb with h | ⟨mm, K, a1, a2, a3, a4⟩
          · left; exact Nat.le_trans I.ev.size h
          · rcases key mm K a1 a2 a3 with h | ⟨m', J', b1, b2, b3, b4⟩
            · left; omega
            · right; exact ⟨m', J', b1, b2, b3, b4.trans a4⟩
      · intro B hB hno
        rw [q3.keep B (Nat.lt_of_lt_of_le hB I.ev.size) ?_]
        · exact I.ev.keep B hB hno
        · intro mm K a1 a2 a3 a4
          rcases key mm K a1 a2 a3 with h | ⟨m', J', b1, b2, b3, b4⟩
          · omega
          · exact hno m' J' b1 b2 b3 (b4.trans a4)

end

end Go.Proofs.YtlbmihpmcgiinaaGreatDoor.Own
end

/- The engine, part 21: regions that draw their order, as a whole. -/
section
namespace Go.Proofs.YtlbmihpmcgiinaaGreatDoor.Own
open Go

theorem countP_lt {α : Type} {p q : α → Bool} : ∀ (l : List α), (∀ x ∈ l, p x = true → q x = true) → (∃ x ∈ l, q x = true ∧ p x = false) → l.countP p < l.countP q := by
  intro l
  induction l with
  | nil => intro _ ⟨x, hx, _⟩; simp at hx
  | cons y l ih =>
    intro h ⟨x, hx, h1, h2⟩
    have hle : l.countP p ≤ l.countP q := List.countP_mono_left (fun z hz => h z (List.mem_cons_of_mem _ hz))
    rw [List.countP_cons, List.countP_cons]
    rcases List.mem_cons.mp hx with rfl | hx
    · rw [h1, h2]; simp; omega
    · have := ih (fun z hz => h z (List.mem_cons_of_mem _ hz)) ⟨x, hx, h1, h2⟩
      cases hp : p y with
      | true => rw [h y (List.mem_cons_self) hp]; simp; omega
      | false => cases q y <;> simp <;> omega

section
variable {P : Program} {Y : Tr TypeInfo} {env : List LoopE} {call : CallA} {ops : Array Oper} {nt : Nat} {m : List AOper} {ws : List (Nat × Nat)} {Ts : Nat → Tr Value} {Hs : Nat → AH} {Cs : Nat → Cls} {hids : Nat → List (Nat × Nat)}

def isL (listed : Array Bool) : Nat → Bool := fun j => listed.getD j false

theorem isL_true {listed : Array Bool} {i : Nat} (h : listed.getD i true = false) : i < listed.size ∧ isL listed i = false := by
  by_cases k : i < listed.size
  · refine ⟨k, ?_⟩
    unfold isL
    rw [Array.getD_eq_getD_getElem?, Array.getElem?_eq_getElem k] at h ⊢
    simpa using h
  · rw [Array.getD_eq_getD_getElem?, Array.getElem?_eq_none (by omega)] at h
    simp at h

theorem isL_set {listed : Array Bool} {i : Nat} (h : i < listed.size) : isL (listed.setIfInBounds i true) = put1 (isL listed) i := by
  funext j
  by_cases e : j = i
  · subst e
    rw [put1_same]
    unfold isL
    simp [Array.getD_eq_getD_getElem?, h]
  · rw [put1_ne e]
    unfold isL
    simp [Array.getD_eq_getD_getElem?, Array.getElem?_setIfInBounds_ne (Ne.symm e)]

theorem Text.all_listed (X : Text P Y env call ops nt m ws Ts Hs Cs hids) {listed : Array Bool} (hs : listed.size = ops.size) (hr : Region.ready .any ops listed = []) : ∀ (n i : Nat), i < n → i < ops.size → isL listed i = true := by
  intro n
  induction n with
  | zero => intro i h; omega
  | succ n ih =>
    intro i hi hsz
    cases hL : isL listed i with
    | true => rfl
    | false =>
      exfalso
      have hmem : i ∈ Region.ready .any ops listed := by
        rw [mem_ready]
        have ho := Array.getElem?_eq_getElem hsz
        refine ⟨?_, _, ho, fun e he hb => ?_⟩
        · unfold isL at hL
          rw [Array.getD_eq_getD_getElem?, Array.getElem?_eq_getElem (by omega)] at hL ⊢
          simpa using hL
        · have := before_edge ho (X.bound (by rw [X.size]; exact hsz)) he hb
          exact ih e.on (by omega) (by omega)
      rw [hr] at hmem; cases hmem

theorem Text.go (X : Text P Y env call ops nt m ws Ts Hs Cs hids) {β0 : Ren} {w0 : World} (hg0 : GlobOK P β0) (he0 : EnvOK P Y β0 env) (hf0 : Free β0 (Hs 0).ctr (Hs m.length).ctr) {k : List Item} {cs : List Frame} :
    ∀ (fuel t : Nat) (listed : Array Bool) (β : Ren) (w : World) (fr : Frame), listed.size = ops.size → Closed ops (isL listed) → (List.range ops.size).countP (fun j => !(isL listed j)) ≤ fuel →
      Inv m Ts Hs Cs nt β0 w0 (isL listed) β w fr.tmps → fr.mode = .run → fr.todo = .inRegion ops (Region.linearise.go .any ops fuel t listed []) :: k →
      ∃ β' w' tmps' L', Steps P (lone fr cs w) (lone { fr with tmps := tmps', todo := .inRegion ops [] :: k } cs w') ∧ tmps'.size = fr.tmps.size ∧ (∀ i, i < m.length → L' i = true) ∧ Inv m Ts Hs Cs nt β0 w0 L' β' w' tmps' := by
  intro fuel
  induction fuel with
  | zero =>
    intro t listed β w fr hs hc hcnt I hm htodo
    simp only [Region.linearise.go, List.reverse_nil] at htodo
    refine ⟨β, w, fr.tmps, isL listed, ?_, rfl, fun i hi => ?_, I⟩
    · have : fr = { fr with tmps := fr.tmps, todo := .inRegion ops [] :: k } := by
        cases fr; simp only at htodo; subst htodo; rfl
      rw [← this]; exact .refl _ _
    · have h0 : (List.range ops.size).countP (fun j => !(isL listed j)) = 0 := by omega
      rw [List.countP_eq_zero] at h0
      have := h0 i (by rw [List.mem_range, ← X.size]; exact hi)
      simpa using this
  | succ fuel ih =>
    intro t listed β w fr hs hc hcnt I hm htodo
    have hgo : Region.linearise.go .any ops (fuel + 1) t listed [] = (match (Region.ready .any ops listed)[t % (Region.ready .any ops listed).length]? with
      | some i => Region.linearise.go .any ops fuel (t / (Region.ready .any ops listed).length) (listed.setIfInBounds i true) [i]
      | none => [].reverse) := by
      simp only [Region.linearise.go]; rfl
    rw [hgo] at htodo
    cases hi : (Region.ready .any ops listed)[t % (Region.ready .any ops listed).length]? with
    | none =>
      have hnil : Region.ready .any ops listed = [] := by
        cases hr : Region.ready .any ops listed with
        | nil => rfl
        | cons x xs =>
          rw [hr] at hi
          have hlt : t % (x :: xs).length < (x :: xs).length := Nat.mod_lt _ (by simp)
          simp at hi
          simp at hlt
          omega
      rw [hi] at htodo
      simp only [List.reverse_nil] at htodo
      refine ⟨β, w, fr.tmps, isL listed, ?_, rfl, fun i hi => X.all_listed hs hnil (i + 1) i (by omega) (by rw [← X.size]; exact hi), I⟩
      have : fr = { fr with tmps := fr.tmps, todo := .inRegion ops [] :: k } := by
        cases fr; simp only at htodo; subst htodo; rfl
      rw [← this]; exact .refl _ _
    | some i =>
      rw [hi] at htodo
      simp only at htodo
      rw [linearise_go_acc, List.reverse_singleton, List.singleton_append] at htodo
      obtain ⟨hun, o, ho, hahead⟩ := mem_ready.1 (List.mem_of_getElem? hi)
      obtain ⟨hil, hiL⟩ := isL_true hun
      have hsz : i < ops.size := by omega
      have hready : Ready ops (isL listed) i := ⟨hc, hsz, hiL, fun o' ho' e he hb => by
        rw [ho] at ho'; cases ho'
        exact hahead e he hb⟩
      obtain ⟨β1, w1, tmps1, s1, z1, I1⟩ := X.step hg0 he0 hf0 hready I hm htodo
      rw [← isL_set hil] at I1
      have hclosed : Closed ops (isL (listed.setIfInBounds i true)) := by
        rw [isL_set hil]
        intro j oj hoj hL e he hb
        have hold : isL listed e.on = true := by
          by_cases hji : j = i
          · subst hji
            exact hready.ahead oj hoj e he hb
          · rw [put1_ne hji] at hL
            exact hc j oj hoj hL e he hb
        unfold put1
        rw [hold]; rfl
      have hcount : (List.range ops.size).countP (fun j => !(isL (listed.setIfInBounds i true) j)) ≤ fuel := by
        have := countP_lt (p := fun j => !(isL (listed.setIfInBounds i true) j)) (q := fun j => !(isL listed j)) (List.range ops.size) (fun j _ hj => by
          rw [isL_set hil] at hj
          by_cases hji : j = i
          · subst hji; rw [hiL]; rfl
          · rwa [put1_ne hji] at hj) ⟨i, List.mem_range.mpr hsz, by rw [hiL]; rfl, by rw [isL_set hil, put1_same]; rfl⟩
        omega
      obtain ⟨β2, w2, tmps2, L2, s2, z2, hall, I2⟩ := ih (t / (Region.ready .any ops listed).length) (listed.setIfInBounds i true) β1 w1 { fr with tmps := tmps1, todo := .inRegion ops (Region.linearise.go .any ops fuel (t / (Region.ready .any ops listed).length) (listed.setIfInBounds i true) []) :: k } (by rw [Array.size_setIfInBounds]; exact hs) hclosed hcount I1 hm rfl
      exact ⟨β2, w2, tmps2, L2, s1.trans s2, z2.trans z1, hall, I2⟩
end

theorem drawOK {P : Program} {Y : Tr TypeInfo} (hY : TyOK P Y) (hmix : P.follows .mixedOrders = true) : DrawOK P Y := by
  intro env call hcall ops nt m hco hd T H T' H' hev wf
  obtain ⟨hok, hpreds⟩ := compOpers_ok (compOK hY) ops.toList 0 m hco (fun j => by simp) (by simp)
  have huses := compOpers_uses ops.toList 0 m hco
  unfold evDraw0 at hev
  have hws : ∀ p ∈ (guessW 0 (setSolo m 0 m) T H).filter (fun p => Nat.blt p.2 H.ctr), p.2 < H.ctr := by
    intro p hp
    simpa using (List.mem_filter.mp hp).2
  have htame : ∀ a ∈ setSolo m 0 m, Tame call a.run := by
    intro a ha
    obtain ⟨j, hj, rfl⟩ := List.mem_iff_getElem.mp ha
    have hg := List.getElem?_eq_getElem hj
    rw [setSolo_get] at hg
    obtain ⟨a0, h0, h1⟩ := Option.map_eq_some_iff.mp hg
    obtain ⟨o, _, hoo, _⟩ := hok.2 j a0 h0
    intro T G v G1 hr hw
    rw [← h1] at hr
    exact (hoo.go env call hcall T G v G1 hr hw).1
  obtain ⟨Ts, Hs, Cs, hids, e1, e2, e3, e4, hall⟩ := evDraw_trace (setSolo m 0 m) 0 [] T H T' H' hev wf hws (fun p hp => by simp at hp) htame
  rw [setSolo_length, Nat.zero_add] at e3 e4
  have hget : ∀ (j : Nat) (a : AOper), m[j]? = some a → (setSolo m 0 m)[j]? = some { a with solo := soloAt m j } := by
    intro j a ha
    rw [setSolo_get, ha, Nat.zero_add]; rfl
  have X : Text P Y env call ops nt m ((guessW 0 (setSolo m 0 m) T H).filter fun p => Nat.blt p.2 H.ctr) Ts Hs Cs hids := by
    refine ⟨hcall, hok, fun j a ha => by rw [hpreds j a ha, Nat.zero_add], fun j a ha => ?_, hd, fun j a ha => ?_, fun j a ha hc k hf => ?_⟩
    · obtain ⟨o, h1, h2⟩ := huses j a ha
      exact ⟨o, by simpa using h1, h2⟩
    · have := (hall j _ (hget j a ha)).1
      rwa [Nat.zero_add] at this
    · have := (hall j _ (hget j a ha)).2
      rw [Nat.zero_add] at this
      obtain ⟨q1, _, q3⟩ := this hc k (by rw [free2_setSolo]; exact hf)
      refine ⟨q1, fun hlt hcs n h1 h2 => ?_⟩
      have := q3 k hlt (by omega) (by rw [Nat.zero_add]; exact hcs) n
      rw [Nat.zero_add] at this
      exact this h1 h2
  -- on abstract heaps
  have hx : ∀ i, i ≤ m.length → HX H (Hs i) := by
    intro i
    induction i with
    | zero => intro _; rw [e2]; exact HX.refl wf
    | succ i ih =>
      intro h
      obtain ⟨a, ha⟩ := X.get (j := i) (by omega)
      exact (ih (by omega)).trans (X.st i a ha).hx
  have hxx := hx m.length (Nat.le_refl _)
  rw [e4] at hxx
  refine ⟨hxx, fun β w fr k cs id hr hf hg he ht hn hm htodo => ?_⟩
  let b : Frame := fr
  let w1 : World := { w with drawn := w.drawn + 1 }
  have hdr : Drawn w w1 := ⟨rfl, rfl, rfl, rfl⟩
  have st1 : step P (lone fr cs w) = .next (lone { fr with todo := .inRegion ops (Region.schedule (P.follows .mixedOrders) ops (w.tape w.drawn (.order fr.fn id))) :: k } cs w1) :=
    step_lone_go (by simp [stepG, stepG.exec, hm, htodo, choose, Sem.run, Question.forced, Question.cut, w1])
  have hsched : Region.schedule (P.follows .mixedOrders) ops (w.tape w.drawn (.order fr.fn id)) = Region.linearise.go .any ops ops.size (w.tape w.drawn (.order fr.fn id)) (Array.replicate ops.size false) [] := by
    simp only [Region.schedule, hmix, Bool.true_or, if_true]; rfl
  rw [hsched] at st1
  have hL0 : isL (Array.replicate ops.size false) = fun _ => false := by
    funext j
    unfold isL
    rw [Array.getD_eq_getD_getElem?]
    by_cases hj : j < ops.size
    · simp [hj]
    · rw [Array.getElem?_eq_none (by simp; omega)]; rfl
  have h0 : ∀ {α : Type} (W : Nat → Bool) (Z : Nat → α) (n : Nat), lastX (fun _ => false) W Z n = Z 0 := by
    intro α W Z n
    induction n with
    | zero => rfl
    | succ n ih => simp [lastX, ih]
  have I0 : Inv m Ts Hs Cs nt β w (isL (Array.replicate ops.size false)) β w1 fr.tmps := by
    rw [hL0]
    refine ⟨?_, fun t => ?_, fun i hi _ n h1 h2 => ?_, ?_, hn⟩
    · have : gL m Hs Cs (fun _ => false) = H.get := by
        funext n; unfold gL; rw [h0]; simp only [e2]
      rw [this]; exact hr.drawn hdr
    · unfold tL; rw [h0]; simp only [e1]; exact ht t
    · refine hf n ?_ ?_
      · have := X.le (i := 0) (j := i) (by omega) (by omega); rw [e2] at this; omega
      · have := X.le (i := i + 1) (j := m.length) (by omega) (Nat.le_refl _); rw [e4] at this; omega
    · rw [e2]
      exact ⟨Ren.le_refl _, fun n h => absurd rfl h, fun n I h k => (by rw [h] at k; cases k), fun _ _ _ => by rw [hdr.heap], by rw [hdr.heap]; exact Nat.le_refl _, hdr.tape, hdr.os, hdr.output⟩
  have hcl0 : Closed ops (isL (Array.replicate ops.size false)) := by
    rw [hL0]; intro i o _ h; cases h
  obtain ⟨β', w', tmps', L', s, z, hallL, I'⟩ := X.go hg he (by rw [e2, e4]; exact hf) (k := k) (cs := cs) ops.size (w.tape w.drawn (.order fr.fn id)) (Array.replicate ops.size false) β w1
    { fr with todo := .inRegion ops (Region.linearise.go .any ops ops.size (w.tape w.drawn (.order fr.fn id)) (Array.replicate ops.size false) []) :: k } (by simp) hcl0
    (Nat.le_trans List.countP_le_length (by simp)) I0 hm rfl
  have st2 : step P (lone { fr with tmps := tmps', todo := .inRegion ops [] :: k } cs w') = .next (lone { fr with tmps := tmps', todo := k } cs w') :=
    step_lone_go (by simp [stepG, hm, stepG.exec])
  refine ⟨β', w', tmps', .head st1 (s.trans (.one st2)), z, fun t => ?_, ?_, ?_⟩
  · have := I'.tmp t
    unfold tL at this
    rw [lastX_upto m.length (fun j hj _ => hallL j hj) (fun j hj hw => by
      obtain ⟨a, ha⟩ := X.get hj
      refine (X.st j a ha).temps t ?_
      intro e
      unfold dw at hw
      rw [ha] at hw
      simp only at e
      simp [e] at hw)] at this
    simp only [e3] at this
    exact this
  · have : gL m Hs Cs L' = H'.get := by
      funext n
      unfold gL
      rw [lastX_upto m.length (fun j hj _ => hallL j hj) (fun j hj hw => by
        obtain ⟨a, ha⟩ := X.get hj
        exact (X.st j a ha).heap n hw)]
      simp only [e4]
    rw [← this]; exact I'.rep
  · have := I'.ev
    rw [e2, e4] at this
    exact this

end Go.Proofs.YtlbmihpmcgiinaaGreatDoor.Own
end
