/- Chapter 39: the summary of (threshold.set).list is what every run does. -/
import Derived.Test.YtlbmihpmcgiinaaGreatDoorW71
import Derived.Test.YtlbmihpmcgiinaaGreatDoorSum
import Derived.Test.YtlbmihpmcgiinaaGreatDoorInst
namespace Go.Proofs.YtlbmihpmcgiinaaGreatDoor.Own
open Go Go.Proofs

/-- A new block of a callee's own, wherever it lies among the new ones. -/
theorem new_far {H : AH} (wf : WF H) (odd : Bool) (o : AObj) {n : Nat} {H' : AH} (e : H.new odd o = (n, H')) (β : Ren) (w w' : World) (o' : Obj) (I : BI) (hr : Rep β H.get w) (hf : Free β H.ctr H'.ctr)
    (hb : RowKit.Below w.heap.size w w') (hI : w.heap.size ≤ I.blk) (hat : w'.heap[I.blk]? = some o') (hor : OR (β.ext n I) n I o o') :
    Rep (β.ext n I) H'.get w' ∧ Ev β H.get H.ro H.ctr w (β.ext n I) H'.ctr w' := by
  obtain ⟨_, hctr, hnew, hlo, hhi, _, hoth, _⟩ := new_rep wf odd o e
  have hget : ∀ m, H'.get m = if m = n then some o else H.get m := fun m => by
    split
    · rename_i k; rw [k]; exact hnew
    · rename_i k; exact hoth m k
  have hbn : β n = none := hf n hlo (by omega)
  have hle := Ren.ext_le (I := I) hbn
  have hlt : I.blk < w'.heap.size := (Array.getElem?_eq_some_iff.1 hat).1
  have hbnd : ∀ m J, β.ext n I m = some J → J.blk < w'.heap.size := by
    intro m J hm
    by_cases k : m = n
    · rw [k, Ren.ext_same] at hm; cases hm; exact hlt
    · rw [Ren.ext_ne _ _ _ _ k] at hm; exact Nat.lt_of_lt_of_le (hr.bnd m J hm) hb.size
  refine ⟨⟨?_, ?_, hbnd⟩, ⟨hle, ?_, ?_, ?_, hb.size, hb.tape, hb.os, hb.output⟩⟩
  · intro m x hx
    rw [hget] at hx
    by_cases k : m = n
    · subst k
      rw [if_pos rfl] at hx; cases hx
      exact ⟨I, o', Ren.ext_same _ _ _, hat, hor⟩
    · rw [if_neg k] at hx
      obtain ⟨J, x', h1, h2, h3⟩ := hr.obj m x hx
      refine ⟨J, x', by rw [Ren.ext_ne _ _ _ _ k]; exact h1, ?_, h3.mono hle⟩
      rw [hb.block _ (hr.lt hx h1)]; exact h2
  · intro a b J K ha hb' h1 h2 hJK
    rw [hget] at ha hb'
    by_cases ka : a = n
    · by_cases kb : b = n
      · rw [ka, kb]
      · rw [if_neg kb] at hb'
        rw [ka, Ren.ext_same] at h1; cases h1
        rw [Ren.ext_ne _ _ _ _ kb] at h2
        obtain ⟨x, hx⟩ := Option.isSome_iff_exists.mp hb'
        have := hr.lt hx h2
        omega
    · rw [if_neg ka] at ha
      rw [Ren.ext_ne _ _ _ _ ka] at h1
      obtain ⟨x, hx⟩ := Option.isSome_iff_exists.mp ha
      have := hr.lt hx h1
      by_cases kb : b = n
      · rw [kb, Ren.ext_same] at h2; cases h2; omega
      · rw [if_neg kb] at hb'
        rw [Ren.ext_ne _ _ _ _ kb] at h2
        exact hr.inj a b J K ha hb' h1 h2 hJK
  · intro m hm
    by_cases k : m = n
    · omega
    · rw [Ren.ext_ne _ _ _ _ k] at hm; exact absurd rfl hm
  · intro m J hm h0
    by_cases k : m = n
    · rw [k, Ren.ext_same] at hm; cases hm; left; exact hI
    · rw [Ren.ext_ne _ _ _ _ k, h0] at hm; cases hm
  · intro B hB _
    exact hb.block B hB

/-! ## The checks -/
theorem digB_iff (b : UInt8) : digB b = true ↔ 48 ≤ b.toNat ∧ b.toNat ≤ 57 := by
  unfold digB
  rw [Bool.and_eq_true, Nat.ble_eq, Nat.ble_eq]

theorem leadB_ok {l : List UInt8} (h : leadB l = true) : Lead l := by
  cases l with
  | nil => cases h
  | cons b r =>
    unfold leadB at h
    rw [Bool.and_eq_true, Bool.and_eq_true, Nat.ble_eq] at h
    obtain ⟨⟨h1, h2⟩, h3⟩ := h
    refine ⟨⟨b, r, rfl, h1⟩, fun c hc => ?_⟩
    rcases List.mem_cons.mp hc with rfl | hc
    · exact (digB_iff _).mp h2
    · exact (digB_iff _).mp (List.all_eq_true.mp h3 c hc)

theorem canonB_ok {l : List UInt8} (h : canonB l = true) : canon l = true := by
  rw [canon_iff]
  cases l with
  | nil => cases h
  | cons b r =>
    change (match Nat.beq b.toNat 45 with | true => leadB r | false => match Nat.beq b.toNat 48 with | true => r.isEmpty | false => leadB (b :: r)) = true at h
    split at h
    · rename_i hb
      have hb := Nat.eq_of_beq_eq_true hb
      have e : b = 45 := UInt8.toNat_inj.mp hb
      exact .inr (.inr ⟨r, by rw [e], leadB_ok h⟩)
    · split at h
      · rename_i hb
        have hb := Nat.eq_of_beq_eq_true hb
        have e : b = 48 := UInt8.toNat_inj.mp hb
        left
        rw [e, List.isEmpty_iff.mp h]
      · exact .inr (.inl (leadB_ok h))

theorem digs_le (s : ByteArray) : digs s ≤ s.size := by
  obtain ⟨⟨l⟩⟩ := s
  unfold digs
  show _ ≤ l.length
  split
  · rename_i heq; simp at heq; rw [heq]; simp
  · rename_i heq; simp

theorem entryB_ok {clock : Nat} {e : MapEntry} (h : entryB clock e = true) : ∃ s b, e.key = .string s ∧ e.val = .bool b ∧ chk s = 0 ∧ e.born < clock ∧ s.size ≤ 4096 := by
  unfold entryB at h
  split at h
  · rename_i s b h1 h2
    rw [Bool.and_eq_true, Bool.and_eq_true, Nat.ble_eq, Nat.blt_eq] at h
    obtain ⟨⟨h3, h4⟩, h5⟩ := h
    have := digs_le s
    exact ⟨s, b, h1, h2, by unfold chk; rw [if_pos (canonB_ok h3), if_neg (by omega)], h5, h4⟩
  · cases h

/-! ## The map, as the machine has it -/
theorem distinctB_ok : ∀ {es : List MapEntry}, distinctB es = true → es.Pairwise fun e x => e.born ≠ x.born ∧ decInt (strOf e.key) ≠ decInt (strOf x.key) := by
  intro es
  induction es with
  | nil => intro _; exact List.Pairwise.nil
  | cons e es ih =>
    intro h
    unfold distinctB at h
    rw [Bool.and_eq_true] at h
    refine List.pairwise_cons.mpr ⟨fun x hx => ?_, ih h.2⟩
    have := List.all_eq_true.mp h.1 x hx
    unfold apartB at this
    rw [Bool.and_eq_true, Bool.not_eq_true', Bool.not_eq_true', decide_eq_false_iff_not] at this
    refine ⟨fun k => ?_, this.2⟩
    rw [k, show Nat.beq x.born x.born = true from Nat.beq_refl _] at this
    cases this.1

open Go.WideElems (Fit rd rg pl rd_mk rg_of) in
/-- A map whose keys are numbers' texts and whose values are bools reads as a datum. -/
theorem owns_of {H : Type} (es : List MapEntry) (clock : Nat) (hall : ∀ e ∈ es, entryB clock e = true) (hd : distinctB es = true) (hlen : es.length ≤ 100000) (w : World) (b : Nat) (hb : w.heap[b]? = some (.map es.toArray clock)) :
    ∃ D0 : DataW H, w.ownsMap Tryz.prog 23 (plainElem Tryz.prog 4) b es.length D0 ∧ List.Perm (strKeys D0) (es.map fun e => strOf e.key) ∧ Maps.size D0 = es.length := by
  have hdp := distinctB_ok hd
  have hrd : ∀ x ∈ es, ∃ s c, x.key = .string s ∧ rd Tryz.prog 23 (plainElem (H := H) Tryz.prog 4) x = some (.string s.data.toList, .lit (.bool c)) := fun x hx => by
    obtain ⟨s, c, h1, h2, _, _, h3⟩ := entryB_ok (hall x hx)
    refine ⟨s, c, h1, ?_⟩
    obtain ⟨key, val, born⟩ := x
    simp only at h1 h2
    subst h1
    subst h2
    have hkey : keyOf Tryz.prog 23 (.string s) = some (.string s.data.toList) := by
      have : s.size ≤ maxLen := by unfold maxLen; omega
      simp [keyOf, Tryz.underlying23, mapKey, this]
    exact rd_mk hkey (plainElem_bool Tryz.underlying4 c)
  have hfit : Fit Tryz.prog 23 (plainElem (H := H) Tryz.prog 4) es.toArray clock := by
    refine ⟨by unfold maxLen; simp; omega, (MapKept.stamped_iff _ _).mpr ⟨fun x hx => ?_, ?_, ?_⟩, fun x hx => ?_⟩
    · obtain ⟨_, _, _, _, _, h, _⟩ := entryB_ok (hall x (by simpa using hx))
      exact h
    · show (es.map (·.born)).Pairwise (· ≠ ·)
      rw [List.pairwise_map]
      exact hdp.imp (fun h => h.1)
    · show es.Pairwise _
      exact hdp.imp (fun h e => h.2 (by rw [e]))
    · obtain ⟨s, c, _, h⟩ := hrd x (by simpa using hx)
      exact ⟨_, h⟩
  refine ⟨.map ((es.toArray.toList.map (rg Tryz.prog 23 (plainElem (H := H) Tryz.prog 4))).foldr DataW.insert []), ⟨es.toArray, clock, hb, hfit, by simp, rfl⟩, ?_, ?_⟩
  · show List.Perm (((es.toArray.toList.map (rg Tryz.prog 23 (plainElem (H := H) Tryz.prog 4))).foldr DataW.insert []).map fun p => Go.strOf p.1) _
    refine ((WideShapes.sorted_perm _).map _).trans ?_
    rw [List.map_map]
    refine List.Perm.of_eq (List.map_congr_left fun x hx => ?_)
    obtain ⟨s, c, h1, h2⟩ := hrd x (by simpa using hx)
    simp only [Function.comp_apply]
    rw [rg_of h2, h1]
    rfl
  · show ((es.toArray.toList.map (rg Tryz.prog 23 (plainElem (H := H) Tryz.prog 4))).foldr DataW.insert []).length = _
    rw [(WideShapes.sorted_perm _).length_eq]
    simp

/-! ## The sorted keys -/
def isT (x : List UInt8) : List (List UInt8) → List (List UInt8)
  | [] => [x]
  | y :: l => if decInt x ≤ decInt y then x :: y :: l else y :: isT x l
def sortT : List (List UInt8) → List (List UInt8)
  | [] => []
  | x :: l => isT x (sortT l)

theorem strOf_enc (x : List UInt8) : strOf (encStr x) = x := rfl

theorem insSort_enc (x : List UInt8) : ∀ m : List (List UInt8), insSort (encStr x) (m.map encStr) = (isT x m).map encStr := by
  intro m
  induction m with
  | nil => rfl
  | cons y m ih =>
    simp only [List.map_cons, insSort, isT]
    by_cases h : decInt x ≤ decInt y
    · rw [if_pos (show decInt (strOf (encStr x)) ≤ decInt (strOf (encStr y)) from h), if_pos h]; rfl
    · rw [if_neg (show ¬ decInt (strOf (encStr x)) ≤ decInt (strOf (encStr y)) from h), if_neg h, ih]; rfl

theorem sortedKeys_enc : ∀ es : List MapEntry, (∀ e ∈ es, e.key = encStr (strOf e.key)) → sortedKeys es = (sortT (es.map fun e => strOf e.key)).map encStr := by
  intro es
  induction es with
  | nil => intro _; rfl
  | cons e es ih =>
    intro h
    simp only [sortedKeys, List.map_cons, sortT]
    rw [ih (fun x hx => h x (List.mem_cons_of_mem _ hx)), h e (List.mem_cons_self ..), insSort_enc]
    rfl

theorem isT_perm (x : List UInt8) : ∀ l, List.Perm (isT x l) (x :: l) := by
  intro l
  induction l with
  | nil => exact List.Perm.refl _
  | cons y l ih =>
    unfold isT
    split
    · exact List.Perm.refl _
    · exact (ih.cons y).trans (List.Perm.swap x y l)

theorem sortT_perm : ∀ l, List.Perm (sortT l) l := by
  intro l
  induction l with
  | nil => exact List.Perm.refl _
  | cons x l ih => exact (isT_perm x _).trans (ih.cons x)

theorem isT_asc (x : List UInt8) : ∀ l, ascT l → ascT (isT x l) := by
  intro l
  induction l with
  | nil => intro _; exact List.pairwise_singleton _ _
  | cons y l ih =>
    intro h
    have h' := List.pairwise_cons.mp h
    unfold isT
    split
    · rename_i hxy
      refine List.pairwise_cons.mpr ⟨fun z hz => ?_, h⟩
      rcases List.mem_cons.mp hz with rfl | hz
      · exact hxy
      · have := h'.1 z hz; omega
    · rename_i hxy
      refine List.pairwise_cons.mpr ⟨fun z hz => ?_, ih h'.2⟩
      rcases List.mem_cons.mp ((isT_perm x l).mem_iff.mp hz) with rfl | hz
      · omega
      · exact h'.1 z hz

theorem sortT_asc : ∀ l, ascT (sortT l) := by
  intro l
  induction l with
  | nil => exact List.Pairwise.nil
  | cons x l ih => exact isT_asc x _ ih

/-- Two ascending lists of the same numbers' texts are one. -/
theorem asc_unique {l m : List (List UInt8)} (hp : List.Perm l m) (hl : ascT l) (hm : ascT m) (hc : ∀ x ∈ l, canon x = true) : l = m := by
  refine List.Perm.eq_of_pairwise (le := fun a b => decInt a ≤ decInt b) (fun a b ha hb h1 h2 => ?_) hl hm hp
  exact canon_inj (hc a ha) (hc b (hp.mem_iff.mpr hb)) (by omega)

theorem sum71_ok (args : List Value) (H : AH) (va : Value) (H' : AH) (h : sumKeysG 23 args H = some (va, H')) (wf : WF H) :
    HX H H' ∧ ∀ (β : Ren) (w : World) (args' : Array Value) (fr : Frame) (cs : List Frame), Rep β H.get w → Free β H.ctr H'.ctr → GlobOK P0 β → VRs β args args'.toList → Plain fr → Goes P0 (callFunc 71 args') fr cs w (Post β H H' w va) := by
  unfold sumKeysG at h
  split at h
  · rename_i r
    split at h
    · rename_i es clock hr0
      split at h
      · rename_i hchk
        rw [Bool.and_eq_true, Bool.and_eq_true, Nat.ble_eq] at hchk
        obtain ⟨⟨hall, hdis⟩, hlen⟩ := hchk
        have hall := List.all_eq_true.mp hall
        -- the run
        have run : ∀ (β : Ren) (w : World) (args' : Array Value), Rep β H.get w → GlobOK P0 β → VRs β [.map (some r)] args'.toList →
            Calls P0 71 args' w fun e w' => ∃ v, e = .returned v ∧ w'.ownsRow w.heap.size 23 1 v (sortT (es.map fun e => strOf e.key)).length ((sortT (es.map fun e => strOf e.key)).map encStr) ∧ (sortT (es.map fun e => strOf e.key) = [] → v = .slice none 0 0) ∧ RowKit.Below w.heap.size w w' := by
          intro β w args' hr hgl ha
          obtain ⟨y, m, hm, h1, h2⟩ := ha.head
          rw [h2.nil_inv] at hm
          have e : args' = #[y] := arr1 hm
          subst e
          obtain ⟨I, hI, rfl⟩ := h1.map_inv
          obtain ⟨J, o', hJ, hw, hor⟩ := hr.obj _ _ hr0
          rw [hI] at hJ
          cases hJ
          cases hor with
          | @map _ es' _ hl he =>
            have hes : es' = es.toArray := by
              apply Array.toList_inj.mp
              apply List.ext_getElem?
              intro i
              by_cases hi : i < es.length
              · obtain ⟨e', q1, q2⟩ := he i es[i] (List.getElem?_eq_getElem hi)
                obtain ⟨s, c, k1, k2, _⟩ := entryB_ok (hall es[i] (List.getElem_mem hi))
                have kk := q2.key
                have kv := q2.val
                rw [k1] at kk
                rw [k2] at kv
                have kk2 : e'.key = .string s := by
                  revert kk
                  generalize e'.key = k
                  intro kk
                  cases kk
                  rfl
                have kv2 : e'.val = .bool c := by
                  revert kv
                  generalize e'.val = k
                  intro kv
                  cases kv
                  rfl
                have : e' = es[i] := by
                  have hb := q2.born
                  obtain ⟨a, b, c⟩ := e'
                  generalize es[i] = x at *
                  obtain ⟨a2, b2, c2⟩ := x
                  simp only at k1 k2 kk2 kv2 hb
                  rw [k1, k2, kk2, kv2, hb]
                rw [Array.getElem?_toList, q1, this]
                simp [hi]
              · rw [Array.getElem?_toList, Array.getElem?_eq_none (by omega)]
                simp; omega
            subst hes
            obtain ⟨D0, hown, hperm, hsize⟩ := owns_of (H := Unit) es clock hall hdis hlen w I.blk hw
            have h10 : 10 ≤ w.heap.size := by
              obtain ⟨G, g1, g2, _⟩ := hgl 9 (by rw [show P0.globals.size = 10 from by kernel_rfl]; omega)
              have := hr.bnd _ G g1
              omega
            have hkeys : ∀ x ∈ strKeys D0, chk ⟨x.toArray⟩ = 0 := fun x hx => by
              obtain ⟨e, he1, rfl⟩ := List.mem_map.mp (hperm.mem_iff.mp hx)
              obtain ⟨s, c, k1, _, k3, _⟩ := entryB_ok (hall e he1)
              rw [k1]
              exact k3
            refine (w71 I.blk es.length D0 w hown hkeys (by omega) h10).mono ?_
            rintro e w' ⟨v, ts, rfl, hts, hasc, hrow, hnil, hB⟩
            have hu : ts = sortT (es.map fun e => strOf e.key) := asc_unique (hts.trans (hperm.trans (sortT_perm _).symm)) hasc (sortT_asc _) (fun x hx => canon_of_chk (s := ⟨x.toArray⟩) (hkeys x (hts.mem_iff.mp hx)))
            rw [hu] at hrow hnil
            exact ⟨v, rfl, hrow, hnil, hB⟩
        have hkeyform : ∀ e ∈ es, e.key = encStr (strOf e.key) := fun e he => by
          obtain ⟨s, c, k1, _⟩ := entryB_ok (hall e he)
          rw [k1]
          rfl
        have henc := sortedKeys_enc es hkeyform
        have hbody : ∃ fn c, P0.funcs[71]? = some fn ∧ fn.body = some c := ⟨Tryz.f71, _, Tryz.func71, rfl⟩
        obtain ⟨fn, c, hfn, hfb⟩ := hbody
        unfold sumKeys at h
        simp only [hr0] at h
        split at h
        · rename_i hes0
          simp only [Option.some.injEq, AObj.map.injEq] at hes0
          obtain ⟨rfl, _⟩ := hes0
          cases h
          refine ⟨HX.refl wf, fun β w args' fr cs hr hf hgl ha hp => ?_⟩
          refine goes_of_calls named0 hfn hfb (run β w args' hr hgl ha) ?_ hp
          rintro e w' ⟨v, rfl, _, hnil, hB⟩
          refine ⟨v, rfl, β, by rw [hnil rfl]; exact .snil, ⟨fun n o e => ?_, hr.inj, fun n I e => Nat.lt_of_lt_of_le (hr.bnd n I e) hB.size⟩, ⟨Ren.le_refl _, fun n h => absurd rfl h, fun n I h k => (by rw [h] at k; cases k), fun B hB' _ => hB.block B hB', hB.size, hB.tape, hB.os, hB.output⟩⟩
          obtain ⟨I, o', q1, q2, q3⟩ := hr.obj n o e
          exact ⟨I, o', q1, by rw [hB.block I.blk (hr.bnd n I q1)]; exact q2, q3⟩
        · rename_i es2 clock2 hne hes0
          simp only [Option.some.injEq, AObj.map.injEq] at hes0
          obtain ⟨rfl, rfl⟩ := hes0
          rw [henc] at h
          generalize hts : sortT (es.map fun e => strOf e.key) = ts at h run
          have htl : ts.length = es.length := by rw [← hts, (sortT_perm _).length_eq, List.length_map]
          have htne : ts ≠ [] := fun e => by
            rw [e] at htl
            exact hne (List.length_eq_zero_iff.mp htl.symm)
          generalize hnew : H.new true (.cells (ts.map encStr) 23 false 1) = q at h
          obtain ⟨n, H2⟩ := q
          simp only [Option.some.injEq, Prod.mk.injEq] at h
          obtain ⟨rfl, rfl⟩ := h
          obtain ⟨hx, _, _, _, _, hodd, _⟩ := new_rep wf true (.cells (ts.map encStr) 23 false 1) hnew
          refine ⟨hx, fun β w args' fr cs hr hf hgl ha hp => ?_⟩
          refine goes_of_calls named0 hfn hfb (run β w args' hr hgl ha) ?_ hp
          rintro e w' ⟨v, rfl, hrow, _, hB⟩
          rcases hrow.2 with ⟨_, h0⟩ | ⟨g, cap, cur, rfl, hbase, hg, h1, h2, h3, h4⟩
          · exact absurd (List.length_eq_zero_iff.mp h0) htne
          · have hcell : ∀ (i : Nat) (v : Value), (ts.map encStr)[i]? = some v → cur[i]? = some v := fun i v hv => by
              have e := congrArg (fun l => l[i]?) h4
              simp only [Nat.mul_one] at e
              have hi : i < ts.length := by
                have := (List.getElem?_eq_some_iff.mp hv).1
                rwa [List.length_map] at this
              rw [List.getElem?_take_of_lt hi, Array.getElem?_toList] at e
              rw [e, hv]
            have hor : OR (β.ext n ⟨g, 0, 1, cur.size, none⟩) n ⟨g, 0, 1, cur.size, none⟩ (.cells (ts.map encStr) 23 false 1) (.cells cur 23 (0, 0)) := by
              refine .cells (fun i v hv => ⟨v, hcell i v hv, ?_⟩) (fun _ => ⟨rfl, rfl⟩) (fun _ => Nat.le_refl _) (fun k => ?_)
              · obtain ⟨x, _, rfl⟩ := List.mem_map.mp (List.mem_of_getElem? hv)
                exact .string _
              · simp at hodd; omega
            obtain ⟨q1, q2⟩ := new_far wf true _ hnew β w w' _ ⟨g, 0, 1, cur.size, none⟩ hr hf hB hbase hg hor
            refine ⟨_, rfl, _, ?_, q1, q2⟩
            rw [List.length_map]
            have := VR.slice (β := β.ext n ⟨g, 0, 1, cur.size, none⟩) (n := n) (o := 0) (l := ts.length) (c := ts.length) (c' := cap) (Ren.ext_same _ _ _) (Nat.le_refl _) h1 (fun k => by simp at hodd; omega) (fun _ => by show 0 + 0 + cap * 1 ≤ cur.size; omega)
            exact this
        · cases h
      · cases h
    · cases h
  · cases h

end Go.Proofs.YtlbmihpmcgiinaaGreatDoor.Own
