/- The engine, part 7: append and copy. -/
import Derived.Test.YtlbmihpmcgiinaaGreatDoorEngB
import Derived.MapKept
import Derived.Lib.UnsafeStr
import Derived.Lib.ConvBytes

section
namespace Go.Proofs.YtlbmihpmcgiinaaGreatDoor.Own
open Go

section
variable {P : Program} {o : Oper}

theorem growBy_le (newLen : Nat) : ∀ (r c : Nat), Builtin.growBy newLen r c ≤ max c (newLen + (newLen + 768) / 4) := by
  intro r
  induction r with
  | zero => intro c; simp only [Builtin.growBy]; omega
  | succ r ih =>
    intro c
    simp only [Builtin.growBy]
    split
    · omega
    · have := ih (c + (c + 768) / 4); omega

theorem nextslicecap_le {need cap : Nat} (h : cap < need) : Builtin.nextslicecap need cap ≤ 2 * need + 768 := by
  unfold Builtin.nextslicecap
  split
  · omega
  · split
    · omega
    · have := growBy_le need 4 cap; omega

theorem next_room {need cap b : Nat} (h : cap < need) (hr : need * (b + 1) ≤ roomA) : ¬ (Builtin.nextslicecap need cap * b > 2 ^ 48) := by
  have h1 := nextslicecap_le h
  have h2 : Builtin.nextslicecap need cap * b ≤ (2 * need + 768) * b := Nat.mul_le_mul_right b h1
  have h3 : (2 * need + 768) * b = 2 * (need * b) + 768 * b := by rw [Nat.add_mul, Nat.mul_assoc]
  obtain ⟨h4, h5⟩ := room_small hr
  have h6 : b ≤ need * b := Nat.le_mul_of_pos_left b (by omega)
  have : (2 : Nat) ^ 48 = 281474976710656 := by decide
  omega

/-- What append takes of its second argument. -/
def Appends (P : Program) (w : World) (s : Sem (Array Value)) (new : Array Value) : Prop := ∀ w2, Drawn w w2 → s.run P w2 = .ok new w2

theorem drew_drawn (w : World) : Drawn w { w with drawn := w.drawn + 1 } := ⟨rfl, rfl, rfl, rfl⟩

theorem zeroCells_size (z : Array Value) (n : Nat) : (Builtin.zeroCells z n).size = n * z.size := by simp [Builtin.zeroCells]

theorem append_in {ts t : TypeId} {u : TypeDesc} {at_ : Array TypeId} {rt e0 : TypeId} {i : TypeInfo} {w : World} {base : Option Addr} {sLen sCap n : Nat} {x : Value} {new : Array Value}
    (h0 : at_[0]? = some ts) (h1 : at_[1]? = some t) (hts : P.underlying ts = some (.slice e0)) (ht : P.underlying t = some u) (hi : P.info? e0 = some i)
    (hu : ∀ k, u ≠ .int k) (hlen : (Builtin.lenOf x).run P w = .ok n w) (hle : sLen + n ≤ sCap) (happ : Appends P w (Builtin.firstCells i.size n x) new) :
    (Builtin.append_ at_ rt #[.slice base sLen sCap, x]).run P w = match base with
      | none => .ok (.slice none (sLen + n) sCap) w
      | some a => ((storeCells (a.add (sLen * i.size)) new.toList).run P w).andThen fun _ w' => .ok (.slice (some a) (sLen + n) sCap) w' := by
  have happ' := happ w (Drawn.refl w)
  unfold Builtin.append_
  simp only [h0, List.getElem?_toArray, List.getElem?_cons_zero, List.getElem?_cons_succ, Sem.run_bind, run_under w hts, Result.andThen_ok, run_size w hi, h1, run_under w ht, Sem.run_pure]
  rw [if_neg (by decide)]
  simp only [Sem.run_bind, hlen, Result.andThen_ok, if_pos hle, Bool.not_false, if_true, happ']
  cases base with
  | none => simp
  | some a => simp only [Sem.run_bind]; rfl

theorem append_out {ts t : TypeId} {u : TypeDesc} {at_ : Array TypeId} {rt e0 : TypeId} {i : TypeInfo} {w : World} {base : Option Addr} {sLen sCap n : Nat} {x z : Value} {old new : Array Value}
    (h0 : at_[0]? = some ts) (h1 : at_[1]? = some t) (hts : P.underlying ts = some (.slice e0)) (ht : P.underlying t = some u) (hi : P.info? e0 = some i) (hiz : i.zero = some z) (hzs : i.size = z.cells.size)
    (hu : ∀ k, u ≠ .int k) (hlen : (Builtin.lenOf x).run P w = .ok n w) (hgt : sCap < sLen + n) (hroom : (sLen + n) * (i.bytes + 1) ≤ roomA)
    (hold : Appends P w (Builtin.firstCells i.size sLen (.slice base sLen sCap)) old) (happ : Appends P w (Builtin.firstCells i.size n x) new) :
    ∃ cap' w' rest, sLen + n ≤ cap' ∧ (Builtin.append_ at_ rt #[.slice base sLen sCap, x]).run P w = .ok (.slice (some ⟨w.heap.size, 0, none⟩) (sLen + n) cap') w' ∧
      Pushed w (.cells (old ++ new ++ rest) e0) w' ∧ rest.size = (cap' - (sLen + n)) * i.size := by
  let q : Question := .appendCap (sLen + n) sCap e0
  let cap' := q.cut (w.tape w.drawn q)
  have hcap : sLen + n ≤ cap' := by
    show sLen + n ≤ (sLen + n) + _
    omega
  let rest := Builtin.zeroCells z.cells (cap' - (sLen + n))
  obtain ⟨hr1, hr2⟩ := room_small hroom
  refine ⟨cap', { ({ w with drawn := w.drawn + 1 } : World) with heap := w.heap.push (.cells (old ++ new ++ rest) e0) }, rest, hcap, ?_, ⟨rfl, rfl, rfl, rfl⟩, by rw [zeroCells_size, hzs]⟩
  · unfold Builtin.append_
    simp only [h0, List.getElem?_toArray, List.getElem?_cons_zero, List.getElem?_cons_succ, Sem.run_bind, run_under w hts, Result.andThen_ok, run_size w hi, h1, run_under w ht, Sem.run_pure]
    rw [if_neg (by decide)]
    have hmax : ¬ (((sLen + n : Nat) : Int) > IntKind.i64.max ∧ (False ∨ i.bytes = 0)) := by
      have : IntKind.i64.max = 9223372036854775807 := by decide
      rw [this]; omega
    have hmax' : ¬ (((sLen + n : Nat) : Int) > IntKind.i64.max ∧ (false = true ∨ i.bytes = 0)) := by
      have : IntKind.i64.max = 9223372036854775807 := by decide
      rw [this]; omega
    have hnx := next_room hgt hroom
    have hd := drew_drawn w
    simp only [Sem.run_bind, hlen, Result.andThen_ok, if_neg (Nat.not_le_of_lt hgt), run_info w hi, if_neg hmax', if_neg hnx]
    rw [run_choose]
    have hf : Question.forced (.appendCap (sLen + n) sCap e0) = false := rfl
    rw [hf]
    simp only [Bool.false_eq_true, if_false, Result.andThen_ok]
    have e1 := hold _ hd
    have e2 := happ _ hd
    have e3 := run_info (P := P) { w with drawn := w.drawn + 1 } hi
    have e4 := run_zero (P := P) { w with drawn := w.drawn + 1 } hi hiz
    simp only [e3, Result.andThen_ok, run_askRoom, e1, Bool.not_false, if_true, e2, e4, newRow, Sem.run_bind, run_newObj, Sem.run_pure]
    rfl

theorem cell_drawn {w w2 : World} (d : Drawn w w2) (a : Addr) : w2.cell? a = w.cell? a := by simp only [World.cell?, d.heap]

theorem firstA_ok {H : AH} {size n : Nat} {v v' : Value} {l : List Value} (h : firstA H size v = some l) (hn : lenA v = some n) {β : Ren} {w : World} (hr : Rep β H.get w) (hv : VR β v v') :
    ∃ l', VRs β l l' ∧ Appends P w (Builtin.firstCells size n v') l'.toArray := by
  unfold firstA at h
  split at h
  · rename_i a m c
    simp only [lenA] at hn; cases hn
    split at h
    · rename_i s hs
      cases h
      rcases hv.slice_addr with ⟨q, p, rfl⟩ | ⟨rfl, rfl, rfl, a2, c2, rfl⟩
      · simp at hs
      · exact ⟨[], .nil, fun w2 _ => by simp [Builtin.firstCells, loadCells, loadCellsFrom]⟩
    · rename_i hs
      rcases hv.slice_addr with ⟨q, p, rfl⟩ | ⟨rfl, rfl, rfl, a2, c2, rfl⟩
      · obtain ⟨I, c', hI, rfl, _⟩ := hv.slice_inv
        obtain ⟨_, l', hl, hlen, hc⟩ := readCells_rep h hr (VR.ptr hI)
        refine ⟨l', hl, fun w2 d => ?_⟩
        simp only [Builtin.firstCells]
        exact run_loadCells P w2 _ l' _ (by rw [← hl.1, hlen]) (fun i x hx => by rw [cell_drawn d]; exact hc i x hx)
      · simp at hs
  · cases h
    cases hv with
    | snil => exact ⟨[], .nil, fun w2 _ => by simp [Builtin.firstCells]⟩
  · rename_i s
    cases h
    simp only [lenA] at hn; cases hn
    rw [hv.str_inv]
    refine ⟨s.data.toList.map fun b => .int .u8 b.toNat, VRs.of_get rfl (fun i x hx => ⟨x, hx, ?_⟩), fun w2 _ => ?_⟩
    · rw [List.getElem?_map] at hx
      obtain ⟨b, _, rfl⟩ := Option.map_eq_some_iff.mp hx
      exact .int _ _
    · simp only [Builtin.firstCells, Sem.run_pure]
      congr 1
      apply Array.toList_inj.mp
      have : s.extract 0 s.data.toList.length = s := by
        apply ByteArray.ext
        rw [ByteArray.data_extract]
        apply Array.toList_inj.mp
        rw [Array.toList_extract, List.extract_eq_take_drop, List.drop_zero]
        exact List.take_of_length_le (by simp)
      rw [this]
      simp
  · cases h

/-- A grown slice's block. -/
theorem OR.grown {β : Ren} {n : Nat} {I : BI} {c : List Value} {c' : Array Value} {e : TypeId} (hn : n % 2 = 1) (hs : I.tot = c'.size)
    (hv : ∀ (i : Nat) (v : Value), c[i]? = some v → ∃ w, c'[i + I.shift]? = some w ∧ VR β v w) {fz : Nat × Nat} (hf : fz.2 ≤ fz.1) : OR β n I (.cells c e false I.esz) (.cells c' e fz) :=
  .cells hv (fun _ => ⟨rfl, hs⟩) (fun _ => hf) (fun h => by omega)

theorem newSl_rep {H : AH} (wf : WF H) {e : TypeId} {size need : Nat} {c : List Value} {va : Value} {H' : AH} (h : newSl e size H c need = (va, H')) :
    HX H H' ∧ ∀ (β : Ren) (w w' : World) (c' : Array Value) (cap' : Nat), Rep β H.get w → Free β H.ctr H'.ctr → Pushed w (.cells c' e) w' →
      (∀ (i : Nat) (v : Value), c[i]? = some v → ∃ y, c'[i]? = some y ∧ VR β v y) → need ≤ cap' → cap' * size ≤ c'.size →
      ∃ β', VR β' va (.slice (some ⟨w.heap.size, 0, none⟩) need cap') ∧ Rep β' H'.get w' ∧ Ev β H.get H.ro H.ctr w β' H'.ctr w' := by
  unfold newSl at h
  cases hnew : H.new true (.cells c e false size) with
  | mk m H1 =>
    rw [hnew] at h; cases h
    obtain ⟨x1, x2, x3, x4, x5, x6, x7, x8⟩ := new_rep wf true _ hnew
    refine ⟨x1, fun β w w' c' cap' hr hf hp hv hn hc => ?_⟩
    let I : BI := ⟨w.heap.size, 0, size, c'.size, none⟩
    have hm : m % 2 = 1 := by simpa using x6
    have hle : β.le (β.ext m I) := Ren.ext_le (hf m x4 x5)
    obtain ⟨r1, r2⟩ := x8 β w w' (.cells c' e) I hr hf hp rfl (OR.grown (I := I) hm rfl (fun i v hi => by
      obtain ⟨y, hy, hvy⟩ := hv i v hi
      exact ⟨y, by simpa [I] using hy, hvy.mono hle⟩) (Nat.le_refl _))
    refine ⟨_, ?_, r1, r2⟩
    have := VR.slice (o := 0) (l := need) (c := need) (c' := cap') (Ren.ext_same β m I) (Nat.le_refl _) hn (fun k => by omega) (fun _ => by simp only [I]; omega)
    simpa [I] using this

theorem newSl_kill {H : AH} (wf : WF H) {k : Nat} {o0 : AObj} (h0 : H.get k = some o0) (hk : H.ro ≤ k) {e : TypeId} {size need : Nat} {c : List Value} {va : Value} {H' : AH} (h : newSl e size (H.put k none) c need = (va, H')) :
    HX H H' ∧ ∀ (β : Ren) (w w' : World) (c' : Array Value) (cap' : Nat) (I : BI) (fz : Nat × Nat), Rep β H.get w → Free β H.ctr H'.ctr →
      (Pushed w (.cells c' e fz) w' ∧ I.blk = w.heap.size ∨ ∃ J, β k = some J ∧ I.blk = J.blk ∧ Turned w J.blk (.cells c' e fz) w') → I.esz = size → I.tot = c'.size → fz.2 ≤ fz.1 →
      (∀ (i : Nat) (v : Value), c[i]? = some v → ∃ y, c'[i + I.shift]? = some y ∧ VR β v y) → need ≤ cap' → I.shift + cap' * size ≤ c'.size →
      ∃ β', VR β' va (.slice (some ⟨I.blk, I.shift, none⟩) need cap') ∧ Rep β' H'.get w' ∧ Ev β H.get H.ro H.ctr w β' H'.ctr w' := by
  unfold newSl at h
  cases hnew : (H.put k none).new true (.cells c e false size) with
  | mk m H1 =>
    rw [hnew] at h; cases h
    obtain ⟨x1, x2, x3, x4, x5, x6, x8⟩ := renew_rep wf h0 hk _ hnew
    refine ⟨x1, fun β w w' c' cap' I fz hr hf hp he ht hz hv hn hc => ?_⟩
    have hle : β.le (β.ext m I) := Ren.ext_le (hf m x4 x5)
    obtain ⟨r1, r2⟩ := x8 β w w' (.cells c' e fz) I hr hf hp (by
      rw [← he]
      exact OR.grown x6 ht (fun i v hi => by
        obtain ⟨y, hy, hvy⟩ := hv i v hi
        exact ⟨y, hy, hvy.mono hle⟩) hz)
    refine ⟨_, ?_, r1, r2⟩
    have := VR.slice (o := 0) (l := need) (c := need) (c' := cap') (Ren.ext_same β m I) (Nat.le_refl _) hn (fun k => by omega) (fun _ => by rw [he, ht]; omega)
    simpa using this

theorem run_storeCells_any (P : Program) (B o : Nat) (vs : List Value) (i : Nat) (w : World) (c : Array Value) (e : TypeId) (fz : Nat × Nat) (hw : w.heap[B]? = some (.cells c e fz)) (hz : fz.2 ≤ fz.1)
    (hsz : o + i + vs.length ≤ c.size) (hone : vs.all oneA = true) :
    ∃ w' c', (storeCells ⟨B, o, none⟩ vs i).run P w = .ok () w' ∧ Turned w B (.cells c' e fz) w' ∧ c'.size = c.size ∧
      ∀ j, c'[j]? = if o + i ≤ j ∧ j < o + i + vs.length then vs[j - (o + i)]? else c[j]? := by
  by_cases h : vs = []
  · subst h
    exact ⟨w, c, by simp [storeCells], ⟨rfl, hw, fun _ _ => rfl, rfl, rfl, rfl⟩, rfl, fun j => by rw [if_neg (by simp)]⟩
  · exact run_storeCells P B o vs i w c e fz hw hz hsz hone h

/-- The model's append, as what the rest needs of it. -/
structure AppRun (P : Program) (w : World) (run : Option Addr → Nat → Nat → Result Value) (e0 : TypeId) (size bytes n : Nat) (new : Array Value) : Prop where
  in_ : ∀ base sLen sCap, sLen + n ≤ sCap → run base sLen sCap = match base with
      | none => .ok (.slice none (sLen + n) sCap) w
      | some a => ((storeCells (a.add (sLen * size)) new.toList).run P w).andThen fun _ w' => .ok (.slice (some a) (sLen + n) sCap) w'
  out : ∀ base sLen sCap old, sCap < sLen + n → (sLen + n) * (bytes + 1) ≤ roomA → Appends P w (Builtin.firstCells size sLen (.slice base sLen sCap)) old →
      ∃ cap' w' rest, sLen + n ≤ cap' ∧ run base sLen sCap = .ok (.slice (some ⟨w.heap.size, 0, none⟩) (sLen + n) cap') w' ∧
      Pushed w (.cells (old ++ new ++ rest) e0) w' ∧ rest.size = (cap' - (sLen + n)) * size

theorem get_app {β : Ren} {l l' m m' : List Value} {rest : Array Value} (h : VRs β l l') (k : VRs β m m') (i : Nat) (v : Value) (hi : (l ++ m)[i]? = some v) : ∃ y, (l'.toArray ++ m'.toArray ++ rest)[i]? = some y ∧ VR β v y := by
  obtain ⟨y, hy, hv⟩ := (h.append k).get hi
  refine ⟨y, ?_, hv⟩
  have hlt : i < (l' ++ m').length := by
    by_cases c : i < (l' ++ m').length
    · exact c
    · rw [List.getElem?_eq_none (by omega)] at hy; cases hy
  rw [← Array.getElem?_toList]
  simp only [Array.toList_append]
  rw [List.getElem?_append_left hlt, hy]

theorem appendA_ok {H H' : AH} (wf : WF H) {e0 : TypeId} {size bytes n : Nat} {s va : Value} {new : List Value} (h : appendA e0 size bytes H s n new = some (va, H')) (hnl : new.length = n * size) :
    HX H H' ∧ ∀ (β : Ren) (w : World) (s' : Value) (new' : List Value) (run : Option Addr → Nat → Nat → Result Value), Rep β H.get w → Free β H.ctr H'.ctr → VR β s s' → VRs β new new' → AppRun P w run e0 size bytes n new'.toArray →
      ∃ base sLen sCap β' w' v, s' = .slice base sLen sCap ∧ run base sLen sCap = .ok v w' ∧ VR β' va v ∧ Rep β' H'.get w' ∧ Ev β H.get H.ro H.ctr w β' H'.ctr w' := by
  unfold appendA at h
  split at h
  · -- nil
    split at h
    · rename_i hn0
      cases h
      have hn0 : n = 0 := by simpa using hn0
      refine ⟨HX.refl wf, fun β w s' new' run hr _ hs hv har => ⟨none, 0, 0, β, w, .slice none 0 0, hs.snil_inv.1, ?_, .snil, hr, Ev.refl _ _ _ _ _⟩⟩
      rw [har.in_ none 0 0 (by omega), hn0]
    · rename_i hn0 hroom
      simp only [Option.some.injEq] at h
      have hn0 : n ≠ 0 := fun k => by rw [k] at hn0; cases hn0
      have hroom : n * (bytes + 1) ≤ roomA := by simpa using hroom
      obtain ⟨x1, x2⟩ := newSl_rep wf h
      refine ⟨x1, fun β w s' new' run hr hf hs hv har => ?_⟩
      obtain ⟨cap', w', rest, g1, g2, g3, g4⟩ := har.out none 0 0 #[] (by omega) (by rw [Nat.zero_add]; exact hroom) (fun w2 _ => by simp [Builtin.firstCells])
      rw [Nat.zero_add] at g1 g2 g4
      obtain ⟨β', r1, r2, r3⟩ := x2 β w w' _ cap' hr hf g3 (fun i v hi => get_app (l := []) VRs.nil hv i v (by simpa using hi)) g1 (by
        have := hv.1
        simp [g4]
        rw [← this, hnl, ← Nat.add_mul]
        exact Nat.mul_le_mul_right _ (by omega))
      exact ⟨none, 0, 0, β', w', _, hs.snil_inv.1, g2, r1, r2, r3⟩
    · cases h
  · rename_i a len cap
    split at h
    · rename_i sp hsp
      split at h
      · rename_i hn0
        cases h
        refine ⟨HX.refl wf, fun β w s' new' run hr _ hs hv har => ?_⟩
        rcases hs.slice_addr with ⟨q, p, rfl⟩ | ⟨rfl, rfl, rfl, a2, c2, rfl⟩
        · simp at hsp
        · have hnil : new' = [] := by
            have := hv.1; rw [hnl, hn0] at this; exact List.length_eq_zero_iff.mp (by simpa using this.symm)
          refine ⟨some a2, 0, c2, β, w, .slice (some a2) 0 c2, rfl, ?_, hs, hr, Ev.refl _ _ _ _ _⟩
          rw [har.in_ (some a2) 0 c2 (by omega), hnil, hn0]; simp [storeCells]
      · cases h
    · rename_i hsp
      split at h
      · rename_i hn0
        cases h
        have hn0 : n = 0 := by simpa using hn0
        refine ⟨HX.refl wf, fun β w s' new' run hr _ hs hv har => ?_⟩
        rcases hs.slice_addr with ⟨q, p, rfl⟩ | ⟨rfl, _⟩
        · obtain ⟨I, c', hI, rfl, g1, g2, _⟩ := hs.slice_inv
          have hnil : new' = [] := by
            have := hv.1; rw [hnl, hn0] at this; exact List.length_eq_zero_iff.mp (by simpa using this.symm)
          refine ⟨_, len, c', β, w, _, rfl, ?_, hs, hr, Ev.refl _ _ _ _ _⟩
          rw [har.in_ _ len c' (by omega), hnil, hn0]; simp [storeCells]
        · simp at hsp
      · rename_i hn0 hle
        have hle : len + n ≤ cap := by simpa using hle
        split at h
        · rename_i H1 hw
          cases h
          obtain ⟨x1, x2, x3⟩ := writeCells_rep P wf hw
          refine ⟨x1, fun β w s' new' run hr _ hs hv har => ?_⟩
          rcases hs.slice_addr with ⟨q, p, rfl⟩ | ⟨rfl, _⟩
          · obtain ⟨I, c', hI, rfl, g1, g2, g3, g4⟩ := hs.slice_inv
            obtain ⟨w', r1, r2, r3⟩ := x3 β w _ new' hr ((VR.ptr hI).moved (len * size)) hv
            refine ⟨_, len, c', β, w', _, rfl, ?_, VR.slice hI hle g2 g3 g4, r2, r3⟩
            rw [har.in_ _ len c' (by omega)]
            simp only [r1, Result.andThen_ok]
          · simp at hsp
        · cases h
      · rename_i hn0 hgt
        have hgt : cap < len + n := by
          by_cases c : len + n ≤ cap
          · rw [Nat.ble_eq.mpr c] at hgt; cases hgt
          · omega
        split at h
        · rename_i old c0 e1 f1 z hroom hold hg
          have hroom : (len + n) * (bytes + 1) ≤ roomA := by simpa using hroom
          rcases (show (∃ q p, a = ⟨q, p, none⟩) from by cases a; simp at hsp; subst hsp; exact ⟨_, _, rfl⟩) with ⟨q, p, rfl⟩
          have hOldLen : ∀ (β : Ren) (w : World) I, Rep β H.get w → β q = some I → ∃ old', VRs β old old' ∧ old.length = len * size ∧ ∀ c', Appends P w (Builtin.firstCells size len (.slice (some ⟨I.blk, p + I.shift, none⟩) len c')) old'.toArray := by
            intro β w I hr hI
            obtain ⟨_, l', hl, hlen, hc⟩ := readCells_rep hold hr (VR.ptr hI)
            refine ⟨l', hl, hlen, fun c' w2 d => ?_⟩
            simp only [Builtin.firstCells]
            exact run_loadCells P w2 _ l' _ (by rw [← hl.1, hlen]) (fun i x hx => by rw [cell_drawn d]; exact hc i x hx)
          split at h
          · rename_i heven
            have heven : q % 2 = 0 := by simpa using heven
            simp only [Option.some.injEq] at h
            obtain ⟨x1, x2⟩ := newSl_rep wf h
            refine ⟨x1, fun β w s' new' run hr hf hs hv har => ?_⟩
            obtain ⟨I, c', hI, rfl, g1, g2, g3, g4⟩ := hs.slice_inv
            have hcc := g3 heven
            obtain ⟨old', o1, o2, o3⟩ := hOldLen β w I hr hI
            obtain ⟨cap', w', rest, k1, k2, k3, k4⟩ := har.out _ len c' _ (by omega) hroom (o3 c')
            obtain ⟨β', r1, r2, r3⟩ := x2 β w w' _ cap' hr hf k3 (fun i v hi => get_app o1 hv i v hi) k1 (by
              have e1 := hv.1; have e2 := o1.1
              simp [k4]
              rw [← e1, hnl, ← e2, o2, ← Nat.add_mul, ← Nat.add_mul]
              exact Nat.mul_le_mul_right _ (by omega))
            exact ⟨_, len, c', β', w', _, rfl, k2, r1, r2, r3⟩
          · rename_i hodd hz
            have hodd : q % 2 = 1 := by
              have : ¬ q % 2 = 0 := fun k => by simp only [k] at hodd; cases hodd
              omega
            simp only [Bool.and_eq_true, Nat.ble_eq] at hz
            obtain ⟨hro, hz, he, hone⟩ := hz
            have hz : z = size := by simpa using hz
            have he : e1 = e0 := by simpa using he
            subst he
            simp only [Option.some.injEq] at h
            obtain ⟨x1, x2⟩ := newSl_kill wf hg hro h
            refine ⟨x1, fun β w s' new' run hr hf hs hv har => ?_⟩
            obtain ⟨I, c', hI, rfl, g1, g2, g3, g4⟩ := hs.slice_inv
            have g4 := g4 hodd
            obtain ⟨J, o', hb', hw, hor⟩ := hr.obj q _ hg
            rw [hI] at hb'; cases hb'
            cases hor with
            | @cells _ _ _ _ cc fz q1 q2 q3 q4 =>
              obtain ⟨q2a, q2b⟩ := q2 hodd
              have hesz : I.esz = size := by rw [← q2a, hz]
              rw [hesz] at g4
              obtain ⟨_, old', o1, o2, o4⟩ := readCells_rep hold hr (VR.ptr hI)
              have hnew : new'.length = n * size := by rw [← hv.1, hnl]
              have hone' : new'.all oneA = true := by
                rw [List.all_eq_true] at hone ⊢
                intro x hx
                obtain ⟨i, hi, rfl⟩ := List.mem_iff_getElem.mp hx
                have hi' : i < new.length := by rw [hv.1]; exact hi
                have := hv.2 i hi'
                rw [List.getD_eq_getElem?_getD, List.getD_eq_getElem?_getD, List.getElem?_eq_getElem hi', List.getElem?_eq_getElem hi] at this
                simp only [Option.getD_some] at this
                rw [← VR.one this]; exact hone _ (List.getElem_mem hi')
              by_cases hin : len + n ≤ c'
              · -- in place
                have hroom2 : (len + n) * size ≤ c' * size := Nat.mul_le_mul_right _ hin
                rw [Nat.add_mul] at hroom2
                obtain ⟨w', cc2, r1, r2, r3, r4⟩ := run_storeCells_any P I.blk (p + I.shift + len * size) new' 0 w cc e1 fz hw (q3 rfl) (by omega) hone'
                obtain ⟨β', y1, y2, y3⟩ := x2 β w w' cc2 c' ⟨I.blk, p + I.shift, size, cc2.size, none⟩ fz hr hf (.inr ⟨I, hI, rfl, r2⟩) rfl rfl (q3 rfl) (fun i v hi => by
                  show ∃ y, cc2[i + (p + I.shift)]? = some y ∧ VR β v y
                  rw [r4]
                  by_cases k : i < len * size
                  · rw [if_neg (by omega)]
                    rw [List.getElem?_append_left (by rw [o2]; exact k)] at hi
                    obtain ⟨y, hy, hvy⟩ := o1.get hi
                    have := o4 i y hy
                    rw [addr_add, cell_of hw] at this
                    exact ⟨y, by rw [show i + (p + I.shift) = p + I.shift + i from by omega]; exact this, hvy⟩
                  · rw [List.getElem?_append_right (by rw [o2]; omega), o2] at hi
                    have hlt : i - len * size < new.length := by
                      by_cases c : i - len * size < new.length
                      · exact c
                      · rw [List.getElem?_eq_none (by omega)] at hi; cases hi
                    rw [if_pos (by rw [hnew]; rw [hnl] at hlt; omega)]
                    obtain ⟨y, hy, hvy⟩ := hv.get hi
                    exact ⟨y, by rw [show i + (p + I.shift) - (p + I.shift + len * size + 0) = i - len * size from by omega]; exact hy, hvy⟩) hin (by show p + I.shift + c' * size ≤ cc2.size; omega)
                refine ⟨_, len, c', β', w', _, rfl, ?_, y1, y2, y3⟩
                rw [har.in_ _ len c' hin]
                simp only [addr_add, r1, Result.andThen_ok]
              · -- a new block
                obtain ⟨cap', w', rest, k1, k2, k3, k4⟩ := har.out (some ⟨I.blk, p + I.shift, none⟩) len c' old'.toArray (by omega) hroom (fun w2 d => by
                  simp only [Builtin.firstCells]
                  exact run_loadCells P w2 _ old' _ (by rw [← o1.1, o2]) (fun i x hx => by rw [cell_drawn d]; exact o4 i x hx))
                obtain ⟨β', y1, y2, y3⟩ := x2 β w w' (old'.toArray ++ new'.toArray ++ rest) cap' ⟨w.heap.size, 0, size, (old'.toArray ++ new'.toArray ++ rest).size, none⟩ (0, 0) hr hf (.inl ⟨k3, rfl⟩) rfl rfl (Nat.le_refl _)
                  (fun i v hi => get_app o1 hv i v hi) k1 (by
                    have e2 := o1.1
                    simp [k4]
                    rw [hnew, ← e2, o2, ← Nat.add_mul, ← Nat.add_mul]
                    exact Nat.mul_le_mul_right _ (by omega))
                exact ⟨_, len, c', β', w', _, rfl, k2, y1, y2, y3⟩
          · cases h
        · cases h
  · cases h

theorem append_ok {Y : Tr TypeInfo} (hY : TyOK P Y) {c : Call} {ts t e0 : TypeId} {u : TypeDesc} {s x : Operand} {z : Value} {sz b : Nat} (ho : o.op = .call c) (hc : c.callee = .builtin .append) (ha : c.args = #[s, x])
    (h0 : c.argTypes[0]? = some ts) (h1 : c.argTypes[1]? = some t) (hts : P.underlying ts = some (.slice e0)) (ht : P.underlying t = some u) (hsz : sizeP Y e0 = some sz) (hb : bytesP Y e0 = some b) (hz : zeroP Y e0 = some z)
    (hzs : sz = z.cells.toList.length) (hu : ∀ k, u ≠ .int k) : OpOK P o (R.append e0 sz b z.cells.toList s x).run := by
  intro call ρa H va H' wf e
  simp only [R.append, evAppend] at e
  split at e
  · rename_i n new hn hnew
    split at e
    · rename_i hnl
      obtain ⟨x1, x2⟩ := appendA_ok (P := P) wf e hnl
      refine ⟨x1, fun β w ρ hr hf hx => ?_⟩
      have hs := hx s (call_operands ho hc (by simp [ha]))
      have hxx := hx x (call_operands ho hc (by simp [ha]))
      obtain ⟨i, hi, hisz⟩ := size_ok hY hsz
      obtain ⟨i2, hi2, hib⟩ := bytes_ok hY hb
      rw [hi] at hi2; cases hi2
      obtain ⟨i3, hi3, hiz, hsc⟩ := zero_ok hY hz
      rw [hi] at hi3; cases hi3
      subst hisz; subst hib
      obtain ⟨new', hv, happ⟩ := firstA_ok hnew hn hr hxx
      have hlen := lenA_ok (P := P) hn hxx w
      have hzs' : i.size = z.cells.size := by simpa using hzs
      obtain ⟨base, sLen, sCap, β', w', v, k1, k2, k3, k4, k5⟩ := x2 β w (ρ s) new' (fun base sLen sCap => (Builtin.append_ c.argTypes o.type #[.slice base sLen sCap, ρ x]).run P w) hr hf hs hv
        ⟨fun base sLen sCap hle => append_in h0 h1 hts ht hi hu hlen hle happ, fun base sLen sCap old hgt hroom hold => append_out h0 h1 hts ht hi hiz hzs' hu hlen hgt hroom hold happ⟩
      refine ⟨β', w', _, v, ?_, .inl rfl, k3, k4, k5⟩
      rw [exec_builtin ho hc, ha]
      have : #[s, x].map ρ = #[ρ s, ρ x] := by simp
      rw [this, k1]
      simp only [builtin, Sem.run_bind, k2, Result.andThen_ok, Sem.run_pure]
    · cases e
  · cases e

theorem copy_run {at_ : Array TypeId} {rt ts e0 : TypeId} {i : TypeInfo} {w : World} {base : Option Addr} {dLen dCap n : Nat} {x : Value} {cells : Array Value}
    (h0 : at_[0]? = some ts) (hts : P.underlying ts = some (.slice e0)) (hi : P.info? e0 = some i) (hlen : (Builtin.lenOf x).run P w = .ok n w) (happ : (Builtin.firstCells i.size (Nat.min n dLen) x).run P w = .ok cells w) :
    (Builtin.copy_ at_ rt #[.slice base dLen dCap, x]).run P w = match base with
      | none => .ok (goInt (Nat.min n dLen)) w
      | some a => ((storeCells a cells.toList).run P w).andThen fun _ w' => .ok (goInt (Nat.min n dLen)) w' := by
  unfold Builtin.copy_
  simp only [h0, List.getElem?_toArray, List.getElem?_cons_zero, List.getElem?_cons_succ, Sem.run_bind, run_under w hts, Result.andThen_ok, run_size w hi, hlen, happ]
  cases base with
  | none => simp
  | some a => simp only [Sem.run_bind]; rfl

end

end Go.Proofs.YtlbmihpmcgiinaaGreatDoor.Own
end

/- The engine, part 13: the last operations. -/
section
namespace Go.Proofs.YtlbmihpmcgiinaaGreatDoor.Own
open Go

section
variable {P : Program} {o : Oper}

theorem fail_ok : OpOK P o R.fail.run := by
  intro call ρa H va H' wf e
  simp [R.fail, evFail] at e

theorem nilCheck_ok {x : Operand} (ho : o.op = .nilCheck x) : OpOK P o (R.nilCheck x).run := by
  intro call ρa H va H' wf e
  simp only [R.nilCheck, evNilCheck] at e
  split at e
  · rename_i a hb
    cases e
    refine calmG wf fun β w ρ _ hx => ?_
    have h1 := hx x (by simp [ho, Op.operands]); rw [hb] at h1
    obtain ⟨a', hv, hp⟩ := h1.ptr_inv
    exact ⟨w, .pointer (some a'), by simp [execOp, ho, hv], Drawn.refl w, hp⟩
  · rename_i f a b hb
    cases e
    refine calmG wf fun β w ρ _ hx => ?_
    have h1 := hx x (by simp [ho, Op.operands]); rw [hb] at h1
    generalize hv : ρ x = y at h1
    cases h1 with
    | @func f caps caps' e k => exact ⟨w, _, by simp [execOp, ho, hv], Drawn.refl w, .func e k⟩
  · cases e

theorem VRs.of_map {β : Ren} {ρa ρ : Operand → Value} (l : List Operand) (h : ∀ x ∈ l, VR β (ρa x) (ρ x)) : VRs β (l.map ρa) (l.map ρ) := VRs.map l h

theorem maxA_ok {β : Ren} (w : World) (isMax : Bool) : ∀ (l : List Value) (x v : Value) (l' : List Value) (x' : Value), maxA isMax x l = some v → VR β x x' → VRs β l l' →
    l ≠ [] → (∃ v', (l'.foldlM (if isMax then Builtin.max2 else Builtin.min2) x').run P w = .ok v' w ∧ VR β v v') := by
  intro l
  induction l with
  | nil => intro x v l' x' _ _ _ h; exact absurd rfl h
  | cons y l ih =>
    intro x v l' x' h hx hl _
    obtain ⟨y', m, rfl, hy, hm⟩ := hl.head
    unfold maxA at h
    split at h
    · rename_i heq; cases heq
    · rename_i k a k' b rest heq
      obtain ⟨rfl, rfl⟩ := List.cons.inj heq
      rw [hx.int_inv, hy.int_inv]
      have hstep : ((if isMax then Builtin.max2 else Builtin.min2) (.int k a) (.int k' b)).run P w = .ok (.int k (if isMax then (if b > a then b else a) else (if b < a then b else a))) w := by
        cases isMax <;> simp [Builtin.max2, Builtin.min2]
      by_cases hne : l = []
      · subst hne
        rw [hm.nil_inv]
        simp only [maxA] at h; cases h
        refine ⟨_, by simp [List.foldlM, hstep], .int _ _⟩
      · obtain ⟨v', h1, h2⟩ := ih _ v m (.int k _) h (.int _ _) hm hne
        exact ⟨v', by simp only [List.foldlM_cons, Sem.run_bind, hstep, Result.andThen_ok]; exact h1, h2⟩
    · cases h

theorem max_fold {at_ : Array TypeId} {rt : TypeId} {args : Array Value} {y : Value} {m : List Value} (h : args.toList = y :: m) : Builtin.max_ at_ rt args = m.foldlM Builtin.max2 y := by
  unfold Builtin.max_; rw [h]
theorem min_fold {at_ : Array TypeId} {rt : TypeId} {args : Array Value} {y : Value} {m : List Value} (h : args.toList = y :: m) : Builtin.min_ at_ rt args = m.foldlM Builtin.min2 y := by
  unfold Builtin.min_; rw [h]

theorem maxmin_ok {c : Call} {isMax : Bool} (ho : o.op = .call c) (hc : c.callee = .builtin (if isMax then .max else .min)) : OpOK P o (R.maxmin isMax c.args.toList).run := by
  intro call ρa H va H' wf e
  simp only [R.maxmin, evMaxmin] at e
  split at e
  · rename_i x rest hl
    simp only [vH] at e
    split at e
    · rename_i v hv
      cases e
      refine calmG wf fun β w ρ _ hx => ?_
      have hops : ∀ y ∈ c.args.toList, y ∈ o.op.operands.toList := by
        intro y h
        rw [ho]
        show y ∈ (Call.operands c).toList
        unfold Call.operands
        rw [hc]
        simpa using h
      have hvs := VRs.map (β := β) (ρa := ρa) (ρ := ρ) c.args.toList (fun y h => hx y (hops y h))
      rw [hl] at hvs
      obtain ⟨y, m, hm, h1, h2⟩ := hvs.head
      have hargs : (c.args.map ρ).toList = y :: m := by rw [Array.toList_map]; exact hm
      by_cases hr : rest = []
      · subst hr
        rw [h2.nil_inv] at hm hargs
        simp only [maxA] at hv; cases hv
        refine ⟨w, y, ?_, Drawn.refl w, h1⟩
        cases isMax
        · simp only [execOp, ho, resolve, hc, Sem.run_bind, Sem.run_pure, Result.andThen_ok, invoke, builtin, Bool.false_eq_true, if_false, min_fold hargs, List.foldlM_nil]
        · simp only [execOp, ho, resolve, hc, Sem.run_bind, Sem.run_pure, Result.andThen_ok, invoke, builtin, if_true, max_fold hargs, List.foldlM_nil]
      · obtain ⟨v', g1, g2⟩ := maxA_ok (P := P) w isMax rest x va m y hv h1 h2 hr
        refine ⟨w, v', ?_, Drawn.refl w, g2⟩
        cases isMax
        · simp only [Bool.false_eq_true, if_false] at g1
          simp only [execOp, ho, resolve, hc, Sem.run_bind, Sem.run_pure, Result.andThen_ok, invoke, builtin, Bool.false_eq_true, if_false, min_fold hargs, g1]
        · simp only [if_true] at g1
          simp only [execOp, ho, resolve, hc, Sem.run_bind, Sem.run_pure, Result.andThen_ok, invoke, builtin, if_true, max_fold hargs, g1]
    · cases e
  · cases e

theorem sd_nil (at_ : Array TypeId) (rt : TypeId) (l c : Nat) : Builtin.unsafeSliceData_ at_ rt #[.slice none l c] = pure (.pointer none) := rfl
theorem sd_some (at_ : Array TypeId) (rt : TypeId) (a : Addr) (l c : Nat) (h : c ≠ 0) : Builtin.unsafeSliceData_ at_ rt #[.slice (some a) l c] = pure (.pointer (some a)) := by
  show (if c ≠ 0 then _ else _) = _
  rw [if_pos h]

theorem sliceData_ok {c : Call} {x : Operand} (ho : o.op = .call c) (hc : c.callee = .builtin .unsafeSliceData) (ha : c.args.toList = [x]) : OpOK P o (R.sliceData x).run := by
  intro call ρa H va H' wf e
  have hargs : ∀ ρ : Operand → Value, c.args.map ρ = #[ρ x] := by
    intro ρ; apply Array.toList_inj.mp; simp [ha]
  have hin : x ∈ o.op.operands.toList := by
    rw [ho]
    show x ∈ (Call.operands c).toList
    unfold Call.operands
    rw [hc]
    have : x ∈ c.args.toList := by rw [ha]; simp
    simpa using this
  simp only [R.sliceData, evSliceData] at e
  split at e
  · rename_i l cp hb
    cases e
    refine calmG wf fun β w ρ _ hx => ?_
    have h1 := hx x hin; rw [hb] at h1
    refine ⟨w, .pointer none, ?_, Drawn.refl w, .pnil⟩
    simp [execOp, ho, resolve, hc, invoke, builtin, hargs, h1.snil_inv.1, sd_nil]
  · rename_i a l cp hb
    split at e
    · rename_i hsp
      split at e
      · rename_i hpos
        cases e
        refine calmG wf fun β w ρ _ hx => ?_
        have h1 := hx x hin; rw [hb] at h1
        rcases h1.slice_addr with ⟨n, p, rfl⟩ | ⟨rfl, _⟩
        · obtain ⟨I, c', hI, hv, hlc, hcc, _⟩ := h1.slice_inv
          refine ⟨w, .pointer (some ⟨I.blk, p + I.shift, none⟩), ?_, Drawn.refl w, .ptr hI⟩
          have : 0 < cp := by simpa using hpos
          have hne : c' ≠ 0 := by omega
          simp [execOp, ho, resolve, hc, invoke, builtin, hargs, hv, sd_some _ _ _ _ _ hne]
        · simp at hsp
      · cases e
    · cases e
  · cases e

/-! ## Equality -/
theorem maxDepth_eq : Op.maxDepth = 9999 + 1 := rfl

theorem run_eqGuard_other {op : BinOp} {t : TypeId} {x y : Operand} {a b : Value} (h1 : ∀ cs, a ≠ .agg cs) (h2 : a = .nilIface → b = .nilIface → (∃ v, x = .const v) ∨ ∃ v, y = .const v) (w : World) : (eqGuard op t x y a b).run P w = .ok () w := by
  unfold eqGuard
  cases op <;> first | rfl | skip
  all_goals
    show Sem.run P (if (!true) = true then _ else _) w = _
    rw [if_neg (by simp)]
    split
    · rcases h2 rfl rfl with ⟨v, rfl⟩ | ⟨v, rfl⟩
      · simp
      · cases x <;> simp
    · exact absurd rfl (h1 _)
    · simp

/-- What a type needs for '=='. -/
def EqDesc (P : Program) (t : TypeId) (k : EqKind) : Prop :=
  match k with
  | .ptr => ∃ e i, P.underlying t = some (.pointer e) ∧ P.info? e = some i ∧ i.size ≠ 0
  | .slice => ∃ e, P.underlying t = some (.slice e)
  | .map => ∃ a e, P.underlying t = some (.map a e)
  | .func => ∃ a b c, P.underlying t = some (.func a b c)
  | .iface => ∃ ms, P.underlying t = some (.interface ms)

theorem eqKind_ok {Y : Tr TypeInfo} (hY : TyOK P Y) {t : TypeId} {k : EqKind} (h : eqKindP Y t = some k) : EqDesc P t k := by
  unfold eqKindP at h
  split at h
  · rename_i e hd
    split at h
    · cases h
    · rename_i n hne hs
      cases h
      obtain ⟨i, hi, hn⟩ := size_ok hY hs
      exact ⟨e, i, under_ok hY hd, hi, fun k => hne (by rw [← hn, k])⟩
    · cases h
  · rename_i e hd; cases h; exact ⟨e, under_ok hY hd⟩
  · rename_i a e hd; cases h; exact ⟨a, e, under_ok hY hd⟩
  · rename_i a b c hd; cases h; exact ⟨a, b, c, under_ok hY hd⟩
  · rename_i ms hd; cases h; exact ⟨ms, under_ok hY hd⟩
  · cases h

theorem run_sameAddr_one {a b : Addr} (h : a.block = b.block) (w : World) : (sameAddr a b).run P w = .ok (a == b) w := by
  simp [sameAddr, h]

theorem eq_unfold {t : TypeId} {d : TypeDesc} (h : P.underlying t = some d) (x y : Value) (w : World) : (Op.equal t x y).run P w = (match d, x, y with
    | .pointer _, .pointer none, .pointer b => pure b.isNone
    | .pointer _, .pointer (some _), .pointer none => pure false
    | .slice _, .slice none _ _, .slice b _ _ => pure b.isNone
    | .slice _, .slice (some _) _ _, .slice none _ _ => pure false
    | .map _ _, .map none, .map b => pure b.isNone
    | .map _ _, .map (some _), .map none => pure false
    | .func _ _ _, .nilFunc, .nilFunc => pure true
    | .func _ _ _, .nilFunc, .func _ _ _ => pure false
    | .func _ _ _, .func _ _ _, .nilFunc => pure false
    | .interface _, .nilIface, .nilIface => pure true
    | .interface _, .nilIface, .iface _ _ => pure false
    | .interface _, .iface _ _, .nilIface => pure false
    | _, _, _ => Op.equal t x y : Sem Bool).run P w := by
  split <;> first | with_reducible rfl | skip
  all_goals
    unfold Op.equal
    rw [maxDepth_eq]
    unfold Op.equalIn
    rename_i hd
    simp only [Sem.run_bind, run_under w hd, Result.andThen_ok]

theorem eqA_ptr {t : TypeId} (hk : EqDesc P t .ptr) {x y : Value} {r : Bool} (h : eqA .ptr x y = some r) {β : Ren} {x' y' : Value} (hx : VR β x x') (hy : VR β y y') (w : World) :
    (Op.equal t x' y').run P w = .ok r w := by
  obtain ⟨e, i, hd, hi, hs⟩ := hk
  cases hx <;> cases hy <;> simp only [eqA, Go.Proofs.YtlbmihpmcgiinaaGreatDoor.Own.nowhere, Option.some.injEq, reduceCtorEq] at h
  · rw [eq_unfold hd]; subst h; rfl
  · rw [eq_unfold hd]; subst h; rfl
  · rw [eq_unfold hd]; subst h; rfl
  · rename_i n p I e1 m q J e2
    split at h
    · rename_i hab
      subst hab
      rw [e1] at e2; cases e2
      cases h
      unfold Op.equal
      rw [maxDepth_eq]
      unfold Op.equalIn
      simp only [Sem.run_bind, run_under w hd, Result.andThen_ok, run_size w hi, ne_eq, hs, not_false_eq_true, if_true]
      rw [run_sameAddr_one (a := ⟨I.blk, p + I.shift, none⟩) (b := ⟨I.blk, q + I.shift, none⟩) rfl]
      congr 1
      rw [Bool.eq_iff_iff]
      simp
    · cases h

theorem eqA_slice {t : TypeId} (hk : EqDesc P t .slice) {x y : Value} {r : Bool} (h : eqA .slice x y = some r) {β : Ren} {x' y' : Value} (hx : VR β x x') (hy : VR β y y') (w : World) :
    (Op.equal t x' y').run P w = .ok r w := by
  obtain ⟨e, hd⟩ := hk
  cases hx <;> cases hy <;> simp only [eqA, Go.Proofs.YtlbmihpmcgiinaaGreatDoor.Own.nowhere, Option.some.injEq, reduceCtorEq] at h
  all_goals (rw [eq_unfold hd]; subst h; rfl)

theorem eqA_map {t : TypeId} (hk : EqDesc P t .map) {x y : Value} {r : Bool} (h : eqA .map x y = some r) {β : Ren} {x' y' : Value} (hx : VR β x x') (hy : VR β y y') (w : World) :
    (Op.equal t x' y').run P w = .ok r w := by
  obtain ⟨a, e, hd⟩ := hk
  cases hx <;> cases hy <;> simp only [eqA, Go.Proofs.YtlbmihpmcgiinaaGreatDoor.Own.nowhere, Option.some.injEq, reduceCtorEq] at h
  all_goals (rw [eq_unfold hd]; subst h; rfl)

theorem eqA_func {t : TypeId} (hk : EqDesc P t .func) {x y : Value} {r : Bool} (h : eqA .func x y = some r) {β : Ren} {x' y' : Value} (hx : VR β x x') (hy : VR β y y') (w : World) :
    (Op.equal t x' y').run P w = .ok r w := by
  obtain ⟨a, b, c, hd⟩ := hk
  cases hx <;> cases hy <;> simp only [eqA, Go.Proofs.YtlbmihpmcgiinaaGreatDoor.Own.nowhere, Option.some.injEq, reduceCtorEq] at h
  all_goals (rw [eq_unfold hd]; subst h; rfl)

theorem eqA_iface {t : TypeId} (hk : EqDesc P t .iface) {x y : Value} {r : Bool} (h : eqA .iface x y = some r) {β : Ren} {x' y' : Value} (hx : VR β x x') (hy : VR β y y') (w : World) :
    (Op.equal t x' y').run P w = .ok r w := by
  obtain ⟨ms, hd⟩ := hk
  cases hx <;> cases hy <;> simp only [eqA, Go.Proofs.YtlbmihpmcgiinaaGreatDoor.Own.nowhere, Option.some.injEq, reduceCtorEq] at h
  all_goals (rw [eq_unfold hd]; subst h; rfl)

theorem eqA_ok {t : TypeId} {k : EqKind} (hk : EqDesc P t k) {x y : Value} {r : Bool} (h : eqA k x y = some r) {β : Ren} {x' y' : Value} (hx : VR β x x') (hy : VR β y y') (w : World) :
    (Op.equal t x' y').run P w = .ok r w := by
  cases k with
  | ptr => exact eqA_ptr hk h hx hy w
  | slice => exact eqA_slice hk h hx hy w
  | map => exact eqA_map hk h hx hy w
  | func => exact eqA_func hk h hx hy w
  | iface => exact eqA_iface hk h hx hy w

theorem binOp_eq {t : TypeId} {x y : Value} (h : (∃ k c r, eqA k x y = some r ∧ c = k) ) {β : Ren} {x' y' : Value} (hx : VR β x x') (hy : VR β y y') (neg : Bool) {r : Bool} (w : World) (he : (Op.equal t x' y').run P w = .ok r w) :
    (binOp (if neg then .neq else .eql) t x' y').run P w = .ok (.bool (if neg then !r else r)) w := by
  obtain ⟨k, _, r0, h, _⟩ := h
  have : binOp (if neg then .neq else .eql) t x' y' = if neg then (do pure (.bool (!(← Op.equal t x' y')))) else (do pure (.bool (← Op.equal t x' y'))) := by
    unfold eqA at h
    split at h <;> first | (cases h; done) | skip
    all_goals (cases neg <;> cases hx <;> cases hy <;> simp [binOp])
  rw [this]
  cases neg <;> simp [he]

theorem eqk_ok {op : BinOp} {neg : Bool} {t t' : TypeId} {x y : Operand} {k : EqKind} (hop : op = .eql ∧ neg = false ∨ op = .neq ∧ neg = true) (ho : o.op = .binOp op t x y t') (hk : EqDesc P t k) (hi : k = .iface → isConstO x = true ∨ isConstO y = true) :
    OpOK P o (R.eqk k neg x y).run := by
  intro call ρa H va H' wf e
  simp only [R.eqk, evEqk] at e
  split at e
  · rename_i r hr
    cases e
    refine calmG wf fun β w ρ _ hx => ?_
    have h1 := hx x (by simp [ho, Op.operands])
    have h2 := hx y (by simp [ho, Op.operands])
    have he := eqA_ok hk hr h1 h2 w
    refine ⟨w, _, ?_, Drawn.refl w, .bool _⟩
    have hg : (eqGuard op t x y (ρ x) (ρ y)).run P w = .ok () w := by
      apply run_eqGuard_other
      · intro cs hcs
        rw [hcs] at h1
        cases h1' : ρa x with
        | agg ds => rw [h1'] at hr; unfold eqA at hr; split at hr <;> simp_all
        | _ => rw [h1'] at h1; cases h1
      · intro e1 e2
        have hkk : k = .iface := by
          rw [e1] at h1
          generalize hxx : ρa x = xx at h1 hr
          cases h1
          unfold eqA at hr
          split at hr <;> simp_all
        rcases hi hkk with h | h
        · left; cases x <;> simp [isConstO] at h; exact ⟨_, rfl⟩
        · right; cases y <;> simp [isConstO] at h; exact ⟨_, rfl⟩
    have hb := binOp_eq (P := P) (t := t) ⟨k, k, r, hr, rfl⟩ h1 h2 neg w he
    rcases hop with ⟨rfl, rfl⟩ | ⟨rfl, rfl⟩
    · simp only [execOp, ho, Sem.run_bind, hg, Result.andThen_ok]
      simp at hb
      simp [hb]
    · simp only [execOp, ho, Sem.run_bind, hg, Result.andThen_ok]
      simp at hb
      simp [hb]
  · cases e

end

end Go.Proofs.YtlbmihpmcgiinaaGreatDoor.Own
end

/- The engine, part 14: maps; memory as bytes. -/
section
namespace Go.Proofs.YtlbmihpmcgiinaaGreatDoor.Own
open Go

section
variable {P : Program} {o : Oper}

theorem mkMap_ok {t a e0 : TypeId} {r : Option Operand} (ho : o.op = .makeMap t r) (hd : P.underlying t = some (.map a e0)) : OpOK P o (R.mkMap r).run := by
  intro call ρa H va H' wf e
  simp only [R.mkMap, evMkMap] at e
  have hr : mapO ρa r = none ∨ ∃ k n, mapO ρa r = some (.int k n) := by
    split at e
    · rename_i h; exact .inl h
    · rename_i h; exact .inr ⟨_, _, h⟩
    · cases e
  have e' : (let (n, H) := H.new false (.map [] 0); some (Value.map (some n), H)) = some (va, H') := by
    rcases hr with h | ⟨k, n, h⟩ <;> rw [h] at e <;> exact e
  cases hnew : H.new false (.map [] 0) with
  | mk n H1 =>
    rw [hnew] at e'; cases e'
    obtain ⟨x1, x2, x3, x4, x5, x6, x7, x8⟩ := new_rep wf false (.map [] 0) hnew
    refine ⟨x1, fun β w ρ hrep hf hx => ?_⟩
    let I : BI := ⟨w.heap.size, 0, 0, 0, none⟩
    obtain ⟨q1, q2⟩ := x8 β w { w with heap := w.heap.push (.map #[] 0) } (.map #[] 0) I hrep hf ⟨rfl, rfl, rfl, rfl⟩ rfl (.map (by simp) (fun i e h => by simp at h))
    refine ⟨_, _, _, .map (some w.heap.size), ?_, .inl rfl, VR.map (I := I) (Ren.ext_same _ _ _), q1, q2⟩
    cases r with
    | none => simp [execOp, ho, Instr.makeMap, newObj, Sem.run]
    | some x =>
      rcases hr with h | ⟨k, n', h⟩
      · simp [mapO] at h
      · simp only [mapO, Option.some.injEq] at h
        have h1 := hx x (by simp [ho, Op.operands])
        rw [h] at h1
        simp [execOp, ho, Instr.makeMap, newObj, run_under w hd, h1.int_inv, asInt, asIntOf, Sem.run]

theorem VR.key {β : Ren} {k k' : Value} (h : VR β k k') (hk : keyOk k = true) : k' = k := by
  cases h <;> first | rfl | simp [keyOk, Go.Proofs.YtlbmihpmcgiinaaGreatDoor.Own.nowhere] at hk

theorem sameKey_now {d : TypeDesc} {a b : Value} {r : Bool} (h : sameKey d a b = some r) {β : Ren} {b' : Value} (hb : VR β b b') : Instr.sameNow d a b' = some r ∧ (r = true → b' = a) := by
  unfold sameKey at h
  split at h
  · rename_i k n k' m
    rw [hb.int_inv]
    split at h
    · rename_i hk
      cases h
      subst hk
      refine ⟨by simp [Instr.sameNow], fun e => ?_⟩
      have : n = m := by simpa using e
      rw [this]
    · cases h
  · rename_i a b
    rw [hb.str_inv]
    cases h
    have key : (a == b) = (a.data.toList == b.data.toList) := by
      rw [Bool.eq_iff_iff, MapKept.bytes_beq, beq_iff_eq]
      constructor
      · intro e; rw [e]
      · intro e
        cases a; cases b
        simp at e
        rw [e]
    refine ⟨by simp [Instr.sameNow, key], fun e => ?_⟩
    rw [← key, MapKept.bytes_beq] at e
    rw [e]
  · rename_i a b
    rw [hb.bool_inv]
    cases h
    refine ⟨by simp [Instr.sameNow], fun e => ?_⟩
    have : a = b := by simpa using e
    rw [this]
  · cases h

theorem findA_ok {d : TypeDesc} {k : Value} {β : Ren} : ∀ (es : List MapEntry) (es' : List MapEntry) (i : Nat) (r : Option (Nat × Value)), findA d k es i = some r → es.length = es'.length →
    (∀ (j : Nat) (e : MapEntry), es[j]? = some e → ∃ e', es'[j]? = some e' ∧ ERel β e e') →
    match r with
    | none => Instr.findNow d k es' i = some none
    | some (n, v) => ∃ v' e', Instr.findNow d k es' i = some (some (n, v')) ∧ VR β v v' ∧ i ≤ n ∧ es'[n - i]? = some e' ∧ e'.key = k ∧ n - i < es.length := by
  intro es
  induction es with
  | nil =>
    intro es' i r h hl _
    simp only [findA] at h; cases h
    have : es' = [] := List.length_eq_zero_iff.mp hl.symm
    subst this; rfl
  | cons e es ih =>
    intro es' i r h hl hr
    cases es' with
    | nil => simp at hl
    | cons e' es' =>
      obtain ⟨e1, h1, h2⟩ := hr 0 e rfl
      simp at h1; subst h1
      simp only [findA] at h
      split at h
      · rename_i hs
        cases h
        obtain ⟨g1, g2⟩ := sameKey_now hs h2.key
        exact ⟨e'.val, e', by simp [Instr.findNow, g1], h2.val, Nat.le_refl _, by simp, g2 rfl, by simp⟩
      · rename_i hs
        obtain ⟨g1, _⟩ := sameKey_now hs h2.key
        have := ih es' (i + 1) r h (by simpa using hl) (fun j x hx => by simpa using hr (j + 1) x (by simpa using hx))
        cases r with
        | none => simp only at this ⊢; simp [Instr.findNow, g1, this]
        | some p =>
          obtain ⟨n, v⟩ := p
          obtain ⟨v', x', f1, f2, f3, f4, f5, f6⟩ := this
          refine ⟨v', x', by simp [Instr.findNow, g1, f1], f2, by omega, ?_, f5, by simp; omega⟩
          rw [show n - i = (n - (i + 1)) + 1 from by omega]; simpa using f4
      · cases h

theorem run_checkKey_plain {kt : TypeId} {d : TypeDesc} (hd : P.underlying kt = some d) (hp : plainDesc d = true) (b : Bool) (k : Value) (w : World) : (Instr.checkKey b 10000 kt k).run P w = .ok () w := by
  show (Instr.checkKey b (9999 + 1) kt k).run P w = .ok () w
  unfold Instr.checkKey
  simp only [Sem.run_bind, run_under w hd, Result.andThen_ok]
  cases d <;> simp [plainDesc] at hp <;> rfl

theorem map_of {β : Ren} {n : Nat} {I : BI} {es : List MapEntry} {clock : Nat} {o' : Obj} (h : OR β n I (.map es clock) o') : ∃ es', o' = .map es' clock ∧ es.length = es'.size ∧ ∀ (i : Nat) (e : MapEntry), es[i]? = some e → ∃ e', es'[i]? = some e' ∧ ERel β e e' := by
  cases h with
  | map a b => exact ⟨_, rfl, a, b⟩

theorem lookup_ok {Y : Tr TypeInfo} (hY : TyOK P Y) {t kt e0 : TypeId} {x ix : Operand} {ok : Bool} {d : TypeDesc} {z : Value} (ho : o.op = .lookup t x ix ok) (ht : P.underlying t = some (.map kt e0)) (hd : P.underlying kt = some d)
    (hz : zeroP Y e0 = some z) (hp : plainDesc d = true) : OpOK P o (R.lookup d z x ix ok).run := by
  intro call ρa H va H' wf e
  simp only [R.lookup, evLookup] at e
  obtain ⟨i, hi, hiz, hsc⟩ := zero_ok hY hz
  split at e
  · rename_i es hes
    have hH : H' = H := by
      split at e <;> simp at e <;> exact e.2.symm
    subst hH
    refine calmG wf fun β w ρ hrep hx => ?_
    have h1 := hx x (by simp [ho, Op.operands])
    have h2 := hx ix (by simp [ho, Op.operands])
    -- the entries
    have hent : ∃ es' : Array MapEntry, es.length = es'.size ∧ (∀ (i : Nat) (e : MapEntry), es[i]? = some e → ∃ e', es'[i]? = some e' ∧ ERel β e e') ∧
        (ρ x = .map none ∧ es' = #[] ∨ ∃ r cl, ρ x = .map (some r) ∧ w.heap[r]? = some (.map es' cl)) := by
      split at hes
      · rename_i hv
        rw [hv] at h1
        cases hes
        exact ⟨#[], rfl, fun i e h => by simp at h, .inl ⟨h1.mnil_inv, rfl⟩⟩
      · rename_i r hv
        rw [hv] at h1
        split at hes
        · rename_i es0 cl hg
          cases hes
          obtain ⟨I, hI, hv'⟩ := h1.map_inv
          obtain ⟨J, o', hb, hw, hor⟩ := hrep.obj r _ hg
          rw [hI] at hb; cases hb
          obtain ⟨es', rfl, g1, g2⟩ := map_of hor
          exact ⟨es', g1, g2, .inr ⟨_, _, hv', hw⟩⟩
        · cases hes
      · cases hes
    obtain ⟨es', g1, g2, g3⟩ := hent
    have hbase : ∀ (f : Option (Nat × Value)), Instr.findNow d (ρ ix) es'.toList 0 = some f →
        (execOp ρ o).run P w = .ok (.value (let p : Value × Bool := (match f with | some (_, v) => (v, true) | none => (z, false)); if ok then .tuple #[p.1, .bool p.2] else p.1)) w := by
      intro f hf
      rcases g3 with ⟨hv, rfl⟩ | ⟨r, cl, hv, hw⟩
      · simp only [execOp, ho, Instr.lookup, Sem.run_bind, run_under w ht, Result.andThen_ok, hv, Sem.run_pure, run_checkKey_plain hd hp, MapKept.run_findKey hd hf]
        cases f with
        | none => simp [run_zero w hi hiz]
        | some p => simp
      · simp only [execOp, ho, Instr.lookup, Sem.run_bind, run_under w ht, Result.andThen_ok, hv, MapKept.run_getObj_map hw, Sem.run_pure, run_checkKey_plain hd hp, MapKept.run_findKey hd hf]
        cases f with
        | none => simp [run_zero w hi hiz]
        | some p => simp
    split at e
    · rename_i m v hk hfind
      have hkey := h2.key hk
      rw [← hkey] at hfind
      obtain ⟨v', x', f1, f2, _⟩ := findA_ok es es'.toList 0 _ hfind (by simpa using g1) (fun j e h => by simpa using g2 j e h)
      refine ⟨w, _, hbase _ f1, Drawn.refl w, ?_⟩
      cases e
      cases ok
      · exact f2
      · exact VR.tuple_mk (l := [v, .bool true]) (l' := [v', .bool true]) (.cons f2 (.cons (.bool _) .nil))
    · rename_i hk hfind
      have hkey := h2.key hk
      rw [← hkey] at hfind
      have f1 := findA_ok es es'.toList 0 none hfind (by simpa using g1) (fun j e h => by simpa using g2 j e h)
      refine ⟨w, _, hbase _ f1, Drawn.refl w, ?_⟩
      cases e
      have hzv := VR.refl_of_scal (β := β) 4 z hsc
      cases ok
      · exact hzv
      · exact VR.tuple_mk (l := [z, .bool false]) (l' := [z, .bool false]) (.cons hzv (.cons (.bool _) .nil))
    · cases e
  · cases e

theorem setVal_get : ∀ (es : List MapEntry) (i : Nat) (k v : Value) (j : Nat), (setVal es i k v)[j]? = if j = i then (es[j]?).map fun e => { e with key := k, val := v } else es[j]? := by
  intro es
  induction es with
  | nil => intro i k v j; simp [setVal]
  | cons e es ih =>
    intro i k v j
    cases i with
    | zero => cases j <;> simp [setVal]
    | succ i => cases j <;> simp [setVal, ih]

theorem setVal_length : ∀ (es : List MapEntry) (i : Nat) (k v : Value), (setVal es i k v).length = es.length := by
  intro es
  induction es with
  | nil => intro i k v; simp [setVal]
  | cons e es ih => intro i k v; cases i <;> simp [setVal, ih]

theorem sameBits_key (n : Nat) (k : Value) (h : keyOk k = true) : Instr.sameBits n k k = true := by
  unfold keyOk at h
  split at h
  · simp [Instr.sameBits]
  · simp [Instr.sameBits, MapKept.bytes_beq]
  · simp [Instr.sameBits]
  · cases h

theorem mapSet_ok {t kt e0 : TypeId} {m k x : Operand} {d : TypeDesc} (ho : o.op = .mapUpdate t m k x ∨ o.op = .insert t m k x) (ht : P.underlying t = some (.map kt e0)) (hd : P.underlying kt = some d)
    (hp : plainDesc d = true) : OpOK P o (R.mapSet d m k x).run := by
  intro call ρa H va H' wf e
  have hex : ∀ ρ : Operand → Value, execOp ρ o = (do Instr.mapUpdate t (ρ m) (ρ k) (ρ x); pure .skip) := by
    intro ρ; rcases ho with ho | ho <;> simp [execOp, ho]
  have hm : m ∈ o.op.operands.toList := by rcases ho with ho | ho <;> simp [ho, Op.operands]
  have hk' : k ∈ o.op.operands.toList := by rcases ho with ho | ho <;> simp [ho, Op.operands]
  have hx' : x ∈ o.op.operands.toList := by rcases ho with ho | ho <;> simp [ho, Op.operands]
  simp only [R.mapSet, evMapSet] at e
  split at e
  · rename_i r hr
    split at e
    · rename_i es clock hg
      split at e
      · rename_i hkey
        split at e
        · rename_i i v0 hfind
          split at e
          · rename_i H1 hwr
            cases e
            obtain ⟨x1, x2, x3, x4, x5⟩ := write_rep wf hg hwr
            refine ⟨x1, fun β w ρ hrep hf hx => ?_⟩
            have h1 := hx m hm; rw [hr] at h1
            have h2 := hx k hk'
            have h3 := hx x hx'
            have hkk := h2.key hkey
            obtain ⟨I, hI, hv⟩ := h1.map_inv
            obtain ⟨J, o', hb, hw, hor⟩ := hrep.obj r _ hg
            rw [hI] at hb; cases hb
            obtain ⟨es', rfl, g1, g2⟩ := map_of hor
            rw [← hkk] at hfind
            obtain ⟨v', e', f1, f2, f3, f4, f5, f6⟩ := findA_ok es es'.toList 0 _ hfind (by simpa using g1) (fun j e h => by simpa using g2 j e h)
            rw [Nat.sub_zero] at f4 f6
            have f4' : es'[i]? = some e' := by simpa using f4
            let es2 := es'.modify i fun e => { e with key := ρ k, val := ρ x }
            have hrun : (Instr.mapUpdate t (ρ m) (ρ k) (ρ x)).run P w = .ok () { w with heap := w.heap.setIfInBounds I.blk (.map es2 clock) } := by
              have hstay : (Instr.keyThatStays (((es'[i]?).map (·.key)).getD (ρ k)) (ρ k)).run P w = .ok (ρ k) w := by
                rw [f4']
                simp [Instr.keyThatStays, f5, sameBits_key 10000 (ρ k) (by rw [hkk]; exact hkey)]
              simp only [Instr.mapUpdate, Sem.run_bind, run_under w ht, Result.andThen_ok, hv, MapKept.run_getObj_map hw, run_checkKey_plain hd hp, MapKept.run_findKey hd f1, hstay, MapKept.run_setObj_map _ hw, es2]
            have hlt : I.blk < w.heap.size := (Array.getElem?_eq_some_iff.1 hw).1
            obtain ⟨q1, q2⟩ := x5 β w { w with heap := w.heap.setIfInBounds I.blk (.map es2 clock) } (.map es2 clock) I hrep hI
              ⟨by simp, by simp [hlt], fun B hB => by simp [Ne.symm hB], rfl, rfl, rfl⟩
              (.map (by rw [setVal_length]; simpa [es2] using g1) (fun j y hy => by
                rw [setVal_get] at hy
                simp only [es2, Array.getElem?_modify]
                by_cases c : j = i
                · subst c
                  rw [if_pos rfl] at hy
                  obtain ⟨e1, h4, h5⟩ := Option.map_eq_some_iff.mp hy
                  obtain ⟨e2, h6, h7⟩ := g2 _ _ h4
                  subst h5
                  rw [if_pos rfl, h6]
                  exact ⟨_, rfl, ⟨h2, h3, h7.born⟩⟩
                · rw [if_neg c] at hy
                  obtain ⟨e2, h6, h7⟩ := g2 _ _ hy
                  rw [if_neg (fun h => c h.symm), h6]
                  exact ⟨_, rfl, h7⟩))
            exact ⟨β, _, .skip, undef, by rw [hex]; simp [hrun], .inr ⟨rfl, rfl⟩, VR.uv, q1, q2⟩
          · cases e
        · rename_i hfind
          split at e
          · rename_i H1 hwr
            cases e
            obtain ⟨x1, x2, x3, x4, x5⟩ := write_rep wf hg hwr
            refine ⟨x1, fun β w ρ hrep hf hx => ?_⟩
            have h1 := hx m hm; rw [hr] at h1
            have h2 := hx k hk'
            have h3 := hx x hx'
            have hkk := h2.key hkey
            obtain ⟨I, hI, hv⟩ := h1.map_inv
            obtain ⟨J, o', hb, hw, hor⟩ := hrep.obj r _ hg
            rw [hI] at hb; cases hb
            obtain ⟨es', rfl, g1, g2⟩ := map_of hor
            rw [← hkk] at hfind
            have f1 := findA_ok es es'.toList 0 none hfind (by simpa using g1) (fun j e h => by simpa using g2 j e h)
            let es2 := es'.push { key := ρ k, val := ρ x, born := clock }
            have hrun : (Instr.mapUpdate t (ρ m) (ρ k) (ρ x)).run P w = .ok () { w with heap := w.heap.setIfInBounds I.blk (.map es2 (clock + 1)) } := by
              simp only [Instr.mapUpdate, Sem.run_bind, run_under w ht, Result.andThen_ok, hv, MapKept.run_getObj_map hw, run_checkKey_plain hd hp, MapKept.run_findKey hd f1, MapKept.run_setObj_map _ hw, es2]
            have hlt : I.blk < w.heap.size := (Array.getElem?_eq_some_iff.1 hw).1
            obtain ⟨q1, q2⟩ := x5 β w { w with heap := w.heap.setIfInBounds I.blk (.map es2 (clock + 1)) } (.map es2 (clock + 1)) I hrep hI
              ⟨by simp, by simp [hlt], fun B hB => by simp [Ne.symm hB], rfl, rfl, rfl⟩
              (.map (by simpa [es2] using g1) (fun j y hy => by
                simp only [es2, Array.getElem?_push]
                by_cases c : j < es.length
                · rw [List.getElem?_append_left c] at hy
                  rw [if_neg (by omega)]
                  exact g2 _ _ hy
                · rw [List.getElem?_append_right (by omega)] at hy
                  have : j = es.length := by
                    by_cases c2 : j - es.length = 0
                    · omega
                    · rw [List.getElem?_eq_none (by simp; omega)] at hy; cases hy
                  subst this
                  simp at hy
                  subst hy
                  rw [if_pos g1]
                  exact ⟨_, rfl, ⟨h2, h3, rfl⟩⟩))
            exact ⟨β, _, .skip, undef, by rw [hex]; simp [hrun], .inr ⟨rfl, rfl⟩, VR.uv, q1, q2⟩
          · cases e
        · cases e
      · cases e
    · cases e
  · cases e

end

end Go.Proofs.YtlbmihpmcgiinaaGreatDoor.Own
end

/- The engine, part 15: memory as bytes and as addresses. -/
section
namespace Go.Proofs.YtlbmihpmcgiinaaGreatDoor.Own
open Go

section
variable {P : Program} {o : Oper}

theorem shape_of {w : World} {B : Nat} {c : Array Value} {e : TypeId} {fz : Nat × Nat} (h : w.heap[B]? = some (.cells c e fz)) : w.shape? B = some (e, c.size) := by
  simp [World.shape?, h]

theorem run_seenAt {w : World} {a : Addr} {c : Array Value} {e : TypeId} {fz : Nat × Nat} (h : w.heap[a.block]? = some (.cells c e fz)) : (Conv.seenAt a).run P w = .ok a w := by
  simp [Conv.seenAt, viewAt, shape_of h]

theorem ptrUp_ok {src dst t : TypeId} {x : Operand} {i : TypeInfo} (ho : o.op = .convert src dst x) (hs : P.underlying src = some (.pointer t)) (hd : P.underlying dst = some .unsafePointer)
    (hi : P.info? t = some i) (hn : i.size ≠ 0) : OpOK P o (R.ptrUp x).run := by
  intro call ρa H va H' wf e
  simp only [R.ptrUp, evPtrUp] at e
  split at e
  · rename_i hb
    cases e
    refine calmG wf fun β w ρ _ hx => ?_
    have h1 := hx x (by simp [ho, Op.operands]); rw [hb] at h1
    refine ⟨w, .pointer none, ?_, Drawn.refl w, .pnil⟩
    simp [execOp, ho, h1.pnil_inv, convert, run_under w hs, run_under w hd, Conv.unsafePointer]
  · rename_i a hb
    split at e
    · rename_i l hl
      cases e
      refine calmG wf fun β w ρ hr hx => ?_
      have h1 := hx x (by simp [ho, Op.operands]); rw [hb] at h1
      obtain ⟨a', hv, hp⟩ := h1.ptr_inv
      refine ⟨w, .pointer (some a'), ?_, Drawn.refl w, hp⟩
      obtain ⟨hsp, l', hl1, hl2, hl3⟩ := readCells_rep hl hr hp
      -- the block
      have hblk : ∃ c e fz, w.heap[a'.block]? = some (.cells c e fz) ∧ a'.off < c.size := by
        have hne : l'.length = 1 := by rw [← hl1.1]; exact hl2
        have h0 := hl3 0 (l'[0]'(by omega)) (List.getElem?_eq_getElem (by omega))
        rw [addr_add_zero] at h0
        unfold World.cell? at h0
        split at h0
        · rename_i c e fz hc
          split at h0
          · cases h0
          · refine ⟨c, e, fz, hc, ?_⟩
            by_cases k : a'.off < c.size
            · exact k
            · rw [Array.getElem?_eq_none (by omega)] at h0; cases h0
        · cases h0
      obtain ⟨c, e, fz, hc, hlt⟩ := hblk
      have hnot : ¬ (c.size ≤ a'.off) := by omega
      simp [execOp, ho, hv, convert, run_under w hs, run_under w hd, Conv.unsafePointer, run_seenAt hc, cellsIn, shape_of hc, run_size w hi, hn, hsp, hnot]
    · cases e
  · cases e

theorem ptrDown_ok {src dst t : TypeId} {x : Operand} {i : TypeInfo} (ho : o.op = .convert src dst x) (hs : P.underlying src = some .unsafePointer) (hd : P.underlying dst = some (.pointer t))
    (hi : P.info? t = some i) (hn : i.size ≠ 0) : OpOK P o (R.ptrDown P t x).run := by
  intro call ρa H va H' wf e
  simp only [R.ptrDown, evPtrDown] at e
  split at e
  · rename_i hb
    cases e
    refine calmG wf fun β w ρ _ hx => ?_
    have h1 := hx x (by simp [ho, Op.operands]); rw [hb] at h1
    refine ⟨w, .pointer none, ?_, Drawn.refl w, .pnil⟩
    simp [execOp, ho, h1.pnil_inv, convert, run_under w hs, run_under w hd, Conv.unsafePointer]
  · rename_i a hb
    split at e
    · rename_i c e0 f z hg hsp
      split at e
      · rename_i hcond
        cases e
        rw [Bool.and_eq_true] at hcond
        obtain ⟨hev, hlies⟩ := hcond
        refine calmG wf fun β w ρ hr hx => ?_
        have h1 := hx x (by simp [ho, Op.operands]); rw [hb] at h1
        obtain ⟨a', hv, hp⟩ := h1.ptr_inv
        refine ⟨w, .pointer (some a'), ?_, Drawn.refl w, hp⟩
        cases hp with
        | @ptr n p I hI =>
          obtain ⟨J, o', hb', hw, hor⟩ := hr.obj n _ hg
          rw [hI] at hb'; cases hb'
          cases hor with
          | @cells _ _ _ _ c' fz k1 k2 k3 k4 =>
            obtain ⟨k5, k6⟩ := k4 (by simpa using hev)
            have hoff : p + I.shift = p := by omega
            have hse := run_seenAt (P := P) (a := ⟨I.blk, p, none⟩) hw
            rw [hoff] at hv ⊢
            rw [← k6] at hlies
            dsimp only at hlies
            simp [execOp, ho, hv, convert, run_under w hs, run_under w hd, Conv.unsafePointer, hse, variablesAt, shape_of hw, run_size w hi, hn, hlies]
      · cases e
    · cases e
  · cases e

theorem grownCap_le (w : World) (n : Nat) (e : TypeId) : n ≤ grownCap w n 0 e := by
  show n ≤ n + _
  omega

theorem strBytes_ok {src dst e0 : TypeId} {x : Operand} {u : TypeDesc} (ho : o.op = .convert src dst x) (hs : P.underlying src = some u) (hd : P.underlying dst = some (.slice e0)) (he : P.underlying e0 = some (.int .u8)) :
    OpOK P o (R.strBytes e0 x).run := by
  intro call ρa H va H' wf e
  simp only [R.strBytes, evStrBytes] at e
  split at e
  · rename_i s hb
    cases hnew : H.new true (.cells (s.data.toList.map fun b => .int .u8 b.toNat) e0 true 1) with
    | mk m H1 =>
      rw [hnew] at e; cases e
      obtain ⟨x1, x2, x3, x4, x5, x6, x7, x8⟩ := new_rep wf true _ hnew
      refine ⟨x1, fun β w ρ hrep hf hx => ?_⟩
      have h1 := hx x (by simp [ho, Op.operands]); rw [hb] at h1
      have hm : m % 2 = 1 := by simpa using x6
      have hrun := Go.Lib.run_convert_string_bytes (P := P) w src dst e0 s hs hd he
      have hcap := grownCap_le w s.size e0
      have hsz : (Go.Lib.bytesCells w e0 s).size = grownCap w s.size 0 e0 := by
        simp only [Go.Lib.bytesCells, Array.size_append, Array.size_map, Array.size_replicate]
        have : s.data.size = s.size := rfl
        omega
      let I : BI := ⟨w.heap.size, 0, 1, (Go.Lib.bytesCells w e0 s).size, none⟩
      let ob : Obj := .cells (Go.Lib.bytesCells w e0 s) e0 ((Go.Lib.bytesCells w e0 s).size, (Go.Lib.bytesCells w e0 s).size + 1)
      have hp : Pushed w ob (Go.Lib.bytesWorld w e0 s) := by
        refine ⟨?_, ?_, ?_, ?_⟩
        · apply Array.ext_getElem?
          intro j
          by_cases k1 : j < w.heap.size
          · rw [Go.Lib.bytesWorld_at_old w e0 s j k1, Array.getElem?_push, if_neg (by omega)]
          · by_cases k2 : j = w.heap.size
            · subst k2
              rw [Go.Lib.bytesWorld_at_new, Array.getElem?_push, if_pos rfl]
            · rw [Array.getElem?_eq_none (by rw [Go.Lib.bytesWorld_size]; omega), Array.getElem?_eq_none (by rw [Array.size_push]; omega)]
        · simp [Go.Lib.bytesWorld, World.freeze, World.alloc, World.drew, -World.alloc_eq, -World.drew_eq]
        · simp [Go.Lib.bytesWorld, World.freeze, World.alloc, World.drew, -World.alloc_eq, -World.drew_eq]
        · simp [Go.Lib.bytesWorld, World.freeze, World.alloc, World.drew, -World.alloc_eq, -World.drew_eq]
      obtain ⟨r1, r2⟩ := x8 β w (Go.Lib.bytesWorld w e0 s) ob I hrep hf hp rfl (.cells (fun i v hi => by
          rw [List.getElem?_map, Option.map_eq_some_iff] at hi
          obtain ⟨b, hb1, hb2⟩ := hi
          have hlt : i < s.data.size := by
            by_cases k : i < s.data.size
            · exact k
            · rw [List.getElem?_eq_none (by simpa using k)] at hb1; cases hb1
          refine ⟨v, ?_, ?_⟩
          · simp only [I, Nat.add_zero, Go.Lib.bytesCells]
            rw [Array.getElem?_append_left (by simpa using hlt), Array.getElem?_map]
            rw [Array.getElem?_toList] at hb1
            rw [hb1]; simp [hb2]
          · rw [← hb2]; exact .int _ _) (fun _ => ⟨rfl, rfl⟩) (fun k => by cases k) (fun k => by omega))
      refine ⟨_, _, _, .slice (some ⟨w.heap.size, 0, none⟩) s.size (grownCap w s.size 0 e0), ?_, .inl rfl, ?_, r1, r2⟩
      · simp only [execOp, ho, h1.str_inv, Sem.run_bind, hrun, Result.andThen_ok, Sem.run_pure]
      · have := VR.slice (β := β.ext m I) (o := 0) (l := s.data.toList.length) (c := s.data.toList.length) (c' := grownCap w s.size 0 e0) (Ren.ext_same β m I) (Nat.le_refl _) (by rw [Array.length_toList]; exact hcap) (fun k => by omega) (fun _ => by simp only [I]; omega)
        rw [show s.size = s.data.toList.length from by rw [Array.length_toList]; rfl]
        simpa [I] using this
  · cases e

/-! ## A string over a row of bytes -/
theorem liesAt_off {e : TypeId} (hc : P.cellsOf e = 1) (count off n : Nat) (hn : off + n ≤ count) : liesAt P P.depth e count off e n = true := by
  have hd : P.depth = (2 * (P.types.size + Made.depth) + 1) + 1 := rfl
  rw [hd]
  simp only [liesAt, Bool.or_eq_true]
  left
  rw [hd]
  simp [rowAt, hc, hn, sameLayout, Nat.mod_one]

theorem us_zero (at_ : Array TypeId) (pt ty : TypeId) (h : at_[0]? = some pt) (p : Option Addr) (k : IntKind) (w : World) : (Builtin.unsafeString_ at_ ty #[.pointer p, .int k 0]).run P w = .ok (.string .empty) w := by
  have hmax : IntKind.i64.max = 9223372036854775807 := rfl
  have hdef : Builtin.unsafeString_ at_ ty #[.pointer p, .int k 0] =
      (do
        let n ← asInt (.int k 0)
        let some pt := at_[0]? | stuck _
        if n < 0 then runtimePanic (.error _)
        if n > IntKind.i64.max then unsupported _
        match p with
        | none =>
          if n = 0 then pure (.string .empty)
          else runtimePanic (.error _)
        | some a =>
          if n = 0 then pure (.string .empty)
          else if ← variablesAt a (← elemOf pt) n.toNat then do
            let s ← loadBytes a .empty n.toNat
            freeze a n.toNat
            pure (.string s)
          else unsupported _) := rfl
  rw [hdef, h]
  cases p <;> simp [asInt, asIntOf, hmax]

theorem us_row (at_ : Array TypeId) (pt ty e : TypeId) (h : at_[0]? = some pt) (hp : P.underlying pt = some (.pointer e)) (hc : P.cellsOf e = 1) (a : Addr) (cells : Nat) (w : World) (hsh : w.shape? a.block = some (e, cells)) (l : List UInt8) (k : IntKind)
    (h0 : l ≠ []) (hn : a.off + l.length ≤ cells) (h63 : l.length ≤ 9223372036854775807) (hcell : ∀ j x, l[j]? = some x → w.cell? (a.add j) = some (.int .u8 x.toNat)) :
    (Builtin.unsafeString_ at_ ty #[.pointer (some a), .int k l.length]).run P w = .ok (.string ⟨l.toArray⟩) (w.freeze a l.length) := by
  have hl : l.length ≠ 0 := by simpa using h0
  have hlb := Go.Lib.run_loadBytes (P := P) w l a .empty hcell
  have hlies := liesAt_off (P := P) hc (cells / P.cellsOf e) a.off l.length (by rw [hc]; simpa using hn)
  have h63' : ¬ (9223372036854775807 : Int) < (l.length : Int) := by omega
  have hdef : Builtin.unsafeString_ at_ ty #[.pointer (some a), .int k l.length] =
      (do
        let n ← asInt (.int k l.length)
        let some pt := at_[0]? | stuck _
        if n < 0 then runtimePanic (.error _)
        if n > IntKind.i64.max then unsupported _
        if n = 0 then pure (.string .empty)
        else if ← variablesAt a (← elemOf pt) n.toNat then do
          let s ← loadBytes a .empty n.toNat
          freeze a n.toNat
          pure (.string s)
        else unsupported _) := rfl
  rw [hdef, h]
  have hmax : IntKind.i64.max = 9223372036854775807 := rfl
  have hneg : ¬ (l.length : Int) < 0 := by omega
  simp [asInt, asIntOf, hmax, h63', hneg, hl, variablesAt, hsh, elemOf, run_under w hp, hlies, hlb]

theorem bytesOfL_get : ∀ (bs : List Value) (l : List UInt8), bytesOfL bs = some l → l.length = bs.length ∧ ∀ (j : Nat) (x : UInt8), l[j]? = some x → bs[j]? = some (.int .u8 x.toNat) := by
  intro bs
  induction bs with
  | nil => intro l h; simp only [bytesOfL] at h; cases h; exact ⟨rfl, fun j x h => by simp at h⟩
  | cons b bs ih =>
    intro l h
    unfold bytesOfL at h
    split at h
    · rename_i heq; cases heq
    · rename_i n l' heq
      obtain ⟨rfl, rfl⟩ := List.cons.inj heq
      split at h
      · rename_i m hn hm
        cases h
        obtain ⟨h1, h2⟩ := ih m hm
        refine ⟨by simp [h1], fun j x hj => ?_⟩
        cases j with
        | zero =>
          simp at hj
          subst hj
          have : n < 256 := by simpa using hn
          simp [Nat.mod_eq_of_lt this]
        | succ j => simpa using h2 j x (by simpa using hj)
      · cases h
    · cases h

theorem freeze_turned {w : World} {a : Addr} {n : Nat} {c : Array Value} {e : TypeId} {fz : Nat × Nat} (h : w.heap[a.block]? = some (.cells c e fz)) (hn : n ≠ 0) : ∃ fz', Turned w a.block (.cells c e fz') (w.freeze a n) := by
  unfold World.freeze
  rw [if_neg hn]
  obtain ⟨lo, hi⟩ := fz
  refine ⟨if lo == hi then (a.off, a.off + n) else (min lo a.off, max hi (a.off + n)), by simp, ?_, fun k hk => ?_, rfl, rfl, rfl⟩
  · show (w.heap.modify a.block _)[a.block]? = _
    rw [Array.getElem?_modify, if_pos rfl, h]; rfl
  · show (w.heap.modify a.block _)[k]? = _
    rw [Array.getElem?_modify, if_neg (Ne.symm hk)]

theorem unsafeStr_ok {c : Call} {pt e0 : TypeId} {tl : List TypeId} {p n : Operand} {i : TypeInfo} (ho : o.op = .call c) (hc : c.callee = .builtin .unsafeString) (ha : c.args.toList = [p, n]) (hat : c.argTypes.toList = pt :: tl)
    (hp : P.underlying pt = some (.pointer e0)) (hi : P.info? e0 = some i) (hsz : i.size = 1) : OpOK P o (R.unsafeStr e0 p n).run := by
  intro call ρa H va H' wf e
  have hargs : ∀ ρ : Operand → Value, c.args.map ρ = #[ρ p, ρ n] := by
    intro ρ; apply Array.toList_inj.mp; simp [ha]
  have hin : ∀ x, x = p ∨ x = n → x ∈ o.op.operands.toList := by
    intro x h
    rw [ho]
    show x ∈ (Call.operands c).toList
    unfold Call.operands
    rw [hc]
    have : x ∈ c.args.toList := by rw [ha]; simpa using h
    simpa using this
  have hat0 : c.argTypes[0]? = some pt := by rw [← Array.getElem?_toList, hat]; rfl
  have hex : ∀ ρ : Operand → Value, execOp ρ o = (do pure (.value (← Builtin.unsafeString_ c.argTypes o.type #[ρ p, ρ n]))) := by
    intro ρ; simp [execOp, ho, resolve, hc, invoke, builtin, hargs]
  simp only [R.unsafeStr, evUnsafeStr] at e
  split at e
  · rename_i q hpv hnv
    cases e
    refine calmG wf fun β w ρ _ hx => ?_
    have h1 := hx p (hin p (.inl rfl)); rw [hpv] at h1
    have h2 := hx n (hin n (.inr rfl))
    obtain ⟨k, hk⟩ : ∃ k, ρa n = .int k 0 := by
      cases hv : ρa n with
      | int k m =>
        rw [hv] at hnv
        cases m with
        | ofNat m => simp only [asNatA, Option.some.injEq] at hnv; subst hnv; exact ⟨k, rfl⟩
        | negSucc m => simp [asNatA] at hnv
      | _ => rw [hv] at hnv; simp [asNatA] at hnv
    rw [hk] at h2
    obtain ⟨q', hq⟩ : ∃ q', ρ p = .pointer q' := by
      cases q with
      | none => exact ⟨none, h1.pnil_inv⟩
      | some a => obtain ⟨a', hv, _⟩ := h1.ptr_inv; exact ⟨_, hv⟩
    refine ⟨w, .string .empty, ?_, Drawn.refl w, .string _⟩
    rw [hex, hq, h2.int_inv]
    simp [us_zero c.argTypes pt o.type hat0 q' k w]
  · rename_i a m hne hpv hnv
    split at e
    · rename_i cs e1 f z bs hsp hg hrd
      split at e
      · rename_i hbeq
        rw [Bool.and_eq_true] at hbeq
        obtain ⟨hbeq, hroom⟩ := hbeq
        have hroom : m ≤ 68719476736 := by simpa [roomA] using hroom
        have hee : e0 = e1 := Nat.eq_of_beq_eq_true hbeq
        subst hee
        split at e
        · rename_i l hl
          split at e
          · rename_i H1 hwr
            cases e
            obtain ⟨x1, x2, x3, x4, x5⟩ := write_rep wf hg hwr
            refine ⟨x1, fun β w ρ hrep hf hx => ?_⟩
            have h1 := hx p (hin p (.inl rfl)); rw [hpv] at h1
            have h2 := hx n (hin n (.inr rfl))
            obtain ⟨k, hk⟩ : ∃ k, ρa n = .int k m := by
              cases hv : ρa n with
              | int k m' =>
                rw [hv] at hnv
                cases m' with
                | ofNat m' => simp only [asNatA, Option.some.injEq] at hnv; subst hnv; exact ⟨k, rfl⟩
                | negSucc m' => simp [asNatA] at hnv
              | _ => rw [hv] at hnv; simp [asNatA] at hnv
            rw [hk] at h2
            obtain ⟨a', hv, hpp⟩ := h1.ptr_inv
            obtain ⟨hsp', l', hl1, hl2, hl3⟩ := readCells_rep hrd hrep hpp
            obtain ⟨g1, g2⟩ := bytesOfL_get _ _ hl
            have hlm : l.length = m := by omega
            have hm0 : m ≠ 0 := by
              intro k0
              subst k0
              first | exact hne rfl | exact hne _ rfl rfl | exact hne _ hpv hnv
            have hcell : ∀ j x, l[j]? = some x → w.cell? (a'.add j) = some (.int .u8 x.toNat) := by
              intro j x hj
              obtain ⟨y, hy, hyv⟩ := hl1.get (g2 j x hj)
              rw [hl3 j y hy, hyv.int_inv]
            cases hpp with
            | @ptr nm p0 I hI =>
              obtain ⟨J, o', hb', hw, hor⟩ := hrep.obj nm _ hg
              rw [hI] at hb'; cases hb'
              cases hor with
              | @cells _ _ _ _ c' fz k1 k2 k3 k4 =>
                have hcs : P.cellsOf e0 = 1 := by
                  rw [← hsz]; simp [Program.cellsOf, hi]
                have hlast : p0 + I.shift + l.length ≤ c'.size := by
                  have h0 := hcell (m - 1) (l[m - 1]'(by omega)) (List.getElem?_eq_getElem (by omega))
                  rw [addr_add, cell_of hw] at h0
                  by_cases k : p0 + I.shift + (m - 1) < c'.size
                  · omega
                  · rw [Array.getElem?_eq_none (by omega)] at h0; cases h0
                obtain ⟨fz', ht⟩ := freeze_turned (a := ⟨I.blk, p0 + I.shift, none⟩) (n := l.length) hw (by omega)
                obtain ⟨q1, q2⟩ := x5 β w _ _ I hrep hI ht (.cells k1 k2 (fun h => by cases h) k4)
                · have h63 : l.length ≤ 9223372036854775807 := by omega
                  have hrun := us_row (P := P) c.argTypes pt o.type e0 hat0 hp hcs ⟨I.blk, p0 + I.shift, none⟩ c'.size w (shape_of hw) l k (by intro h; rw [h] at hlm; simp at hlm; omega) hlast h63 hcell
                  rw [hlm] at hrun q1 q2
                  refine ⟨β, _, _, .string ⟨l.toArray⟩, ?_, .inl rfl, .string _, q1, q2⟩
                  rw [hex, hv, h2.int_inv]
                  simp [hrun]
          · cases e
        · cases e
      · cases e
    · cases e
  · cases e

end

end Go.Proofs.YtlbmihpmcgiinaaGreatDoor.Own
end
