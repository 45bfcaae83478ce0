/- Chapter 39: ThresholdLimits: what the row asks of every run. -/
import Derived.Test.YtlbmihpmcgiinaaGreatDoorWorld39
import Derived.Test.YtlbmihpmcgiinaaGreatDoorLawC
import Derived.Deep.Strs
namespace Go.Proofs.YtlbmihpmcgiinaaGreatDoor.Own
open Go Go.Proofs Go.RowKit Go.ChangeShapes Go.WideShapes Go.ChangeAt Go.ChangeMaps Go.Deep

theorem cells65 : Tryz.prog.cellsOf 65 = 3 := by kernel_rfl
theorem cells32 : Tryz.prog.cellsOf 32 = 1 := by kernel_rfl
theorem cells63 : Tryz.prog.cellsOf 63 = 1 := by kernel_rfl

theorem open_row65 {H : Type} {enc : TypeId × Value → H} {W : World} {cs : Array Value} {fuel : Nat} {x : DataW H × List MemPlace} (hs : cs.size = Tryz.prog.cellsOf 65)
    (h : DataW.trod enc Tryz.prog W 0 (fun _ => true) true fuel 65 (Value.cells (.agg cs)).toList = some x) :
    ∃ (f s : Int) (c : Nat), cs = #[.int .i16 f, .int .i16 s, .int .u16 (c : Int)] ∧ GoodRow f s c := by
  rw [cells65] at hs
  obtain ⟨l⟩ := cs
  have h : DataW.trod enc Tryz.prog W 0 (fun _ => true) true fuel 65 l = some x := h
  match l, hs with
  | [a0, a1, a2], _ =>
    obtain ⟨y0, y1, y2, n, _, _, t0, t1, t2⟩ := trod_struct3 Tryz.underlying65 h
    simp only [cells32, cells63, List.drop, List.take] at t0 t1 t2
    obtain ⟨N0, e0, _, w0⟩ := DataW.trod_int Tryz.underlying32 t0
    obtain ⟨N1, e1, _, w1⟩ := DataW.trod_int Tryz.underlying32 t1
    obtain ⟨N2, e2, _, w2⟩ := DataW.trod_int Tryz.underlying63 t2
    simp at e0 e1 e2
    subst e0
    subst e1
    subst e2
    simp [Lit.wf] at w0 w1 w2
    have b0 : IntKind.i16.min = -32768 := rfl
    have b1 : IntKind.i16.max = 32767 := rfl
    have b2 : IntKind.u16.min = 0 := rfl
    have b3 : IntKind.u16.max = 65535 := rfl
    rw [b0, b1] at w0 w1
    rw [b2, b3] at w2
    refine ⟨N0, N1, N2.toNat, ?_, w0.1, w0.2, w1.1, w1.2, by omega⟩
    rw [Int.toNat_of_nonneg w2.1]

set_option maxRecDepth 100000 in
theorem lifted6 (os : Os) (started : os.Started) (H : Type) (enc : TypeId × Value → H) :
    ReturnsInHanded {} Tryz.checked os 6 .any (fun w args => (Go.Proofs.YtlbmihpmcgiinaaGreatDoor.Rows.thresholdLimitsSpec.pre enc Tryz.prog Tryz.f6 Go.Proofs.YtlbmihpmcgiinaaGreatDoor.Rows.thresholdLimitsRow.domain false w args ∧ laidMetH Tryz.prog laidL w) ∧ sizedMet enc Tryz.prog Tryz.f6 (OpenSpec.ofChange Go.Proofs.YtlbmihpmcgiinaaGreatDoor.Rows.thresholdLimitsSpec) false w args)
      (Go.Proofs.YtlbmihpmcgiinaaGreatDoor.Rows.thresholdLimitsSpec.post enc Tryz.prog Tryz.f6 false true false false) := by
  refine returnsInHanded_of_change_and (C := Tryz.checked) (X := fun w _ => laidMetH Tryz.prog laidL w) (fun _ _ _ hh h => h.of_heap hh) own39 started (by kernel_rfl) Tryz.func6
    (ChangeSpec.witness_shaped (enc := enc) (C := Tryz.checked) (os := os) (X := fun w _ => laidMetH Tryz.prog laidL w) false (laidW39 os) #[.agg #[.int .i16 0, .int .i16 0, .int .u16 0], .agg #[.int .i16 0, .int .i16 0, .int .u16 0]] 8 (World.laidAll_os _ _ _)
      (World.shaped_of_ZipB (by kernel_rfl) (by kernel_rfl)) (by kernel_rfl) (by kernel_rfl) (by kernel_rfl) (laidMet39 os _)) ?_
  intro W base args ds gs before hval0 hW _ hsz0 hL _
  have hval : ∀ (j : Nat) t v, Tryz.f6.params[j]? = some t → args[j]? = some v → Value.okWide Tryz.prog W .any base t v := hval0
  have hsz : (DataW.weightsEach Tryz.prog (Tryz.f6.params.toList ++ Go.Proofs.YtlbmihpmcgiinaaGreatDoor.Rows.thresholdLimitsSpec.plain.varTypes Tryz.prog) (ds ++ gs)).all (· ≤ reachBytes) = true := hsz0
  clear hval0 hsz0
  have hW' := hW
  obtain ⟨p, q, hA0, hV0, rfl, _, _⟩ := hW
  have hA : DataW.TrodAll enc Tryz.prog W 0 (fun _ => true) true Tryz.f6.params.toList args.toList ds p := hA0
  rw [Tryz.params6] at hA hval hsz
  obtain ⟨v0, v1, d0, d1, p0, p1, rfl, rfl, rfl, h0, h1⟩ := trodAll_two hA
  obtain ⟨rfl, rfl⟩ := trodVars_none hV0
  obtain ⟨cs0, rfl, hs0⟩ := okWide_struct Tryz.underlying65 (hval 0 65 v0 rfl rfl)
  obtain ⟨cs1, rfl, hs1⟩ := okWide_struct Tryz.underlying65 (hval 1 65 v1 rfl rfl)
  have h0k := h0
  have h1k := h1
  obtain ⟨fuel0, hf0⟩ := h0
  obtain ⟨fuel1, hf1⟩ := h1
  clear hA0 hV0
  simp only [List.append_nil] at hW' hsz
  have hlt : ∀ x ∈ p0 ++ p1, x.block < W.heap.size := fun x hx => by simpa using hW'.lt x hx
  obtain ⟨f1, s1, c1, rfl, g1⟩ := open_row65 hs0 hf0
  obtain ⟨f2, s2, c2, rfl, g2⟩ := open_row65 hs1 hf1
  refine (w6 f1 s1 f2 s2 c1 c2 g1 g2 W (laid39 hL)).mono ?_
  rintro e W' ⟨rfl, bel⟩
  have e1 : Go.Proofs.YtlbmihpmcgiinaaGreatDoor.Rows.thresholdLimitsSpec.fn H ([d0, d1] ++ []) = { results := [.lit (.bool true)], args := [d0, d1] } := rfl
  refine ⟨_, rfl, _, _, _, [], p0 ++ p1, [], hW', ?_, ?_, ?_, bel.frame _, fun h => by cases h⟩
  · rw [e1]; exact trodAll_mk1 (shut_bool Tryz.underlying4 _)
  · rw [e1]; exact trodAll_mk2 (Below.trod laidOut39 (by kernel_rfl) (of_decide_eq_true (by kernel_rfl)) h0k bel (fun x hx => hlt x (by simp [hx]))) (Below.trod laidOut39 (by kernel_rfl) (of_decide_eq_true (by kernel_rfl)) h1k bel (fun x hx => hlt x (by simp [hx])))
  · rw [e1]; rfl

end Go.Proofs.YtlbmihpmcgiinaaGreatDoor.Own
