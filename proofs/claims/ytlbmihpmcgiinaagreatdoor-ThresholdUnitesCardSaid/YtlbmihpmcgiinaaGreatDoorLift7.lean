/- Chapter 39: ThresholdUnites: what the row asks of every run. -/
import Derived.Test.YtlbmihpmcgiinaaGreatDoorWorld39
import Derived.Test.YtlbmihpmcgiinaaGreatDoorW7
namespace Go.Proofs.YtlbmihpmcgiinaaGreatDoor.Own
open Go Go.Proofs Go.RowKit Go.ChangeShapes Go.WideShapes Go.ChangeAt Go.ChangeMaps

set_option maxRecDepth 100000 in
theorem lifted7 (os : Os) (started : os.Started) (H : Type) (enc : TypeId × Value → H) :
    ReturnsInHanded {} Tryz.checked os 7 .any (fun w args => (Go.Proofs.YtlbmihpmcgiinaaGreatDoor.Rows.thresholdUnitesSpec.pre enc Tryz.prog Tryz.f7 Go.Proofs.YtlbmihpmcgiinaaGreatDoor.Rows.thresholdUnitesRow.domain false w args ∧ laidMetH Tryz.prog laidL w) ∧ sizedMet enc Tryz.prog Tryz.f7 (OpenSpec.ofChange Go.Proofs.YtlbmihpmcgiinaaGreatDoor.Rows.thresholdUnitesSpec) false w args)
      (Go.Proofs.YtlbmihpmcgiinaaGreatDoor.Rows.thresholdUnitesSpec.post enc Tryz.prog Tryz.f7 false true false false) := by
  refine returnsInHanded_of_change_and (C := Tryz.checked) (X := fun w _ => laidMetH Tryz.prog laidL w) (fun _ _ _ hh h => h.of_heap hh) own39 started (by kernel_rfl) Tryz.func7
    (ChangeSpec.witness_shaped (enc := enc) (C := Tryz.checked) (os := os) (X := fun w _ => laidMetH Tryz.prog laidL w) false (laidW39 os) #[.slice none 0 0, .slice none 0 0, .string ⟨#[]⟩] 8 (World.laidAll_os _ _ _)
      (World.shaped_of_ZipB (by kernel_rfl) (by kernel_rfl)) (by kernel_rfl) (by kernel_rfl) (by kernel_rfl) (laidMet39 os _)) ?_
  intro W base args ds gs before hval0 hW _ hsz0 hL _
  have hval : ∀ (j : Nat) t v, Tryz.f7.params[j]? = some t → args[j]? = some v → Value.okWide Tryz.prog W .any base t v := hval0
  have hsz : (DataW.weightsEach Tryz.prog (Tryz.f7.params.toList ++ Go.Proofs.YtlbmihpmcgiinaaGreatDoor.Rows.thresholdUnitesSpec.plain.varTypes Tryz.prog) (ds ++ gs)).all (· ≤ reachBytes) = true := hsz0
  clear hval0 hsz0
  have hW' := hW
  obtain ⟨p, q, hA0, hV0, rfl, _, _⟩ := hW
  have hA : DataW.TrodAll enc Tryz.prog W 0 (fun _ => true) true Tryz.f7.params.toList args.toList ds p := hA0
  rw [Tryz.params7] at hA hval hsz
  obtain ⟨v0, v1, v2, d0, d1, d2, p0, p1, p2, rfl, rfl, rfl, h0, h1, h2⟩ := trodAll_three hA
  obtain ⟨rfl, rfl⟩ := trodVars_none hV0
  obtain ⟨a0, len, cap, rfl⟩ := okWide_slice Tryz.underlying22 (hval 0 22 v0 rfl rfl)
  obtain ⟨a1, len1, cap1, rfl⟩ := okWide_slice Tryz.underlying22 (hval 1 22 v1 rfl rfl)
  have h0k := h0
  have h1k := h1
  have h2k := h2
  obtain ⟨s, rfl, _, _, _⟩ := open_string Tryz.underlying23 (hval 2 23 v2 rfl rfl) h2
  obtain ⟨fuel0, hf0⟩ := h0
  obtain ⟨fuel1, hf1⟩ := h1
  clear hA0 hV0
  simp only [List.append_nil, List.append_assoc] at hW'
  simp only [List.append_nil] at hsz
  have hlt : ∀ x ∈ p0 ++ (p1 ++ p2), x.block < W.heap.size := fun x hx => hW'.lt x hx
  obtain ⟨l, rfl, hat, hshape⟩ := open_texts hf0
  obtain ⟨l1, rfl, hat1, hshape1⟩ := open_texts hf1
  have hlen : l.length < 4611686018427387904 := texts_len rfl hsz (j := 0) rfl rfl hshape
  have hlen1 : l1.length < 4611686018427387904 := texts_len rfl hsz (j := 1) rfl rfl hshape1
  refine (w7 a0 a1 cap cap1 l l1 s W hat hat1 hlen hlen1 (laid39 hL)).mono ?_
  rintro e W' ⟨rfl, bel⟩
  have e1 : Go.Proofs.YtlbmihpmcgiinaaGreatDoor.Rows.thresholdUnitesSpec.fn H ([d0, d1, d2] ++ []) = { results := [.lit (.bool true)], args := [d0, d1, d2] } := rfl
  refine ⟨_, rfl, _, _, _, [], p0 ++ (p1 ++ p2), [], hW', ?_, ?_, ?_, bel.frame _, fun h => by cases h⟩
  · rw [e1]; exact trodAll_mk1 (shut_bool Tryz.underlying4 _)
  · rw [e1]; exact trodAll_mk3 (Below.trod laidOut39 (by kernel_rfl) (of_decide_eq_true (by kernel_rfl)) h0k bel (fun x hx => hlt x (by simp [hx]))) (Below.trod laidOut39 (by kernel_rfl) (of_decide_eq_true (by kernel_rfl)) h1k bel (fun x hx => hlt x (by simp [hx]))) (Below.trod laidOut39 (by kernel_rfl) (of_decide_eq_true (by kernel_rfl)) h2k bel (fun x hx => hlt x (by simp [hx])))
  · rw [e1]; rfl

end Go.Proofs.YtlbmihpmcgiinaaGreatDoor.Own
