/- Chapter 39: awake() in the machine. -/
import Derived.Test.YtlbmihpmcgiinaaGreatDoorAwake
import Derived.Test.YtlbmihpmcgiinaaGreatDoorSum71
open Go Go.Proofs Go.Proofs.YtlbmihpmcgiinaaGreatDoor.Own
namespace Go.Proofs.YtlbmihpmcgiinaaGreatDoor.Own

/-- What a world holds in which the listed variables that awake() reads are laid. -/
structure Laid39 (W : World) : Prop where
  size : 10 ≤ W.heap.size
  operands : ∃ e f, W.heap[1]? = some (.cells operandsL.toArray e f)
  reserved : ∃ b off e f c e2 f2, W.heap[0]? = some (.cells #[.slice (some ⟨b, off, none⟩) 19 19] e f) ∧ W.heap[b]? = some (.cells c e2 f2) ∧ b ≠ 0 ∧ b ≠ 1 ∧ ∀ (i : Nat) (v : Value), reservedL[i]? = some v → c[i + off]? = some v

theorem globals0 : P0.globals.size = 10 := by kernel_rfl

theorem tr0_get (e0 e1 e2 : TypeId) (n : Nat) : (H0 e0 e1 e2).get n = if n = 21 then some (.cells reservedL e2 true 1) else if n = 2 then some (.cells operandsL e1 true 0) else if n = 0 then some (.cells [.slice (some ⟨21, 0, none⟩) 19 19] e0 true 0) else none := by
  rw [AH.get_eq]
  simp only [H0, tr0, Tr.get_set, get_leaf]
  simp [hidden]

theorem scal_list (l : List Value) (h : l.all (scal 4) = true) {β : Ren} : ∀ (i : Nat) (v : Value), l[i]? = some v → VR β v v := by
  intro i v hv
  have := List.all_eq_true.mp h v (List.mem_of_getElem? hv)
  exact VR.refl_of_scal 4 v this

theorem sA_ok : SumOK P0 sA := sums1_ok s9_ok sum71_ok

theorem awake_of {W : World} (h : Laid39 W) : Calls P0 9 #[] W (fun e w' => e = .returned (.bool true) ∧ Grown W w') := by
  obtain ⟨e1, f1, hop⟩ := h.operands
  obtain ⟨b, off, e0, f0, c, e2, f2, hres, hrow, hb0, hb1, hcells⟩ := h.reserved
  have hev : EvOK P0 (mkTr 0 P0.types.toList .leaf) evA := ev_ok mix0 named0 sA_ok 100000
  have htrue := awake_true e0 e1 e2
  generalize hcall : callFn F0 evA [] 9 [] (H0 e0 e1 e2) = r at htrue
  unfold isTrue at htrue
  split at htrue
  · rename_i H'
    have hget := tr0_get e0 e1 e2
    have hwf : WF (H0 e0 e1 e2) := by
      refine ⟨fun n hn => ?_, Nat.le_refl _, fun n hn => by simp [H0, hidden] at hn, by simp [H0]⟩
      rw [hget] at hn
      show n < 22
      split at hn
      · omega
      · split at hn
        · omega
        · split at hn
          · omega
          · cases hn
    obtain ⟨x1, x2⟩ := calls_of_eval tyOK_mk (tabOK_mk named0 _) hev hcall hwf
    have hsz := h.size
    have hblt : b < W.heap.size := (Array.getElem?_eq_some_iff.1 hrow).1
    let I : BI := ⟨b, off, 1, c.size, none⟩
    let β : Ren := fun n => if n = 21 then some I else globR P0 n
    have hβg : ∀ n, n ≠ 21 → β n = globR P0 n := fun n hn => by simp [β, hn]
    have hβ21 : β 21 = some I := by simp [β]
    have hg0 : globR P0 0 = some ⟨0, 0, 0, 0, none⟩ := by
      unfold globR; rw [globals0]; rfl
    have hg2 : globR P0 2 = some ⟨1, 0, 0, 0, none⟩ := by
      unfold globR; rw [globals0]; rfl
    have hlen : reservedL.length = 19 := rfl
    have hrep : Rep β (H0 e0 e1 e2).get W := by
      refine ⟨fun n o hn => ?_, fun n m J K hn hm hJ hK hJK => ?_, fun n J hJ => ?_⟩
      · rw [hget] at hn
        split at hn
        · rename_i k; subst k; cases hn
          refine ⟨I, _, hβ21, hrow, .cells (fun i v hi => ⟨v, hcells i v hi, scal_list reservedL (by kernel_rfl) i v hi⟩) (fun _ => ⟨rfl, rfl⟩) (fun k => by cases k) (fun k => by omega)⟩
        · split at hn
          · rename_i k; subst k; cases hn
            refine ⟨⟨1, 0, 0, 0, none⟩, _, by rw [hβg 2 (by omega)]; exact hg2, hop, .cells (fun i v hi => ⟨v, by simpa using hi, scal_list operandsL (by kernel_rfl) i v hi⟩) (fun k => by omega) (fun k => by cases k) (fun _ => ⟨rfl, by simp⟩)⟩
          · split at hn
            · rename_i k; subst k; cases hn
              refine ⟨⟨0, 0, 0, 0, none⟩, _, by rw [hβg 0 (by omega)]; exact hg0, hres, .cells (fun i v hi => ?_) (fun k => by omega) (fun k => by cases k) (fun _ => ⟨rfl, by simp⟩)⟩
              cases i with
              | zero =>
                simp at hi
                subst hi
                refine ⟨_, rfl, ?_⟩
                have hc : off + 19 ≤ c.size := by
                  have h18 : ∃ v, reservedL[18]? = some v := ⟨reservedL[18], List.getElem?_eq_getElem (by rw [hlen]; omega)⟩
                  obtain ⟨v, hv⟩ := h18
                  have := hcells 18 v hv
                  have := (Array.getElem?_eq_some_iff.1 this).1
                  omega
                have := VR.slice (β := β) (o := 0) (l := 19) (c := 19) (c' := 19) hβ21 (Nat.le_refl _) (Nat.le_refl _) (fun _ => rfl) (fun _ => by simp only [I]; omega)
                simpa [I] using this
              | succ i => simp at hi
            · cases hn
      · have key : ∀ n J, ((H0 e0 e1 e2).get n).isSome = true → β n = some J → (n = 21 ∧ J.blk = b) ∨ (n = 2 ∧ J.blk = 1) ∨ (n = 0 ∧ J.blk = 0) := by
          intro n J hn hJ
          rw [hget] at hn
          split at hn
          · rename_i k; subst k; rw [hβ21] at hJ; cases hJ; exact .inl ⟨rfl, rfl⟩
          · split at hn
            · rename_i k; subst k; rw [hβg 2 (by omega), hg2] at hJ; cases hJ; exact .inr (.inl ⟨rfl, rfl⟩)
            · split at hn
              · rename_i k; subst k; rw [hβg 0 (by omega), hg0] at hJ; cases hJ; exact .inr (.inr ⟨rfl, rfl⟩)
              · cases hn
        rcases key n J hn hJ with ⟨a1, a2⟩ | ⟨a1, a2⟩ | ⟨a1, a2⟩ <;> rcases key m K hm hK with ⟨b1, b2⟩ | ⟨b1, b2⟩ | ⟨b1, b2⟩ <;> omega
      · by_cases k : n = 21
        · subst k; rw [hβ21] at hJ; cases hJ; exact hblt
        · rw [hβg n k] at hJ
          unfold globR at hJ
          split at hJ
          · rename_i hk; rw [globals0] at hk; cases hJ; show n / 2 < _; omega
          · cases hJ
    have hfree : Free β (H0 e0 e1 e2).ctr H'.ctr := by
      intro n h1 _
      have h1 : 22 ≤ n := h1
      rw [hβg n (by omega)]
      unfold globR
      rw [globals0, if_neg (by omega)]
    have hglob : GlobOK P0 β := by
      intro g hg
      obtain ⟨J, j1, j2, j3⟩ := globR_ok (P := P0) g hg
      exact ⟨J, by rw [hβg (2 * g) (by omega)]; exact j1, j2, j3⟩
    refine Calls.mono (x2 β W #[] hrep hfree hglob (by simpa using VRs.nil)) ?_
    rintro e w' ⟨v, rfl, β', q1, q2, q3⟩
    refine ⟨by rw [q1.bool_inv], q3.size, fun B hB => q3.keep B hB (fun m J hm hs _ => ?_), q3.tape, q3.os, q3.output⟩
    have := hwf.live m hs
    have hm : 22 ≤ m := hm
    have h22 : (H0 e0 e1 e2).ctr = 22 := rfl
    omega
  · cases htrue

end Go.Proofs.YtlbmihpmcgiinaaGreatDoor.Own
