/- Chapter 39: from what the rows list of package-level variables to what the walks ask of the world. -/
import Derived.Test.YtlbmihpmcgiinaaGreatDoorStart
import Derived.Test.YtlbmihpmcgiinaaGreatDoorW26
import Derived.Test.YtlbmihpmcgiinaaGreatDoorTie
import Derived.Test.YtlbmihpmcgiinaaGreatDoorCards
import Derived.WalkKit
import Derived.ProofKit
import Derived.OpenShut
import Derived.SizedLaws
import Derived.SliceStrings
import Derived.Lib.LaidTab
import Derived.LaidSub
import Derived.LaidMore
import Derived.Lay
import Derived.SevenTiedAt
import Derived.Stop.Joined
import Derived.ChangeMaps5
import Derived.Carry

section
namespace Go.Proofs.YtlbmihpmcgiinaaGreatDoor.Own
open Go Go.Proofs Go.RowKit Go.ChangeShapes Go.WideShapes Go.ChangeAt

/-- The rows' list of variables. -/
noncomputable def laidL : List (String × DataW Unit) := Go.Proofs.YtlbmihpmcgiinaaGreatDoor.Rows.thresholdSearchesRow.laid

theorem own39 : ownKnob Tryz.prog.godebug = none := by kernel_rfl
theorem laidOut39 : laidOutB Tryz.prog = true := by kernel_rfl
theorem cells9 : Tryz.prog.cellsOf 9 = 1 := by kernel_rfl
theorem cells23 : Tryz.prog.cellsOf 23 = 1 := by kernel_rfl
theorem cells3 : Tryz.prog.cellsOf 3 = 1 := by kernel_rfl
theorem cells263 : Tryz.prog.cellsOf 263 = 8 := by kernel_rfl
theorem bytes23 : Tryz.prog.bytesOf 23 = 16 := by kernel_rfl
theorem gReserved : Tryz.prog.globalNamed "surveyor/lexer.reserved" = some 0 := by kernel_rfl
theorem gOperands : Tryz.prog.globalNamed "surveyor/expr.operands" = some 1 := by kernel_rfl
theorem gLast : Tryz.prog.globalNamed "math/bits.deBruijn64tab" = some 9 := by kernel_rfl
theorem gReservedType : (Tryz.prog.globals[0]?).map (·.type) = some 78 := by kernel_rfl
theorem gOperandsType : (Tryz.prog.globals[1]?).map (·.type) = some 263 := by kernel_rfl

theorem only_reserved : laidL.filter (fun x => x.1 == "surveyor/lexer.reserved") = [("surveyor/lexer.reserved", Go.Proofs.YtlbmihpmcgiinaaGreatDoor.Rows.laid_surveyor_lexer_reserved)] := by kernel_rfl
theorem only_operands : laidL.filter (fun x => x.1 == "surveyor/expr.operands") = [("surveyor/expr.operands", Lib.tabData .i64 [0, 0, 1, 2, 2, 2, 2, 2])] := by kernel_rfl
theorem only_last : laidL.filter (fun x => x.1 == "math/bits.deBruijn64tab") = [("math/bits.deBruijn64tab", Go.Proofs.YtlbmihpmcgiinaaGreatDoor.Rows.laid_math_bits_deBruijn64tab)] := by kernel_rfl

theorem block_of_var {P : Program} {W : World} {n : String} {g : Nat} {cs : Array Value} (hg : P.globalNamed n = some g) (h : W.var? P n = some cs) : ∃ e f, W.heap[g]? = some (.cells cs e f) := by
  simp only [World.var?, hg, Option.bind_some] at h
  split at h
  · rename_i c t fr hb
    cases h
    exact ⟨t, fr, hb⟩
  · cases h

/-- The reserved words, as texts. -/
def resB : List ByteArray := reservedL.map fun v => match v with | .string s => s | _ => ByteArray.empty
theorem resB_strs : (DataW.slice (strs resB) [] : DataW Unit) = Go.Proofs.YtlbmihpmcgiinaaGreatDoor.Rows.laid_surveyor_lexer_reserved := rfl
theorem resB_len : resB.length = 19 := rfl
theorem resB_get : reservedL = resB.map .string := rfl

theorem strs_inj : ∀ (a b : List ByteArray), (strs a : List (DataW Unit)) = strs b → a = b := by
  intro a
  induction a with
  | nil =>
    intro b h
    cases b with
    | nil => rfl
    | cons x b => exact absurd (congrArg List.length h) (by simp [strs])
  | cons x a ih =>
    intro b h
    cases b with
    | nil => exact absurd (congrArg List.length h) (by simp [strs])
    | cons y b =>
      simp only [strs, List.map_cons, List.cons.injEq] at h
      obtain ⟨h1, h2⟩ := h
      have h3 : x.data.toList = y.data.toList := by
        injection h1 with h1
        injection h1
      have h4 : x = y := by
        cases x; cases y
        simp only [ByteArray.mk.injEq]
        exact Array.toList_inj.mp h3
      rw [h4, ih b h2]

theorem laid39 {W : World} (h : laidMetH Tryz.prog laidL W) : Laid39 W := by
  have h1 := h.filter (fun x => x.1 == "surveyor/lexer.reserved")
  have h2 := h.filter (fun x => x.1 == "surveyor/expr.operands")
  have h3 := h.filter (fun x => x.1 == "math/bits.deBruijn64tab")
  rw [only_reserved, MakeChecks.laidMetH_plain _ _ _ (by kernel_rfl)] at h1
  rw [only_operands, MakeChecks.laidMetH_plain _ _ _ (by kernel_rfl)] at h2
  rw [only_last, MakeChecks.laidMetH_plain _ _ _ (by kernel_rfl)] at h3
  have ht := Lib.tabIs_of_head gOperands gOperandsType Tryz.underlying263 Tryz.underlying3 cells3 cells263 h2
  obtain ⟨e1, f1, hop⟩ := block_of_var gOperands ht
  obtain ⟨_, ⟨g3, t3, cs3, fuel3, p3, q3, hg3, ht3, hv3, _⟩, _, _⟩ := h3
  obtain ⟨e3, f3, hb3⟩ := block_of_var gLast hv3
  have hsize : 10 ≤ W.heap.size := (Array.getElem?_eq_some_iff.1 hb3).1
  refine ⟨hsize, ⟨e1, f1, hop⟩, ?_⟩
  obtain ⟨_, ⟨g, t, cs, fuel, p, q, hg, hty, hv, hd, _⟩, _, _⟩ := h1
  obtain rfl := Option.some.inj (gReserved.symm.trans hg)
  obtain rfl := Option.some.inj (gReservedType.symm.trans hty)
  obtain ⟨e0, f0, hb0⟩ := block_of_var gReserved hv
  rcases open_strings Tryz.underlying78 Tryz.underlying9 cells9 hd with ⟨_, hx⟩ | ⟨a, len, cap, ss, hcs, _, hl, hm, hz, hx, hcell, _⟩
  · have hx1 := congrArg Prod.fst hx
    cases hx1
  · have hx1 : (Go.Proofs.YtlbmihpmcgiinaaGreatDoor.Rows.laid_surveyor_lexer_reserved : DataW Unit) = _ := congrArg Prod.fst hx
    rw [← resB_strs] at hx1
    injection hx1 with hx2 hx3
    simp only [if_true] at hz
    have hdrop : ss.drop len = [] := by
      have := congrArg List.length hx3
      simp [strs] at this
      exact List.drop_eq_nil_of_le (by omega)
    have htake := strs_inj _ _ hx2
    have hss : ss = resB := by
      rw [htake]
      have := List.take_append_drop len ss
      rw [hdrop, List.append_nil] at this
      exact this.symm
    subst hss
    have hlen : len = 19 := by
      have h1 := congrArg List.length htake
      rw [List.length_take, resB_len] at h1
      rw [resB_len] at hz
      have h2 := congrArg List.length hdrop
      rw [List.length_drop, resB_len] at h2
      simp at h2
      omega
    have hcap : cap = 19 := by rw [← hz, resB_len]
    subst hlen hcap
    obtain ⟨b, off, spot⟩ := a
    have hspot : spot = none := by simpa [Addr.add] using World.cell?_spot (hcell 0 (by rw [resB_len]; omega))
    subst hspot
    have hcs' : cs = #[.slice (some ⟨b, off, none⟩) 19 19] := by
      cases cs
      simpa using hcs
    subst hcs'
    have hc0 := hcell 0 (by rw [resB_len]; omega)
    have hc0 : W.cell? ⟨b, off, none⟩ = some (.string (resB.getD 0 ByteArray.empty)) := hc0
    have hblk : ∃ c e f, W.heap[b]? = some (.cells c e f) := by
      unfold World.cell? at hc0
      split at hc0
      · rename_i c e f hh
        exact ⟨c, e, f, hh⟩
      · cases hc0
    obtain ⟨c, e2, f2, hbb⟩ := hblk
    have hci : ∀ i, i < 19 → c[i + off]? = some (.string (resB.getD i ByteArray.empty)) := by
      intro i hi
      have := hcell i (by rw [resB_len]; exact hi)
      rw [add_plain] at this
      unfold World.cell? at this
      rw [hbb] at this
      simpa [Nat.add_comm] using this
    refine ⟨b, off, e0, f0, c, e2, f2, hb0, hbb, ?_, ?_, ?_⟩
    · rintro rfl
      rw [hb0] at hbb
      cases hbb
      have := hci 1 (by omega)
      rw [Array.getElem?_eq_none (by simp)] at this
      cases this
    · rintro rfl
      rw [hop] at hbb
      cases hbb
      have h0 := hci 0 (by omega)
      rw [List.getElem?_toArray] at h0
      obtain ⟨z, _, hz'⟩ := List.mem_map.mp (List.mem_of_getElem? h0)
      cases hz'
    · intro i v hv
      rw [resB_get, List.getElem?_map] at hv
      have hi : i < 19 := by
        rcases Nat.lt_or_ge i 19 with hi | hi
        · exact hi
        · rw [List.getElem?_eq_none (by rw [resB_len]; exact hi)] at hv
          cases hv
      rw [hci i hi]
      rw [List.getElem?_eq_getElem (by rw [resB_len]; exact hi)] at hv
      rw [← hv]
      simp [List.getD, List.getElem?_eq_getElem (show i < resB.length by rw [resB_len]; exact hi)]

end Go.Proofs.YtlbmihpmcgiinaaGreatDoor.Own
end

/- Chapter 39: the arguments opened, the witness's world. -/
section
namespace Go.Proofs.YtlbmihpmcgiinaaGreatDoor.Own
open Go Go.Proofs Go.RowKit Go.ChangeShapes Go.WideShapes Go.ChangeAt Go.ChangeMaps

theorem cell_lt {w : World} {a : Addr} {v : Value} (h : w.cell? a = some v) : a.block < w.heap.size := by
  unfold World.cell? at h
  split at h
  · rename_i hb
    exact (Array.getElem?_eq_some_iff.1 hb).1
  · cases h

/-- A slice of texts that came in, nil or not, as the walks want it. -/
theorem open_texts {H : Type} {enc : TypeId × Value → H} {W : World} {a0 : Option Addr} {len cap fuel : Nat} {x : DataW H × List MemPlace}
    (hf : DataW.trod enc Tryz.prog W 0 (fun _ => true) true fuel 22 [.slice a0 len cap] = some x) :
    ∃ l : List ByteArray, l.length = len ∧ StrsAt W a0 l ∧ (len = 0 ∨ ∃ spare, x.1 = .slice (strs l) spare) := by
  rcases open_strings Tryz.underlying22 Tryz.underlying23 cells23 hf with ⟨hcs, hx⟩ | ⟨a, len', cap', ss, hcs, _, hl, hm, hz, hx, hcell, _⟩
  · simp at hcs
    obtain ⟨rfl, rfl, rfl⟩ := hcs
    exact ⟨[], rfl, fun h => absurd rfl h, Or.inl rfl⟩
  · simp at hcs
    obtain ⟨rfl, rfl, rfl⟩ := hcs
    subst hx
    simp only [if_true] at hz
    obtain ⟨b, off, spot⟩ := a
    refine ⟨ss.take len, by simp; omega, fun hne => ?_, Or.inr ⟨_, rfl⟩⟩
    have h0 : 0 < len := by
      rcases Nat.eq_zero_or_pos len with h | h
      · subst h; simp at hne
      · exact h
    have hspot : spot = none := by simpa [Addr.add] using World.cell?_spot (hcell 0 (by omega))
    subst hspot
    refine ⟨b, off, rfl, cell_lt (hcell 0 (by omega)), fun j hj => ?_⟩
    have hj2 : j < len := by simp at hj; omega
    have := hcell j (by omega)
    rw [add_plain] at this
    rw [this]
    simp [List.getD, List.getElem?_eq_getElem (show j < ss.length by omega)]

theorem texts_len {H : Type} {l : List ByteArray} {len : Nat} {x : DataW H} {ts : List TypeId} {ds : List (DataW H)} (hl : l.length = len)
    (hsz : (DataW.weightsEach Tryz.prog ts ds).all (· ≤ reachBytes) = true) {j : Nat} (ht : ts[j]? = some 22) (hd : ds[j]? = some x) (hx : len = 0 ∨ ∃ spare, x = .slice (strs l) spare) : l.length < 4611686018427387904 := by
  rcases hx with h0 | ⟨spare, rfl⟩
  · omega
  · have := sized_slice hsz ht hd Tryz.underlying22
    rw [bytes23] at this
    simp only [strs, List.length_map, reachBytes] at this
    omega

/-- The witness's world: the settled one, the listed variables laid. -/
noncomputable def laidW39 (os : Os) : World := World.laidAll Tryz.prog os laidL
theorem laidMet39 (os : Os) (args : Array Value) : laidMetH Tryz.prog laidL ((laidW39 os).forCall (fun _ _ => 0) ⟨#[], args, []⟩).memory := by
  rw [MakeChecks.laidMetH_plain _ _ _ (by kernel_rfl)]
  exact laidMet_laidAll _ (by kernel_rfl) (by kernel_rfl)

end Go.Proofs.YtlbmihpmcgiinaaGreatDoor.Own
end

/- No function of the program starts a goroutine. -/
section
namespace Go.Proofs.YtlbmihpmcgiinaaGreatDoor.Own
open Go Go.Proofs

theorem nogo39 : Tryz.prog.funcs.any Func.goes = false := by kernel_rfl

theorem goes_none {P : Program} (h : P.funcs.any Func.goes = false) (f : FuncId) : P.goes f = false := by
  have h2 : ∀ fn ∈ P.funcs, Func.goes fn = false := by
    intro fn hfn
    rcases hg : Func.goes fn with _ | _
    · rfl
    · have : P.funcs.any Func.goes = true := by rw [← Array.any_toList]; exact List.any_eq_true.mpr ⟨fn, Array.mem_toList_iff.mpr hfn, hg⟩
      rw [h] at this
      cases this
  unfold Program.goes
  rw [h, Bool.and_false, Bool.or_false, List.any_eq_false]
  intro g _
  cases hx : P.funcs[g]? with
  | none => simp
  | some fn => simp [h2 fn (Array.mem_of_getElem? hx)]

theorem goesBy_none {P : Program} (h : P.funcs.any Func.goes = false) {c : OpenClaim} (hs : c.start = .entering) : false = c.goesBy P := by
  unfold OpenClaim.goesBy Program.goesAt Program.goesFrom
  rw [hs]
  cases P.funcNamed c.func with
  | none => rfl
  | some f => simp [goes_none h f]

end Go.Proofs.YtlbmihpmcgiinaaGreatDoor.Own
end
