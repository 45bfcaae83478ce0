/- Answers that were reckoned before: level 4. -/
import Derived.Test.YtlbmihpmcgiinaaGreatDoorMemo3
open Go Go.Proofs Go.Proofs.YtlbmihpmcgiinaaGreatDoor.Own
set_option maxRecDepth 100000
namespace Go.Proofs.YtlbmihpmcgiinaaGreatDoor.Own
def a59_4 : List (List Value × Value) := [([bs [50]], .int .i64 0), ([bs [57]], .int .i64 0), ([bs [49]], .int .i64 0), ([bs [45, 50]], .int .i64 0), ([bs [52]], .int .i64 0), ([bs [45, 52]], .int .i64 0), ([bs [45, 49]], .int .i64 0), ([bs [45, 57]], .int .i64 0), ([bs [45, 49, 48]], .int .i64 0), ([bs [45, 53]], .int .i64 0), ([bs [53]], .int .i64 0), ([bs [55]], .int .i64 0), ([bs [56]], .int .i64 0)]
theorem h59_4 : AllKnown P0 59 a59_4 := allKnown_of tyOK_mk (tabOK_mk named0 _) (ev3_ok) (show knownAll F0 ev3 P0 59 a59_4 = true from by kernel_rfl)
noncomputable def k4 : KTab := (Tr.set (Tr.set (Tr.set (Tr.set (Tr.set (Tr.set (Tr.set (Tr.set (Tr.set (Tr.set (Tr.set (Tr.set (Tr.set .leaf 191 (some a191_1)) 193 (some a193_1)) 143 (some (a143_1 ++ a143_2))) 149 (some a149_1)) 126 (some a126_1)) 59 (some (a59_1 ++ a59_4))) 239 (some a239_1)) 94 (some a94_2)) 208 (some a208_2)) 352 (some a352_2)) 189 (some a189_2)) 287 (some a287_2)) 76 (some a76_3))
theorem k4_ok : KTab.OK P0 k4 := (KTab.set_ok (KTab.set_ok (KTab.set_ok (KTab.set_ok (KTab.set_ok (KTab.set_ok (KTab.set_ok (KTab.set_ok (KTab.set_ok (KTab.set_ok (KTab.set_ok (KTab.set_ok (KTab.set_ok KTab.none_ok (by kernel_rfl) h191_1) (by kernel_rfl) h193_1) (by kernel_rfl) (h143_1.append h143_2)) (by kernel_rfl) h149_1) (by kernel_rfl) h126_1) (by kernel_rfl) (h59_1.append h59_4)) (by kernel_rfl) h239_1) (by kernel_rfl) h94_2) (by kernel_rfl) h208_2) (by kernel_rfl) h352_2) (by kernel_rfl) h189_2) (by kernel_rfl) h287_2) (by kernel_rfl) h76_3)
noncomputable def s4 : Sums := kSums k4 s0
theorem s4_ok : SumOK P0 s4 := kSums_ok named0 k4_ok s0_ok
noncomputable def ev4 : EvA := evC F0 s4 100000
theorem ev4_ok : EvOK P0 (mkTr 0 P0.types.toList .leaf) ev4 := ev_ok mix0 named0 s4_ok 100000
end Go.Proofs.YtlbmihpmcgiinaaGreatDoor.Own
