/- Answers that were reckoned before: level 3. -/
import Derived.Test.YtlbmihpmcgiinaaGreatDoorMemo2
open Go Go.Proofs Go.Proofs.YtlbmihpmcgiinaaGreatDoor.Own
set_option maxRecDepth 100000
namespace Go.Proofs.YtlbmihpmcgiinaaGreatDoor.Own
def a76_3 : List (List Value × Value) := [([bs [50]], .bool true), ([bs [57]], .bool true), ([bs [49]], .bool true), ([bs [45, 50]], .bool true), ([bs [52]], .bool true), ([bs [45, 52]], .bool true), ([bs [45, 49]], .bool true), ([bs [45, 57]], .bool true), ([bs [45, 49, 48]], .bool true), ([bs [45, 53]], .bool true), ([bs [53]], .bool true), ([bs [55]], .bool true), ([bs [56]], .bool true)]
theorem h76_3 : AllKnown P0 76 a76_3 := allKnown_of tyOK_mk (tabOK_mk named0 _) (ev2_ok) (show knownAll F0 ev2 P0 76 a76_3 = true from by kernel_rfl)
noncomputable def k3 : KTab := (Tr.set (Tr.set (Tr.set (Tr.set (Tr.set (Tr.set (Tr.set (Tr.set (Tr.set (Tr.set (Tr.set (Tr.set (Tr.set .leaf 191 (some a191_1)) 193 (some a193_1)) 143 (some (a143_1 ++ a143_2))) 149 (some a149_1)) 126 (some a126_1)) 59 (some a59_1)) 239 (some a239_1)) 94 (some a94_2)) 208 (some a208_2)) 352 (some a352_2)) 189 (some a189_2)) 287 (some a287_2)) 76 (some a76_3))
theorem k3_ok : KTab.OK P0 k3 := (KTab.set_ok (KTab.set_ok (KTab.set_ok (KTab.set_ok (KTab.set_ok (KTab.set_ok (KTab.set_ok (KTab.set_ok (KTab.set_ok (KTab.set_ok (KTab.set_ok (KTab.set_ok (KTab.set_ok KTab.none_ok (by kernel_rfl) h191_1) (by kernel_rfl) h193_1) (by kernel_rfl) (h143_1.append h143_2)) (by kernel_rfl) h149_1) (by kernel_rfl) h126_1) (by kernel_rfl) h59_1) (by kernel_rfl) h239_1) (by kernel_rfl) h94_2) (by kernel_rfl) h208_2) (by kernel_rfl) h352_2) (by kernel_rfl) h189_2) (by kernel_rfl) h287_2) (by kernel_rfl) h76_3)
noncomputable def s3 : Sums := kSums k3 s0
theorem s3_ok : SumOK P0 s3 := kSums_ok named0 k3_ok s0_ok
noncomputable def ev3 : EvA := evC F0 s3 100000
theorem ev3_ok : EvOK P0 (mkTr 0 P0.types.toList .leaf) ev3 := ev_ok mix0 named0 s3_ok 100000
end Go.Proofs.YtlbmihpmcgiinaaGreatDoor.Own
