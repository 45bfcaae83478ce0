/- Answers that were reckoned before: level 2. -/
import Derived.Test.YtlbmihpmcgiinaaGreatDoorMemo1
open Go Go.Proofs Go.Proofs.YtlbmihpmcgiinaaGreatDoor.Own
set_option maxRecDepth 100000
namespace Go.Proofs.YtlbmihpmcgiinaaGreatDoor.Own
def a143_2 : List (List Value × Value) := [([bs [109, 97, 105, 110]], .bool true)]
theorem h143_2 : AllKnown P0 143 a143_2 := allKnown_of tyOK_mk (tabOK_mk named0 _) (ev1_ok) (show knownAll F0 ev1 P0 143 a143_2 = true from by kernel_rfl)
def a94_2 : List (List Value × Value) := [([bs [50], bs [48, 49, 50, 51, 52, 53, 54, 55, 56, 57]], bs []), ([bs [57], bs [48, 49, 50, 51, 52, 53, 54, 55, 56, 57]], bs []), ([bs [49], bs [48, 49, 50, 51, 52, 53, 54, 55, 56, 57]], bs []), ([bs [52], bs [48, 49, 50, 51, 52, 53, 54, 55, 56, 57]], bs []), ([bs [49, 48], bs [48, 49, 50, 51, 52, 53, 54, 55, 56, 57]], bs []), ([bs [53], bs [48, 49, 50, 51, 52, 53, 54, 55, 56, 57]], bs []), ([bs [55], bs [48, 49, 50, 51, 52, 53, 54, 55, 56, 57]], bs []), ([bs [56], bs [48, 49, 50, 51, 52, 53, 54, 55, 56, 57]], bs [])]
theorem h94_2 : AllKnown P0 94 a94_2 := allKnown_of tyOK_mk (tabOK_mk named0 _) (ev1_ok) (show knownAll F0 ev1 P0 94 a94_2 = true from by kernel_rfl)
def a208_2 : List (List Value × Value) := [([bs []], .int .i64 3)]
theorem h208_2 : AllKnown P0 208 a208_2 := allKnown_of tyOK_mk (tabOK_mk named0 _) (ev1_ok) (show knownAll F0 ev1 P0 208 a208_2 = true from by kernel_rfl)
def a352_2 : List (List Value × Value) := [([bs [48]], .bool true)]
theorem h352_2 : AllKnown P0 352 a352_2 := allKnown_of tyOK_mk (tabOK_mk named0 _) (ev1_ok) (show knownAll F0 ev1 P0 352 a352_2 = true from by kernel_rfl)
def a189_2 : List (List Value × Value) := [([bs [49]], .tuple #[.int .i64 1, .nilIface]), ([bs [50]], .tuple #[.int .i64 2, .nilIface]), ([bs [48]], .tuple #[.int .i64 0, .nilIface]), ([bs [57]], .tuple #[.int .i64 9, .nilIface]), ([bs [52]], .tuple #[.int .i64 4, .nilIface]), ([bs [49, 48]], .tuple #[.int .i64 10, .nilIface]), ([bs [53]], .tuple #[.int .i64 5, .nilIface]), ([bs [55]], .tuple #[.int .i64 7, .nilIface]), ([bs [56]], .tuple #[.int .i64 8, .nilIface])]
theorem h189_2 : AllKnown P0 189 a189_2 := allKnown_of tyOK_mk (tabOK_mk named0 _) (ev1_ok) (show knownAll F0 ev1 P0 189 a189_2 = true from by kernel_rfl)
def a287_2 : List (List Value × Value) := [([bs [48]], .int .i64 0)]
theorem h287_2 : AllKnown P0 287 a287_2 := allKnown_of tyOK_mk (tabOK_mk named0 _) (ev1_ok) (show knownAll F0 ev1 P0 287 a287_2 = true from by kernel_rfl)
noncomputable def k2 : KTab := (Tr.set (Tr.set (Tr.set (Tr.set (Tr.set (Tr.set (Tr.set (Tr.set (Tr.set (Tr.set (Tr.set (Tr.set .leaf 191 (some a191_1)) 193 (some a193_1)) 143 (some (a143_1 ++ a143_2))) 149 (some a149_1)) 126 (some a126_1)) 59 (some a59_1)) 239 (some a239_1)) 94 (some a94_2)) 208 (some a208_2)) 352 (some a352_2)) 189 (some a189_2)) 287 (some a287_2))
theorem k2_ok : KTab.OK P0 k2 := (KTab.set_ok (KTab.set_ok (KTab.set_ok (KTab.set_ok (KTab.set_ok (KTab.set_ok (KTab.set_ok (KTab.set_ok (KTab.set_ok (KTab.set_ok (KTab.set_ok (KTab.set_ok KTab.none_ok (by kernel_rfl) h191_1) (by kernel_rfl) h193_1) (by kernel_rfl) (h143_1.append h143_2)) (by kernel_rfl) h149_1) (by kernel_rfl) h126_1) (by kernel_rfl) h59_1) (by kernel_rfl) h239_1) (by kernel_rfl) h94_2) (by kernel_rfl) h208_2) (by kernel_rfl) h352_2) (by kernel_rfl) h189_2) (by kernel_rfl) h287_2)
noncomputable def s2 : Sums := kSums k2 s0
theorem s2_ok : SumOK P0 s2 := kSums_ok named0 k2_ok s0_ok
noncomputable def ev2 : EvA := evC F0 s2 100000
theorem ev2_ok : EvOK P0 (mkTr 0 P0.types.toList .leaf) ev2 := ev_ok mix0 named0 s2_ok 100000
end Go.Proofs.YtlbmihpmcgiinaaGreatDoor.Own
