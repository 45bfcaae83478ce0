/- Answers that were reckoned before: level 6. -/
import Derived.Test.YtlbmihpmcgiinaaGreatDoorMemo5
open Go Go.Proofs Go.Proofs.YtlbmihpmcgiinaaGreatDoor.Own
set_option maxRecDepth 100000
namespace Go.Proofs.YtlbmihpmcgiinaaGreatDoor.Own
def a336_6 : List (List Value × Value) := [([bs [50]], .int .i64 0), ([bs [49]], .int .i64 0), ([bs [48]], .int .i64 0), ([bs [57]], .int .i64 0)]
theorem h336_6 : AllKnown P0 336 a336_6 := allKnown_of tyOK_mk (tabOK_mk named0 _) (ev5_ok) (show knownAll F0 ev5 P0 336 a336_6 = true from by kernel_rfl)
def a376_6 : List (List Value × Value) := [([bs [49], bs [50], bs [49], bs [49]], .tuple #[bs [50], bs [49], .int .i64 0]), ([bs [48], bs [50], bs [49], bs [49]], .tuple #[bs [48], bs [49], .int .i64 0])]
theorem h376_6 : AllKnown P0 376 a376_6 := allKnown_of tyOK_mk (tabOK_mk named0 _) (ev5_ok) (show knownAll F0 ev5 P0 376 a376_6 = true from by kernel_rfl)
def a378_6 : List (List Value × Value) := [([bs [49]], .tuple #[.int .i64 1, .int .i64 0])]
theorem h378_6 : AllKnown P0 378 a378_6 := allKnown_of tyOK_mk (tabOK_mk named0 _) (ev5_ok) (show knownAll F0 ev5 P0 378 a378_6 = true from by kernel_rfl)
def a120_6 : List (List Value × Value) := [([bs [50], bs [49]], .tuple #[bs [50], .int .i64 0]), ([bs [49], bs [49]], .tuple #[bs [49], .int .i64 0]), ([bs [48], bs [49]], .tuple #[bs [48], .int .i64 0]), ([bs [57], bs [50]], .tuple #[bs [52], .int .i64 0]), ([bs [45, 50], bs [50]], .tuple #[bs [45, 49], .int .i64 0]), ([bs [45, 52], bs [45, 49]], .tuple #[bs [52], .int .i64 0]), ([bs [45, 49, 48], bs [50]], .tuple #[bs [45, 53], .int .i64 0]), ([bs [50], bs [50]], .tuple #[bs [49], .int .i64 0]), ([bs [53], bs [49]], .tuple #[bs [53], .int .i64 0])]
theorem h120_6 : AllKnown P0 120 a120_6 := allKnown_of tyOK_mk (tabOK_mk named0 _) (ev5_ok) (show knownAll F0 ev5 P0 120 a120_6 = true from by kernel_rfl)
def a119_6 : List (List Value × Value) := [([bs [52]], .tuple #[bs [45, 52], .int .i64 0]), ([bs [45, 53]], .tuple #[bs [53], .int .i64 0])]
theorem h119_6 : AllKnown P0 119 a119_6 := allKnown_of tyOK_mk (tabOK_mk named0 _) (ev5_ok) (show knownAll F0 ev5 P0 119 a119_6 = true from by kernel_rfl)
def a40_6 : List (List Value × Value) := [([bs [45, 49], bs [48]], .int .i64 (-1)), ([bs [48], bs [55]], .int .i64 (-1)), ([bs [45, 49], bs [49]], .int .i64 (-1)), ([bs [48], bs [49]], .int .i64 (-1)), ([bs [55], bs [49]], .int .i64 1), ([bs [45, 49], bs [56]], .int .i64 (-1)), ([bs [48], bs [56]], .int .i64 (-1)), ([bs [55], bs [56]], .int .i64 (-1))]
theorem h40_6 : AllKnown P0 40 a40_6 := allKnown_of tyOK_mk (tabOK_mk named0 _) (ev5_ok) (show knownAll F0 ev5 P0 40 a40_6 = true from by kernel_rfl)
noncomputable def k6 : KTab := (Tr.set (Tr.set (Tr.set (Tr.set (Tr.set (Tr.set (Tr.set (Tr.set (Tr.set (Tr.set (Tr.set (Tr.set (Tr.set (Tr.set (Tr.set (Tr.set (Tr.set (Tr.set (Tr.set (Tr.set (Tr.set (Tr.set (Tr.set (Tr.set (Tr.set .leaf 191 (some a191_1)) 193 (some a193_1)) 143 (some (a143_1 ++ a143_2))) 149 (some a149_1)) 126 (some a126_1)) 59 (some (a59_1 ++ a59_4))) 239 (some a239_1)) 94 (some a94_2)) 208 (some (a208_2 ++ a208_5))) 352 (some (a352_2 ++ a352_5))) 189 (some a189_2)) 287 (some (a287_2 ++ a287_5))) 76 (some a76_3)) 251 (some a251_5)) 324 (some a324_5)) 66 (some a66_5)) 165 (some a165_5)) 164 (some a164_5)) 78 (some a78_5)) 336 (some a336_6)) 376 (some a376_6)) 378 (some a378_6)) 120 (some a120_6)) 119 (some a119_6)) 40 (some a40_6))
theorem k6_ok : KTab.OK P0 k6 := (KTab.set_ok (KTab.set_ok (KTab.set_ok (KTab.set_ok (KTab.set_ok (KTab.set_ok (KTab.set_ok (KTab.set_ok (KTab.set_ok (KTab.set_ok (KTab.set_ok (KTab.set_ok (KTab.set_ok (KTab.set_ok (KTab.set_ok (KTab.set_ok (KTab.set_ok (KTab.set_ok (KTab.set_ok (KTab.set_ok (KTab.set_ok (KTab.set_ok (KTab.set_ok (KTab.set_ok (KTab.set_ok KTab.none_ok (by kernel_rfl) h191_1) (by kernel_rfl) h193_1) (by kernel_rfl) (h143_1.append h143_2)) (by kernel_rfl) h149_1) (by kernel_rfl) h126_1) (by kernel_rfl) (h59_1.append h59_4)) (by kernel_rfl) h239_1) (by kernel_rfl) h94_2) (by kernel_rfl) (h208_2.append h208_5)) (by kernel_rfl) (h352_2.append h352_5)) (by kernel_rfl) h189_2) (by kernel_rfl) (h287_2.append h287_5)) (by kernel_rfl) h76_3) (by kernel_rfl) h251_5) (by kernel_rfl) h324_5) (by kernel_rfl) h66_5) (by kernel_rfl) h165_5) (by kernel_rfl) h164_5) (by kernel_rfl) h78_5) (by kernel_rfl) h336_6) (by kernel_rfl) h376_6) (by kernel_rfl) h378_6) (by kernel_rfl) h120_6) (by kernel_rfl) h119_6) (by kernel_rfl) h40_6)
noncomputable def s6 : Sums := kSums k6 s0
theorem s6_ok : SumOK P0 s6 := kSums_ok named0 k6_ok s0_ok
noncomputable def ev6 : EvA := evC F0 s6 100000
theorem ev6_ok : EvOK P0 (mkTr 0 P0.types.toList .leaf) ev6 := ev_ok mix0 named0 s6_ok 100000
end Go.Proofs.YtlbmihpmcgiinaaGreatDoor.Own
