/- Chapter 39: awake() on the heap of the listed variables. -/
import Derived.Test.YtlbmihpmcgiinaaGreatDoorMemo9
import Derived.Test.YtlbmihpmcgiinaaGreatDoorSum
open Go Go.Proofs Go.Proofs.YtlbmihpmcgiinaaGreatDoor.Own
set_option maxRecDepth 100000
namespace Go.Proofs.YtlbmihpmcgiinaaGreatDoor.Own

def reservedL : List Value := [bs [97, 110, 100], bs [97, 114, 114, 97, 121], bs [97, 115, 115, 101, 114, 116], bs [97, 115, 115, 117, 109, 101], bs [101, 108, 115, 101], bs [101, 110, 115, 117, 114, 101, 115], bs [102, 97, 108, 115, 101], bs [105, 102], bs [105, 109, 112, 111, 114, 116], bs [105, 110, 112, 117, 116], bs [110, 111, 116], bs [111, 114], bs [112, 114, 111, 99], bs [114, 101, 99, 111, 114, 100], bs [114, 101, 113, 117, 105, 114, 101, 115], bs [114, 101, 116, 117, 114, 110, 115], bs [116, 114, 117, 101], bs [118, 97, 114], bs [119, 104, 105, 108, 101]]
def operandsL : List Value := [.int .i64 0, .int .i64 0, .int .i64 1, .int .i64 2, .int .i64 2, .int .i64 2, .int .i64 2, .int .i64 2]
/-- The listed variables that are read; the element types of their blocks are not known. -/
def tr0 (e0 e1 e2 : TypeId) : Tr AObj := Tr.set (Tr.set (Tr.set .leaf 0 (some (.cells [.slice (some ⟨21, 0, none⟩) 19 19] e0 true 0))) 2 (some (.cells operandsL e1 true 0))) 21 (some (.cells reservedL e2 true 1))
def H0 (e0 e1 e2 : TypeId) : AH := ⟨tr0 e0 e1 e2, 22, 22, []⟩
noncomputable def sA : Sums := sums1 71 (sumKeysG 23) s9
noncomputable def evA : EvA := evC F0 sA 100000
def isTrue (x : Option (Value × AH)) : Bool := match x with | some (.bool true, _) => true | _ => false
theorem awake_true (e0 e1 e2 : TypeId) : isTrue (callFn F0 evA [] 9 [] (H0 e0 e1 e2)) = true := by kernel_rfl

end Go.Proofs.YtlbmihpmcgiinaaGreatDoor.Own
