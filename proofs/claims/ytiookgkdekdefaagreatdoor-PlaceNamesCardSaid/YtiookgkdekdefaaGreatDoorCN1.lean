/-
  THE CLOSED STATEMENT PlaceNames: the call answers yes, by the evaluator, in the kernel. No condition but the row's own: the listed variables hold what the program's text lays.
-/
import Derived.Test.YtiookgkdekdefaaGreatDoorProg
import Derived.Test.YtiookgkdekdefaaGreatDoorAeRow
import Derived.Test.YtiookgkdekdefaaGreatDoorFx2
import Derived.KernelRfl
namespace Go.Proofs.YtiookgkdekdefaaGreatDoor
open Go.AE
def zs1 : List Int := [0, 0, 0, 0, 0, 0, 0, 0, 0, 1, 1, 0, 0, 1, 0, 0, 0, 0, 0, 0, 0, 0, 0, 0, 0, 0, 0, 0, 0, 0, 0, 0, 1, 6, 5, 2, 0, 6, 6, 0, 6, 6, 6, 6, 6, 6, 6, 6, 3, 3, 3, 3, 3, 3, 3, 3, 3, 3, 0, 6, 6, 6, 6, 0, 0, 4, 4, 4, 4, 4, 4, 4, 4, 4, 4, 4, 4, 4, 4, 4, 4, 4, 4, 4, 4, 4, 4, 4, 4, 4, 4, 6, 0, 6, 6, 4, 0, 4, 4, 4, 4, 4, 4, 4, 4, 4, 4, 4, 4, 4, 4, 4, 4, 4, 4, 4, 4, 4, 4, 4, 4, 4, 4, 6, 6, 6, 0, 0]
def zs5 : List Int := [1, 10, 100, 1000, 10000, 100000, 1000000, 10000000, 100000000, 1000000000, 10000000000, 100000000000, 1000000000000, 10000000000000, 100000000000000, 1000000000000000, 10000000000000000, 100000000000000000, 1000000000000000000, 10000000000000000000]
def handleV : Value := .iface 205 (.agg #[.pointer (some ⟨13, 71, none⟩)])
noncomputable def known0 : List (Nat × List Value) := [(0, [handleV]), (1, zs1.map fun z => .int .u8 z), (2, zs2.map fun z => .int .u8 z), (5, zs5.map fun z => .int .u64 z)]
theorem kCN : yes 100 ((eval Tryz.prog O2 3000).call 3 [] (startS 100 known0)) = true := by kernel_rfl
end Go.Proofs.YtiookgkdekdefaaGreatDoor
