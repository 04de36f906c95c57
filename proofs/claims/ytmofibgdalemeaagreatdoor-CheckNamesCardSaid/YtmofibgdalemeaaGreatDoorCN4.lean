/-
  THE CLOSED STATEMENT CheckNames: THE ROW's CLOSED FACTS. No condition but the row's own: the listed variables hold what the program's text lays.
-/
import Derived.Test.YtmofibgdalemeaaGreatDoorCN3
namespace Go.Proofs.YtmofibgdalemeaaGreatDoor
open Go.ChangeShapes Go.WideShapes Go.RowKit Go.AE
theorem checkNames_closed : joinedFacts Tryz.pinned.checked.prog 3 Tryz.f3 Rows.checkNamesSpec Rows.checkNamesRow = true := by kernel_rfl
theorem checkNames_inst : Tryz.f3.isInstance Tryz.pinned.checked.prog Rows.checkNamesRow.origin Rows.checkNamesRow.targs := of_decide_eq_true (by kernel_rfl)
end Go.Proofs.YtmofibgdalemeaaGreatDoor
