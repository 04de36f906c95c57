/-
  THE CLOSED STATEMENT PlaceNames: THE ROW's CLOSED FACTS. No condition but the row's own: the listed variables hold what the program's text lays.
-/
import Derived.Test.YtiookgkdekdefaaGreatDoorCN3
namespace Go.Proofs.YtiookgkdekdefaaGreatDoor
open Go.ChangeShapes Go.WideShapes Go.RowKit Go.AE
theorem placeNames_closed : joinedFacts Tryz.pinned.checked.prog 3 Tryz.f3 Rows.placeNamesSpec Rows.placeNamesRow = true := by kernel_rfl
theorem placeNames_inst : Tryz.f3.isInstance Tryz.pinned.checked.prog Rows.placeNamesRow.origin Rows.placeNamesRow.targs := of_decide_eq_true (by kernel_rfl)
end Go.Proofs.YtiookgkdekdefaaGreatDoor
