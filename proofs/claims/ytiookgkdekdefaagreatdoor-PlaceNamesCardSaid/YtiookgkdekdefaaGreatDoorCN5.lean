/-
  THE CLOSED STATEMENT PlaceNames: THE ROW, PROVED. No condition but the row's own: the listed variables hold what the program's text lays.
-/
import Derived.Test.YtiookgkdekdefaaGreatDoorCN4
namespace Go.Proofs.YtiookgkdekdefaaGreatDoor
open Go.ChangeShapes Go.WideShapes Go.RowKit Go.AE
theorem placeNames_holds : Rows.PlaceNamesSaid :=
  OpenClaim.holds_of_wide 3 Tryz.f3 rfl rfl rfl rfl rfl rfl rfl ⟨rfl, rfl, rfl, rfl, rfl⟩ rfl rfl rfl rfl rfl (by kernel_rfl) Tryz.func3 placeNames_closed
    placeNames_inst (by unfold Func.isWrapper; first | (rw [if_pos (by decide +kernel)]; kernel_rfl) | (rw [if_neg (by decide +kernel)]; exact ⟨rfl, rfl⟩))
    (fun os started H enc _ => placeNames_lifted os started H enc)
#print axioms placeNames_holds
end Go.Proofs.YtiookgkdekdefaaGreatDoor
