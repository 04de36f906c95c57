/-
  THE CLOSED STATEMENT CheckNames: THE ROW, PROVED. No condition but the row's own: the listed variables hold what the program's text lays.
-/
import Derived.Test.YtmofibgdalemeaaGreatDoorCN4
namespace Go.Proofs.YtmofibgdalemeaaGreatDoor
open Go.ChangeShapes Go.WideShapes Go.RowKit Go.AE
theorem checkNames_holds : Rows.CheckNamesSaid :=
  OpenClaim.holds_of_wide 3 Tryz.f3 rfl rfl rfl rfl rfl rfl rfl ⟨rfl, rfl, rfl, rfl, rfl⟩ rfl rfl rfl rfl rfl (by kernel_rfl) Tryz.func3 checkNames_closed
    checkNames_inst (by unfold Func.isWrapper; first | (rw [if_pos (by decide +kernel)]; kernel_rfl) | (rw [if_neg (by decide +kernel)]; exact ⟨rfl, rfl⟩))
    (fun os started H enc _ => checkNames_lifted os started H enc)
#print axioms checkNames_holds
end Go.Proofs.YtmofibgdalemeaaGreatDoor
