/-
  THE CLOSED STATEMENT PlaceNames: THE TIED CARD, PROVED: for every input the law returns true. No condition but the row's own: the listed variables hold what the program's text lays.
-/
import Derived.Test.YtiookgkdekdefaaGreatDoorCN5
namespace Go.Proofs.YtiookgkdekdefaaGreatDoor
open Go.ChangeShapes Go.WideShapes Go.RowKit Go.AE
/-- THE TIED CARD. -/
theorem placeNames_card : Rows.PlaceNamesCardSaid :=
  Claim7.holds_tied_plain_at .later [] [.data, .data, .data, .data, .handle, .sentinel, .sentinel, .listed, .data, .data, .pinned] true (true, "90f8e354be453936e5adbd2ec62a6ba666260d54f167b25fbb0c4508882b4c3a") true
    placeNames_holds (fun _ h => by cases h) (by kernel_rfl) (fun _ h => by cases h) placeNames_row_tie rfl ⟨rfl, rfl⟩ (by kernel_rfl) rfl
    (fun f fn hf hfn => by
      obtain rfl : f = 3 := Option.some.inj ((show Tryz.prog.funcNamed "bulkhead/bulkheadlaw11.PlaceNames" = some 3 by kernel_rfl).symm.trans hf) |>.symm
      obtain rfl : fn = Tryz.f3 := (Option.some.inj (Tryz.func3.symm.trans hfn)).symm
      exact ⟨by kernel_rfl, fun j t ht => by
        rw [Tryz.params3] at ht
        simp at ht⟩)
    (by kernel_rfl)
#print axioms placeNames_card
end Go.Proofs.YtiookgkdekdefaaGreatDoor
