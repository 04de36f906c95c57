/-
  THE CLOSED STATEMENT CheckNames: THE TIED CARD, PROVED: for every input the law returns true. No condition but the row's own: the listed variables hold what the program's text lays.
-/
import Derived.Test.YtmofibgdalemeaaGreatDoorCN5
namespace Go.Proofs.YtmofibgdalemeaaGreatDoor
open Go.ChangeShapes Go.WideShapes Go.RowKit Go.AE
/-- THE TIED CARD. -/
theorem checkNames_card : Rows.CheckNamesCardSaid :=
  Claim7.holds_tied_plain_at .later [] [.data, .data, .data, .data, .handle, .sentinel, .sentinel, .listed, .data, .data, .pinned] true (true, "7fb5843ee9e3136dd4bbd4959686fd24e95b37bf423b456a225af9e71996691f") true
    checkNames_holds (fun _ h => by cases h) (by kernel_rfl) (fun _ h => by cases h) checkNames_row_tie rfl ⟨rfl, rfl⟩ (by kernel_rfl) rfl
    (fun f fn hf hfn => by
      obtain rfl : f = 3 := Option.some.inj ((show Tryz.prog.funcNamed "bulkhead/bulkheadlaw10.CheckNames" = some 3 by kernel_rfl).symm.trans hf) |>.symm
      obtain rfl : fn = Tryz.f3 := (Option.some.inj (Tryz.func3.symm.trans hfn)).symm
      exact ⟨by kernel_rfl, fun j t ht => by
        rw [Tryz.params3] at ht
        simp at ht⟩)
    (by kernel_rfl)
#print axioms checkNames_card
end Go.Proofs.YtmofibgdalemeaaGreatDoor
