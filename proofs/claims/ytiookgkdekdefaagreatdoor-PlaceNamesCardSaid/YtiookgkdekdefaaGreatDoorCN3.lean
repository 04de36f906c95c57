/-
  THE CLOSED STATEMENT PlaceNames: THE ROW AND THE TIED CARD, PROVED. No condition but the row's own: the listed variables hold what the program's text lays.
-/
import Derived.Test.YtiookgkdekdefaaGreatDoorCN2
namespace Go.Proofs.YtiookgkdekdefaaGreatDoor
open Go.ChangeShapes Go.WideShapes Go.RowKit Go.AE

theorem laidWorld_os (os : Os) : (laidWorld os).os = os := World.layVars_os _ _ _

set_option maxRecDepth 100000 in
theorem placeNames_lifted (os : Os) (started : os.Started) (H : Type) (enc : TypeId × Value → H) :
    ReturnsInHanded {} Tryz.checked os 3 .any (fun w args => (Rows.placeNamesSpec.pre enc Tryz.prog Tryz.f3 [] false w args ∧ laidMetH Tryz.prog laidL w) ∧ sizedMet enc Tryz.prog Tryz.f3 (OpenSpec.ofChange Rows.placeNamesSpec) false w args)
      (Rows.placeNamesSpec.post enc Tryz.prog Tryz.f3 false true false false) := by
  refine returnsInHanded_of_change_open (C := Tryz.checked) (X := fun w _ => laidMetH Tryz.prog laidL w) (fun _ _ _ hh h => h.of_heap hh) Q.own started (by kernel_rfl) Tryz.func3
    (ChangeSpec.witness_shaped (enc := enc) (C := Tryz.checked) (os := os) (X := fun w _ => laidMetH Tryz.prog laidL w) false (laidWorld os) #[] 8 (laidWorld_os os)
      (World.shaped_of_ZipB (by kernel_rfl) (by kernel_rfl)) (by kernel_rfl) (by kernel_rfl) (by kernel_rfl) (laidWorld_met os _)) ?_
  intro W base args ds gs before hs hval0 hW hc _ hL _
  have hW' := hW
  obtain ⟨p, q, hA0, hV, rfl, _, _⟩ := hW
  have hA : DataW.TrodAll enc Tryz.prog W 0 (fun _ => true) true Tryz.f3.params.toList args.toList ds p := hA0
  rw [Tryz.params3] at hA
  obtain ⟨l⟩ := args
  have hl : l = [] ∧ ds = [] := by
    cases l with
    | nil => cases ds with
      | nil => exact ⟨rfl, rfl⟩
      | cons d r => exact absurd hA (by intro h; cases h)
    | cons v r => exact absurd hA (by intro h; cases h)
  obtain ⟨rfl, rfl⟩ := hl
  obtain ⟨rfl, rfl⟩ := trodVars_none hV
  obtain ⟨hH, hg⟩ := start_ok hs hL
  refine (yes_calls O2_ok hH hg .nil rfl kCN).mono fun e W' ⟨he, h1, h2, h3, h4, h5⟩ => ?_
  subst he
  have e1 : Rows.placeNamesSpec.fn H ([] ++ []) = { results := [.lit (.bool true)], args := [] } := rfl
  refine ⟨_, rfl, [], [], _, [], [], [], hW', ?_, ?_, ?_, kept_of_frame h1 h2 h5, fun h => by cases h⟩
  · rw [e1]; exact trodAll_mk1 (shut_bool Tryz.underlying4 true)
  · rw [e1, Tryz.params3]; rfl
  · rfl

end Go.Proofs.YtiookgkdekdefaaGreatDoor
