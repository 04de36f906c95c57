/-
  THE CLOSED STATEMENT PlaceNames: THE ROW AND THE CARD. No condition but the row's own: the listed variables hold what the program's text lays.
-/
import Derived.Test.YtiookgkdekdefaaGreatDoorCN1
import Derived.Test.YtiookgkdekdefaaGreatDoorRows
import Derived.Test.YtiookgkdekdefaaGreatDoorTie
import Derived.Test.YtiookgkdekdefaaGreatDoorCards
import Derived.ChangeSame
import Derived.ChangeVars
import Derived.JoinedOf
import Derived.RowKitTokens
import Derived.LaidHandle
import Derived.Lay
import Derived.SevenTiedAt
import Derived.Stop.Joined
namespace Go.Proofs.YtiookgkdekdefaaGreatDoor
open Go.ChangeShapes Go.WideShapes Go.RowKit Go.AE

abbrev laidL : List (String × DataW Unit) := Rows.placeNamesRow.laid
noncomputable def plainL : List (String × DataW Unit) := [("math/bits.deBruijn32tab", Rows.laid_math_bits_deBruijn32tab), ("math/bits.deBruijn64tab", Rows.laid_math_bits_deBruijn64tab), ("internal/strconv.uint64pow10", Rows.laid_internal_strconv_uint64pow10), ("unicode/utf8.acceptRanges", Rows.laid_unicode_utf8_acceptRanges), ("strconv.ErrRange", Rows.laid_strconv_ErrRange), ("strconv.ErrSyntax", Rows.laid_strconv_ErrSyntax), ("unicode.White_Space", Rows.laid_unicode_White_Space), ("strings.asciiSpace", Rows.laid_strings_asciiSpace), ("bulkhead/scan.classes", Rows.laid_bulkhead_scan_classes), ("unicode/utf8.first", Rows.laid_unicode_utf8_first)]
theorem plain_eq : (laidL.filter fun x => x.2.handleName?.isNone) = plainL := rfl

theorem Q.own : ownKnob Tryz.prog.godebug = none := by kernel_rfl
theorem Q.et : Tryz.prog.globalNamed "errors.errorType" = some 0 := by kernel_rfl
theorem Q.rt : (Tryz.prog.cutTypes.find? (·.1 == "internal/reflectlite.rtype")).map (·.2) = some 205 := by kernel_rfl
theorem Q.size : Tryz.prog.types.size = 374 := by kernel_rfl
theorem Q.oneRow : ((List.range 374).filter fun t => Tryz.prog.rowNamed t [101, 114, 114, 111, 114]) = [71] := by kernel_rfl
theorem Q.glob : Tryz.prog.globals.size = 13 := by kernel_rfl
theorem Q.heap : 13 < (begin Tryz.prog (fun _ _ => 0) default).world.heap.size := by
  have h : Nat.blt 13 (begin Tryz.prog (fun _ _ => 0) default).world.heap.size = true := by kernel_rfl
  rw [Nat.blt_eq] at h; exact h
theorem Q.g1 : Tryz.prog.globalNamed "bulkhead/scan.classes" = some 1 := by kernel_rfl
theorem Q.g2 : Tryz.prog.globalNamed "strings.asciiSpace" = some 2 := by kernel_rfl
theorem Q.g5 : Tryz.prog.globalNamed "internal/strconv.uint64pow10" = some 5 := by kernel_rfl

theorem split_laid {W : World} (h : laidMetH Tryz.prog laidL W) : laidMet Tryz.prog plainL W ∧ handlesMet Tryz.prog [("errors.errorType", Rows.laid_errors_errorType)] W := by
  have e : (laidL.filter fun x => x.2.handleName?.isSome) = [("errors.errorType", Rows.laid_errors_errorType)] := rfl
  unfold laidMetH at h
  rw [e] at h
  exact h

theorem handle_block {W : World} (h : handlesMet Tryz.prog [("errors.errorType", Rows.laid_errors_errorType)] W) : ∃ el fr, W.heap[0]? = some (.cells ⟨[handleV]⟩ el fr) := by
  obtain ⟨name, u, ty, e1, e2, e3, e4, e5⟩ := h _ (List.mem_singleton.2 rfl)
  have en : name = [101, 114, 114, 111, 114] := (Option.some.inj e1).symm
  subst en
  obtain rfl := Option.some.inj (Q.rt.symm.trans e2)
  have hm : ty ∈ (List.range 374).filter fun t => Tryz.prog.rowNamed t [101, 114, 114, 111, 114] := List.mem_filter.2 ⟨List.mem_range.2 (by rw [← Q.size]; exact e3), e4⟩
  rw [Q.oneRow] at hm
  obtain rfl := List.mem_singleton.1 hm
  have hh : typeHandle Tryz.prog 71 = .pointer (some ⟨13, 71, none⟩) := by kernel_rfl
  rw [hh] at e5
  exact var_block Q.et e5

theorem tab1 : (Rows.laid_bulkhead_scan_classes : DataW Unit) = Lib.tabData .u8 zs1 := by kernel_rfl
theorem tab2 : (Rows.laid_strings_asciiSpace : DataW Unit) = Lib.tabData .u8 zs2 := by kernel_rfl
theorem tab5 : (Rows.laid_internal_strconv_uint64pow10 : DataW Unit) = Lib.tabData .u64 zs5 := by kernel_rfl

theorem flat_ints (k : IntKind) (zs : List Int) : (zs.map fun z => Value.int k z).all flat = true := by
  induction zs with
  | nil => rfl
  | cons z zs ih => simp only [List.map_cons, List.all_cons, ih]; rfl

theorem start_ok {W : World} (hs : W.ShapedOpen Tryz.prog) (h : laidMetH Tryz.prog laidL W) : HR (startMu Tryz.prog known0) (startS 100 known0) W ∧ GlobOK Tryz.prog (startMu Tryz.prog known0) := by
  obtain ⟨hp, hh⟩ := split_laid h
  obtain ⟨el0, fr0, b0⟩ := handle_block hh
  obtain ⟨el1, fr1, b1⟩ := tab_block (k := .u8) (zs := zs1) (t := 285) (e := 5) (m := 128) (laid_reads hp (by rw [← tab1]; simp [plainL])) Q.g1 (by kernel_rfl) Tryz.underlying285 Tryz.underlying5 (by kernel_rfl) (by kernel_rfl)
  obtain ⟨el2, fr2, b2⟩ := tab_block (k := .u8) (zs := zs2) (t := 306) (e := 5) (m := 256) (laid_reads hp (by rw [← tab2]; simp [plainL])) Q.g2 (by kernel_rfl) Tryz.underlying306 Tryz.underlying5 (by kernel_rfl) (by kernel_rfl)
  obtain ⟨el5, fr5, b5⟩ := tab_block (k := .u64) (zs := zs5) (t := 315) (e := 36) (m := 20) (laid_reads hp (by rw [← tab5]; simp [plainL])) Q.g5 (by kernel_rfl) Tryz.underlying315 Tryz.underlying36 (by kernel_rfl) (by kernel_rfl)
  have hsz : Tryz.prog.globals.size < W.heap.size := by
    rw [Q.glob]
    exact shaped_size hs (by rw [Q.glob]; exact Nat.le_refl _) Q.heap
  refine start_HR (by rw [Q.glob]; omega) hsz (fun x hx => ?_) (fun x hx => ?_)
  · rw [Q.glob]
    simp only [known0, List.mem_cons, List.mem_nil_iff, or_false] at hx
    rcases hx with rfl | rfl | rfl | rfl <;> simp
  · simp only [known0, List.mem_cons, List.mem_nil_iff, or_false] at hx
    rcases hx with rfl | rfl | rfl | rfl
    · refine ⟨_, el0, fr0, b0, .cons (.iface 205 (.agg (.cons ?_ .nil))) .nil⟩
      have := VR.ptr (μ := startMu Tryz.prog known0) (b := 13) (o := 71) (d := ⟨13, 0, capOf known0 13, 0⟩) (by simp only [startMu, Q.glob]; rfl)
      simpa using this
    · exact ⟨_, el1, fr1, b1, VRs.of_flat _ (flat_ints .u8 zs1)⟩
    · exact ⟨_, el2, fr2, b2, VRs.of_flat _ (flat_ints .u8 zs2)⟩
    · exact ⟨_, el5, fr5, b5, VRs.of_flat _ (flat_ints .u64 zs5)⟩

/-! ## The witness -/
/-- The settled world, the handle's cell laid. -/
noncomputable def handleWorld (os : Os) : World :=
  let w0 := World.holding Tryz.prog os ⟨#[], #[], []⟩
  { w0 with heap := w0.heap.modify 0 fun
      | .cells _ t frozen => .cells #[handleV] t frozen
      | o => o }
noncomputable def laidWorld (os : Os) : World := (handleWorld os).layVars Tryz.prog plainL
theorem laidWorld_plain (os : Os) : laidMet Tryz.prog plainL (laidWorld os) := by
  have e1 : (plainL.filter fun x => (plainL.map (·.1)).contains x.1) = plainL := List.filter_eq_self.2 fun x hx => List.contains_iff_mem.2 (List.mem_map.2 ⟨x, hx, rfl⟩)
  have e2 : (plainL.filter fun x => !(plainL.map (·.1)).contains x.1) = [] := List.filter_eq_nil_iff.2 fun x hx => by rw [List.contains_iff_mem.2 (List.mem_map.2 ⟨x, hx, rfl⟩)]; simp
  exact laidMet_layVars (w0 := handleWorld os) (plainL.map (·.1)) [] (by rw [e1]; rfl) (by rw [e1]; kernel_rfl) (by rw [e1]; kernel_rfl) (by rw [e2]; exact LaidIn.none)
theorem laidWorld_met (os : Os) (args : Array Value) : laidMetH Tryz.prog laidL ((laidWorld os).forCall (fun _ _ => 0) ⟨#[], args, []⟩).memory := by
  refine laidMetH_of_parts ?_ (by kernel_rfl)
  rw [plain_eq]
  exact (laidWorld_plain os).of_heap (by simp [World.memory, World.forCall, Input.heap])
end Go.Proofs.YtiookgkdekdefaaGreatDoor
