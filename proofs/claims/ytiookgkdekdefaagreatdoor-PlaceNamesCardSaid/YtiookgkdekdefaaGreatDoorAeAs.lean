/- THE EVALUATOR, beside it: calls that the kit has proved, as oracles: new blocks that nobody knows, one cell stored. No condition. -/
import Derived.Test.YtiookgkdekdefaaGreatDoorAeEval
import Derived.Laws.World
namespace Go.AE
variable {P : Program} {μ : Mu} {w : World}

/-- A new block that no object names. -/
theorem HR.alloc {s : S} (h : HR μ s w) (ob : Obj) : HR μ s (w.alloc ob) ∧ Ext μ s w [] μ s (w.alloc ob) := by
  have hold : ∀ b, b < w.heap.size → (w.alloc ob).heap[b]? = w.heap[b]? := fun b hb => by simp only [World.alloc]; rw [Array.getElem?_push, if_neg (by omega)]
  have hsz : (w.alloc ob).heap.size = w.heap.size + 1 := World.size_alloc ..
  refine ⟨⟨fun id o d e m => (h.obj id o d e m).keep (Sub.refl μ) (hold _ (h.dom _ _ m).2), h.lt, h.sep, fun id d m => ⟨(h.dom id d m).1, by have := (h.dom id d m).2; omega⟩⟩, ?_⟩
  refine ⟨Sub.refl μ, (fun id d a m => by rw [a] at m; cases m), Nat.le_refl _, rfl, (fun b hb _ => hold b hb), by omega, (fun _ h => by cases h), (fun id _ o e => ⟨o, e, rfl⟩), (fun _ _ _ => rfl), (fun _ h => by cases h), (fun b hb => ?_), rfl, rfl, rfl⟩
  have : b < w.heap.size := by
    rcases Nat.lt_or_ge b w.heap.size with h | h
    · exact h
    · rw [Array.getElem?_eq_none h] at hb; cases hb
  rw [hold b this]; exact hb

/-- One cell, stored. -/
theorem store_one {s s' : S} (hH : HR μ s w) {a a' : Addr} {v v' : Value} (ra : VR μ (.pointer (some a)) (.pointer (some a'))) (rv : VR μ v v') (hv : one v = true)
    (h : AE.storeAt 1 a v s = some s') :
    ∃ old, w.cell? a' = some old ∧ w.frozen? a' = false ∧ HR μ s' (w.setCell a' v') ∧ Ext μ s w [a.block] μ s' (w.setCell a' v') := by
  have hcells : v.cells.toList = [v] ∧ v'.cells.toList = [v'] := by
    have hv' := one_of rv hv
    constructor
    · cases v <;> simp_all [Value.cells, one]
    · cases v' <;> simp_all [Value.cells, one]
  unfold AE.storeAt at h
  simp only [hcells.1, cond_eq] at h
  simp only [show ([v] : List Value).length.beq 1 = true from rfl, if_true] at h
  cases ra with
  | @ptr b o d hd =>
    have h0 := h
    have hfacts : ∃ old, w.cell? ⟨d.blk, d.off + o, none⟩ = some old ∧ w.frozen? ⟨d.blk, d.off + o, none⟩ = false := by
      unfold AE.storeCells at h
      simp only at h
      split at h
      · rename_i vs e hget
        rw [cond_eq] at h
        split at h
        · rename_i hle
          rw [ble_dec, decide_eq_true_eq] at hle
          simp only [List.length_cons, List.length_nil, Nat.zero_add] at hle
          obtain ⟨hesz, pre, mid, post, el, fr, c1, c2, c3, c4, c5, c6⟩ := hH.obj _ _ _ hget hd
          have hml := c3.length
          have hlt : d.off + o < (pre ++ (mid ++ post)).length := by simp; omega
          refine ⟨(pre ++ (mid ++ post))[d.off + o], by rw [cell_list c1, List.getElem?_eq_getElem hlt], ?_⟩
          have := c6 rfl (d.off + o) (by simp at hlt; omega)
          simp only [World.frozen?, c1, Bool.and_eq_false_iff, decide_eq_false_iff_not]
          omega
        · cases h
      · cases h
    obtain ⟨old, f1, f2⟩ := hfacts
    obtain ⟨w', r1, r2, r3⟩ := storeCells_sound (P := default) hH (a := ⟨b, o, none⟩) hd (l := [v]) (l' := [v']) (.cons rv .nil) h0
    have hw : w' = w.setCell ⟨d.blk, d.off + o, none⟩ v' := by
      have hv' := one_of rv hv
      simp only [Go.storeCells, Sem.run_bind, add_none, Nat.add_zero] at r1
      rw [run_store default w _ v' _ (one_cell hv')] at r1
      simp only [f1, f2, Bool.false_eq_true, if_false, Result.andThen_ok, Sem.run_pure] at r1
      injection r1 with _ r1
      exact r1.symm
    subst hw
    exact ⟨old, f1, f2, r2, r3⟩

theorem Calls.to {f : FuncId} {args : Array Value} {v : Value} {w1 : World} (h : Calls P f args w fun e w' => e = .returned v ∧ w' = w1) : CallsTo P f args w v w1 := by
  intro cs
  obtain ⟨e, w', fr, ⟨rfl, rfl⟩, h1, h2, h3⟩ := h cs
  exact ⟨fr, h1, h2, h3⟩
theorem CallsTo.calls {f : FuncId} {args : Array Value} {v : Value} {w1 : World} {R : Ending → World → Prop} (h : CallsTo P f args w v w1) (r : R (.returned v) w1) : Calls P f args w R := by
  intro cs
  obtain ⟨fr, h1, h2, h3⟩ := h cs
  exact ⟨_, _, fr, r, h1, h2, h3⟩
end Go.AE
