/- THE EVALUATOR, a part: what an evaluator of loaded programs answers the model's machine answers. No condition. -/
import Derived.Test.YtiookgkdekdefaaGreatDoorAeOps3
namespace Go.AE

variable {P : Program} {μ : Mu} {w : World}

theorem one_cell {v : Value} (h : one v = true) : v.oneCell' = true := by cases v <;> simp_all [one, Value.oneCell']

/-- A world that differs in one block alone. -/
structure Same1 (w w' : World) (b : Nat) : Prop where
  size : w'.heap.size = w.heap.size
  other : ∀ k, k ≠ b → w'.heap[k]? = w.heap[k]?
  os : w'.os = w.os
  tape : w'.tape = w.tape
  output : w'.output = w.output
theorem Same1.refl (w : World) (b : Nat) : Same1 w w b := ⟨rfl, fun _ _ => rfl, rfl, rfl, rfl⟩
theorem Same1.trans {a b c : World} {k : Nat} (h : Same1 a b k) (g : Same1 b c k) : Same1 a c k :=
  ⟨g.size.trans h.size, fun i hi => (g.other i hi).trans (h.other i hi), g.os.trans h.os, g.tape.trans h.tape, g.output.trans h.output⟩
theorem Same1.setCell (w : World) (a : Addr) (v : Value) : Same1 w (w.setCell a v) a.block :=
  ⟨by simp [World.setCell], fun k hk => by simp only [World.setCell, Array.getElem?_modify]; rw [if_neg (by omega)], rfl, rfl, rfl⟩

theorem setCell_block {b o : Nat} {l : List Value} {el : TypeId} {fr : Nat × Nat} {v : Value} (h : w.heap[b]? = some (.cells ⟨l⟩ el fr)) :
    (w.setCell ⟨b, o, none⟩ v).heap[b]? = some (.cells ⟨l.set o v⟩ el fr) := by
  have hlt : b < w.heap.size := by
    rcases Nat.lt_or_ge b w.heap.size with h' | h'
    · exact h'
    · rw [Array.getElem?_eq_none h'] at h; cases h
  simp only [World.setCell, Array.getElem?_modify]
  simp only [if_true, h, Option.map_some]
  simp

theorem setSeg_cons : ∀ (l : List Value) (n : Nat) (v : Value) (r : List Value), n < l.length → setSeg (l.set n v) (n + 1) r = setSeg l n (v :: r)
  | [], _, _, _, h => by simp at h
  | x :: l, 0, v, r, _ => by
    simp only [List.set_cons_zero, setSeg]
    
  | x :: l, n + 1, v, r, h => by
    simp only [List.set_cons_succ, setSeg]
    rw [setSeg_cons l n v r (by simpa using h)]
theorem setSeg_nil : ∀ (l : List Value) (n : Nat), setSeg l n [] = l
  | [], _ => rfl
  | _ :: _, 0 => rfl
  | x :: l, n + 1 => by simp [setSeg, setSeg_nil l n]

theorem storeRun {b o : Nat} {el : TypeId} {fr : Nat × Nat} (vs : List Value) : ∀ (w : World) (l : List Value) (i : Nat), w.heap[b]? = some (.cells ⟨l⟩ el fr) →
    o + i + vs.length ≤ l.length → (∀ k, o + i ≤ k → k < o + i + vs.length → ¬ (fr.1 ≤ k ∧ k < fr.2)) → vs.all one = true →
    ∃ w', (Go.storeCells ⟨b, o, none⟩ vs i).run P w = .ok () w' ∧ w'.heap[b]? = some (.cells ⟨setSeg l (o + i) vs⟩ el fr) ∧ Same1 w w' b := by
  induction vs with
  | nil => intro w l i h _ _ _; exact ⟨w, by simp [Go.storeCells], by rw [setSeg_nil]; exact h, Same1.refl w b⟩
  | cons v vs ih =>
    intro w l i h hl hf ho
    simp only [List.all_cons, Bool.and_eq_true] at ho
    simp only [List.length_cons] at hl hf
    have hc : w.cell? ⟨b, o + i, none⟩ = some l[o + i] := by rw [cell_list h, List.getElem?_eq_getElem (by omega)]
    have hfz : w.frozen? ⟨b, o + i, none⟩ = false := by
      simp only [World.frozen?, h]
      have := hf (o + i) (by omega) (by omega)
      simp only [Bool.and_eq_false_iff, decide_eq_false_iff_not]
      omega
    have h1 := setCell_block (o := o + i) (v := v) h
    obtain ⟨w', r1, r2, r3⟩ := ih (w.setCell ⟨b, o + i, none⟩ v) (l.set (o + i) v) (i + 1) h1 (by rw [List.length_set]; omega) (fun k k1 k2 => hf k (by omega) (by omega)) ho.2
    refine ⟨w', ?_, ?_, (Same1.setCell w ⟨b, o + i, none⟩ v).trans r3⟩
    · simp only [Go.storeCells, Sem.run_bind, add_none]
      rw [run_store P w _ v _ (one_cell ho.1)]
      simp only [hc, hfz, Bool.false_eq_true, if_false, Result.andThen_ok]
      exact r1
    · rw [r2]
      rw [show o + (i + 1) = o + i + 1 by omega, setSeg_cons l (o + i) v vs (by omega)]

theorem setSeg_app (pre : List Value) : ∀ (l : List Value) (n : Nat) (x : List Value), setSeg (pre ++ l) (pre.length + n) x = pre ++ setSeg l n x := by
  induction pre with
  | nil => intro l n x; simp
  | cons p pre ih => intro l n x; simp only [List.cons_append, List.length_cons]; rw [show pre.length + 1 + n = (pre.length + n) + 1 by omega]; simp [setSeg, ih]
theorem setSeg_app_left : ∀ (l post : List Value) (n : Nat) (x : List Value), n + x.length ≤ l.length → setSeg (l ++ post) n x = setSeg l n x ++ post
  | [], post, n, x, h => by
    have : x = [] := by cases x <;> simp_all
    subst this; rw [setSeg_nil, setSeg_nil]
  | v :: l, post, n + 1, x, h => by simp only [List.cons_append, setSeg]; rw [setSeg_app_left l post n x (by simp at h; omega)]
  | v :: l, post, 0, [], h => by rw [setSeg_nil, setSeg_nil]
  | v :: l, post, 0, y :: x, h => by simp only [List.cons_append, setSeg]; rw [setSeg_app_left l post 0 x (by simp at h; omega)]

theorem storeCells_sound {s s' : S} (hH : HR μ s w) {a : Addr} {d : Wd} (hd : μ a.block = some d) {l l' : List Value} (rl : VRs μ l l') (h : AE.storeCells a l s = some s') :
    ∃ w', (Go.storeCells ⟨d.blk, d.off + a.off, none⟩ l').run P w = .ok () w' ∧ HR μ s' w' ∧ Ext μ s w [a.block] μ s' w' := by
  unfold AE.storeCells at h
  split at h
  · cases h
  · split at h
    · rename_i vs e hget
      rw [cond_eq] at h
      split at h
      · rename_i hle
        rw [ble_dec, decide_eq_true_eq] at hle
        rw [cond_eq] at h
        split at h
        · rename_i hone
          cases h
          obtain ⟨hesz, pre, mid, post, el, fr, c1, c2, c3, c4, c5, c6⟩ := hH.obj _ _ _ hget hd
          have hml := c3.length
          have hll := rl.length
          obtain ⟨w', r1, r2, r3⟩ := storeRun (P := P) (b := d.blk) (o := d.off + a.off) l' w _ 0 c1 (by simp; omega) (fun k k1 k2 => c6 rfl k (by omega)) (rl.one hone)
          refine ⟨w', r1, ?_⟩
          have hOR : OR μ w' d (.cells (setSeg vs a.off l) e false) := by
            refine ⟨hesz, pre, setSeg mid a.off l', post, el, fr, ?_, c2, c3.setSeg a.off rl, by rw [setSeg_length]; exact c4, by rw [setSeg_length]; exact c5, by rw [setSeg_length]; exact c6⟩
            rw [r2, ← c2, Nat.add_zero, setSeg_app, setSeg_app_left _ _ _ _ (by omega)]
          exact hH.upd hget rfl (by intro e; cases e) hd hOR rfl r3.size (fun b hb => r3.other b hb) r3.os r3.tape r3.output
        · cases h
      · cases h
    · cases h

theorem storeAt_sound {s s' : S} (hH : HR μ s w) {t : TypeId} {n : Nat} (hn : size P t = some n) {a : Addr} {a' : Addr} {v v' : Value} (ra : VR μ (.pointer (some a)) (.pointer (some a'))) (rv : VR μ v v')
    (h : AE.storeAt n a v s = some s') :
    ∃ w', (Go.storeVar t a' v').run P w = .ok () w' ∧ HR μ s' w' ∧ Ext μ s w [a.block] μ s' w' := by
  unfold AE.storeAt at h
  simp only [cond_eq] at h
  split at h
  · rename_i hl
    have hl := Nat.eq_of_beq_eq_true hl
    cases ra with
    | @ptr b o d hd =>
      obtain ⟨w', r1, r2, r3⟩ := storeCells_sound (P := P) hH (a := ⟨b, o, none⟩) hd rv.cells h
      refine ⟨w', ?_, r2, r3⟩
      have hll := rv.cells.length
      simp only [Go.storeVar, Sem.run_bind, run_size hn, Result.andThen_ok]
      rw [if_neg (by simp only [ne_eq, Decidable.not_not]; rw [← Array.length_toList]; omega)]
      exact r1
  · cases h

/-! ## New objects -/
theorem HR.newCells {s : S} (h : HR μ s w) {vs vs' : List Value} (extra : List Value) (el : TypeId) (esz : Nat) (r : VRs μ vs vs') :
    let d : Wd := ⟨w.heap.size, 0, vs'.length + extra.length, esz⟩
    HR (μ.set s.next d) (s.new (.cells vs esz false)) { w with heap := w.heap.push (.cells ⟨vs' ++ extra⟩ el) } ∧
    Ext μ s w [] (μ.set s.next d) (s.new (.cells vs esz false)) { w with heap := w.heap.push (.cells ⟨vs' ++ extra⟩ el) } := by
  intro d
  refine h.new _ _ d rfl ⟨rfl, [], vs', extra, el, (0, 0), ?_, rfl, r.mono (Mu.sub_set h.fresh), Nat.le_refl _, Nat.le_add_right _ _, fun _ k _ hk => by simp at hk⟩
  simp [d]

theorem zero_flat {t : TypeId} {z : Value} (h : zero P t = some z) : (zeroValue t).run P w = .ok z w ∧ flat1 z = true := by
  unfold zero at h
  cases e : P.info? t with
  | none => simp [e] at h
  | some i =>
    simp only [e] at h
    unfold zeroI at h
    split at h
    · rename_i z' hz
      rw [cond_eq] at h; split at h
      · cases h; exact ⟨by simp [zeroValue, run_info e, hz], by assumption⟩
      · cases h
    · cases h

/-- A new variable. -/
theorem newVar_sound {s : S} (h : HR μ s w) {v v' : Value} (el : TypeId) (esz : Nat) (r : VR μ v v') :
    ∃ μ' w', (newVar el v').run P w = .ok ⟨w.heap.size, 0, none⟩ w' ∧ VR μ' (.pointer (some ⟨s.next, 0, none⟩)) (.pointer (some ⟨w.heap.size, 0, none⟩)) ∧
      HR μ' (s.new (.cells v.cells.toList esz false)) w' ∧ Ext μ s w [] μ' (s.new (.cells v.cells.toList esz false)) w' := by
  obtain ⟨a, b⟩ := h.newCells [] el esz r.cells
  refine ⟨_, _, ?_, ?_, a, b⟩
  · simp only [newVar, newRow, Sem.run_bind, run_newObj, Result.andThen_ok, Sem.run_pure, List.append_nil]
  · exact VR.ptr (o := 0) (Mu.set_self _ _ _)

end Go.AE
