/- THE EVALUATOR, a part: what an evaluator of loaded programs answers the model's machine answers. No condition. -/
import Derived.Test.YtiookgkdekdefaaGreatDoorAeHeap
namespace Go.AE

variable {P : Program} {μ : Mu} {w : World}

/-! ## Runs of the model's small words -/
theorem run_und {t : TypeId} {d : TypeDesc} (h : P.underlying t = some d) : (underlying t).run P w = .ok d w := by
  simp [underlying, h]
theorem run_info {t : TypeId} {i : TypeInfo} (h : P.info? t = some i) : (typeInfo t).run P w = .ok i w := by
  simp [typeInfo, h]
theorem run_size {t : TypeId} {n : Nat} (h : size P t = some n) : (sizeOf t).run P w = .ok n w := by
  unfold size at h
  cases e : P.info? t with
  | none => simp [e] at h
  | some i => simp only [e, Option.some.injEq] at h; subst h; simp [sizeOf, run_info e]
theorem run_isAgg {t : TypeId} {b : Bool} (h : AE.isAgg P t = some b) : (Go.isAgg t).run P w = .ok b w := by
  unfold AE.isAgg at h
  cases e : P.underlying t with
  | none => simp [e] at h
  | some d =>
    simp only [e] at h
    simp only [Go.isAgg, Sem.run_bind, run_und e, Result.andThen_ok]
    split at h <;> simp_all
theorem sval_run {α : Type} (s : Sem α) (w : World) : ∀ {a : α}, sval P s = some a → s.run P w = .ok a w := by
  induction s generalizing w with
  | pure a => intro b h; simp only [sval, Option.some.injEq] at h; subst h; rfl
  | program k ih => intro b h; exact ih P w h
  | mark m k ih => intro b h; exact ih w h
  | _ => intro b h; simp [sval] at h

theorem add_none (b o m : Nat) : (⟨b, o, none⟩ : Addr).add m = ⟨b, o + m, none⟩ := by
  unfold Addr.add; split
  · rename_i h; subst h; rfl
  · rfl

theorem cell_list {b o : Nat} {l : List Value} {el : TypeId} {fr : Nat × Nat} (h : w.heap[b]? = some (.cells ⟨l⟩ el fr)) : w.cell? ⟨b, o, none⟩ = l[o]? := by
  simp [World.cell?, h]

theorem loadFrom {b o : Nat} {l : List Value} {el : TypeId} {fr : Nat × Nat} (h : w.heap[b]? = some (.cells ⟨l⟩ el fr)) :
    ∀ (n i : Nat) (acc : Array Value), o + i + n ≤ l.length → (loadCellsFrom ⟨b, o, none⟩ i n acc).run P w = .ok (acc ++ ⟨(l.drop (o + i)).take n⟩) w := by
  intro n
  induction n with
  | zero => intro i acc _; simp [loadCellsFrom]
  | succ n ih =>
    intro i acc hl
    have hc : w.cell? ⟨b, o + i, none⟩ = some l[o + i] := by rw [cell_list h, List.getElem?_eq_getElem (by omega)]
    simp only [loadCellsFrom, Sem.run_bind, add_none, run_load, hc, Result.andThen_ok]
    rw [ih (i + 1) _ (by omega)]
    congr 1
    rw [List.drop_eq_getElem_cons (by omega : o + i < l.length)]
    simp [Nat.add_assoc]
theorem loadCells_run {b o n : Nat} {l : List Value} {el : TypeId} {fr : Nat × Nat} (h : w.heap[b]? = some (.cells ⟨l⟩ el fr)) (hl : o + n ≤ l.length) :
    (loadCells ⟨b, o, none⟩ n).run P w = .ok ⟨(l.drop o).take n⟩ w := by
  unfold loadCells
  rw [loadFrom h n 0 #[] (by omega)]
  simp

/-! ## Operands -/
/-- The package's variables lie where they lie. -/
def GlobOK (P : Program) (μ : Mu) : Prop := ∀ g, g ≤ P.globals.size → ∃ d, μ g = some d ∧ d.blk = g ∧ d.off = 0
theorem GlobOK.mono {P : Program} {μ ν : Mu} (h : GlobOK P μ) (s : Sub μ ν) : GlobOK P ν := fun g k => let ⟨d, a, b⟩ := h g k; ⟨d, s _ _ a, b⟩

theorem opd_sound {E : T Value} {tmps : Array Value} {dfs : List Deferred} (hE : ER μ E tmps) (x : Operand) (hg : GlobOK P μ) {v : Value} (h : (opd P x).run E = some v) :
    ∃ v', Act.eval ⟨tmps, dfs⟩ x = v' ∧ VR μ v v' := by
  cases x with
  | tmp t =>
    obtain ⟨v', a, b⟩ := hE t v h
    exact ⟨v', by simp [Act.eval, Array.getD_eq_getD_getElem?, a], b⟩
  | const u =>
    simp only [opd, cond_eq] at h
    split at h
    · simp only [Option.some.injEq] at h; subst h; rename_i hf; exact ⟨_, rfl, VR.of_flat1 μ hf⟩
    · cases h
  | global g =>
    simp only [opd, cond_eq] at h
    split at h
    · rename_i hlt
      rw [Nat.blt_eq] at hlt
      simp only [Option.some.injEq] at h; subst h
      obtain ⟨d, a, b, c⟩ := hg g (Nat.le_of_lt hlt)
      have := VR.ptr (μ := μ) (b := g) (o := 0) a
      rw [b, c] at this
      exact ⟨_, rfl, this⟩
    · cases h
  | func f =>
    simp only [opd, Option.some.injEq] at h; subst h
    exact ⟨_, rfl, .func (fn := .func f) trivial .nil .nil⟩

/-! ## Pieces of memory, read -/
theorem seg_load {d : Wd} {vs : List Value} {ro : Bool} (h : CellsAt μ w d vs ro) {o n : Nat} {r : List Value} (e : seg vs o n = some r) :
    ∃ r', (∀ w' : World, w'.heap[d.blk]? = w.heap[d.blk]? → (loadCells ⟨d.blk, d.off + o, none⟩ n).run P w' = .ok ⟨r'⟩ w') ∧ VRs μ r r' := by
  obtain ⟨pre, mid, post, el, fr, h1, h2, h3, h4, h5, h6⟩ := h
  obtain ⟨a, b, c⟩ := h3.seg e
  by_cases hn : n = 0
  · subst hn
    refine ⟨[], fun w' _ => by simp [loadCells, loadCellsFrom], ?_⟩
    have : r = [] := by simpa using c
    subst this; exact .nil
  · have hm := h3.length
    have hmn : o + n ≤ mid.length := by
      rw [b] at c; simp only [List.length_take, List.length_drop] at c; omega
    refine ⟨_, fun w' hw => loadCells_run (by rw [hw]; exact h1) (by simp only [List.length_append]; omega), ?_⟩
    have : ((pre ++ (mid ++ post)).drop (d.off + o)).take n = (mid.drop o).take n := by
      rw [← h2, List.drop_append, List.drop_of_length_le (by omega : pre.length ≤ pre.length + o), List.nil_append]
      rw [show pre.length + o - pre.length = o by omega, List.drop_append_of_le_length (by omega), List.take_append_of_le_length (by simp; omega)]
    rw [this]; exact a

theorem cell_load {d : Wd} {vs : List Value} {ro : Bool} (h : CellsAt μ w d vs ro) {o : Nat} {v : Value} (e : vs[o]? = some v) :
    ∃ v', (∀ w' : World, w'.heap[d.blk]? = w.heap[d.blk]? → w'.cell? ⟨d.blk, d.off + o, none⟩ = some v') ∧ VR μ v v' := by
  obtain ⟨pre, mid, post, el, fr, h1, h2, h3, h4, h5, h6⟩ := h
  obtain ⟨v', a, b⟩ := h3.nth e
  refine ⟨v', fun w' hw => ?_, b⟩
  rw [cell_list (by rw [hw]; exact h1), ← h2, List.getElem?_append_right (by omega), show pre.length + o - pre.length = o by omega]
  have : o < mid.length := by rcases Nat.lt_or_ge o mid.length with h | h; exact h; rw [List.getElem?_eq_none h] at a; cases a
  rw [List.getElem?_append_left this]; exact a

/-- A type's shape is what the model's 'isAgg' and 'sizeOf' say. -/
theorem shape_one {t : TypeId} (h : shapeOf P t = .one) : AE.isAgg P t = some false := by
  unfold shapeOf at h; split at h
  · split at h <;> cases h
  · assumption
  · cases h
theorem shape_many {t : TypeId} {n : Nat} (h : shapeOf P t = .many n) : AE.isAgg P t = some true ∧ size P t = some n := by
  unfold shapeOf at h; split at h
  · split at h
    · cases h; exact ⟨by assumption, by assumption⟩
    · cases h
  · cases h
  · cases h

theorem loadAt_sound {s : S} (hH : HR μ s w) {t : TypeId} {a : Addr} {a' : Addr} {v : Value} (r : VR μ (.pointer (some a)) (.pointer (some a'))) (h : loadAt (shapeOf P t) a s = some v) :
    ∃ v' d, VR μ v v' ∧ μ a.block = some d ∧ ∀ w' : World, w'.heap[d.blk]? = w.heap[d.blk]? → (Go.loadVar t a').run P w' = .ok v' w' := by
  unfold loadAt at h
  split at h
  · cases h
  · rename_i hsp
    split at h
    · rename_i vs e ro hget
      cases r with
      | @ptr b o d hd =>
        obtain ⟨hesz, hc⟩ := hH.obj _ _ _ hget hd
        split at h
        · rename_i hs
          rw [nth_eq] at h
          obtain ⟨v', c1, c2⟩ := cell_load hc h
          refine ⟨v', d, c2, hd, fun w' hw => ?_⟩
          simp only [Go.loadVar, Sem.run_bind, run_isAgg (shape_one hs), Result.andThen_ok, Bool.false_eq_true, if_false, run_load, c1 w' hw]
        · rename_i n hs
          split at h
          · rename_i l hseg
            cases h
            obtain ⟨r', c1, c2⟩ := seg_load (P := P) hc hseg
            refine ⟨.agg ⟨r'⟩, d, .agg c2, hd, fun w' hw => ?_⟩
            obtain ⟨q1, q2⟩ := shape_many hs
            simp only [Go.loadVar, Sem.run_bind, run_isAgg q1, Result.andThen_ok, if_true, run_size q2, c1 w' hw, Sem.run_pure]
          · cases h
        · cases h
    · cases h

theorem partAt_sound {t : TypeId} {cs cs' : List Value} {off : Nat} {v : Value} (r : VRs μ cs cs') (h : partAt (shapeOf P t) cs off = some v) :
    ∃ v', (∀ w : World, (Go.part t ⟨cs'⟩ off).run P w = .ok v' w) ∧ VR μ v v' := by
  unfold partAt at h
  split at h
  · rename_i hs
    rw [nth_eq] at h
    obtain ⟨v', a, b⟩ := r.nth h
    refine ⟨v', fun w => ?_, b⟩
    simp only [Go.part, Sem.run_bind, run_isAgg (shape_one hs), Result.andThen_ok, Bool.false_eq_true, if_false]
    have : (⟨cs'⟩ : Array Value)[off]? = some v' := by simpa using a
    rw [this]; rfl
  · rename_i n hs
    split at h
    · rename_i l hseg
      cases h
      obtain ⟨a, b, c⟩ := r.seg hseg
      obtain ⟨q1, q2⟩ := shape_many hs
      refine ⟨.agg ⟨(cs'.drop off).take n⟩, fun w => ?_, .agg a⟩
      simp only [Go.part, Sem.run_bind, run_isAgg q1, Result.andThen_ok, if_true, run_size q2, Sem.run_pure]
      congr 2
      apply Array.ext'
      simp [List.extract_eq_take_drop]
    · cases h
  · cases h

/-! ## Arithmetic -/
theorem wrapF_eq (k : IntKind) (n : Int) : wrapF k n = k.wrap n := by
  unfold wrapF
  split
  · rw [cond_eq]
    split
    · rename_i h
      unfold inI64 at h
      split at h
      · rename_i m
        have : m < 9223372036854775808 := by simpa [Nat.blt_eq] using h
        simp only [IntKind.wrap, IntKind.bits, IntKind.signed]
        simp; omega
      · rename_i m
        have : m < 9223372036854775808 := by simpa [Nat.blt_eq] using h
        simp only [IntKind.wrap, IntKind.bits, IntKind.signed, Int.negSucc_eq]
        simp; omega
    · rfl
  · rw [cond_eq]
    split
    · rename_i h
      unfold inU64 at h
      split at h
      · rename_i m
        have : m < 18446744073709551616 := by simpa [Nat.blt_eq] using h
        simp only [IntKind.wrap, IntKind.bits, IntKind.signed]
        simp; omega
      · cases h
    · rfl
  · rfl
theorem blt_dec (a b : Nat) : Nat.blt a b = decide (a < b) := by
  rw [Bool.eq_iff_iff, decide_eq_true_iff, ← Nat.blt_eq]
theorem beq_dec (a b : Nat) : Nat.beq a b = decide (a = b) := by
  rw [Bool.eq_iff_iff, decide_eq_true_iff]; exact ⟨Nat.eq_of_beq_eq_true, fun h => by subst h; exact Nat.beq_refl a⟩
theorem ble_dec (a b : Nat) : Nat.ble a b = decide (a ≤ b) := by
  rw [Bool.eq_iff_iff, decide_eq_true_iff]; exact ⟨Nat.le_of_ble_eq_true, Nat.ble_eq_true_of_le⟩
theorem ltI_eq (a b : Int) : ltI a b = decide (a < b) := by
  unfold ltI
  split
  · rw [blt_dec, Bool.eq_iff_iff]; simp
  · simp; omega
  · simp; omega
  · rw [blt_dec, Bool.eq_iff_iff]; simp [Int.negSucc_eq]
theorem eqI_eq (a b : Int) : eqI a b = (a == b) := by
  unfold eqI
  split
  · rw [beq_dec, Bool.eq_iff_iff]; simp; omega
  · rw [beq_dec, Bool.eq_iff_iff]; simp [Int.negSucc_eq]; omega
  · rename_i h1 h2
    cases a <;> cases b
    · exact absurd rfl (h1 _ _ rfl)
    all_goals first | rfl | (exact absurd rfl (h2 _ _ rfl))
theorem eqK_eq {j k : IntKind} (h : eqK j k = true) : j = k := by
  unfold eqK at h; split at h <;> first | rfl | cases h

theorem intBin_sound {op : BinOp} {t : TypeId} {x y : Operand} {k : IntKind} {a b : Int} {v : Value} (h : intBin op k a b = some v) :
    (eqGuard op t x y (.int k a) (.int k b)).run P w = .ok () w ∧ (binOp op t (.int k a) (.int k b)).run P w = .ok v w := by
  cases op <;> simp only [intBin, Option.some.injEq] at h <;> first | cases h | skip
  all_goals
    refine ⟨by simp [eqGuard], ?_⟩
    simp only [binOp, ne_eq, not_true_eq_false, if_false, Op.intArith, Op.intCmp, wrapF_eq, ltI_eq, eqI_eq, Sem.run_pure]
    try rfl
  all_goals
    congr 2
    rw [Bool.eq_iff_iff]; simp

end Go.AE
