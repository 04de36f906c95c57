/- THE EVALUATOR, a part: what an evaluator of loaded programs answers the model's machine answers. No condition. -/
import Derived.Test.YtiookgkdekdefaaGreatDoorAeOps6
namespace Go.AE

variable {P : Program} {μ : Mu} {w : World}

/-- Parts with their places, pairwise. -/
inductive PRs (μ : Mu) : List (Nat × Value) → List (Nat × Value) → Prop
  | nil : PRs μ [] []
  | cons {i : Nat} {v v' : Value} {l l' : List (Nat × Value)} : VR μ v v' → PRs μ l l' → PRs μ ((i, v) :: l) ((i, v') :: l')

theorem foldl_set (off : Nat) (l : List Value) : ∀ (c : Array Value) (k : Nat), off + k + l.length ≤ c.size →
    ((l.zipIdx k).foldl (fun (cs : Array Value) (x : Value × Nat) => cs.setIfInBounds (off + x.2) x.1) c).toList = setSeg c.toList (off + k) l := by
  induction l with
  | nil => intro c k _; simp [setSeg_nil]
  | cons v l ih =>
    intro c k h
    simp only [List.zipIdx_cons, List.foldl_cons]
    rw [ih _ (k + 1) (by simp at *; omega)]
    simp only [Array.toList_setIfInBounds]
    rw [show off + (k + 1) = (off + k) + 1 by omega, setSeg_cons _ _ _ _ (by simp at *; omega)]

theorem fill_sound {pl pl' : Nat → Option (Nat × Nat)} (hp : ∀ i, pl i = pl' i) : ∀ {parts parts' : List (Nat × Value)} {cells cells' : List Value} {r : List Value}, PRs μ parts parts' → VRs μ cells cells' →
    fillL pl cells parts = some r → ∃ r', Instr.fill pl' ⟨cells'⟩ parts' = some ⟨r'⟩ ∧ VRs μ r r'
  | _, _, _, cells', _, .nil, rc, h => by simp only [fillL, Option.some.injEq] at h; subst h; exact ⟨cells', rfl, rc⟩
  | _, _, cells, cells', r, .cons (i := i) (v := v) (v' := v') (l' := l') rv rp, rc, h => by
    simp only [fillL] at h
    split at h
    · cases h
    · rename_i off sz hpl
      simp only [cond_eq] at h
      split at h
      · rename_i hc
        simp only [Bool.and_eq_true, beq_dec, ble_dec, decide_eq_true_eq] at hc
        have hvl := rv.cells.length
        have hcl := rc.length
        obtain ⟨r', e1, e2⟩ := fill_sound hp rp (rc.setSeg off rv.cells) h
        refine ⟨r', ?_, e2⟩
        simp only [Instr.fill, ← hp, hpl]
        rw [if_neg (by
          simp only [Bool.or_eq_true, decide_eq_true_eq, ne_eq, List.size_toArray]
          rw [← Array.length_toList]; omega)]
        rw [← e1]
        congr 1
        apply Array.ext'
        rw [← Array.foldl_toList, Array.toList_zipIdx]
        have := foldl_set off v'.cells.toList ⟨cells'⟩ 0 (by simp; rw [← Array.length_toList]; omega)
        simpa using this
      · cases h

theorem places_run : ∀ {fs : List Field} {ps : List (Nat × Nat)}, placesOf P fs = some ps →
    (fs.mapM fun f => (do pure (f.offset, ← sizeOf f.type) : Sem (Nat × Nat))).run P w = .ok ps w
  | [], ps, h => by simp only [placesOf, Option.some.injEq] at h; subst h; simp
  | f :: fs, ps, h => by
    simp only [placesOf] at h
    split at h
    · rename_i n hn
      split at h
      · rename_i r hr
        cases h
        have ih := places_run hr
        simp only [List.mapM_cons, Sem.run_bind, run_size hn, Result.andThen_ok, Sem.run_pure, ih]
      · cases h
    · cases h

theorem flat_cells {z : Value} (h : flat1 z = true) : VRs μ z.cells.toList z.cells.toList := (VR.of_flat1 μ h).cells

theorem build_sound {s s' : S} {t : TypeId} {parts parts' : List (Nat × Value)} {v : Value} (rp : PRs μ parts parts') (h : (build P t).run parts s = some (v, s')) :
    s' = s ∧ ∃ v', (∀ w : World, (Instr.build t ⟨parts'⟩).run P w = .ok v' w) ∧ VR μ v v' := by
  unfold build at h
  split at h
  · rename_i z hz
    have hz1 := fun w : World => (zero_flat (w := w) hz).1
    have hz2 := (zero_flat (w := default) hz).2
    split at h
    · rename_i fields hu
      split at h
      · rename_i ps hps
        simp only at h
        split at h
        · rename_i cs hcs
          cases h
          obtain ⟨r', e1, e2⟩ := fill_sound (pl' := fun i => (⟨ps⟩ : Array (Nat × Nat))[i]?) (fun i => by rw [nth_eq]; simp) rp (flat_cells hz2) hcs
          refine ⟨rfl, .agg ⟨r'⟩, fun w => ?_, .agg e2⟩
          have e3 : Instr.fill (fun i => (⟨ps⟩ : Array (Nat × Nat))[i]?) z.cells parts' = some ⟨r'⟩ := e1
          simp only [Instr.build, Sem.run_bind, hz1, Result.andThen_ok, run_und hu, Array.mapM_eq_mapM_toList, Sem.run_map, places_run hps, e3, Sem.run_pure]
        · cases h
      · cases h
    · rename_i n elem hu
      split at h
      · rename_i sz hsz
        simp only at h
        split at h
        · rename_i cs hcs
          cases h
          obtain ⟨r', e1, e2⟩ := fill_sound (fun i => rfl) rp (flat_cells hz2) hcs
          refine ⟨rfl, .agg ⟨r'⟩, fun w => ?_, .agg e2⟩
          have e3 : Instr.fill (fun i => some (i * sz, sz)) z.cells parts' = some ⟨r'⟩ := e1
          simp only [Instr.build, Sem.run_bind, hz1, Result.andThen_ok, run_und hu, run_size hsz, e3, Sem.run_pure]
        · cases h
      · cases h
    · cases h
  · cases h

theorem rep_range (z : List Value) (n : Nat) (hz : z ≠ []) : rep z n = (List.range (n * z.length)).map fun i => z[i % z.length]! := by
  induction n with
  | zero => simp [rep]
  | succ n ih =>
    have hpos : 0 < z.length := List.length_pos_iff.2 hz
    rw [rep, ih, Nat.succ_mul, Nat.add_comm (n * z.length), List.range_add, List.map_append]
    congr 1
    · apply List.ext_getElem (by simp)
      intro i h1 h2
      simp only [List.getElem_map, List.getElem_range]
      rw [Nat.mod_eq_of_lt h1, getElem!_pos z i h1]
    · rw [List.map_map]
      apply List.map_congr_left
      intro i _
      simp

theorem VRs.rep {z z' : List Value} (h : VRs μ z z') : ∀ n, VRs μ (rep z n) (rep z' n)
  | 0 => .nil
  | n + 1 => h.append (VRs.rep h n)
theorem rep_length (z : List Value) : ∀ n, (rep z n).length = n * z.length
  | 0 => by simp [rep]
  | n + 1 => by simp [rep, rep_length z n, Nat.succ_mul, Nat.add_comm]

theorem elemInfo_some {t : TypeId} {info : TypeInfo} (h : elemInfo P t = some info) : ∃ e, P.underlying t = some (.slice e) ∧ P.info? e = some info := by
  unfold elemInfo at h
  split at h
  · exact ⟨_, by assumption, h⟩
  · cases h
theorem zeroI_some {i : TypeInfo} {z : Value} (h : zeroI i = some z) : i.zero = some z ∧ flat1 z = true := by
  unfold zeroI at h
  split at h
  · rw [cond_eq] at h; split at h
    · cases h; exact ⟨by assumption, by assumption⟩
    · cases h
  · cases h

theorem range_cells (z : Array Value) (n sz : Nat) (hz : z.toList.length = sz) (hs : 0 < sz) : ((Array.range (n * sz)).map (fun i => z[i % z.size]!)).toList = rep z.toList n := by
  have hne : z.toList ≠ [] := by intro e; rw [e] at hz; simp at hz; omega
  rw [rep_range _ _ hne, hz]
  simp only [Array.toList_map, Array.toList_range]
  apply List.map_congr_left
  intro i _
  have : z.size = sz := by rw [← hz]; simp
  rw [this]
  simp [← Array.getElem!_toList]

theorem buildSlice_sound {s s' : S} (hH : HR μ s w) {t : TypeId} {len : Nat} {parts parts' : List (Nat × Value)} {v : Value} (rp : PRs μ parts parts') (h : (buildSlice P t len).run parts s = some (v, s')) :
    ∃ v' μ' w', (Instr.buildSlice t len ⟨parts'⟩).run P w = .ok v' w' ∧ VR μ' v v' ∧ HR μ' s' w' ∧ Ext μ s w [] μ' s' w' := by
  unfold buildSlice at h
  split at h
  · rename_i info hinfo
    obtain ⟨e, hu, hi⟩ := elemInfo_some hinfo
    split at h
    · rename_i z hz
      obtain ⟨hz1, hz2⟩ := zeroI_some hz
      simp only [cond_eq] at h
      split at h
      · rename_i hc
        simp only [Bool.and_eq_true, beq_dec, ble_dec, blt_dec, decide_eq_true_eq] at hc
        obtain ⟨⟨hc1, hc2⟩, hc3⟩ := hc
        simp only at h
        split at h
        · rename_i cs hcs
          cases h
          have hsz : size P e = some info.size := by simp [size, hi]
          obtain ⟨r', e1, e2⟩ := fill_sound (fun i => rfl) rp ((flat_cells hz2).rep len) hcs
          have hlen : r'.length = len * info.size := by
            have a1 := e2.length
            have a2 : cs.length = (rep z.cells.toList len).length := by
              clear e1 e2 a1
              have : ∀ (parts : List (Nat × Value)) (c r : List Value), fillL (fun i => some (i * info.size, info.size)) c parts = some r → r.length = c.length := by
                intro parts
                induction parts with
                | nil => intro c r h; simp only [fillL, Option.some.injEq] at h; rw [h]
                | cons p ps ih =>
                  intro c r h
                  obtain ⟨i, u⟩ := p
                  simp only [fillL, cond_eq] at h
                  split at h
                  · rw [ih _ _ h, setSeg_length]
                  · cases h
              exact this _ _ _ hcs
            rw [a1, a2, rep_length, hc3]
          obtain ⟨k1, k2⟩ := hH.newCells [] e info.size e2
          refine ⟨.slice (some ⟨w.heap.size, 0, none⟩) len len, _, _, ?_, ?_, k1, k2⟩
          rotate_left
          · refine VR.slice (o := 0) (d := ⟨w.heap.size, 0, r'.length + ([] : List Value).length, info.size⟩) (Mu.set_self _ _ _) (Nat.le_refl _) (Nat.le_refl _) ?_
            show 0 + len * info.size ≤ r'.length + 0
            omega
          · have hcells : (Array.range (len * info.size)).map (fun i => z.cells[i % z.cells.size]!) = ⟨rep z.cells.toList len⟩ := by
              apply Array.ext'; exact range_cells z.cells len info.size hc3 hc2
            have hzv : (zeroValue e).run P w = .ok z w := by simp [zeroValue, run_info hi, hz1]
            simp only [Instr.buildSlice, Sem.run_bind, run_und hu, Result.andThen_ok, run_size hsz]
            rw [if_neg (by omega)]
            by_cases hl0 : len * info.size = 0
            · have hl1 : len = 0 := by rcases Nat.mul_eq_zero.1 hl0 with h | h; exact h; omega
              subst hl1
              simp only [Nat.zero_mul, if_true, pure_bind]
              have hr0 : (Array.range 0).map (fun i => (#[] : Array Value)[i % (#[] : Array Value).size]!) = ⟨rep z.cells.toList 0⟩ := by apply Array.ext'; simp [rep]
              simp only [hr0, e1, newRow, Sem.run_bind, run_newObj, Result.andThen_ok, Sem.run_pure, List.append_nil]
            · simp only [hl0, if_false, Sem.run_bind, hzv, Result.andThen_ok, Sem.run_pure, hcells, e1, newRow, run_newObj, List.append_nil]
        · cases h
      · cases h
    · cases h
  · cases h

theorem makeSlice_sound {s s' : S} (hH : HR μ s w) {t : TypeId} {l l' c c' v : Value} (rl : VR μ l l') (rc : VR μ c c') (h : makeSlice (elemInfo P t) l c s = some (v, s')) :
    ∃ v' μ' w', (Instr.makeSlice t l' c').run P w = .ok v' w' ∧ VR μ' v v' ∧ HR μ' s' w' ∧ Ext μ s w [] μ' s' w' := by
  unfold makeSlice at h
  split at h
  · rename_i info hinfo
    obtain ⟨e, hu, hi⟩ := elemInfo_some hinfo
    split at h
    · rename_i nl nc z hnl hnc hz
      obtain ⟨hz1, hz2⟩ := zeroI_some hz
      obtain ⟨k1, rfl⟩ := toNat?_sound rl hnl
      obtain ⟨k2, rfl⟩ := toNat?_sound rc hnc
      rw [cond_eq] at h
      split at h
      · rename_i hcnd
        simp only [Bool.and_eq_true, beq_dec, ble_dec, blt_dec, decide_eq_true_eq, bound] at hcnd
        obtain ⟨⟨⟨h1, h2⟩, h3⟩, h4⟩ := hcnd
        cases h
        have hsz : size P e = some info.size := by simp [size, hi]
        obtain ⟨q1, q2⟩ := hH.newCells [] e info.size ((flat_cells (μ := μ) hz2).rep nc)
        refine ⟨.slice (some ⟨w.heap.size, 0, none⟩) nl nc, _, _, ?_, ?_, q1, q2⟩
        rotate_left
        · refine VR.slice (o := 0) (d := ⟨w.heap.size, 0, (rep z.cells.toList nc).length + ([] : List Value).length, info.size⟩) (Mu.set_self _ _ _) h1 (Nat.le_refl _) ?_
          show 0 + nc * info.size ≤ (rep z.cells.toList nc).length + 0
          rw [rep_length, h4]; omega
        · have hcells : (Array.range (nc * info.size)).map (fun i => z.cells[i % z.cells.size]!) = ⟨rep z.cells.toList nc⟩ := by
            apply Array.ext'; exact range_cells z.cells nc info.size h4 h3
          have hzv : (zeroValue e).run P w = .ok z w := by simp [zeroValue, run_info hi, hz1]
          have hmul : nc * (info.bytes + info.size + 1) = nc * info.bytes + nc * info.size + nc := by rw [Nat.mul_add, Nat.mul_add, Nat.mul_one]
          have hcm : info.bytes * nc = nc * info.bytes := Nat.mul_comm _ _
          have w1 : IntKind.i64.wrap (Int.ofNat nc) = Int.ofNat nc := by
            simp [IntKind.wrap, IntKind.bits, IntKind.signed]; omega
          have w2 : IntKind.i64.wrap (Int.ofNat nl) = Int.ofNat nl := by
            simp [IntKind.wrap, IntKind.bits, IntKind.signed]; omega
          have hcm2 : ((info.bytes : Nat) : Int) * Int.ofNat nc = ((nc * info.bytes : Nat) : Int) := by
            rw [← hcm]; simp
          simp only [Instr.makeSlice, Sem.run_bind, run_und hu, Result.andThen_ok, asInt, asIntOf, pure_bind, run_info hi, w1, w2]
          rw [if_neg (by
            simp only [Bool.or_eq_true, decide_eq_true_eq, hcm2]
            simp only [Int.ofNat_eq_natCast]
            omega)]
          simp only [Sem.run_bind, run_askRoom, Result.andThen_ok, run_size hsz, Int.ofNat_eq_natCast, Int.toNat_natCast]
          by_cases hl0 : nc * info.size = 0
          · have hl1 : nc = 0 := by rcases Nat.mul_eq_zero.1 hl0 with h | h; exact h; omega
            subst hl1
            have hr0 : (Array.range 0).map (fun i => (#[] : Array Value)[i % (#[] : Array Value).size]!) = ⟨rep z.cells.toList 0⟩ := by apply Array.ext'; simp [rep]
            simp only [Nat.zero_mul, if_true, hr0, newRow, Sem.run_bind, run_newObj, Result.andThen_ok, Sem.run_pure, List.append_nil]
          · simp only [hl0, if_false, Sem.run_bind, hzv, Result.andThen_ok, Sem.run_pure, hcells, newRow, run_newObj, List.append_nil]
      · cases h
    · cases h
  · cases h

end Go.AE
