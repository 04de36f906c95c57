/- THE EVALUATOR, a part: what an evaluator of loaded programs answers the model's machine answers. No condition. -/
import Derived.Test.YtiookgkdekdefaaGreatDoorAeOps4
namespace Go.AE

variable {P : Program} {μ : Mu} {w : World}

theorem S.move_H (s : S) (id : Nat) (o : AO) : (s.move id o).H = (s.H.del id).set s.next o := by cases s; rfl
theorem S.move_next (s : S) (id : Nat) (o : AO) : (s.move id o).next = s.next + 1 := by cases s; rfl
theorem S.move_log (s : S) (id : Nat) (o : AO) : (s.move id o).log = id :: s.log := by cases s; rfl

/-- An object goes, another comes in its place (or elsewhere). -/
theorem HR.move {s : S} {w' : World} (h : HR μ s w) {id : Nat} {o0 o : AO} {d d' : Wd} (e0 : s.H.get id = some o0) (hro : o0.ro = false) (hdf : o0 ≠ .deferred)
    (hd : μ id = some d) (hblk : d'.blk = d.blk ∨ w.heap.size ≤ d'.blk) (hlt : d'.blk < w'.heap.size) (hO : OR (μ.set s.next d') w' d' o)
    (hsz : w.heap.size ≤ w'.heap.size) (hfr : ∀ b, b < w.heap.size → b ≠ d.blk → w'.heap[b]? = w.heap[b]?)
    (hos : w'.os = w.os) (ht : w'.tape = w.tape) (hout : w'.output = w.output) :
    HR (μ.set s.next d') (s.move id o) w' ∧ Ext μ s w [id] (μ.set s.next d') (s.move id o) w' := by
  have hs := Mu.sub_set (d := d') h.fresh
  have hget : ∀ i o1, (s.move id o).H.get i = some o1 → (i = s.next ∧ o1 = o) ∨ (i ≠ s.next ∧ i ≠ id ∧ s.H.get i = some o1) := by
    intro i o1 e
    rw [S.move_H, T.get_set] at e
    by_cases hi : s.next = i
    · rw [if_pos hi] at e; cases e; exact .inl ⟨hi.symm, rfl⟩
    · rw [if_neg hi, T.get_del] at e
      by_cases hj : id = i
      · rw [if_pos hj] at e; cases e
      · rw [if_neg hj] at e; exact .inr ⟨fun e => hi e.symm, fun e => hj e.symm, e⟩
  have apart : ∀ i o1 d1, i ≠ id → s.H.get i = some o1 → μ i = some d1 → d1.blk ≠ d.blk := by
    intro i o1 d1 hi e1 m1 hb
    have := (h.sep id i _ _ _ _ (fun e => hi e.symm) e0 e1 hd m1 hb.symm).1
    rw [hro] at this; cases this
  have hmu : ∀ i di, (μ.set s.next d') i = some di → i ≠ s.next → μ i = some di := by
    intro i di m hi
    unfold Mu.set at m; rw [if_neg hi] at m; exact m
  have hnd := (h.obj _ _ _ e0 hd).not_deferred hdf
  refine ⟨⟨?_, ?_, ?_, ?_⟩, ⟨hs, ?_, ?_, ?_, ?_, hsz, ?_, ?_, ?_, ?_, ?_, hos, ht, hout⟩⟩
  · intro i o1 d1 e m
    rcases hget i o1 e with ⟨rfl, rfl⟩ | ⟨h1, h2, h3⟩
    · rw [Mu.set_self] at m; cases m; exact hO
    · have a := hmu _ _ m h1
      exact (h.obj _ _ _ h3 a).keep hs (hfr _ (h.dom _ _ a).2 (apart i o1 d1 h2 h3 a))
  · intro i o1 e
    rw [S.move_next]
    rcases hget i o1 e with ⟨rfl, rfl⟩ | ⟨h1, h2, h3⟩
    · omega
    · have := h.lt _ _ h3; omega
  · intro i j oi oj di dj hij ei ej mi mj hb
    rcases hget i oi ei with ⟨rfl, rfl⟩ | ⟨a1, a2, a3⟩
    · rcases hget j oj ej with ⟨rfl, rfl⟩ | ⟨b1, b2, b3⟩
      · exact absurd rfl hij
      · rw [Mu.set_self] at mi; cases mi
        have c := hmu _ _ mj b1
        have := apart j oj _ b2 b3 c
        have := (h.dom _ _ c).2
        rcases hblk with hb2 | hb2 <;> omega
    · have c := hmu _ _ mi a1
      rcases hget j oj ej with ⟨rfl, rfl⟩ | ⟨b1, b2, b3⟩
      · rw [Mu.set_self] at mj; cases mj
        have := apart i oi _ a2 a3 c
        have := (h.dom _ _ c).2
        rcases hblk with hb2 | hb2 <;> omega
      · exact h.sep i j _ _ _ _ hij a3 b3 c (hmu _ _ mj b1) hb
  · intro i d1 e
    rw [S.move_next]
    unfold Mu.set at e
    by_cases hi : i = s.next
    · rw [if_pos hi] at e; cases e; omega
    · rw [if_neg hi] at e; have := h.dom _ _ e; omega
  · intro i d1 a b
    unfold Mu.set at b
    by_cases hi : i = s.next
    · rw [if_pos hi] at b; cases b
      refine ⟨by omega, ?_⟩
      rcases hblk with hb | hb
      · exact .inr ⟨id, by simp, d, hd, hb.symm⟩
      · exact .inl hb
    · rw [if_neg hi, a] at b; cases b
  · rw [S.move_next]; omega
  · rw [S.move_log]; rfl
  · intro b hb hn; exact hfr b hb fun e => hn id (by simp) d hd e.symm
  · intro i hi _; simp only [List.mem_singleton] at hi; subst hi; exact ⟨o0, e0, hro⟩
  · intro i hlt o1 e
    rcases hget i o1 e with ⟨rfl, rfl⟩ | ⟨_, _, h3⟩
    · omega
    · exact ⟨o1, h3, rfl⟩
  · intro i hlt hn
    simp only [List.mem_singleton] at hn
    rw [S.move_H, T.get_set, if_neg (by omega), T.get_del, if_neg (Ne.symm hn)]
  · intro i hi _; simp only [List.mem_singleton] at hi; subst hi; exact ⟨d, hd⟩
  · intro b hb
    have hlt : b < w.heap.size := by
      rcases Nat.lt_or_ge b w.heap.size with h | h
      · exact h
      · rw [Array.getElem?_eq_none h] at hb; cases hb
    rw [hfr b hlt (fun e => by subst e; exact hnd _ hb)]; exact hb

theorem firstCells_sound {s : S} (hH : HR μ s w) {sz n : Nat} {x x' : Value} {l : List Value} (r : VR μ x x') (hn : ∀ k, lenOf x = some k → n ≤ k) (h : AE.firstCells sz n x s = some l) :
    ∃ l', (∀ w' : World, w'.heap = w.heap → (Builtin.firstCells sz n x').run P w' = .ok ⟨l'⟩ w') ∧ VRs μ l l' := by
  unfold AE.firstCells at h
  split at h
  · rename_i a k c
    rw [cond_eq] at h
    split at h
    · rename_i h0
      have h0 := Nat.eq_of_beq_eq_true h0
      cases h
      refine ⟨[], fun w' _ => ?_, .nil⟩
      cases r <;> simp [Builtin.firstCells, h0, loadCells, loadCellsFrom]
    · rename_i h0
      split at h
      · cases h
      · rename_i hs
        split at h
        · rename_i vs e ro hget
          cases r with
          | @slice b o n' c' m d hd h1 h2 h3 =>
            obtain ⟨hesz, hc⟩ := hH.obj _ _ _ hget hd
            obtain ⟨r', q1, q2⟩ := seg_load (P := P) hc h
            exact ⟨r', fun w' hw => by simp only [Builtin.firstCells, q1 w' (by rw [hw])], q2⟩
          | sempty =>
            have := hn 0 rfl
            have h1 : n = 0 := by omega
            subst h1
            simp at h0
        · cases h
  · cases h; cases r; exact ⟨[], fun _ _ => by simp [Builtin.firstCells], .nil⟩
  · rename_i st
    cases h; cases r
    have hk := hn st.size rfl
    refine ⟨_, fun w' _ => ?_, VRs.of_flat μ ?_⟩
    · simp only [Builtin.firstCells, Sem.run_pure]
      congr 1
      apply Array.ext'
      simp only [Array.toList_map]
      congr 1
      have : (st.extract 0 n).data.toList = st.data.toList.take n := by
        rw [ByteArray.data_extract]; simp
      exact this
    · rw [List.all_eq_true]; intro v hv; simp only [List.mem_map] at hv; obtain ⟨b, _, rfl⟩ := hv; rfl
  · cases h

theorem lenOf_sound {x x' : Value} {n : Nat} (r : VR μ x x') (h : AE.lenOf x = some n) : (Builtin.lenOf x').run P w = .ok n w := by
  unfold AE.lenOf at h
  split at h
  · cases h; cases r <;> simp [Builtin.lenOf]
  · cases h; cases r; simp [Builtin.lenOf]
  · cases h

theorem nextslicecap_le (n old : Nat) (h : old < n) : Builtin.nextslicecap n old ≤ 2 * n := by
  unfold Builtin.nextslicecap
  split
  · omega
  · split
    · omega
    · simp only [Builtin.growBy]
      repeat' split
      all_goals omega

theorem setSeg_split : ∀ (l : List Value) (k : Nat) (x : List Value), k + x.length ≤ l.length → setSeg l k x = l.take k ++ (x ++ l.drop (k + x.length))
  | [], k, x, h => by
    have : x = [] := by cases x <;> simp_all
    subst this; simp [setSeg]
  | v :: l, k + 1, x, h => by
    simp only [setSeg, List.take_succ_cons, List.cons_append]
    rw [setSeg_split l k x (by simp at h; omega)]
    rw [show k + 1 + x.length = (k + x.length) + 1 by omega, List.drop_succ_cons]
  | v :: l, 0, [], h => by simp [setSeg]
  | v :: l, 0, y :: x, h => by
    simp only [setSeg, List.take_zero, List.nil_append, List.cons_append, List.length_cons, Nat.zero_add]
    rw [setSeg_split l 0 x (by simp at h; omega)]
    simp

end Go.AE
