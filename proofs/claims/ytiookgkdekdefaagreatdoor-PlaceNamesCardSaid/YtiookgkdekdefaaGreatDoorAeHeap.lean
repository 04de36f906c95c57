/- THE EVALUATOR, a part: what an evaluator of loaded programs answers the model's machine answers. No condition. -/
import Derived.Test.YtiookgkdekdefaaGreatDoorAeRel
namespace Go.AE

/-! ## Memory -/
def CellsAt (μ : Mu) (w : World) (d : Wd) (vs : List Value) (ro : Bool) : Prop :=
  ∃ (pre mid post : List Value) (el : TypeId) (fr : Nat × Nat), w.heap[d.blk]? = some (.cells ⟨pre ++ (mid ++ post)⟩ el fr) ∧ pre.length = d.off ∧ VRs μ vs mid ∧
    d.cap ≤ mid.length + post.length ∧ mid.length ≤ d.cap ∧ (ro = false → ∀ k, k < pre.length + (mid.length + post.length) → ¬ (fr.1 ≤ k ∧ k < fr.2))

inductive MRs (μ : Mu) : List MapEntry → List MapEntry → Prop
  | nil : MRs μ [] []
  | cons {e e' : MapEntry} {l l' : List MapEntry} : VR μ e.key e'.key → VR μ e.val e'.val → e'.born = e.born → MRs μ l l' → MRs μ (e :: l) (e' :: l')
theorem MRs.mono {μ ν : Mu} (h : Sub μ ν) : ∀ {l l' : List MapEntry}, MRs μ l l' → MRs ν l l'
  | _, _, .nil => .nil
  | _, _, .cons a b c r => .cons (a.mono h) (b.mono h) c (r.mono h)

/-- A block's number, named by an object's. -/
def OptBlk (μ : Mu) : Option Nat → Option Nat → Prop
  | none, none => True
  | some r, some b => ∃ d, μ r = some d ∧ d.blk = b
  | _, _ => False

def OR (μ : Mu) (w : World) (d : Wd) : AO → Prop
  | .cells vs e ro => d.esz = e ∧ CellsAt μ w d vs ro
  | .map es clock => ∃ es', w.heap[d.blk]? = some (.map es' clock) ∧ MRs μ es es'.toList
  | .mapIter m since seen stepped => d.off = 0 ∧ ∃ m', w.heap[d.blk]? = some (.mapIter m' since ⟨seen⟩ stepped) ∧ OptBlk μ m m'
  | .loop st pending _ env ps as bd _ => ∃ fn tmps b, w.heap[d.blk]? = some (.loop { state := st, pending, fn, tmps, params := ⟨ps⟩, assign := as, body := bd, defers := b }) ∧
      ER μ env tmps ∧ wf tmps.size as = true ∧ wf tmps.size bd = true ∧ ps.all (Nat.blt · tmps.size) = true
  | .deferred => ∃ x, w.heap[d.blk]? = some (.deferred x)
  | .stringIter s pos => d.off = 0 ∧ w.heap[d.blk]? = some (.stringIter s pos)

theorem OptBlk.mono {μ ν : Mu} (h : Sub μ ν) {a b : Option Nat} (k : OptBlk μ a b) : OptBlk ν a b := by
  cases a <;> cases b <;> simp_all [OptBlk]
  obtain ⟨d, e, f⟩ := k; exact ⟨d, h _ _ e, f⟩

theorem OR.keep {μ ν : Mu} {w w' : World} {d : Wd} {o : AO} (k : OR μ w d o) (h : Sub μ ν) (e : w'.heap[d.blk]? = w.heap[d.blk]?) : OR ν w' d o := by
  cases o with
  | cells vs esz ro =>
    obtain ⟨h1, pre, mid, post, el, fr, h2, h3, h4, h5, h6⟩ := k
    exact ⟨h1, pre, mid, post, el, fr, by rw [e]; exact h2, h3, h4.mono h, h5, h6⟩
  | map es clock => obtain ⟨es', h1, h2⟩ := k; exact ⟨es', by rw [e]; exact h1, h2.mono h⟩
  | mapIter m since seen stepped => obtain ⟨h0, m', h1, h2⟩ := k; exact ⟨h0, m', by rw [e]; exact h1, h2.mono h⟩
  | loop st p fn env ps as bd df => obtain ⟨fn', tmps, b, h1, h2, h4⟩ := k; exact ⟨fn', tmps, b, by rw [e]; exact h1, h2.mono h, h4⟩
  | deferred => simp only [OR] at *; rw [e]; exact k
  | stringIter s pos => obtain ⟨h0, h1⟩ := k; exact ⟨h0, by rw [e]; exact h1⟩

theorem OR.not_deferred {μ : Mu} {w : World} {d : Wd} {o : AO} (h : OR μ w d o) (hd : o ≠ .deferred) (x : Option (List Deferred)) : w.heap[d.blk]? ≠ some (.deferred x) := by
  intro e
  cases o with
  | cells vs esz ro => obtain ⟨_, _, _, _, _, _, h2, _⟩ := h; rw [e] at h2; cases h2
  | map es clock => obtain ⟨_, h1, _⟩ := h; rw [e] at h1; cases h1
  | mapIter m since seen stepped => obtain ⟨_, _, h1, _⟩ := h; rw [e] at h1; cases h1
  | loop st p fn env ps as bd df => obtain ⟨_, _, _, h1, _⟩ := h; rw [e] at h1; cases h1
  | deferred => exact hd rfl
  | stringIter s pos => obtain ⟨_, h1⟩ := h; rw [e] at h1; cases h1

/-- Memory, told by what is known. (An object without a block: not made yet.) -/
structure HR (μ : Mu) (s : S) (w : World) : Prop where
  obj : ∀ id o d, s.H.get id = some o → μ id = some d → OR μ w d o
  lt : ∀ id o, s.H.get id = some o → id < s.next
  sep : ∀ i j oi oj di dj, i ≠ j → s.H.get i = some oi → s.H.get j = some oj → μ i = some di → μ j = some dj → di.blk = dj.blk → oi.ro = true ∧ oj.ro = true
  dom : ∀ id d, μ id = some d → id < s.next ∧ d.blk < w.heap.size

/-- How a run goes on: what was known stays known, what was not written stays as it was. -/
structure Ext (μ : Mu) (s : S) (w : World) (δ : List Nat) (μ' : Mu) (s' : S) (w' : World) : Prop where
  sub : Sub μ μ'
  new : ∀ id d, μ id = none → μ' id = some d → s.next ≤ id ∧ (w.heap.size ≤ d.blk ∨ ∃ i ∈ δ, ∃ d0, μ i = some d0 ∧ d0.blk = d.blk)
  next : s.next ≤ s'.next
  log : s'.log = δ ++ s.log
  frame : ∀ b, b < w.heap.size → (∀ id ∈ δ, ∀ d, μ id = some d → d.blk ≠ b) → w'.heap[b]? = w.heap[b]?
  size : w.heap.size ≤ w'.heap.size
  logrw : ∀ id ∈ δ, id < s.next → ∃ o, s.H.get id = some o ∧ o.ro = false
  old : ∀ id, id < s.next → ∀ o, s'.H.get id = some o → ∃ o0, s.H.get id = some o0 ∧ o0.ro = o.ro
  hframe : ∀ id, id < s.next → id ∉ δ → s'.H.get id = s.H.get id
  wr : ∀ id ∈ δ, id < s.next → ∃ d, μ id = some d
  dkeep : ∀ b : Nat, w.heap[b]? = some (Obj.deferred (some [])) → w'.heap[b]? = some (Obj.deferred (some []))
  os : w'.os = w.os
  tape : w'.tape = w.tape
  output : w'.output = w.output

theorem Ext.refl {μ : Mu} {s : S} {w : World} : Ext μ s w [] μ s w where
  sub := Sub.refl μ
  new := fun id d h k => by rw [h] at k; cases k
  next := Nat.le_refl _
  log := rfl
  frame := fun _ _ _ => rfl
  size := Nat.le_refl _
  logrw := fun _ h => by cases h
  old := fun _ _ o h => ⟨o, h, rfl⟩
  hframe := fun _ _ _ => rfl
  wr := fun _ h => by cases h
  dkeep := fun _ h => h
  os := rfl
  tape := rfl
  output := rfl

theorem Ext.trans {μ₁ μ₂ μ₃ : Mu} {s₁ s₂ s₃ : S} {w₁ w₂ w₃ : World} {δ ε : List Nat} (h : Ext μ₁ s₁ w₁ δ μ₂ s₂ w₂) (k : Ext μ₂ s₂ w₂ ε μ₃ s₃ w₃) : Ext μ₁ s₁ w₁ (ε ++ δ) μ₃ s₃ w₃ := by
  have key : ∀ b, b < w₁.heap.size → (∀ id ∈ ε ++ δ, ∀ d, μ₁ id = some d → d.blk ≠ b) → (∀ id ∈ δ, ∀ d, μ₁ id = some d → d.blk ≠ b) ∧ (∀ id ∈ ε, ∀ d, μ₂ id = some d → d.blk ≠ b) := by
    intro b hb hn
    refine ⟨fun id hid d e => hn id (List.mem_append_right _ hid) d e, fun id hid d e => ?_⟩
    cases hm : μ₁ id with
    | some d1 =>
      have := h.sub _ _ hm; rw [this] at e; cases e
      exact hn id (List.mem_append_left _ hid) _ hm
    | none =>
      obtain ⟨_, c⟩ := h.new id d hm e
      rcases c with c | ⟨i, hi, d0, e0, f0⟩
      · omega
      · rw [← f0]; exact hn i (List.mem_append_right _ hi) d0 e0
  refine ⟨h.sub.trans k.sub, ?_, Nat.le_trans h.next k.next, by rw [k.log, h.log, List.append_assoc], ?_, Nat.le_trans h.size k.size, ?_, ?_, ?_, ?_, fun b e => k.dkeep b (h.dkeep b e), k.os.trans h.os, k.tape.trans h.tape, k.output.trans h.output⟩
  · intro id d e f
    cases hm : μ₂ id with
    | some d2 =>
      have e2 := k.sub _ _ hm; rw [e2] at f; cases f
      obtain ⟨a, c⟩ := h.new id _ e hm
      refine ⟨a, ?_⟩
      rcases c with c | ⟨i, hi, r⟩
      · exact .inl c
      · exact .inr ⟨i, List.mem_append_right _ hi, r⟩
    | none =>
      obtain ⟨a, c⟩ := k.new id d hm f
      refine ⟨Nat.le_trans h.next a, ?_⟩
      rcases c with c | ⟨i, hi, d0, e0, f0⟩
      · exact .inl (Nat.le_trans h.size c)
      · cases hi1 : μ₁ i with
        | some d1 => have := h.sub _ _ hi1; rw [this] at e0; cases e0; exact .inr ⟨i, List.mem_append_left _ hi, _, hi1, f0⟩
        | none =>
          obtain ⟨_, c⟩ := h.new i d0 hi1 e0
          rcases c with c | ⟨j, hj, d1, e1, f1⟩
          · exact .inl (by rw [← f0]; exact c)
          · exact .inr ⟨j, List.mem_append_right _ hj, d1, e1, f1.trans f0⟩
  · intro b hb hn
    obtain ⟨n1, n2⟩ := key b hb hn
    rw [k.frame b (Nat.lt_of_lt_of_le hb h.size) n2, h.frame b hb n1]
  · intro id hid hlt
    rcases List.mem_append.1 hid with hid | hid
    · obtain ⟨o, e, f⟩ := k.logrw id hid (Nat.lt_of_lt_of_le hlt h.next)
      obtain ⟨o0, e0, f0⟩ := h.old id hlt o e
      exact ⟨o0, e0, f0.trans f⟩
    · exact h.logrw id hid hlt
  · intro id hlt o e
    obtain ⟨o1, e1, f1⟩ := k.old id (Nat.lt_of_lt_of_le hlt h.next) o e
    obtain ⟨o0, e0, f0⟩ := h.old id hlt o1 e1
    exact ⟨o0, e0, f0.trans f1⟩
  · intro id hlt hn
    simp only [List.mem_append, not_or] at hn
    rw [k.hframe id (Nat.lt_of_lt_of_le hlt h.next) hn.1, h.hframe id hlt hn.2]
  · intro id hid hlt
    rcases List.mem_append.1 hid with hid | hid
    · obtain ⟨d, e⟩ := k.wr id hid (Nat.lt_of_lt_of_le hlt h.next)
      cases hm : μ₁ id with
      | some d1 => exact ⟨d1, rfl⟩
      | none => have := (h.new id d hm e).1; omega
    · exact h.wr id hid hlt

theorem Ext.blk {μ : Mu} {s : S} {w : World} (h : HR μ s w) : ∀ id d, μ id = some d → d.blk < w.heap.size := fun id d e => (h.dom id d e).2

/-- The world with some draws more. -/
theorem HR.drawn {μ : Mu} {s : S} {w w' : World} (h : HR μ s w) (e : w'.heap = w.heap) : HR μ s w' where
  obj := fun id o d g m => (h.obj id o d g m).keep (Sub.refl μ) (by rw [e])
  lt := h.lt
  sep := h.sep
  dom := fun id d g => by rw [e]; exact h.dom id d g
theorem Ext.drawn {μ μ' : Mu} {s s' : S} {w w1 w' : World} {δ : List Nat} (h : Ext μ s w1 δ μ' s' w') (e : w1.heap = w.heap) (o : w1.os = w.os) (t : w1.tape = w.tape) (p : w1.output = w.output) : Ext μ s w δ μ' s' w' where
  sub := h.sub
  new := fun id d a b => by rw [← e]; exact h.new id d a b
  next := h.next
  log := h.log
  frame := fun b hb n => by rw [← e]; exact h.frame b (by rw [e]; exact hb) n
  size := by rw [← e]; exact h.size
  logrw := h.logrw
  old := h.old
  hframe := h.hframe
  wr := h.wr
  dkeep := fun b hb => h.dkeep b (by rw [e]; exact hb)
  os := h.os.trans o
  tape := h.tape.trans t
  output := h.output.trans p

def Mu.set (μ : Mu) (id : Nat) (d : Wd) : Mu := fun i => if i = id then some d else μ i
theorem Mu.set_self (μ : Mu) (id : Nat) (d : Wd) : μ.set id d id = some d := by simp [Mu.set]
theorem Mu.sub_set {μ : Mu} {id : Nat} {d : Wd} (h : μ id = none) : Sub μ (μ.set id d) := by
  intro i e g
  unfold Mu.set
  by_cases hi : i = id
  · subst hi; rw [h] at g; cases g
  · rw [if_neg hi]; exact g

theorem HR.fresh {μ : Mu} {s : S} {w : World} (h : HR μ s w) : μ s.next = none := by
  cases e : μ s.next with
  | none => rfl
  | some d => have := (h.dom _ _ e).1; omega
theorem HR.freshH {μ : Mu} {s : S} {w : World} (h : HR μ s w) : s.H.get s.next = none := by
  cases e : s.H.get s.next with
  | none => rfl
  | some o => have := h.lt _ _ e; omega

theorem S.new_H (s : S) (o : AO) : (s.new o).H = s.H.set s.next o := by cases s; rfl
theorem S.new_next (s : S) (o : AO) : (s.new o).next = s.next + 1 := by cases s; rfl
theorem S.new_log (s : S) (o : AO) : (s.new o).log = s.log := by cases s; rfl
theorem S.upd_H (s : S) (id : Nat) (o : AO) : (s.upd id o).H = s.H.set id o := by cases s; rfl
theorem S.upd_next (s : S) (id : Nat) (o : AO) : (s.upd id o).next = s.next := by cases s; rfl
theorem S.upd_log (s : S) (id : Nat) (o : AO) : (s.upd id o).log = id :: s.log := by cases s; rfl

/-- A new object over a new block. -/
theorem HR.new {μ : Mu} {s : S} {w : World} (h : HR μ s w) (o : AO) (ob : Obj) (d : Wd) (hb : d.blk = w.heap.size)
    (hO : OR (μ.set s.next d) { w with heap := w.heap.push ob } d o) :
    HR (μ.set s.next d) (s.new o) { w with heap := w.heap.push ob } ∧ Ext μ s w [] (μ.set s.next d) (s.new o) { w with heap := w.heap.push ob } := by
  have hs := Mu.sub_set (d := d) h.fresh
  have hold : ∀ b, b < w.heap.size → (w.heap.push ob)[b]? = w.heap[b]? := fun b hb => by rw [Array.getElem?_push, if_neg (by omega)]
  have hmu : ∀ i di, (μ.set s.next d) i = some di → i ≠ s.next → μ i = some di := by
    intro i di m hi
    unfold Mu.set at m; rw [if_neg hi] at m; exact m
  refine ⟨⟨?_, ?_, ?_, ?_⟩, ⟨hs, ?_, ?_, ?_, ?_, ?_, ?_, ?_, ?_, ?_, ?_, rfl, rfl, rfl⟩⟩
  · intro id o1 d1 e m
    rw [S.new_H, T.get_set] at e
    by_cases hi : s.next = id
    · subst hi; simp only [if_true, Option.some.injEq] at e; subst e; rw [Mu.set_self] at m; cases m; exact hO
    · rw [if_neg hi] at e
      have a := hmu _ _ m (Ne.symm hi)
      exact (h.obj _ _ _ e a).keep hs (hold _ (h.dom _ _ a).2)
  · intro id o1 e
    rw [S.new_next]
    rw [S.new_H, T.get_set] at e
    by_cases hi : s.next = id
    · omega
    · rw [if_neg hi] at e; have := h.lt _ _ e; omega
  · intro i j oi oj di dj hij ei ej mi mj hblk
    rw [S.new_H, T.get_set] at ei ej
    by_cases hi : s.next = i
    · subst hi
      have b := hmu _ _ mj (Ne.symm hij)
      rw [Mu.set_self] at mi; cases mi
      have := (h.dom _ _ b).2; omega
    · rw [if_neg hi] at ei
      have a := hmu _ _ mi (Ne.symm hi)
      by_cases hj : s.next = j
      · subst hj; rw [Mu.set_self] at mj; cases mj; have := (h.dom _ _ a).2; omega
      · rw [if_neg hj] at ej
        exact h.sep i j _ _ _ _ hij ei ej a (hmu _ _ mj (Ne.symm hj)) hblk
  · intro id d1 e
    rw [S.new_next]
    unfold Mu.set at e
    by_cases hi : id = s.next
    · rw [if_pos hi] at e; cases e; simp; omega
    · rw [if_neg hi] at e; have := h.dom _ _ e; simp; omega
  · intro id d1 a b
    unfold Mu.set at b
    by_cases hi : id = s.next
    · rw [if_pos hi] at b; cases b; exact ⟨by omega, .inl (by omega)⟩
    · rw [if_neg hi, a] at b; cases b
  · rw [S.new_next]; omega
  · rw [S.new_log]; rfl
  · intro b hb _; exact hold b hb
  · simp
  · intro id hid; cases hid
  · intro id hlt o1 e
    rw [S.new_H, T.get_set, if_neg (by omega)] at e
    exact ⟨o1, e, rfl⟩
  · intro id hlt _
    rw [S.new_H, T.get_set, if_neg (by omega)]
  · intro id hid; cases hid
  · intro b hb
    have : b < w.heap.size := by
      rcases Nat.lt_or_ge b w.heap.size with h | h
      · exact h
      · rw [Array.getElem?_eq_none h] at hb; cases hb
    rw [← hb]; exact hold b this

/-- An object gets a new content. -/
theorem HR.upd {μ : Mu} {s : S} {w w' : World} (h : HR μ s w) {id : Nat} {o0 o : AO} {d : Wd} (e0 : s.H.get id = some o0) (hro : o0.ro = false) (hdf : o0 ≠ .deferred)
    (hd : μ id = some d) (hO : OR μ w' d o) (hor : o.ro = false) (hsz : w'.heap.size = w.heap.size) (hfr : ∀ b, b ≠ d.blk → w'.heap[b]? = w.heap[b]?)
    (hos : w'.os = w.os) (ht : w'.tape = w.tape) (hout : w'.output = w.output) :
    HR μ (s.upd id o) w' ∧ Ext μ s w [id] μ (s.upd id o) w' := by
  have hnd := (h.obj _ _ _ e0 hd).not_deferred hdf
  refine ⟨⟨?_, ?_, ?_, ?_⟩, ⟨Sub.refl μ, ?_, ?_, ?_, ?_, ?_, ?_, ?_, ?_, ?_, ?_, hos, ht, hout⟩⟩
  · intro i o1 d1 e a
    rw [S.upd_H, T.get_set] at e
    by_cases hi : id = i
    · subst hi; simp only [if_true, Option.some.injEq] at e; subst e; rw [hd] at a; cases a; exact hO
    · rw [if_neg hi] at e
      refine (h.obj _ _ _ e a).keep (Sub.refl μ) (hfr _ fun hb => ?_)
      have := (h.sep id i _ _ _ _ hi e0 e hd a hb.symm).1
      rw [hro] at this; cases this
  · intro i o1 e
    rw [S.upd_next]
    rw [S.upd_H, T.get_set] at e
    by_cases hi : id = i
    · subst hi; exact h.lt _ _ e0
    · rw [if_neg hi] at e; exact h.lt _ _ e
  · intro i j oi oj di dj hij ei ej mi mj hblk
    rw [S.upd_H, T.get_set] at ei ej
    by_cases hi : id = i
    · subst hi
      rw [if_neg hij] at ej
      have := (h.sep id j _ _ _ _ hij e0 ej mi mj hblk).1
      rw [hro] at this; cases this
    · rw [if_neg hi] at ei
      by_cases hj : id = j
      · subst hj
        have := (h.sep i id _ _ _ _ hij ei e0 mi mj hblk).2
        rw [hro] at this; cases this
      · rw [if_neg hj] at ej; exact h.sep i j _ _ _ _ hij ei ej mi mj hblk
  · intro i d1 e; rw [S.upd_next, hsz]; exact h.dom i d1 e
  · intro i d1 a b; rw [a] at b; cases b
  · rw [S.upd_next]; omega
  · rw [S.upd_log]; rfl
  · intro b _ hn; exact hfr b fun hb => hn id (by simp) d hd hb.symm
  · omega
  · intro i hi _; simp only [List.mem_singleton] at hi; subst hi; exact ⟨o0, e0, hro⟩
  · intro i hlt o1 e
    rw [S.upd_H, T.get_set] at e
    by_cases hi : id = i
    · subst hi; simp only [if_true, Option.some.injEq] at e; subst e; exact ⟨o0, e0, by rw [hro, hor]⟩
    · rw [if_neg hi] at e; exact ⟨o1, e, rfl⟩
  · intro i _ hn
    simp only [List.mem_singleton] at hn
    rw [S.upd_H, T.get_set, if_neg (Ne.symm hn)]
  · intro i hi _; simp only [List.mem_singleton] at hi; subst hi; exact ⟨d, hd⟩
  · intro b hb
    rw [hfr b (fun e => by subst e; exact hnd _ hb)]; exact hb

end Go.AE
