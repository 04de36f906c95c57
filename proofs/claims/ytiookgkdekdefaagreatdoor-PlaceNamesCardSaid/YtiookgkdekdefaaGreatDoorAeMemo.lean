/- THE EVALUATOR, beside it: a call that reads but some tables and makes but one list of plain values, evaluated once over a small memory, answers alike over every memory that bears the tables. No condition. -/
import Derived.Test.YtiookgkdekdefaaGreatDoorAeRow
namespace Go.AE
variable {P : Program}

/-- Are two rows of bytes the same? -/
noncomputable def eqB (l : List UInt8) : List UInt8 → Bool :=
  List.rec (motive := fun _ => List UInt8 → Bool) (fun m => List.rec (motive := fun _ => Bool) true (fun _ _ _ => false) m)
    (fun a _ ih m => List.rec (motive := fun _ => Bool) false (fun b t _ => cond (Nat.beq a.toNat b.toNat) (ih t) false) m) l
theorem eqB_eq (l : List UInt8) : ∀ m, eqB l m = true → l = m := by
  induction l with
  | nil => intro m h; cases m with
    | nil => rfl
    | cons b t => cases h
  | cons a l ih =>
    intro m h
    cases m with
    | nil => cases h
    | cons b t =>
      change cond (Nat.beq a.toNat b.toNat) (eqB l t) false = true at h
      rw [cond_eq] at h
      split at h
      · rename_i h1
        rw [UInt8.toNat_inj.1 (Nat.eq_of_beq_eq_true h1), ih t h]
      · cases h
theorem bytes_eq {a b : ByteArray} (h : eqB a.data.toList b.data.toList = true) : a = b := by
  have := eqB_eq _ _ h
  obtain ⟨⟨a⟩⟩ := a; obtain ⟨⟨b⟩⟩ := b
  simp only at this; subst this; rfl
/-- Are two plain values of the same kinds the same? (Strings, integers.) -/
noncomputable def eqV (a b : Value) : Bool :=
  match a, b with
  | .string a, .string b => eqB a.data.toList b.data.toList
  | .int j m, .int k n => eqK j k && eqI m n
  | _, _ => false
theorem eqV_eq {a b : Value} (h : eqV a b = true) : a = b := by
  unfold eqV at h
  split at h
  · rw [bytes_eq h]
  · simp only [Bool.and_eq_true] at h
    rw [eqK_eq h.1]
    have := h.2
    rw [eqI_eq, beq_iff_eq] at this
    rw [this]
  · cases h
noncomputable def eqL (l : List Value) : List Value → Bool :=
  List.rec (motive := fun _ => List Value → Bool) (fun m => List.rec (motive := fun _ => Bool) true (fun _ _ _ => false) m)
    (fun a _ ih m => List.rec (motive := fun _ => Bool) false (fun b t _ => cond (eqV a b) (ih t) false) m) l
theorem eqL_eq (l : List Value) : ∀ m, eqL l m = true → l = m := by
  induction l with
  | nil => intro m h; cases m with
    | nil => rfl
    | cons b t => cases h
  | cons a l ih =>
    intro m h
    cases m with
    | nil => cases h
    | cons b t =>
      change cond (eqV a b) (eqL l t) false = true at h
      rw [cond_eq] at h
      split at h
      · rename_i h1
        rw [eqV_eq h1, ih t h]
      · cases h
/-- Does a memory bear that table? -/
noncomputable def bears (s : S) (g : Nat) (vs : List Value) : Bool :=
  match s.H.get g with
  | some (.cells us e ro) => Nat.beq e 0 && (ro && eqL us vs)
  | _ => false
theorem bears_eq {s : S} {g : Nat} {vs : List Value} (h : bears s g vs = true) : s.H.get g = some (.cells vs 0 true) := by
  unfold bears at h
  split at h
  · rename_i us e ro hg
    simp only [Bool.and_eq_true] at h
    obtain ⟨h1, h2, h3⟩ := h
    rw [hg, eqL_eq _ _ h3, h2, Nat.eq_of_beq_eq_true h1]
  · cases h

/-- What is asked of the small memory's answer: a slice, whole, of a new list of plain values; nothing older written. -/
noncomputable def madeList (base : Nat) (L : List Value) (esz n : Nat) (x : Value × S) : Bool :=
  match x.1 with
  | .slice (some ⟨r, o, none⟩) a b => Nat.beq o 0 && (Nat.beq a n && (Nat.beq b n && (Nat.ble base r && ((match x.2.H.get r with
      | some (.cells vs e ro) => !ro && (Nat.beq e esz && eqL vs L)
      | _ => false) && x.2.log.all fun i => Nat.ble base i))))
  | _ => false

theorem callSpec_of_all {O : Oracle} (hO : OracleOK P O) {n : Nat} {f : FuncId} {args : List Value} {s : S} {p : Value × S → Bool} (h : Tr.all p ((eval P O n).call f args s) = true) : CallSpec P f args s (fun x => p x = true) :=
  (eval_sound hO n).call _ _ _ _ (all_wp h)

theorem memo_new {f : FuncId} {args : List Value} {l : List (Nat × List Value)} {base : Nat} {L : List Value} {esz n : Nat} (hb : P.globals.size < base)
    (h : CallSpec P f args (startS base l) (fun x => madeList base L esz n x = true)) (hargs : args.all flat = true) (hL : L.all flat = true) (hflat : ∀ x ∈ l, x.2.all flat = true)
    {s : S} (hs : ∀ x ∈ l, s.H.get x.1 = some (.cells x.2 0 true)) (hlt : ∀ x ∈ l, x.1 < base) :
    CallSpec P f args s (fun x => x = (.slice (some ⟨s.next, 0, none⟩) n n, s.new (.cells L esz false))) := by
  intro μ w args' hH hg ra
  have hsub : ∀ id o, (startS base l).H.get id = some o → s.H.get id = some o ∧ id < base ∧ ∃ vs, o = .cells vs 0 true ∧ vs.all flat = true := by
    intro id o e
    obtain ⟨x, h1, h2, rfl⟩ := start_get l id o e
    have hx := List.mem_of_find?_eq_some h1
    subst h2
    exact ⟨hs x hx, hlt x hx, _, rfl, hflat x hx⟩
  have hμ : ∀ id d, (if id < base then μ id else none) = some d → id < base ∧ μ id = some d := by
    intro id d e
    split at e
    · exact ⟨by assumption, e⟩
    · cases e
  have hE := VRs.eq_flat hargs ra
  subst hE
  have hH0 : HR (fun id => if id < base then μ id else none) (startS base l) w := by
    refine ⟨fun id o d e m => ?_, fun id o e => ?_, fun i j oi oj di dj hij ei ej mi mj hbk => ?_, fun id d m => ?_⟩
    · obtain ⟨h3, h4, vs, rfl, hf⟩ := hsub id _ e
      obtain ⟨h5, h6⟩ := hμ id d m
      obtain ⟨k1, pre, mid, post, el, fr, k2, k3, k4, k5, k6⟩ := hH.obj id _ d h3 h6
      have := VRs.eq_flat hf k4
      subst this
      exact ⟨k1, pre, mid, post, el, fr, k2, k3, VRs.of_flat _ hf, k5, k6⟩
    · exact (hsub id o e).2.1
    · exact hH.sep i j oi oj di dj hij (hsub i oi ei).1 (hsub j oj ej).1 (hμ i di mi).2 (hμ j dj mj).2 hbk
    · obtain ⟨h5, h6⟩ := hμ id d m
      exact ⟨h5, (hH.dom id d h6).2⟩
  have hg0 : GlobOK P (fun id => if id < base then μ id else none) := fun g hgs => by
    obtain ⟨d, a, b⟩ := hg g hgs
    exact ⟨d, by simp only [if_pos (show g < base by omega)]; exact a, b⟩
  obtain ⟨v, s', v', μ', w', δ, q, c, rv, hH', x⟩ := h _ w args' hH0 hg0 (VRs.of_flat _ hargs)
  unfold madeList at q
  split at q
  · rename_i r o a b heq
    simp only [Bool.and_eq_true] at q
    obtain ⟨q0, q1, q2, q3, q4, q5⟩ := q
    have q0 := Nat.eq_of_beq_eq_true q0
    have q1 := Nat.eq_of_beq_eq_true q1
    have q2 := Nat.eq_of_beq_eq_true q2
    have q3 := Nat.le_of_ble_eq_true q3
    simp only at heq
    subst heq; subst q0; subst q1
    have q2 : b = a := q2
    subst q2
    split at q4
    · rename_i vs e ro hget
      simp only [Bool.and_eq_true, Bool.not_eq_true'] at q4
      obtain ⟨q6, q7, q8⟩ := q4
      have q7 := Nat.eq_of_beq_eq_true q7
      have q8 := eqL_eq _ _ q8
      subst q6; subst q7; subst q8
      have hδ : ∀ i ∈ δ, base ≤ i := by
        intro i hi
        have hlog : s'.log = δ := by rw [x.log]; simp [startS]
        exact Nat.le_of_ble_eq_true (List.all_eq_true.1 q5 i (by rw [hlog]; exact hi))
      have hfr : ∀ b, b < w.heap.size → w'.heap[b]? = w.heap[b]? := fun b hb => x.frame b hb fun id hid d hd => by
        have := (hμ id d hd).1
        have := hδ id hid
        omega
      have hrn : ∃ d, μ' r = some d := by
        cases rv with
        | slice hd _ _ _ => exact ⟨_, hd⟩
        | sempty hd => exact ⟨_, hd⟩
      obtain ⟨d, hd⟩ := hrn
      have hnew : w.heap.size ≤ d.blk := by
        have h0 : (fun id => if id < base then μ id else none : Mu) r = none := by simp only; rw [if_neg (by omega)]
        rcases (x.new r d h0 hd).2 with h | ⟨i, hi, d0, e0, _⟩
        · exact h
        · have := (hμ i d0 e0).1
          have := hδ i hi
          omega
      have hdw := (hH'.dom r d hd).2
      have hsub2 := Mu.sub_set (d := d) hH.fresh
      have hmu : ∀ i di, (μ.set s.next d) i = some di → i ≠ s.next → μ i = some di := by
        intro i di m hi
        unfold Mu.set at m; rw [if_neg hi] at m; exact m
      have hself : (μ.set s.next d) s.next = some d := Mu.set_self _ _ _
      refine ⟨_, _, v', μ.set s.next d, w', [], rfl, c, ?_, ⟨?_, ?_, ?_, ?_⟩, ⟨hsub2, ?_, by rw [S.new_next]; omega, by rw [S.new_log]; rfl, fun b hb _ => hfr b hb, x.size, (fun _ h => by cases h), ?_, ?_, (fun _ h => by cases h), x.dkeep, x.os, x.tape, x.output⟩⟩
      · cases rv with
        | slice hd' h1 h2 h3 => rw [hd] at hd'; cases hd'; exact .slice hself h1 h2 h3
        | sempty hd' => exact .sempty hself
      · intro i o1 d1 e1 m1
        rw [S.new_H, T.get_set] at e1
        by_cases hi : s.next = i
        · subst hi
          simp only [if_true, Option.some.injEq] at e1; subst e1
          rw [hself] at m1; cases m1
          obtain ⟨k1, pre, mid, post, el, fr, k2, k3, k4, k5⟩ := hH'.obj r _ d hget hd
          have := VRs.eq_flat hL k4
          subst this
          exact ⟨k1, pre, mid, post, el, fr, k2, k3, VRs.of_flat _ hL, k5⟩
        · rw [if_neg hi] at e1
          have a1 := hmu _ _ m1 (Ne.symm hi)
          exact (hH.obj i o1 d1 e1 a1).keep hsub2 (hfr _ (hH.dom _ _ a1).2)
      · intro i o1 e1
        rw [S.new_next]
        rw [S.new_H, T.get_set] at e1
        by_cases hi : s.next = i
        · omega
        · rw [if_neg hi] at e1; have := hH.lt _ _ e1; omega
      · intro i j oi oj di dj hij ei ej mi mj hblk
        rw [S.new_H, T.get_set] at ei ej
        by_cases hi : s.next = i
        · subst hi
          have b1 := hmu _ _ mj (Ne.symm hij)
          rw [hself] at mi; cases mi
          have := (hH.dom _ _ b1).2; omega
        · rw [if_neg hi] at ei
          have a1 := hmu _ _ mi (Ne.symm hi)
          by_cases hj : s.next = j
          · subst hj; rw [hself] at mj; cases mj; have := (hH.dom _ _ a1).2; omega
          · rw [if_neg hj] at ej
            exact hH.sep i j _ _ _ _ hij ei ej a1 (hmu _ _ mj (Ne.symm hj)) hblk
      · intro id d1 e1
        rw [S.new_next]
        by_cases hi : id = s.next
        · subst hi; rw [hself] at e1; cases e1; exact ⟨by omega, hdw⟩
        · have := hH.dom _ _ (hmu _ _ e1 hi)
          exact ⟨by omega, Nat.lt_of_lt_of_le this.2 x.size⟩
      · intro id d1 a1 b1
        by_cases hi : id = s.next
        · subst hi; rw [hself] at b1; cases b1; exact ⟨Nat.le_refl _, .inl hnew⟩
        · have := hmu _ _ b1 hi; rw [a1] at this; cases this
      · intro id hlt1 o1 e1
        rw [S.new_H, T.get_set, if_neg (by omega)] at e1
        exact ⟨o1, e1, rfl⟩
      · intro id hlt1 _
        rw [S.new_H, T.get_set, if_neg (by omega)]
    · cases q4
  · cases q
end Go.AE
