/- THE EVALUATOR, a part: what an evaluator of loaded programs answers the model's machine answers. No condition. -/
import Derived.Test.YtiookgkdekdefaaGreatDoorAeWay2
namespace Go.AE

variable {P : Program}

theorem vars_get : ∀ (l : List Oper) {vs : List AO}, vars P l = some vs → ∀ (f : Nat → Nat) (i : Nat), (∀ j o, l[j]? = some o → f (i + j + 1) = match cls o.op with | .alloc => f (i + j) + 1 | _ => f (i + j)) →
    ∀ j o, l[j]? = some o → cls o.op = .alloc → ∃ t z r, o.op = .alloc t ∧ zero P t = some z ∧ f (i + j) = f i + r ∧ vs[r]? = some (.cells z.cells.toList (eszOf P t) false)
  | [], _, _, _, _, _, j, o, hj, _ => by simp at hj
  | x :: l, vs, h, f, i, hf, j, o, hj, hc => by
    have hf' : ∀ j o, l[j]? = some o → f (i + 1 + j + 1) = match cls o.op with | .alloc => f (i + 1 + j) + 1 | _ => f (i + 1 + j) := by
      intro j o hj
      have := hf (j + 1) o (by simpa using hj)
      rw [show i + 1 + j = i + (j + 1) by omega]; exact this
    have h0 := hf 0 x (by simp)
    simp only [Nat.add_zero] at h0
    by_cases hx : cls x.op = .alloc
    · have hx' : ∃ t, x.op = .alloc t := by
        cases hop : x.op with
        | alloc t => exact ⟨t, rfl⟩
        | call c => rw [hop] at hx; obtain ⟨callee, args, ts⟩ := c; cases callee with
          | builtin b => cases b <;> simp [cls] at hx
          | _ => simp [cls] at hx
        | _ => rw [hop] at hx; simp [cls] at hx
      obtain ⟨t, ht⟩ := hx'
      simp only [vars, ht] at h
      split at h
      · rename_i z hz
        split at h
        · rename_i r hr
          cases h
          rw [hx] at h0
          simp only at h0
          cases j with
          | zero =>
            simp only [List.getElem?_cons_zero, Option.some.injEq] at hj; subst hj
            exact ⟨t, z, 0, ht, hz, rfl, by simp⟩
          | succ j =>
            simp only [List.getElem?_cons_succ] at hj
            obtain ⟨t', z', r', a1, a2, a3, a4⟩ := vars_get l hr f (i + 1) hf' j o hj hc
            refine ⟨t', z', r' + 1, a1, a2, ?_, by simpa using a4⟩
            rw [show i + (j + 1) = i + 1 + j by omega, a3, h0]; omega
        · cases h
      · cases h
    · have hv : vars P l = some vs := by
        simp only [vars] at h
        split at h
        · rename_i t ht; rw [ht] at hx; exact absurd rfl hx
        · exact h
      have h0' : f (i + 1) = f i := by
        rw [h0]
        cases hcx : cls x.op with
        | alloc => exact absurd hcx hx
        | _ => rfl
      cases j with
      | zero => simp only [List.getElem?_cons_zero, Option.some.injEq] at hj; subst hj; exact absurd hc hx
      | succ j =>
        simp only [List.getElem?_cons_succ] at hj
        obtain ⟨t', z', r', a1, a2, a3, a4⟩ := vars_get l hv f (i + 1) hf' j o hj hc
        exact ⟨t', z', r', a1, a2, by rw [show i + (j + 1) = i + 1 + j by omega, a3, h0'], a4⟩

/-! ## What an operation looks at -/
noncomputable def restr (E : T Value) : List Tmp → T Value
  | [] => .nil
  | t :: ts => T.setP (path t) (restr E ts) (T.getP (path t) E)
theorem restr_get (E : T Value) (u : Tmp) : ∀ ts : List Tmp, T.getP (path u) (restr E ts) = if u ∈ ts then T.getP (path u) E else none
  | [] => by simp [restr, T.get_nilP]
  | t :: ts => by
    simp only [restr, T.getP_setPath, restr_get E u ts, List.mem_cons]
    by_cases h : t = u
    · subst h; simp
    · rw [if_neg h]
      by_cases hu : u ∈ ts
      · simp [hu]
      · simp [hu, Ne.symm h]

theorem tmpsOf_mem : ∀ (xs : List Operand) (t : Tmp), .tmp t ∈ xs → t ∈ tmpsOf xs
  | x :: xs, t, h => by
    rcases List.mem_cons.1 h with h | h
    · subst h; simp [tmpsOf]
    · have := tmpsOf_mem xs t h
      cases x <;> simp [tmpsOf, this]

theorem restr_opd {all : List Oper} {o : Oper} (E : T Value) (x : Operand) (hx : x ∈ o.op.operands) : (opd P x).run (restr E (looks all o)) = (opd P x).run E := by
  cases x with
  | tmp t =>
    simp only [opd, restr_get]
    rw [if_pos]
    exact List.mem_append_left _ (tmpsOf_mem _ _ (Array.mem_toList_iff.2 hx))
  | const v => simp only [opd, cond_eq]; split <;> rfl
  | global g => simp only [opd, cond_eq]; split <;> rfl
  | func f => rfl
theorem restr_guard {all : List Oper} {o : Oper} (E : T Value) : (guardOf all o).run (restr E (looks all o)) = (guardOf all o).run E := by
  unfold guardOf
  cases hg : o.guard with
  | none => rfl
  | some gw =>
    obtain ⟨j, want⟩ := gw
    simp only
    cases hq : nth all j with
    | none => rfl
    | some q =>
      simp only
      cases hd : q.dst with
      | none => rfl
      | some d =>
        simp only [restr_get]
        rw [if_pos]
        exact List.mem_append_right _ (by rw [hg]; simp [hq, hd])

/-- A variable that stood ready is made. -/
theorem HR.make {μ : Mu} {s : S} {w : World} (h : HR μ s w) {id : Nat} (hid : μ id = none) {vs : List Value} {esz : Nat} (hget : s.H.get id = some (.cells vs esz false)) (hvs : VRs μ vs vs) (el : TypeId) :
    HR (μ.set id ⟨w.heap.size, 0, vs.length, esz⟩) s { w with heap := w.heap.push (.cells ⟨vs⟩ el) } ∧
    ∀ (μ0 : Mu) (s0 : S) (w0 : World) (δ : List Nat), Ext μ0 s0 w0 δ μ s w → s0.next ≤ id → Ext μ0 s0 w0 δ (μ.set id ⟨w.heap.size, 0, vs.length, esz⟩) s { w with heap := w.heap.push (.cells ⟨vs⟩ el) } := by
  have hs := Mu.sub_set (d := ⟨w.heap.size, 0, vs.length, esz⟩) hid
  have hold : ∀ b, b < w.heap.size → (w.heap.push (.cells ⟨vs⟩ el))[b]? = w.heap[b]? := fun b hb => by rw [Array.getElem?_push, if_neg (by omega)]
  have hmu : ∀ i di, (μ.set id ⟨w.heap.size, 0, vs.length, esz⟩) i = some di → i ≠ id → μ i = some di := by
    intro i di m hi
    unfold Mu.set at m; rw [if_neg hi] at m; exact m
  refine ⟨⟨?_, h.lt, ?_, ?_⟩, fun μ0 s0 w0 δ x hlt => ⟨x.sub.trans hs, ?_, x.next, x.log, ?_, ?_, x.logrw, x.old, x.hframe, x.wr, ?_, x.os, x.tape, x.output⟩⟩
  · intro i o d e m
    by_cases hi : i = id
    · subst hi
      rw [Mu.set_self] at m; cases m
      rw [hget] at e; cases e
      exact ⟨rfl, [], vs, [], el, (0, 0), by simp, rfl, hvs.mono hs, by simp, Nat.le_refl _, fun _ k _ hk => by simp at hk⟩
    · have a := hmu _ _ m hi
      exact (h.obj _ _ _ e a).keep hs (hold _ (h.dom _ _ a).2)
  · intro i j oi oj di dj hij ei ej mi mj hb
    by_cases hi : i = id
    · subst hi
      have c := hmu _ _ mj (Ne.symm hij)
      rw [Mu.set_self] at mi; cases mi
      have := (h.dom _ _ c).2; simp only at hb; omega
    · have a := hmu _ _ mi hi
      by_cases hj : j = id
      · subst hj
        rw [Mu.set_self] at mj; cases mj
        have := (h.dom _ _ a).2; simp only at hb; omega
      · exact h.sep i j _ _ _ _ hij ei ej a (hmu _ _ mj hj) hb
  · intro i d m
    by_cases hi : i = id
    · subst hi; rw [Mu.set_self] at m; cases m
      exact ⟨h.lt _ _ hget, by simp⟩
    · have := h.dom _ _ (hmu _ _ m hi); simp; omega
  · intro i d a m
    by_cases hi : i = id
    · subst hi; rw [Mu.set_self] at m; cases m
      exact ⟨hlt, .inl x.size⟩
    · exact x.new i d a (hmu _ _ m hi)
  · intro b hb hn
    show (w.heap.push (.cells ⟨vs⟩ el))[b]? = _
    rw [hold b (Nat.lt_of_lt_of_le hb x.size)]; exact x.frame b hb hn
  · have := x.size; simp; omega
  · intro b hb
    have := x.dkeep b hb
    have hlt : b < w.heap.size := by
      rcases Nat.lt_or_ge b w.heap.size with h | h
      · exact h
      · rw [Array.getElem?_eq_none h] at this; cases this
    show (w.heap.push (.cells ⟨vs⟩ el))[b]? = _
    rw [hold b hlt]; exact this

theorem fresh_eq {old new δ : List Nat} (h : new = δ ++ old) : fresh old new = δ := by
  subst h; unfold fresh; simp

/-! ## Whatever order is drawn -/
structure Inv (P : Program) (all : List Oper) (y : Wy) (s0 : S) (μ0 : Mu) (w0 : World) (n0 : Nat) (L : Nat → Prop) (tmps : Array Value) (μ : Mu) (w : World) (N : Nat) (δ : List Nat) : Prop where
  closed : ∀ j o, L j → all[j]? = some o → ∀ e ∈ o.after, bindsA e = true → L e.on
  ch : ∀ j o, all[j]? = some o → cls o.op = .chain → (L j ↔ j < N)
  le : N ≤ all.length
  fr : ∀ j o, all[j]? = some o → cls o.op = .chain → y.gs j = true → j < N → ∀ id, id < (y.ss j).next → id ∉ fresh (y.ss j).log (y.ss (j + 1)).log → (y.ss (j + 1)).H.get id = (y.ss j).H.get id
  t1 : ∀ i o d, L i → all[i]? = some o → o.dst = some d → (∀ k q, L k → i < k → all[k]? = some q → q.dst ≠ some d) → ∃ v', tmps[d]? = some v' ∧ VR μ (y.vs i) v'
  t2 : ∀ t v, (∀ k q, L k → all[k]? = some q → q.dst ≠ some t) → T.getP (path t) (y.es 0) = some v → ∃ v', tmps[t]? = some v' ∧ VR μ v v'
  hr : HR μ (y.ss N) w
  ext : Ext μ0 s0 w0 δ μ (y.ss N) w
  al : ∀ i o t z, all[i]? = some o → o.op = .alloc t → zero P t = some z → ¬ L i → μ (y.va i) = none ∧ (y.ss N).H.get (y.va i) = some (.cells z.cells.toList (eszOf P t) false)
  size : tmps.size = n0
  glob : GlobOK P μ

/-- What is known of the region as a whole. -/
structure Reg (P : Program) (R : Rec) (all : List Oper) (y : Wy) (s0 : S) (n0 : Nat) : Prop where
  way : ∀ n o, all[n]? = some o → WayAt P R (befL all []) all y n o
  ord : ∀ j o, all[j]? = some o → (∀ e ∈ o.after, bindsA e = true → e.on < j) ∧ ∀ k q, j < k → all[k]? = some q → (isChain o.op = true ∧ isChain q.op = true) ∨ clash all o q = true → waits (befL all []) j k = true
  as0 : y.as 0 = ⟨[], []⟩
  flt : float (befL all []) (y.as all.length) = true
  vars : ∀ j o, all[j]? = some o → cls o.op = .alloc → ∃ t z, o.op = .alloc t ∧ zero P t = some z ∧ s0.next ≤ y.va j
  vinj : ∀ i j oi oj, all[i]? = some oi → all[j]? = some oj → cls oi.op = .alloc → cls oj.op = .alloc → i ≠ j → y.va i ≠ y.va j
  wf : ∀ (j : Nat) o d, all[j]? = some o → o.dst = some d → d < n0

section
variable {R : Rec} {all : List Oper} {y : Wy} {s0 : S} {μ0 : Mu} {w0 : World} {n0 : Nat} {L : Nat → Prop} {tmps : Array Value} {μ : Mu} {w : World} {N : Nat} {δ : List Nat}

theorem isChain_iff {o : Op} : isChain o = true ↔ cls o = .chain := by
  unfold isChain
  cases cls o <;> simp

/-- What an operation that may come up now looks at stands in the temporaries. -/
theorem Inv.look (G : Reg P R all y s0 n0) (I : Inv P all y s0 μ0 w0 n0 L tmps μ w N δ) {j : Nat} {o : Oper} (ho : all[j]? = some o) (hun : ¬ L j) (hrd : ∀ e ∈ o.after, bindsA e = true → L e.on)
    {t : Tmp} (ht : t ∈ looks all o) {v : Value} (hv : T.getP (path t) (y.es j) = some v) : ∃ v', tmps[t]? = some v' ∧ VR μ v v' := by
  have hj : j < all.length := by
    rcases Nat.lt_or_ge j all.length with h | h
    · exact h
    · rw [List.getElem?_eq_none h] at ho; cases ho
  -- writers that have come up lie before
  have before : ∀ k q, L k → all[k]? = some q → q.dst = some t → k < j := by
    intro k q hk hq hd
    rcases Nat.lt_trichotomy k j with h | h | h
    · exact h
    · subst h; exact absurd hk hun
    · have hw := (G.ord j o ho).2 k q h hq (.inr (clash_right hd ht))
      exact absurd (waits_listed L I.closed k q j hq (fun e h1 h2 => I.closed k q hk hq e h1 h2) hw) hun
  have listed : ∀ k q, k < j → all[k]? = some q → q.dst = some t → L k := by
    intro k q hk hq hd
    have hw := (G.ord k q hq).2 j o hk ho (.inr (clash_left hd (.inl ht)))
    exact waits_listed L I.closed j o k ho hrd hw
  rcases es_get G.way j (Nat.le_of_lt hj) t with ⟨i, q, h1, h2, h3, h4, h5⟩ | ⟨h1, h2⟩
  · rw [h5] at hv; cases hv
    exact I.t1 i q t (listed i q h1 h2 h3) h2 h3 fun k q' hk hik hq' hd => h4 k q' hik (before k q' hk hq' hd) hq' hd
  · rw [h2] at hv
    exact I.t2 t v (fun k q hk hq hd => h1 k q (before k q hk hq hd) hq hd) hv

/-- One more operation has come up. -/
theorem Inv.step (G : Reg P R all y s0 n0) (I : Inv P all y s0 μ0 w0 n0 L tmps μ w N δ) {j : Nat} {o : Oper} (ho : all[j]? = some o) (hun : ¬ L j) (hrd : ∀ e ∈ o.after, bindsA e = true → L e.on)
    {μ' : Mu} {w' : World} {N' : Nat} {δ' : List Nat} {v' : Value} (hsub : Sub μ μ') (rv : VR μ' (y.vs j) v') {L' : Nat → Prop} (hL : ∀ i, L' i ↔ L i ∨ i = j) (bs : List Deferred)
    (hN : if cls o.op = .chain then N' = j + 1 else N' = N)
    (hfr : cls o.op = .chain → y.gs j = true → ∀ id, id < (y.ss j).next → id ∉ fresh (y.ss j).log (y.ss (j + 1)).log → (y.ss (j + 1)).H.get id = (y.ss j).H.get id)
    (hr : HR μ' (y.ss N') w') (ext : Ext μ0 s0 w0 δ' μ' (y.ss N') w')
    (al : ∀ i oi t z, all[i]? = some oi → oi.op = .alloc t → zero P t = some z → ¬ L i → i ≠ j → μ' (y.va i) = none ∧ (y.ss N').H.get (y.va i) = some (.cells z.cells.toList (eszOf P t) false)) :
    Inv P all y s0 μ0 w0 n0 L' (Act.put ⟨tmps, bs⟩ o.dst v').tmps μ' w' N' δ' := by
  have hj : j < all.length := by
    rcases Nat.lt_or_ge j all.length with h | h
    · exact h
    · rw [List.getElem?_eq_none h] at ho; cases ho
  have hput : ∀ t, o.dst ≠ some t → (Act.put ⟨tmps, bs⟩ o.dst v').tmps[t]? = tmps[t]? := by
    intro t ht
    cases hd : o.dst with
    | none => rfl
    | some d =>
      simp only [Act.put]
      rw [Array.getElem?_setIfInBounds_ne]
      intro e; subst e; exact ht hd
  have chj : ∀ k q, all[k]? = some q → cls q.op = .chain → cls o.op = .chain → k < j → L k := by
    intro k q hq hc hcj hk
    have hw := (G.ord k q hq).2 j o hk ho (.inl ⟨isChain_iff.2 hc, isChain_iff.2 hcj⟩)
    exact waits_listed L I.closed j o k ho hrd hw
  refine ⟨?_, ?_, ?_, ?_, ?_, ?_, hr, ext, ?_, ?_, I.glob.mono hsub⟩
  · intro k q hk hq e h1 h2
    rw [hL]
    rcases (hL k).1 hk with hk | rfl
    · exact .inl (I.closed k q hk hq e h1 h2)
    · rw [ho] at hq; cases hq; exact .inl (hrd e h1 h2)
  · intro k q hq hc
    rw [hL]
    split at hN
    · rename_i hcj
      subst hN
      constructor
      · rintro (h | h)
        · have := (I.ch k q hq hc).1 h
          have hnj : ¬ j < N := fun h => hun ((I.ch j o ho hcj).2 h)
          omega
        · omega
      · intro h
        by_cases e : k = j
        · exact .inr e
        · exact .inl (chj k q hq hc hcj (by omega))
    · rename_i hcj
      subst hN
      constructor
      · rintro (h | rfl)
        · exact (I.ch k q hq hc).1 h
        · rw [ho] at hq; cases hq; exact absurd hc hcj
      · exact fun h => .inl ((I.ch k q hq hc).2 h)
  · split at hN
    · omega
    · rw [hN]; exact I.le
  · intro k q hq hc hg hk
    split at hN
    · rename_i hcj
      by_cases e : k = j
      · subst e; rw [ho] at hq; cases hq; exact hfr hcj hg
      · exact I.fr k q hq hc hg ((I.ch k q hq hc).1 (chj k q hq hc hcj (by omega)))
    · rw [hN] at hk; exact I.fr k q hq hc hg hk
  · intro i q d hi hq hd hlast
    rcases (hL i).1 hi with hi' | rfl
    · have hne : o.dst ≠ some d := by
        intro hdj
        rcases Nat.lt_trichotomy i j with h | h | h
        · exact hlast j o ((hL j).2 (.inr rfl)) h ho hdj
        · subst h; exact hun hi'
        · have hw := (G.ord j o ho).2 i q h hq (.inr (clash_left hdj (.inr hd)))
          exact hun (waits_listed L I.closed i q j hq (fun e h1 h2 => I.closed i q hi' hq e h1 h2) hw)
      obtain ⟨u, a, r⟩ := I.t1 i q d hi' hq hd fun k q' hk hik hq' => hlast k q' ((hL k).2 (.inl hk)) hik hq'
      exact ⟨u, by rw [hput d hne]; exact a, r.mono hsub⟩
    · rw [ho] at hq; cases hq
      refine ⟨v', ?_, rv⟩
      have := G.wf i o d ho hd
      simp only [Act.put, hd]
      rw [← I.size] at this
      simp [this]
  · intro t v hno hv
    have hne : o.dst ≠ some t := hno j o ((hL j).2 (.inr rfl)) ho
    obtain ⟨u, a, r⟩ := I.t2 t v (fun k q hk hq => hno k q ((hL k).2 (.inl hk)) hq) hv
    exact ⟨u, by rw [hput t hne]; exact a, r.mono hsub⟩
  · intro i oi t z h1 h2 h3 h4
    rw [hL, not_or] at h4
    exact al i oi t z h1 h2 h3 h4.1 h4.2
  · rw [← I.size]
    cases hd : o.dst <;> simp [Act.put]
end

end Go.AE
