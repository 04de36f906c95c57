/- THE EVALUATOR, a part: what an evaluator of loaded programs answers the model's machine answers. No condition. -/
import Derived.Test.YtiookgkdekdefaaGreatDoorAeOps11
namespace Go.AE

variable {P : Program} {μ : Mu} {w : World} {E : T Value} {tmps : Array Value} {dfs : List Deferred}

/-! ## Runs that do not depend on what waits behind them -/
def CallsTo (P : Program) (f : FuncId) (args : Array Value) (w : World) (v : Value) (w' : World) : Prop :=
  ∀ cs, ∃ fr, Steps P (lone (Frame.enter P f args .normal) cs w) (lone fr cs w') ∧ fr.fn = f ∧ fr.leaving P w' (.returned v)
def RoundTo (P : Program) (l : Nat) (f : FuncId) (tmps : Array Value) (as bd : Code) (w : World) (v : Value) (w' : World) : Prop :=
  ∀ c cs, Steps P (lone (Frame.round l f tmps as bd .normal) (c :: cs) w) (lone (c.finish v) cs w')

/-- What an operation's word comes to, whatever waits behind it. -/
inductive Ev (P : Program) (sem : Sem Next) (w : World) (v : Value) (w' : World) : Prop
  | value : sem.run P w = .ok (.value v) w' → Ev P sem w v w'
  | skip : sem.run P w = .ok .skip w' → v = undef → Ev P sem w v w'
  | enter {f : FuncId} {args : Array Value} {w1 : World} : sem.run P w = .ok (.enter f args) w1 → CallsTo P f args w1 v w' → Ev P sem w v w'
  | round {l : Nat} {f : FuncId} {tmps : Array Value} {as bd : Code} {w1 : World} : sem.run P w = .ok (.round l f tmps as bd) w1 → RoundTo P l f tmps as bd w1 v w' → Ev P sem w v w'

theorem Ev.steps {b : Frame} {a : Act} {k : List Item} {cs : List Frame} {ops : Array Oper} {i : Nat} {rest : List Nat} {o : Oper} {v : Value} {w' : World} (ho : ops[i]? = some o)
    (hw : Region.wanted o (yielded ops a.tmps) = true) (hnd : ∀ c, o.op ≠ .defer c) (h : Ev P (execOp a.eval o) w v w') :
    Steps P (lone (b.atR a (.inRegion ops (i :: rest) :: k)) cs w) (lone (b.atR (a.put o.dst v) (.inRegion ops rest :: k)) cs w') := by
  have hg := stepGR_op (P := P) (b := b) (k := k) (cs := cs) (w := w) (rest := rest) ho hw
  rw [Oper.semAt_eq _ _ _ hnd] at hg
  have hfin : ∀ v, (b.atR a (.inRegion ops (i :: rest) :: k)).finish v = b.atR (a.put o.dst v) (.inRegion ops rest :: k) := by
    intro v; rw [Frame.finish_atR, ho]; rfl
  cases h with
  | value hr => exact .one (step_lone_go (by rw [hg, ← hfin]; simp [stepG.apply, hr]))
  | skip hr hv => subst hv; exact .one (step_lone_go (by rw [hg, ← hfin]; simp [stepG.apply, hr]))
  | @enter f args w1 hr hc =>
    obtain ⟨fr, h1, _, h3⟩ := hc (b.atR a (.inRegion ops (i :: rest) :: k) :: cs)
    have henter : Go.step P (lone (b.atR a (.inRegion ops (i :: rest) :: k)) cs w) = .next (lone (Frame.enter P f args .normal) (b.atR a (.inRegion ops (i :: rest) :: k) :: cs) w1) :=
      step_lone_go (by rw [hg]; simp [stepG.apply, hr, Frame.atR])
    refine .head henter (h1.trans (.one ?_))
    rw [← hfin]; exact step_leave_returned h3
  | @round l f tmps as bd w1 hr hc =>
    have henter : Go.step P (lone (b.atR a (.inRegion ops (i :: rest) :: k)) cs w) = .next (lone (Frame.round l f tmps as bd .normal) (b.atR a (.inRegion ops (i :: rest) :: k) :: cs) w1) :=
      step_lone_go (by rw [hg]; simp [stepG.apply, hr, Frame.atR])
    refine .head henter ?_
    rw [← hfin]; exact hc _ _

/-! ## What is asked of the evaluator's parts -/
def CallSpec (P : Program) (f : FuncId) (args : List Value) (s : S) (Q : Value × S → Prop) : Prop :=
  ∀ (μ : Mu) (w : World) (args' : List Value), HR μ s w → GlobOK P μ → VRs μ args args' →
    ∃ v s' v' μ' w' δ, Q (v, s') ∧ CallsTo P f ⟨args'⟩ w v' w' ∧ VR μ' v v' ∧ HR μ' s' w' ∧ Ext μ s w δ μ' s' w'
def RoundSpec (P : Program) (l : Nat) (args : List Value) (s : S) (Q : Value × S → Prop) : Prop :=
  ∀ (μ : Mu) (w : World) (d : Wd) (args' : List Value), HR μ s w → GlobOK P μ → μ l = some d → VRs μ args args' →
    ∃ v s' v' μ' w' δ, Q (v, s') ∧ (∃ f tmps as bd, (Instr.yield d.blk ⟨args'⟩).run P w = .ok (.round d.blk f tmps as bd) w ∧ RoundTo P d.blk f tmps as bd w v' w') ∧ VR μ' v v' ∧ HR μ' s' w' ∧ Ext μ s w δ μ' s' w'

/-- The marks of a frame's loops over functions. -/
def marks (bs : List Nat) : List Deferred := bs.map fun b => { target := .collected b, args := #[] }
def DfsOK (base : Nat) (w : World) (bs : List Nat) : Prop := bs.Nodup ∧ base ≤ w.heap.size ∧ ∀ x ∈ bs, base ≤ x ∧ w.heap[x]? = some (Obj.deferred (some []))
theorem DfsOK.ext {base : Nat} {w w' : World} {bs : List Nat} {s s' : S} {μ μ' : Mu} {δ : List Nat} (h : DfsOK base w bs) (x : Ext μ s w δ μ' s' w') : DfsOK base w' bs :=
  ⟨h.1, Nat.le_trans h.2.1 x.size, fun b hb => ⟨(h.2.2 b hb).1, x.dkeep b (h.2.2 b hb).2⟩⟩

inductive Lands (k : List Item) : Res → List Item → Prop
  | normal : Lands k .normal k
  | exit {id : Nat} {k1 : List Item} : exitTo id k1 = exitTo id k → Lands k (.exit id) (.code (.exit id) :: k1)
  | ret {k1 : List Item} : Lands k .ret (.code .ret :: k1)

def CodeSpec (P : Program) (q : Bool) (c : Code) (E : T Value) (s : S) (Q : Res × T Value × S → Prop) : Prop :=
  ∀ (b : Frame) (tmps : Array Value) (bs : List Nat) (base : Nat) (μ : Mu) (w : World), b.roundOf.isSome = q → HR μ s w → ER μ E tmps → GlobOK P μ → wf tmps.size c = true → DfsOK base w bs →
    ∃ r E' s' tmps' bs' μ' w' δ, Q (r, E', s') ∧ ER μ' E' tmps' ∧ HR μ' s' w' ∧ Ext μ s w δ μ' s' w' ∧ tmps'.size = tmps.size ∧ DfsOK base w' bs' ∧ (q = true → bs' = bs) ∧
      ∀ (k : List Item) (cs : List Frame), ∃ k', Lands k r k' ∧ Steps P (lone (b.atR ⟨tmps, marks bs⟩ (.code c :: k)) cs w) (lone (b.atR ⟨tmps', marks bs'⟩ k') cs w')

structure RecOK (P : Program) (R : Rec) : Prop where
  code : ∀ q c E s Q, (R.code q c E s).wp Q → CodeSpec P q c E s Q
  call : ∀ f args s Q, (R.call f args s).wp Q → CallSpec P f args s Q
  round : ∀ l args s Q, (R.round l args s).wp Q → RoundSpec P l args s Q

/-- An operation, carried to its end. -/
theorem finish_sound {R : Rec} (hR : RecOK P R) {sem : Sem Next} {s s1 : S} {out : Out} (hH : HR μ s w) (hg : GlobOK P μ) (h : StepOK P μ s w sem out s1) {Q : Value × S → Prop} (hf : (finish R (out, s1)).wp Q) :
    ∃ v s' v' μ' w' δ, Q (v, s') ∧ Ev P sem w v' w' ∧ VR μ' v v' ∧ HR μ' s' w' ∧ Ext μ s w δ μ' s' w' := by
  cases out with
  | value v =>
    obtain ⟨nx, v', μ', w', δ, h1, h2, h3, h4, h5⟩ := h
    refine ⟨v, s1, v', μ', w', δ, hf, ?_, h3, h4, h5⟩
    rcases h2 with rfl | ⟨rfl, h2⟩
    · exact .value h1
    · exact .skip h1 h2
  | enter f args =>
    obtain ⟨rfl, args', h1, h2⟩ := h
    obtain ⟨v, s', v', μ', w', δ, q, c, r, g, x⟩ := hR.call f args _ Q hf μ w args' hH hg h2
    exact ⟨v, s', v', μ', w', δ, q, .enter h1 c, r, g, x⟩
  | round l args =>
    obtain ⟨rfl, d, args', h1, h2, h3⟩ := h
    obtain ⟨v, s', v', μ', w', δ, q, ⟨f, tmps, as, bd, c1, c2⟩, r, g, x⟩ := hR.round l args _ Q hf μ w d args' hH hg h1 h2
    exact ⟨v, s', v', μ', w', δ, q, .round (h3.trans c1) c2, r, g, x⟩

/-! ## Guards, results -/
theorem guard_sound {ops : Array Oper} {o : Oper} (hE : ER μ E tmps) {g : Bool} (h : (guardOf ops.toList o).run E = some g) : Region.wanted o (yielded ops tmps) = g := by
  unfold guardOf at h
  unfold Region.wanted
  cases hg : o.guard with
  | none => simp only [hg] at h ⊢; exact Option.some.inj h
  | some gw =>
    obtain ⟨j, want⟩ := gw
    simp only [hg] at h ⊢
    rw [nth_eq] at h
    split at h
    · cases h
    · rename_i q hq
      have hq' : ops[j]? = some q := by simpa using hq
      split at h
      · cases h
      · rename_i d hd
        simp only at h
        have hy : yielded ops tmps j = match tmps[d]? with | some (.bool b) => some b | _ => none := by
          simp only [yielded, hq', Option.bind_some, hd]
          cases tmps[d]? with
          | none => rfl
          | some u => cases u <;> rfl
        rw [hy]
        split at h
        · rename_i b hb
          obtain ⟨v', a, r⟩ := hE d _ hb
          cases r
          rw [a]
          simp only [Option.some.injEq] at h; subst h
          cases b <;> cases want <;> rfl
        · rename_i v hnb hb
          simp only [Option.some.injEq] at h; subst h
          obtain ⟨v', a, r⟩ := hE d _ hb
          rw [a]
          cases r <;> first | rfl | exact (hnb _ rfl).elim
        · cases h

theorem put_sound {μ : Mu} {E : T Value} {tmps : Array Value} {bs : List Deferred} (hE : ER μ E tmps) {o : Oper} {v v' : Value} (r : VR μ v v') (hw : ∀ d, o.dst = some d → d < tmps.size) :
    ER μ ((putTo o.dst).run E v) ((Act.put ⟨tmps, bs⟩ o.dst v').tmps) ∧ (Act.put ⟨tmps, bs⟩ o.dst v').tmps.size = tmps.size ∧ (Act.put ⟨tmps, bs⟩ o.dst v').defers = bs := by
  cases hd : o.dst with
  | none => exact ⟨hE, rfl, rfl⟩
  | some d => exact ⟨hE.set (hw d hd) r, by simp [Act.put], rfl⟩

theorem put_eta (tmps : Array Value) (bs : List Deferred) (d : Option Tmp) (v : Value) : Act.put ⟨tmps, bs⟩ d v = ⟨(Act.put ⟨tmps, bs⟩ d v).tmps, bs⟩ := by cases d <;> rfl

theorem undef_rel (μ : Mu) : VR μ undef undef := .tuple .nil

/-! ## A region in its written order -/
theorem opers_sound {R : Rec} (hR : RecOK P R) (ops : Array Oper) (b : Frame) (bs : List Deferred) : ∀ (l : List Oper) (i : Nat) {E : T Value} {s : S} {Q : T Value × S → Prop} {tmps : Array Value} {μ : Mu} {w : World},
    (∀ j, l[j]? = ops[i + j]?) → (opers R (obs P ops.toList l) E s).wp Q → HR μ s w → ER μ E tmps → GlobOK P μ → (∀ o ∈ l, ∀ d, o.dst = some d → d < tmps.size) →
    ∃ E' s' tmps' μ' w' δ, Q (E', s') ∧ ER μ' E' tmps' ∧ HR μ' s' w' ∧ Ext μ s w δ μ' s' w' ∧ tmps'.size = tmps.size ∧
      ∀ (k : List Item) (cs : List Frame), Steps P (lone (b.atR ⟨tmps, bs⟩ (.inRegion ops (List.range' i l.length) :: k)) cs w) (lone (b.atR ⟨tmps', bs⟩ (.inRegion ops [] :: k)) cs w')
  | [], i, E, s, Q, tmps, μ, w, _, h, hH, hE, _, _ => ⟨E, s, tmps, μ, w, [], h, hE, hH, Ext.refl, rfl, fun k cs => Steps.refl _ _⟩
  | o :: l, i, E, s, Q, tmps, μ, w, hl, h, hH, hE, hg, hwf => by
    have ho : ops[i]? = some o := by have := hl 0; simpa using this.symm
    have hl' : ∀ j, l[j]? = ops[(i + 1) + j]? := by
      intro j; have := hl (j + 1); rw [show i + 1 + j = i + (j + 1) by omega]; simpa using this
    change (match (guardOf ops.toList o).run E with
      | none => Tr.fail
      | some false => opers R (obs P ops.toList l) ((putTo o.dst).run E undef) s
      | some true => ((hd P o.op).run E s).bind fun x => (finish R x).bind fun y => match y with | (v, S2) => opers R (obs P ops.toList l) ((putTo o.dst).run E v) S2).wp Q at h
    split at h
    · exact h.elim
    · rename_i hgd
      have hwd := guard_sound hE hgd
      obtain ⟨p1, p2, p3⟩ := put_sound (bs := bs) hE (undef_rel μ) (hwf o (by simp))
      obtain ⟨E', s', tmps', μ', w', δ, q, a1, a2, a3, a4, a5⟩ := opers_sound hR ops b bs l (i + 1) hl' h hH p1 hg (fun o' ho' d hd => by rw [p2]; exact hwf o' (by simp [ho']) d hd)
      refine ⟨E', s', tmps', μ', w', δ, q, a1, a2, a3, a4.trans p2, fun k cs => ?_⟩
      have hs := stepR_op_skip (P := P) (b := b) (a := ⟨tmps, bs⟩) (k := k) (cs := cs) (w := w) (ops := ops) (i := i) (rest := List.range' (i + 1) l.length) (by rw [ho]; simpa using hwd)
      rw [ho] at hs
      have ha : Act.put ⟨tmps, bs⟩ ((some o).bind (·.dst)) undef = ⟨(Act.put ⟨tmps, bs⟩ o.dst undef).tmps, bs⟩ := by
        exact put_eta _ _ _ _
      rw [ha] at hs
      exact .head hs (a5 k cs)
    · rename_i hgd
      have hwd := guard_sound hE hgd
      have h := Tr.wp_bind.1 h
      have hnd := hd_defer (P := P) o h
      obtain ⟨out, s1, hq, hst⟩ := hd_step (dfs := bs) o hE hg hH h
      have hq := Tr.wp_bind.1 hq
      obtain ⟨v, s2, v', μ2, w2, δ2, q2, ev, rv, hH2, x2⟩ := finish_sound hR hH hg hst hq
      obtain ⟨p1, p2, p3⟩ := put_sound (bs := bs) (hE.mono x2.sub) rv (hwf o (by simp))
      obtain ⟨E', s', tmps', μ', w', δ, q, a1, a2, a3, a4, a5⟩ := opers_sound hR ops b bs l (i + 1) hl' q2 hH2 p1 (hg.mono x2.sub) (fun o' ho' d hd => by rw [p2]; exact hwf o' (by simp [ho']) d hd)
      refine ⟨E', s', tmps', μ', w', _, q, a1, a2, x2.trans a3, a4.trans p2, fun k cs => ?_⟩
      have hs := Ev.steps (P := P) (b := b) (a := ⟨tmps, bs⟩) (k := k) (cs := cs) (rest := List.range' (i + 1) l.length) ho hwd hnd ev
      have ha : Act.put ⟨tmps, bs⟩ o.dst v' = ⟨(Act.put ⟨tmps, bs⟩ o.dst v').tmps, bs⟩ := put_eta _ _ _ _
      rw [ha] at hs
      exact hs.trans (a5 k cs)

end Go.AE
