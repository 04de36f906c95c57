/- THE EVALUATOR, a part: what an evaluator of loaded programs answers the model's machine answers. No condition. -/
import Derived.Test.YtiookgkdekdefaaGreatDoorAeDraw3
namespace Go.AE

variable {P : Program}

section moves
variable {b : Frame} {a : Act} {k : List Item} {cs : List Frame} {w : World}
theorem stepR_scope {c : Code} : Go.step P (lone (b.atR a (.code (.scope c) :: k)) cs w) = .next (lone (b.atR a (.code c :: .inScope c :: k)) cs w) :=
  step_lone_go (by simp [stepG, stepG.exec, Frame.atR])
theorem stepR_inScope {c : Code} : Go.step P (lone (b.atR a (.inScope c :: k)) cs w) = .next (lone (b.atR a k) cs w) :=
  step_lone_go (by simp [stepG, stepG.exec, Frame.atR])
theorem stepR_rangeFunc {f : Operand} {params : Array Tmp} {assign body : Code} {l : Nat} {mark : List Deferred} {w1 w2 : World} {g : FuncId} {args : Array Value} (hb : b.roundOf = none)
    (h1 : (Instr.enterLoop b.fn a.tmps params assign body none).run P w = .ok (l, mark) w1)
    (h2 : (do let d ← Deferred.ofValue (Act.eval a f) #[.func (.yield l) #[] #[]]; Go.invoke d.target d.args : Sem Next).run P w1 = .ok (.enter g args) w2) :
    Go.step P (lone (b.atR a (.code (.rangeFunc f params assign body) :: k)) cs w) =
      .next (lone (Frame.enter P g args .normal) (b.atR ⟨a.tmps, mark ++ a.defers⟩ (.inRangeFunc l :: k) :: cs) w2) :=
  step_lone_go (by
    have he := Frame.eval_atR b ⟨a.tmps, mark ++ a.defers⟩ (.inRangeFunc l :: k)
    have he2 : Act.eval ⟨a.tmps, mark ++ a.defers⟩ = Act.eval a := by funext x; cases x <;> rfl
    rw [he2] at he
    simp only [Frame.atR, hb] at he
    have hr : resolve (Act.eval a) { callee := .value f, args := #[.const (.func (.yield l) #[] #[])], argTypes := #[] } 0 = Deferred.ofValue (Act.eval a f) #[.func (.yield l) #[] #[]] := by
      simp [resolve, Act.eval]
    simp [stepG, stepG.exec, Frame.atR, hb, Sem.runT_eq, h1, stepG.apply, he, hr]
    rw [← Sem.run_bind, h2]
    simp)
theorem stepR_endRangeFunc {l : Nat} {jump : Option Code} {w1 : World} (h1 : (Instr.endLoop l).run P w = .ok jump w1) :
    Go.step P (lone (b.atR a (.endRangeFunc l :: k)) cs w) = .next (lone (b.atR a ((jump.map Item.code).toList ++ k)) cs w1) :=
  step_lone_go (by simp [stepG, stepG.exec, Frame.atR, Sem.runT_eq, h1])
end moves

variable {μ : Mu} {w : World} {E : T Value} {tmps : Array Value}

/-- A run that moves at all begins with the first step. -/
theorem Steps.behind {m m1 m' : Machine} (h : Steps P m m') (h1 : Go.step P m = .next m1) (hne : m ≠ m') : Steps P m1 m' := by
  obtain ⟨n, hn⟩ := h
  cases n with
  | zero => simp only [runN] at hn; cases hn; exact absurd rfl hne
  | succ n =>
    simp only [runN, h1] at hn
    exact ⟨n, hn⟩
theorem Lands.ne_loop {k : List Item} {r : Res} {k' : List Item} {c : Code} (h : Lands k r k') : k' ≠ .code (.loop c) :: k := by
  cases h with
  | normal => intro e; have := congrArg List.length e; simp at this
  | exit _ => intro e; cases e
  | ret => intro e; cases e
theorem lone_todo {b b' : Frame} {a a' : Act} {k k' : List Item} {cs cs' : List Frame} {w w' : World} (h : lone (b.atR a k) cs w = lone (b'.atR a' k') cs' w') : k = k' := by
  have h1 := congrArg Machine.gs h
  simp only [lone] at h1
  have h2 := congrArg (fun g => g[0]?) h1
  simp at h2
  have := congrArg Frame.todo h2.1
  simpa [Frame.atR] using this

theorem enterLoop_run (fn : FuncId) (tm : Array Value) (ps : Array Tmp) (as bd : Code) :
    (Instr.enterLoop fn tm ps as bd none).run P w = .ok (w.heap.size + 1, [{ target := .collected w.heap.size, args := #[] }])
      { w with heap := (w.heap.push (.deferred (some []))).push (.loop { state := .ready, pending := none, fn, tmps := tm, params := ps, assign := as, body := bd, defers := w.heap.size }) } := by
  simp only [Instr.enterLoop, Sem.run_bind, run_newObj, Result.andThen_ok, Sem.run_pure, Array.size_push]

theorem endLoop_run {l : Nat} {r : Loop} (h : w.heap[l]? = some (.loop r)) (hs : r.state ≠ .busy) :
    (Instr.endLoop l).run P w = .ok r.pending { w with heap := w.heap.setIfInBounds l (.loop { r with state := .exhausted }) } := by
  have hb : (r.state == .busy) = false := by
    cases hst : r.state <;> first | rfl | exact absurd hst hs
  simp only [Instr.endLoop, Instr.getLoop, Sem.run_bind, run_getObj h (by intro a b c e; cases e), Result.andThen_ok, hb, Bool.false_eq_true, if_false, run_setObj h (by intro a b c e; cases e), Sem.run_pure]

/-- The objects of a loop over a function. -/
theorem enterLoop_sound {s : S} (hH : HR μ s w) (hE : ER μ E tmps) {ps : Array Tmp} {as bd : Code} (fn : FuncId) (h1 : wf tmps.size as = true) (h2 : wf tmps.size bd = true) (h3 : ps.toList.all (Nat.blt · tmps.size) = true) :
    ∃ μ' , HR μ' ((s.new .deferred).new (.loop .ready none 0 E ps.toList as bd s.next)) { w with heap := (w.heap.push (.deferred (some []))).push (.loop { state := .ready, pending := none, fn, tmps, params := ps, assign := as, body := bd, defers := w.heap.size }) } ∧
      Ext μ s w [] μ' ((s.new .deferred).new (.loop .ready none 0 E ps.toList as bd s.next)) { w with heap := (w.heap.push (.deferred (some []))).push (.loop { state := .ready, pending := none, fn, tmps, params := ps, assign := as, body := bd, defers := w.heap.size }) } ∧
      μ' (s.next + 1) = some ⟨w.heap.size + 1, 0, 0, 0⟩ := by
  obtain ⟨a1, a2⟩ := hH.newObj .deferred (.deferred (some [])) (fun _ _ _ _ _ e => ⟨_, e⟩)
  obtain ⟨b1, b2⟩ := a1.newObj (.loop .ready none 0 E ps.toList as bd s.next) (.loop { state := .ready, pending := none, fn, tmps, params := ps, assign := as, body := bd, defers := w.heap.size })
    (fun ν w' d hs _ e => ⟨fn, tmps, w.heap.size, e, (hE.mono a2.sub).mono hs, h1, h2, h3⟩)
  simp only [Array.size_push] at b1 b2
  refine ⟨_, b1, a2.trans b2, ?_⟩
  rw [← S.new_next s .deferred]; exact Mu.set_self _ _ _

/-- What code leads to. -/
def Lead (P : Program) (q : Bool) (c : Code) (s : S) (Q : Res × T Value × S → Prop) (b : Frame) (tmps : Array Value) (bs : List Nat) (base : Nat) (μ : Mu) (w : World) : Prop :=
  ∃ r E' s' tmps' bs' μ' w' δ, Q (r, E', s') ∧ ER μ' E' tmps' ∧ HR μ' s' w' ∧ Ext μ s w δ μ' s' w' ∧ tmps'.size = tmps.size ∧ DfsOK base w' bs' ∧ (q = true → bs' = bs) ∧
    ∀ (k : List Item) (cs : List Frame), ∃ k', Lands k r k' ∧ Steps P (lone (b.atR ⟨tmps, marks bs⟩ (.code c :: k)) cs w) (lone (b.atR ⟨tmps', marks bs'⟩ k') cs w')

theorem cond_sound {q t : Bool} {c : Operand} {x y z : Code} {E : T Value} {s : S} {Q : Res × T Value × S → Prop} (hc : (opd P c).run E = some (.bool t)) (hz : (if t then x else y) = z) (hw : ∀ n, wf n (.cond c x y) = true → wf n z = true)
    (h : CodeSpec P q z E s Q) : CodeSpec P q (.cond c x y) E s Q := by
  intro b tmps bs base μ w hq hH hE hg hwf hdf
  obtain ⟨v', e1, e2⟩ := opd_sound (dfs := marks bs) hE c hg hc
  cases e2
  obtain ⟨r, E1, s1, tmps1, bs1, μ1, w1, δ1, q1, a1, a2, a3, a4, a5, a6, a7⟩ := h b tmps bs base μ w hq hH hE hg (hw _ hwf) hdf
  refine ⟨r, E1, s1, tmps1, bs1, μ1, w1, δ1, q1, a1, a2, a3, a4, a5, a6, fun k cs => ?_⟩
  obtain ⟨k1, l1, st1⟩ := a7 k cs
  refine ⟨k1, l1, .head (stepR_cond e1) ?_⟩
  rw [hz]; exact st1

theorem cd_sound {R : Rec} (hR : RecOK P R) : ∀ (c : Code) (q : Bool) {E : T Value} {s : S} {Q : Res × T Value × S → Prop}, ((cd P c).run R q E s).wp Q → CodeSpec P q c E s Q
  | .skip, q, E, s, Q, h => fun b tmps bs base μ w hq hH hE hg hwf hdf => ⟨_, _, _, tmps, bs, μ, w, [], h, hE, hH, Ext.refl, rfl, hdf, fun _ => rfl, fun k cs => ⟨k, .normal, .one stepR_skip⟩⟩
  | .label _, q, E, s, Q, h => fun b tmps bs base μ w hq hH hE hg hwf hdf => ⟨_, _, _, tmps, bs, μ, w, [], h, hE, hH, Ext.refl, rfl, hdf, fun _ => rfl, fun k cs => ⟨k, .normal, .one stepR_label⟩⟩
  | .region id ops draw, q, E, s, Q, h => region_sound hR h
  | .seq x y, q, E, s, Q, h => by
    intro b tmps bs base μ w hq hH hE hg hwf hdf
    simp only [wf, Bool.and_eq_true] at hwf
    obtain ⟨r, E1, s1, tmps1, bs1, μ1, w1, δ1, q1, a1, a2, a3, a4, a5, a6, a7⟩ := cd_sound hR x q (Tr.wp_bind.1 h) b tmps bs base μ w hq hH hE hg hwf.1 hdf
    cases r with
    | normal =>
      obtain ⟨r, E2, s2, tmps2, bs2, μ2, w2, δ2, q2, c1, c2, c3, c4, c5, c6, c7⟩ := cd_sound hR y q q1 b tmps1 bs1 base μ1 w1 hq a2 a1 (hg.mono a3.sub) (by rw [a4]; exact hwf.2) a5
      refine ⟨r, E2, s2, tmps2, bs2, μ2, w2, _, q2, c1, c2, a3.trans c3, c4.trans a4, c5, fun e => (c6 e).trans (a6 e), fun k cs => ?_⟩
      obtain ⟨k1, l1, st1⟩ := a7 (.code y :: k) cs
      cases l1
      obtain ⟨k2, l2, st2⟩ := c7 k cs
      exact ⟨k2, l2, .head stepR_seq (st1.trans st2)⟩
    | exit i =>
      refine ⟨_, E1, s1, tmps1, bs1, μ1, w1, _, q1, a1, a2, a3, a4, a5, a6, fun k cs => ?_⟩
      obtain ⟨k1, l1, st1⟩ := a7 (.code y :: k) cs
      cases l1 with
      | exit hx => exact ⟨_, .exit hx, .head stepR_seq st1⟩
    | ret =>
      refine ⟨_, E1, s1, tmps1, bs1, μ1, w1, _, q1, a1, a2, a3, a4, a5, a6, fun k cs => ?_⟩
      obtain ⟨k1, l1, st1⟩ := a7 (.code y :: k) cs
      cases l1 with
      | ret => exact ⟨_, .ret, .head stepR_seq st1⟩
  | .cond c x y, q, E, s, Q, h => by
    unfold cd at h
    simp only at h
    split at h
    · rename_i hc; exact cond_sound (t := true) hc rfl (fun n hw => by simp only [wf, Bool.and_eq_true] at hw; exact hw.1) (cd_sound hR x q h)
    · rename_i hc; exact cond_sound (t := false) hc rfl (fun n hw => by simp only [wf, Bool.and_eq_true] at hw; exact hw.2) (cd_sound hR y q h)
    · exact h.elim
  | .block id x, q, E, s, Q, h => by
    intro b tmps bs base μ w hq hH hE hg hwf hdf
    obtain ⟨r, E1, s1, tmps1, bs1, μ1, w1, δ1, q1, a1, a2, a3, a4, a5, a6, a7⟩ := cd_sound hR x q (Tr.wp_bind.1 h) b tmps bs base μ w hq hH hE hg hwf hdf
    cases r with
    | normal =>
      refine ⟨.normal, E1, s1, tmps1, bs1, μ1, w1, δ1, q1, a1, a2, a3, a4, a5, a6, fun k cs => ?_⟩
      obtain ⟨k1, l1, st1⟩ := a7 (.inBlock id :: k) cs
      cases l1
      exact ⟨k, .normal, .head stepR_block (st1.trans (.one stepR_inBlock))⟩
    | exit i =>
      refine ⟨bif Nat.beq i id then .normal else .exit i, E1, s1, tmps1, bs1, μ1, w1, δ1, q1, a1, a2, a3, a4, a5, a6, fun k cs => ?_⟩
      obtain ⟨k1, l1, st1⟩ := a7 (.inBlock id :: k) cs
      cases l1 with
      | @exit _ k1 hx =>
        simp only [exitTo] at hx
        rw [cond_eq]
        split
        · rename_i hi
          have hi := Nat.eq_of_beq_eq_true hi
          subst hi
          simp only [beq_self_eq_true, if_true] at hx
          exact ⟨k, .normal, .head stepR_block (st1.trans (.one (stepR_exit hx)))⟩
        · rename_i hi
          have hne : (id == i) = false := by
            cases hb : id == i with
            | false => rfl
            | true => have := eq_of_beq hb; subst this; exact absurd (Nat.beq_refl _) hi
          rw [hne] at hx
          exact ⟨_, .exit hx, .head stepR_block st1⟩
    | ret =>
      refine ⟨.ret, E1, s1, tmps1, bs1, μ1, w1, δ1, q1, a1, a2, a3, a4, a5, a6, fun k cs => ?_⟩
      obtain ⟨k1, l1, st1⟩ := a7 (.inBlock id :: k) cs
      cases l1
      exact ⟨_, .ret, .head stepR_block st1⟩
  | .loop x, q, E, s, Q, h => by
    intro b tmps bs base μ w hq hH hE hg hwf hdf
    obtain ⟨r, E1, s1, tmps1, bs1, μ1, w1, δ1, q1, a1, a2, a3, a4, a5, a6, a7⟩ := cd_sound hR x q (Tr.wp_bind.1 h) b tmps bs base μ w hq hH hE hg hwf hdf
    cases r with
    | normal =>
      obtain ⟨r, E2, s2, tmps2, bs2, μ2, w2, δ2, q2, c1, c2, c3, c4, c5, c6, c7⟩ := hR.code q (.loop x) E1 s1 Q q1 b tmps1 bs1 base μ1 w1 hq a2 a1 (hg.mono a3.sub) (by rw [a4]; exact hwf) a5
      refine ⟨r, E2, s2, tmps2, bs2, μ2, w2, _, q2, c1, c2, a3.trans c3, c4.trans a4, c5, fun e => (c6 e).trans (a6 e), fun k cs => ?_⟩
      obtain ⟨k1, l1, st1⟩ := a7 (.inLoop x :: k) cs
      cases l1
      obtain ⟨k2, l2, st2⟩ := c7 k cs
      have st3 := Steps.behind st2 stepR_loop (fun e => l2.ne_loop (lone_todo e).symm)
      exact ⟨k2, l2, .head stepR_loop (st1.trans (.head stepR_inLoop st3))⟩
    | exit i =>
      refine ⟨_, E1, s1, tmps1, bs1, μ1, w1, _, q1, a1, a2, a3, a4, a5, a6, fun k cs => ?_⟩
      obtain ⟨k1, l1, st1⟩ := a7 (.inLoop x :: k) cs
      cases l1 with
      | exit hx => exact ⟨_, .exit hx, .head stepR_loop st1⟩
    | ret =>
      refine ⟨_, E1, s1, tmps1, bs1, μ1, w1, _, q1, a1, a2, a3, a4, a5, a6, fun k cs => ?_⟩
      obtain ⟨k1, l1, st1⟩ := a7 (.inLoop x :: k) cs
      cases l1
      exact ⟨_, .ret, .head stepR_loop st1⟩
  | .scope x, q, E, s, Q, h => by
    intro b tmps bs base μ w hq hH hE hg hwf hdf
    obtain ⟨r, E1, s1, tmps1, bs1, μ1, w1, δ1, q1, a1, a2, a3, a4, a5, a6, a7⟩ := cd_sound hR x q h b tmps bs base μ w hq hH hE hg hwf hdf
    refine ⟨r, E1, s1, tmps1, bs1, μ1, w1, δ1, q1, a1, a2, a3, a4, a5, a6, fun k cs => ?_⟩
    obtain ⟨k1, l1, st1⟩ := a7 (.inScope x :: k) cs
    cases l1 with
    | normal => exact ⟨k, .normal, .head stepR_scope (st1.trans (.one stepR_inScope))⟩
    | exit hx => exact ⟨_, .exit hx, .head stepR_scope st1⟩
    | ret => exact ⟨_, .ret, .head stepR_scope st1⟩
  | .exit id, q, E, s, Q, h => fun b tmps bs base μ w hq hH hE hg hwf hdf => ⟨_, _, _, tmps, bs, μ, w, [], h, hE, hH, Ext.refl, rfl, hdf, fun _ => rfl, fun k cs => ⟨_, .exit rfl, Steps.refl _ _⟩⟩
  | .ret, q, E, s, Q, h => fun b tmps bs base μ w hq hH hE hg hwf hdf => ⟨_, _, _, tmps, bs, μ, w, [], h, hE, hH, Ext.refl, rfl, hdf, fun _ => rfl, fun k cs => ⟨_, .ret, Steps.refl _ _⟩⟩
  | .rangeFunc f params assign body, q, E, s, Q, h => by
    intro b tmps bs base μ w hq hH hE hg hwf hdf
    simp only [wf, Bool.and_eq_true] at hwf
    obtain ⟨⟨wf1, wf2⟩, wf3⟩ := hwf
    unfold cd at h
    simp only at h
    split at h
    · exact h.elim
    · exact h.elim
    · rename_i fv hfv
      have hb : b.roundOf = none := by
        cases hro : b.roundOf with
        | none => rfl
        | some _ => rw [hro] at hq; cases hq
      split at h
      · rename_i g args hcall
        have h := Tr.wp_bind.1 h
        obtain ⟨fv', f1, f2⟩ := opd_sound (dfs := marks bs) hE f hg hfv
        obtain ⟨μ1, b1, b2, b3⟩ := enterLoop_sound hH hE b.fn wf2 wf3 wf1
        have ra : VRs μ1 [.func (.yield (s.next + 1)) #[] #[]] [.func (.yield (w.heap.size + 1)) #[] #[]] := .cons (.yield b3) .nil
        obtain ⟨args', c1, c2⟩ : CallOK P μ1 _ (.enter g args) _ := callV_ok (P := P) b1 (f2.mono b2.sub) ra hcall
        obtain ⟨v, s2, v', μ2, w2, δ2, q2, d1, d2, d3, d4⟩ := hR.call g args _ _ h μ1 _ args' b1 (hg.mono b2.sub) c2
        simp only at q2
        have hl2 : μ2 (s.next + 1) = some ⟨w.heap.size + 1, 0, 0, 0⟩ := d4.sub _ _ b3
        have hst : ∃ st pending fn env ps as bd df, s2.H.get (s.next + 1) = some (.loop st pending fn env ps as bd df) ∧ st ≠ .busy := by
          split at q2
          · exact q2.elim
          · rename_i st pending fn env ps as bd df hnb hget
            exact ⟨_, _, _, _, _, _, _, _, hget, fun e => hnb e⟩
          · exact q2.elim
        obtain ⟨st, pending, fn, env, ps, as, bd, df, hget, hnb⟩ := hst
        obtain ⟨fn', tm', bb, g1, g2, g3, g4, g5⟩ := d3.obj _ _ _ hget hl2
        have hend := endLoop_run (P := P) g1 (by simpa using hnb)
        obtain ⟨u1, u2⟩ := d3.upd (o := .loop .exhausted pending fn env ps as bd df) (w' := { w2 with heap := w2.heap.setIfInBounds (w.heap.size + 1) (.loop { state := .exhausted, pending, fn := fn', tmps := tm', params := ⟨ps⟩, assign := as, body := bd, defers := bb }) })
          hget rfl (by intro e; cases e) hl2 ⟨fn', tm', bb, setObj_get _ g1, g2, g3, g4, g5⟩ rfl (by simp) (fun b hb => by simp only [Array.getElem?_setIfInBounds_ne (Ne.symm hb)]) rfl rfl rfl
        have hx := (b2.trans d4).trans u2
        have hmark : DfsOK base { w2 with heap := w2.heap.setIfInBounds (w.heap.size + 1) (.loop { state := .exhausted, pending, fn := fn', tmps := tm', params := ⟨ps⟩, assign := as, body := bd, defers := bb }) } (w.heap.size :: bs) := by
          obtain ⟨m1, m2, m3⟩ := hdf.ext hx
          refine ⟨List.nodup_cons.2 ⟨fun hin => ?_, m1⟩, m2, fun x hxm => ?_⟩
          · have := (hdf.2.2 _ hin).2
            rw [Array.getElem?_eq_none (Nat.le_refl _)] at this; cases this
          · rcases List.mem_cons.1 hxm with rfl | hxm
            · refine ⟨hdf.2.1, u2.dkeep _ (d4.dkeep _ ?_)⟩
              show ((w.heap.push _).push _)[w.heap.size]? = _
              rw [Array.getElem?_push, if_neg (by simp)]
              simp
            · exact m3 x hxm
        have hgo : ∀ (r : Res) (jk : List Item → List Item), Q (r, E, s2.upd (s.next + 1) (.loop .exhausted pending fn env ps as bd df)) → (∀ k, (pending.map Item.code).toList ++ k = jk k ∧ Lands k r (jk k)) → Lead P false (.rangeFunc f params assign body) s Q b tmps bs base μ w := by
          intro r jk hQ hjk
          refine ⟨r, E, _, tmps, w.heap.size :: bs, μ2, _, _, hQ, (hE.mono b2.sub).mono d4.sub, u1, hx, rfl, hmark, (fun e => by cases e), fun k cs => ?_⟩
          obtain ⟨fr, st1, _, st2⟩ := d1 (b.atR ⟨tmps, marks (w.heap.size :: bs)⟩ (.inRangeFunc (w.heap.size + 1) :: k) :: cs)
          obtain ⟨j1, j2⟩ := hjk k
          refine ⟨jk k, j2, .head (stepR_rangeFunc (a := ⟨tmps, marks bs⟩) hb (enterLoop_run _ _ _ _ _) (by rw [f1]; exact c1)) (st1.trans (.head (step_leave_returned st2) (.one ?_)))⟩
          have := stepR_endRangeFunc (P := P) (b := b) (a := ⟨tmps, marks (w.heap.size :: bs)⟩) (k := k) (cs := cs) hend
          rw [j1] at this
          exact this
        rw [hget] at q2
        split at q2
        · exact q2.elim
        · rename_i heq
          cases heq
          split at q2
          · exact hgo .normal (fun k => k) q2 (fun k => ⟨rfl, .normal⟩)
          · exact hgo .ret (fun k => .code .ret :: k) q2 (fun k => ⟨rfl, .ret⟩)
          · exact hgo (.exit _) (fun k => .code (.exit _) :: k) q2 (fun k => ⟨rfl, .exit rfl⟩)
          · exact q2.elim
        · exact q2.elim
      · exact h.elim
  | .goto _, q, E, s, Q, h => h.elim
  | .refuse _, q, E, s, Q, h => h.elim

end Go.AE
