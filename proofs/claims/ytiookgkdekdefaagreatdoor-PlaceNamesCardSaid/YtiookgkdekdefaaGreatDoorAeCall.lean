/- THE EVALUATOR, a part: what an evaluator of loaded programs answers the model's machine answers. No condition. -/
import Derived.Test.YtiookgkdekdefaaGreatDoorAeCode
namespace Go.AE

variable {P : Program} {μ : Mu} {w : World} {E : T Value} {tmps : Array Value}

/-! ## Parameters, results -/
theorem bindAll_sound : ∀ (args args' : List Value) (E : T Value) (tmps : Array Value) (i : Nat), VRs μ args args' → ER μ E tmps → (∀ j v', args'[j]? = some v' → tmps[i + j]? = some v') → ER μ (bindAll E i args) tmps
  | _, _, E, tmps, i, .nil, hE, _ => hE
  | _, _, E, tmps, i, .cons (v := v) (v' := v') (l := l) (l' := l') r rs, hE, h => by
    refine bindAll_sound l l' _ tmps (i + 1) rs ?_ (fun j u hu => ?_)
    · intro t u hu
      rw [T.getP_setPath] at hu
      by_cases ht : i = t
      · rw [if_pos ht] at hu; cases hu
        exact ⟨v', by have := h 0 v' (by simp); rw [← ht]; simpa using this, r⟩
      · rw [if_neg ht] at hu; exact hE t u hu
    · have := h (j + 1) u (by simpa using hu)
      rw [show i + 1 + j = i + (j + 1) by omega]; exact this
theorem bindAt_sound : ∀ (ps : List Tmp) (args args' : List Value) (E : T Value) (tmps : Array Value), VRs μ args args' → ER μ E tmps → ps.all (Nat.blt · tmps.size) = true →
    ER μ (bindAt E ps args) ((ps.zip args').foldl (fun tmps (t, a) => tmps.setIfInBounds t a) tmps) ∧ ((ps.zip args').foldl (fun tmps (t, a) => tmps.setIfInBounds t a) tmps).size = tmps.size
  | [], _, _, E, tmps, _, hE, _ => ⟨by simpa [bindAt] using hE, by simp⟩
  | t :: ps, _, _, E, tmps, .nil, hE, _ => ⟨by simpa [bindAt] using hE, by simp⟩
  | t :: ps, _, _, E, tmps, .cons (v := v) (v' := v') r rs, hE, h => by
    simp only [List.all_cons, Bool.and_eq_true, Nat.blt_eq] at h
    have hE' := hE.set h.1 r
    obtain ⟨a, b⟩ := bindAt_sound ps _ _ _ (tmps.setIfInBounds t v') rs hE' (by simpa using h.2)
    simp only [bindAt, List.zip_cons_cons, List.foldl_cons]
    exact ⟨a, by rw [b]; simp⟩

def resOf (tmps : Array Value) : ResultVar → Sem Value
  | .tmp t => pure (tmps.getD t undef)
  | .cell a t => do loadVar t (← asAddr (tmps.getD a undef))
theorem results_eq (fn : Func) (tmps : Array Value) : results fn tmps = (do let vs ← fn.results.mapM (resOf tmps); pure (if h : vs.size = 1 then vs[0] else .tuple vs)) := by
  unfold results
  have : (fun | .tmp t => pure (tmps.getD t undef) | .cell a t => (do loadVar t (← asAddr (tmps.getD a undef))) : ResultVar → Sem Value) = resOf tmps := by
    funext r; cases r <;> rfl
  rw [← this]
  rfl
theorem resultVals_sound {s : S} (hH : HR μ s w) (hE : ER μ E tmps) : ∀ (rs : List ResultVar) {l : List Value}, (resultVals P rs).run E s = some l →
    ∃ l', (rs.mapM (resOf tmps)).run P w = .ok l' w ∧ VRs μ l l'
  | [], l, h => by simp only [resultVals, Option.some.injEq] at h; subst h; exact ⟨[], rfl, .nil⟩
  | .tmp t :: rs, l, h => by
    simp only [resultVals] at h
    split at h
    · rename_i v hv
      split at h
      · rename_i r hr
        cases h
        obtain ⟨v', a, b⟩ := hE t v hv
        obtain ⟨l', c, d⟩ := resultVals_sound hH hE rs hr
        refine ⟨v' :: l', ?_, .cons b d⟩
        have ht : tmps.getD t undef = v' := by simp [Array.getD_eq_getD_getElem?, a]
        simp only [List.mapM_cons, resOf, Sem.run_bind, Sem.run_pure, Result.andThen_ok, c, ht]
      · cases h
    · cases h
  | .cell a t :: rs, l, h => by
    simp only [resultVals] at h
    split at h
    · rename_i ad hv
      split at h
      · rename_i v hl
        split at h
        · rename_i r hr
          cases h
          obtain ⟨v', e1, e2⟩ := hE a _ hv
          obtain ⟨l', c, d⟩ := resultVals_sound hH hE rs hr
          cases v' with
          | pointer a' =>
            cases a' with
            | none => cases e2
            | some a' =>
              obtain ⟨u, dd, k1, k2, k3⟩ := loadAt_sound (P := P) hH e2 hl
              refine ⟨u :: l', ?_, .cons k1 d⟩
              have ht : tmps.getD a undef = .pointer (some a') := by simp [Array.getD_eq_getD_getElem?, e1]
              simp only [List.mapM_cons, resOf, Sem.run_bind, Sem.run_pure, Result.andThen_ok, c, ht, asAddr, k3 w rfl]
          | _ => cases e2
        · cases h
      · cases h
    · cases h

theorem results_sound {s : S} (hH : HR μ s w) (hE : ER μ E tmps) {fn : Func} {l : List Value} (h : (resultVals P fn.results.toList).run E s = some l) :
    ∃ v', (results fn tmps).run P w = .ok v' w ∧ VR μ (packed l) v' := by
  obtain ⟨l', a, b⟩ := resultVals_sound hH hE _ h
  have hrun : (results fn tmps).run P w = .ok (if h : (⟨l'⟩ : Array Value).size = 1 then (⟨l'⟩ : Array Value)[0] else .tuple ⟨l'⟩) w := by
    simp only [results_eq, Sem.run_bind, Array.mapM_eq_mapM_toList, Sem.run_map, a, Result.andThen_ok, Sem.run_pure]
  refine ⟨_, hrun, ?_⟩
  cases b with
  | nil => exact .tuple .nil
  | cons r rs =>
    cases rs with
    | nil => exact r
    | cons r2 rs => exact .tuple (.cons r (.cons r2 rs))

/-! ## Rounds -/
theorem beginRound_run {l : Nat} {r : Loop} (h : w.heap[l]? = some (.loop r)) (hs : r.state = .ready) :
    (Instr.beginRound l).run P w = .ok () { w with heap := w.heap.setIfInBounds l (.loop { r with state := .busy }) } := by
  simp only [Instr.beginRound, Instr.getLoop, Sem.run_bind, run_getObj h (by intro a b c e; cases e), Result.andThen_ok, run_setObj h (by intro a b c e; cases e), hs, Sem.run_pure]
theorem endRound_run {l : Nat} {r : Loop} (h : w.heap[l]? = some (.loop r)) (jump : Option Code) :
    (Instr.endRound l jump).run P w = .ok (.bool jump.isNone) { w with heap := w.heap.setIfInBounds l (.loop { r with state := if jump.isNone then .ready else .done, pending := jump }) } := by
  simp only [Instr.endRound, Instr.getLoop, Sem.run_bind, run_getObj h (by intro a b c e; cases e), Result.andThen_ok, run_setObj h (by intro a b c e; cases e), Sem.run_pure]
theorem yield_run {l : Nat} {r : Loop} {args : Array Value} (h : w.heap[l]? = some (.loop r)) (hs : args.size = r.params.size) :
    (Instr.yield l args).run P w = .ok (.round l r.fn ((r.params.zip args).foldl (fun tmps (t, a) => tmps.setIfInBounds t a) r.tmps) r.assign r.body) w := by
  simp only [Instr.yield, Instr.getLoop, Sem.run_bind, run_getObj h (by intro a b c e; cases e), Result.andThen_ok, hs, ne_eq, not_true, if_false, Sem.run_pure]

def stateOf (r : Res) : LoopState := match r with | .normal => .ready | _ => .done
theorem stateOf_eq (r : Res) : stateOf r = if (jumpOf r).isNone then .ready else .done := by cases r <;> rfl
theorem round_sound {R : Rec} (hR : RecOK P R) (O : Oracle) {l : Nat} {args : List Value} {s : S} {Q : Value × S → Prop} (h : ((AE.step P O R).round l args s).wp Q) : RoundSpec P l args s Q := by
  intro μ w d args' hH hg hd ra
  simp only [AE.step] at h
  split at h
  · rename_i p0 fn0 env ps assign body df0 hget
    rw [cond_eq] at h
    split at h
    · rename_i hlen
      have hlen := Nat.eq_of_beq_eq_true hlen
      obtain ⟨fn', tm', bb, g1, g2, g3, g4, g5⟩ := hH.obj _ _ _ hget hd
      have hy := yield_run (P := P) (args := ⟨args'⟩) g1 (by simp [ra.length, hlen])
      obtain ⟨p1, p2⟩ := bindAt_sound ps args args' env tm' ra g2 g5
      have hfold : ((⟨ps⟩ : Array Tmp).zip ⟨args'⟩).foldl (fun tmps (t, a) => tmps.setIfInBounds t a) tm' = (ps.zip args').foldl (fun tmps (t, a) => tmps.setIfInBounds t a) tm' := by
        rw [← Array.foldl_toList]; simp
      simp only [hfold] at hy
      generalize (ps.zip args').foldl (fun tmps (t, a) => tmps.setIfInBounds t a) tm' = tm1 at p1 p2 hy
      obtain ⟨r1, E1, s1, tm2, bs1, μ1, w1, δ1, q1, a1, a2, a3, a4, a5, a6, a7⟩ := cd_sound hR assign true (Tr.wp_bind.1 h) (Frame.round d.blk fn' tm1 assign body .normal) tm1 [] 0 μ w rfl hH p1 hg (by rw [p2]; exact g3) ⟨List.nodup_nil, Nat.zero_le _, fun x hx => by cases hx⟩
      have hb1 := a6 rfl
      subst hb1
      split at q1
      · rename_i e1; simp only [Prod.mk.injEq] at e1; obtain ⟨rfl, rfl, rfl⟩ := e1
        split at q1
        · rename_i p fn env2 ps2 as2 bd2 df2 hget2
          have hd1 := a3.sub _ _ hd
          obtain ⟨fn2, tm3, bb2, k1, k2, k3, k4, k5⟩ := a2.obj _ _ _ hget2 hd1
          obtain ⟨u1, u2⟩ := a2.upd (o := .loop .busy p fn env2 ps2 as2 bd2 df2) (w' := { w1 with heap := w1.heap.setIfInBounds d.blk (.loop { state := .busy, pending := p, fn := fn2, tmps := tm3, params := ⟨ps2⟩, assign := as2, body := bd2, defers := bb2 }) })
            hget2 rfl (by intro e; cases e) hd1 ⟨fn2, tm3, bb2, setObj_get _ k1, k2, k3, k4, k5⟩ rfl (by simp) (fun b hb => by simp only [Array.getElem?_setIfInBounds_ne (Ne.symm hb)]) rfl rfl rfl
          have hbr := beginRound_run (P := P) k1 rfl
          obtain ⟨r2, E2, s2, tm4, bs2, μ2, w2, δ2, q2, c1, c2, c3, c4, c5, c6, c7⟩ := cd_sound hR body true (Tr.wp_bind.1 q1) (Frame.round d.blk fn' tm1 assign body .normal) tm2 [] 0 μ1 _ rfl u1 a1 (hg.mono a3.sub) (by rw [a4, p2]; exact g4) ⟨List.nodup_nil, Nat.zero_le _, fun x hx => by cases hx⟩
          have hb2 := c6 rfl
          subst hb2
          split at q2
          · rename_i st3 p3 fn3 env3 ps3 as3 bd3 df3 hget3
            have hd2 := c3.sub _ _ hd1
            obtain ⟨fn4, tm5, bb3, m1, m2, m3, m4, m5⟩ := c2.obj _ _ _ hget3 hd2
            have her := endRound_run (P := P) m1 (jumpOf r2)
            have hst := stateOf_eq r2
            obtain ⟨n1, n2⟩ := c2.upd (o := .loop (stateOf r2) (jumpOf r2) fn3 env3 ps3 as3 bd3 df3)
              (w' := { w2 with heap := w2.heap.setIfInBounds d.blk (.loop { state := if (jumpOf r2).isNone then .ready else .done, pending := jumpOf r2, fn := fn4, tmps := tm5, params := ⟨ps3⟩, assign := as3, body := bd3, defers := bb3 }) })
              hget3 rfl (by intro e; cases e) hd2 ⟨fn4, tm5, bb3, by rw [hst]; exact setObj_get _ m1, m2, m3, m4, m5⟩ rfl (by simp) (fun b hb => by simp only [Array.getElem?_setIfInBounds_ne (Ne.symm hb)]) rfl rfl rfl
            refine ⟨_, _, .bool (jumpOf r2).isNone, μ2, _, _, q2, ⟨fn', tm1, assign, body, hy, fun c cs => ?_⟩, .bool _, n1, ((a3.trans u2).trans c3).trans n2⟩
            obtain ⟨kk1, l1, st1⟩ := a7 [.beginRound, .code body] (c :: cs)
            cases l1
            obtain ⟨kk2, l2, st2⟩ := c7 [] (c :: cs)
            have hmid := stepR_beginRound (P := P) (b := Frame.round d.blk fn' tm1 assign body .normal) (a := ⟨tm2, marks []⟩) (k := [.code body]) (cs := c :: cs) (l := d.blk) rfl hbr
            refine Steps.trans st1 (.head hmid (st2.trans (.one ?_)))
            cases l2 with
            | normal => exact stepR_round_end rfl rfl her
            | ret => exact stepR_round_ret rfl rfl her
            | exit hx => exact stepR_round_exit rfl rfl (by rw [hx]; rfl) her
          · exact q2.elim
        · exact q1.elim
      · exact q1.elim
    · exact h.elim
  · exact h.elim

end Go.AE
