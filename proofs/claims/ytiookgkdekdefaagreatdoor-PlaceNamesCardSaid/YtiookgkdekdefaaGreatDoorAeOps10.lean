/- THE EVALUATOR, a part: what an evaluator of loaded programs answers the model's machine answers. No condition. -/
import Derived.Test.YtiookgkdekdefaaGreatDoorAeOps9
namespace Go.AE

variable {P : Program} {μ : Mu} {w : World} {E : T Value} {tmps : Array Value} {dfs : List Deferred}

theorem opds_sound (hE : ER μ E tmps) (hg : GlobOK P μ) : ∀ (xs : List Operand) {vs : List Value}, (opds P xs).run E = some vs → VRs μ vs (xs.map (Act.eval ⟨tmps, dfs⟩))
  | [], vs, h => by simp only [opds, Option.some.injEq] at h; subst h; exact .nil
  | x :: xs, vs, h => by
    simp only [opds] at h
    split at h
    · rename_i v hv
      split at h
      · rename_i r hr
        cases h
        obtain ⟨v', e, q⟩ := opd_sound (dfs := dfs) hE x hg hv
        exact .cons (by rw [e]; exact q) (opds_sound hE hg xs hr)
      · cases h
    · cases h
theorem parts_sound (hE : ER μ E tmps) (hg : GlobOK P μ) : ∀ (xs : List (Nat × Operand)) {vs : List (Nat × Value)}, (partsOf P xs).run E = some vs → PRs μ vs (xs.map fun (i, x) => (i, Act.eval ⟨tmps, dfs⟩ x))
  | [], vs, h => by simp only [partsOf, Option.some.injEq] at h; subst h; exact .nil
  | (i, x) :: xs, vs, h => by
    simp only [partsOf] at h
    split at h
    · rename_i v hv
      split at h
      · rename_i r hr
        cases h
        obtain ⟨v', e, q⟩ := opd_sound (dfs := dfs) hE x hg hv
        exact .cons (by rw [e]; exact q) (parts_sound hE hg xs hr)
      · cases h
    · cases h

theorem ofV_wp {r : Option Value} {s : S} {Q : Out × S → Prop} (h : (ofV r s).wp Q) : ∃ v, r = some v ∧ Q (.value v, s) := by
  cases r with
  | none => exact h.elim
  | some v => exact ⟨v, rfl, h⟩
theorem ofVS_wp {r : Option (Value × S)} {Q : Out × S → Prop} (h : (ofVS r).wp Q) : ∃ v s, r = some (v, s) ∧ Q (.value v, s) := by
  cases r with
  | none => exact h.elim
  | some v => obtain ⟨v, s⟩ := v; exact ⟨v, s, rfl, h⟩
theorem ofS_wp {r : Option S} {Q : Out × S → Prop} (h : (ofS r).wp Q) : ∃ s, r = some s ∧ Q (.value undef, s) := by
  cases r with
  | none => exact h.elim
  | some s => exact ⟨s, rfl, h⟩
theorem ofO_wp {r : Option Out} {s : S} {Q : Out × S → Prop} (h : (ofO r s).wp Q) : ∃ o, r = some o ∧ Q (o, s) := by
  cases r with
  | none => exact h.elim
  | some v => exact ⟨v, rfl, h⟩

/-- A value, made in whatever world. -/
def PureOK (P : Program) (μ : Mu) (sem : Sem Next) (v : Value) : Prop := ∃ v', (∀ w : World, sem.run P w = .ok (.value v') w) ∧ VR μ v v'
theorem PureOK.of {sem : Sem Value} {v : Value} (h : ∃ v', (∀ w : World, sem.run P w = .ok v' w) ∧ VR μ v v') : PureOK P μ (do pure (.value (← sem))) v := by
  obtain ⟨v', a, b⟩ := h
  exact ⟨v', fun w => by simp only [Sem.run_bind, a, Result.andThen_ok, Sem.run_pure], b⟩
theorem PureOK.val {v v' : Value} (h : VR μ v v') : PureOK P μ (pure (.value v')) v := ⟨v', fun _ => rfl, h⟩

theorem conv_sound {src dst : TypeId} {a a' : Value} {s : S} (r : VR μ a a') {Q : Out × S → Prop} (h : ((conv P src dst).run a s).wp Q) :
    ∃ v, Q (.value v, s) ∧ ∃ v', (∀ w : World, (Go.convert src dst a').run P w = .ok v' w) ∧ VR μ v v' := by
  have slow : ((ofV (svalF P (convert src dst a)) s).wp Q) → plainV a = true → ∃ v, Q (.value v, s) ∧ ∃ v', (∀ w : World, (Go.convert src dst a').run P w = .ok v' w) ∧ VR μ v v' := by
    intro h hp
    obtain ⟨v, e, q⟩ := ofV_wp h
    rw [plainV_eq hp r]
    exact ⟨v, q, v, fun w => (svalF_run e w).1, VR.of_flat μ (svalF_run e default).2⟩
  unfold conv at h
  split at h
  · exact h.elim
  rename_i ds hs
  split at h
  · rename_i k hu
    simp only at h
    split at h
    · cases r
      refine ⟨_, h, _, fun w => ?_, .int _ _⟩
      rw [wrapF_eq]
      simp only [Go.convert, Sem.run_bind, run_und hs, run_und hu, Result.andThen_ok]
      rfl
    · exact slow h rfl
    · exact h.elim
  · simp only at h
    rw [cond_eq] at h
    split at h
    · exact slow h (by assumption)
    · exact h.elim
  · exact h.elim

theorem allInt_eq : ∀ {l l' : List Value}, allInt l = true → VRs μ l l' → l' = l
  | _, _, _, .nil => rfl
  | _, _, h, .cons e r => by
    cases e <;> first | (simp [allInt] at h; done) | skip
    rw [allInt_eq (by simpa [allInt] using h) r]

theorem hd_pure (o : Oper) (hE : ER μ E tmps) (hg : GlobOK P μ) {s : S} (hH : HR μ s w) {Q : Out × S → Prop} (hc : cls o.op = .pure) (h : ((hd P o.op).run E s).wp Q) :
    ∃ v, Q (.value v, s) ∧ PureOK P μ (execOp (Act.eval ⟨tmps, dfs⟩) o) v := by
  have op1 : ∀ (x : Operand) {v : Value}, (opd P x).run E = some v → VR μ v (Act.eval ⟨tmps, dfs⟩ x) := by
    intro x v hx
    obtain ⟨v', e, r⟩ := opd_sound (dfs := dfs) hE x hg hx
    rw [e]; exact r
  obtain ⟨dst, op, ty, pos, after, guard⟩ := o
  simp only at hc h
  unfold hd at h
  cases op with
  | move x =>
    obtain ⟨v, e, q⟩ := ofV_wp h
    exact ⟨v, q, .val (op1 x e)⟩
  | assign x =>
    obtain ⟨v, e, q⟩ := ofV_wp h
    exact ⟨v, q, .val (op1 x e)⟩
  | pick c a b =>
    simp only at h
    split at h
    · rename_i hb
      obtain ⟨v, e, q⟩ := ofV_wp h
      have := op1 c hb
      refine ⟨v, q, _, fun w => ?_, op1 a e⟩
      generalize hx : Act.eval ⟨tmps, dfs⟩ c = y at this
      cases this
      simp [execOp, hx, asBool]
    · rename_i hb
      obtain ⟨v, e, q⟩ := ofV_wp h
      have := op1 c hb
      refine ⟨v, q, _, fun w => ?_, op1 b e⟩
      generalize hx : Act.eval ⟨tmps, dfs⟩ c = y at this
      cases this
      simp [execOp, hx, asBool]
    · exact h.elim
  | build t parts =>
    simp only at h
    split at h
    · rename_i l hl
      obtain ⟨v, s', e, q⟩ := ofVS_wp h
      have := parts_sound (dfs := dfs) hE hg parts.toList hl
      obtain ⟨rfl, k⟩ := build_sound this e
      refine ⟨v, q, ?_⟩
      have hp : (⟨parts.toList.map fun (i, x) => (i, Act.eval ⟨tmps, dfs⟩ x)⟩ : Array (Nat × Value)) = parts.map fun (i, x) => (i, Act.eval ⟨tmps, dfs⟩ x) := by
        apply Array.ext'; simp
      rw [hp] at k
      exact .of k
    · exact h.elim
  | nilCheck x =>
    simp only at h
    split at h
    · exact h.elim
    · exact h.elim
    · exact h.elim
    · exact h.elim
    · exact h.elim
    · rename_i a h1 h2 h3 h4 hx
      refine ⟨a, h, ?_⟩
      have := op1 x hx
      refine ⟨_, fun w => ?_, this⟩
      simp only [execOp]
      generalize Act.eval ⟨tmps, dfs⟩ x = y at this
      cases this
      case pnil => exact (h1 rfl).elim
      case nilFunc => exact (h3 rfl).elim
      case nilIface => exact (h2 rfl).elim
      case func fn a a' c c' hn r1 r2 =>
        cases fn with
        | method name => exact (h4 _ _ _ rfl).elim
        | _ => rfl
      all_goals rfl
  | binOp op t x y c =>
    simp only at h
    split at h
    · rename_i u hu
      split at h
      · rename_i v hv
        obtain ⟨r, e, q⟩ := ofV_wp h
        exact ⟨r, q, .of (binary_sound (op1 x hu) (op1 y hv) e)⟩
      · exact h.elim
    · exact h.elim
  | unOp op t x =>
    simp only at h
    split at h
    · rename_i u hu
      rw [cond_eq] at h
      split at h
      · rename_i hp
        obtain ⟨v, e, q⟩ := ofV_wp h
        refine ⟨v, q, .of ⟨v, fun w => ?_, VR.of_flat μ (svalF_run e default).2⟩⟩
        rw [plainV_eq hp (op1 x hu)]
        exact (svalF_run e w).1
      · exact h.elim
    · exact h.elim
  | convert src dst x =>
    simp only at h
    split at h
    · rename_i u hu
      obtain ⟨v, q, k⟩ := conv_sound (op1 x hu) h
      exact ⟨v, q, .of k⟩
    · exact h.elim
  | makeInterface t x =>
    simp only at h
    split at h
    · exact h.elim
    · exact h.elim
    · rename_i d hni hu
      simp only at h
      split at h
      · rename_i a ha
        refine ⟨_, h, .of ⟨_, fun w => ?_, .iface t (op1 x ha)⟩⟩
        simp only [Instr.makeInterface, Sem.run_bind, run_und hu, Result.andThen_ok]
        cases d <;> first | rfl | exact (hni _ rfl).elim
      · exact h.elim
  | makeFunc fn first cap =>
    simp only at h
    split at h
    · exact h.elim
    · rename_i hny
      simp only at h
      split at h
      · rename_i l hl
        split at h
        · rename_i m hm
          refine ⟨_, h, .of ⟨.func fn (first.map (Act.eval ⟨tmps, dfs⟩)) (cap.map (Act.eval ⟨tmps, dfs⟩)), fun w => rfl, ?_⟩⟩
          have e1 := opds_sound (dfs := dfs) hE hg first.toList hl
          have e2 := opds_sound (dfs := dfs) hE hg cap.toList hm
          have h1 : first.map (Act.eval ⟨tmps, dfs⟩) = ⟨first.toList.map (Act.eval ⟨tmps, dfs⟩)⟩ := by apply Array.ext'; simp
          have h2 : cap.map (Act.eval ⟨tmps, dfs⟩) = ⟨cap.toList.map (Act.eval ⟨tmps, dfs⟩)⟩ := by apply Array.ext'; simp
          rw [h1, h2]
          refine .func ?_ e1 e2
          cases fn <;> first | trivial | exact (hny _ rfl).elim
        · exact h.elim
      · exact h.elim
  | fieldAddr st x i =>
    simp only at h
    split at h
    · rename_i fields hu
      split at h
      · rename_i f hf
        split at h
        · rename_i n hn
          simp only at h
          split at h
          · rename_i a ha
            have := op1 x ha
            generalize hy : Act.eval ⟨tmps, dfs⟩ x = y at this
            cases this with
            | @ptr b o d hd =>
              refine ⟨_, h, .of ⟨.pointer (some ⟨d.blk, d.off + o + f.offset, none⟩), fun w => ?_, ?_⟩⟩
              · rw [nth_eq] at hf
                have hf' : fields[i]? = some f := by simpa using hf
                simp only [Instr.fieldAt, Sem.run_bind, run_und hu, Result.andThen_ok, hf', Instr.sureAddr, hy, Sem.run_pure, fieldPlace, run_size hn, Nat.succ_ne_zero, if_false, add_none]
              · have := VR.ptr (o := o + f.offset) hd
                rw [Nat.add_assoc]; exact this
          · exact h.elim
        · exact h.elim
      · exact h.elim
    · exact h.elim
  | field st x i =>
    simp only at h
    split at h
    · rename_i fields hu
      split at h
      · rename_i f hf
        simp only at h
        split at h
        · rename_i cs ha
          obtain ⟨v, e, q⟩ := ofV_wp h
          have := op1 x ha
          generalize hy : Act.eval ⟨tmps, dfs⟩ x = y at this
          cases this with
          | @agg a a' r =>
            obtain ⟨v', k1, k2⟩ := partAt_sound r e
            refine ⟨v, q, .of ⟨v', fun w => ?_, k2⟩⟩
            rw [nth_eq] at hf
            have hf' : fields[i]? = some f := by simpa using hf
            simp only [Instr.field, Sem.run_bind, run_und hu, Result.andThen_ok, hf', hy, asAgg, Sem.run_pure, k1]
        · exact h.elim
      · exact h.elim
    · exact h.elim
  | indexAddr t x i =>
    simp only at h
    split at h
    · rename_i u hu
      split at h
      · rename_i v hv
        obtain ⟨r, e, q⟩ := ofV_wp h
        exact ⟨r, q, .of (indexAddr_sound (op1 x hu) (op1 i hv) e)⟩
      · exact h.elim
    · exact h.elim
  | index t x i =>
    simp only at h
    split at h
    · rename_i u hu
      split at h
      · rename_i v hv
        obtain ⟨r, e, q⟩ := ofV_wp h
        exact ⟨r, q, .of (index_sound (op1 x hu) (op1 i hv) e)⟩
      · exact h.elim
    · exact h.elim
  | typeAssert x xt t ok =>
    simp only at h
    split at h
    · rename_i u hu
      obtain ⟨r, e, q⟩ := ofV_wp h
      exact ⟨r, q, .of (typeAssert_sound (op1 x hu) e)⟩
    · exact h.elim
  | extract x i =>
    simp only at h
    split at h
    · rename_i vs hx
      obtain ⟨r, e, q⟩ := ofV_wp h
      have := op1 x hx
      generalize hy : Act.eval ⟨tmps, dfs⟩ x = y at this
      cases this with
      | @tuple a a' rr =>
        rw [nth_eq] at e
        obtain ⟨v', k1, k2⟩ := rr.nth e
        refine ⟨r, q, .of ⟨v', fun w => ?_, k2⟩⟩
        have : (⟨a'⟩ : Array Value)[i]? = some v' := by simpa using k1
        simp only [Instr.extract, hy, this, Sem.run_pure]
    · exact h.elim
  | call c =>
    obtain ⟨callee, args, argTypes⟩ := c
    cases callee with
    | builtin b =>
      cases b with
      | max =>
        simp only [builtin] at h
        split at h
        · rename_i l hl
          rw [cond_eq] at h
          split at h
          · rename_i ha
            obtain ⟨v, e, q⟩ := ofV_wp h
            have := allInt_eq ha (opds_sound (dfs := dfs) hE hg args.toList hl)
            have hm : args.map (Act.eval ⟨tmps, dfs⟩) = ⟨l⟩ := by apply Array.ext'; simp [this]
            refine ⟨v, q, .of ⟨v, fun w => ?_, VR.of_flat μ (svalF_run e default).2⟩⟩
            simp only [hm]
            exact (svalF_run e w).1
          · exact h.elim
        · exact h.elim
      | min =>
        simp only [builtin] at h
        split at h
        · rename_i l hl
          rw [cond_eq] at h
          split at h
          · rename_i ha
            obtain ⟨v, e, q⟩ := ofV_wp h
            have := allInt_eq ha (opds_sound (dfs := dfs) hE hg args.toList hl)
            have hm : args.map (Act.eval ⟨tmps, dfs⟩) = ⟨l⟩ := by apply Array.ext'; simp [this]
            refine ⟨v, q, .of ⟨v, fun w => ?_, VR.of_flat μ (svalF_run e default).2⟩⟩
            simp only [hm]
            exact (svalF_run e w).1
          · exact h.elim
        · exact h.elim
      | _ => cases hc
    | _ => cases hc
  | _ => cases hc

/-- A value, read in this world. -/
def ReadOK (P : Program) (μ : Mu) (w : World) (sem : Sem Next) (v : Value) : Prop := ∃ v', sem.run P w = .ok (.value v') w ∧ VR μ v v'
theorem ReadOK.of {sem : Sem Value} {v v' : Value} (h : sem.run P w = .ok v' w) (k : VR μ v v') : ReadOK P μ w (do pure (.value (← sem))) v :=
  ⟨v', by simp only [Sem.run_bind, h, Result.andThen_ok, Sem.run_pure], k⟩

theorem ReadOK.pure {sem : Sem Next} {v : Value} (h : PureOK P μ sem v) : ReadOK P μ w sem v := let ⟨v', a, b⟩ := h; ⟨v', a w, b⟩

theorem hd_reader (o : Oper) (hE : ER μ E tmps) (hg : GlobOK P μ) {s : S} (hH : HR μ s w) {Q : Out × S → Prop} (hc : cls o.op = .reader) (h : ((hd P o.op).run E s).wp Q) :
    ∃ v, Q (.value v, s) ∧ ReadOK P μ w (execOp (Act.eval ⟨tmps, dfs⟩) o) v := by
  have op1 : ∀ (x : Operand) {v : Value}, (opd P x).run E = some v → VR μ v (Act.eval ⟨tmps, dfs⟩ x) := by
    intro x v hx
    obtain ⟨v', e, r⟩ := opd_sound (dfs := dfs) hE x hg hx
    rw [e]; exact r
  obtain ⟨dst, op, ty, pos, after, guard⟩ := o
  simp only at hc h
  unfold hd at h
  cases op with
  | load t x =>
    simp only at h
    split at h
    · rename_i a ha
      obtain ⟨v, e, q⟩ := ofV_wp h
      have := op1 x ha
      generalize hy : Act.eval ⟨tmps, dfs⟩ x = y at this
      cases y with
      | pointer a' =>
        cases a' with
        | none => cases this
        | some a' =>
          obtain ⟨v', d, k1, k2, k3⟩ := loadAt_sound (P := P) hH this e
          refine ⟨v, q, .of ?_ k1⟩
          simp only [Instr.loadAt, hy, Instr.sureAddr, pure_bind, k3 w rfl]
      | _ => cases this
    · exact h.elim
  | lookup t x k ok =>
    simp only at h
    split at h
    · rename_i key elem hu
      simp only at h
      split at h
      · rename_i a ha
        split at h
        · rename_i b hb
          obtain ⟨v, e, q⟩ := ofV_wp h
          obtain ⟨m, v', rfl, k1, k2⟩ := lookup_sound hH hu (op1 x ha) (op1 k hb) e
          exact ⟨v, q, .of k2.here k1⟩
        · exact h.elim
      · exact h.elim
    · exact h.elim
  | slice t x lo hi mx =>
    simp only at h
    split at h
    · exact h.elim
    · split at h
      · simp only at h
        split at h
        · rename_i a ha
          obtain ⟨r, e, q⟩ := ofV_wp h
          exact ⟨r, q, .pure (.of (sliceExpr_sound hH (op1 x ha) .none .none e))⟩
        · exact h.elim
      · simp only at h
        split at h
        · rename_i a ha
          split at h
          · rename_i l hl
            obtain ⟨r, e, q⟩ := ofV_wp h
            exact ⟨r, q, .pure (.of (sliceExpr_sound hH (op1 x ha) (.some (op1 _ hl)) .none e))⟩
          · exact h.elim
        · exact h.elim
      · simp only at h
        split at h
        · rename_i a ha
          split at h
          · rename_i l hl
            obtain ⟨r, e, q⟩ := ofV_wp h
            exact ⟨r, q, .pure (.of (sliceExpr_sound hH (op1 x ha) .none (.some (op1 _ hl)) e))⟩
          · exact h.elim
        · exact h.elim
      · simp only at h
        split at h
        · rename_i a ha
          split at h
          · rename_i l hl
            split at h
            · rename_i m hm
              obtain ⟨r, e, q⟩ := ofV_wp h
              exact ⟨r, q, .pure (.of (sliceExpr_sound hH (op1 x ha) (.some (op1 _ hl)) (.some (op1 _ hm)) e))⟩
            · exact h.elim
          · exact h.elim
        · exact h.elim
  | call c =>
    obtain ⟨callee, args, argTypes⟩ := c
    cases callee with
    | builtin b =>
      cases b with
      | len =>
        simp only [builtin] at h
        have two : ∀ l, (opds P args.toList).run E = some l → VRs μ l (args.toList.map (Act.eval ⟨tmps, dfs⟩)) ∧ ∀ a, l = [a] → ∃ x, args.toList = [x] ∧ (opd P x).run E = some a := by
          intro l hl
          refine ⟨opds_sound hE hg _ hl, fun a e => ?_⟩
          subst e
          have := opds_sound (dfs := dfs) hE hg _ hl
          have hlen := this.length
          cases hargs : args.toList with
          | nil => rw [hargs] at hlen; simp at hlen
          | cons x xs =>
            cases xs with
            | cons _ _ => rw [hargs] at hlen; simp at hlen
            | nil =>
              refine ⟨x, rfl, ?_⟩
              rw [hargs] at hl
              simp only [opds] at hl
              split at hl
              · rename_i v hv
                simp only [Option.some.injEq, List.cons.injEq, and_true] at hl
                rw [hv, hl]
              · cases hl
        have t0 : ∀ {t : TypeId}, nth argTypes.toList 0 = some t → argTypes[0]? = some t := by
          intro t ht; rw [nth_eq] at ht; simpa using ht
        have a0 : ∀ {x : Operand}, args.toList = [x] → (args.map (Act.eval ⟨tmps, dfs⟩))[0]? = some (Act.eval ⟨tmps, dfs⟩ x) := by
          intro x hx; obtain ⟨l⟩ := args; simp only at hx; subst hx; simp
        split at h
        · rename_i l hl
          obtain ⟨hr, hone⟩ := two l hl
          split at h
          · exact h.elim
          · rename_i t ht
            split at h
            · rename_i hu
              simp only at h
              split at h
              · rename_i st
                obtain ⟨x, hx, hxa⟩ := hone _ rfl
                have := op1 x hxa
                generalize hy : Act.eval ⟨tmps, dfs⟩ x = y at this
                cases this
                refine ⟨_, h, .of (v' := goInt st.size) ?_ (.int _ _)⟩
                simp only [Builtin.len_, t0 ht, a0 hx, hy, Sem.run_bind, run_und hu, Result.andThen_ok, Sem.run_pure]
              · exact h.elim
            · rename_i n _ hu
              simp only at h
              split at h
              · rename_i v
                obtain ⟨x, hx, hxa⟩ := hone _ rfl
                have hall : ∀ w1 : World, (Builtin.len_ argTypes ty (args.map (Act.eval ⟨tmps, dfs⟩))).run P w1 = .ok (goInt n) w1 := by
                  intro w1
                  simp only [Builtin.len_, t0 ht, a0 hx, Sem.run_bind, run_und hu, Result.andThen_ok]
                  generalize Act.eval ⟨tmps, dfs⟩ x = y
                  cases y <;> rfl
                exact ⟨_, h, .of (v' := goInt n) (hall w) (.int _ _)⟩
              · exact h.elim
            · rename_i hu
              simp only at h
              split at h
              · rename_i b n c
                obtain ⟨x, hx, hxa⟩ := hone _ rfl
                have := op1 x hxa
                generalize hy : Act.eval ⟨tmps, dfs⟩ x = y at this
                refine ⟨_, h, .of (v' := goInt n) ?_ (.int _ _)⟩
                cases this <;> simp only [Builtin.len_, t0 ht, a0 hx, hy, Sem.run_bind, run_und hu, Result.andThen_ok, Sem.run_pure]
              · exact h.elim
            · rename_i hu
              simp only at h
              split at h
              · obtain ⟨x, hx, hxa⟩ := hone _ rfl
                have := op1 x hxa
                generalize hy : Act.eval ⟨tmps, dfs⟩ x = y at this
                cases this
                refine ⟨_, h, .of (v' := goInt 0) ?_ (.int _ _)⟩
                simp only [Builtin.len_, t0 ht, a0 hx, hy, Sem.run_bind, run_und hu, Result.andThen_ok, Sem.run_pure]
              · rename_i r
                obtain ⟨x, hx, hxa⟩ := hone _ rfl
                split at h
                · rename_i es clock hget
                  have := op1 x hxa
                  generalize hy : Act.eval ⟨tmps, dfs⟩ x = y at this
                  cases this with
                  | @map _ d hd =>
                    obtain ⟨es', h1, h2⟩ := hH.obj _ _ _ hget hd
                    refine ⟨_, h, .of (v' := goInt es.length) ?_ (.int _ _)⟩
                    have hsz : es'.size = es.length := by rw [← h2.length]; simp
                    simp only [Builtin.len_, t0 ht, a0 hx, hy, Sem.run_bind, run_und hu, Result.andThen_ok, Sem.run_pure, run_getObj h1 (by intro a b c e; cases e), hsz]
                · exact h.elim
              · exact h.elim
            · exact h.elim
        · exact h.elim
      | _ => cases hc
    | _ => cases hc
  | _ => cases hc

end Go.AE
