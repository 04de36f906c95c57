/- THE EVALUATOR, a part: what an evaluator of loaded programs answers the model's machine answers. No condition. -/
import Derived.Test.YtiookgkdekdefaaGreatDoorAeOps10
namespace Go.AE

variable {P : Program} {μ : Mu} {w : World} {E : T Value} {tmps : Array Value} {dfs : List Deferred}

/-- What an operation comes to in a world. -/
def StepOK (P : Program) (μ : Mu) (s : S) (w : World) (sem : Sem Next) (out : Out) (s' : S) : Prop :=
  match out with
  | .value v => ∃ nx v' μ' w' δ, sem.run P w = .ok nx w' ∧ (nx = .value v' ∨ (nx = .skip ∧ v' = undef)) ∧ VR μ' v v' ∧ HR μ' s' w' ∧ Ext μ s w δ μ' s' w'
  | .enter f args => s' = s ∧ CallOK P μ w (.enter f args) sem
  | .round l args => s' = s ∧ CallOK P μ w (.round l args) sem

theorem StepOK.val {sem : Sem Value} {s s' : S} {v v' : Value} {μ' : Mu} {w' : World} {δ : List Nat} (h : sem.run P w = .ok v' w') (r : VR μ' v v') (hH : HR μ' s' w') (x : Ext μ s w δ μ' s' w') :
    StepOK P μ s w (do pure (.value (← sem))) (.value v) s' :=
  ⟨.value v', v', μ', w', δ, by simp only [Sem.run_bind, h, Result.andThen_ok, Sem.run_pure], .inl rfl, r, hH, x⟩
theorem StepOK.unit {sem : Sem Unit} {s s' : S} {μ' : Mu} {w' : World} {δ : List Nat} (h : sem.run P w = .ok () w') (hH : HR μ' s' w') (x : Ext μ s w δ μ' s' w') :
    StepOK P μ s w (do sem; pure .skip) (.value undef) s' :=
  ⟨.skip, undef, μ', w', δ, by simp only [Sem.run_bind, h, Result.andThen_ok, Sem.run_pure], .inr ⟨rfl, rfl⟩, .tuple .nil, hH, x⟩
theorem StepOK.call {sem : Sem Next} {s : S} {out : Out} (hH : HR μ s w) (h : CallOK P μ w out sem) : StepOK P μ s w sem out s := by
  cases out with
  | value v => obtain ⟨v', a, b⟩ := h; exact ⟨_, v', μ, w, [], a, .inl rfl, b, hH, Ext.refl⟩
  | enter f args => exact ⟨rfl, h⟩
  | round l args => exact ⟨rfl, h⟩
theorem PureOK.step {sem : Sem Next} {s : S} {v : Value} (hH : HR μ s w) (h : PureOK P μ sem v) : StepOK P μ s w sem (.value v) s := by
  obtain ⟨v', a, b⟩ := h; exact ⟨_, v', μ, w, [], a w, .inl rfl, b, hH, Ext.refl⟩
theorem ReadOK.step {sem : Sem Next} {s : S} {v : Value} (hH : HR μ s w) (h : ReadOK P μ w sem v) : StepOK P μ s w sem (.value v) s := by
  obtain ⟨v', a, b⟩ := h; exact ⟨_, v', μ, w, [], a, .inl rfl, b, hH, Ext.refl⟩

theorem Tr.wp_bind {α β : Type} {t : Tr α} {f : α → Tr β} {Q : β → Prop} : (t.bind f).wp Q ↔ t.wp fun a => (f a).wp Q := by
  induction t with
  | fail => exact Iff.rfl
  | done a => exact Iff.rfl
  | ask n k ih =>
    show (0 < n ∧ ∀ i, i < n → ((k i).bind f).wp Q) ↔ (0 < n ∧ ∀ i, i < n → (k i).wp _)
    simp only [ih]

theorem hd_chain (o : Oper) (hE : ER μ E tmps) (hg : GlobOK P μ) {s : S} (hH : HR μ s w) {Q : Out × S → Prop} (hc : cls o.op = .chain ∨ cls o.op = .alloc) (h : ((hd P o.op).run E s).wp Q) :
    ∃ out s', Q (out, s') ∧ StepOK P μ s w (execOp (Act.eval ⟨tmps, dfs⟩) o) out s' := by
  have op1 : ∀ (x : Operand) {v : Value}, (opd P x).run E = some v → VR μ v (Act.eval ⟨tmps, dfs⟩ x) := by
    intro x v hx
    obtain ⟨v', e, r⟩ := opd_sound (dfs := dfs) hE x hg hx
    rw [e]; exact r
  obtain ⟨dst, op, ty, pos, after, guard⟩ := o
  simp only at hc h
  unfold hd at h
  cases op with
  | alloc t =>
    simp only at h
    split at h
    · rename_i z hz
      obtain ⟨hz1, hz2⟩ := zero_flat (w := w) hz
      obtain ⟨μ', w', k1, k2, k3, k4⟩ := newVar_sound (P := P) hH t (eszOf P t) (VR.of_flat1 μ hz2)
      refine ⟨_, _, h, .val ?_ k2 k3 k4⟩
      simp only [Instr.alloc, Sem.run_bind, hz1, Result.andThen_ok, k1, Sem.run_pure]
    · exact h.elim
  | box t x =>
    simp only at h
    split at h
    · rename_i z hz
      obtain ⟨μ', w', k1, k2, k3, k4⟩ := newVar_sound (P := P) hH t (eszOf P t) (op1 x hz)
      refine ⟨_, _, h, .val ?_ k2 k3 k4⟩
      simp only [Instr.box, Sem.run_bind, Result.andThen_ok, k1, Sem.run_pure]
    · exact h.elim
  | buildSlice t len parts =>
    simp only at h
    split at h
    · rename_i l hl
      obtain ⟨v, s', e, q⟩ := ofVS_wp h
      have := parts_sound (dfs := dfs) hE hg parts.toList hl
      obtain ⟨v', μ', w', k1, k2, k3, k4⟩ := buildSlice_sound (P := P) hH this e
      have hp : (⟨parts.toList.map fun (i, x) => (i, Act.eval ⟨tmps, dfs⟩ x)⟩ : Array (Nat × Value)) = parts.map fun (i, x) => (i, Act.eval ⟨tmps, dfs⟩ x) := by
        apply Array.ext'; simp
      rw [hp] at k1
      exact ⟨_, _, q, .val k1 k2 k3 k4⟩
    · exact h.elim
  | store t x y =>
    simp only at h
    split at h
    · rename_i n hn
      simp only at h
      split at h
      · rename_i a ha
        split at h
        · rename_i v hv
          obtain ⟨s', e, q⟩ := ofS_wp h
          have hx := op1 x ha
          generalize hy : Act.eval ⟨tmps, dfs⟩ x = u at hx
          cases u with
          | pointer a' =>
            cases a' with
            | none => cases hx
            | some a' =>
              obtain ⟨w', k1, k2, k3⟩ := storeAt_sound hH hn hx (op1 y hv) e
              refine ⟨_, _, q, .unit ?_ k2 k3⟩
              simp only [Instr.storeAt, hy, Instr.sureAddr, pure_bind, k1]
          | _ => cases hx
        · exact h.elim
      · exact h.elim
    · exact h.elim
  | mapUpdate t m k x =>
    simp only at h
    split at h
    · rename_i key elem hu
      simp only at h
      split at h
      · rename_i a ha
        split at h
        · rename_i b hb
          split at h
          · rename_i c hc'
            obtain ⟨s', e, q⟩ := ofS_wp h
            obtain ⟨w', δ, k1, k2, k3⟩ := mapUpdate_sound hH hu (op1 m ha) (op1 k hb) (op1 x hc') e
            exact ⟨_, _, q, .unit k1 k2 k3⟩
          · exact h.elim
        · exact h.elim
      · exact h.elim
    · exact h.elim
  | insert t m k x =>
    simp only at h
    split at h
    · rename_i key elem hu
      simp only at h
      split at h
      · rename_i a ha
        split at h
        · rename_i b hb
          split at h
          · rename_i c hc'
            obtain ⟨s', e, q⟩ := ofS_wp h
            obtain ⟨w', δ, k1, k2, k3⟩ := mapUpdate_sound hH hu (op1 m ha) (op1 k hb) (op1 x hc') e
            exact ⟨_, _, q, .unit k1 k2 k3⟩
          · exact h.elim
        · exact h.elim
      · exact h.elim
    · exact h.elim
  | range t x =>
    simp only at h
    split at h
    · rename_i a ha
      obtain ⟨v, s', e, q⟩ := ofVS_wp h
      obtain ⟨v', μ', w', k1, k2, k3, k4⟩ := range_sound (P := P) hH (op1 x ha) e
      exact ⟨_, _, q, .val k1 k2 k3 k4⟩
    · exact h.elim
  | next it str =>
    simp only at h
    split at h
    · rename_i a ha
      obtain ⟨v, s', v', w', δ, q, k1, k2, k3, k4⟩ := next_sound (ty := ty) hH (op1 it ha) (Tr.wp_bind.1 h)
      exact ⟨_, _, q, .val k1 k2 k3 k4⟩
    · exact h.elim
  | entry it =>
    simp only at h
    split at h
    · rename_i a ha
      obtain ⟨v, e, q⟩ := ofV_wp h
      obtain ⟨v', k1, k2⟩ := entry_sound (P := P) hH (op1 it ha) e
      exact ⟨_, _, q, .val k1 k2 hH Ext.refl⟩
    · exact h.elim
  | makeMap t r =>
    obtain ⟨k1, k2⟩ := hH.newObj (.map [] 0) (.map #[] 0) (fun _ _ _ _ z e => ⟨#[], e, .nil⟩)
    have k3 : VR (μ.set s.next ⟨w.heap.size, 0, 0, 0⟩) (.map (some s.next)) (.map (some w.heap.size)) := .map (Mu.set_self _ _ _)
    cases r with
    | none =>
      simp only at h
      refine ⟨_, _, h, .val ?_ k3 k1 k2⟩
      simp only [Instr.makeMap, Option.map_none, Sem.run_bind, run_newObj, Result.andThen_ok, Sem.run_pure]
    | some r =>
      simp only at h
      split at h
      · rename_i key elem hu
        simp only at h
        split at h
        · rename_i k n ha
          have := op1 r ha
          generalize hy : Act.eval ⟨tmps, dfs⟩ r = y at this
          cases this
          refine ⟨_, _, h, .val ?_ k3 k1 k2⟩
          simp only [Instr.makeMap, Option.map_some, hy, Sem.run_bind, run_und hu, asInt, asIntOf, run_newObj, Result.andThen_ok, Sem.run_pure]
        · exact h.elim
      · exact h.elim
  | makeSlice t l c =>
    simp only at h
    split at h
    · rename_i u hu
      split at h
      · rename_i v hv
        obtain ⟨v, s', e, q⟩ := ofVS_wp h
        obtain ⟨v', μ', w', k1, k2, k3, k4⟩ := makeSlice_sound (P := P) hH (op1 l hu) (op1 c hv) e
        exact ⟨_, _, q, .val k1 k2 k3 k4⟩
      · exact h.elim
    · exact h.elim
  | call c =>
    obtain ⟨callee, args, argTypes⟩ := c
    have ha : ∀ {l}, (opds P args.toList).run E = some l → VRs μ l (args.map (Act.eval ⟨tmps, dfs⟩)).toList := by
      intro l hl
      have := opds_sound (dfs := dfs) hE hg args.toList hl
      simpa using this
    cases callee with
    | builtin b =>
      cases b with
      | append =>
        simp only [builtin] at h
        split at h
        · rename_i l hl
          have hr := ha hl
          split at h
          · exact h.elim
          · rename_i t ht
            split at h
            · exact h.elim
            · rename_i info hinfo
              split at h
              · exact h.elim
              · rename_i h1
                cases hz : info.zero with
                | none =>
                  simp only [hz, Bool.and_false, cond_false] at h
                  exact h.elim
                | some z =>
                  simp only [hz] at h
                  rw [cond_eq] at h
                  split at h
                  · rename_i hb
                    simp only [Bool.and_eq_true] at hb
                    simp only at h
                    split at h
                    · rename_i x y
                      obtain ⟨v, s', e, q⟩ := ofVS_wp h
                      obtain ⟨elem, hu, hi⟩ := elemInfo_some hinfo
                      have hm : ∃ x' y', args.map (Act.eval ⟨tmps, dfs⟩) = #[x', y'] ∧ VR μ x x' ∧ VR μ y y' := by
                        generalize hargs : args.map (Act.eval ⟨tmps, dfs⟩) = A at hr
                        obtain ⟨L⟩ := A
                        cases hr with
                        | cons r1 r2 => cases r2 with
                          | cons r2 r3 => cases r3; exact ⟨_, _, rfl, r1, r2⟩
                      obtain ⟨x', y', hm, r1, r2⟩ := hm
                      have h1' : ∀ u, argTypes.toList[1]? = some u → ∃ d, P.underlying u = some d ∧ ∀ k, d ≠ .int k := by
                        intro u hu'
                        rw [nth_eq, hu'] at h1
                        simp only at h1
                        cases hd : P.underlying u with
                        | none => rw [hd] at h1; cases h1
                        | some d => rw [hd] at h1; refine ⟨d, rfl, fun k e => ?_⟩; subst e; cases h1
                      obtain ⟨v', μ', w', δ, k1, k2, k3, k4⟩ := append_sound (P := P) (ty := ty) (by rw [nth_eq] at ht; exact ht) hu hi h1' hz (Nat.eq_of_beq_eq_true hb.2) hH r1 r2 e
                      refine ⟨_, _, q, .val ?_ k2 k3 k4⟩
                      simp only [hm]
                      exact k1
                    · exact h.elim
                  · exact h.elim
        · exact h.elim
      | len => simp [cls] at hc
      | max => simp [cls] at hc
      | min => simp [cls] at hc
      | _ =>
        simp only [builtin] at h
        split at h <;> exact h.elim
    | invoke r name =>
      simp only at h
      split at h
      · rename_i l hl
        split at h
        · rename_i v hv
          obtain ⟨o, e, q⟩ := ofO_wp h
          refine ⟨_, _, q, .call hH ?_⟩
          have := invoke_ok (P := P) hH (op1 r hv) (ha hl) e
          have hrun : execOp (Act.eval ⟨tmps, dfs⟩) ⟨dst, .call ⟨.invoke r name, args, argTypes⟩, ty, pos, after, guard⟩ = Go.callMethod (Act.eval ⟨tmps, dfs⟩ r) name ⟨(args.map (Act.eval ⟨tmps, dfs⟩)).toList⟩ := by
            simp only [execOp, resolve, pure_bind, Go.invoke]
            have h0 : (#[Act.eval ⟨tmps, dfs⟩ r] ++ args.map (Act.eval ⟨tmps, dfs⟩))[0]? = some (Act.eval ⟨tmps, dfs⟩ r) := by rw [Array.getElem?_append_left (by simp)]; rfl
            have h1 : (#[Act.eval ⟨tmps, dfs⟩ r] ++ args.map (Act.eval ⟨tmps, dfs⟩)).extract 1 (#[Act.eval ⟨tmps, dfs⟩ r] ++ args.map (Act.eval ⟨tmps, dfs⟩)).size = args.map (Act.eval ⟨tmps, dfs⟩) := by
              apply Array.ext'
              simp only [Array.toList_extract, Array.toList_append, List.cons_append, List.nil_append, List.extract_eq_take_drop, List.drop_succ_cons, List.drop_zero, Array.size_append]
              apply List.take_of_length_le
              simp
            rw [h0, h1]
          rw [hrun]; exact this
        · exact h.elim
      · exact h.elim
    | value f =>
      have hany : ((match (opds P args.toList).run E with
        | some l => match (opd P f).run E with
          | some v => ofO (callV P v l s) s
          | none => .fail
        | none => .fail : Tr (Out × S))).wp Q → ∃ out s', Q (out, s') ∧ StepOK P μ s w (execOp (Act.eval ⟨tmps, dfs⟩) ⟨dst, .call ⟨.value f, args, argTypes⟩, ty, pos, after, guard⟩) out s' := by
        intro h
        split at h
        · rename_i l hl
          split at h
          · rename_i v hv
            obtain ⟨o, e, q⟩ := ofO_wp h
            refine ⟨_, _, q, .call hH ?_⟩
            exact callV_ok (P := P) hH (op1 f hv) (ha hl) e
          · exact h.elim
        · exact h.elim
      cases f with
      | func f =>
        simp only at h
        split at h
        · rename_i l hl
          obtain ⟨o, e, q⟩ := ofO_wp h
          refine ⟨_, _, q, .call hH ?_⟩
          have := callF_ok (P := P) (w := w) (ha hl) e
          have hrun : execOp (Act.eval ⟨tmps, dfs⟩) ⟨dst, .call ⟨.value (.func f), args, argTypes⟩, ty, pos, after, guard⟩ = Go.callFunc f ⟨(args.map (Act.eval ⟨tmps, dfs⟩)).toList⟩ := by
            simp only [execOp, resolve, Act.eval, Deferred.ofValue, pure_bind, Go.invoke]
            congr 1
            apply Array.ext'; simp
          rw [hrun]; exact this
        · exact h.elim
      | _ => exact hany h
  | convert src dst x =>
    simp only at h
    split at h
    · rename_i u hu
      obtain ⟨v, q, k⟩ := conv_sound (op1 x hu) h
      exact ⟨_, _, q, (PureOK.of k).step hH⟩
    · exact h.elim
  | _ => first | (simp [cls] at hc; done) | (simp only at h; exact h.elim)

/-- Every operation. -/
theorem hd_step (o : Oper) (hE : ER μ E tmps) (hg : GlobOK P μ) {s : S} (hH : HR μ s w) {Q : Out × S → Prop} (h : ((hd P o.op).run E s).wp Q) :
    ∃ out s', Q (out, s') ∧ StepOK P μ s w (execOp (Act.eval ⟨tmps, dfs⟩) o) out s' := by
  cases hc : cls o.op with
  | pure => obtain ⟨v, q, k⟩ := hd_pure (dfs := dfs) o hE hg hH hc h; exact ⟨_, _, q, k.step hH⟩
  | reader => obtain ⟨v, q, k⟩ := hd_reader (dfs := dfs) o hE hg hH hc h; exact ⟨_, _, q, k.step hH⟩
  | chain => exact hd_chain o hE hg hH (.inl hc) h
  | alloc => exact hd_chain o hE hg hH (.inr hc) h
theorem hd_defer (o : Oper) {s : S} {Q : Out × S → Prop} (h : ((hd P o.op).run E s).wp Q) : ∀ c, o.op ≠ .defer c := by
  intro c e; rw [e] at h; exact h

end Go.AE
