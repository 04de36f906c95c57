/- THE EVALUATOR, a part: what an evaluator of loaded programs answers the model's machine answers. No condition. -/
import Derived.Test.YtiookgkdekdefaaGreatDoorAeOps1
namespace Go.AE

variable {P : Program} {μ : Mu} {w : World}

theorem svalF_run {x : Sem Value} {v : Value} (h : svalF P x = some v) (w : World) : x.run P w = .ok v w ∧ flat v = true := by
  unfold svalF at h
  split at h
  · rename_i u hu
    rw [cond_eq] at h
    split at h
    · cases h; exact ⟨sval_run _ w hu, by assumption⟩
    · cases h
  · cases h

theorem plainV_eq {v v' : Value} (h : plainV v = true) (r : VR μ v v') : v' = v := by
  cases r <;> simp_all [plainV]

theorem nilEq_sound {op : BinOp} {t : TypeId} {x y : Operand} {a b a' b' : Value} {r : Bool} (hop : op = .eql ∨ op = .neq) (ha : VR μ a a') (hb : VR μ b b')
    (h : nilEq (P.underlying t) (isConst x) (isConst y) a b = some r) :
    (eqGuard op t x y a' b').run P w = .ok () w ∧ (Op.equal t a' b').run P w = .ok r w := by
  have heq : ∃ d, (Op.equal t a' b') = Op.equalIn (d + 1) t a' b' := ⟨9999, rfl⟩
  obtain ⟨dep, heq⟩ := heq
  rw [heq]
  unfold nilEq at h
  split at h
  case h_10 =>
    rename_i ms hu
    cases ha; cases hb
    rw [cond_eq] at h; split at h
    · rename_i hc
      cases h
      refine ⟨?_, by simp only [Op.equalIn, Sem.run_bind, run_und hu, Result.andThen_ok]; rfl⟩
      rcases hop with rfl | rfl <;> (cases x <;> cases y <;> simp_all [isConst, eqGuard])
    · cases h
  all_goals first | cases h | skip
  all_goals (rename_i hu; cases ha <;> cases hb <;> (refine ⟨by rcases hop with rfl | rfl <;> simp [eqGuard], ?_⟩; simp only [Op.equalIn, Sem.run_bind, run_und hu, Result.andThen_ok]; first | rfl | exact absurd rfl (by assumption)))

theorem binary_sound {op : BinOp} {t : TypeId} {x y : Operand} {a b a' b' v : Value} (ha : VR μ a a') (hb : VR μ b b') (h : (binary P op t x y).run a b = some v) :
    ∃ v', (∀ w : World, (do eqGuard op t x y a' b'; binOp op t a' b' : Sem Value).run P w = .ok v' w) ∧ VR μ v v' := by
  have slow : ∀ {v : Value}, slowBin P op t x y (P.underlying t) (isConst x) (isConst y) a b = some v → ∃ v', (∀ w : World, (do eqGuard op t x y a' b'; binOp op t a' b' : Sem Value).run P w = .ok v' w) ∧ VR μ v v' := by
    intro v h
    unfold slowBin at h
    rw [cond_eq] at h
    split at h
    · rename_i hp
      simp only [Bool.and_eq_true] at hp
      rw [plainV_eq hp.1 ha, plainV_eq hp.2 hb]
      exact ⟨v, fun w => (svalF_run h w).1, VR.of_flat μ (svalF_run h default).2⟩
    · split at h
      · split at h
        · rename_i r hr
          cases h
          have hns := fun w => nilEq_sound (w := w) (op := .eql) (.inl rfl) ha hb hr
          refine ⟨.bool r, fun w => ?_, .bool r⟩
          obtain ⟨e1, e2⟩ := hns w
          simp only [Sem.run_bind, e1, Result.andThen_ok]
          have hb2 : binOp .eql t a' b' = (do pure (.bool (← Op.equal t a' b'))) := by
            unfold nilEq at hr
            split at hr <;> first | (cases hr; done) | (cases ha <;> cases hb <;> rfl)
          rw [hb2]; simp [e2]
        · cases h
      · split at h
        · rename_i r hr
          cases h
          have hns := fun w => nilEq_sound (w := w) (op := .neq) (.inr rfl) ha hb hr
          refine ⟨.bool !r, fun w => ?_, .bool _⟩
          obtain ⟨e1, e2⟩ := hns w
          simp only [Sem.run_bind, e1, Result.andThen_ok]
          have hb2 : binOp .neq t a' b' = (do pure (.bool (!(← Op.equal t a' b')))) := by
            unfold nilEq at hr
            split at hr <;> first | (cases hr; done) | (cases ha <;> cases hb <;> rfl)
          rw [hb2]; simp [e2]
        · cases h
      · cases h
  simp only [binary] at h
  split at h
  · rename_i k n
    split at h
    · rename_i k' m
      rw [cond_eq] at h
      split at h
      · rename_i hk
        split at h
        · rename_i u hu
          cases h
          have := eqK_eq hk; subst this
          cases ha; cases hb
          refine ⟨v, fun w => by
            obtain ⟨e1, e2⟩ := intBin_sound (P := P) (w := w) (t := t) (x := x) (y := y) hu
            simp only [Sem.run_bind, e1, Result.andThen_ok, e2], ?_⟩
          cases op <;> simp only [intBin, Option.some.injEq] at hu <;> first | (cases hu; done) | (subst hu; constructor)
        · exact slow h
      · exact slow h
    · exact slow h
  · exact slow h

end Go.AE
