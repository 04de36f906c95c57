/- THE EVALUATOR, a part: what an evaluator of loaded programs answers the model's machine answers. No condition. -/
import Derived.Test.YtiookgkdekdefaaGreatDoorAeReg
namespace Go.AE

variable {P : Program}

/-! ## What an operation's head looks at -/
theorem opds_congr {E E' : T Value} : ∀ {xs : List Operand}, (∀ x ∈ xs, (opd P x).run E = (opd P x).run E') → (opds P xs).run E = (opds P xs).run E'
  | [], _ => rfl
  | x :: xs, h => by
    simp only [opds, h x (by simp), opds_congr (xs := xs) fun y hy => h y (by simp [hy])]
theorem parts_congr {E E' : T Value} : ∀ {xs : List (Nat × Operand)}, (∀ x ∈ xs, (opd P x.2).run E = (opd P x.2).run E') → (partsOf P xs).run E = (partsOf P xs).run E'
  | [], _ => rfl
  | (i, x) :: xs, h => by
    simp only [partsOf, h (i, x) (by simp), parts_congr (xs := xs) fun y hy => h y (by simp [hy])]

theorem hd_congr {E E' : T Value} {s : S} (op : Op) (h : ∀ x ∈ op.operands, (opd P x).run E = (opd P x).run E') : (hd P op).run E s = (hd P op).run E' s := by
  cases op with
  | move x => simp only [hd, h x (by simp [Op.operands])]
  | assign x => simp only [hd, h x (by simp [Op.operands])]
  | pick c a b => simp only [hd, h c (by simp [Op.operands]), h a (by simp [Op.operands]), h b (by simp [Op.operands])]
  | alloc t => simp only [hd]; split <;> rfl
  | box t x => simp only [hd, h x (by simp [Op.operands])]
  | build t ps =>
    have : (partsOf P ps.toList).run E = (partsOf P ps.toList).run E' := parts_congr fun x hx => h x.2 (by simp only [Op.operands, List.mem_toArray, List.mem_map]; exact ⟨x, hx, rfl⟩)
    simp only [hd, this]
  | buildSlice t n ps =>
    have : (partsOf P ps.toList).run E = (partsOf P ps.toList).run E' := parts_congr fun x hx => h x.2 (by simp only [Op.operands, List.mem_toArray, List.mem_map]; exact ⟨x, hx, rfl⟩)
    simp only [hd, this]
  | load t x => simp only [hd, h x (by simp [Op.operands])]
  | store t x y =>
    simp only [hd]; split
    · simp only [h x (by simp [Op.operands]), h y (by simp [Op.operands])]
    · rfl
  | nilCheck x => simp only [hd, h x (by simp [Op.operands])]
  | binOp op t x y u => simp only [hd, h x (by simp [Op.operands]), h y (by simp [Op.operands])]
  | unOp op t x => simp only [hd, h x (by simp [Op.operands])]
  | convert a b x => simp only [hd, h x (by simp [Op.operands])]
  | makeInterface t x => simp only [hd]; split <;> first | rfl | simp only [h x (by simp [Op.operands])]
  | makeFunc fn first cap =>
    have h1 : (opds P first.toList).run E = (opds P first.toList).run E' := opds_congr fun x hx => h x (by simp only [Op.operands, Array.mem_append]; exact .inl (Array.mem_toList_iff.1 hx))
    have h2 : (opds P cap.toList).run E = (opds P cap.toList).run E' := opds_congr fun x hx => h x (by simp only [Op.operands, Array.mem_append]; exact .inr (Array.mem_toList_iff.1 hx))
    simp only [hd]; split
    · rfl
    · simp only [h1, h2]
  | makeMap t r =>
    cases r with
    | none => rfl
    | some r => simp only [hd]; split <;> first | rfl | simp only [h r (by simp [Op.operands])]
  | makeSlice t l c => simp only [hd, h l (by simp [Op.operands]), h c (by simp [Op.operands])]
  | slice t x lo hi mx =>
    cases mx with
    | some _ => rfl
    | none =>
      cases lo <;> cases hi <;> simp only [hd]
      · simp only [h x (by simp [Op.operands])]
      · rename_i y; simp only [h x (by simp [Op.operands]), h y (by simp [Op.operands])]
      · rename_i y; simp only [h x (by simp [Op.operands]), h y (by simp [Op.operands])]
      · rename_i y z; simp only [h x (by simp [Op.operands]), h y (by simp [Op.operands]), h z (by simp [Op.operands])]
  | fieldAddr t x i =>
    simp only [hd]; split
    · split
      · split
        · simp only [h x (by simp [Op.operands])]
        · rfl
      · rfl
    · rfl
  | field t x i =>
    simp only [hd]; split
    · split
      · simp only [h x (by simp [Op.operands])]
      · rfl
    · rfl
  | indexAddr t x i => simp only [hd, h x (by simp [Op.operands]), h i (by simp [Op.operands])]
  | index t x i => simp only [hd, h x (by simp [Op.operands]), h i (by simp [Op.operands])]
  | lookup t x k ok =>
    simp only [hd]; split
    · simp only [h x (by simp [Op.operands]), h k (by simp [Op.operands])]
    · rfl
  | mapUpdate t m k v =>
    simp only [hd]; split
    · simp only [h m (by simp [Op.operands]), h k (by simp [Op.operands]), h v (by simp [Op.operands])]
    · rfl
  | insert t m k v =>
    simp only [hd]; split
    · simp only [h m (by simp [Op.operands]), h k (by simp [Op.operands]), h v (by simp [Op.operands])]
    · rfl
  | range t x => simp only [hd, h x (by simp [Op.operands])]
  | next it str => simp only [hd, h it (by simp [Op.operands])]
  | entry it => simp only [hd, h it (by simp [Op.operands])]
  | typeAssert x t u ok => simp only [hd, h x (by simp [Op.operands])]
  | extract x i => simp only [hd, h x (by simp [Op.operands])]
  | call c =>
    obtain ⟨callee, args, argTypes⟩ := c
    have h1 : (opds P args.toList).run E = (opds P args.toList).run E' := opds_congr fun x hx => h x (by simp only [Op.operands, Call.operands]; cases callee <;> simp [Array.mem_toList_iff.1 hx])
    cases callee with
    | builtin b => simp only [hd, h1]
    | invoke r name => simp only [hd, h1, h r (by simp [Op.operands, Call.operands])]
    | value f =>
      have h2 := h f (by simp [Op.operands, Call.operands])
      cases f <;> simp only [hd, h1, h2]
  | _ => rfl

/-- A head that asks nothing of the state. -/
def SInd (f : S → Tr (Out × S)) : Prop := ∀ s s1 out, f s = .done (out, s1) → s1 = s ∧ (∃ v, out = .value v) ∧ ∀ s', f s' = .done (out, s')
theorem SInd.fail : SInd (fun _ => .fail) := fun _ _ _ h => by cases h
theorem SInd.val (v : Value) : SInd (fun s => .done (.value v, s)) := fun _ _ _ h => by cases h; exact ⟨rfl, ⟨v, rfl⟩, fun _ => rfl⟩
theorem SInd.ofV (r : Option Value) : SInd (fun s => AE.ofV r s) := by
  cases r with
  | none => exact .fail
  | some v => exact .val v

theorem hd_pure_SInd {E : T Value} (op : Op) (hc : cls op = .pure) : SInd (fun s => (hd P op).run E s) := by
  cases op with
  | move x => exact .ofV _
  | assign x => exact .ofV _
  | pick c a b =>
    simp only [hd]
    split <;> first | exact .fail | exact .ofV _
  | build t ps =>
    simp only [hd]
    split
    · rename_i l hl
      unfold build
      split
      · simp only
        split
        · split
          · simp only
            split <;> first | exact .fail | exact .val _
          · exact .fail
        · split
          · simp only
            split <;> first | exact .fail | exact .val _
          · exact .fail
        · exact .fail
      · exact .fail
    · exact .fail
  | nilCheck x =>
    simp only [hd]
    split <;> first | exact .fail | exact .val _
  | binOp op t x y u =>
    simp only [hd]
    split
    · split
      · exact .ofV _
      · exact .fail
    · exact .fail
  | unOp op t x =>
    simp only [hd]
    split
    · rw [show (fun s : S => bif plainV _ then AE.ofV (svalF P (Op.unary op _)) s else Tr.fail) = (fun s => if plainV _ = true then AE.ofV (svalF P (Op.unary op _)) s else Tr.fail) from funext fun s => cond_eq _ _ _]
      split
      · exact .ofV _
      · exact .fail
    · exact .fail
  | convert a b x =>
    simp only [hd]
    split
    · rename_i v hv
      unfold conv
      split
      · exact .fail
      · split
        · simp only
          split
          · exact .val _
          · exact .ofV _
          · exact .fail
        · simp only [cond_eq]
          split
          · exact .ofV _
          · exact .fail
        · exact .fail
    · exact .fail
  | makeInterface t x =>
    simp only [hd]
    split
    · exact .fail
    · exact .fail
    · simp only
      split <;> first | exact .fail | exact .val _
  | makeFunc fn first cap =>
    simp only [hd]
    split
    · exact .fail
    · simp only
      split
      · split
        · exact .val _
        · exact .fail
      · exact .fail
  | fieldAddr t x i =>
    simp only [hd]
    split
    · split
      · split
        · simp only
          split <;> first | exact .fail | exact .val _
        · exact .fail
      · exact .fail
    · exact .fail
  | field t x i =>
    simp only [hd]
    split
    · split
      · simp only
        split <;> first | exact .fail | exact .ofV _
      · exact .fail
    · exact .fail
  | indexAddr t x i =>
    simp only [hd]
    split
    · split
      · exact .ofV _
      · exact .fail
    · exact .fail
  | index t x i =>
    simp only [hd]
    split
    · split
      · exact .ofV _
      · exact .fail
    · exact .fail
  | typeAssert x t u ok =>
    simp only [hd]
    split <;> first | exact .fail | exact .ofV _
  | extract x i =>
    simp only [hd]
    split <;> first | exact .fail | exact .ofV _
  | call c =>
    obtain ⟨callee, args, argTypes⟩ := c
    cases callee with
    | builtin b =>
      cases b with
      | max =>
        simp only [hd, builtin]
        split
        · simp only [cond_eq]
          split <;> first | exact .fail | exact .ofV _
        · exact .fail
      | min =>
        simp only [hd, builtin]
        split
        · simp only [cond_eq]
          split <;> first | exact .fail | exact .ofV _
        · exact .fail
      | _ => cases hc
    | _ => cases hc
  | _ => cases hc

/-- A reading head: it asks the state for one object alone. -/
theorem hd_reader_S {E : T Value} {s s1 : S} {out : Out} (op : Op) (hc : cls op = .reader) (h : (hd P op).run E s = .done (out, s1)) {r : Option Nat} (hr : (readsOf P op).run E = some r) {s' : S}
    (hs : ∀ id, r = some id → s'.H.get id = s.H.get id) : (hd P op).run E s' = .done (out, s') := by
  have fin : ∀ {x : Option Value}, ofV x s = .done (out, s1) → ofV x s' = .done (out, s') := by
    intro x h; exact (SInd.ofV x s s1 out h).2.2 s'
  cases op with
  | load t x =>
    simp only [hd] at h ⊢
    simp only [readsOf] at hr
    split at h
    · rename_i a ha
      rw [ha] at hr
      simp only [objOf, Option.some.injEq] at hr
      have hg := hs _ hr.symm
      have : loadAt (shapeOf P t) a s' = loadAt (shapeOf P t) a s := by simp only [loadAt, hg]
      simp only [this]
      exact fin h
    · cases h
  | lookup t x k ok =>
    simp only [hd] at h ⊢
    simp only [readsOf] at hr
    split at h
    · simp only at h ⊢
      split at h
      · rename_i a ha
        rw [ha] at hr
        split at h
        · rename_i b hb
          have hm : mapOf a s' = mapOf a s := by
            unfold mapOf
            split
            · rfl
            · rename_i m
              simp only [objOf, Option.some.injEq] at hr
              rw [hs _ hr.symm]
            · rfl
          simp only [lookup, hm] at h ⊢
          exact fin h
        · cases h
      · cases h
    · cases h
  | slice t x lo hi mx =>
    have hex : ∀ a, (opd P x).run E = some a → ∀ (k : SlK) (lo hi : Option Value), sliceExpr k a lo hi s' = sliceExpr k a lo hi s := by
      intro a ha k lo hi
      simp only [readsOf, ha] at hr
      unfold sliceExpr
      split
      · rfl
      · rfl
      · simp only [objOf, Option.some.injEq] at hr; rw [hs _ hr.symm]
      · simp only [objOf, Option.some.injEq] at hr; rw [hs _ hr.symm]
      · rfl
    cases mx with
    | some _ => cases h
    | none =>
      cases lo <;> cases hi <;> simp only [hd] at h ⊢
      all_goals
        split at h
        · rename_i a ha
          simp only [hex a ha]
          repeat' (first | (exact fin h) | (cases h; done) | split at h)
        · cases h
  | call c =>
    obtain ⟨callee, args, argTypes⟩ := c
    cases callee with
    | builtin b =>
      cases b with
      | len =>
        simp only [hd, builtin] at h ⊢
        have hone : ∀ l, (opds P args.toList).run E = some l → ∀ a, l = [a] → ∀ id, objOf a = some id → s'.H.get id = s.H.get id := by
          intro l hl a e id hid
          subst e
          cases hargs : args.toList with
          | nil => rw [hargs] at hl; cases hl
          | cons x xs =>
            rw [hargs] at hl
            simp only [opds] at hl
            split at hl
            · rename_i v hv
              split at hl
              · rename_i vs hvs
                simp only [Option.some.injEq, List.cons.injEq] at hl
                obtain ⟨rfl, rfl⟩ := hl
                cases xs with
                | nil =>
                  simp only [readsOf, hargs, hv, Option.some.injEq] at hr
                  exact hs id (by rw [← hr]; exact hid)
                | cons y ys =>
                  simp only [opds] at hvs
                  split at hvs
                  · split at hvs <;> cases hvs
                  · cases hvs
              · cases hl
            · cases hl
        split at h
        · rename_i l hl
          split at h
          · cases h
          · split at h
            · simp only at h ⊢
              split at h
              · cases h; rfl
              · cases h
            · simp only at h ⊢
              split at h
              · cases h; rfl
              · cases h
            · simp only at h ⊢
              split at h
              · cases h; rfl
              · cases h
            · simp only at h ⊢
              split at h
              · cases h; rfl
              · have := hone _ hl _ rfl _ rfl
                simp only [this]
                split at h
                · cases h; rfl
                · cases h
              · cases h
            · cases h
        · cases h
      | _ => cases hc
    | _ => cases hc
  | _ => cases hc

end Go.AE
