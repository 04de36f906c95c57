/- THE EVALUATOR, a part: what an evaluator of loaded programs answers the model's machine answers. No condition. -/
import Derived.Test.YtiookgkdekdefaaGreatDoorAeOps8
namespace Go.AE

variable {P : Program} {μ : Mu} {w : World}

theorem typeAssert_sound {x x' v : Value} {xt t : TypeId} {ok : Bool} (r : VR μ x x') (h : typeAssert P (asK P t) (zero P t) x ok = some v) :
    ∃ v', (∀ w : World, (Instr.typeAssert x' xt t ok).run P w = .ok v' w) ∧ VR μ v v' := by
  unfold typeAssert at h
  have hfail : ∀ {v : Value}, (bif ok then (match zero P t with | some z => some (.tuple #[z, .bool false]) | none => none) else none : Option Value) = some v →
      ok = true ∧ ∃ z, (∀ w : World, (zeroValue t).run P w = .ok z w) ∧ v = .tuple #[z, .bool false] ∧ VR μ v (.tuple #[z, .bool false]) := by
    intro v h
    cases ok
    · cases h
    · simp only [cond_true] at h
      split at h
      · rename_i z hz
        cases h
        exact ⟨rfl, z, fun w => (zero_flat (w := w) hz).1, rfl, .tuple (.cons (VR.of_flat1 μ (zero_flat (w := default) hz).2) (.cons (.bool _) .nil))⟩
      · cases h
  have hhold : ∀ {u u' : Value}, VR μ u u' → VR μ (bif ok then .tuple #[u, .bool true] else u) (if ok then .tuple #[u', .bool true] else u') := by
    intro u u' r
    cases ok
    · exact r
    · exact .tuple (.cons r (.cons (.bool _) .nil))
  simp only at h
  unfold asK at h
  cases hu : P.underlying t with
  | none => simp [hu] at h
  | some d =>
    cases d with
    | interface want =>
      simp only [hu] at h
      split at h
      · cases r
        obtain ⟨rfl, z, h1, rfl, h2⟩ := hfail h
        exact ⟨_, fun w => by simp only [Instr.typeAssert, Sem.run_bind, run_und hu, Result.andThen_ok, if_true, h1, Sem.run_pure], h2⟩
      · rename_i want' tt vv heq
        cases heq
        cases r with
        | iface _ rv =>
          split at h
          · rename_i hh
            unfold hasAll at hh
            split at hh
            · rename_i i hi
              simp only [Option.some.injEq, Option.isNone_iff_eq_none] at hh
              simp only [Option.some.injEq] at h; subst h
              exact ⟨_, fun w => by simp only [Instr.typeAssert, Sem.run_bind, run_und hu, Result.andThen_ok, run_info hi, hh, Sem.run_pure], hhold (.iface _ rv)⟩
            · cases hh
          · rename_i hh
            unfold hasAll at hh
            split at hh
            · rename_i i hi
              simp only [Option.some.injEq] at hh
              obtain ⟨rfl, z, h1, rfl, h2⟩ := hfail h
              cases hm : Instr.missingMethod want i.methods with
              | none => simp [hm] at hh
              | some mm => exact ⟨_, fun w => by simp only [Instr.typeAssert, Sem.run_bind, run_und hu, Result.andThen_ok, run_info hi, hm, if_true, h1, Sem.run_pure], h2⟩
            · cases hh
          · cases h
      all_goals first | cases h | (rename_i heq; cases heq) | (rename_i heq _; cases heq)
    | _ =>
      simp only [hu] at h
      have hplain : (x = .nilIface ∧ (bif ok then (match zero P t with | some z => some (.tuple #[z, .bool false]) | none => none) else none : Option Value) = some v) ∨
          ∃ tt vv, x = .iface tt vv ∧ ((tt = t ∧ some (bif ok then .tuple #[vv, .bool true] else vv) = some v) ∨ (tt ≠ t ∧ (bif ok then (match zero P t with | some z => some (.tuple #[z, .bool false]) | none => none) else none : Option Value) = some v)) := by
        split at h
        all_goals first | (rename_i heq; cases heq; done) | skip
        all_goals first | (rename_i heq _; cases heq; done) | skip
        all_goals first | exact .inl ⟨rfl, h⟩ | skip
        all_goals first | (cases h; done) | skip
        all_goals
          rename_i a tt vv heq
          cases heq
          right
          refine ⟨_, _, rfl, ?_⟩
          rw [cond_eq] at h
          split at h
          · rename_i hb; exact .inl ⟨Nat.eq_of_beq_eq_true hb, h⟩
          · rename_i hb; exact .inr ⟨fun e => hb (by rw [e]; exact Nat.beq_refl _), h⟩
      clear h
      rcases hplain with ⟨rfl, h⟩ | ⟨tt, vv, rfl, ⟨rfl, h⟩ | ⟨hne, h⟩⟩
      · cases r
        obtain ⟨rfl, z, h1, rfl, h2⟩ := hfail h
        exact ⟨_, fun w => by simp only [Instr.typeAssert, Sem.run_bind, run_und hu, Result.andThen_ok, if_true, h1, Sem.run_pure], h2⟩
      · cases r with
        | iface _ rv =>
          simp only [Option.some.injEq] at h; subst h
          exact ⟨_, fun w => by simp only [Instr.typeAssert, Sem.run_bind, run_und hu, Result.andThen_ok, if_true, Sem.run_pure], hhold rv⟩
      · cases r with
        | iface _ rv =>
          obtain ⟨rfl, z, h1, rfl, h2⟩ := hfail h
          exact ⟨_, fun w => by simp only [Instr.typeAssert, Sem.run_bind, run_und hu, Result.andThen_ok, hne, if_false, if_true, h1, Sem.run_pure], h2⟩

/-! ## Calls -/
theorem callF_sound {f : FuncId} {args args' : List Value} {out : Out} (r : VRs μ args args') (h : (callF P f).run args = some out) :
    (out = .enter f args ∧ ∀ w : World, (Go.callFunc f ⟨args'⟩).run P w = .ok (.enter f ⟨args'⟩) w) ∨
    (∃ v, out = .value v ∧ VR μ v v ∧ ∀ w : World, (Go.callFunc f ⟨args'⟩).run P w = .ok (.value v) w) := by
  unfold callF at h
  split at h
  · cases h
  · rename_i fn hf
    rw [cond_eq] at h
    split at h
    · cases h
    · rename_i hn
      split at h
      · rename_i c hb
        simp only [Option.some.injEq] at h; subst h
        left
        refine ⟨rfl, fun w => ?_⟩
        have : fn.body.isNone = false := by rw [hb]; rfl
        simp only [Go.callFunc, Sem.run_bind, run_program, Result.andThen_ok, hf, hn, if_false, this, Bool.false_eq_true, Sem.run_pure]
      · rename_i hb
        simp only at h
        rw [cond_eq] at h
        split at h
        · rename_i hfl
          split at h
          · rename_i v hv
            rw [cond_eq] at h
            split at h
            · rename_i hfv
              cases h
              right
              have := VRs.eq_flat hfl r
              subst this
              exact ⟨v, rfl, VR.of_flat μ hfv, fun w => sval_run _ w hv⟩
            · cases h
          · cases h
        · cases h

theorem wrapNil_run (ts : Array TypeId) (t : TypeId) (a : Addr) (x y : String) (w : World) : (Builtin.ssaWrapNilChk_ ts t #[.pointer (some a), strVal x, strVal y]).run P w = .ok (.pointer (some a)) w := rfl

theorem method_sound {s : S} (hH : HR μ s w) {t : TypeId} {name : String} {f : FuncId} {k : Recv} {v v' x : Value} (rv : VR μ v v') (h : methodOf P t name = some (f, k)) (hx : recvOf k v s = some x) (n : Nat) :
    ∃ x', (Go.method (n + 1) t v' name).run P w = .ok (f, x') w ∧ VR μ x x' := by
  unfold methodOf at h
  split at h
  · cases h
  · rename_i i hi
    split at h
    · cases h
    · rename_i m hm
      rw [cond_eq] at h
      split at h
      · rename_i hp
        have hpath : m.path.toList = [] := by simpa using hp
        have hemp : m.path.isEmpty = true := by
          rw [← Array.isEmpty_toList, hpath]; rfl
        split at h
        · rename_i f' e hmf hu
          cases h
          simp only [recvOf, Option.some.injEq] at hx; subst hx
          exact ⟨v', by simp only [Go.method, Sem.run_bind, run_info hi, Result.andThen_ok, hm, hpath, follow, Sem.run_pure, hmf, receiverAt, run_und hu, Place.get], rv⟩
        · rename_i f' e hmf hu
          cases h
          simp only [recvOf] at hx
          split at hx
          · rename_i a
            cases v' with
            | pointer a' =>
              cases a' with
              | none => cases rv
              | some a' =>
                obtain ⟨y, d, h1, h2, h3⟩ := loadAt_sound (P := P) hH rv hx
                refine ⟨y, ?_, h1⟩
                simp only [Go.method, Sem.run_bind, run_info hi, Result.andThen_ok, hm, hpath, follow, Sem.run_pure, hmf, receiverAt, run_und hu, Place.get, hemp, if_true, wrapNil_run, asAddr, h3 w rfl]
            | _ => cases rv
          · cases hx
        · rename_i f' d hnp hmf hu
          cases h
          simp only [recvOf, Option.some.injEq] at hx; subst hx
          refine ⟨v', ?_, rv⟩
          simp only [Go.method, Sem.run_bind, run_info hi, Result.andThen_ok, hm, hpath, follow, Sem.run_pure, hmf, receiverAt, run_und hu, Place.get]
        · cases h
      · cases h

/-- What a call comes to. -/
def CallOK (P : Program) (μ : Mu) (w : World) (out : Out) (sem : Sem Next) : Prop :=
  match out with
  | .value v => ∃ v', sem.run P w = .ok (.value v') w ∧ VR μ v v'
  | .enter f args => ∃ args', sem.run P w = .ok (.enter f ⟨args'⟩) w ∧ VRs μ args args'
  | .round l args => ∃ d args', μ l = some d ∧ VRs μ args args' ∧ sem.run P w = (Instr.yield d.blk ⟨args'⟩).run P w

theorem callF_ok {f : FuncId} {args args' : List Value} {out : Out} (r : VRs μ args args') (h : (callF P f).run args = some out) : CallOK P μ w out (Go.callFunc f ⟨args'⟩) := by
  rcases callF_sound r h with ⟨rfl, e⟩ | ⟨v, rfl, a, b⟩
  · exact ⟨args', e w, r⟩
  · exact ⟨v, b w, a⟩

theorem invoke_ok {s : S} (hH : HR μ s w) {r r' : Value} {name : String} {args args' : List Value} {out : Out} (rr : VR μ r r') (ra : VRs μ args args') (h : AE.invoke P r name args s = some out) :
    CallOK P μ w out (Go.callMethod r' name ⟨args'⟩) := by
  unfold AE.invoke at h
  split at h
  · rename_i t v
    split at h
    · cases h
    · rename_i f k hm
      split at h
      · rename_i x hx
        cases rr with
        | @iface _ _ v0 rv =>
          obtain ⟨x', e1, e2⟩ := method_sound (P := P) hH rv hm hx (P.types.size + 99)
          have e1' : (Go.method (P.types.size + Made.depth) t v0 name).run P w = .ok (f, x') w := e1
          have := callF_ok (w := w) (.cons e2 ra) h
          have hrun : (Go.callMethod (.iface t v0) name ⟨args'⟩).run P w = (Go.callFunc f ⟨x' :: args'⟩).run P w := by
            simp only [Go.callMethod, Sem.run_bind, run_program, Result.andThen_ok, e1']
            congr 2
            simp
          unfold CallOK at *
          rw [hrun]; exact this
      · cases h
  · cases h

theorem callV_ok {s : S} (hH : HR μ s w) {x x' : Value} {args args' : List Value} {out : Out} (rx : VR μ x x') (ra : VRs μ args args') (h : callV P x args s = some out) :
    CallOK P μ w out (do let d ← Deferred.ofValue x' ⟨args'⟩; Go.invoke d.target d.args) := by
  unfold callV at h
  split at h
  · rename_i f first cap
    cases rx with
    | func hn r1 r2 =>
      have := callF_ok (w := w) ((r1.append ra).append r2) h
      unfold CallOK at *
      simpa [Deferred.ofValue, Go.invoke] using this
  · rename_i name first cap
    split at h
    · rename_i r rest hcons
      cases rx with
      | @func _ a a' c c' hn r1 r2 =>
        have hra := r1.append ra
        simp only at hcons
        rw [hcons] at hra
        cases hl : a' ++ args' with
        | nil => rw [hl] at hra; cases hra
        | cons y ys =>
          rw [hl] at hra
          cases hra with
          | cons q1 q2 =>
            have := invoke_ok (P := P) hH q1 q2 h
            unfold CallOK at *
            have hrun : ((do let d ← Deferred.ofValue (.func (.method name) ⟨a'⟩ ⟨c'⟩) ⟨args'⟩; Go.invoke d.target d.args) : Sem Next) = Go.callMethod y name ⟨ys⟩ := by
              have hap : (⟨a'⟩ : Array Value) ++ ⟨args'⟩ = ⟨y :: ys⟩ := by rw [← hl]; simp
              simp only [Deferred.ofValue, pure_bind, Go.invoke, hap]
              simp
            rw [hrun]; exact this
    · cases h
  · rename_i l first cap
    cases h
    cases rx with
    | func hn => exact hn.elim
    | @yield _ d hd =>
      refine ⟨d, args', hd, ra, ?_⟩
      simp [Deferred.ofValue, Go.invoke]
  · cases h

end Go.AE
