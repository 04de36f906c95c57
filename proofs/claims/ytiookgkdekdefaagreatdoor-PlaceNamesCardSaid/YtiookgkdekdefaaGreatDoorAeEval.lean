/- THE EVALUATOR, a part: what an evaluator of loaded programs answers the model's machine answers. No condition. -/
import Derived.Test.YtiookgkdekdefaaGreatDoorAeCall
namespace Go.AE

variable {P : Program} {μ : Mu} {w : World} {E : T Value} {tmps : Array Value}

/-! ## A frame's end -/
theorem take_run {x : Nat} (h : w.heap[x]? = some (Obj.deferred (some []))) : (Instr.takeDeferred x).run P w = .ok [] { w with heap := w.heap.setIfInBounds x (.deferred none) } := by
  simp only [Instr.takeDeferred, Sem.run_bind, run_getObj h (by intro a b c e; cases e), Result.andThen_ok, run_setObj h (by intro a b c e; cases e), Sem.run_pure]

theorem step_unwind {fr : Frame} {cs : List Frame} {x : Nat} {ds : List Deferred} {w1 : World} (hm : fr.mode = .returning) (hd : fr.defers = { target := .collected x, args := #[] } :: ds) (h : (Instr.takeDeferred x).run P w = .ok [] w1) :
    Go.step P (lone fr cs w) = .next (lone { fr with defers := ds } cs w1) :=
  step_lone_go (by simp [stepG, unwind, hm, hd, Sem.runT_eq, h])

/-- The marks go, one by one. -/
theorem unwind_all (s : S) : ∀ (bs : List Nat) (base : Nat) (w : World), HR μ s w → DfsOK base w bs →
    ∃ w', HR μ s w' ∧ w'.heap.size = w.heap.size ∧ (∀ b, b ∉ bs → w'.heap[b]? = w.heap[b]?) ∧ w'.os = w.os ∧ w'.tape = w.tape ∧ w'.output = w.output ∧
      ∀ (fr : Frame) (cs : List Frame), fr.mode = .returning → fr.defers = marks bs → Steps P (lone fr cs w) (lone { fr with defers := [] } cs w')
  | [], base, w, hH, _ => ⟨w, hH, rfl, fun _ _ => rfl, rfl, rfl, rfl, fun fr cs hm hd => by
      have : fr = { fr with defers := [] } := by cases fr; simp only at hd; subst hd; rfl
      rw [← this]; exact Steps.refl _ _⟩
  | x :: bs, base, w, hH, hD => by
    have hx := (hD.2.2 x (by simp)).2
    have hrun := take_run (P := P) hx
    have hother : ∀ b, b ≠ x → (w.heap.setIfInBounds x (Obj.deferred none))[b]? = w.heap[b]? := fun b hb => by rw [Array.getElem?_setIfInBounds_ne (Ne.symm hb)]
    have hH1 : HR μ s { w with heap := w.heap.setIfInBounds x (.deferred none) } := by
      refine ⟨fun id o d e m => ?_, hH.lt, hH.sep, fun id d m => by simpa using hH.dom id d m⟩
      have ho := hH.obj id o d e m
      by_cases hb : d.blk = x
      · by_cases hod : o = .deferred
        · subst hod
          exact ⟨none, by rw [hb]; exact setObj_get _ hx⟩
        · exact absurd (by rw [hb]; exact hx) (ho.not_deferred hod _)
      · exact ho.keep (Sub.refl μ) (hother _ hb)
    have hD1 : DfsOK base { w with heap := w.heap.setIfInBounds x (.deferred none) } bs := by
      refine ⟨(List.nodup_cons.1 hD.1).2, by simpa using hD.2.1, fun b hb => ⟨(hD.2.2 b (by simp [hb])).1, ?_⟩⟩
      rw [hother b (fun e => by subst e; exact (List.nodup_cons.1 hD.1).1 hb)]
      exact (hD.2.2 b (by simp [hb])).2
    obtain ⟨w', a1, a2, a3, a4, a5, a6, a7⟩ := unwind_all s bs base _ hH1 hD1
    refine ⟨w', a1, by rw [a2]; simp, fun b hb => ?_, a4, a5, a6, fun fr cs hm hd => ?_⟩
    · simp only [List.mem_cons, not_or] at hb
      rw [a3 b hb.2]; exact hother b hb.1
    · have hs := step_unwind (P := P) (cs := cs) hm hd hrun
      have := a7 { fr with defers := marks bs } cs hm rfl
      exact .head hs this

/-- What an oracle says is so. -/
def OracleOK (P : Program) (O : Oracle) : Prop := ∀ f g, O f = some g → ∀ args s v s', g args s = some (v, s') → CallSpec P f args s (fun x => x = (v, s'))

theorem all_wp {α : Type} {p : α → Bool} : ∀ {t : Tr α}, Tr.all p t = true → t.wp (fun a => p a = true)
  | .fail, h => by simp [Tr.all] at h
  | .done a, h => h
  | .ask n k, h => by
    simp only [Tr.all, Bool.and_eq_true, Bool.not_eq_true'] at h
    refine ⟨?_, fun i hi => all_wp (List.all_eq_true.1 h.2 i (List.mem_range.2 hi))⟩
    cases n with
    | zero => simp at h
    | succ n => exact Nat.succ_pos n

theorem sameFlat_rel {a c v' : Value} (h : sameFlat a c = true) (r : VR μ c v') (ν : Mu) : VR ν a v' := by
  unfold sameFlat at h
  split at h
  · cases r; rename_i x y; have := eq_of_beq h; subst this; exact .bool _
  · cases r
    simp only [Bool.and_eq_true] at h
    have h1 := eq_of_beq h.1
    have h2 := eq_of_beq h.2
    subst h1; subst h2; exact .int _ _
  · rename_i x y
    simp only [Bool.and_eq_true, List.isEmpty_iff] at h
    obtain ⟨x⟩ := x; obtain ⟨y⟩ := y
    simp only at h
    obtain ⟨h1, h2⟩ := h
    subst h1; subst h2
    cases r with
    | tuple r => cases r; exact .tuple .nil
  · cases h

theorem collapse_sound {f : FuncId} {args : List Value} {s : S} {t : Tr (Value × S)} (hs : ∀ Q, t.wp Q → CallSpec P f args s Q) {Q : Value × S → Prop} (h : (collapse s t).wp Q) : CallSpec P f args s Q := by
  unfold collapse at h
  split at h
  · exact h.elim
  · exact hs Q h
  · rename_i n k
    split at h
    · rename_i x hx
      rw [cond_eq] at h
      split at h
      · rename_i hb
        simp only [Bool.and_eq_true] at hb
        have hwp := all_wp hb.2
        intro μ w args' hH hg ra
        obtain ⟨v, s', v', μ', w', δ, q, c1, c2, c3, c4⟩ := hs _ hwp μ w args' hH hg ra
        simp only [Bool.and_eq_true, List.all_eq_true] at q
        rw [fresh_eq c4.log] at q
        have hfr : ∀ b, b < w.heap.size → w'.heap[b]? = w.heap[b]? := by
          intro b hb
          refine c4.frame b hb fun id hid d hd => ?_
          have := Nat.le_of_ble_eq_true (q.2 id hid)
          have := (hH.dom _ _ hd).1
          omega
        refine ⟨x.1, s, v', μ, w', [], h, c1, sameFlat_rel q.1 c2 μ, ⟨fun id o d e m => ?_, hH.lt, hH.sep, fun id d m => ?_⟩, ?_⟩
        · exact (hH.obj id o d e m).keep (Sub.refl μ) (hfr _ (hH.dom _ _ m).2)
        · have := hH.dom id d m
          exact ⟨this.1, Nat.lt_of_lt_of_le this.2 c4.size⟩
        · exact ⟨Sub.refl μ, (fun id d a m => by rw [a] at m; cases m), Nat.le_refl _, rfl, fun b hb _ => hfr b hb, c4.size, (fun _ h => by cases h), fun id _ o e => ⟨o, e, rfl⟩, fun _ _ _ => rfl, (fun _ h => by cases h), c4.dkeep, c4.os, c4.tape, c4.output⟩
      · exact hs Q h
    · exact h.elim

theorem fc_sound {R : Rec} (hR : RecOK P R) {O : Oracle} (hO : OracleOK P O) {f : FuncId} {args : List Value} {s : S} {Q : Value × S → Prop} (h : ((fc P O f).run R args s).wp Q) : CallSpec P f args s Q := by
  unfold fc at h
  split at h
  · rename_i g hg
    cases hv : g args s with
    | none => simp only [hv] at h; exact h.elim
    | some x =>
      obtain ⟨v, s'⟩ := x
      simp only [hv] at h
      intro μ w args' a b c
      obtain ⟨v, s', v', μ', w', δ, q, r⟩ := hO f g hg args s v s' hv μ w args' a b c
      cases q
      exact ⟨v, s', v', μ', w', δ, h, r⟩
  · split at h
    · exact h.elim
    · rename_i fn hf
      split at h
      · exact h.elim
      · rename_i c hbody
        rw [cond_eq] at h
        split at h
        · rename_i hwf
          simp only [cond_eq] at h
          split at h
          · rename_i hlen
            have hlen := Nat.le_of_ble_eq_true hlen
            refine collapse_sound ?_ h
            clear h
            intro Q h μ w args' hH hgl ra
            have hl := ra.length
            have hsz : ((⟨args'⟩ : Array Value) ++ Array.replicate (fn.ntmps - (⟨args'⟩ : Array Value).size) undef).size = fn.ntmps := by
              simp; omega
            have hE : ER μ (bindAll .nil 0 args) ((⟨args'⟩ : Array Value) ++ Array.replicate (fn.ntmps - (⟨args'⟩ : Array Value).size) undef) := by
              refine bindAll_sound args args' _ _ 0 ra (fun t v e => by rw [T.get_nilP] at e; cases e) (fun j v' hv => ?_)
              rw [Nat.zero_add, Array.getElem?_append_left]
              · simpa using hv
              · have : j < args'.length := by
                  rcases Nat.lt_or_ge j args'.length with h | h
                  · exact h
                  · rw [List.getElem?_eq_none h] at hv; cases hv
                simpa using this
            obtain ⟨r, E1, s1, tmps1, bs1, μ1, w1, δ1, q1, a1, a2, a3, a4, a5, a6, a7⟩ := cd_sound hR c false (Tr.wp_bind.1 h) (Frame.enter P f ⟨args'⟩ .normal) _ [] w.heap.size μ w rfl hH hE hgl (by rw [hsz]; exact hwf) ⟨List.nodup_nil, Nat.le_refl _, fun x hx => by cases hx⟩
            obtain ⟨w2, u1, u2, u3, u4, u5, u6, u7⟩ := unwind_all (P := P) s1 bs1 w.heap.size w1 a2 a5
            have hend : ∃ l, (resultVals P fn.results.toList).run E1 s1 = some l ∧ Q (packed l, s1) ∧ (r = .normal ∨ r = .ret) := by
              cases r with
              | exit i => exact q1.elim
              | normal =>
                simp only at q1
                split at q1
                · rename_i l hl2; exact ⟨l, hl2, q1, .inl rfl⟩
                · exact q1.elim
              | ret =>
                simp only at q1
                split at q1
                · rename_i l hl2; exact ⟨l, hl2, q1, .inr rfl⟩
                · exact q1.elim
            obtain ⟨l, hl2, hQ, hr⟩ := hend
            obtain ⟨v', rv1, rv2⟩ := results_sound (P := P) u1 a1 hl2
            have hfr : ∀ b, b < w.heap.size → w2.heap[b]? = w1.heap[b]? := by
              intro b hb
              refine u3 b fun hin => ?_
              have := (a5.2.2 b hin).1
              omega
            refine ⟨packed l, s1, v', μ1, w2, δ1, hQ, fun cs => ?_, rv2, u1, ⟨a3.sub, a3.new, a3.next, a3.log, fun b hb hn => by rw [hfr b hb]; exact a3.frame b hb hn, by rw [u2]; exact a3.size, a3.logrw, a3.old, a3.hframe, a3.wr, fun b hb => ?_, u4.trans a3.os, u5.trans a3.tape, u6.trans a3.output⟩⟩
            · obtain ⟨k1, l1, st1⟩ := a7 [] cs
              have hstart : Frame.enter P f ⟨args'⟩ .normal = (Frame.enter P f ⟨args'⟩ .normal).atR ⟨(⟨args'⟩ : Array Value) ++ Array.replicate (fn.ntmps - (⟨args'⟩ : Array Value).size) undef, marks []⟩ [.code c] := by
                simp only [Frame.enter, Frame.atR, hf, hbody, Option.map_some, Option.getD_some, Option.bind_some, marks, List.map_nil]
              rw [← hstart] at st1
              -- the frame, returning
              have hret : ∃ todo, Steps P (lone (Frame.enter P f ⟨args'⟩ .normal) cs w) (lone { (Frame.enter P f ⟨args'⟩ .normal).atR ⟨tmps1, marks bs1⟩ todo with mode := .returning } cs w1) := by
                rcases hr with rfl | rfl
                · cases l1; exact ⟨_, st1.trans (.one (stepR_end rfl))⟩
                · cases l1; exact ⟨_, st1.trans (.one (stepR_ret rfl))⟩
              obtain ⟨todo, hret⟩ := hret
              have hun := u7 { (Frame.enter P f ⟨args'⟩ .normal).atR ⟨tmps1, marks bs1⟩ todo with mode := .returning } cs rfl rfl
              refine ⟨_, hret.trans hun, rfl, rfl, rfl, rfl, fn, hf, ?_⟩
              exact rv1
            · have hlt : b < w.heap.size := by
                rcases Nat.lt_or_ge b w.heap.size with h | h
                · exact h
                · rw [Array.getElem?_eq_none h] at hb; cases hb
              rw [hfr b hlt]; exact a3.dkeep b hb
          · exact h.elim
        · exact h.elim

theorem step_sound {R : Rec} (hR : RecOK P R) {O : Oracle} (hO : OracleOK P O) : RecOK P (AE.step P O R) where
  code := fun q c _ _ _ h => cd_sound hR c q h
  call := fun _ _ _ _ h => fc_sound hR hO h
  round := fun _ _ _ _ h => round_sound hR O h

/-- **THE EVALUATOR IS RIGHT.** -/
theorem eval_sound {O : Oracle} (hO : OracleOK P O) : ∀ n, RecOK P (eval P O n)
  | 0 => ⟨fun _ _ _ _ _ h => h.elim, fun _ _ _ _ h => h.elim, fun _ _ _ _ h => h.elim⟩
  | n + 1 => step_sound (eval_sound hO n) hO

end Go.AE
