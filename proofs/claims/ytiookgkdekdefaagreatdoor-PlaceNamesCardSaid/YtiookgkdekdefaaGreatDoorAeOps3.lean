/- THE EVALUATOR, a part: what an evaluator of loaded programs answers the model's machine answers. No condition. -/
import Derived.Test.YtiookgkdekdefaaGreatDoorAeOps2
namespace Go.AE

variable {P : Program} {μ : Mu} {w : World}

theorem toNat?_sound {v v' : Value} {n : Nat} (r : VR μ v v') (h : toNat? v = some n) : ∃ k, v' = .int k (Int.ofNat n) := by
  unfold toNat? at h
  split at h
  · cases h; cases r; exact ⟨_, rfl⟩
  · cases h

theorem sliceBound_run {k : IntKind} {n y : Nat} {c : BoundsCode} (h : n ≤ y) : (Instr.sliceBound (.int k (Int.ofNat n)) y c).run P w = .ok n w := by
  simp only [Instr.sliceBound, asIntOf, pure_bind]
  rw [if_pos (by constructor <;> simp <;> omega)]
  simp

/-- Options of values, pairwise. -/
inductive OVR (μ : Mu) : Option Value → Option Value → Prop
  | none : OVR μ none none
  | some {v v' : Value} : VR μ v v' → OVR μ (some v) (some v')

theorem bnd_sound {lo hi lo' hi' : Option Value} {len cap cap' l h : Nat} {b : Bool} (rl : OVR μ lo lo') (rh : OVR μ hi hi') (hc : cap ≤ cap') (e : bnd lo hi len cap = some (l, h)) :
    (Instr.sliceBounds b len cap' lo' hi' none).run P w = .ok (l, h, cap') w ∧ l ≤ h ∧ h ≤ cap := by
  unfold bnd at e
  split at e
  · rename_i h0 l0 eh el
    rw [cond_eq] at e
    split at e
    · rename_i hh
      cases e
      simp only [Bool.and_eq_true, ble_dec, decide_eq_true_eq] at hh
      refine ⟨?_, hh.2, hh.1⟩
      simp only [Instr.sliceBounds, pure_bind]
      cases rh with
      | none =>
        simp only [Option.some.injEq] at eh; subst eh
        cases rl with
        | none => simp only [Option.some.injEq] at el; subst el; simp
        | some r =>
          obtain ⟨k, rfl⟩ := toNat?_sound r el
          simp only [Sem.run_bind, sliceBound_run hh.2, Result.andThen_ok, Sem.run_pure]
      | some r =>
        obtain ⟨k, rfl⟩ := toNat?_sound r eh
        simp only [Sem.run_bind, sliceBound_run (Nat.le_trans hh.1 hc), Result.andThen_ok]
        cases rl with
        | none => simp only [Option.some.injEq] at el; subst el; simp
        | some r2 =>
          obtain ⟨k2, rfl⟩ := toNat?_sound r2 el
          simp only [Sem.run_bind, sliceBound_run hh.2, Result.andThen_ok, Sem.run_pure]
    · cases e
  · cases e

theorem slK_string {t : TypeId} (h : slK P t = .string) : P.underlying t = some .string := by
  unfold slK at h; split at h
  · assumption
  all_goals first | cases h | (split at h <;> cases h)
theorem slK_slice {t : TypeId} {sz : Nat} (h : slK P t = .slice sz) : ∃ e, P.underlying t = some (.slice e) ∧ size P e = some sz := by
  unfold slK at h; split at h
  · cases h
  · split at h
    · cases h; exact ⟨_, by assumption, by assumption⟩
    · cases h
  · split at h <;> cases h
  · cases h
theorem slK_array {t : TypeId} {n sz : Nat} (h : slK P t = .array n sz) : ∃ e, P.underlying t = some (.array n e) ∧ size P e = some sz := by
  unfold slK at h; split at h
  · cases h
  · split at h <;> cases h
  · split at h
    · cases h; exact ⟨_, by assumption, by assumption⟩
    · cases h
  · cases h

/-- Where a slice is cut at its capacity's end, Go leaves the address as it was: nothing lies there. -/
theorem VR.cut {b o : Nat} {d : Wd} {l h c m sz : Nat} (hd : μ b = some d) (hl : l ≤ h) (hh : h ≤ c) (hc : c ≤ m) (hz : d.esz = sz) (hcap : o + m * d.esz ≤ d.cap) :
    VR μ (.slice (some ⟨b, o + l * sz, none⟩) (h - l) (c - l)) (.slice (some (if m = l then ⟨d.blk, d.off + o, none⟩ else (⟨d.blk, d.off + o, none⟩ : Addr).add (l * sz))) (h - l) (m - l)) := by
  by_cases hm : m = l
  · rw [if_pos hm]
    have e1 : h - l = 0 := by omega
    have e2 : c - l = 0 := by omega
    have e3 : m - l = 0 := by omega
    rw [e1, e2, e3]; exact .sempty hd
  · rw [if_neg hm, add_none, Nat.add_assoc]
    refine .slice hd (by omega) (by omega) ?_
    rw [hz] at hcap ⊢
    have : (m - l) * sz = m * sz - l * sz := Nat.sub_mul m l sz
    have : l * sz ≤ m * sz := Nat.mul_le_mul_right sz (by omega)
    omega

theorem sliceExpr_sound {s : S} (hH : HR μ s w) {t : TypeId} {a a' v : Value} {lo hi lo' hi' : Option Value} (ra : VR μ a a') (rl : OVR μ lo lo') (rh : OVR μ hi hi')
    (h : sliceExpr (slK P t) a lo hi s = some v) : ∃ v', (∀ w : World, (Instr.sliceAt t a' lo' hi' none).run P w = .ok v' w) ∧ VR μ v v' := by
  unfold sliceExpr at h
  split at h
  · rename_i hk
    have hu := slK_string hk
    cases ra
    split at h
    · rename_i l h0 hb
      cases h
      have hbs := fun w : World => bnd_sound (P := P) (w := w) (b := false) rl rh (Nat.le_refl _) hb
      have q2 := (hbs default).2.1
      have q3 := (hbs default).2.2
      refine ⟨_, fun w => ?_, .string _⟩
      simp only [Instr.sliceAt, Instr.slice, Sem.run_bind, run_und hu, Result.andThen_ok, Option.isSome_none, Bool.false_eq_true, if_false, Sem.run_pure, (hbs w).1]
    · cases h
  · rename_i sz len cap hk
    obtain ⟨e, hu, hsz⟩ := slK_slice hk
    cases ra
    split at h
    · rename_i l h0 hb
      cases h
      have hbs := fun w : World => bnd_sound (P := P) (w := w) (b := true) rl rh (Nat.le_refl _) hb
      have q2 := (hbs default).2.1
      have q3 := (hbs default).2.2
      have hl : l = 0 := by omega
      have hh : h0 = 0 := by omega
      subst hl; subst hh
      refine ⟨.slice none 0 0, fun w => ?_, .snil⟩
      simp only [Instr.sliceAt, Instr.slice, Sem.run_bind, run_und hu, Result.andThen_ok, (hbs w).1, run_size hsz, Sem.run_pure]
      simp
    · cases h
  · rename_i sz a0 len cap hk
    obtain ⟨e, hu, hsz⟩ := slK_slice hk
    split at h
    · rename_i vs e0 ro hget
      rw [cond_eq] at h
      split at h
      · rename_i he
        have he := Nat.eq_of_beq_eq_true he
        split at h
        · rename_i l h0 hb
          cases h
          cases ra with
          | @slice b o n c m d hd h1 h2 h3 =>
            have hbs := fun w : World => bnd_sound (P := P) (w := w) (b := true) rl rh h2 hb
            have q2 := (hbs default).2.1
            have q3 := (hbs default).2.2
            obtain ⟨hesz, _⟩ := hH.obj _ _ _ hget hd
            refine ⟨_, fun w => ?_, VR.cut hd q2 q3 h2 (hesz.trans he) h3⟩
            simp only [Instr.sliceAt, Instr.slice, Sem.run_bind, run_und hu, Result.andThen_ok, (hbs w).1, run_size hsz, Sem.run_pure]
            congr 2
            split <;> rfl
          | @sempty b o a' _ hd0 =>
            have hbs := fun w : World => bnd_sound (P := P) (w := w) (b := true) rl rh (Nat.le_refl _) hb
            have q2 := (hbs default).2.1
            have q3 := (hbs default).2.2
            have hl : l = 0 := by omega
            have hh : h0 = 0 := by omega
            subst hl; subst hh
            refine ⟨.slice (some a') 0 0, fun w => ?_, .sempty hd0⟩
            simp only [Instr.sliceAt, Instr.slice, Sem.run_bind, run_und hu, Result.andThen_ok, (hbs w).1, run_size hsz, Sem.run_pure]
            simp
        · cases h
      · cases h
    · cases h
  · rename_i n sz a0 hk
    obtain ⟨e, hu, hsz⟩ := slK_array hk
    split at h
    · rename_i vs e0 ro hget
      rw [cond_eq] at h
      split at h
      · rename_i he
        simp only [Bool.and_eq_true, beq_dec, ble_dec, decide_eq_true_eq] at he
        split at h
        · rename_i l h0 hb
          cases h
          cases ra with
          | @ptr b o d hd =>
            have hbs := fun w : World => bnd_sound (P := P) (w := w) (b := false) rl rh (Nat.le_refl _) hb
            have q2 := (hbs default).2.1
            have q3 := (hbs default).2.2
            obtain ⟨hesz, pre, mid, post, el, fr, c1, c2, c3, c4, c5, c6⟩ := hH.obj _ _ _ hget hd
            have hml := c3.length
            have hcap : o + n * d.esz ≤ d.cap := by rw [hesz, he.1]; have := he.2; simp only at this; omega
            refine ⟨_, fun w => ?_, VR.cut hd q2 q3 (Nat.le_refl _) (hesz.trans he.1) hcap⟩
            simp only [Instr.sliceAt, Instr.sureAddr, Sem.run_bind, run_und hu, Result.andThen_ok, (hbs w).1, run_size hsz, Sem.run_pure]
        · cases h
      · cases h
    · cases h
  · cases h

theorem indexAddr_sound {t : TypeId} {a a' i i' v : Value} (ra : VR μ a a') (ri : VR μ i i') (h : indexAddr (slK P t) a i = some v) :
    ∃ v', (∀ w : World, (Instr.indexAt t a' i').run P w = .ok v' w) ∧ VR μ v v' := by
  unfold indexAddr at h
  split at h
  · cases h
  · rename_i n hn
    obtain ⟨k, rfl⟩ := toNat?_sound ri hn
    split at h
    · rename_i sz a0 len cap hk
      obtain ⟨e, hu, hsz⟩ := slK_slice hk
      rw [cond_eq] at h
      split at h
      · rename_i hlt
        rw [blt_dec, decide_eq_true_eq] at hlt
        cases h
        cases ra with
        | @slice b o n' c m d hd h1 h2 h3 =>
          refine ⟨_, fun w => ?_, .ptr hd⟩
          simp only [Instr.indexAt, asIntOf, pure_bind, Sem.run_bind, run_und hu, Result.andThen_ok]
          rw [if_pos (by constructor <;> simp <;> omega)]
          simp only [Sem.run_bind, run_size hsz, Result.andThen_ok, Sem.run_pure, add_none, Int.ofNat_eq_natCast, Int.toNat_natCast]
          simp [Nat.add_assoc]
        | sempty => omega
      · cases h
    · rename_i len sz a0 hk
      obtain ⟨e, hu, hsz⟩ := slK_array hk
      rw [cond_eq] at h
      split at h
      · rename_i hlt
        rw [blt_dec, decide_eq_true_eq] at hlt
        cases h
        cases ra with
        | @ptr b o d hd =>
          refine ⟨_, fun w => ?_, .ptr hd⟩
          simp only [Instr.indexAt, asIntOf, Instr.sureAddr, pure_bind, Sem.run_bind, run_und hu, Result.andThen_ok]
          rw [if_pos (by constructor <;> simp <;> omega)]
          simp only [Sem.run_bind, run_size hsz, Result.andThen_ok, Sem.run_pure, add_none, Int.ofNat_eq_natCast, Int.toNat_natCast]
          simp [Nat.add_assoc]
      · cases h
    · cases h

theorem ixK_string {t : TypeId} (h : ixK P t = .string) : P.underlying t = some .string := by
  unfold ixK at h; split at h
  · assumption
  · split at h <;> cases h
  · cases h
theorem ixK_array {t : TypeId} {n sz : Nat} {sh : Shape} (h : ixK P t = .array n sz sh) : ∃ e, P.underlying t = some (.array n e) ∧ size P e = some sz ∧ sh = shapeOf P e := by
  unfold ixK at h; split at h
  · cases h
  · split at h
    · cases h; exact ⟨_, by assumption, by assumption, rfl⟩
    · cases h
  · cases h

theorem index_sound {t : TypeId} {a a' i i' v : Value} (ra : VR μ a a') (ri : VR μ i i') (h : index (ixK P t) a i = some v) :
    ∃ v', (∀ w : World, (Instr.index t a' i').run P w = .ok v' w) ∧ VR μ v v' := by
  unfold index at h
  split at h
  · cases h
  · rename_i n hn
    obtain ⟨k, rfl⟩ := toNat?_sound ri hn
    split at h
    · rename_i len sz sh cs hk
      obtain ⟨e, hu, hsz, rfl⟩ := ixK_array hk
      rw [cond_eq] at h
      split at h
      · rename_i hlt
        rw [blt_dec, decide_eq_true_eq] at hlt
        cases ra with
        | agg r =>
          obtain ⟨v', e1, e2⟩ := partAt_sound (P := P) r h
          refine ⟨v', fun w => ?_, e2⟩
          simp only [Instr.index, asIntOf, pure_bind, Sem.run_bind, run_und hu, Result.andThen_ok]
          rw [if_pos (by constructor <;> simp <;> omega)]
          simp only [Sem.run_bind, run_size hsz, Result.andThen_ok, Int.ofNat_eq_natCast, Int.toNat_natCast, e1]
      · cases h
    · rename_i s hk
      have hu := ixK_string hk
      split at h
      · rename_i b hb
        cases h
        cases ra
        refine ⟨_, fun w => ?_, .int _ _⟩
        rw [nth_eq] at hb
        have hb' : s[n]? = some b := by
          have hlt : n < s.data.toList.length := by rcases Nat.lt_or_ge n s.data.toList.length with h | h; exact h; rw [List.getElem?_eq_none h] at hb; cases hb
          have hs : n < s.size := hlt
          rw [getElem?_pos s n hs]
          rw [List.getElem?_eq_getElem hlt] at hb
          exact hb
        simp only [Instr.index, asIntOf, pure_bind, Sem.run_bind, run_und hu, Result.andThen_ok]
        rw [if_pos (by simp)]
        simp only [Int.ofNat_eq_natCast, Int.toNat_natCast, hb', Sem.run_pure]
      · cases h
    · cases h

end Go.AE
