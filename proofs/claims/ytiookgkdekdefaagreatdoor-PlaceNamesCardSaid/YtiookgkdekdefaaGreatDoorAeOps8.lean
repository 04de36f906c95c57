/- THE EVALUATOR, a part: what an evaluator of loaded programs answers the model's machine answers. No condition. -/
import Derived.Test.YtiookgkdekdefaaGreatDoorAeOps7
namespace Go.AE

variable {P : Program} {μ : Mu} {w : World}

theorem run_getObj {r : Nat} {o : Obj} (h : w.heap[r]? = some o) (hc : ∀ a b c, o ≠ .cells a b c) : (getObj r).run P w = .ok o w := by
  simp only [getObj, Sem.run, h]
  try (cases o <;> first | rfl | exact absurd rfl (hc _ _ _))
theorem run_setObj {r : Nat} {o o' : Obj} (h : w.heap[r]? = some o) (hc : ∀ a b c, o ≠ .cells a b c) : (setObj r o').run P w = .ok () { w with heap := w.heap.setIfInBounds r o' } := by
  simp only [setObj, Sem.run, h]
  try (cases o <;> first | rfl | exact absurd rfl (hc _ _ _))

theorem setObj_same {r : Nat} (o' : Obj) : Same1 w { w with heap := w.heap.setIfInBounds r o' } r :=
  ⟨by simp, fun k hk => by simp only; rw [Array.getElem?_setIfInBounds_ne (by omega)], rfl, rfl, rfl⟩
theorem setObj_get {r : Nat} {o : Obj} (o' : Obj) (h : w.heap[r]? = some o) : (w.heap.setIfInBounds r o')[r]? = some o' := by
  have hlt : r < w.heap.size := by
    rcases Nat.lt_or_ge r w.heap.size with h' | h'
    · exact h'
    · rw [Array.getElem?_eq_none h'] at h; cases h
  simp [hlt]

/-! ## Maps -/
def plainKey : Value → Bool
  | .int .. | .string _ | .bool _ => true
  | _ => false

theorem sameNow_eq {d : TypeDesc} {k e e' : Value} (r : VR μ e e') : Instr.sameNow d k e = Instr.sameNow d k e' := by
  cases r <;> first | rfl | (cases d <;> cases k <;> rfl)

theorem findNow_sound {d : TypeDesc} {k : Value} : ∀ {es es' : List MapEntry} (i : Nat) {q : Option (Nat × Value)}, MRs μ es es' → Instr.findNow d k es i = some q →
    (q = none ∧ Instr.findNow d k es' i = some none) ∨ (∃ j v v', q = some (j, v) ∧ Instr.findNow d k es' i = some (some (j, v')) ∧ VR μ v v')
  | _, _, _, _, .nil, h => by simp only [Instr.findNow, Option.some.injEq] at h; exact .inl ⟨h.symm, rfl⟩
  | _, _, i, q, .cons (e := e) (e' := e') rk rv hb r, h => by
    simp only [Instr.findNow] at h ⊢
    rw [← sameNow_eq rk]
    split at h
    · cases h; exact .inr ⟨_, _, _, rfl, rfl, rv⟩
    · exact findNow_sound (i + 1) r h
    · cases h

theorem findNow_at {d : TypeDesc} {k : Value} : ∀ {es : List MapEntry} (i : Nat) {j : Nat} {v : Value}, Instr.findNow d k es i = some (some (j, v)) →
    ∃ n e, j = i + n ∧ es[n]? = some e ∧ Instr.sameNow d k e.key = some true
  | [], _, _, _, h => by simp [Instr.findNow] at h
  | e :: es, i, j, v, h => by
    simp only [Instr.findNow] at h
    split at h
    · cases h; rename_i hs; exact ⟨0, e, rfl, rfl, hs⟩
    · obtain ⟨n, e', h1, h2, h3⟩ := findNow_at (i + 1) h
      exact ⟨n + 1, e', by omega, by simpa using h2, h3⟩
    · cases h

theorem bytes_beq (a b : ByteArray) (h : (a == b) = true) : a = b := by
  cases a; cases b
  congr 1
  exact eq_of_beq h
theorem sameNow_true {d : TypeDesc} {k e : Value} (h : Instr.sameNow d k e = some true) : e = k ∧ plainKey k = true := by
  unfold Instr.sameNow at h
  split at h
  · split at h
    · rename_i hk; subst hk; simp only [Option.some.injEq, beq_iff_eq] at h; subst h; exact ⟨rfl, rfl⟩
    · cases h
  · simp only [Option.some.injEq] at h; have := bytes_beq _ _ h; subst this; exact ⟨rfl, rfl⟩
  · simp only [Option.some.injEq, beq_iff_eq] at h; subst h; exact ⟨rfl, rfl⟩
  · cases h

theorem checkKey_plain {t : TypeId} {d : TypeDesc} {k : Value} (hu : P.underlying t = some d) (hd : (∃ q, d = .int q) ∨ d = .string ∨ d = .bool) (b : Bool) (n : Nat) : (Instr.checkKey b (n + 1) t k).run P w = .ok () w := by
  simp only [Instr.checkKey, Sem.run_bind, run_und hu, Result.andThen_ok]
  rcases hd with ⟨q, rfl⟩ | rfl | rfl <;> rfl

theorem keyK_spec {t : TypeId} {k : Value} {es : List MapEntry} {q : Option (Nat × Value)} (h : (keyK P t).run k es = some q) :
    ∃ d, P.underlying t = some d ∧ Instr.findNow d k es 0 = some q ∧ plainKey k = true ∧ (∀ b, (Instr.checkKey b 10000 t k).run P w = .ok () w) := by
  unfold keyK at h
  split at h
  · rename_i q' hu
    simp only at h
    split at h
    · exact ⟨_, hu, h, rfl, fun b => checkKey_plain hu (by first | exact .inl ⟨_, rfl⟩ | exact .inr (.inl rfl) | exact .inr (.inr rfl)) b 9999⟩
    · cases h
  · rename_i hu
    simp only at h
    split at h
    · exact ⟨_, hu, h, rfl, fun b => checkKey_plain hu (by first | exact .inl ⟨_, rfl⟩ | exact .inr (.inl rfl) | exact .inr (.inr rfl)) b 9999⟩
    · cases h
  · rename_i hu
    simp only at h
    split at h
    · exact ⟨_, hu, h, rfl, fun b => checkKey_plain hu (by first | exact .inl ⟨_, rfl⟩ | exact .inr (.inl rfl) | exact .inr (.inr rfl)) b 9999⟩
    · cases h
  · cases h

theorem plainKey_eq {k k' : Value} (h : plainKey k = true) (r : VR μ k k') : k' = k := by
  cases r <;> simp_all [plainKey]

theorem findKey_run {t : TypeId} {d : TypeDesc} {k : Value} {es : List MapEntry} {q : Option (Nat × Value)} (hu : P.underlying t = some d) (h : Instr.findNow d k es 0 = some q) :
    (Instr.findKey t k es).run P w = .ok q w := by
  simp only [Instr.findKey, Sem.run_bind, run_und hu, Result.andThen_ok, h, Sem.run_pure]

theorem mapOf_sound {s : S} (hH : HR μ s w) {x x' : Value} {es : List MapEntry} (r : VR μ x x') (h : mapOf x s = some es) :
    (x = .map none ∧ x' = .map none ∧ es = []) ∨ ∃ id d es' clock, x = .map (some id) ∧ μ id = some d ∧ x' = .map (some d.blk) ∧ w.heap[d.blk]? = some (.map es' clock) ∧ MRs μ es es'.toList := by
  unfold mapOf at h
  split at h
  · cases h; cases r; exact .inl ⟨rfl, rfl, rfl⟩
  · rename_i id
    split at h
    · rename_i es2 clock hget
      cases h
      cases r with
      | map hd =>
        obtain ⟨es', h1, h2⟩ := hH.obj _ _ _ hget hd
        exact .inr ⟨_, _, es', clock, rfl, hd, rfl, h1, h2⟩
    · cases h
  · cases h

theorem lookup_run {t key elem : TypeId} (hu : P.underlying t = some (.map key elem)) {x' k' : Value} {ok : Bool} {es' : List MapEntry}
    (hx : (x' = .map none ∧ es' = []) ∨ ∃ b ea clock, x' = .map (some b) ∧ w.heap[b]? = some (.map ea clock) ∧ ea.toList = es') (hck : ∀ b, (Instr.checkKey b 10000 key k').run P w = .ok () w) :
    (Instr.lookup t x' k' ok).run P w = ((do
      let (v, b) ← match ← Instr.findKey key k' es' with
        | some (_, v) => pure (v, true)
        | none => pure (← zeroValue elem, false)
      pure (if ok then .tuple #[v, .bool b] else v) : Sem Value).run P w) := by
  rcases hx with ⟨rfl, rfl⟩ | ⟨b, ea, clock, rfl, hb, rfl⟩
  · simp only [Instr.lookup, Sem.run_bind, run_und hu, Result.andThen_ok, pure_bind, hck]
    congr 1
  · simp only [Instr.lookup, Sem.run_bind, run_und hu, Result.andThen_ok, run_getObj hb (by intro a b c e; cases e), pure_bind, hck]
    congr 1

/-- What holds in every world in which an object is as it is here. -/
def StillAt (μ : Mu) (w : World) (r : Option Nat) (p : World → Prop) : Prop :=
  match r with
  | none => ∀ w1, p w1
  | some id => ∃ d, μ id = some d ∧ ∀ w1 : World, w1.heap[d.blk]? = w.heap[d.blk]? → p w1
theorem StillAt.here {r : Option Nat} {p : World → Prop} (h : StillAt μ w r p) : p w := by
  cases r with
  | none => exact h w
  | some id => obtain ⟨d, _, h⟩ := h; exact h w rfl

theorem lookup_sound {s : S} (hH : HR μ s w) {t key elem : TypeId} (hu : P.underlying t = some (.map key elem)) {x x' k k' v : Value} {ok : Bool} (rx : VR μ x x') (rk : VR μ k k')
    (h : lookup (keyK P key) (zero P elem) x k ok s = some v) : ∃ m v', x = .map m ∧ VR μ v v' ∧ StillAt μ w m fun w1 => (Instr.lookup t x' k' ok).run P w1 = .ok v' w1 := by
  unfold lookup at h
  split at h
  · cases h
  · rename_i es hes
    have hx : ∃ m es', x = .map m ∧ MRs μ es es' ∧ StillAt μ w m fun w => (x' = .map none ∧ es' = []) ∨ ∃ b ea clock, x' = .map (some b) ∧ w.heap[b]? = some (.map ea clock) ∧ ea.toList = es' := by
      rcases mapOf_sound hH rx hes with ⟨a, b, c⟩ | ⟨id, d, ea, clock, e1, e2, e3, e4, e5⟩
      · subst c; exact ⟨none, [], a, .nil, fun _ => .inl ⟨b, rfl⟩⟩
      · exact ⟨some id, ea.toList, e1, e5, d, e2, fun w1 hw => .inr ⟨d.blk, ea, clock, e3, by rw [hw]; exact e4, rfl⟩⟩
    obtain ⟨m, es', hm, m2, m1⟩ := hx
    refine ⟨m, ?_⟩
    have fin : ∀ {v' : Value}, (∀ w : World, ((x' = .map none ∧ es' = []) ∨ ∃ b ea clock, x' = .map (some b) ∧ w.heap[b]? = some (.map ea clock) ∧ ea.toList = es') → (Instr.lookup t x' k' ok).run P w = .ok v' w) →
        StillAt μ w m fun w1 => (Instr.lookup t x' k' ok).run P w1 = .ok v' w1 := by
      intro v' hh
      cases m with
      | none => exact fun w1 => hh w1 (m1 w1)
      | some id => obtain ⟨d, a, b⟩ := m1; exact ⟨d, a, fun w1 hw => hh w1 (b w1 hw)⟩
    split at h
    · cases h
    · rename_i i u hq
      have hks := fun w : World => keyK_spec (w := w) hq
      obtain ⟨d, q1, q2, q3, _⟩ := hks default
      have := plainKey_eq q3 rk; subst this
      rcases findNow_sound 0 m2 q2 with ⟨e, _⟩ | ⟨j, u1, u', e, f, g⟩
      · cases e
      · cases e
        have run : ∀ w : World, ((x' = .map none ∧ es' = []) ∨ ∃ b ea clock, x' = .map (some b) ∧ w.heap[b]? = some (.map ea clock) ∧ ea.toList = es') →
            (Instr.lookup t x' k' ok).run P w = .ok (if ok then .tuple #[u', .bool true] else u') w := by
          intro w hx
          obtain ⟨_, _, _, _, q4⟩ := hks w
          rw [lookup_run hu hx q4]
          simp only [Sem.run_bind, findKey_run q1 f, Result.andThen_ok, Sem.run_pure]
        cases ok
        · simp only [cond_false, Option.some.injEq] at h; subst h; exact ⟨_, hm, g, fin run⟩
        · simp only [cond_true, Option.some.injEq] at h; subst h; exact ⟨_, hm, .tuple (.cons g (.cons (.bool _) .nil)), fin run⟩
    · rename_i hq
      have hks := fun w : World => keyK_spec (w := w) hq
      obtain ⟨d, q1, q2, q3, _⟩ := hks default
      have := plainKey_eq q3 rk; subst this
      rcases findNow_sound 0 m2 q2 with ⟨_, f⟩ | ⟨j, u1, u', e, _⟩
      · split at h
        · rename_i z hz
          have z2 := (zero_flat (w := default) hz).2
          have run : ∀ w : World, ((x' = .map none ∧ es' = []) ∨ ∃ b ea clock, x' = .map (some b) ∧ w.heap[b]? = some (.map ea clock) ∧ ea.toList = es') →
              (Instr.lookup t x' k' ok).run P w = .ok (if ok then .tuple #[z, .bool false] else z) w := by
            intro w hx
            obtain ⟨_, _, _, _, q4⟩ := hks w
            rw [lookup_run hu hx q4]
            simp only [Sem.run_bind, findKey_run q1 f, Result.andThen_ok, (zero_flat (w := w) hz).1, Sem.run_pure]
          cases ok
          · simp only [cond_false, Option.some.injEq] at h; subst h; exact ⟨_, hm, VR.of_flat1 μ z2, fin run⟩
          · simp only [cond_true, Option.some.injEq] at h; subst h; exact ⟨_, hm, .tuple (.cons (VR.of_flat1 μ z2) (.cons (.bool _) .nil)), fin run⟩
        · cases h
      · cases e

theorem MRs.append {a a' b b' : List MapEntry} : MRs μ a a' → MRs μ b b' → MRs μ (a ++ b) (a' ++ b')
  | .nil, k => k
  | .cons x y z r, k => .cons x y z (MRs.append r k)
theorem MRs.length {a a' : List MapEntry} : MRs μ a a' → a'.length = a.length
  | .nil => rfl
  | .cons _ _ _ r => by simp [MRs.length r]

theorem MRs.setEntry {k k' v v' : Value} (rk : VR μ k k') (rv : VR μ v v') : ∀ {es es' : List MapEntry} (i : Nat), MRs μ es es' →
    MRs μ (setEntry es i k v) (es'.modify i fun e => { e with key := k', val := v' })
  | _, _, _, .nil => by simp [AE.setEntry]; exact .nil
  | _, _, 0, .cons a b c r => by simp only [AE.setEntry, List.modify_zero_cons]; exact .cons rk rv c r
  | _, _, i + 1, .cons a b c r => by simp only [AE.setEntry, List.modify_succ_cons]; exact .cons a b c (MRs.setEntry rk rv i r)

theorem sameBits_plain {k : Value} (h : plainKey k = true) : Instr.sameBits 10000 k k = true := by
  cases k <;> simp_all [plainKey, Instr.sameBits]
  rename_i s; cases s; rename_i d; show (d == d) = true; simp

theorem mapUpdate_sound {s s' : S} (hH : HR μ s w) {t key elem : TypeId} (hu : P.underlying t = some (.map key elem)) {m m' k k' v v' : Value} (rm : VR μ m m') (rk : VR μ k k') (rv : VR μ v v')
    (h : mapUpdate (keyK P key) m k v s = some s') : ∃ w' δ, (Instr.mapUpdate t m' k' v').run P w = .ok () w' ∧ HR μ s' w' ∧ Ext μ s w δ μ s' w' := by
  unfold mapUpdate at h
  split at h
  · rename_i id
    split at h
    · rename_i es clock hget
      cases rm with
      | map hd =>
        obtain ⟨es', h1, h2⟩ := hH.obj _ _ _ hget hd
        rename_i d
        have hg := run_getObj (P := P) h1 (by intro a b c e; cases e)
        split at h
        · cases h
        · rename_i i u hq
          cases h
          obtain ⟨d2, q1, q2, q3, q4⟩ := keyK_spec (w := w) hq
          have := plainKey_eq q3 rk; subst this
          rcases findNow_sound 0 h2 q2 with ⟨e, _⟩ | ⟨j, u1, u', e, f, g⟩
          · cases e
          · cases e
            obtain ⟨n, en, n1, n2, n3⟩ := findNow_at 0 f
            obtain ⟨n4, _⟩ := sameNow_true n3
            have hk : ((es'[i]?).map (·.key)).getD k' = k' := by
              have : es'[i]? = some en := by rw [n1, Nat.zero_add, ← Array.getElem?_toList]; exact n2
              rw [this]; exact n4
            have hO : OR μ { w with heap := w.heap.setIfInBounds d.blk (.map (es'.modify i fun e => { e with key := k', val := v' }) clock) } d (.map (setEntry es i k' v) clock) :=
              ⟨_, setObj_get _ h1, by rw [Array.toList_modify]; exact MRs.setEntry rk rv i h2⟩
            have sm := setObj_same (w := w) (r := d.blk) (.map (es'.modify i fun e => { e with key := k', val := v' }) clock)
            obtain ⟨k1, k2⟩ := hH.upd hget rfl (by intro e; cases e) hd hO rfl sm.size (fun b hb => sm.other b hb) sm.os sm.tape sm.output
            refine ⟨_, _, ?_, k1, k2⟩
            simp only [Instr.mapUpdate, Sem.run_bind, run_und hu, Result.andThen_ok, hg, q4, findKey_run q1 f, hk, Instr.keyThatStays, sameBits_plain q3, if_true, Sem.run_pure, run_setObj h1 (by intro a b c e; cases e)]
        · rename_i hq
          cases h
          obtain ⟨d2, q1, q2, q3, q4⟩ := keyK_spec (w := w) hq
          have := plainKey_eq q3 rk; subst this
          rcases findNow_sound 0 h2 q2 with ⟨_, f⟩ | ⟨j, u1, u', e, _⟩
          · have hO : OR μ { w with heap := w.heap.setIfInBounds d.blk (.map (es'.push { key := k', val := v', born := clock }) (clock + 1)) } d (.map (es ++ [⟨k', v, clock⟩]) (clock + 1)) :=
              ⟨_, setObj_get _ h1, by rw [Array.toList_push]; exact h2.append (.cons rk rv rfl .nil)⟩
            have sm := setObj_same (w := w) (r := d.blk) (.map (es'.push { key := k', val := v', born := clock }) (clock + 1))
            obtain ⟨k1, k2⟩ := hH.upd hget rfl (by intro e; cases e) hd hO rfl sm.size (fun b hb => sm.other b hb) sm.os sm.tape sm.output
            refine ⟨_, _, ?_, k1, k2⟩
            simp only [Instr.mapUpdate, Sem.run_bind, run_und hu, Result.andThen_ok, hg, q4, findKey_run q1 f, run_setObj h1 (by intro a b c e; cases e)]
          · cases e
    · cases h
  · cases h

/-! ## Iterators -/
theorem HR.newObj {s : S} (h : HR μ s w) (o : AO) (ob : Obj) (hO : ∀ (ν : Mu) (w' : World) (d : Wd), Sub μ ν → d.off = 0 → w'.heap[d.blk]? = some ob → OR ν w' d o) :
    HR (μ.set s.next ⟨w.heap.size, 0, 0, 0⟩) (s.new o) { w with heap := w.heap.push ob } ∧ Ext μ s w [] (μ.set s.next ⟨w.heap.size, 0, 0, 0⟩) (s.new o) { w with heap := w.heap.push ob } :=
  h.new o ob ⟨w.heap.size, 0, 0, 0⟩ rfl (hO _ _ _ (Mu.sub_set h.fresh) rfl (by simp))

theorem range_sound {s s' : S} (hH : HR μ s w) {t : TypeId} {x x' v : Value} (rx : VR μ x x') (h : range (P.underlying t) x s = some (v, s')) :
    ∃ v' μ' w', (Instr.range t x').run P w = .ok v' w' ∧ VR μ' v v' ∧ HR μ' s' w' ∧ Ext μ s w [] μ' s' w' := by
  unfold range at h
  split at h
  · rename_i st hu
    cases h; cases rx
    obtain ⟨k1, k2⟩ := hH.newObj (.stringIter st 0) (.stringIter st 0) (fun _ _ _ _ z e => ⟨z, e⟩)
    refine ⟨.pointer (some ⟨w.heap.size, 0, none⟩), _, _, ?_, .ptr (o := 0) (Mu.set_self _ _ _), k1, k2⟩
    simp only [Instr.range, Sem.run_bind, run_und hu, Result.andThen_ok, pure_bind, run_newObj, Sem.run_pure]
  · rename_i hu
    cases h; cases rx
    obtain ⟨k1, k2⟩ := hH.newObj (.mapIter none 0 [] 0) (.mapIter none 0 #[] 0) (fun _ _ _ _ z e => ⟨z, none, e, trivial⟩)
    refine ⟨.pointer (some ⟨w.heap.size, 0, none⟩), _, _, ?_, .ptr (o := 0) (Mu.set_self _ _ _), k1, k2⟩
    simp only [Instr.range, Sem.run_bind, run_und hu, Result.andThen_ok, pure_bind, run_newObj, Sem.run_pure]
  · rename_i r hu
    split at h
    · rename_i es clock hget
      cases h
      cases rx with
      | @map _ d hd =>
        obtain ⟨es', h1, h2⟩ := hH.obj _ _ _ hget hd
        obtain ⟨k1, k2⟩ := hH.newObj (.mapIter (some r) clock [] clock) (.mapIter (some d.blk) clock #[] clock) (fun _ _ _ sb z e => ⟨z, some d.blk, e, d, sb _ _ hd, rfl⟩)
        refine ⟨.pointer (some ⟨w.heap.size, 0, none⟩), _, _, ?_, .ptr (o := 0) (Mu.set_self _ _ _), k1, k2⟩
        simp only [Instr.range, Sem.run_bind, run_und hu, Result.andThen_ok, run_getObj h1 (by intro a b c e; cases e), pure_bind, run_newObj, Sem.run_pure]
    · cases h
  · cases h

theorem MRs.find {p : Nat → Bool} : ∀ {es es' : List MapEntry} {e : MapEntry}, MRs μ es es' → es.find? (fun e => p e.born) = some e →
    ∃ e', es'.find? (fun e => p e.born) = some e' ∧ VR μ e.key e'.key ∧ VR μ e.val e'.val ∧ e'.born = e.born
  | _, _, _, .nil, h => by simp at h
  | _, _, _, .cons (e := x) (e' := x') a b c r, h => by
    simp only [List.find?_cons] at h ⊢
    rw [c]
    cases hp : p x.born with
    | true => simp only [hp, Option.some.injEq] at h; subst h; exact ⟨_, rfl, a, b, c⟩
    | false => simp only [hp] at h; exact MRs.find r h
theorem MRs.filter {p : Nat → Bool} : ∀ {es es' : List MapEntry}, MRs μ es es' → MRs μ (es.filter fun e => p e.born) (es'.filter fun e => p e.born)
  | _, _, .nil => .nil
  | _, _, .cons (e := x) a b c r => by
    simp only [List.filter_cons]
    rw [c]
    cases p x.born
    · simpa using r.filter
    · simpa using MRs.cons a b c r.filter
theorem MRs.all {p : Nat → Bool} : ∀ {es es' : List MapEntry}, MRs μ es es' → (es'.all fun e => p e.born) = es.all fun e => p e.born
  | _, _, .nil => rfl
  | _, _, .cons _ _ c r => by simp only [List.all_cons, c, r.all]
theorem MRs.nth : ∀ {es es' : List MapEntry} {n : Nat} {e : MapEntry}, MRs μ es es' → es[n]? = some e → ∃ e', es'[n]? = some e' ∧ VR μ e.key e'.key ∧ VR μ e.val e'.val ∧ e'.born = e.born
  | _, _, 0, _, .cons a b c _, h => by simp only [List.getElem?_cons_zero, Option.some.injEq] at h; subst h; exact ⟨_, rfl, a, b, c⟩
  | _, _, n + 1, _, .cons _ _ _ r, h => by simp only [List.getElem?_cons_succ] at h ⊢; exact r.nth h

theorem nbeq (a b : Nat) : (a == b) = Nat.beq a b := by rw [beq_dec]; rfl

theorem entry_sound {s : S} (hH : HR μ s w) {it it' v : Value} (rx : VR μ it it') (h : entry it s = some v) :
    ∃ v', (Instr.entry it').run P w = .ok v' w ∧ VR μ v v' := by
  unfold entry at h
  split at h
  · rename_i r
    split at h
    · rename_i m since seen stepped hget
      split at h
      · cases h
      · rename_i stamp hst
        split at h
        · rename_i es clock hgm
          rw [cond_eq] at h
          split at h
          · rename_i hcl
            have hcl := Nat.eq_of_beq_eq_true hcl
            split at h
            · rename_i e hf
              cases h
              cases rx with
              | @ptr _ _ d hd =>
                obtain ⟨h0, m', h1, h2⟩ := hH.obj _ _ _ hget hd
                cases m' with
                | none => cases h2
                | some b =>
                  obtain ⟨dm, e2, e3⟩ := h2
                  obtain ⟨es', h3, h4⟩ := hH.obj _ _ _ hgm e2
                  rw [e3] at h3
                  have hf' : es.find? (fun e => Nat.beq e.born stamp) = some e := hf
                  obtain ⟨e', f1, f2, f3, f4⟩ := MRs.find (p := fun n => Nat.beq n stamp) h4 hf'
                  have f5 : es'.find? (·.born == stamp) = some e' := by
                    rw [← Array.find?_toList, ← f1]; simp only [nbeq]
                  have hb : (⟨seen⟩ : Array Nat).back? = some stamp := by simpa using hst
                  refine ⟨_, ?_, .tuple (.cons f2 (.cons f3 .nil))⟩
                  rw [h0]
                  simp only [Instr.entry, Sem.run_bind, run_getObj h1 (by intro a b c e; cases e), Result.andThen_ok, hb, run_getObj h3 (by intro a b c e; cases e), hcl, bne_self_eq_false, Bool.false_eq_true, if_false, f5, Sem.run_pure, Nat.add_zero]
            · cases h
          · cases h
        · cases h
    · cases h
  · cases h

theorem choose_run (q : Question) (h : q.forced = false) : (choose q).run P w = .ok (q.cut (w.tape w.drawn q)) { w with drawn := w.drawn + 1 } := by
  simp [choose, Sem.run, h]
theorem choose_forced (q : Question) (h : q.forced = true) : (choose q).run P w = .ok 0 w := by
  simp [choose, Sem.run, h]

/-- All ways of a tree come to this. -/
def Tr.wp {α : Type} (Q : α → Prop) : Tr α → Prop
  | .fail => False
  | .done a => Q a
  | .ask n k => 0 < n ∧ ∀ i, i < n → (k i).wp Q

theorem next_sound {s : S} (hH : HR μ s w) {it it' : Value} {str : Bool} {ty : TypeId} (rx : VR μ it it') {Q : Value × S → Prop} (h : (next it str s).wp Q) :
    ∃ v s' v' w' δ, Q (v, s') ∧ (Instr.next it' str ty).run P w = .ok v' w' ∧ VR μ v v' ∧ HR μ s' w' ∧ Ext μ s w δ μ s' w' := by
  unfold next at h
  split at h
  · rename_i r
    split at h
    · rename_i st pos hget
      cases rx with
      | @ptr _ _ d hd =>
        obtain ⟨h0, h1⟩ := hH.obj _ _ _ hget hd
        have hg := run_getObj (P := P) h1 (by intro a b c e; cases e)
        rw [h0]
        rw [cond_eq] at h
        split at h
        · rename_i hlt
          rw [blt_dec, decide_eq_true_eq] at hlt
          have hO : OR μ { w with heap := w.heap.setIfInBounds d.blk (.stringIter st (pos + (Utf8.decode st pos).2)) } d (.stringIter st (pos + (Utf8.decode st pos).2)) := ⟨h0, setObj_get _ h1⟩
          have sm := setObj_same (w := w) (r := d.blk) (.stringIter st (pos + (Utf8.decode st pos).2))
          obtain ⟨k1, k2⟩ := hH.upd hget rfl (by intro e; cases e) hd hO rfl sm.size (fun b hb => sm.other b hb) sm.os sm.tape sm.output
          refine ⟨_, _, _, _, _, h, ?_, .tuple (.cons (.bool _) (.cons (.int _ _) (.cons (.int _ _) .nil))), k1, k2⟩
          simp only [Instr.next, Sem.run_bind, hg, Result.andThen_ok, hlt, if_true, run_setObj h1 (by intro a b c e; cases e), Sem.run_pure, goInt, Nat.add_zero]
        · rename_i hlt
          rw [blt_dec, decide_eq_true_eq] at hlt
          refine ⟨_, _, _, _, _, h, ?_, .tuple (.cons (.bool _) .nil), hH, Ext.refl⟩
          simp only [Instr.next, Sem.run_bind, hg, Result.andThen_ok, hlt, if_false, Sem.run_pure, Nat.add_zero]
    · cases h
  · rename_i r
    split at h
    · rename_i since seen stepped hget
      cases rx with
      | @ptr _ _ d hd =>
        obtain ⟨h0, m', h1, h2⟩ := hH.obj _ _ _ hget hd
        cases m' with
        | some b => cases h2
        | none =>
          rw [h0]
          refine ⟨_, _, _, _, _, h, ?_, .tuple (.cons (.bool _) .nil), hH, Ext.refl⟩
          simp only [Instr.next, Sem.run_bind, run_getObj h1 (by intro a b c e; cases e), Result.andThen_ok, Sem.run_pure, Nat.add_zero]
    · rename_i m since seen last hget
      split at h
      · rename_i es clock hgm
        rw [cond_eq] at h
        split at h
        · cases h
        · rename_i hcnd
          simp only [cond_eq] at h
          split at h
          · rename_i hall
            cases rx with
            | @ptr _ _ d hd =>
              obtain ⟨h0, m', h1, h2⟩ := hH.obj _ _ _ hget hd
              cases m' with
              | none => cases h2
              | some b =>
                obtain ⟨dm, e2, e3⟩ := h2
                obtain ⟨es', h3, h4⟩ := hH.obj _ _ _ hgm e2
                rw [e3] at h3
                rw [h0]
                have hg1 := run_getObj (P := P) h1 (by intro a b c e; cases e)
                have hg2 := run_getObj (P := P) h3 (by intro a b c e; cases e)
                have hC : (!(⟨seen⟩ : Array Nat).isEmpty && !es'.isEmpty && es'.all (fun e => decide (e.born ≥ last))) = false := by
                  have a1 : (⟨seen⟩ : Array Nat).isEmpty = seen.isEmpty := by simp
                  have a2 : es'.isEmpty = es.isEmpty := by
                    have := h4.length
                    rw [← Array.isEmpty_toList]
                    cases es <;> cases hq : es'.toList <;> simp_all
                  have a3 : es'.all (fun e => decide (e.born ≥ last)) = es.all (fun e => Nat.ble last e.born) := by
                    rw [← Array.all_toList, ← h4.all (p := fun n => Nat.ble last n)]
                    congr 1; funext e; rw [ble_dec]
                  rw [a1, a2, a3]; simpa using hcnd
                have hleft : (es'.filter fun e => !(⟨seen⟩ : Array Nat).contains e.born).toList = es'.toList.filter fun e => !seen.contains e.born := by
                  rw [Array.toList_filter]; simp
                generalize hL' : (es'.filter fun e => !(⟨seen⟩ : Array Nat).contains e.born) = L' at hleft
                have hM : MRs μ (es.filter fun e => !seen.contains e.born) L'.toList := by rw [hleft]; exact MRs.filter (p := fun n => !seen.contains n) h4
                generalize hL : (es.filter fun e => !seen.contains e.born) = L at h hM hall
                have hall' : ∀ x ∈ L', decide (x.born < since) = true := by
                  intro x hx
                  have : (L'.toList.all fun e => Nat.blt e.born since) = true := by rw [hM.all (p := fun n => Nat.blt n since)]; exact hall
                  rw [List.all_eq_true] at this
                  have := this x (by simpa using hx)
                  rw [blt_dec] at this; exact this
                have hold : L'.filter (fun e => decide (e.born < since)) = L' := Array.filter_eq_self.2 hall'
                have hnew : L'.filter (fun e => decide (e.born ≥ since)) = #[] := by
                  rw [Array.filter_eq_empty_iff]
                  intro x hx
                  have := hall' x hx
                  simp only [decide_eq_true_eq] at *
                  omega
                have step : ∀ (e e' : MapEntry) (w1 : World), w1.heap = w.heap → w1.os = w.os → w1.tape = w.tape → w1.output = w.output → e'.born = e.born → VR μ e.key e'.key → VR μ e.val e'.val →
                    ∃ w' δ, ((do setObj d.blk (.mapIter (some b) since ((⟨seen⟩ : Array Nat).push e'.born) clock); pure (.tuple #[.bool true, e'.key, e'.val]) : Sem Value)).run P w1 = .ok (.tuple #[.bool true, e'.key, e'.val]) w' ∧
                      HR μ (step1 r m since seen clock s e).2 w' ∧ Ext μ s w δ μ (step1 r m since seen clock s e).2 w' ∧ VR μ (step1 r m since seen clock s e).1 (.tuple #[.bool true, e'.key, e'.val]) := by
                  intro e e' w1 hh hos ht hou hb rk rv
                  have h1' : w1.heap[d.blk]? = some (.mapIter (some b) since ⟨seen⟩ last) := by rw [hh]; exact h1
                  have hO : OR μ { w1 with heap := w1.heap.setIfInBounds d.blk (.mapIter (some b) since ((⟨seen⟩ : Array Nat).push e'.born) clock) } d (.mapIter (some m) since (seen ++ [e.born]) clock) :=
                    ⟨h0, some b, by rw [setObj_get _ h1', hb]; simp, dm, e2, e3⟩
                  have sm := setObj_same (w := w1) (r := d.blk) (.mapIter (some b) since ((⟨seen⟩ : Array Nat).push e'.born) clock)
                  obtain ⟨k1, k2⟩ := (hH.drawn hh).upd hget rfl (by intro e; cases e) hd hO rfl sm.size (fun b hb => sm.other b hb) sm.os sm.tape sm.output
                  refine ⟨_, _, ?_, k1, k2.drawn hh hos ht hou, .tuple (.cons (.bool _) (.cons rk (.cons rv .nil)))⟩
                  simp only [Sem.run_bind, run_setObj h1' (by intro a b c e; cases e), Result.andThen_ok, Sem.run_pure]
                split at h
                · -- nothing is left
                  have : L' = #[] := by have := hM.length; simpa using this
                  subst this
                  refine ⟨_, _, _, _, _, h, ?_, .tuple (.cons (.bool _) .nil), hH, Ext.refl⟩
                  simp only [Instr.next, Sem.run_bind, hg1, Result.andThen_ok, hg2, Nat.add_zero]
                  rw [if_neg (by rw [hC]; simp)]
                  simp only [hL', hold, hnew]
                  simp [choose, Sem.run, Question.forced]
                · rename_i e
                  obtain ⟨e', hn, r1, r2, r3⟩ := hM.nth (n := 0) (e := e) rfl
                  have hlen := hM.length
                  have : L' = #[e'] := by
                    apply Array.ext'
                    cases hq : L'.toList with
                    | nil => rw [hq] at hn; simp at hn
                    | cons x xs => rw [hq] at hn hlen; simp at hn hlen; subst hn; subst hlen; rfl
                  subst this
                  obtain ⟨w', δ, s1, s2, s3, s4⟩ := step e e' w rfl rfl rfl rfl r3 r1 r2
                  refine ⟨_, _, _, w', δ, h, ?_, s4, s2, s3⟩
                  simp only [Instr.next, Sem.run_bind, hg1, Result.andThen_ok, hg2, Nat.add_zero]
                  rw [if_neg (by rw [hC]; simp)]
                  simp only [hL', hold, hnew]
                  simp only [Sem.run_bind] at s1
                  simpa [choose, Sem.run, Question.forced] using s1
                · rename_i hne1 hne2
                  obtain ⟨hpos, hk⟩ := h
                  have hlen := hM.length
                  have h2l : 1 < L'.size := by
                    rw [← Array.length_toList, hlen]
                    rcases hq : L with _ | ⟨x, _ | ⟨y, ys⟩⟩
                    · exact (hne1 hq).elim
                    · exact (hne2 x hq).elim
                    · simp
                  have hi : (w.tape w.drawn (.mapNext L'.size)) % L'.size < L.length := by
                    have : L.length = L'.size := by rw [← Array.length_toList]; exact hlen.symm
                    rw [this]; exact Nat.mod_lt _ (by omega)
                  have hQ := hk _ hi
                  simp only [nth_eq, List.getElem?_eq_getElem hi] at hQ
                  obtain ⟨e', hn, r1, r2, r3⟩ := hM.nth (List.getElem?_eq_getElem hi)
                  obtain ⟨w', δ, s1, s2, s3, s4⟩ := step _ e' { w with drawn := w.drawn + 1 } rfl rfl rfl rfl r3 r1 r2
                  refine ⟨_, _, _, w', δ, hQ, ?_, s4, s2, s3⟩
                  have hfo : Question.forced (.mapNext L'.size) = false := by simp [Question.forced]; omega
                  simp only [Instr.next, Sem.run_bind, hg1, Result.andThen_ok, hg2, Nat.add_zero]
                  rw [if_neg (by rw [hC]; simp)]
                  simp only [hL', hold, hnew]
                  have hne : L'.isEmpty = false := by
                    cases hq : L'.isEmpty with
                    | false => rfl
                    | true => rw [Array.isEmpty_iff] at hq; subst hq; simp at h2l
                  simp only [hne, Bool.false_eq_true, if_false, Array.empty_append, Array.append_empty, Array.size_map, Sem.run_bind, choose_run _ hfo, Result.andThen_ok, Question.cut]
                  have hget' : (L'.map some)[(w.tape w.drawn (.mapNext L'.size)) % L'.size]? = some (some e') := by
                    rw [Array.getElem?_map, ← Array.getElem?_toList, hn]; rfl
                  rw [hget']
                  exact s1
          · cases h
      · cases h
    · cases h
  · cases h

end Go.AE
