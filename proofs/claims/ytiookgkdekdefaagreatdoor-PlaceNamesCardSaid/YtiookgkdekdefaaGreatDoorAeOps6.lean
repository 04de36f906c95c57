/- THE EVALUATOR, a part: what an evaluator of loaded programs answers the model's machine answers. No condition. -/
import Derived.Test.YtiookgkdekdefaaGreatDoorAeOps5
namespace Go.AE

variable {P : Program} {μ : Mu} {w : World}

def storeOpt (base : Option Addr) (k : Nat) (l : List Value) : Sem Unit :=
  match base with
  | some a => Go.storeCells (a.add k) l
  | none => pure ()

section
variable {argTypes : List TypeId} {sType elem ty : TypeId} {info : TypeInfo} {z : Value} (h0 : argTypes[0]? = some sType) (hu : P.underlying sType = some (.slice elem))
    (hi : P.info? elem = some info) (h1 : ∀ u, argTypes[1]? = some u → ∃ d, P.underlying u = some d ∧ ∀ k, d ≠ .int k)
    {base : Option Addr} {sLen m n : Nat} {b' : Value} (hn : (Builtin.lenOf b').run P w = .ok n w) {l' : List Value} (hl : ∀ w' : World, w'.heap = w.heap → (Builtin.firstCells info.size n b').run P w' = .ok ⟨l'⟩ w')
include h0 hu hi h1 hn hl

theorem append_in (hle : sLen + n ≤ m) :
    (Builtin.append_ ⟨argTypes⟩ ty #[.slice base sLen m, b']).run P w = ((storeOpt base (sLen * info.size) l').run P w).andThen fun _ w' => .ok (.slice base (sLen + n) m) w' := by
  have hsz : size P elem = some info.size := by simp [size, hi]
  have h00 : (⟨argTypes⟩ : Array TypeId)[0]? = some sType := by simpa using h0
  have e1 : (#[.slice base sLen m, b'] : Array Value)[0]? = some (.slice base sLen m) := rfl
  have e2 : (#[.slice base sLen m, b'] : Array Value)[1]? = some b' := rfl
  have h11 : (⟨argTypes⟩ : Array TypeId)[1]? = argTypes[1]? := by simp
  unfold Builtin.append_
  simp only [h00, e1, e2, h11, Sem.run_bind, run_und hu, run_size hsz, Result.andThen_ok]
  cases hA : argTypes[1]? with
  | none =>
    simp only [pure_bind, Bool.false_eq_true, if_false, Sem.run_bind, hn, Result.andThen_ok, hle, if_true, Bool.not_false, hl w rfl]
    cases base <;> simp [storeOpt]
  | some u =>
    obtain ⟨d, q1, q2⟩ := h1 u hA
    simp only [Sem.run_bind, run_und q1, pure_bind, Result.andThen_ok, Bool.false_eq_true, if_false, hn, hle, if_true, Bool.not_false, hl w rfl]
    cases base <;> simp [storeOpt]

theorem append_out (hz : info.zero = some z) {old : List Value} (ho : ∀ w' : World, w'.heap = w.heap → (Builtin.firstCells info.size sLen (.slice base sLen m)).run P w' = .ok ⟨old⟩ w')
    (hle : ¬ sLen + n ≤ m) (hb : (sLen + n) * (info.bytes + 1) ≤ 2 ^ 40) :
    ∃ cap rest, sLen + n ≤ cap ∧ rest.length = (cap - (sLen + n)) * z.cells.toList.length ∧ (Builtin.append_ ⟨argTypes⟩ ty #[.slice base sLen m, b']).run P w =
      .ok (.slice (some ⟨w.heap.size, 0, none⟩) (sLen + n) cap) { w with drawn := w.drawn + 1, heap := w.heap.push (.cells ⟨old ++ l' ++ rest⟩ elem) } := by
  have hsz : size P elem = some info.size := by simp [size, hi]
  have h00 : (⟨argTypes⟩ : Array TypeId)[0]? = some sType := by simpa using h0
  have e1 : (#[.slice base sLen m, b'] : Array Value)[0]? = some (.slice base sLen m) := rfl
  have e2 : (#[.slice base sLen m, b'] : Array Value)[1]? = some b' := rfl
  have h11 : (⟨argTypes⟩ : Array TypeId)[1]? = argTypes[1]? := by simp
  have hcap := nextslicecap_le (sLen + n) m (by omega)
  have hk : (sLen + n) * (info.bytes + 1) = (sLen + n) * info.bytes + (sLen + n) := by rw [Nat.mul_add, Nat.mul_one]
  have hk2 : Builtin.nextslicecap (sLen + n) m * info.bytes ≤ 2 * (sLen + n) * info.bytes := Nat.mul_le_mul_right _ hcap
  have hk3 : 2 * (sLen + n) * info.bytes = 2 * ((sLen + n) * info.bytes) := Nat.mul_assoc _ _ _
  have c1 : ¬ (((sLen + n : Nat) : Int) > IntKind.i64.max ∧ (False ∨ info.bytes = 0)) := by simp [IntKind.max, IntKind.signed, IntKind.bits]; omega
  have c2 : ¬ (Builtin.nextslicecap (sLen + n) m * info.bytes > 2 ^ 48) := by omega
  have hzv : ∀ w : World, (zeroValue elem).run P w = .ok z w := fun w => by simp [zeroValue, run_info hi, hz]
  refine ⟨Question.cut (.appendCap (sLen + n) m elem) (w.tape w.drawn (.appendCap (sLen + n) m elem)), (Builtin.zeroCells z.cells (Question.cut (.appendCap (sLen + n) m elem) (w.tape w.drawn (.appendCap (sLen + n) m elem)) - (sLen + n))).toList, by simp [Question.cut], by simp [Builtin.zeroCells], ?_⟩
  unfold Builtin.append_
  simp only [h00, e1, e2, h11, Sem.run_bind, run_und hu, run_size hsz, Result.andThen_ok]
  have hq : Question.forced (.appendCap (sLen + n) m elem) = false := rfl
  cases hA : argTypes[1]? with
  | none =>
    simp only [pure_bind, Bool.false_eq_true, if_false, Sem.run_bind, hn, Result.andThen_ok, hle, Bool.not_false, run_info hi, c1, c2, run_choose, hq, run_askRoom, if_true]
    rw [ho { w with drawn := w.drawn + 1 } rfl]
    simp only [Result.andThen_ok]
    rw [hl { w with drawn := w.drawn + 1 } rfl]
    simp only [Result.andThen_ok, hzv, newRow, Sem.run_bind, run_newObj, Sem.run_pure]
    congr 1
    congr 2
    simp
  | some u =>
    obtain ⟨d, q1, q2⟩ := h1 u hA
    simp only [Sem.run_bind, run_und q1, pure_bind, Result.andThen_ok, Bool.false_eq_true, if_false, hn, hle, Bool.not_false, run_info hi, c1, c2, run_choose, hq, run_askRoom, if_true]
    rw [ho { w with drawn := w.drawn + 1 } rfl]
    simp only [Result.andThen_ok]
    rw [hl { w with drawn := w.drawn + 1 } rfl]
    simp only [Result.andThen_ok, hzv, newRow, Sem.run_bind, run_newObj, Sem.run_pure]
    congr 1
    congr 2
    simp
end

theorem firstCells_zero {sz : Nat} {x : Value} {s : S} {l : List Value} (h : AE.firstCells sz 0 x s = some l) : l = [] := by
  unfold AE.firstCells at h
  split at h
  · simp at h; exact h
  · simp at h; exact h
  · simp at h; exact h
  · cases h

theorem append_new {s : S} (hH : HR μ s w) {id : Nat} {o0 : AO} {d : Wd} (hget : s.H.get id = some o0) (hro : o0.ro = false) (hdf : o0 ≠ .deferred) (hd : μ id = some d)
    {old old' new new' rest : List Value} {sLen n cap sz : Nat} {el : TypeId} {sem : Sem Value} (r1 : VRs μ old old') (r2 : VRs μ new new') (hl : new'.length = n * sz) (ho : old'.length = sLen * sz) (hc : sLen + n ≤ cap)
    (hr : rest.length = (cap - (sLen + n)) * sz)
    (e : sem.run P w = .ok (.slice (some ⟨w.heap.size, 0, none⟩) (sLen + n) cap) { w with drawn := w.drawn + 1, heap := w.heap.push (.cells ⟨old' ++ new' ++ rest⟩ el) }) :
    ∃ v' μ' w' δ, sem.run P w = .ok v' w' ∧ VR μ' (.slice (some ⟨s.next, 0, none⟩) (sLen + n) (sLen + n)) v' ∧
      HR μ' (s.move id (.cells (old ++ new) sz false)) w' ∧ Ext μ s w δ μ' (s.move id (.cells (old ++ new) sz false)) w' := by
  have hcap : cap * sz = (sLen * sz + n * sz) + (cap - (sLen + n)) * sz := by
    rw [← Nat.add_mul, ← Nat.add_mul]; congr 1; omega
  have hO : OR (μ.set s.next ⟨w.heap.size, 0, cap * sz, sz⟩) { w with drawn := w.drawn + 1, heap := w.heap.push (.cells ⟨old' ++ new' ++ rest⟩ el) } ⟨w.heap.size, 0, cap * sz, sz⟩ (.cells (old ++ new) sz false) := by
    refine ⟨rfl, [], old' ++ new', rest, el, (0, 0), by simp, rfl, (r1.append r2).mono (Mu.sub_set hH.fresh), ?_, ?_, fun _ k _ hk => by simp at hk⟩
    · simp only [List.length_append]; omega
    · simp only [List.length_append]; omega
  obtain ⟨k1, k2⟩ := hH.move hget hro hdf hd (.inr (Nat.le_refl _)) (by simp) hO (by simp) (fun b hb _ => by simp only [Array.getElem?_push]; rw [if_neg (by omega)]) rfl rfl rfl
  refine ⟨_, _, _, _, e, ?_, k1, k2⟩
  exact VR.slice (o := 0) (d := ⟨w.heap.size, 0, cap * sz, sz⟩) (Mu.set_self _ _ _) (Nat.le_refl _) hc (by show 0 + cap * sz ≤ cap * sz; omega)

theorem append_sound {argTypes : List TypeId} {sType elem ty : TypeId} {info : TypeInfo} {z : Value} (h0 : argTypes[0]? = some sType) (hu : P.underlying sType = some (.slice elem))
    (hi : P.info? elem = some info) (h1 : ∀ u, argTypes[1]? = some u → ∃ d, P.underlying u = some d ∧ ∀ k, d ≠ .int k) (hz : info.zero = some z) (hzl : z.cells.toList.length = info.size)
    {s s' : S} (hH : HR μ s w) {a a' b b' v : Value} (ra : VR μ a a') (rb : VR μ b b') (h : append info.size info.bytes a b s = some (v, s')) :
    ∃ v' μ' w' δ, (Builtin.append_ ⟨argTypes⟩ ty #[a', b']).run P w = .ok v' w' ∧ VR μ' v v' ∧ HR μ' s' w' ∧ Ext μ s w δ μ' s' w' := by
  unfold append at h
  split at h
  · rename_i base sLen sCap
    split at h
    · cases h
    · rename_i n hlen
      split at h
      · cases h
      · rename_i new hnew
        obtain ⟨l', f1, f2⟩ := firstCells_sound (P := P) hH rb (fun k hk => by rw [hlen] at hk; cases hk; exact Nat.le_refl _) hnew
        have hn := lenOf_sound (P := P) (w := w) rb hlen
        simp only [cond_eq] at h
        split at h
        · cases h
        rename_i hnl0
        have hnl1 : new.length = n * info.size ∧ new.all one = true := by
          cases hx : new.all one <;> simp [hx, beq_dec] at hnl0
          exact ⟨hnl0, rfl⟩
        have hnl : l'.length = n * info.size := by rw [f2.length]; exact hnl1.1
        have hone := f2.one hnl1.2
        split at h
        · rename_i hle
          rw [ble_dec, decide_eq_true_eq] at hle
          split at h
          · -- nothing is appended
            cases h
            have hl0 : l' = [] := by have := f2.length; simpa using this
            subst hl0
            cases ra with
            | snil =>
              have e := append_in (ty := ty) (sLen := 0) (n := n) (base := none) (m := 0) h0 hu hi h1 hn f1 hle
              have h00 : 0 + n = 0 := by omega
              rw [h00] at e ⊢
              exact ⟨_, μ, w, [], e, .snil, hH, Ext.refl⟩
            | @slice bl o n' c' m d hd q1 q2 q3 =>
              have e := append_in (ty := ty) (sLen := sLen) (n := n) (base := some ⟨d.blk, d.off + o, none⟩) (m := m) h0 hu hi h1 hn f1 (by omega)
              simp only [storeOpt, Go.storeCells, Sem.run_pure, Result.andThen_ok] at e
              exact ⟨_, μ, w, [], e, .slice hd hle q2 q3, hH, Ext.refl⟩
            | @sempty bl o a' _ hd0 =>
              have e := append_in (ty := ty) (sLen := 0) (n := n) (base := some a') (m := 0) h0 hu hi h1 hn f1 hle
              simp only [storeOpt, Go.storeCells, Sem.run_pure, Result.andThen_ok] at e
              have h00 : 0 + n = 0 := by omega
              rw [h00] at e ⊢
              exact ⟨_, μ, w, [], e, .sempty hd0, hH, Ext.refl⟩
          · split at h
            · cases h
            · rename_i x1 xs1 _ a0
              split at h
              · rename_i s1 hst
                cases h
                cases ra with
                | @slice bl o n' c' m d hd q1 q2 q3 =>
                  obtain ⟨w', r1, r2, r3⟩ := storeCells_sound (P := P) hH (a := ⟨bl, o + sLen * info.size, none⟩) hd f2 hst
                  have e := append_in (ty := ty) (sLen := sLen) (n := n) (base := some ⟨d.blk, d.off + o, none⟩) (m := m) h0 hu hi h1 hn f1 (by omega)
                  simp only [storeOpt, add_none, Nat.add_assoc] at e
                  rw [r1] at e
                  exact ⟨_, μ, w', _, e, .slice hd hle q2 q3, r2, r3⟩
                | sempty =>
                  have : n = 0 := by omega
                  subst this
                  cases firstCells_zero hnew
              · cases h
        · rename_i hle
          rw [ble_dec, decide_eq_true_eq] at hle
          split at h
          · rename_i hbd
            rw [ble_dec, decide_eq_true_eq] at hbd
            split at h
            · -- the nil slice
              cases h
              cases ra
              obtain ⟨cap, rest, g1, g2, g3⟩ := append_out (ty := ty) (sLen := 0) (n := n) (base := none) (m := 0) h0 hu hi h1 hn f1 hz (old := []) (fun w' _ => by simp [Builtin.firstCells]) (by omega) hbd
              have hH' : HR μ s { w with drawn := w.drawn + 1 } := hH.drawn rfl
              obtain ⟨k1, k2⟩ := hH'.newCells rest elem info.size f2
              refine ⟨_, _, _, [], g3, ?_, k1, k2.drawn rfl rfl rfl rfl⟩
              refine VR.slice (o := 0) (Mu.set_self _ _ _) (Nat.le_refl _) g1 ?_
              rw [Nat.zero_add] at g1 g2
              simp only [hnl, g2, hzl, Nat.zero_add]
              rw [← Nat.add_mul]
              have : n + (cap - n) = cap := by omega
              rw [this]; exact Nat.le_refl _
            · rename_i a0
              split at h
              · cases h
              · rename_i hsp
                split at h
                · rename_i vs e hget
                  split at h
                  · rename_i he
                    have he := Nat.eq_of_beq_eq_true he
                    split at h
                    · rename_i old hseg
                      cases h
                      have hmap : ∃ d, μ a0.block = some d := by
                        cases ra with
                        | slice hd _ _ _ => exact ⟨_, hd⟩
                        | sempty hd => exact ⟨_, hd⟩
                      obtain ⟨d, e1⟩ := hmap
                      obtain ⟨hesz, pre, mid, post, el, fr, c1, c2, c3, c4, c5, c6⟩ := hH.obj _ _ _ hget e1
                      obtain ⟨oA, oB, oC⟩ := c3.seg hseg
                      have hml := c3.length
                      cases ra with
                      | @slice bl o n' c' m dd hd q1 q2 q3 =>
                        rw [hd] at e1
                        have e2 : d = dd := (Option.some.inj e1).symm
                        subst e2
                        have hez : d.esz = info.size := hesz.trans he
                        rw [hez] at q3
                        by_cases hm : sLen + n ≤ m
                        · -- in place
                          have e := append_in (ty := ty) (sLen := sLen) (n := n) (base := some ⟨d.blk, d.off + o, none⟩) (m := m) h0 hu hi h1 hn f1 hm
                          simp only [storeOpt, add_none] at e
                          have hmul : (sLen + n) * info.size ≤ m * info.size := Nat.mul_le_mul_right _ hm
                          rw [Nat.add_mul] at hmul
                          obtain ⟨w', r1, r2, r3⟩ := storeRun (P := P) (b := d.blk) (o := d.off + o + sLen * info.size) l' w _ 0 c1 (by simp only [List.length_append]; omega) (fun k _ k2 => c6 rfl k (by omega)) hone
                          rw [r1] at e
                          have hO : OR (μ.set s.next ⟨d.blk, d.off + o, d.cap - o, info.size⟩) w' ⟨d.blk, d.off + o, d.cap - o, info.size⟩ (.cells (old ++ new) info.size false) := by
                            refine ⟨rfl, pre ++ (mid ++ post).take o, (mid.drop o).take (sLen * info.size) ++ l', (mid ++ post).drop (o + sLen * info.size + l'.length), el, fr, ?_, ?_, ?_, ?_, ?_, ?_⟩
                            · rw [r2]
                              congr 2
                              have hMl : (mid ++ post).length = mid.length + post.length := List.length_append
                              rw [show d.off + o + sLen * info.size + 0 = pre.length + (o + sLen * info.size) by omega, setSeg_app, setSeg_split _ _ _ (by omega)]
                              rw [List.take_add]
                              have : ((mid ++ post).drop o).take (sLen * info.size) = (mid.drop o).take (sLen * info.size) := by
                                by_cases hk : sLen * info.size = 0
                                · rw [hk]; simp
                                · have hlen : o + sLen * info.size ≤ mid.length := by
                                    rw [oB] at oC; simp only [List.length_take, List.length_drop] at oC; omega
                                  rw [List.drop_append_of_le_length (by omega), List.take_append_of_le_length (by simp; omega)]
                              rw [this]
                              simp [List.append_assoc]
                            · simp only [List.length_append, List.length_take]; omega
                            · exact (oA.append f2).mono (Mu.sub_set hH.fresh)
                            · have := oA.length
                              simp only [List.length_append, List.length_drop] at *; omega
                            · have := oA.length
                              simp only [List.length_append] at *; omega
                            · intro _ k hk
                              refine c6 rfl k ?_
                              have := oA.length
                              simp only [List.length_append, List.length_take, List.length_drop] at *; omega
                          obtain ⟨k1, k2⟩ := hH.move (d' := ⟨d.blk, d.off + o, d.cap - o, info.size⟩) hget rfl (by intro e; cases e) hd (.inl rfl) (by show d.blk < _; rw [r3.size]; exact (hH.dom _ _ hd).2) hO (by rw [r3.size]; exact Nat.le_refl _) (fun b _ hb => r3.other b hb) r3.os r3.tape r3.output
                          refine ⟨_, _, w', _, e, ?_, k1, k2⟩
                          exact VR.slice (o := 0) (d := ⟨d.blk, d.off + o, d.cap - o, info.size⟩) (Mu.set_self _ _ _) (Nat.le_refl _) hm (by show 0 + m * info.size ≤ d.cap - o; omega)
                        · -- a new block
                          have hfc : AE.firstCells info.size sLen (.slice (some ⟨bl, o, none⟩) sLen sCap) s = some old := by
                            simp only [AE.firstCells, cond_eq]
                            split
                            · rename_i hk
                              have hk := Nat.eq_of_beq_eq_true hk
                              rw [hk] at oC
                              have : old = [] := by simpa using oC
                              rw [this]
                            · rw [hget]; exact hseg
                          obtain ⟨o', g1, g2⟩ := firstCells_sound (P := P) hH (.slice hd q1 q2 (by rw [hez]; exact q3)) (fun k hk => by simp only [AE.lenOf] at hk; cases hk; exact Nat.le_refl _) hfc
                          obtain ⟨cap, rest, j1, j2, j3⟩ := append_out (ty := ty) (sLen := sLen) (n := n) (base := some ⟨d.blk, d.off + o, none⟩) (m := m) h0 hu hi h1 hn f1 hz g1 hm hbd
                          refine append_new hH (s := s) hget rfl (by intro e; cases e) hd g2 f2 hnl (by rw [g2.length]; exact oC) j1 (by rw [j2, hzl]) j3
                      | @sempty bl o a' _ _ =>
                        have hs0 : old = [] := by rw [Nat.zero_mul] at oC; simpa using oC
                        subst hs0
                        obtain ⟨cap, rest, j1, j2, j3⟩ := append_out (ty := ty) (sLen := 0) (n := n) (base := some a') (m := 0) h0 hu hi h1 hn f1 hz (old := []) (fun w' _ => by simp [Builtin.firstCells, loadCells, loadCellsFrom]) (by omega) hbd
                        exact append_new hH (s := s) hget rfl (by intro e; cases e) e1 .nil f2 hnl (by simp) j1 (by rw [j2, hzl]) j3
                    · cases h
                  · cases h
                · cases h
          · cases h
  · cases h

end Go.AE
