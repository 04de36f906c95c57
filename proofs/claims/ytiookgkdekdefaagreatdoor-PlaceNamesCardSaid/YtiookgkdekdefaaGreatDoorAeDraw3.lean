/- THE EVALUATOR, a part: what an evaluator of loaded programs answers the model's machine answers. No condition. -/
import Derived.Test.YtiookgkdekdefaaGreatDoorAeDraw2
namespace Go.AE

variable {P : Program}

theorem countP_set : ∀ (l : List Bool) (j : Nat), l[j]? = some false → (l.set j true).countP (fun b => !b) + 1 = l.countP (fun b => !b)
  | [], j, h => by simp at h
  | b :: l, 0, h => by
    simp only [List.getElem?_cons_zero, Option.some.injEq] at h; subst h
    simp
  | b :: l, j + 1, h => by
    simp only [List.getElem?_cons_succ] at h
    have := countP_set l j h
    cases b <;> simp <;> omega

section
variable {R : Rec} {all : List Oper} {y : Wy} {s0 : S} {μ0 : Mu} {w0 : World} {n0 : Nat}

theorem run_all (hR : RecOK P R) {ops : Array Oper} (hops : ops.toList = all) (G : Reg P R all y s0 n0) (b : Frame) (bs : List Deferred) : ∀ (fuel t : Nat) (listed : Array Bool) (tmps : Array Value) (μ : Mu) (w : World) (N : Nat) (δ : List Nat),
    Inv P all y s0 μ0 w0 n0 (fun j => listed.getD j false = true) tmps μ w N δ → listed.size = all.length → listed.toList.countP (fun b => !b) ≤ fuel →
    ∃ L' tmps' μ' w' N' δ', Inv P all y s0 μ0 w0 n0 L' tmps' μ' w' N' δ' ∧ (∀ j, j < all.length → L' j) ∧
      ∀ (k : List Item) (cs : List Frame), Steps P (lone (b.atR ⟨tmps, bs⟩ (.inRegion ops (Region.linearise.go .any ops fuel t listed []) :: k)) cs w) (lone (b.atR ⟨tmps', bs⟩ (.inRegion ops [] :: k)) cs w') := by
  intro fuel
  induction fuel with
  | zero =>
    intro t listed tmps μ w N δ I hsz hc
    refine ⟨_, tmps, μ, w, N, δ, I, fun j hj => ?_, fun k cs => by simp only [Region.linearise.go, List.reverse_nil]; exact Steps.refl _ _⟩
    have h0 : ∀ x ∈ listed.toList, ¬ ((!x) = true) := List.countP_eq_zero.1 (Nat.le_zero.1 hc)
    have hjs : j < listed.size := by omega
    have := h0 listed[j] (by simp)
    have h2 : listed[j] = true := by simpa using this
    simp [hjs, h2]
  | succ fuel ih =>
    intro t listed tmps μ w N δ I hsz hc
    simp only [Region.linearise.go]
    change ∃ L' tmps' μ' w' N' δ', Inv P all y s0 μ0 w0 n0 L' tmps' μ' w' N' δ' ∧ (∀ j, j < all.length → L' j) ∧
      ∀ (k : List Item) (cs : List Frame), Steps P (lone (b.atR ⟨tmps, bs⟩ (.inRegion ops (match (Region.ready .any ops listed)[t % (Region.ready .any ops listed).length]? with
      | some i => Region.linearise.go .any ops fuel (t / (Region.ready .any ops listed).length) (listed.setIfInBounds i true) [i]
      | none => [].reverse) :: k)) cs w) (lone (b.atR ⟨tmps', bs⟩ (.inRegion ops [] :: k)) cs w')
    cases hi : (Region.ready .any ops listed)[t % (Region.ready .any ops listed).length]? with
    | none =>
      have hnil : Region.ready .any ops listed = [] := by
        cases hr : Region.ready .any ops listed with
        | nil => rfl
        | cons x xs =>
          rw [hr] at hi
          have hlt : t % (x :: xs).length < (x :: xs).length := Nat.mod_lt _ (by simp)
          simp at hi
          simp at hlt
          omega
      refine ⟨_, tmps, μ, w, N, δ, I, fun j hj => ?_, fun k cs => Steps.refl _ _⟩
      induction j using Nat.strongRecOn with
      | _ j jh =>
        cases hl : listed.getD j false with
        | true => rfl
        | false =>
          exfalso
          have hjs : j < listed.size := by omega
          obtain ⟨oj, ho⟩ : ∃ oj, all[j]? = some oj := ⟨_, List.getElem?_eq_getElem hj⟩
          have : j ∈ Region.ready .any ops listed := by
            refine mem_ready.2 ⟨?_, oj, by rw [← hops] at ho; simpa using ho, fun e he hb => ?_⟩
            · simp [hjs] at hl ⊢; exact hl
            · have hlt := (G.ord j _ ho).1 e he (by rw [← bindsA_eq]; exact hb)
              exact jh e.on hlt (by omega)
          rw [hnil] at this; cases this
    | some i =>
      have hir := List.mem_of_getElem? hi
      obtain ⟨h0, o, ho, hall⟩ := mem_ready.1 hir
      have ho' : all[i]? = some o := by rw [← hops]; simpa using ho
      have hlt : i < listed.size := by
        rcases Nat.lt_or_ge i listed.size with h | h
        · exact h
        · simp [Array.getElem?_eq_none h] at h0
      have hf : listed[i]? = some false := by simp [hlt] at h0 ⊢; exact h0
      have hL : ∀ x, (listed.setIfInBounds i true).getD x false = true ↔ listed.getD x false = true ∨ x = i := by
        intro x
        by_cases hx : x = i
        · subst hx; simp [hlt]
        · rw [getD_set_ne false (Ne.symm hx)]; simp [hx]
      obtain ⟨tmps1, μ1, w1, N1, δ1, I1, st1⟩ := I.exec hR hops G ho' (by simp [hf]) (fun e he hb => hall e he (by rw [bindsA_eq]; exact hb)) hL b bs
      obtain ⟨L', tmps', μ', w', N', δ', I', a1, st2⟩ := ih (t / (Region.ready .any ops listed).length) (listed.setIfInBounds i true) tmps1 μ1 w1 N1 δ1 I1 (by simpa using hsz) (by
        have := countP_set listed.toList i (by simpa using hf)
        rw [Array.toList_setIfInBounds]; omega)
      refine ⟨L', tmps', μ', w', N', δ', I', a1, fun k cs => ?_⟩
      simp only []
      rw [linearise_go_acc, List.reverse_singleton, List.singleton_append]
      exact (st1 k cs _).trans (st2 k cs)
end

theorem region_sound {R : Rec} (hR : RecOK P R) {id : Nat} {ops : Array Oper} {draw q : Bool} {E : T Value} {s : S} {Q : Res × T Value × S → Prop} (h : ((region P ops draw).run R q E s).wp Q) :
    CodeSpec P q (.region id ops draw) E s Q := by
  intro b tmps bs base μ w hq hH hE hg hwf hdf
  have hwf' : ∀ o ∈ ops.toList, ∀ d, o.dst = some d → d < tmps.size := by
    intro o ho d hd
    have := List.all_eq_true.1 hwf o ho
    rw [hd] at this
    simpa [Nat.blt_eq] using this
  unfold region at h
  simp only [cond_eq] at h
  cases draw with
  | false =>
    simp only [Bool.false_eq_true, if_false] at h
    have h := Tr.wp_bind.1 h
    obtain ⟨E', s', tmps', μ', w', δ, q', a1, a2, a3, a4, a5⟩ := opers_sound hR ops b (marks bs) ops.toList 0 (fun j => by simp) h hH hE hg hwf'
    refine ⟨_, _, _, tmps', bs, μ', w', δ, q', a1, a2, a3, a4, hdf.ext a3, fun _ => rfl, fun k cs => ⟨k, .normal, ?_⟩⟩
    have hr := a5 k cs
    rw [show List.range' 0 ops.toList.length = List.range ops.size by rw [List.range_eq_range']; simp] at hr
    exact .head stepR_region (hr.trans (.one stepR_region_end))
  | true =>
    simp only [if_true] at h
    split at h
    · rename_i hok
      simp only [Bool.and_eq_true] at hok
      obtain ⟨hmo, hor⟩ := hok
      split at h
      · rename_i vs hvs
        simp only at h
        split at h
        · rename_i E1 s1 A1 hd
          split at h
          · rename_i hfl
            obtain ⟨y, e1, e2, e3, e4, e5, e6, e7, e8⟩ := way_of ops.toList 0 s.next E (reserve vs s) ⟨[], []⟩ (fun j => by simp) hd
            simp only [Nat.zero_add] at e5 e6 e7
            have way : ∀ n o, ops.toList[n]? = some o → WayAt P R (befL ops.toList []) ops.toList y n o := fun n o ho => e8 n o (Nat.zero_le _) ho
            have hva : ∀ (i : Nat) j o, ops.toList[i + j]? = some o → y.va (i + j + 1) = match cls o.op with | .alloc => y.va (i + j) + 1 | _ => y.va (i + j) := fun i j o ho => (way _ o ho).2.2.1
            have hvar := vars_get ops.toList hvs y.va 0 (fun j o ho => by have := hva 0 j o (by simpa using ho); exact this)
            have hinj : ∀ (i j : Nat) oi oj, i < j → ops.toList[i]? = some oi → ops.toList[j]? = some oj → cls oi.op = .alloc → y.va i < y.va j := by
              intro i j
              induction j with
              | zero => intro oi oj h; omega
              | succ j ih =>
                intro oi oj hij hi hj hc
                have hjl : j < ops.toList.length := by
                  rcases Nat.lt_or_ge (j + 1) ops.toList.length with h | h
                  · omega
                  · rw [List.getElem?_eq_none h] at hj; cases hj
                have hq : ops.toList[j]? = some (ops.toList[j]'hjl) := List.getElem?_eq_getElem hjl
                have hv := (way j _ hq).2.2.1
                by_cases e : i = j
                · subst e
                  rw [hi] at hq; cases hq
                  rw [hc] at hv
                  simp only at hv; omega
                · have := ih oi _ (by omega) hi hq hc
                  cases hcj : cls (ops.toList[j]'hjl).op <;> rw [hcj] at hv <;> simp only at hv <;> omega
            have hord := ordersOK_spec ops.toList 0 hor
            simp only [Nat.zero_add] at hord
            have G : Reg P R ops.toList y s tmps.size := by
              refine ⟨way, fun j o ho => ?_, e3, by rw [e7]; exact hfl, fun j o ho hc => ?_, fun i j oi oj hi hj ci cj hij => ?_, fun j o d ho hd => hwf' o (List.mem_of_getElem? ho) d hd⟩
              · exact hord j o ho
              · obtain ⟨t, z, r, a1, a2, a3, a4⟩ := hvar j o ho hc
                simp only [Nat.zero_add] at a3
                exact ⟨t, z, a1, a2, by rw [a3, e4]; omega⟩
              · rcases Nat.lt_or_gt_of_ne hij with h | h
                · have := hinj i j oi oj h hi hj ci; omega
                · have := hinj j i oj oi h hj hi cj; omega
            obtain ⟨r1, r2⟩ := HR.reserve vs hH
            have hH1 : HR μ (reserve vs s) { w with drawn := w.drawn + 1 } := r1.drawn rfl
            have x1 : Ext μ s w [] μ (reserve vs s) { w with drawn := w.drawn + 1 } := r2.trans (Ext.refl.drawn (w := w) (w1 := { w with drawn := w.drawn + 1 }) rfl rfl rfl rfl)
            have hz : ∀ j, (Array.replicate ops.size false).getD j false = true → False := by
              intro j hj
              rcases Nat.lt_or_ge j ops.size with h | h
              · simp [h] at hj
              · simp [h] at hj
            have I0 : Inv P ops.toList y s μ w tmps.size (fun j => (Array.replicate ops.size false).getD j false = true) tmps μ { w with drawn := w.drawn + 1 } 0 [] := by
              refine ⟨fun j o hj => (hz j hj).elim, fun j o _ _ => ⟨fun h => (hz j h).elim, fun h => by omega⟩, Nat.zero_le _, fun j o _ _ _ h => by omega, fun i o d hi => (hz i hi).elim, fun t v _ hv => ?_, by rw [e2]; exact hH1, by rw [e2]; exact x1, fun i o t z ho hop hzr _ => ?_, rfl, hg⟩
              · rw [e1] at hv; exact hE t v hv
              · obtain ⟨t', z', r, a1, a2, a3, a4⟩ := hvar i o ho (by rw [hop]; rfl)
                rw [hop] at a1; cases a1
                rw [hzr] at a2; cases a2
                simp only [Nat.zero_add] at a3
                rw [e4] at a3
                rw [a3, e2]
                refine ⟨?_, reserve_get vs s r _ a4⟩
                cases hm : μ (s.next + r) with
                | none => rfl
                | some d => have := (hH.dom _ _ hm).1; omega
            obtain ⟨L', tmps', μ', w', N', δ', I', a1, st⟩ := run_all hR rfl G b (marks bs) ops.size (w.tape w.drawn (.order b.fn id)) (Array.replicate ops.size false) tmps μ _ 0 [] I0 (by simp) (by
              rw [Array.toList_replicate]
              have := List.countP_le_length (p := fun b : Bool => !b) (l := List.replicate ops.size false)
              simpa using this)
            have hss : y.ss N' = s1 := by
              rw [← e6]
              refine (ss_run way I'.le (Nat.le_refl _) fun k o h1 h2 ho => .inl fun hc => ?_).symm
              have := (I'.ch k o ho hc).1 (a1 k h2)
              omega
            have hH' := I'.hr
            have hX' := I'.ext
            rw [hss] at hH' hX'
            refine ⟨_, _, _, tmps', bs, μ', w', δ', h, ?_, hH', hX', I'.size, hdf.ext hX', fun _ => rfl, fun k cs => ⟨k, .normal, ?_⟩⟩
            · intro t v hv
              rw [← e5] at hv
              rcases es_get way ops.toList.length (Nat.le_refl _) t with ⟨i, o, h1, h2, h3, h4, h5⟩ | ⟨h1, h2⟩
              · rw [h5] at hv; cases hv
                refine I'.t1 i o t (a1 i h1) h2 h3 fun k q _ hik hq => ?_
                have hk : k < ops.toList.length := by
                  rcases Nat.lt_or_ge k ops.toList.length with h | h
                  · exact h
                  · rw [List.getElem?_eq_none h] at hq; cases hq
                exact h4 k q hik hk hq
              · rw [h2] at hv
                refine I'.t2 t v (fun k q _ hq => ?_) hv
                have hk : k < ops.toList.length := by
                  rcases Nat.lt_or_ge k ops.toList.length with h | h
                  · exact h
                  · rw [List.getElem?_eq_none h] at hq; cases hq
                exact h1 k q hk hq
            · have hs := stepR_region_draw (P := P) (b := b) (a := ⟨tmps, marks bs⟩) (k := k) (cs := cs) (w := w) (ops := ops) (id := id)
              simp only [Region.schedule, hmo, Bool.true_or, if_true, Region.linearise] at hs
              exact .head hs ((st k cs).trans (.one stepR_region_end))
          · exact h.elim
        · exact h.elim
      · exact h.elim
    · exact h.elim

end Go.AE
