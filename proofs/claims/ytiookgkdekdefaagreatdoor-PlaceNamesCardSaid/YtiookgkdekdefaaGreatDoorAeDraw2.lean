/- THE EVALUATOR, a part: what an evaluator of loaded programs answers the model's machine answers. No condition. -/
import Derived.Test.YtiookgkdekdefaaGreatDoorAeDraw
namespace Go.AE

variable {P : Program}
variable {R : Rec} {all : List Oper} {y : Wy} {s0 : S} {μ0 : Mu} {w0 : World} {n0 : Nat} {L : Nat → Prop} {tmps : Array Value} {μ : Mu} {w : World} {N : Nat} {δ : List Nat}

/-- An operation that may come up now, carried out: what is known behind it. -/
theorem Inv.exec (hR : RecOK P R) {ops : Array Oper} (hops : ops.toList = all) (G : Reg P R all y s0 n0) (I : Inv P all y s0 μ0 w0 n0 L tmps μ w N δ) {j : Nat} {o : Oper} (ho : all[j]? = some o) (hun : ¬ L j)
    (hrd : ∀ e ∈ o.after, bindsA e = true → L e.on) {L' : Nat → Prop} (hL : ∀ i, L' i ↔ L i ∨ i = j) (b : Frame) (bs : List Deferred) :
    ∃ tmps' μ' w' N' δ', Inv P all y s0 μ0 w0 n0 L' tmps' μ' w' N' δ' ∧
      ∀ (k : List Item) (cs : List Frame) (rest : List Nat), Steps P (lone (b.atR ⟨tmps, bs⟩ (.inRegion ops (j :: rest) :: k)) cs w) (lone (b.atR ⟨tmps', bs⟩ (.inRegion ops rest :: k)) cs w') := by
  have hj : j < all.length := by
    rcases Nat.lt_or_ge j all.length with h | h
    · exact h
    · rw [List.getElem?_eq_none h] at ho; cases ho
  have hoa : ops[j]? = some o := by rw [← hops] at ho; simpa using ho
  obtain ⟨wg, we, wv, wi, wo⟩ := G.way j o ho
  -- the environment, cut to what the operation looks at
  have hE : ER μ (restr (y.es j) (looks all o)) tmps := by
    intro t v hv
    rw [restr_get] at hv
    split at hv
    · rename_i ht; exact I.look G ho hun hrd ht hv
    · cases hv
  have hgd : Region.wanted o (yielded ops tmps) = y.gs j := by
    refine guard_sound (ops := ops) hE ?_
    rw [hops, restr_guard]; exact wg
  have hcong : ∀ s, (hd P o.op).run (restr (y.es j) (looks all o)) s = (hd P o.op).run (y.es j) s := fun s => hd_congr _ fun x hx => restr_opd _ _ hx
  -- what chained operations say of the state
  have hNj : cls o.op = .chain → y.ss N = y.ss j := by
    intro hc
    have hNle : N ≤ j := by
      rcases Nat.lt_or_ge j N with h | h
      · exact absurd ((I.ch j o ho hc).2 h) hun
      · exact h
    refine (ss_run G.way hNle (Nat.le_of_lt hj) fun k q h1 h2 hq => .inl fun hcq => ?_).symm
    have hw := (G.ord k q hq).2 j o h2 ho (.inl ⟨isChain_iff.2 hcq, isChain_iff.2 hc⟩)
    have hk := (I.ch k q hq hcq).1 (waits_listed L I.closed j o k ho hrd hw)
    omega
  -- variables that are not made yet stay so
  have alkeep : ∀ {μ' : Mu} {s' : S} {w' : World} {ε : List Nat}, Ext μ (y.ss N) w ε μ' s' w' → ∀ i oi t z, all[i]? = some oi → oi.op = .alloc t → zero P t = some z → ¬ L i → i ≠ j →
      μ' (y.va i) = none ∧ s'.H.get (y.va i) = some (.cells z.cells.toList (eszOf P t) false) := by
    intro μ' s' w' ε x i oi t z h1 h2 h3 h4 _
    obtain ⟨a1, a2⟩ := I.al i oi t z h1 h2 h3 h4
    have hlt := I.hr.lt _ _ a2
    refine ⟨?_, ?_⟩
    · cases hm : μ' (y.va i) with
      | none => rfl
      | some d => have := (x.new _ d a1 hm).1; omega
    · rw [x.hframe _ hlt]
      · exact a2
      · intro hin
        obtain ⟨d, hd⟩ := x.wr _ hin hlt
        rw [a1] at hd; cases hd
  cases hg : y.gs j with
  | false =>
    obtain ⟨v1, v2, v3⟩ := wi hg
    have hN' : ∃ N', (if cls o.op = .chain then N' = j + 1 else N' = N) ∧ y.ss N' = y.ss N := by
      by_cases hc : cls o.op = .chain
      · exact ⟨j + 1, by rw [if_pos hc], by rw [v2, hNj hc]⟩
      · exact ⟨N, by rw [if_neg hc], rfl⟩
    obtain ⟨N', n1, n2⟩ := hN'
    refine ⟨_, μ, w, N', δ, I.step G ho hun hrd (Sub.refl μ) (v' := undef) (by rw [v1]; exact undef_rel μ) hL bs n1 (fun _ h => by rw [hg] at h; cases h) (by rw [n2]; exact I.hr) (by rw [n2]; exact I.ext) (fun i oi t z h1 h2 h3 h4 h5 => by rw [n2]; exact I.al i oi t z h1 h2 h3 h4), fun k cs rest => ?_⟩
    rw [hg] at hgd
    have hs := stepR_op_skip (P := P) (b := b) (a := ⟨tmps, bs⟩) (k := k) (cs := cs) (w := w) (ops := ops) (i := j) (rest := rest) (by rw [hoa]; simpa using hgd)
    rw [hoa] at hs
    have ha : Act.put ⟨tmps, bs⟩ ((some o).bind (·.dst)) undef = ⟨(Act.put ⟨tmps, bs⟩ o.dst undef).tmps, bs⟩ := put_eta _ _ _ _
    rw [ha] at hs
    exact .one hs
  | true =>
    rw [hg] at hgd
    have wo := wo hg
    -- all but 'alloc'
    have fin : ∀ {v v' : Value} {μ' : Mu} {w' : World} {S2 : S} {ε : List Nat} {N' : Nat}, v = y.vs j → Ev P (execOp (Act.eval ⟨tmps, bs⟩) o) w v' w' → (∀ c, o.op ≠ .defer c) → VR μ' v v' → HR μ' S2 w' → Ext μ (y.ss N) w ε μ' S2 w' →
        (if cls o.op = .chain then N' = j + 1 else N' = N) → y.ss N' = S2 → (cls o.op = .chain → ε = fresh (y.ss j).log (y.ss (j + 1)).log) →
        ∃ tmps' μ' w' N' δ', Inv P all y s0 μ0 w0 n0 L' tmps' μ' w' N' δ' ∧
          ∀ (k : List Item) (cs : List Frame) (rest : List Nat), Steps P (lone (b.atR ⟨tmps, bs⟩ (.inRegion ops (j :: rest) :: k)) cs w) (lone (b.atR ⟨tmps', bs⟩ (.inRegion ops rest :: k)) cs w') := by
      intro v v' μ' w' S2 ε N' hv ev hnd rv hH2 x hN hS hε
      refine ⟨_, μ', w', N', _, I.step G ho hun hrd x.sub (v' := v') (by rw [← hv]; exact rv) hL bs hN ?_ (by rw [hS]; exact hH2) (by rw [hS]; exact I.ext.trans x) (by rw [hS]; exact alkeep x), fun k cs rest => ?_⟩
      · intro hc _ id h1 h2
        rw [if_pos hc] at hN
        rw [← hε hc] at h2
        rw [← hNj hc] at h1 ⊢
        rw [← hN, hS]
        exact x.hframe id h1 h2
      · have hs := Ev.steps (P := P) (b := b) (a := ⟨tmps, bs⟩) (k := k) (cs := cs) (rest := rest) hoa hgd hnd ev
        rw [put_eta] at hs
        exact hs
    -- an operation that leaves the state alone
    have still : ∀ s1, cls o.op ≠ .chain → (hd P o.op).run (restr (y.es j) (looks all o)) (y.ss N) = .done (.value (y.vs j), s1) → s1 = y.ss N → ∃ tmps' μ' w' N' δ', Inv P all y s0 μ0 w0 n0 L' tmps' μ' w' N' δ' ∧
          ∀ (k : List Item) (cs : List Frame) (rest : List Nat), Steps P (lone (b.atR ⟨tmps, bs⟩ (.inRegion ops (j :: rest) :: k)) cs w) (lone (b.atR ⟨tmps', bs⟩ (.inRegion ops rest :: k)) cs w') := by
      intro s1 hc hr he
      subst he
      have hwp : ((hd P o.op).run (restr (y.es j) (looks all o)) (y.ss N)).wp (fun x => x = (.value (y.vs j), y.ss N)) := by rw [hr]; rfl
      have hnd := hd_defer (P := P) o hwp
      obtain ⟨out, s', q, st⟩ := hd_step (dfs := bs) o hE I.glob I.hr hwp
      cases q
      obtain ⟨v, s2, v', μ', w', ε, q2, ev, rv, h2, x⟩ := finish_sound hR I.hr I.glob st (Q := fun x => x = (y.vs j, y.ss N)) rfl
      cases q2
      exact fin rfl ev hnd rv h2 x (N' := N) (by rw [if_neg hc]) rfl (fun h => absurd h hc)
    cases hc : cls o.op with
    | alloc =>
      rw [hc] at wo
      obtain ⟨v1, v2, v3⟩ := wo
      obtain ⟨t, z, ht, hz, hva⟩ := G.vars j o ho hc
      obtain ⟨a1, a2⟩ := I.al j o t z ho ht hz hun
      obtain ⟨z1, z2⟩ := zero_flat (w := w) hz
      have zc : VRs μ z.cells.toList z.cells.toList := (VR.of_flat1 μ z2).cells
      obtain ⟨m1, m2⟩ := I.hr.make a1 a2 zc t
      refine ⟨_, _, _, N, δ, I.step G ho hun hrd (Mu.sub_set a1) (v' := .pointer (some ⟨w.heap.size, 0, none⟩)) ?_ hL bs (by rw [hc]; rfl) (fun h => by rw [hc] at h; cases h) m1 (m2 _ _ _ _ I.ext hva) ?_, fun k cs rest => ?_⟩
      · rw [v1]; exact VR.ptr (o := 0) (Mu.set_self _ _ _)
      · intro i oi t' z' h1 h2 h3 h4 h5
        obtain ⟨b1, b2⟩ := I.al i oi t' z' h1 h2 h3 h4
        refine ⟨?_, b2⟩
        unfold Mu.set
        rw [if_neg]
        · exact b1
        · exact G.vinj i j oi o h1 ho (by rw [h2]; rfl) hc h5
      · have ev : Ev P (execOp (Act.eval ⟨tmps, bs⟩) o) w (.pointer (some ⟨w.heap.size, 0, none⟩)) { w with heap := w.heap.push (.cells ⟨z.cells.toList⟩ t) } := by
          refine .value ?_
          simp only [execOp, ht, Instr.alloc, Sem.run_bind, z1, Result.andThen_ok, newVar, newRow, run_newObj, Sem.run_pure]
        have hs := Ev.steps (P := P) (b := b) (a := ⟨tmps, bs⟩) (k := k) (cs := cs) (rest := rest) hoa hgd (fun c e => by rw [ht] at e; cases e) ev
        rw [put_eta] at hs
        exact hs
    | pure =>
      rw [hc] at wo
      obtain ⟨⟨s1, v1⟩, v2, v3⟩ := wo
      obtain ⟨_, _, h3⟩ := hd_pure_SInd (P := P) (E := y.es j) o.op hc _ _ _ v1
      exact still _ (by rw [hc]; intro e; cases e) ((hcong _).trans (h3 (y.ss N))) rfl
    | reader =>
      rw [hc] at wo
      obtain ⟨⟨s1, v1⟩, v2, v3⟩ := wo
      obtain ⟨m, e1, e2, e3⟩ := early_spec (b := befL all []) G.way G.as0 j j (Nat.le_of_lt hj) j (Nat.le_refl _)
      rw [e1] at v1 v3
      -- which object is read, and that it stands as it stood
      have hkeep : ∀ r, (readsOf P o.op).run (y.es j) = some r → ∀ id, r = some id → (y.ss N).H.get id = (y.ss m).H.get id := by
        intro r hr id hid
        subst hid
        simp only [note, hr, Option.some.injEq] at v3
        have hin : (j, id, m) ∈ (y.as all.length).rds := (as_mono G.way (show j + 1 ≤ all.length by omega) (Nat.le_refl _)).1 _ (by rw [← v3]; simp)
        rcases Nat.lt_or_ge N m with hNm | hNm
        · -- nothing wanted lies between
          rw [ss_run G.way (Nat.le_of_lt hNm) (by omega) fun k q h1 h2 hq => ?_]
          by_cases hcq : cls q.op = .chain
          · right
            cases hgk : y.gs k with
            | false => rfl
            | true =>
              have hw := e3 k q (by omega) hq hcq hgk h2
              have hk := (I.ch k q hq hcq).1 (waits_listed L I.closed j o k ho hrd hw)
              omega
          · exact .inl hcq
        · -- each chained operation between keeps it
          have go : ∀ c, m ≤ c → c ≤ N → (y.ss c).H.get id = (y.ss m).H.get id := by
            intro c
            induction c with
            | zero => intro h1 _; have : m = 0 := by omega
                      subst this; rfl
            | succ c ih =>
              intro h1 h2
              by_cases hmc : m = c + 1
              · subst hmc; rfl
              · obtain ⟨oc, hq⟩ : ∃ oc, all[c]? = some oc := ⟨all[c]'(by have := I.le; omega), List.getElem?_eq_getElem _⟩
                have ih := ih (by omega) (by omega)
                by_cases hcq : cls oc.op = .chain ∧ y.gs c = true
                · have hLc := (I.ch c _ hq hcq.1).2 (by omega)
                  have hinc : (c, y.ss c, fresh (y.ss c).log (y.ss (c + 1)).log) ∈ (y.as all.length).chs := by
                    refine (as_mono G.way (show c + 1 ≤ all.length by have := I.le; omega) (Nat.le_refl _)).2 _ ?_
                    have := (G.way c _ hq).2.2.2.2 hcq.2
                    rw [hcq.1] at this
                    rw [this.2]; simp
                  have hf := G.flt
                  unfold float at hf
                  have hf := List.all_eq_true.1 (List.all_eq_true.1 hf _ hin) _ hinc
                  simp only [Bool.or_eq_true, Bool.and_eq_true, Bool.not_eq_true', Nat.blt_eq] at hf
                  rcases hf with (hf | hf) | hf
                  · omega
                  · exact absurd (waits_listed L I.closed c _ j hq (fun e h1 h2 => I.closed c _ hLc hq e h1 h2) hf.2) hun
                  · rw [I.fr c _ hq hcq.1 hcq.2 (by omega) id ?_ ?_]
                    · exact ih
                    · exact hf.1
                    · intro hmem
                      have := (hasN_iff id _).2 hmem
                      rw [this] at hf; cases hf.2
                · rw [ss_const G.way hq]
                  · exact ih
                  · by_cases h : cls oc.op = .chain
                    · right
                      cases hgk : y.gs c with
                      | false => rfl
                      | true => exact absurd ⟨h, hgk⟩ hcq
                    · exact .inl h
          exact go N hNm (Nat.le_refl _)
      have hex : ∃ r, (readsOf P o.op).run (y.es j) = some r := by
        simp only [note] at v3
        cases h : (readsOf P o.op).run (y.es j) with
        | none => rw [h] at v3; cases v3
        | some r => exact ⟨r, rfl⟩
      obtain ⟨r, hr⟩ := hex
      exact still _ (by rw [hc]; intro e; cases e) ((hcong _).trans (hd_reader_S (P := P) o.op hc v1 hr (hkeep r hr))) rfl
    | chain =>
      rw [hc] at wo
      obtain ⟨v1, v2⟩ := wo
      have hs := hNj hc
      have hwp : ((hd P o.op).run (restr (y.es j) (looks all o)) (y.ss N)).wp (fun x => (finish R x).wp fun z => z = (y.vs j, y.ss (j + 1))) := by
        rw [hcong, hs]
        refine Tr.wp_bind.1 ?_
        rw [v1]; rfl
      have hnd := hd_defer (P := P) o hwp
      obtain ⟨out, s', q, st⟩ := hd_step (dfs := bs) o hE I.glob I.hr hwp
      obtain ⟨v, s2, v', μ', w', ε, q2, ev, rv, h2, x⟩ := finish_sound hR I.hr I.glob st q
      cases q2
      refine fin rfl ev hnd rv h2 x (N' := j + 1) (by rw [if_pos hc]) rfl (fun _ => ?_)
      rw [← hs]
      exact (fresh_eq x.log).symm

end Go.AE
