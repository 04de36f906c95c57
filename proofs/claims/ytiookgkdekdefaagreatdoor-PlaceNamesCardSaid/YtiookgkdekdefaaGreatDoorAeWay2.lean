/- THE EVALUATOR, a part: what an evaluator of loaded programs answers the model's machine answers. No condition. -/
import Derived.Test.YtiookgkdekdefaaGreatDoorAeWay
namespace Go.AE

variable {P : Program}

/-! ## What waits for what -/
theorem bindsA_eq (e : Edge) : Region.binds .any e = bindsA e := by
  unfold Region.binds bindsA
  cases e.ground <;> rfl

theorem bits_spec (acc : List Nat) (i : Nat) : ∀ (l : List Edge), (bits acc l).testBit i = true → ∃ e ∈ l, bindsA e = true ∧ (e.on = i ∨ ∃ m, acc[e.on]? = some m ∧ m.testBit i = true)
  | [], h => by simp [bits] at h
  | e :: l, h => by
    simp only [bits, cond_eq] at h
    split at h
    · rename_i hb
      have h : ((2 ^ e.on ||| (match nth acc e.on with | some m => m | none => 0)) ||| bits acc l).testBit i = true := h
      rw [Nat.testBit_or, Nat.testBit_or, Bool.or_eq_true, Bool.or_eq_true] at h
      rcases h with (h | h) | h
      · refine ⟨e, by simp, hb, .inl ?_⟩
        rw [Nat.testBit_two_pow] at h
        simpa using h
      · rw [nth_eq] at h
        split at h
        · rename_i m hm
          exact ⟨e, by simp, hb, .inr ⟨m, hm, h⟩⟩
        · simp at h
      · obtain ⟨e', h1, h2⟩ := bits_spec acc i l h
        exact ⟨e', by simp [h1], h2⟩
    · obtain ⟨e', h1, h2⟩ := bits_spec acc i l h
      exact ⟨e', by simp [h1], h2⟩

theorem befL_spec : ∀ (l : List Oper) (acc : List Nat), (befL l acc).take acc.length = acc ∧ ∀ j o, l[j]? = some o → (befL l acc)[acc.length + j]? = some (bits ((befL l acc).take (acc.length + j)) o.after.toList)
  | [], acc => ⟨by simp [befL], fun j o h => by simp at h⟩
  | o :: l, acc => by
    obtain ⟨h1, h2⟩ := befL_spec l (acc ++ [bits acc o.after.toList])
    simp only [List.length_append, List.length_singleton] at h1 h2
    have h0 : (befL l (acc ++ [bits acc o.after.toList])).take acc.length = acc := by
      have := congrArg (List.take acc.length) h1
      rw [List.take_take, Nat.min_eq_left (by omega)] at this
      rw [this]; simp
    refine ⟨h0, fun j o' hj => ?_⟩
    simp only [befL]
    cases j with
    | zero =>
      simp only [List.getElem?_cons_zero, Option.some.injEq] at hj
      subst hj
      rw [Nat.add_zero, h0]
      have : ((befL l (acc ++ [bits acc o.after.toList])).take (acc.length + 1))[acc.length]? = some (bits acc o.after.toList) := by rw [h1]; simp
      rw [List.getElem?_take] at this
      simpa using this
    | succ j =>
      simp only [List.getElem?_cons_succ] at hj
      have := h2 j o' hj
      rw [show acc.length + 1 + j = acc.length + (j + 1) by omega] at this
      exact this

theorem waits_listed {all : List Oper} (L : Nat → Prop) (hcl : ∀ j o, L j → all[j]? = some o → ∀ e ∈ o.after, bindsA e = true → L e.on) :
    ∀ (j : Nat) (o : Oper) (i : Nat), all[j]? = some o → (∀ e ∈ o.after, bindsA e = true → L e.on) → waits (befL all []) i j = true → L i := by
  intro j
  induction j using Nat.strongRecOn with
  | _ j ih =>
    intro o i ho he hw
    unfold waits at hw
    rw [nth_eq] at hw
    have hb := (befL_spec all []).2 j o ho
    simp only [List.length_nil, Nat.zero_add] at hb
    rw [hb] at hw
    obtain ⟨e, e1, e2, e3⟩ := bits_spec _ _ _ hw
    have hLe := he e (Array.mem_toList_iff.1 e1) e2
    rcases e3 with e3 | ⟨m, e3, e4⟩
    · rw [← e3]; exact hLe
    · rw [List.getElem?_take] at e3
      split at e3
      · rename_i hlt
        cases hq : all[e.on]? with
        | none =>
          have hlen : all.length ≤ e.on := by rw [List.getElem?_eq_none_iff] at hq; exact hq
          have : j < all.length := by
            rcases Nat.lt_or_ge j all.length with h | h
            · exact h
            · rw [List.getElem?_eq_none h] at ho; cases ho
          omega
        | some q =>
          refine ih e.on hlt q i hq (fun e' h1 h2 => hcl _ _ hLe hq e' h1 h2) ?_
          unfold waits
          rw [nth_eq, e3]; exact e4
      · cases e3

theorem hasT_iff (t : Tmp) : ∀ l : List Tmp, hasT t l = true ↔ t ∈ l
  | [] => by simp [hasT]
  | x :: l => by
    simp only [hasT, Bool.or_eq_true, List.mem_cons, hasT_iff t l]
    constructor
    · rintro (h | h)
      · exact .inl (Nat.eq_of_beq_eq_true h).symm
      · exact .inr h
    · rintro (h | h)
      · subst h; exact .inl (Nat.beq_refl _)
      · exact .inr h
theorem hasN_iff (t : Nat) : ∀ l : List Nat, hasN t l = true ↔ t ∈ l
  | [] => by simp [hasN]
  | x :: l => by
    simp only [hasN, Bool.or_eq_true, List.mem_cons, hasN_iff t l]
    constructor
    · rintro (h | h)
      · exact .inl (Nat.eq_of_beq_eq_true h).symm
      · exact .inr h
    · rintro (h | h)
      · subst h; exact .inl (Nat.beq_refl _)
      · exact .inr h
theorem clash_left {all : List Oper} {x y : Oper} {d : Tmp} (hx : x.dst = some d) (h : d ∈ looks all y ∨ y.dst = some d) : clash all x y = true := by
  unfold clash
  simp only [hx, Bool.or_eq_true]
  rcases h with h | h
  · exact .inl (.inl ((hasT_iff _ _).2 h))
  · refine .inl (.inr ?_)
    rw [h]; exact Nat.beq_refl _
theorem clash_right {all : List Oper} {x y : Oper} {d : Tmp} (hy : y.dst = some d) (h : d ∈ looks all x) : clash all x y = true := by
  unfold clash
  simp only [hy, Bool.or_eq_true]
  exact .inr ((hasT_iff _ _).2 h)

theorem orderOK_spec {all : List Oper} {b : List Nat} {o : Oper} {i : Nat} : ∀ (l : List Oper) (j : Nat), orderOK all b o i l j = true → ∀ k q, l[k]? = some q → (isChain o.op = true ∧ isChain q.op = true) ∨ clash all o q = true → waits b i (j + k) = true
  | [], _, _, k, q, hk, _ => by simp at hk
  | x :: l, j, h, k, q, hk, hq => by
    simp only [orderOK, Bool.and_eq_true] at h
    cases k with
    | zero =>
      simp only [List.getElem?_cons_zero, Option.some.injEq] at hk
      subst hk
      have h1 := h.1
      simp only [Bool.or_eq_true, Bool.not_eq_true', Bool.or_eq_false_iff, Bool.and_eq_false_iff] at h1
      rcases h1 with ⟨h1, h2⟩ | h1
      · rcases hq with ⟨q1, q2⟩ | q1
        · rcases h1 with h1 | h1
          · rw [q1] at h1; cases h1
          · rw [q2] at h1; cases h1
        · rw [q1] at h2; cases h2
      · exact h1
    | succ k =>
      simp only [List.getElem?_cons_succ] at hk
      have := orderOK_spec l (j + 1) h.2 k q hk hq
      rw [show j + (k + 1) = j + 1 + k by omega]; exact this
theorem ordersOK_spec {all : List Oper} {b : List Nat} : ∀ (l : List Oper) (i : Nat), ordersOK all b l i = true → ∀ j o, l[j]? = some o →
    (∀ e ∈ o.after, bindsA e = true → e.on < i + j) ∧ ∀ k q, j < k → l[k]? = some q → (isChain o.op = true ∧ isChain q.op = true) ∨ clash all o q = true → waits b (i + j) (i + k) = true
  | [], _, _, j, o, hj => by simp at hj
  | x :: l, i, h, j, o, hj => by
    simp only [ordersOK, Bool.and_eq_true] at h
    obtain ⟨⟨h1, h2⟩, h3⟩ := h
    cases j with
    | zero =>
      simp only [List.getElem?_cons_zero, Option.some.injEq] at hj
      subst hj
      refine ⟨fun e he hb => ?_, fun k q hk hq hh => ?_⟩
      · have := List.all_eq_true.1 h2 e (Array.mem_toList_iff.2 he)
        simp only [Bool.or_eq_true, Bool.not_eq_true'] at this
        rcases this with h | h
        · rw [hb] at h; cases h
        · rw [Nat.blt_eq] at h; exact h
      · cases k with
        | zero => omega
        | succ k =>
          simp only [List.getElem?_cons_succ] at hq
          have := orderOK_spec l (i + 1) h1 k q hq hh
          rw [show i + (k + 1) = i + 1 + k by omega]; exact this
    | succ j =>
      simp only [List.getElem?_cons_succ] at hj
      obtain ⟨a, c⟩ := ordersOK_spec l (i + 1) h3 j o hj
      refine ⟨fun e he hb => by have := a e he hb; omega, fun k q hk hq hh => ?_⟩
      cases k with
      | zero => omega
      | succ k =>
        simp only [List.getElem?_cons_succ] at hq
        have := c k q (by omega) hq hh
        rw [show i + (j + 1) = i + 1 + j by omega, show i + (k + 1) = i + 1 + k by omega]; exact this

/-! ## What the way's parts say -/
section
variable {R : Rec} {b : List Nat} {all : List Oper} {y : Wy} (hW : ∀ n o, all[n]? = some o → WayAt P R b all y n o)
include hW

theorem es_get : ∀ n, n ≤ all.length → ∀ t : Tmp,
    (∃ i o, i < n ∧ all[i]? = some o ∧ o.dst = some t ∧ (∀ k q, i < k → k < n → all[k]? = some q → q.dst ≠ some t) ∧ T.getP (path t) (y.es n) = some (y.vs i)) ∨
    ((∀ k q, k < n → all[k]? = some q → q.dst ≠ some t) ∧ T.getP (path t) (y.es n) = T.getP (path t) (y.es 0)) := by
  intro n
  induction n with
  | zero => intro _ t; exact .inr ⟨fun k q hk => by omega, rfl⟩
  | succ n ih =>
    intro hn t
    have ho : ∃ o, all[n]? = some o := ⟨all[n], List.getElem?_eq_getElem (by omega)⟩
    obtain ⟨o, ho⟩ := ho
    have he := (hW n o ho).2.1
    by_cases hd : o.dst = some t
    · refine .inl ⟨n, o, by omega, ho, hd, fun k q h1 h2 => by omega, ?_⟩
      rw [he]
      simp only [putTo, hd, T.getP_setPath, if_true]
    · have hsame : T.getP (path t) (y.es (n + 1)) = T.getP (path t) (y.es n) := by
        rw [he]
        cases hdst : o.dst with
        | none => rfl
        | some d =>
          simp only [putTo, T.getP_setPath]
          rw [if_neg]; intro e; subst e; exact hd hdst
      have last : ∀ k q, k = n → all[k]? = some q → q.dst ≠ some t := by
        intro k q hk hq; subst hk; rw [ho] at hq; cases hq; exact hd
      rcases ih (by omega) t with ⟨i, o', h1, h2, h3, h4, h5⟩ | ⟨h1, h2⟩
      · refine .inl ⟨i, o', by omega, h2, h3, fun k q hk1 hk2 hq => ?_, by rw [hsame]; exact h5⟩
        by_cases hk : k = n
        · exact last k q hk hq
        · exact h4 k q hk1 (by omega) hq
      · refine .inr ⟨fun k q hk hq => ?_, by rw [hsame]; exact h2⟩
        by_cases hk' : k = n
        · exact last k q hk' hq
        · exact h1 k q (by omega) hq

theorem ss_const {n : Nat} {o : Oper} (ho : all[n]? = some o) (h : cls o.op ≠ .chain ∨ y.gs n = false) : y.ss (n + 1) = y.ss n := by
  obtain ⟨_, _, _, h4, h5⟩ := hW n o ho
  cases hg : y.gs n with
  | false => exact (h4 hg).2.1
  | true =>
    have h5 := h5 hg
    cases hc : cls o.op with
    | chain => rcases h with h | h; exact absurd hc h; rw [hg] at h; cases h
    | alloc => rw [hc] at h5; exact h5.2.1
    | pure => rw [hc] at h5; exact h5.2.1
    | reader => rw [hc] at h5; exact h5.2.1
theorem ss_run {a c : Nat} (hac : a ≤ c) (hc : c ≤ all.length) (h : ∀ n o, a ≤ n → n < c → all[n]? = some o → cls o.op ≠ .chain ∨ y.gs n = false) : y.ss c = y.ss a := by
  induction c with
  | zero => have : a = 0 := by omega
            subst this; rfl
  | succ c ih =>
    by_cases e : a = c + 1
    · subst e; rfl
    · have ho : all[c]? = some all[c] := List.getElem?_eq_getElem (by omega)
      rw [ss_const hW ho (h c _ (by omega) (by omega) ho)]
      exact ih (by omega) (by omega) fun n o h1 h2 => h n o h1 (by omega)

theorem as_sub {n : Nat} {o : Oper} (ho : all[n]? = some o) : (∀ x ∈ (y.as n).rds, x ∈ (y.as (n + 1)).rds) ∧ (∀ x ∈ (y.as n).chs, x ∈ (y.as (n + 1)).chs) := by
  obtain ⟨_, _, _, h4, h5⟩ := hW n o ho
  cases hg : y.gs n with
  | false => rw [(h4 hg).2.2]; exact ⟨fun _ h => h, fun _ h => h⟩
  | true =>
    have h5 := h5 hg
    cases hc : cls o.op with
    | alloc => rw [hc] at h5; rw [h5.2.2]; exact ⟨fun _ h => h, fun _ h => h⟩
    | pure => rw [hc] at h5; rw [h5.2.2]; exact ⟨fun _ h => h, fun _ h => h⟩
    | chain => rw [hc] at h5; rw [h5.2]; exact ⟨fun _ h => h, fun _ h => List.mem_cons_of_mem _ h⟩
    | reader =>
      rw [hc] at h5
      have hn := h5.2.2
      unfold note at hn
      split at hn
      · cases hn
      · simp only [Option.some.injEq] at hn
        rw [← hn]; exact ⟨fun _ h => h, fun _ h => h⟩
      · simp only [Option.some.injEq] at hn
        rw [← hn]; exact ⟨fun _ h => List.mem_cons_of_mem _ h, fun _ h => h⟩
theorem as_mono {a c : Nat} (hac : a ≤ c) (hc : c ≤ all.length) : (∀ x ∈ (y.as a).rds, x ∈ (y.as c).rds) ∧ (∀ x ∈ (y.as a).chs, x ∈ (y.as c).chs) := by
  induction c with
  | zero => have : a = 0 := by omega
            subst this; exact ⟨fun _ h => h, fun _ h => h⟩
  | succ c ih =>
    by_cases e : a = c + 1
    · subst e; exact ⟨fun _ h => h, fun _ h => h⟩
    · obtain ⟨i1, i2⟩ := ih (by omega) (by omega)
      obtain ⟨j1, j2⟩ := as_sub hW (List.getElem?_eq_getElem (show c < all.length by omega))
      exact ⟨fun x h => j1 x (i1 x h), fun x h => j2 x (i2 x h)⟩

theorem early_spec (h0 : y.as 0 = ⟨[], []⟩) (i : Nat) : ∀ n, n ≤ all.length → ∀ m0, n ≤ m0 → ∃ m, early b i m0 (y.ss m0) (y.as n).chs = (m, y.ss m) ∧ m ≤ m0 ∧
    ∀ k o, k < n → all[k]? = some o → cls o.op = .chain → y.gs k = true → k < m → waits b k i = true := by
  intro n
  induction n with
  | zero => intro _ m0 _; rw [h0]; exact ⟨m0, rfl, Nat.le_refl _, fun k o hk => by omega⟩
  | succ n ih =>
    intro hn m0 hm
    have ho : all[n]? = some all[n] := List.getElem?_eq_getElem (by omega)
    obtain ⟨_, _, _, h4, h5⟩ := hW n _ ho
    have stay : (y.as (n + 1)).chs = (y.as n).chs → (cls all[n].op ≠ .chain ∨ y.gs n = false) → ∃ m, early b i m0 (y.ss m0) (y.as (n + 1)).chs = (m, y.ss m) ∧ m ≤ m0 ∧
        ∀ k o, k < n + 1 → all[k]? = some o → cls o.op = .chain → y.gs k = true → k < m → waits b k i = true := by
      intro he hno
      obtain ⟨m, m1, m2, m3⟩ := ih (by omega) m0 (by omega)
      refine ⟨m, by rw [he]; exact m1, m2, fun k o hk hok hc hg hkm => ?_⟩
      by_cases hkn : k = n
      · subst hkn
        rw [ho] at hok; cases hok
        rcases hno with h | h
        · exact absurd hc h
        · rw [hg] at h; cases h
      · exact m3 k o (by omega) hok hc hg hkm
    cases hg : y.gs n with
    | false => exact stay (by rw [(h4 hg).2.2]) (.inr hg)
    | true =>
      have h5 := h5 hg
      cases hc : cls all[n].op with
      | alloc => rw [hc] at h5; exact stay (by rw [h5.2.2]) (.inl (by rw [hc]; intro e; cases e))
      | pure => rw [hc] at h5; exact stay (by rw [h5.2.2]) (.inl (by rw [hc]; intro e; cases e))
      | reader =>
        rw [hc] at h5
        refine stay ?_ (.inl (by rw [hc]; intro e; cases e))
        have hn := h5.2.2
        unfold note at hn
        split at hn
        · cases hn
        · simp only [Option.some.injEq] at hn
          rw [← hn]
        · simp only [Option.some.injEq] at hn
          rw [← hn]
      | chain =>
        rw [hc] at h5
        rw [h5.2]
        simp only [early, cond_eq]
        split
        · rename_i hwt
          obtain ⟨m, m1, m2, m3⟩ := ih (by omega) m0 (by omega)
          refine ⟨m, m1, m2, fun k o hk hok hc' hg' hkm => ?_⟩
          by_cases hkn : k = n
          · subst hkn; exact hwt
          · exact m3 k o (by omega) hok hc' hg' hkm
        · obtain ⟨m, m1, m2, m3⟩ := ih (by omega) n (Nat.le_refl _)
          refine ⟨m, m1, by omega, fun k o hk hok hc' hg' hkm => ?_⟩
          exact m3 k o (by omega) hok hc' hg' hkm
end

/-! ## The region's own variables -/
theorem reserve_keep : ∀ (vs : List AO) (s : S) (id : Nat), id < s.next → (reserve vs s).H.get id = s.H.get id
  | [], _, _, _ => rfl
  | o :: vs, s, id, h => by
    rw [reserve, reserve_keep vs (s.new o) id (by rw [S.new_next]; omega), S.new_H, T.get_set, if_neg (by omega)]
theorem reserve_next : ∀ (vs : List AO) (s : S), (reserve vs s).next = s.next + vs.length
  | [], _ => rfl
  | o :: vs, s => by rw [reserve, reserve_next vs, S.new_next, List.length_cons]; omega
theorem reserve_get : ∀ (vs : List AO) (s : S) (r : Nat) (o : AO), vs[r]? = some o → (reserve vs s).H.get (s.next + r) = some o
  | [], _, _, _, h => by simp at h
  | o' :: vs, s, 0, o, h => by
    simp only [List.getElem?_cons_zero, Option.some.injEq] at h; subst h
    rw [reserve, reserve_keep vs _ _ (by rw [S.new_next]; omega), S.new_H, T.get_set, if_pos (by omega)]
  | o' :: vs, s, r + 1, o, h => by
    simp only [List.getElem?_cons_succ] at h
    have := reserve_get vs (s.new o') r o h
    rw [S.new_next] at this
    rw [reserve, show s.next + (r + 1) = s.next + 1 + r by omega]; exact this

theorem HR.reserve {μ : Mu} {w : World} : ∀ (vs : List AO) {s : S}, HR μ s w → HR μ (reserve vs s) w ∧ Ext μ s w [] μ (AE.reserve vs s) w
  | [], s, h => ⟨h, Ext.refl⟩
  | o :: vs, s, h => by
    have h1 : HR μ (s.new o) w := by
      refine ⟨fun id o1 d e m => ?_, fun id o1 e => ?_, fun i j oi oj di dj hij ei ej mi mj hb => ?_, fun id d m => ?_⟩
      · rw [S.new_H, T.get_set] at e
        by_cases hi : s.next = id
        · subst hi; rw [h.fresh] at m; cases m
        · rw [if_neg hi] at e; exact h.obj _ _ _ e m
      · rw [S.new_next]; rw [S.new_H, T.get_set] at e
        by_cases hi : s.next = id
        · omega
        · rw [if_neg hi] at e; have := h.lt _ _ e; omega
      · rw [S.new_H, T.get_set] at ei ej
        by_cases hi : s.next = i
        · subst hi; rw [h.fresh] at mi; cases mi
        · by_cases hj : s.next = j
          · subst hj; rw [h.fresh] at mj; cases mj
          · rw [if_neg hi] at ei; rw [if_neg hj] at ej; exact h.sep i j _ _ _ _ hij ei ej mi mj hb
      · rw [S.new_next]; have := h.dom _ _ m; omega
    have x1 : Ext μ s w [] μ (s.new o) w := by
      refine ⟨Sub.refl μ, fun id d a m => (by rw [a] at m; cases m), by rw [S.new_next]; omega, by rw [S.new_log]; rfl, fun _ _ _ => rfl, Nat.le_refl _, (fun _ h => by cases h), fun id hlt o1 e => ?_, fun id hlt _ => ?_, (fun _ h => by cases h), fun _ h => h, rfl, rfl, rfl⟩
      · rw [S.new_H, T.get_set, if_neg (by omega)] at e; exact ⟨o1, e, rfl⟩
      · rw [S.new_H, T.get_set, if_neg (by omega)]
    obtain ⟨h2, x2⟩ := HR.reserve vs h1
    exact ⟨h2, x1.trans x2⟩

end Go.AE
