/- THE EVALUATOR, a part: what an evaluator of loaded programs answers the model's machine answers. No condition. -/
import Derived.Test.YtiookgkdekdefaaGreatDoorAeCong
namespace Go.AE

variable {P : Program}

/-! ## The evaluator's way through a region that draws -/
structure Wy where
  es : Nat → T Value
  ss : Nat → S
  vs : Nat → Value
  gs : Nat → Bool
  as : Nat → Acc
  va : Nat → Nat

def WayAt (P : Program) (R : Rec) (b : List Nat) (all : List Oper) (y : Wy) (n : Nat) (o : Oper) : Prop :=
  (guardOf all o).run (y.es n) = some (y.gs n) ∧ y.es (n + 1) = (putTo o.dst).run (y.es n) (y.vs n) ∧ y.va (n + 1) = (match cls o.op with | .alloc => y.va n + 1 | _ => y.va n) ∧
  (y.gs n = false → y.vs n = undef ∧ y.ss (n + 1) = y.ss n ∧ y.as (n + 1) = y.as n) ∧
  (y.gs n = true → match cls o.op with
    | .alloc => y.vs n = .pointer (some ⟨y.va n, 0, none⟩) ∧ y.ss (n + 1) = y.ss n ∧ y.as (n + 1) = y.as n
    | .pure => (∃ s1, (hd P o.op).run (y.es n) (y.ss n) = .done (.value (y.vs n), s1)) ∧ y.ss (n + 1) = y.ss n ∧ y.as (n + 1) = y.as n
    | .reader => (∃ s1, (hd P o.op).run (y.es n) (early b n n (y.ss n) (y.as n).chs).2 = .done (.value (y.vs n), s1)) ∧ y.ss (n + 1) = y.ss n ∧
        note (y.es n) (readsOf P o.op) n (early b n n (y.ss n) (y.as n).chs).1 (y.as n) = some (y.as (n + 1))
    | .chain => ((hd P o.op).run (y.es n) (y.ss n)).bind (finish R) = .done (y.vs n, y.ss (n + 1)) ∧
        y.as (n + 1) = ⟨(y.as n).rds, (n, y.ss n, fresh (y.ss n).log (y.ss (n + 1)).log) :: (y.as n).chs⟩)

def at0 {α : Type} (i : Nat) (x : α) (f : Nat → α) : Nat → α := fun n => if n = i then x else f n
theorem at0_self {α : Type} (i : Nat) (x : α) (f : Nat → α) : at0 i x f i = x := by simp [at0]
theorem at0_ne {α : Type} {i n : Nat} (x : α) (f : Nat → α) (h : n ≠ i) : at0 i x f n = f n := by simp [at0, h]
def Wy.put (y : Wy) (i : Nat) (E : T Value) (s : S) (v : Value) (g : Bool) (A : Acc) (var : Nat) : Wy :=
  ⟨at0 i E y.es, at0 i s y.ss, at0 i v y.vs, at0 i g y.gs, at0 i A y.as, at0 i var y.va⟩
theorem WayAt.put {R : Rec} {b : List Nat} {all : List Oper} {y : Wy} {i n : Nat} {o : Oper} {E : T Value} {s : S} {v : Value} {g : Bool} {A : Acc} {var : Nat} (hn : i < n) (h : WayAt P R b all y n o) :
    WayAt P R b all (y.put i E s v g A var) n o := by
  have h1 : n ≠ i := by omega
  have h2 : n + 1 ≠ i := by omega
  unfold WayAt Wy.put at *
  simp only [at0_ne _ _ h1, at0_ne _ _ h2]
  exact h

theorem way_of {R : Rec} {b : List Nat} {all : List Oper} {E' : T Value} {s' : S} {A' : Acc} : ∀ (l : List Oper) (i var : Nat) (E : T Value) (s : S) (A : Acc), (∀ j, l[j]? = all[i + j]?) →
    dopers R b (obs P all l) i var E s A = some (E', s', A') →
    ∃ y : Wy, y.es i = E ∧ y.ss i = s ∧ y.as i = A ∧ y.va i = var ∧ y.es (i + l.length) = E' ∧ y.ss (i + l.length) = s' ∧ y.as (i + l.length) = A' ∧ ∀ n o, i ≤ n → all[n]? = some o → WayAt P R b all y n o
  | [], i, var, E, s, A, hl, h => by
    change some (E, s, A) = some (E', s', A') at h
    cases h
    refine ⟨⟨fun _ => E', fun _ => s', fun _ => undef, fun _ => false, fun _ => A', fun _ => var⟩, rfl, rfl, rfl, rfl, rfl, rfl, rfl, fun n o hn ho => ?_⟩
    have := hl (n - i)
    rw [show i + (n - i) = n by omega, ho] at this
    cases this
  | o :: l, i, var, E, s, A, hl, h => by
    have ho : all[i]? = some o := by have := hl 0; simpa using this.symm
    have hl' : ∀ j, l[j]? = all[(i + 1) + j]? := by
      intro j; have := hl (j + 1); rw [show i + 1 + j = i + (j + 1) by omega]; simpa using this
    have hlen : i + (o :: l).length = (i + 1) + l.length := by simp only [List.length_cons]; omega
    -- what remains, once this operation's own part is known
    have key : ∀ (var2 : Nat) (v : Value) (s2 : S) (A2 : Acc) (g : Bool), dopers R b (obs P all l) (i + 1) var2 ((putTo o.dst).run E v) s2 A2 = some (E', s', A') →
        (∀ y : Wy, y.es i = E → y.ss i = s → y.as i = A → y.va i = var → y.vs i = v → y.gs i = g → y.es (i + 1) = (putTo o.dst).run E v → y.ss (i + 1) = s2 → y.as (i + 1) = A2 → y.va (i + 1) = var2 → WayAt P R b all y i o) →
        ∃ y : Wy, y.es i = E ∧ y.ss i = s ∧ y.as i = A ∧ y.va i = var ∧ y.es (i + (o :: l).length) = E' ∧ y.ss (i + (o :: l).length) = s' ∧ y.as (i + (o :: l).length) = A' ∧ ∀ n o, i ≤ n → all[n]? = some o → WayAt P R b all y n o := by
      intro var2 v s2 A2 g hd hw
      obtain ⟨y, e1, e2, e3, e4, e5, e6, e7, e8⟩ := way_of l (i + 1) var2 _ s2 A2 hl' hd
      rw [hlen]
      have h1 : i + 1 ≠ i := by omega
      have h2 : i + 1 + l.length ≠ i := by omega
      refine ⟨y.put i E s v g A var, at0_self _ _ _, at0_self _ _ _, at0_self _ _ _, at0_self _ _ _, (at0_ne _ _ h2).trans e5, (at0_ne _ _ h2).trans e6, (at0_ne _ _ h2).trans e7, fun n o' hn hno => ?_⟩
      rcases Nat.lt_or_ge i n with hin | hin
      · exact (e8 n o' hin hno).put hin
      · have : n = i := by omega
        subst this
        rw [ho] at hno; cases hno
        exact hw _ (at0_self _ _ _) (at0_self _ _ _) (at0_self _ _ _) (at0_self _ _ _) (at0_self _ _ _) (at0_self _ _ _) ((at0_ne _ _ h1).trans e1) ((at0_ne _ _ h1).trans e2) ((at0_ne _ _ h1).trans e3) ((at0_ne _ _ h1).trans e4)
    change (match (guardOf all o).run E with
      | none => none
      | some false => dopers R b (obs P all l) (i + 1) (match cls o.op with | .alloc => Nat.succ var | _ => var) ((putTo o.dst).run E undef) s A
      | some true => match cls o.op with
        | .alloc => dopers R b (obs P all l) (i + 1) (Nat.succ var) ((putTo o.dst).run E (.pointer (some ⟨var, 0, none⟩))) s A
        | .pure => match (hd P o.op).run E s with
          | .done (.value v, _) => dopers R b (obs P all l) (i + 1) var ((putTo o.dst).run E v) s A
          | _ => none
        | .reader => match early b i i s A.chs with
          | (m, S1) => match (hd P o.op).run E S1 with
            | .done (.value v, _) => match note E (readsOf P o.op) i m A with
              | some A => dopers R b (obs P all l) (i + 1) var ((putTo o.dst).run E v) s A
              | none => none
            | _ => none
        | .chain => match ((hd P o.op).run E s).bind (finish R) with
          | .done (v, S2) => dopers R b (obs P all l) (i + 1) var ((putTo o.dst).run E v) S2 ⟨A.rds, (i, s, fresh s.log S2.log) :: A.chs⟩
          | _ => none) = some (E', s', A') at h
    split at h
    · cases h
    · rename_i hg
      refine key _ _ _ _ false h fun y e1 e2 e3 e4 e5 e6 e7 e8 e9 e10 => ⟨by rw [e1, e6]; exact hg, by rw [e7, e1, e5], ?_, fun _ => ⟨e5, by rw [e8, e2], by rw [e9, e3]⟩, (fun h => by rw [e6] at h; cases h)⟩
      rw [e10, e4]
    · rename_i hg
      split at h
      · rename_i hc
        refine key _ _ _ _ true h fun y e1 e2 e3 e4 e5 e6 e7 e8 e9 e10 => ⟨by rw [e1, e6]; exact hg, by rw [e7, e1, e5], by rw [hc, e10, e4], (fun h => by rw [e6] at h; cases h), fun _ => ?_⟩
        rw [hc]
        exact ⟨by rw [e5, e4], by rw [e8, e2], by rw [e9, e3]⟩
      · rename_i hc
        split at h
        · rename_i v s1 hr
          refine key _ _ _ _ true h fun y e1 e2 e3 e4 e5 e6 e7 e8 e9 e10 => ⟨by rw [e1, e6]; exact hg, by rw [e7, e1, e5], by rw [hc, e10, e4], (fun h => by rw [e6] at h; cases h), fun _ => ?_⟩
          rw [hc]
          exact ⟨⟨s1, by rw [e1, e2, e5]; exact hr⟩, by rw [e8, e2], by rw [e9, e3]⟩
        · cases h
      · rename_i hc
        split at h
        rename_i m S1 hm
        split at h
        · rename_i v s1 hr
          split at h
          · rename_i A2 hA
            refine key _ _ _ _ true h fun y e1 e2 e3 e4 e5 e6 e7 e8 e9 e10 => ⟨by rw [e1, e6]; exact hg, by rw [e7, e1, e5], by rw [hc, e10, e4], (fun h => by rw [e6] at h; cases h), fun _ => ?_⟩
            rw [hc]
            simp only [e1, e2, e3, e5, hm]
            exact ⟨⟨s1, hr⟩, by rw [e8], by rw [e9]; exact hA⟩
          · cases h
        · cases h
      · rename_i hc
        split at h
        · rename_i v S2 hr
          refine key _ _ _ _ true h fun y e1 e2 e3 e4 e5 e6 e7 e8 e9 e10 => ⟨by rw [e1, e6]; exact hg, by rw [e7, e1, e5], by rw [hc, e10, e4], (fun h => by rw [e6] at h; cases h), fun _ => ?_⟩
          rw [hc]
          exact ⟨by rw [e1, e2, e5, e8]; exact hr, by rw [e9, e3, e2, e8]⟩
        · cases h

end Go.AE
