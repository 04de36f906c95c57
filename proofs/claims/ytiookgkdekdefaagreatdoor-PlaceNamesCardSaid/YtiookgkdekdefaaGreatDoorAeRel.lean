/- THE EVALUATOR, a part: what an evaluator of loaded programs answers the model's machine answers. No condition. -/
import Derived.Test.YtiookgkdekdefaaGreatDoorAeDef
import Derived.AtR
namespace Go.AE

/-! ## The trie -/
namespace T
variable {α : Type}
@[simp] theorem left_nil : left (.nil : T α) = .nil := rfl
@[simp] theorem left_node (l r : T α) (v : Option α) : left (.node l v r) = l := rfl
@[simp] theorem right_nil : right (.nil : T α) = .nil := rfl
@[simp] theorem right_node (l r : T α) (v : Option α) : right (.node l v r) = r := rfl
@[simp] theorem top_nil : top (.nil : T α) = none := rfl
@[simp] theorem top_node (l r : T α) (v : Option α) : top (.node l v r) = v := rfl
@[simp] theorem getP_e (t : T α) : getP .e t = top t := rfl
@[simp] theorem getP_l (p : Pth) (t : T α) : getP (.l p) t = getP p (left t) := rfl
@[simp] theorem getP_r (p : Pth) (t : T α) : getP (.r p) t = getP p (right t) := rfl
theorem setP_e (t : T α) (v : Option α) : setP .e t v = .node (left t) v (right t) := by cases t <;> rfl
theorem setP_l (p : Pth) (t : T α) (v : Option α) : setP (.l p) t v = .node (setP p (left t) v) (top t) (right t) := by cases t <;> rfl
theorem setP_r (p : Pth) (t : T α) (v : Option α) : setP (.r p) t v = .node (left t) (top t) (setP p (right t) v) := by cases t <;> rfl

theorem getP_setP (p q : Pth) (t : T α) (v : Option α) [Decidable (p = q)] : getP q (setP p t v) = if p = q then v else getP q t := by
  induction p generalizing q t with
  | e => cases q <;> simp [setP_e]
  | l p ih =>
    cases q with
    | e => simp [setP_l]
    | r q => simp [setP_l]
    | l q =>
      haveI := Classical.propDecidable (p = q)
      simp only [setP_l, getP_l, left_node, ih]
      by_cases h : p = q <;> simp [h]
  | r p ih =>
    cases q with
    | e => simp [setP_r]
    | l q => simp [setP_r]
    | r q =>
      haveI := Classical.propDecidable (p = q)
      simp only [setP_r, getP_r, right_node, ih]
      by_cases h : p = q <;> simp [h]

/-! numbers as ways -/
theorem pathF_ge (f : Nat) : ∀ n g, n ≤ f → n ≤ g → pathF f n = pathF g n := by
  induction f with
  | zero => intro n g h _; have : n = 0 := by omega
            subst this; cases g <;> simp [pathF, cond]
  | succ f ih =>
    intro n g h h2
    cases g with
    | zero => have : n = 0 := by omega
              subst this; simp [pathF, cond]
    | succ g =>
      simp only [pathF]
      by_cases h0 : n = 0
      · subst h0; rfl
      · have e0 : Nat.beq n 0 = false := by cases n with | zero => exact absurd rfl h0 | succ n => rfl
        simp only [e0, cond_false]
        have d1 : Nat.div n 2 = n / 2 := rfl
        have d2 : ∀ m, Nat.sub m 1 = m - 1 := fun _ => rfl
        simp only [d2, d1]
        rw [ih (n / 2) g (by omega) (by omega), ih (n / 2 - 1) g (by omega) (by omega)]

def unpath : Pth → Nat
  | .e => 0
  | .l p => 2 * unpath p + 1
  | .r p => 2 * unpath p + 2
theorem unpath_pathF (f : Nat) : ∀ n, n ≤ f → unpath (pathF f n) = n := by
  induction f with
  | zero => intro n h; have : n = 0 := by omega
            subst this; rfl
  | succ f ih =>
    intro n h
    simp only [pathF]
    by_cases h0 : n = 0
    · subst h0; rfl
    · have e0 : Nat.beq n 0 = false := by cases n with | zero => exact absurd rfl h0 | succ n => rfl
      have d1 : Nat.div n 2 = n / 2 := rfl
      have d2 : ∀ m, Nat.sub m 1 = m - 1 := fun _ => rfl
      have d3 : Nat.mod n 2 = n % 2 := rfl
      simp only [e0, cond_false, d1, d2, d3]
      by_cases h1 : n % 2 = 1
      · have e1 : Nat.beq (n % 2) 1 = true := by rw [h1]; rfl
        simp only [e1, cond_true, unpath, ih (n / 2) (by omega)]; omega
      · have e1 : Nat.beq (n % 2) 1 = false := by
          have h3 : n % 2 = 0 := by omega
          rw [h3]; rfl
        simp only [e1, cond_false, unpath, ih (n / 2 - 1) (by omega)]; omega
theorem path_inj {m n : Nat} (h : path m = path n) : m = n := by
  have a := unpath_pathF m m (Nat.le_refl _); have b := unpath_pathF n n (Nat.le_refl _)
  unfold path at h; rw [h] at a; omega
theorem path_eq {m n : Nat} : path m = path n ↔ m = n := ⟨path_inj, fun h => by rw [h]⟩

theorem get_nil (n : Nat) : get (.nil : T α) n = none := rfl
theorem get_node (l r : T α) (v : Option α) (n : Nat) : get (.node l v r) n = cond (Nat.beq n 0) v (cond (Nat.beq (Nat.mod n 2) 1) (get l (Nat.div n 2)) (get r (Nat.sub (Nat.div n 2) 1))) := rfl
theorem get_nilP (p : Pth) : getP p (.nil : T α) = none := by induction p <;> simp_all
theorem get_eq (t : T α) : ∀ n f, n ≤ f → get t n = getP (pathF f n) t := by
  induction t with
  | nil => intro n f _; rw [get_nil, get_nilP]
  | node l v r ihl ihr =>
    intro n f h
    cases f with
    | zero => have : n = 0 := by omega
              subst this; rfl
    | succ f =>
      rw [get_node]
      simp only [pathF]
      by_cases h0 : n = 0
      · subst h0; rfl
      · have e0 : Nat.beq n 0 = false := by cases n with | zero => exact absurd rfl h0 | succ n => rfl
        have d1 : Nat.div n 2 = n / 2 := rfl
        have d2 : ∀ m, Nat.sub m 1 = m - 1 := fun _ => rfl
        have d3 : Nat.mod n 2 = n % 2 := rfl
        simp only [e0, cond_false, d1, d2, d3]
        cases Nat.beq (n % 2) 1
        · simp only [cond_false, getP_r, right_node]; exact ihr _ _ (by omega)
        · simp only [cond_true, getP_l, left_node]; exact ihl _ _ (by omega)
theorem setF_zero (t : T α) (n : Nat) (v : Option α) : setF 0 t n v = .node (left t) v (right t) := by cases t <;> rfl
theorem setF_succ (f : Nat) (t : T α) (n : Nat) (v : Option α) : setF (f + 1) t n v = cond (Nat.beq n 0) (.node (left t) v (right t)) (cond (Nat.beq (Nat.mod n 2) 1) (.node (setF f (left t) (Nat.div n 2) v) (top t) (right t)) (.node (left t) (top t) (setF f (right t) (Nat.sub (Nat.div n 2) 1) v))) := by
  cases t <;> rfl
theorem setF_eq (f : Nat) : ∀ (t : T α) n v, n ≤ f → setF f t n v = setP (pathF f n) t v := by
  induction f with
  | zero => intro t n v h; have : n = 0 := by omega
            subst this; rw [setF_zero]; simp [pathF, setP_e]
  | succ f ih =>
    intro t n v h
    rw [setF_succ]; simp only [pathF]
    by_cases h0 : n = 0
    · subst h0; simp [setP_e]
    · have e0 : Nat.beq n 0 = false := by cases n with | zero => exact absurd rfl h0 | succ n => rfl
      have d1 : Nat.div n 2 = n / 2 := rfl
      have d2 : ∀ m, Nat.sub m 1 = m - 1 := fun _ => rfl
      have d3 : Nat.mod n 2 = n % 2 := rfl
      simp only [e0, cond_false, d1, d2, d3]
      cases Nat.beq (n % 2) 1
      · simp only [cond_false, setP_r]; rw [ih _ _ _ (by omega)]
      · simp only [cond_true, setP_l]; rw [ih _ _ _ (by omega)]
theorem get_path (t : T α) (n : Nat) : get t n = getP (path n) t := get_eq t n n (Nat.le_refl _)
theorem set_path (t : T α) (n : Nat) (v : α) : set t n v = setP (path n) t (some v) := setF_eq n t n _ (Nat.le_refl _)
theorem del_path (t : T α) (n : Nat) : del t n = setP (path n) t none := setF_eq n t n _ (Nat.le_refl _)
theorem get_set (t : T α) (n m : Nat) (v : α) : get (set t n v) m = if n = m then some v else get t m := by
  haveI := Classical.propDecidable (path n = path m)
  rw [get_path, set_path, getP_setP, get_path]
  by_cases h : n = m <;> simp [h, path_eq]
theorem get_del (t : T α) (n m : Nat) : get (del t n) m = if n = m then none else get t m := by
  haveI := Classical.propDecidable (path n = path m)
  rw [get_path, del_path, getP_setP, get_path]
  by_cases h : n = m <;> simp [h, path_eq]
theorem getP_setPath (t : T α) (n m : Nat) (v : Option α) : getP (path m) (setP (path n) t v) = if n = m then v else getP (path m) t := by
  haveI := Classical.propDecidable (path n = path m)
  rw [getP_setP]
  by_cases h : n = m <;> simp [h, path_eq]
end T

theorem nth_eq {α : Type} (l : List α) : ∀ n, nth l n = l[n]? := by
  induction l with
  | nil => intro n; rfl
  | cons a l ih =>
    intro n
    cases n with
    | zero => rfl
    | succ n => show nth l n = _; rw [ih]; simp

theorem cond_eq {α : Type} (b : Bool) (x y : α) : cond b x y = if b = true then x else y := by cases b <;> rfl

/-! ## The relation -/
structure Wd where
  blk : Nat
  off : Nat
  cap : Nat
  esz : Nat
abbrev Mu := Nat → Option Wd

def notYield : Fn → Prop
  | .yield _ => False
  | _ => True

mutual
inductive VR (μ : Mu) : Value → Value → Prop
  | bool (b : Bool) : VR μ (.bool b) (.bool b)
  | int (k : IntKind) (n : Int) : VR μ (.int k n) (.int k n)
  | float (k : FloatKind) (b : Nat) : VR μ (.float k b) (.float k b)
  | complex (k : FloatKind) (a b : Nat) : VR μ (.complex k a b) (.complex k a b)
  | string (s : ByteArray) : VR μ (.string s) (.string s)
  | pnil : VR μ (.pointer none) (.pointer none)
  | ptr {b o : Nat} {d : Wd} : μ b = some d → VR μ (.pointer (some ⟨b, o, none⟩)) (.pointer (some ⟨d.blk, d.off + o, none⟩))
  | snil : VR μ (.slice none 0 0) (.slice none 0 0)
  | slice {b o n c m : Nat} {d : Wd} : μ b = some d → n ≤ c → c ≤ m → o + m * d.esz ≤ d.cap → VR μ (.slice (some ⟨b, o, none⟩) n c) (.slice (some ⟨d.blk, d.off + o, none⟩) n m)
  | sempty {b o : Nat} {a : Addr} {d : Wd} : μ b = some d → VR μ (.slice (some ⟨b, o, none⟩) 0 0) (.slice (some a) 0 0)
  | mnil : VR μ (.map none) (.map none)
  | map {r : Nat} {d : Wd} : μ r = some d → VR μ (.map (some r)) (.map (some d.blk))
  | cnil : VR μ (.chan none) (.chan none)
  | nilFunc : VR μ .nilFunc .nilFunc
  | nilIface : VR μ .nilIface .nilIface
  | iface (t : TypeId) {v v' : Value} : VR μ v v' → VR μ (.iface t v) (.iface t v')
  | func {fn : Fn} {a a' c c' : List Value} : notYield fn → VRs μ a a' → VRs μ c c' → VR μ (.func fn ⟨a⟩ ⟨c⟩) (.func fn ⟨a'⟩ ⟨c'⟩)
  | yield {l : Nat} {d : Wd} : μ l = some d → VR μ (.func (.yield l) #[] #[]) (.func (.yield d.blk) #[] #[])
  | agg {a a' : List Value} : VRs μ a a' → VR μ (.agg ⟨a⟩) (.agg ⟨a'⟩)
  | tuple {a a' : List Value} : VRs μ a a' → VR μ (.tuple ⟨a⟩) (.tuple ⟨a'⟩)
inductive VRs (μ : Mu) : List Value → List Value → Prop
  | nil : VRs μ [] []
  | cons {v v' : Value} {l l' : List Value} : VR μ v v' → VRs μ l l' → VRs μ (v :: l) (v' :: l')
end

def Sub (μ ν : Mu) : Prop := ∀ id d, μ id = some d → ν id = some d
theorem Sub.refl (μ : Mu) : Sub μ μ := fun _ _ h => h
theorem Sub.trans {μ ν ρ : Mu} (h : Sub μ ν) (k : Sub ν ρ) : Sub μ ρ := fun i d e => k i d (h i d e)

mutual
theorem VR.mono {μ ν : Mu} (h : Sub μ ν) : ∀ {v v' : Value}, VR μ v v' → VR ν v v'
  | _, _, .bool b => .bool b
  | _, _, .int k n => .int k n
  | _, _, .float k b => .float k b
  | _, _, .complex k a b => .complex k a b
  | _, _, .string s => .string s
  | _, _, .pnil => .pnil
  | _, _, .ptr e => .ptr (h _ _ e)
  | _, _, .snil => .snil
  | _, _, .slice e a b c => .slice (h _ _ e) a b c
  | _, _, .sempty e => .sempty (h _ _ e)
  | _, _, .mnil => .mnil
  | _, _, .map e => .map (h _ _ e)
  | _, _, .cnil => .cnil
  | _, _, .nilFunc => .nilFunc
  | _, _, .nilIface => .nilIface
  | _, _, .iface t e => .iface t (e.mono h)
  | _, _, .func n a c => .func n (a.mono h) (c.mono h)
  | _, _, .yield e => .yield (h _ _ e)
  | _, _, .agg a => .agg (a.mono h)
  | _, _, .tuple a => .tuple (a.mono h)
theorem VRs.mono {μ ν : Mu} (h : Sub μ ν) : ∀ {l l' : List Value}, VRs μ l l' → VRs ν l l'
  | _, _, .nil => .nil
  | _, _, .cons e r => .cons (e.mono h) (r.mono h)
end

theorem VR.of_flat (μ : Mu) {v : Value} (h : flat v = true) : VR μ v v := by
  unfold flat at h
  split at h <;> first | constructor | cases h
theorem VR.eq_flat {μ : Mu} {v v' : Value} (h : flat v = true) (r : VR μ v v') : v' = v := by
  cases r <;> simp_all [flat]
theorem VRs.eq_flat {μ : Mu} : ∀ {l l' : List Value}, l.all flat = true → VRs μ l l' → l' = l
  | _, _, _, .nil => rfl
  | _, _, h, .cons e r => by
    simp only [List.all_cons, Bool.and_eq_true] at h
    rw [VR.eq_flat h.1 e, VRs.eq_flat h.2 r]
theorem VRs.of_flat (μ : Mu) : ∀ {l : List Value}, l.all flat = true → VRs μ l l
  | [], _ => .nil
  | v :: l, h => by
    simp only [List.all_cons, Bool.and_eq_true] at h
    exact .cons (VR.of_flat μ h.1) (VRs.of_flat μ h.2)
theorem VR.of_flat1 (μ : Mu) {v : Value} (h : flat1 v = true) : VR μ v v := by
  unfold flat1 at h
  split at h
  · rename_i cs; obtain ⟨l⟩ := cs; exact .agg (VRs.of_flat μ h)
  · rename_i cs; obtain ⟨l⟩ := cs; exact .tuple (VRs.of_flat μ h)
  · exact .iface _ (VR.of_flat μ h)
  · exact VR.of_flat μ h

theorem VRs.length {μ : Mu} : ∀ {l l' : List Value}, VRs μ l l' → l'.length = l.length
  | _, _, .nil => rfl
  | _, _, .cons _ r => by simp [VRs.length r]
theorem VRs.append {μ : Mu} : ∀ {a a' b b' : List Value}, VRs μ a a' → VRs μ b b' → VRs μ (a ++ b) (a' ++ b')
  | _, _, _, _, .nil, k => k
  | _, _, _, _, .cons e r, k => .cons e (r.append k)
theorem VRs.nth {μ : Mu} : ∀ {l l' : List Value} {n : Nat} {v : Value}, VRs μ l l' → l[n]? = some v → ∃ v', l'[n]? = some v' ∧ VR μ v v'
  | _, _, 0, _, .cons e _, h => by simp only [List.getElem?_cons_zero, Option.some.injEq] at h; subst h; exact ⟨_, rfl, e⟩
  | _, _, n + 1, _, .cons _ r, h => by simp only [List.getElem?_cons_succ] at h ⊢; exact VRs.nth r h
theorem VRs.drop {μ : Mu} : ∀ {l l' : List Value} (n : Nat), VRs μ l l' → VRs μ (l.drop n) (l'.drop n)
  | _, _, 0, h => by simpa using h
  | _, _, _ + 1, .nil => by simpa using VRs.nil
  | _, _, n + 1, .cons _ r => by simpa using VRs.drop n r
theorem VRs.take {μ : Mu} : ∀ {l l' : List Value} (n : Nat), VRs μ l l' → VRs μ (l.take n) (l'.take n)
  | _, _, 0, _ => by simpa using VRs.nil
  | _, _, _ + 1, .nil => by simpa using VRs.nil
  | _, _, n + 1, .cons e r => by simpa using VRs.cons e (VRs.take n r)
theorem VRs.setSeg {μ : Mu} : ∀ {l l' : List Value} (n : Nat) {x x' : List Value}, VRs μ l l' → VRs μ x x' → VRs μ (setSeg l n x) (setSeg l' n x')
  | _, _, _, _, _, .nil, _ => by simpa [AE.setSeg] using VRs.nil
  | _, _, n + 1, _, _, .cons e r, k => by simp only [AE.setSeg]; exact .cons e (VRs.setSeg n r k)
  | _, _, 0, _, _, .cons e r, .nil => by simp only [AE.setSeg]; exact .cons e r
  | _, _, 0, _, _, .cons _ r, .cons f k => by simp only [AE.setSeg]; exact .cons f (VRs.setSeg 0 r k)
theorem VRs.seg {μ : Mu} {l l' r : List Value} {o n : Nat} (h : VRs μ l l') (e : seg l o n = some r) : VRs μ r ((l'.drop o).take n) ∧ r = (l.drop o).take n ∧ r.length = n := by
  unfold AE.seg at e
  simp only [cond_eq] at e
  split at e
  · simp only [Option.some.injEq] at e; rename_i hl; subst e; exact ⟨VRs.take n (VRs.drop o h), rfl, Nat.eq_of_beq_eq_true hl⟩
  · cases e

theorem setSeg_length : ∀ (l : List Value) (n : Nat) (x : List Value), (setSeg l n x).length = l.length
  | [], _, _ => rfl
  | _ :: l, n + 1, x => by simp [setSeg, setSeg_length l n x]
  | _ :: l, 0, [] => rfl
  | _ :: l, 0, _ :: x => by simp [setSeg, setSeg_length l 0 x]

theorem one_of {μ : Mu} {v v' : Value} (h : VR μ v v') (o : one v = true) : one v' = true := by
  cases h <;> simp_all [one]
theorem VRs.one {μ : Mu} : ∀ {l l' : List Value}, VRs μ l l' → l.all one = true → l'.all one = true
  | _, _, .nil, _ => rfl
  | _, _, .cons e r, h => by
    simp only [List.all_cons, Bool.and_eq_true] at h ⊢
    exact ⟨one_of e h.1, r.one h.2⟩
theorem VR.cells {μ : Mu} {v v' : Value} (h : VR μ v v') : VRs μ v.cells.toList v'.cells.toList := by
  cases h <;> simp only [Value.cells] <;> first | assumption | exact .cons (by constructor <;> assumption) .nil

/-! ### The operand, the environment -/
def ER (μ : Mu) (E : T Value) (tmps : Array Value) : Prop := ∀ t v, T.getP (path t) E = some v → ∃ v', tmps[t]? = some v' ∧ VR μ v v'
theorem ER.mono {μ ν : Mu} {E : T Value} {tmps : Array Value} (h : ER μ E tmps) (s : Sub μ ν) : ER ν E tmps := fun t v e => let ⟨v', a, b⟩ := h t v e; ⟨v', a, b.mono s⟩
theorem ER.set {μ : Mu} {E : T Value} {tmps : Array Value} (h : ER μ E tmps) {d : Nat} {v v' : Value} (hd : d < tmps.size) (r : VR μ v v') : ER μ (T.setP (path d) E (some v)) (tmps.setIfInBounds d v') := by
  intro t u e
  rw [T.getP_setPath] at e
  by_cases hdt : d = t
  · subst hdt
    simp only [if_true, Option.some.injEq] at e
    subst e
    exact ⟨v', by simp [hd], r⟩
  · rw [if_neg hdt] at e
    obtain ⟨u', a, b⟩ := h t u e
    refine ⟨u', ?_, b⟩
    rw [Array.getElem?_setIfInBounds_ne hdt]; exact a

end Go.AE
