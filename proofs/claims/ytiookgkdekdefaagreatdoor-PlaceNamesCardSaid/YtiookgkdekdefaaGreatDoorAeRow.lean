/- FROM THE EVALUATOR TO A ROW, for whatever program: a function that the evaluator answers is called and returns, and leaves old memory alone. No condition. -/
import Derived.Test.YtiookgkdekdefaaGreatDoorAeAs
import Derived.Handed
import Derived.RowKit
import Derived.Lib.LaidTab
namespace Go.AE

/-- The call answers yes, and writes nothing that was there before. -/
noncomputable def yes (base : Nat) (t : Tr (Value × S)) : Bool := t.all fun x => (match x.1 with | .bool true => true | _ => false) && x.2.log.all fun i => Nat.ble base i

theorem yes_calls {P : Program} {O : Oracle} (hO : OracleOK P O) {n : Nat} {f : FuncId} {args args' : List Value} {s : S} {μ : Mu} {w : World} (hH : HR μ s w) (hg : GlobOK P μ) (ra : VRs μ args args') (hl : s.log = [])
    (h : yes s.next ((eval P O n).call f args s) = true) :
    Calls P f ⟨args'⟩ w fun e w' => e = .returned (.bool true) ∧ w'.os = w.os ∧ w'.output = w.output ∧ w'.tape = w.tape ∧ w.heap.size ≤ w'.heap.size ∧ ∀ b, b < w.heap.size → w'.heap[b]? = w.heap[b]? := by
  obtain ⟨v, s', v', μ', w', δ, q, c, rv, _, x⟩ := (eval_sound hO n).call f args s _ (all_wp h) μ w args' hH hg ra
  simp only [Bool.and_eq_true] at q
  have hv : v = .bool true := by
    revert q; cases v <;> simp
    rename_i b; cases b <;> simp
  subst hv
  cases rv
  have hδ : s'.log = δ := by rw [x.log, hl, List.append_nil]
  refine CallsTo.calls c ⟨rfl, x.os, x.output, x.tape, x.size, fun b hb => x.frame b hb fun id hid d hd => ?_⟩
  have h1 := List.all_eq_true.1 q.2 id (by rw [hδ]; exact hid)
  have h2 := Nat.le_of_ble_eq_true h1
  have h3 := (hH.dom id d hd).1
  omega

/-! ## The start: some variables of the program's are known -/
/-- The known variables: number, cells. -/
noncomputable def start : List (Nat × List Value) → T AO
  | [] => .nil
  | x :: l => (start l).set x.1 (.cells x.2 0 true)
noncomputable def startS (base : Nat) (l : List (Nat × List Value)) : S := ⟨start l, base, []⟩
def capOf (l : List (Nat × List Value)) (g : Nat) : Nat := match l.find? (fun x => Nat.beq x.1 g) with | some x => x.2.length | none => 0
def startMu (P : Program) (l : List (Nat × List Value)) : Mu := fun g => if g ≤ P.globals.size then some ⟨g, 0, capOf l g, 0⟩ else none

theorem start_get (l : List (Nat × List Value)) (id : Nat) (o : AO) (h : (start l).get id = some o) : ∃ x, l.find? (fun x => Nat.beq x.1 id) = some x ∧ x.1 = id ∧ o = .cells x.2 0 true := by
  induction l with
  | nil => simp only [start] at h; rw [T.get_nil] at h; cases h
  | cons x l ih =>
    simp only [start] at h
    rw [T.get_set] at h
    by_cases hx : x.1 = id
    · rw [if_pos hx] at h
      cases h
      exact ⟨x, by simp [hx], hx, rfl⟩
    · rw [if_neg hx] at h
      obtain ⟨y, h1, h2, h3⟩ := ih h
      refine ⟨y, ?_, h2, h3⟩
      have hb : Nat.beq x.1 id = false := by
        cases hb : Nat.beq x.1 id with
        | false => rfl
        | true => exact absurd (Nat.eq_of_beq_eq_true hb) hx
      simp [hb, h1]

theorem start_HR {P : Program} {W : World} {l : List (Nat × List Value)} {base : Nat} (hb : P.globals.size < base) (hsz : P.globals.size < W.heap.size) (hlt : ∀ x ∈ l, x.1 ≤ P.globals.size)
    (hl : ∀ x ∈ l, ∃ (mid : List Value) (el : TypeId) (fr : Nat × Nat), W.heap[x.1]? = some (.cells ⟨mid⟩ el fr) ∧ VRs (startMu P l) x.2 mid) :
    HR (startMu P l) (startS base l) W ∧ GlobOK P (startMu P l) := by
  refine ⟨⟨fun id o d e m => ?_, fun id o e => ?_, fun i j oi oj di dj hij ei ej mi mj _ => ?_, fun id d m => ?_⟩, fun g hg => ⟨⟨g, 0, capOf l g, 0⟩, by simp [startMu, hg], rfl, rfl⟩⟩
  · obtain ⟨x, h1, h2, rfl⟩ := start_get l id o e
    have hx := List.mem_of_find?_eq_some h1
    obtain ⟨mid, el, fr, h3, h4⟩ := hl x hx
    have hle := hlt x hx
    subst h2
    simp only [startMu, if_pos hle, Option.some.injEq] at m
    subst m
    have hcap : capOf l x.1 = x.2.length := by simp only [capOf, h1]
    have hlen := h4.length
    exact ⟨rfl, [], mid, [], el, fr, by simpa using h3, rfl, h4, by simp only [hcap, List.length_nil]; omega, by simp only [hcap]; omega, fun h => by cases h⟩
  · obtain ⟨x, h1, h2, rfl⟩ := start_get l id o e
    have := hlt x (List.mem_of_find?_eq_some h1)
    simp only [startS]; omega
  · obtain ⟨_, _, _, rfl⟩ := start_get l i oi ei
    obtain ⟨_, _, _, rfl⟩ := start_get l j oj ej
    exact ⟨rfl, rfl⟩
  · unfold startMu at m
    split at m
    · cases m; simp only [startS]; exact ⟨by omega, by omega⟩
    · cases m

/-! ## What a listed variable reads as -/
def Reads (P : Program) (w : World) (n : String) (d : DataW Unit) : Prop :=
  ∃ g t cs fuel p, P.globalNamed n = some g ∧ (P.globals[g]?).map (·.type) = some t ∧ w.var? P n = some cs ∧ DataW.trod (fun _ => ()) P w 0 (fun _ => true) false fuel t cs.toList = some (d, p)
theorem laidVars_reads {P : Program} {w : World} : ∀ {l : List (String × DataW Unit)} {ps : List MemPlace}, DataW.LaidVars P w l ps → ∀ n d, (n, d) ∈ l → Reads P w n d
  | [], _, _, _, _, hm => by cases hm
  | (n', d') :: r, ps, h, n, d, hm => by
    obtain ⟨g, t, cs, fuel, p, q, h1, h2, h3, h4, h5, _⟩ := h
    rcases List.mem_cons.1 hm with e | e
    · cases e; exact ⟨g, t, cs, fuel, p, h1, h2, h3, h4⟩
    · exact laidVars_reads h5 n d e
theorem laid_reads {P : Program} {w : World} {l : List (String × DataW Unit)} (h : laidMet P l w) {n : String} {d : DataW Unit} (hm : (n, d) ∈ l) : Reads P w n d :=
  let ⟨_, hv, _⟩ := h
  laidVars_reads hv n d hm

theorem var_block {P : Program} {w : World} {n : String} {g : Nat} {cs : Array Value} (hg : P.globalNamed n = some g) (h : w.var? P n = some cs) : ∃ el fr, w.heap[g]? = some (.cells cs el fr) := by
  unfold World.var? at h
  rw [hg] at h
  simp only [Option.bind_some] at h
  split at h
  · rename_i c el fr hh; cases h; exact ⟨el, fr, hh⟩
  · cases h

/-- A table of integers: its block. -/
theorem tab_block {P : Program} {w : World} {n : String} {k : IntKind} {zs : List Int} {g : Nat} {t e : TypeId} {m : Nat} (h : Reads P w n (Lib.tabData k zs))
    (hg : P.globalNamed n = some g) (hty : (P.globals[g]?).map (·.type) = some t) (ht : P.underlying t = some (.array m e)) (he : P.underlying e = some (.int k)) (hce : P.cellsOf e = 1) (hct : P.cellsOf t = m) :
    ∃ el fr, w.heap[g]? = some (.cells ⟨zs.map fun z => Value.int k z⟩ el fr) := by
  obtain ⟨g', t', cs, fuel, p, hg', ht', hv, hd⟩ := h
  obtain rfl := Option.some.inj (hg.symm.trans hg')
  obtain rfl := Option.some.inj (hty.symm.trans ht')
  have hc := Lib.cells_of_tab ht he hce hct hd
  obtain ⟨el, fr, hb⟩ := var_block hg hv
  refine ⟨el, fr, ?_⟩
  rw [hb, ← hc]

/-! ## The row's frame, with the world's shape told -/
theorem returnsInHanded_of_change_open {H : Type} {enc : TypeId × Value → H} {a : Assume} {C : Checked} {os : Os} {f : FuncId} {fn : Func} {s : ChangeSpec} {conds : List PathCond} {apart fresh handsOn again : Bool} {X : World → Array Value → Prop}
    (hX : ∀ (w w' : World) (args : Array Value), w.heap = w'.heap → X w args → X w' args)
    (own : ownKnob C.prog.godebug = none) (started : os.Started) (noInit : C.prog.inits.idxOf? f = none) (hfn : C.prog.funcs[f]? = some fn)
    (witness : ∃ (w : World) (tape : Tape) (i : Input), w.os = os ∧ (w.forCall tape i).Shaped C.prog ∧ i.vars = [] ∧ Input.okWide C.prog (w.forCall tape i) .any w.heap.size f i ∧
      ((s.pre enc C.prog fn conds apart (w.forCall tape i).memory i.args ∧ X (w.forCall tape i).memory i.args) ∧ sizedMet enc C.prog fn (OpenSpec.ofChange s) apart (w.forCall tape i).memory i.args) ∧ a.holds C.prog (lone (Frame.enter C.prog f i.args .normal) [] (w.forCall tape i)))
    (contract : ∀ (W : World) (base : Nat) (args : Array Value) (ds gs : List (DataW H)) (before : List MemPlace), W.ShapedOpen C.prog →
      (∀ (j : Nat) t v, fn.params[j]? = some t → args[j]? = some v → Value.okWide C.prog W .any base t v) →
      DataW.Whole enc C.prog fn.params.toList s.vars apart W args.toList ds gs before →
      conds.all (PathCond.test C.prog ⟨fn.params.toList, ds, s.plain.varTypes C.prog, gs⟩) = true →
      (DataW.weightsEach C.prog (fn.params.toList ++ s.plain.varTypes C.prog) (ds ++ gs)).all (· ≤ reachBytes) = true → X W args →
      a.holds C.prog (lone (Frame.enter C.prog f args .normal) [] W) →
      Calls C.prog f args W fun e W' => ∃ v, e = .returned v ∧ s.post enc C.prog fn apart fresh handsOn again W args v W') :
    ReturnsInHanded a C os f .any (fun w args => (s.pre enc C.prog fn conds apart w args ∧ X w args) ∧ sizedMet enc C.prog fn (OpenSpec.ofChange s) apart w args) (s.post enc C.prog fn apart fresh handsOn again) := by
  refine returnsInHanded_of_calls own started noInit witness ?_
  intro w tape i _ hshape _ hok hpre hholds
  obtain ⟨_, _, _, fn', hfn', _, _, _, _, hval⟩ := hok
  have e : fn' = fn := Option.some.inj (hfn'.symm.trans hfn)
  subst e
  obtain ⟨⟨⟨ds, gs, before, hw, hc⟩, hx⟩, hz⟩ := hpre
  have hw' := DataW.Whole.of_heap (w' := w.forCall tape i) (by rfl) hw
  refine (contract (w.forCall tape i) w.heap.size i.args ds gs before hshape hval hw' hc (hz.weights hw) (hX _ _ _ (by rfl) hx) hholds).mono fun e W' ⟨v, he, hp⟩ => ?_
  subst he
  exact ChangeSpec.post_blind hp

/-- The heap holds at least what every start lays. -/
theorem shaped_size {P : Program} {W : World} (h : W.ShapedOpen P) {k : Nat} (h1 : P.globals.size ≤ k) (h2 : k < (begin P (fun _ _ => 0) default).world.heap.size) : k < W.heap.size := by
  obtain ⟨o, _, ho, _⟩ := h.2 k h1 h2
  rcases Nat.lt_or_ge k W.heap.size with h | h
  · exact h
  · rw [Array.getElem?_eq_none h] at ho; cases ho

theorem kept_of_frame {w w' : World} {may : MemPlace → Prop} (h1 : w'.os = w.os) (h2 : w'.output = w.output) (h3 : ∀ b, b < w.heap.size → w'.heap[b]? = w.heap[b]?) : w.keptBut w' may := by
  refine ⟨h1, h2, fun i hi => ?_⟩
  rw [h3 i hi]
  split
  · rename_i e1 e2
    rw [e1] at e2; cases e2; exact ⟨rfl, rfl, rfl, fun _ _ => rfl⟩
  · rename_i e1 e2
    rw [e1] at e2; cases e2; exact .inr ⟨rfl, rfl⟩
  · rfl
end Go.AE
