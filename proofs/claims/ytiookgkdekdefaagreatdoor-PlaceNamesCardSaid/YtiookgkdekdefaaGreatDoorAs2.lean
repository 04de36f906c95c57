/- errors.As over this program: at nil, at a *check.wrong, through its Unwrap: what the model's run of it comes to (after the worked proof ToyasAs). Conditions: errors.errorType holds what the program's text lays; the target's cell may be written. -/
import Derived.Test.YtiookgkdekdefaaGreatDoorAs1
namespace Go.Proofs.YtiookgkdekdefaaGreatDoor
open Go.RowKit Go.Extern.Stop Go.Stop Go.Extern
/-! ### CLOSED FACTS ON THE MODEL's ENTRIES FOR internal/reflectlite, at this program's types: 25: *p.E · 27: **p.E · 23: error · 45: reflectlite's rtype · 1: how many package-level variables the dump has -/
theorem Wr.valueOf27 (t : Addr) (w : World) : (ReflectliteValue.unpack (.iface 78 (.pointer (some t)))).run Tryz.prog w
    = .ok (.agg #[.pointer (some ⟨13, 78, none⟩), .pointer (some ⟨w.heap.size, 0, none⟩), .int .u64 150]) (w.alloc (.cells #[.pointer (some t)] 78)) := by kernel_rfl
theorem Wr.type27 (a : Addr) (w : World) : (ReflectliteValue.methodAny (ReflectliteValue.valueError "reflectlite.Value.Type" 0) (fun t _ _ _ => ReflectliteType.toType t) #[.agg #[.pointer (some ⟨13, 78, none⟩), .pointer (some a), .int .u64 150]]).run Tryz.prog w
    = .ok (.iface 205 (.agg #[.pointer (some ⟨13, 78, none⟩)])) w := by kernel_rfl

theorem Wr.kind27 (w : World) : ((ReflectliteType.abiMethod fun t => (fun a : Nat => Value.int IntKind.u8 (a : Int)) <$> Rtype.kind t) #[.pointer (some ⟨13, 78, none⟩)]).run Tryz.prog w = .ok (.int .u8 22) w := by kernel_rfl
theorem Wr.kind25 (w : World) : ((ReflectliteType.abiMethod fun t => (fun a : Nat => Value.int IntKind.u8 (a : Int)) <$> Rtype.kind t) #[.pointer (some ⟨13, 39, none⟩)]).run Tryz.prog w = .ok (.int .u8 2) w := by kernel_rfl

/-! ### THE ENTRIES THAT READ OR WRITE MEMORY: laws with a premise on the cell (after Derived/Lib/ReflectliteSlice.lean's manner: each unfolding a lemma of its own, by rfl) -/

theorem Wr.parts27 (a : Addr) (w : World) : (ReflectliteValue.parts (.agg #[.pointer (some ⟨13, 78, none⟩), .pointer (some a), .int .u64 150])).run Tryz.prog w = .ok (some (78, a, 150)) w := by kernel_rfl
/-- (Value).IsNil at the Value of a **p.E that is not nil. -/
theorem Wr.isNil27 (a p : Addr) (W : World) (ha : W.cell? a = some (.pointer (some p))) :
    (ReflectliteValue.method (ReflectliteValue.valueError "reflectlite.Value.IsNil" 0) ReflectliteValue.isNil #[.agg #[.pointer (some ⟨13, 78, none⟩), .pointer (some a), .int .u64 150]]).run Tryz.prog W = .ok (.bool false) W := by
  rw [rlm]
  simp only [Sem.run_bind, Wr.parts27, Result.andThen]
  simp [ReflectliteValue.isNil, loadVar, isAgg, underlying, Tryz.underlying78, ha, Result.andThen]




theorem Wr.elem27 (w : World) : (ReflectliteType.method ReflectliteType.elem #[.agg #[.pointer (some ⟨13, 78, none⟩)]]).run Tryz.prog w = .ok (.iface 205 (.agg #[.pointer (some ⟨13, 39, none⟩)])) w := by kernel_rfl
theorem Wr.implements25 (w : World) : (ReflectliteType.relation "Implements" ReflectliteType.implements_ #[.agg #[.pointer (some ⟨13, 39, none⟩)], .iface 205 (.agg #[.pointer (some ⟨13, 71, none⟩)])]).run Tryz.prog w = .ok (.bool true) w := by kernel_rfl
theorem Wr.typeOf25 (v : Value) (w : World) : (ReflectliteType.typeOf #[.iface 39 v]).run Tryz.prog w = .ok (.iface 205 (.agg #[.pointer (some ⟨13, 39, none⟩)])) w := by kernel_rfl
theorem Wr.assignable25 (w : World) : (ReflectliteType.relation "AssignableTo" ReflectliteType.assignableTo #[.agg #[.pointer (some ⟨13, 39, none⟩)], .iface 205 (.agg #[.pointer (some ⟨13, 39, none⟩)])]).run Tryz.prog w = .ok (.bool true) w := by kernel_rfl
theorem Wr.valueOf25 (n : Int) (w : World) : (ReflectliteValue.unpack (.iface 39 (.int .i64 n))).run Tryz.prog w
    = .ok (.agg #[.pointer (some ⟨13, 39, none⟩), .pointer (some ⟨w.heap.size, 0, none⟩), .int .u64 130]) (w.alloc (.cells #[.int .i64 n] 39)) := by kernel_rfl

theorem Wr.elemOf27 (w : World) : (Rtype.elem? 78).run Tryz.prog w = .ok (some 39) w := by kernel_rfl
theorem Wr.mk25 (p : Addr) (w : World) : (ReflectliteValue.mk 39 p ReflectliteValue.flagAddr).run Tryz.prog w = .ok (.agg #[.pointer (some ⟨13, 39, none⟩), .pointer (some p), .int .u64 386]) w := by kernel_rfl
/-- (Value).Elem at the Value of a **p.E that is not nil: the Value of the *p.E variable that it points to, addressable. -/
theorem Wr.elemV27 (a p : Addr) (W : World) (ha : W.cell? a = some (.pointer (some p))) :
    (ReflectliteValue.method (ReflectliteValue.valueError "reflectlite.Value.Elem" 0) ReflectliteValue.elem #[.agg #[.pointer (some ⟨13, 78, none⟩), .pointer (some a), .int .u64 150]]).run Tryz.prog W
      = .ok (.agg #[.pointer (some ⟨13, 39, none⟩), .pointer (some p), .int .u64 386]) W := by
  rw [rlm]
  simp only [Sem.run_bind, Wr.parts27, Result.andThen]
  simp [ReflectliteValue.elem, loadVar, isAgg, underlying, Tryz.underlying78, ha, Result.andThen, Wr.elemOf27, Wr.mk25]

theorem Wr.parts25a (a : Addr) (w : World) : (ReflectliteValue.parts (.agg #[.pointer (some ⟨13, 39, none⟩), .pointer (some a), .int .u64 386])).run Tryz.prog w = .ok (some (39, a, 386)) w := by kernel_rfl
theorem Wr.parts25 (a : Addr) (w : World) : (ReflectliteValue.parts (.agg #[.pointer (some ⟨13, 39, none⟩), .pointer (some a), .int .u64 130])).run Tryz.prog w = .ok (some (39, a, 130)) w := by kernel_rfl
theorem Wr.direct25 (w : World) : (Rtype.directlyAssignable 39 39).run Tryz.prog w = .ok true w := by kernel_rfl
theorem Wr.size25 (w : World) : (sizeOf 39).run Tryz.prog w = .ok 1 w := by kernel_rfl
/-- (Value).Set: the *p.E variable at 'ta' gets what the Value's own variable 'b' holds. -/
theorem Wr.set25 (ta b : Addr) (n : Int) (old : Value) (W : World) (hb : W.cell? b = some (.int .i64 n)) (ht : W.cell? ta = some old) (hf : W.frozen? ta = false) :
    (ReflectliteValue.set #[.agg #[.pointer (some ⟨13, 39, none⟩), .pointer (some ta), .int .u64 386], .agg #[.pointer (some ⟨13, 39, none⟩), .pointer (some b), .int .u64 130]]).run Tryz.prog W
      = .ok (.tuple #[]) (W.setCell ta (.int .i64 n)) := by
  rw [rls]
  simp only [Sem.run_bind, Wr.parts25a, Wr.parts25, Result.andThen]
  simp [ReflectliteValue.flagAddr, loadVar, isAgg, underlying, Tryz.underlying39, hb, Result.andThen, Wr.direct25, storeVar, Value.cells, storeCells, Addr.add]
  rw [run_store Tryz.prog W ta _ _ (by rfl)]
  simp [ht, hf]

theorem Wr.notYet (w : World) : (ReflectliteType.relation "AssignableTo" ReflectliteType.assignableTo #[.agg #[.pointer (some ⟨13, 75, none⟩)], .iface 205 (.agg #[.pointer (some ⟨13, 39, none⟩)])]).run Tryz.prog w = .ok (.bool false) w := by kernel_rfl
theorem Wr.methodUnwrap (v : Value) (w : World) : (Go.method 474 75 v "Unwrap").run Tryz.prog w = .ok (215, v) w := by kernel_rfl
/-- (*check.wrong).Unwrap. -/
theorem unwrap_ok (e : Addr) (v : Value) (w : World) (h : w.cell? ⟨e.block, e.off + 2, none⟩ = some v) :
    Calls Tryz.prog 215 #[.pointer (some e)] w fun ev w' => ev = .returned v ∧ w' = w := by
  go_enter Tryz.func215, Tryz.ntmps215
  go_wp2
  go_ret
  exact ⟨rfl, rfl⟩
theorem Wr.noAs (v : Value) (xT : TypeId) (w : World) : (Instr.typeAssert (.iface 75 v) xT 210 true).run Tryz.prog w = .ok (.tuple #[.nilIface, .bool false]) w := run_typeAssert_lacksB Tryz.underlying210 (by kernel_rfl) (by kernel_rfl) v xT w
theorem Wr.hasUnwrap (v : Value) (xT : TypeId) (w : World) : (Instr.typeAssert (.iface 75 v) xT 213 true).run Tryz.prog w = .ok (.tuple #[.iface 75 v, .bool true]) w := run_typeAssert_hasB Tryz.underlying213 (by kernel_rfl) v xT w
set_option maxRecDepth 100000 in
set_option maxHeartbeats 4000000 in
theorem as_wrap (e t : Addr) (n : Int) (old : Value) (w : World) (he : w.cell? ⟨e.block, e.off + 2, none⟩ = some (.iface 39 (.int .i64 n))) (hg : w.cell? ⟨0, 0, none⟩ = some (.iface 205 (.agg #[.pointer (some ⟨13, 71, none⟩)]))) (ht0 : w.cell? t = some old) (hf0 : w.frozen? t = false) :
    Calls Tryz.prog 29 #[.iface 75 (.pointer (some e)), .iface 78 (.pointer (some t))] w fun ev w' => ev = .returned (.bool true) ∧ w' = ((((w.alloc (.cells #[.pointer (some t)] 78)).alloc (.cells #[.pointer (some ⟨13, 78, none⟩), .pointer (some ⟨w.heap.size, 0, none⟩), .int .u64 150] 166)).alloc (.cells #[.pointer (some ⟨13, 78, none⟩), .pointer (some ⟨w.heap.size, 0, none⟩), .int .u64 150] 166)).alloc (.cells #[.int .i64 n] 39)).setCell t (.int .i64 n) := by
  have h6 := @run_callFunc_extern Tryz.prog 76 _ (fun args => ReflectliteValue.unpack (args.getD 0 (.tuple #[]))) Tryz.func76 (by kernel_rfl) (by kernel_rfl) (by kernel_rfl) (by kernel_rfl)
  have h7 := @run_callFunc_extern Tryz.prog 77 _ (ReflectliteValue.methodAny (ReflectliteValue.valueError "reflectlite.Value.Type" 0) (fun t _ _ _ => ReflectliteType.toType t)) Tryz.func77 (by kernel_rfl) (by kernel_rfl) (by kernel_rfl) (by kernel_rfl)
  have h8 := @run_callFunc_extern Tryz.prog 78 _ (ReflectliteValue.method (ReflectliteValue.valueError "reflectlite.Value.IsNil" 0) ReflectliteValue.isNil) Tryz.func78 (by kernel_rfl) (by kernel_rfl) (by kernel_rfl) (by kernel_rfl)
  have h27 := @run_callFunc_extern Tryz.prog 208 _ (ReflectliteType.abiMethod fun t => do pure (.int .u8 (← Rtype.kind t))) Tryz.func208 (by kernel_rfl) (by kernel_rfl) (by kernel_rfl) (by kernel_rfl)
  have h37 := @run_callFunc_extern Tryz.prog 223 _ (ReflectliteType.method ReflectliteType.elem) Tryz.func223 (by kernel_rfl) (by kernel_rfl) (by kernel_rfl) (by kernel_rfl)
  have h38 := @run_callFunc_extern Tryz.prog 224 _ (ReflectliteType.relation "Implements" ReflectliteType.implements_) Tryz.func224 (by kernel_rfl) (by kernel_rfl) (by kernel_rfl) (by kernel_rfl)
  have h10 := @run_callFunc_extern Tryz.prog 99 _ ReflectliteType.typeOf Tryz.func99 (by kernel_rfl) (by kernel_rfl) (by kernel_rfl) (by kernel_rfl)
  have h35 := @run_callFunc_extern Tryz.prog 221 _ (ReflectliteType.relation "AssignableTo" ReflectliteType.assignableTo) Tryz.func221 (by kernel_rfl) (by kernel_rfl) (by kernel_rfl) (by kernel_rfl)
  have h11 := @run_callFunc_extern Tryz.prog 100 _ (ReflectliteValue.method (ReflectliteValue.valueError "reflectlite.Value.Elem" 0) ReflectliteValue.elem) Tryz.func100 (by kernel_rfl) (by kernel_rfl) (by kernel_rfl) (by kernel_rfl)
  have h12 := @run_callFunc_extern Tryz.prog 101 _ ReflectliteValue.set Tryz.func101 (by kernel_rfl) (by kernel_rfl) (by kernel_rfl) (by kernel_rfl)
  have tO := Hit.typeOf25
  have tO2 := Wr.typeOf25
  have nY := Wr.notYet
  have mU := Wr.methodUnwrap
  have nAs := Wr.noAs
  have hUn := Wr.hasUnwrap
  have mA := Hit.methodAssignableTo
  have a25 := Wr.assignable25
  have v25 := Wr.valueOf25
  have f6 := Wr.valueOf27
  have f7 := Wr.type27
  have mK := Hit.methodKind
  have mE := Hit.methodElem
  have mI := Hit.methodImplements
  have k27 := Wr.kind27
  have k25 := Wr.kind25
  have e27 := Wr.elem27
  have i25 := Wr.implements25
  have n8 := Wr.isNil27 ⟨w.heap.size, 0, none⟩ t ((w.alloc (.cells #[.pointer (some t)] 78)).alloc (.cells #[.pointer (some ⟨13, 78, none⟩), .pointer (some ⟨w.heap.size, 0, none⟩), .int .u64 150] 166)) (by simp)
  have hlt : 0 < w.heap.size := by
    rcases Nat.eq_zero_or_pos w.heap.size with h0 | h
    · simp [World.cell?, h0] at hg
    · exact h
  have hg2 : ((w.alloc (.cells #[.pointer (some t)] 78)).alloc (.cells #[.pointer (some ⟨13, 78, none⟩), .pointer (some ⟨w.heap.size, 0, none⟩), .int .u64 150] 166)).cell? ⟨0, 0, none⟩ = some (.iface 205 (.agg #[.pointer (some ⟨13, 71, none⟩)])) := by
    rw [World.cell?_alloc_lt _ _ ⟨0, 0, none⟩ (by simp), World.cell?_alloc_lt _ _ ⟨0, 0, none⟩ hlt]; exact hg
  have htl : t.block < w.heap.size := by
    rcases Nat.lt_or_ge t.block w.heap.size with h | h
    · exact h
    · simp [World.cell?, Array.getElem?_eq_none h] at ht0
  have el := Wr.elemV27 ⟨w.heap.size, 0, none⟩ t (((w.alloc (.cells #[.pointer (some t)] 78)).alloc (.cells #[.pointer (some ⟨13, 78, none⟩), .pointer (some ⟨w.heap.size, 0, none⟩), .int .u64 150] 166)).alloc (.cells #[.pointer (some ⟨13, 78, none⟩), .pointer (some ⟨w.heap.size, 0, none⟩), .int .u64 150] 166)) (by rw [World.cell?_alloc_lt _ _ ⟨w.heap.size, 0, none⟩ (by simp; omega)]; simp)
  have st := Wr.set25 t ⟨w.heap.size + 1 + 1 + 1, 0, none⟩ n old ((((w.alloc (.cells #[.pointer (some t)] 78)).alloc (.cells #[.pointer (some ⟨13, 78, none⟩), .pointer (some ⟨w.heap.size, 0, none⟩), .int .u64 150] 166)).alloc (.cells #[.pointer (some ⟨13, 78, none⟩), .pointer (some ⟨w.heap.size, 0, none⟩), .int .u64 150] 166)).alloc (.cells #[.int .i64 n] 39))
    (by rw [World.cell?_alloc_at _ _ _ _ (by simp)]; rfl)
    (by rw [World.cell?_alloc_lt _ _ t (by simp; omega), World.cell?_alloc_lt _ _ t (by simp; omega), World.cell?_alloc_lt _ _ t (by simp; omega), World.cell?_alloc_lt _ _ t htl]; exact ht0)
    (by rw [World.frozen?_alloc_old _ _ t (by simp; omega), World.frozen?_alloc_old _ _ t (by simp; omega), World.frozen?_alloc_old _ _ t (by simp; omega), World.frozen?_alloc_old _ _ t (Nat.ne_of_lt htl)]; exact hf0)
  have hel : e.block < w.heap.size := by
    rcases Nat.lt_or_ge e.block w.heap.size with h | h
    · exact h
    · simp [World.cell?, Array.getElem?_eq_none h] at he
  have he3 : (((w.alloc (.cells #[.pointer (some t)] 78)).alloc (.cells #[.pointer (some ⟨13, 78, none⟩), .pointer (some ⟨w.heap.size, 0, none⟩), .int .u64 150] 166)).alloc (.cells #[.pointer (some ⟨13, 78, none⟩), .pointer (some ⟨w.heap.size, 0, none⟩), .int .u64 150] 166)).cell? ⟨e.block, e.off + 2, none⟩ = some (.iface 39 (.int .i64 n)) := by
    rw [World.cell?_alloc_lt _ _ ⟨e.block, e.off + 2, none⟩ (by simp; omega), World.cell?_alloc_lt _ _ ⟨e.block, e.off + 2, none⟩ (by simp; omega), World.cell?_alloc_lt _ _ ⟨e.block, e.off + 2, none⟩ hel]; exact he
  have hun := unwrap_ok e _ _ he3
  go_enter Tryz.func29, Tryz.ntmps29
  go_wp2
  refine wp_loop_rounds 2 ?_
  rw [rounds_succ]
  go_wp2_with (go_at_call 215; refine hun.mono ?_; rintro e w' ⟨rfl, rfl⟩)
  rw [rounds_succ]
  go_wp2
  go_ret
  exact ⟨rfl, rfl⟩
end Go.Proofs.YtiookgkdekdefaaGreatDoor
