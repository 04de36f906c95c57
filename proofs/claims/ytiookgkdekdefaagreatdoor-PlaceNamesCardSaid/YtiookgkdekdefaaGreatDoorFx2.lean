/-
  strings.Fields of the reserved words as an oracle of the evaluator, beside errors.As. No condition but the table's, which the oracle looks for.
-/
import Derived.Test.YtiookgkdekdefaaGreatDoorFx1
import Derived.Test.YtiookgkdekdefaaGreatDoorAs3
namespace Go.Proofs.YtiookgkdekdefaaGreatDoor
open Go.AE
noncomputable def fieldsO (args : List Value) (s : AE.S) : Option (Value × AE.S) :=
  match args with
  | [.string b] => bif eqB b.data.toList wordsB && bears s 2 (zs2.map fun z => .int .u8 z) then some (.slice (some ⟨s.next, 0, none⟩) 50 50, s.new (.cells wordsL 1 false)) else none
  | _ => none
theorem fieldsO_ok {args : List Value} {s s' : AE.S} {v : Value} (h : fieldsO args s = some (v, s')) : CallSpec Tryz.prog 153 args s (fun x => x = (v, s')) := by
  unfold fieldsO at h
  split at h
  · rename_i b
    rw [cond_eq] at h
    split at h
    · rename_i hb
      simp only [Bool.and_eq_true] at hb
      cases h
      have e : b = ⟨⟨wordsB⟩⟩ := bytes_eq (b := ⟨⟨wordsB⟩⟩) hb.1
      subst e
      refine memo_new (P := Tryz.prog) (by rw [show Tryz.prog.globals.size = 13 by kernel_rfl]; omega) fields_spec rfl (by kernel_rfl) (fun x hx => ?_) (fun x hx => ?_) (fun x hx => ?_)
      · simp only [spaceL, List.mem_singleton] at hx; subst hx; kernel_rfl
      · simp only [spaceL, List.mem_singleton] at hx; subst hx; exact bears_eq hb.2
      · simp only [spaceL, List.mem_singleton] at hx; subst hx; decide
    · cases h
  · cases h
noncomputable def O2 : Oracle := fun f => bif Nat.beq f 29 then some asO else bif Nat.beq f 153 then some fieldsO else none
theorem O2_ok : OracleOK Tryz.prog O2 := by
  intro f g hO args s v s' h
  unfold O2 at hO
  rw [cond_eq] at hO
  split at hO
  · rename_i hf
    have hf := Nat.eq_of_beq_eq_true hf
    subst hf; cases hO
    exact asO_ok h
  · rw [cond_eq] at hO
    split at hO
    · rename_i hf
      have hf := Nat.eq_of_beq_eq_true hf
      subst hf; cases hO
      exact fieldsO_ok h
    · cases hO
end Go.Proofs.YtiookgkdekdefaaGreatDoor
