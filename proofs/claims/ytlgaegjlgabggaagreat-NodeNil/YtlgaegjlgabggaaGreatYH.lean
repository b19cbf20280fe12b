/- From contracts to calls. No program in sight. -/
import Derived.Test.YtlgaegjlgabggaaGreatYG
import Derived.Below
namespace Go.X
open Go Go.RowKit

def noImm : Imm := fun _ => False
def noEnv : Env := fun _ => none

/-- A contract without objects: what a call does. -/
theorem Spec.calls {P : Program} {f : FuncId} {args : List V} {out : V} (S : Spec P f args [] out []) (w : World) (vs : List Value) (h : RepL (RepV noImm noEnv w) args vs) :
    Calls P f vs.toArray w fun e w' => ∃ (v : Value) (imm : Imm) (env : Env), e = .returned v ∧ RepV imm env w' out v ∧ Below w.heap.size w w' := by
  have hH : HeapOk noImm noEnv [] w := ⟨fun k ob h => by simp [lookH, look] at h, fun j k r s o o' h => by simp [lookH, look] at h, fun k r h => by simp [noEnv] at h, fun b h => h.elim, fun k ob r h => by simp [lookH, look] at h⟩
  refine (S.h noImm noEnv w vs h hH).mono ?_
  rintro e w' ⟨v, imm, env, rfl, A⟩
  refine ⟨v, imm, env, rfl, A.rep, ⟨A.keep.os, A.keep.tape, A.keep.output, A.keep.size, fun b hb => A.keep.block b hb ?_⟩⟩
  rintro ⟨k, ob, r, h1, _⟩
  simp [lookH, look] at h1

/-- A truth comes. -/
theorem Spec.callsB {P : Program} {f : FuncId} {args : List V} {b : Bool} (S : Spec P f args [] (.v (.bool b)) []) (w : World) (vs : List Value) (h : RepL (RepV noImm noEnv w) args vs) :
    Calls P f vs.toArray w fun e w' => e = .returned (.bool b) ∧ Below w.heap.size w w' := by
  refine (S.calls w vs h).mono ?_
  rintro e w' ⟨v, imm, env, rfl, hv, hb⟩
  cases hv
  exact ⟨rfl, hb⟩

/-- A whole run that was reckoned. -/
theorem names_of {P : Program} (h : (P.funcs.toList.all fun fn => !(fn.name == "runtime.NumGoroutine")) = true) : ∀ (f : Nat) (fn : Func), P.funcs[f]? = some fn → fn.name ≠ "runtime.NumGoroutine" := by
  intro f fn hf he
  have := List.all_eq_true.1 h fn (by have := Array.mem_of_getElem? hf; simpa using this)
  rw [he] at this
  simp at this
theorem ran {P : Program} (hm : P.follows .mixedOrders = true) (hn : (P.funcs.toList.all fun fn => !(fn.name == "runtime.NumGoroutine")) = true) {n : Nat} {f : FuncId} {args : List V} {out : V} (h : exCall P n f args [] = some (out, [])) : Spec P f args [] out [] :=
  (exCall_ok hm (names_of hn) n f args [] out [] h).1
end Go.X
