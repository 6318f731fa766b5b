import Derived.Test.YtbhphcgpfjoppaaGreatDoorSuiteRunsN
import Derived.KernelRfl
namespace Go.Proofs.YtbhphcgpfjoppaaGreatDoor.suiteRunsM
open Go Go.ChangeShapes Go.WideShapes Go.ChangeAt Go.RowKit
set_option linter.unusedVariables false
theorem goes_none {P : Program} (h : P.funcs.toList.all (fun (fn : Func) => !fn.goes) = true) (c : OpenClaim) : false = c.goesBy P := by
  have h1 : ∀ (f : Nat) (fn : Func), P.funcs[f]? = some fn → fn.goes = false := fun f fn e => by
    have := List.all_eq_true.1 h fn (List.mem_of_getElem? (i := f) (by simpa using e))
    simpa using this
  have h2 : ∀ (g : Nat), (P.funcs[g]?).any Func.goes = false := fun g => by
    cases e : P.funcs[g]? with
    | none => rfl
    | some fn => exact h1 g fn e
  have h3 : P.funcs.any Func.goes = false := by
    rw [Array.any_eq_false]
    intro i hi
    have := h1 i P.funcs[i] (by simp [hi])
    simpa using this
  have h4 : ∀ (f : FuncId), P.goes f = false := fun f => by
    unfold Program.goes
    rw [h3, Bool.and_false, Bool.or_false]
    rw [List.any_eq_false]
    intro g _
    rw [h2 g]; simp
  unfold OpenClaim.goesBy Program.goesAt Program.goesFrom
  have h5 : (P.funcNamed c.func).any P.goes = false := by
    cases P.funcNamed c.func with
    | none => rfl
    | some f => exact h4 f
  have h6 : P.inits.toList.any P.goes = false := by
    rw [List.any_eq_false]
    intro g _
    rw [h4 g]; simp
  rw [h5]
  cases c.start <;> simp only [h6] <;> rfl
theorem goes1 : false = Rows.suiteRunsRow.goesBy Tryz.prog := goes_none (by kernel_rfl) _
end Go.Proofs.YtbhphcgpfjoppaaGreatDoor.suiteRunsM
