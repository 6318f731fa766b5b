/- This seat's program: what the evaluator wants to know of it. -/
import Derived.Test.YthloojeefdjpjaaGreatDoorAbR
import Derived.Test.YthloojeefdjpjaaGreatDoorChecked
import Derived.KernelRfl
namespace Go.Proofs.YthloojeefdjpjaaGreatDoor
open Go Go.RowKit
def eqList : List TypeId :=
216 ::
92 ::
158 ::
263 ::
352 ::
35 ::
33 ::
57 ::
77 ::
  []
theorem prog_types : Tryz.prog.types.size < 4000 := of_decide_eq_true (by kernel_rfl)
theorem prog_funcs : Tryz.prog.funcs.size < 4000 := of_decide_eq_true (by kernel_rfl)
theorem prog_globals : Tryz.prog.globals.size ≤ 9223372036854775808 := of_decide_eq_true (by kernel_rfl)
theorem prog_mix : Tryz.prog.follows .mixedOrders = true := by kernel_rfl
theorem all_get {α : Type} {q : α → Bool} {l : Array α} (h : l.toList.all q = true) {i : Nat} {x : α} (hx : l[i]? = some x) : q x = true :=
  List.all_eq_true.1 h x (List.mem_of_getElem? (i := i) (by simpa using hx))
set_option maxRecDepth 10000000 in
theorem prog_names : ∀ (f : FuncId) (fn : Func), Tryz.prog.funcs[f]? = some fn → (fn.name == "runtime.NumGoroutine") = false := fun f fn h => by
  have h1 : Tryz.prog.funcs.toList.all (fun fn => !(fn.name == "runtime.NumGoroutine")) = true := by kernel_rfl
  simpa using all_get h1 h
set_option maxRecDepth 10000000 in
theorem prog_eqs : ∀ t ∈ eqList, Tryz.prog.stoodInHeld t = false := fun t h => by
  have h1 : eqList.all (fun t => !(Tryz.prog.stoodInHeld t)) = true := by kernel_rfl
  simpa using List.all_eq_true.1 h1 t h
set_option maxRecDepth 10000000 in
theorem prog_guards : ∀ t ∈ eqList, Tryz.prog.eqGuardType Tryz.prog.depth t = false := fun t h => by
  have h1 : eqList.all (fun t => !(Tryz.prog.eqGuardType Tryz.prog.depth t)) = true := by kernel_rfl
  have h2 := List.all_eq_true.1 h1 t h
  rw [Bool.not_eq_true'] at h2
  exact h2
noncomputable def env : Env := Env.of Tryz.prog eqList
theorem closed_true {sp : Sp} (hsp : CallOk Tryz.prog (spCall sp) Tryz.prog.globals.size) {n : Nat} {f : FuncId} (hr : saysTrue (answer env sp n f [] ⟨Tryz.prog.globals.size, .nil⟩) = true) (w : World) :
    Calls Tryz.prog f #[] w fun e w' => e = .returned (.bool true) ∧ Below w.heap.size w w' := by
  unfold env at hr
  obtain ⟨h2, h⟩ := saysTrue_some hr
  exact closed_calls (P := Tryz.prog) (eqs := eqList) (sp := sp) (f := f) (n := n) (h2 := h2) prog_types prog_eqs prog_guards prog_mix prog_funcs prog_names (by with_reducible exact hsp) prog_globals h w
end Go.Proofs.YthloojeefdjpjaaGreatDoor
