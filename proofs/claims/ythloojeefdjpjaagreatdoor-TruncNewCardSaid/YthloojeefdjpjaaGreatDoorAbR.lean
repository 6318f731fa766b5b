/- A call that the evaluator answers, from a heap that holds nothing, or package-level variables alone. -/
import Derived.Test.YthloojeefdjpjaaGreatDoorAbQ
import Derived.Below
namespace Go.Proofs.YthloojeefdjpjaaGreatDoor
open Go Go.RowKit
set_option linter.unusedVariables false
set_option linter.unusedSimpArgs false

/-- The package-level variables stand for themselves. -/
def globB (n : Nat) : Bt := fun b => if b < n then some ⟨b, 0, 0⟩ else none
theorem glob_hr {P : Program} {w : World} {n : Nat} (hn : n ≤ 9223372036854775808) : HR P (globB n) ⟨n, .nil⟩ w := by
  refine ⟨hn, fun b i h => ?_, fun b x h => ?_, fun b x i h => ?_, fun b b' i i' x y h => ?_⟩
  · unfold globB at h
    split at h
    · assumption
    · cases h
  · cases h
  · cases h
  · cases h
theorem glob_st {w w' : World} {n : Nat} {β : Bt} {h : Hp} (s : St (globB n) ⟨n, .nil⟩ w β h w') : Below w.heap.size w w' :=
  ⟨s.os, s.tape, s.output, s.size, fun k hk => s.keep k hk (by rintro ⟨b, i, x, h, _⟩; cases h)⟩
section
variable {P : Program} {eqs : List TypeId} (hp : P.types.size < 4000) (hs : ∀ t ∈ eqs, P.stoodInHeld t = false) (hg : ∀ t ∈ eqs, P.eqGuardType P.depth t = false) (hmix : P.follows .mixedOrders = true)
  (hf : P.funcs.size < 4000) (hname : ∀ (f : FuncId) (fn : Func), P.funcs[f]? = some fn → (fn.name == "runtime.NumGoroutine") = false) {sp : Sp} (hsp : CallOk P (spCall sp) P.globals.size)
include hp hs hg hmix hf hname hsp
/-- What the evaluator answers to plain arguments, the machine answers. -/
theorem answer_calls {n : Nat} {f : FuncId} {args : List Value} {h h2 : Hp} {v : Value} (hr : answer (Env.of P eqs) sp n f args h = some (v, h2)) {β : Bt} {args' : List Value} {w : World} (hl : LR β args args') (H : HR P β h w) (hgb : ∀ g, g < P.globals.size → β g = some ⟨g, 0, 0⟩) :
    Calls P f args'.toArray w fun en w2 => ∃ v' β2, en = .returned v' ∧ HR P β2 h2 w2 ∧ St β h w β2 h2 w2 ∧ VR β2 v v' := by
  unfold answer at hr
  cases h1 : runCode (Env.of P eqs) sp n (.inr (f, args)) ⟨0, 0, .nil⟩ h with
  | bad => rw [h1] at hr; cases hr
  | ok e r h3 =>
    rw [h1] at hr
    simp only [Option.some.injEq, Prod.mk.injEq] at hr
    obtain ⟨rfl, rfl⟩ := hr
    exact ((run_sound hp hs hg hmix hf hname hsp n).2.2 f args _ h e r h3 h1 β args' w hl H hgb).2
theorem closed_calls {n : Nat} {f : FuncId} {h2 : Hp} (hn : P.globals.size ≤ 9223372036854775808) (hr : answer (Env.of P eqs) sp n f [] ⟨P.globals.size, .nil⟩ = some (.bool true, h2)) (w : World) :
    Calls P f #[] w fun e w' => e = .returned (.bool true) ∧ Below w.heap.size w w' := by
  refine (answer_calls hp hs hg hmix hf hname hsp hr (β := globB P.globals.size) (LR.nil _) (glob_hr hn) (fun g hg => if_pos hg)).mono ?_
  rintro en w2 ⟨v', β2, rfl, _, S, hR⟩
  exact ⟨by rw [hR.bool_inv], glob_st S⟩
end
theorem no_sp {P : Program} {gl : Nat} : CallOk P (spCall fun _ => none) gl := fun f args args' h h2 v β w hc => by cases hc
/-- The evaluator's answer, asked by a bit. -/
def saysTrue : Option (Value × Hp) → Bool
  | some (.bool true, _) => true
  | _ => false
theorem saysTrue_some {r : Option (Value × Hp)} (h : saysTrue r = true) : ∃ h2, r = some (.bool true, h2) := by
  unfold saysTrue at h
  split at h
  · exact ⟨_, rfl⟩
  · cases h
end Go.Proofs.YthloojeefdjpjaaGreatDoor
