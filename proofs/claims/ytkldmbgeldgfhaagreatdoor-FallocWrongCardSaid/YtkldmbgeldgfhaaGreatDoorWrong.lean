/- FallocWrong at each pair of remainders: the evaluator answers true. -/
import Derived.Test.YtkldmbgeldgfhaaGreatDoorLawFallocRuns
import Derived.Test.YtkldmbgeldgfhaaGreatDoorLaid
namespace Go.Proofs.YtkldmbgeldgfhaaGreatDoor.fallocWrong
open Go Go.RowKit
set_option linter.unusedVariables false
def spRuns (args : List Value) (h : Hp) : Option (Value × Hp) :=
  match args with
  | [] => some (.bool true, h)
  | _ => none
theorem t_runs : ToldOk Tryz.prog Tryz.prog.globals.size 3 spRuns :=
  told_of fun args args' h h2 v β w hc hl H hgb => by
    unfold spRuns at hc
    split at hc
    · simp only [Option.some.injEq, Prod.mk.injEq] at hc
      obtain ⟨rfl, rfl⟩ := hc
      obtain rfl : args' = [] := List.eq_nil_of_length_eq_zero hl.1.symm
      rw [show (callFunc 3 (List.toArray [])).run Tryz.prog w = .ok (.enter 3 #[]) w from (enters_of Tryz.func3 (by kernel_rfl) rfl) _ w]
      refine .inr ⟨_, _, rfl, (fallocRuns.walk w).mono ?_⟩
      rintro e w2 ⟨rfl, hB⟩
      exact ⟨_, β, rfl, H.below hB, St.below hB, .bool _⟩
    · cases hc
noncomputable def spW : Sp := fun f => bif Nat.beq f 3 then some spRuns else sp f
theorem spW_ok : CallOk Tryz.prog (spCall spW) Tryz.prog.globals.size := by
  unfold spW
  with_reducible exact (told_cons t_runs sp_ok)
def laid : List (String × DataW Unit) := Rows.fallocWrongRow.laid
/-- the two errors of strconv's: of them it is known only that they are there -/
def laidE : List (String × DataW Unit) := laid.filter fun x => x.1 == "strconv.ErrRange" || x.1 == "strconv.ErrSyntax"
def gsE : List (Nat × List Value) := [(3, [lost]), (2, [lost])]
theorem laidE_gs : laidGs Tryz.prog laidE = gsE := by kernel_rfl
noncomputable def one (r q : Nat) : Bool := saysTrue (answer env spW 4000 4 [rest8 13 r, rest8 5 q] ⟨Tryz.prog.globals.size, gsTr gsE⟩)
theorem one_calls {r q : Nat} (h : one r q = true) (hr : r < 13) (hq : q < 5) (a b : Nat) (ha : a % 13 = r) (hb : b % 5 = q) (ha2 : a ≤ 255) (hb2 : b ≤ 255) (w : World) (hL : ∃ ps, DataW.LaidVars Tryz.prog w laidE ps) :
    Calls Tryz.prog 4 #[.int .u8 a, .int .u8 b] w fun e w' => e = .returned (.bool true) ∧ Below w.heap.size w w' := by
  unfold one at h
  have hl : LR (globB Tryz.prog.globals.size) [rest8 13 r, rest8 5 q] [.int .u8 a, .int .u8 b] :=
    LR.cons (.rest8 _ _ (by rw [show (13 * 512 + r) / 512 = 13 by omega, show (13 * 512 + r) % 512 = r by omega]; exact ha) ha2)
      (LR.cons (.rest8 _ _ (by rw [show (5 * 512 + q) / 512 = 5 by omega, show (5 * 512 + q) % 512 = q by omega]; exact hb) hb2) (LR.nil _))
  exact laid_true (by with_reducible exact spW_ok) laidE_gs h hl w hL
end Go.Proofs.YtkldmbgeldgfhaaGreatDoor.fallocWrong
