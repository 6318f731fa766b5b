import Derived.Test.YtmefkfilclkgeaaRows
import Derived.WalkKit
import Derived.ProofKit
import Derived.OpenShut
import Derived.KernelRfl
import Derived.Below
import Derived.LoopTactic
import Derived.OwnWalk
import Derived.Deep.QuietTactic
import Derived.BigQuiet
import Derived.WalkSmall
namespace Go.Proofs.Ytmefkfilclkgeaa.bound
open Go.ChangeShapes Go.WideShapes Go.ChangeAt Go.RowKit
set_option linter.unusedVariables false
def statusB (c : Int) : Bool := c == 63 || c == 42 || c == 47 || c == 45 || c == 43

theorem is_walk (c : Int) (w : World) : Calls Try.prog 37 #[.int .u8 c] w fun e w' => e = .returned (.bool (statusB c)) ∧ w' = w := by
  by_cases h0 : c = 63
  · subst h0
    go_enter Try.func37, Try.ntmps37
    go_wp2
    go_ret
    exact ⟨rfl, rfl⟩
  by_cases h1 : c = 42
  · subst h1
    go_enter Try.func37, Try.ntmps37
    go_wp2
    go_ret
    exact ⟨rfl, rfl⟩
  by_cases h2 : c = 47
  · subst h2
    go_enter Try.func37, Try.ntmps37
    go_wp2
    go_ret
    exact ⟨rfl, rfl⟩
  by_cases h3 : c = 45
  · subst h3
    go_enter Try.func37, Try.ntmps37
    go_wp2
    go_ret
    exact ⟨rfl, rfl⟩
  by_cases h4 : c = 43
  · subst h4
    go_enter Try.func37, Try.ntmps37
    go_wp2
    go_ret
    exact ⟨rfl, rfl⟩
  have e : statusB c = false := by simp [statusB, h0, h1, h2, h3, h4]
  rw [e]
  clear e
  go_enter Try.func37, Try.ntmps37
  go_wp2
  go_ret
  exact ⟨rfl, rfl⟩

theorem status_walk (c : Int) (w : World) : Calls Try.prog 47 #[.int .u8 c] w fun e w' => e = .returned (.bool (statusB c)) ∧ w' = w := by
  by_cases h0 : c = 63
  · subst h0
    go_enter Try.func47, Try.ntmps47
    go_wp2
    go_ret
    exact ⟨rfl, rfl⟩
  by_cases h1 : c = 42
  · subst h1
    go_enter Try.func47, Try.ntmps47
    go_wp2
    go_ret
    exact ⟨rfl, rfl⟩
  by_cases h2 : c = 47
  · subst h2
    go_enter Try.func47, Try.ntmps47
    go_wp2
    go_ret
    exact ⟨rfl, rfl⟩
  by_cases h3 : c = 45
  · subst h3
    go_enter Try.func47, Try.ntmps47
    go_wp2
    go_ret
    exact ⟨rfl, rfl⟩
  by_cases h4 : c = 43
  · subst h4
    go_enter Try.func47, Try.ntmps47
    go_wp2
    go_ret
    exact ⟨rfl, rfl⟩
  go_enter Try.func47, Try.ntmps47
  go_wp2
  all_goals go_ret
  all_goals refine ⟨?_, rfl⟩
  all_goals first | rfl | (show Ending.returned (Value.bool _) = _; simp [statusB, *])

theorem sectors_no (n : Int) (h : n < 0 ∨ 1099511627776 < n) (w : World) : Calls Try.prog 18 #[.int .i64 n] w fun e w' => e = .returned (.int .i64 0) ∧ w' = w := by
  by_cases h1 : n < 0
  · clear h
    go_enter Try.func18, Try.ntmps18
    go_wp2
    go_ret
    exact ⟨rfl, rfl⟩
  · have h2 : n > 1099511627776 := by omega
    clear h
    go_enter Try.func18, Try.ntmps18
    go_wp2
    go_ret
    exact ⟨rfl, rfl⟩
theorem rsectors_no (n : Int) (h : n < 0 ∨ 1099511627776 < n) (w : World) : Calls Try.prog 22 #[.int .i64 n] w fun e w' => e = .returned (.int .i64 0) ∧ w' = w := by
  by_cases h1 : n < 0
  · clear h
    go_enter Try.func22, Try.ntmps22
    go_wp2
    go_ret
    exact ⟨rfl, rfl⟩
  · have h2 : n > 1099511627776 := by omega
    clear h
    go_enter Try.func22, Try.ntmps22
    go_wp2
    go_ret
    exact ⟨rfl, rfl⟩
theorem sectors_in (n : Int) (h : 0 ≤ n ∧ n ≤ 1099511627776) (w : World) : Calls Try.prog 18 #[.int .i64 n] w fun e w' => e = .returned (.int .i64 ((n + 7) / 8)) ∧ w' = w := by
  obtain ⟨h1, h2⟩ := h
  go_enter Try.func18, Try.ntmps18
  go_wp2
  go_ret
  refine ⟨?_, rfl⟩
  show Ending.returned (Value.int .i64 _) = _
  congr 2 <;> omega
theorem rsectors_in (n : Int) (h : 0 ≤ n ∧ n ≤ 1099511627776) (w : World) : Calls Try.prog 22 #[.int .i64 n] w fun e w' => e = .returned (.int .i64 ((n + 7) / 8)) ∧ w' = w := by
  obtain ⟨h1, h2⟩ := h
  go_enter Try.func22, Try.ntmps22
  go_wp2
  go_ret
  refine ⟨?_, rfl⟩
  show Ending.returned (Value.int .i64 _) = _
  congr 2 <;> omega
def sectorsI (n : Int) : Int := if n < 0 ∨ 1099511627776 < n then 0 else (n + 7) / 8
theorem sectors_walk (n : Int) (w : World) : Calls Try.prog 18 #[.int .i64 n] w fun e w' => e = .returned (.int .i64 (sectorsI n)) ∧ w' = w := by
  unfold sectorsI
  split
  · exact sectors_no _ (by assumption) _
  · exact sectors_in _ (by omega) _
theorem rsectors_walk (n : Int) (w : World) : Calls Try.prog 22 #[.int .i64 n] w fun e w' => e = .returned (.int .i64 (sectorsI n)) ∧ w' = w := by
  unfold sectorsI
  split
  · exact rsectors_no _ (by assumption) _
  · exact rsectors_in _ (by omega) _
end Go.Proofs.Ytmefkfilclkgeaa.bound
