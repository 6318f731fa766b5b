import Derived.Test.YtmefkfilclkgeaaBndD
namespace Go.Proofs.Ytmefkfilclkgeaa.bound
open Go.ChangeShapes Go.WideShapes Go.ChangeAt Go.RowKit
set_option linter.unusedVariables false
def optsB (c r : Int) : Bool := decide (1 ≤ c ∧ c ≤ 512 ∧ 0 ≤ r ∧ r ≤ 20)

theorem opts_c1 (c r : Int) (b : Bool) (h : c < 1) (w : World) : Calls Try.prog 31 #[.agg #[.int .i64 c, .int .i64 r, .bool b]] w fun e w' => e = .returned (.bool false) ∧ Below w.heap.size w w' := by
  go_enter Try.func31, Try.ntmps31
  go_wp2
  refine bodyPost_ret (results_tmp rfl _ _ _) rfl ?_
  exact ⟨rfl, (Below.refl _ w).alloc (Nat.le_refl _) _⟩

theorem opts_c2 (c r : Int) (b : Bool) (h0 : 1 ≤ c) (h : c > 512) (w : World) : Calls Try.prog 31 #[.agg #[.int .i64 c, .int .i64 r, .bool b]] w fun e w' => e = .returned (.bool false) ∧ Below w.heap.size w w' := by
  go_enter Try.func31, Try.ntmps31
  go_wp2
  refine bodyPost_ret (results_tmp rfl _ _ _) rfl ?_
  exact ⟨rfl, (Below.refl _ w).alloc (Nat.le_refl _) _⟩

theorem opts_r1 (c r : Int) (b : Bool) (h0 : 1 ≤ c) (h1 : c ≤ 512) (h : r < 0) (w : World) : Calls Try.prog 31 #[.agg #[.int .i64 c, .int .i64 r, .bool b]] w fun e w' => e = .returned (.bool false) ∧ Below w.heap.size w w' := by
  go_enter Try.func31, Try.ntmps31
  go_wp2
  refine bodyPost_ret (results_tmp rfl _ _ _) rfl ?_
  exact ⟨rfl, (Below.refl _ w).alloc (Nat.le_refl _) _⟩

theorem opts_last (c r : Int) (b : Bool) (h0 : 1 ≤ c) (h1 : c ≤ 512) (h2 : 0 ≤ r) (w : World) : Calls Try.prog 31 #[.agg #[.int .i64 c, .int .i64 r, .bool b]] w fun e w' => e = .returned (.bool (decide (r ≤ 20))) ∧ Below w.heap.size w w' := by
  go_enter Try.func31, Try.ntmps31
  go_wp2
  refine bodyPost_ret (results_tmp rfl _ _ _) rfl ?_
  exact ⟨rfl, (Below.refl _ w).alloc (Nat.le_refl _) _⟩

theorem opts_walk (c r : Int) (b : Bool) (w : World) : Calls Try.prog 31 #[.agg #[.int .i64 c, .int .i64 r, .bool b]] w fun e w' => e = .returned (.bool (optsB c r)) ∧ Below w.heap.size w w' := by
  unfold optsB
  by_cases h0 : c < 1
  · rw [decide_eq_false (by omega)]; exact opts_c1 c r b h0 w
  by_cases h1 : c > 512
  · rw [decide_eq_false (by omega)]; exact opts_c2 c r b (by omega) h1 w
  by_cases h2 : r < 0
  · rw [decide_eq_false (by omega)]; exact opts_r1 c r b (by omega) (by omega) h2 w
  have h := opts_last c r b (by omega) (by omega) (by omega) w
  by_cases h3 : r ≤ 20
  · rw [decide_eq_true h3] at h; rw [decide_eq_true (by omega)]; exact h
  · rw [decide_eq_false h3] at h; rw [decide_eq_false (by omega)]; exact h

theorem ropts_c1 (c r : Int) (b : Bool) (h : c < 1) (w : World) : Calls Try.prog 33 #[.agg #[.int .i64 c, .int .i64 r, .bool b]] w fun e w' => e = .returned (.bool false) ∧ Below w.heap.size w w' := by
  go_enter Try.func33, Try.ntmps33
  go_wp2
  refine bodyPost_ret (results_tmp rfl _ _ _) rfl ?_
  exact ⟨rfl, (Below.refl _ w).alloc (Nat.le_refl _) _⟩

theorem ropts_c2 (c r : Int) (b : Bool) (h0 : 1 ≤ c) (h : c > 512) (w : World) : Calls Try.prog 33 #[.agg #[.int .i64 c, .int .i64 r, .bool b]] w fun e w' => e = .returned (.bool false) ∧ Below w.heap.size w w' := by
  go_enter Try.func33, Try.ntmps33
  go_wp2
  refine bodyPost_ret (results_tmp rfl _ _ _) rfl ?_
  exact ⟨rfl, (Below.refl _ w).alloc (Nat.le_refl _) _⟩

theorem ropts_r1 (c r : Int) (b : Bool) (h0 : 1 ≤ c) (h1 : c ≤ 512) (h : r < 0) (w : World) : Calls Try.prog 33 #[.agg #[.int .i64 c, .int .i64 r, .bool b]] w fun e w' => e = .returned (.bool false) ∧ Below w.heap.size w w' := by
  go_enter Try.func33, Try.ntmps33
  go_wp2
  refine bodyPost_ret (results_tmp rfl _ _ _) rfl ?_
  exact ⟨rfl, (Below.refl _ w).alloc (Nat.le_refl _) _⟩

theorem ropts_last (c r : Int) (b : Bool) (h0 : 1 ≤ c) (h1 : c ≤ 512) (h2 : 0 ≤ r) (w : World) : Calls Try.prog 33 #[.agg #[.int .i64 c, .int .i64 r, .bool b]] w fun e w' => e = .returned (.bool (decide (r ≤ 20))) ∧ Below w.heap.size w w' := by
  go_enter Try.func33, Try.ntmps33
  go_wp2
  refine bodyPost_ret (results_tmp rfl _ _ _) rfl ?_
  exact ⟨rfl, (Below.refl _ w).alloc (Nat.le_refl _) _⟩

theorem ropts_walk (c r : Int) (b : Bool) (w : World) : Calls Try.prog 33 #[.agg #[.int .i64 c, .int .i64 r, .bool b]] w fun e w' => e = .returned (.bool (optsB c r)) ∧ Below w.heap.size w w' := by
  unfold optsB
  by_cases h0 : c < 1
  · rw [decide_eq_false (by omega)]; exact ropts_c1 c r b h0 w
  by_cases h1 : c > 512
  · rw [decide_eq_false (by omega)]; exact ropts_c2 c r b (by omega) h1 w
  by_cases h2 : r < 0
  · rw [decide_eq_false (by omega)]; exact ropts_r1 c r b (by omega) (by omega) h2 w
  have h := ropts_last c r b (by omega) (by omega) (by omega) w
  by_cases h3 : r ≤ 20
  · rw [decide_eq_true h3] at h; rw [decide_eq_true (by omega)]; exact h
  · rw [decide_eq_false h3] at h; rw [decide_eq_false (by omega)]; exact h
end Go.Proofs.Ytmefkfilclkgeaa.bound
