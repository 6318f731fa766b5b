import Derived.Test.YtmefkfilclkgeaaPat
import Derived.WalkKit
import Derived.ProofKit
import Derived.OpenShut
import Derived.KernelRfl
import Derived.Below
namespace Go.Proofs.Ytmefkfilclkgeaa.pattern
open Go.ChangeShapes Go.WideShapes Go.ChangeAt Go.RowKit
set_option linter.unusedVariables false

theorem byteS_30 (s p q k : Int) (hp : 0 ≤ p) (hq : p + 1 < q) (hq2 : q ≤ 9223372036854775807) (hk : 0 ≤ k) (h : p % 4 = 3) (hr : k % 3 = 0) (w : World) : Calls Try.prog 12 #[.int .u64 s, .int .i64 p, .int .i64 q, .int .i64 k] w fun e w' => e = .returned (.int .u8 146) ∧ w' = w := by
  have h1 : ¬ p < 0 := by omega
  have h2 : ¬ k < 0 := by omega
  have h3 : ¬ q ≤ p := by omega
  have h4 : ¬ p = wrap64 (q - 1) := by rw [IntWalk.wrap64_in _ (by omega)]; omega
  have h5 : Int.tmod p 4 = 3 := by rw [Int.tmod_eq_emod_of_nonneg hp]; exact h
  have h6 : Int.tmod k 3 = 0 := by rw [Int.tmod_eq_emod_of_nonneg hk]; exact hr
  have hi : Sem.run Try.prog (Instr.index 52 (Value.agg #[Value.int IntKind.u8 146, Value.int IntKind.u8 73, Value.int IntKind.u8 36]) (Value.int IntKind.i64 0)) w = .ok (.int .u8 146) w := by kernel_rfl
  go_enter Try.func12, Try.ntmps12
  go_wp2
  go_ret
  exact ⟨rfl, rfl⟩
theorem byteS_31 (s p q k : Int) (hp : 0 ≤ p) (hq : p + 1 < q) (hq2 : q ≤ 9223372036854775807) (hk : 0 ≤ k) (h : p % 4 = 3) (hr : k % 3 = 1) (w : World) : Calls Try.prog 12 #[.int .u64 s, .int .i64 p, .int .i64 q, .int .i64 k] w fun e w' => e = .returned (.int .u8 73) ∧ w' = w := by
  have h1 : ¬ p < 0 := by omega
  have h2 : ¬ k < 0 := by omega
  have h3 : ¬ q ≤ p := by omega
  have h4 : ¬ p = wrap64 (q - 1) := by rw [IntWalk.wrap64_in _ (by omega)]; omega
  have h5 : Int.tmod p 4 = 3 := by rw [Int.tmod_eq_emod_of_nonneg hp]; exact h
  have h6 : Int.tmod k 3 = 1 := by rw [Int.tmod_eq_emod_of_nonneg hk]; exact hr
  have hi : Sem.run Try.prog (Instr.index 52 (Value.agg #[Value.int IntKind.u8 146, Value.int IntKind.u8 73, Value.int IntKind.u8 36]) (Value.int IntKind.i64 1)) w = .ok (.int .u8 73) w := by kernel_rfl
  go_enter Try.func12, Try.ntmps12
  go_wp2
  go_ret
  exact ⟨rfl, rfl⟩
theorem byteS_32 (s p q k : Int) (hp : 0 ≤ p) (hq : p + 1 < q) (hq2 : q ≤ 9223372036854775807) (hk : 0 ≤ k) (h : p % 4 = 3) (hr : k % 3 = 2) (w : World) : Calls Try.prog 12 #[.int .u64 s, .int .i64 p, .int .i64 q, .int .i64 k] w fun e w' => e = .returned (.int .u8 36) ∧ w' = w := by
  have h1 : ¬ p < 0 := by omega
  have h2 : ¬ k < 0 := by omega
  have h3 : ¬ q ≤ p := by omega
  have h4 : ¬ p = wrap64 (q - 1) := by rw [IntWalk.wrap64_in _ (by omega)]; omega
  have h5 : Int.tmod p 4 = 3 := by rw [Int.tmod_eq_emod_of_nonneg hp]; exact h
  have h6 : Int.tmod k 3 = 2 := by rw [Int.tmod_eq_emod_of_nonneg hk]; exact hr
  have hi : Sem.run Try.prog (Instr.index 52 (Value.agg #[Value.int IntKind.u8 146, Value.int IntKind.u8 73, Value.int IntKind.u8 36]) (Value.int IntKind.i64 2)) w = .ok (.int .u8 36) w := by kernel_rfl
  go_enter Try.func12, Try.ntmps12
  go_wp2
  go_ret
  exact ⟨rfl, rfl⟩

/-- at most one literal was laid -/
def Once (w w' : World) : Prop := w' = w ∨ w' = w.alloc (Obj.cells #[Value.int IntKind.u8 146, Value.int IntKind.u8 73, Value.int IntKind.u8 36] 5)
theorem rbyteS_30 (s p q k : Int) (hp : 0 ≤ p) (hq : p + 1 < q) (hq2 : q ≤ 9223372036854775807) (hk : 0 ≤ k) (h : p % 4 = 3) (hr : k % 3 = 0) (w : World) : Calls Try.prog 15 #[.int .u64 s, .int .i64 p, .int .i64 q, .int .i64 k] w fun e w' => e = .returned (.int .u8 146) ∧ Once w w' := by
  have h1 : ¬ p < 0 := by omega
  have h2 : ¬ k < 0 := by omega
  have h3 : ¬ q ≤ p := by omega
  have h4 : ¬ p = wrap64 (q - 1) := by rw [IntWalk.wrap64_in _ (by omega)]; omega
  have h5 : Int.tmod p 4 = 3 := by rw [Int.tmod_eq_emod_of_nonneg hp]; exact h
  have h6 : Int.tmod k 3 = 0 := by rw [Int.tmod_eq_emod_of_nonneg hk]; exact hr
  go_enter Try.func15, Try.ntmps15
  go_wp2
  refine bodyPost_ret (results_tmp rfl _ _ _) rfl ?_
  exact ⟨rfl, .inr rfl⟩
theorem rbyteS_31 (s p q k : Int) (hp : 0 ≤ p) (hq : p + 1 < q) (hq2 : q ≤ 9223372036854775807) (hk : 0 ≤ k) (h : p % 4 = 3) (hr : k % 3 = 1) (w : World) : Calls Try.prog 15 #[.int .u64 s, .int .i64 p, .int .i64 q, .int .i64 k] w fun e w' => e = .returned (.int .u8 73) ∧ Once w w' := by
  have h1 : ¬ p < 0 := by omega
  have h2 : ¬ k < 0 := by omega
  have h3 : ¬ q ≤ p := by omega
  have h4 : ¬ p = wrap64 (q - 1) := by rw [IntWalk.wrap64_in _ (by omega)]; omega
  have h5 : Int.tmod p 4 = 3 := by rw [Int.tmod_eq_emod_of_nonneg hp]; exact h
  have h6 : Int.tmod k 3 = 1 := by rw [Int.tmod_eq_emod_of_nonneg hk]; exact hr
  go_enter Try.func15, Try.ntmps15
  go_wp2
  refine bodyPost_ret (results_tmp rfl _ _ _) rfl ?_
  exact ⟨rfl, .inr rfl⟩
theorem rbyteS_32 (s p q k : Int) (hp : 0 ≤ p) (hq : p + 1 < q) (hq2 : q ≤ 9223372036854775807) (hk : 0 ≤ k) (h : p % 4 = 3) (hr : k % 3 = 2) (w : World) : Calls Try.prog 15 #[.int .u64 s, .int .i64 p, .int .i64 q, .int .i64 k] w fun e w' => e = .returned (.int .u8 36) ∧ Once w w' := by
  have h1 : ¬ p < 0 := by omega
  have h2 : ¬ k < 0 := by omega
  have h3 : ¬ q ≤ p := by omega
  have h4 : ¬ p = wrap64 (q - 1) := by rw [IntWalk.wrap64_in _ (by omega)]; omega
  have h5 : Int.tmod p 4 = 3 := by rw [Int.tmod_eq_emod_of_nonneg hp]; exact h
  have h6 : Int.tmod k 3 = 2 := by rw [Int.tmod_eq_emod_of_nonneg hk]; exact hr
  go_enter Try.func15, Try.ntmps15
  go_wp2
  refine bodyPost_ret (results_tmp rfl _ _ _) rfl ?_
  exact ⟨rfl, .inr rfl⟩

theorem byteS_walk (s p q k : Int) (hq : q ≤ 9223372036854775807) (w : World) : Calls Try.prog 12 #[.int .u64 s, .int .i64 p, .int .i64 q, .int .i64 k] w fun e w' => e = .returned (.int .u8 (byteI s p q k)) ∧ w' = w := by
  have same : ∀ {e : Ending} {w' : World} {x : Value}, e = .returned x ∧ w' = w → e = .returned x ∧ w' = w := by rintro e w' x ⟨h, rfl⟩; exact ⟨h, rfl⟩
  by_cases h : p < 0 ∨ q ≤ p ∨ k < 0
  · rw [show byteI s p q k = 0 from if_pos h]
    exact (byte_no s p q k h w).mono fun e w' h => same h
  · by_cases h1 : p + 1 = q
    · subst h1
      rw [show byteI s p (p + 1) k = noiseI s p k from (if_neg h).trans (if_pos rfl)]
      exact (byte_last s p k (by omega) (by omega) (by omega) w).mono fun e w' h => same h
    · by_cases h2 : p % 4 = 1
      · rw [show byteI s p q k = 85 from (if_neg h).trans ((if_neg h1).trans (if_pos h2))]
        exact (byte_1 s p q k (by omega) (by omega) hq (by omega) h2 w).mono fun e w' h => same h
      · by_cases h3 : p % 4 = 2
        · rw [show byteI s p q k = 170 from (if_neg h).trans ((if_neg h1).trans ((if_neg h2).trans (if_pos h3)))]
          exact (byte_2 s p q k (by omega) (by omega) hq (by omega) h3 w).mono fun e w' h => same h
        · by_cases h4 : p % 4 = 0
          · rw [show byteI s p q k = noiseI s p k from (if_neg h).trans ((if_neg h1).trans ((if_neg h2).trans ((if_neg h3).trans (if_pos h4))))]
            exact (byte_0 s p q k (by omega) (by omega) hq (by omega) h4 w).mono fun e w' h => same h
          · by_cases h5 : k % 3 = 0
            · rw [show byteI s p q k = 146 from (if_neg h).trans ((if_neg h1).trans ((if_neg h2).trans ((if_neg h3).trans ((if_neg h4).trans (if_pos h5)))))]
              exact byteS_30 s p q k (by omega) (by omega) hq (by omega) (by omega) h5 w
            · by_cases h6 : k % 3 = 1
              · rw [show byteI s p q k = 73 from (if_neg h).trans ((if_neg h1).trans ((if_neg h2).trans ((if_neg h3).trans ((if_neg h4).trans ((if_neg h5).trans (if_pos h6))))))]
                exact byteS_31 s p q k (by omega) (by omega) hq (by omega) (by omega) h6 w
              · rw [show byteI s p q k = 36 from (if_neg h).trans ((if_neg h1).trans ((if_neg h2).trans ((if_neg h3).trans ((if_neg h4).trans ((if_neg h5).trans (if_neg h6))))))]
                exact byteS_32 s p q k (by omega) (by omega) hq (by omega) (by omega) (by omega) w

theorem rbyteS_walk (s p q k : Int) (hq : q ≤ 9223372036854775807) (w : World) : Calls Try.prog 15 #[.int .u64 s, .int .i64 p, .int .i64 q, .int .i64 k] w fun e w' => e = .returned (.int .u8 (byteI s p q k)) ∧ Once w w' := by
  have same : ∀ {e : Ending} {w' : World} {x : Value}, e = .returned x ∧ w' = w → e = .returned x ∧ Once w w' := by rintro e w' x ⟨h, rfl⟩; exact ⟨h, .inl rfl⟩
  by_cases h : p < 0 ∨ q ≤ p ∨ k < 0
  · rw [show byteI s p q k = 0 from if_pos h]
    exact (rbyte_no s p q k h w).mono fun e w' h => same h
  · by_cases h1 : p + 1 = q
    · subst h1
      rw [show byteI s p (p + 1) k = noiseI s p k from (if_neg h).trans (if_pos rfl)]
      exact (rbyte_last s p k (by omega) (by omega) (by omega) w).mono fun e w' h => same h
    · by_cases h2 : p % 4 = 1
      · rw [show byteI s p q k = 85 from (if_neg h).trans ((if_neg h1).trans (if_pos h2))]
        exact (rbyte_1 s p q k (by omega) (by omega) hq (by omega) h2 w).mono fun e w' h => same h
      · by_cases h3 : p % 4 = 2
        · rw [show byteI s p q k = 170 from (if_neg h).trans ((if_neg h1).trans ((if_neg h2).trans (if_pos h3)))]
          exact (rbyte_2 s p q k (by omega) (by omega) hq (by omega) h3 w).mono fun e w' h => same h
        · by_cases h4 : p % 4 = 0
          · rw [show byteI s p q k = noiseI s p k from (if_neg h).trans ((if_neg h1).trans ((if_neg h2).trans ((if_neg h3).trans (if_pos h4))))]
            exact (rbyte_0 s p q k (by omega) (by omega) hq (by omega) h4 w).mono fun e w' h => same h
          · by_cases h5 : k % 3 = 0
            · rw [show byteI s p q k = 146 from (if_neg h).trans ((if_neg h1).trans ((if_neg h2).trans ((if_neg h3).trans ((if_neg h4).trans (if_pos h5)))))]
              exact rbyteS_30 s p q k (by omega) (by omega) hq (by omega) (by omega) h5 w
            · by_cases h6 : k % 3 = 1
              · rw [show byteI s p q k = 73 from (if_neg h).trans ((if_neg h1).trans ((if_neg h2).trans ((if_neg h3).trans ((if_neg h4).trans ((if_neg h5).trans (if_pos h6))))))]
                exact rbyteS_31 s p q k (by omega) (by omega) hq (by omega) (by omega) h6 w
              · rw [show byteI s p q k = 36 from (if_neg h).trans ((if_neg h1).trans ((if_neg h2).trans ((if_neg h3).trans ((if_neg h4).trans ((if_neg h5).trans (if_neg h6))))))]
                exact rbyteS_32 s p q k (by omega) (by omega) hq (by omega) (by omega) (by omega) w

theorem Once.below {w w' : World} (h : Once w w') : Below w.heap.size w w' := by
  rcases h with rfl | rfl
  · exact Below.refl _ _
  · exact (Below.refl _ w).alloc (Nat.le_refl _) _
end Go.Proofs.Ytmefkfilclkgeaa.pattern
