import Derived.Test.YtmefkfilclkgeaaRows
import Derived.WalkKit
import Derived.ProofKit
import Derived.OpenShut
import Derived.KernelRfl
import Derived.Below
namespace Go.Proofs.Ytmefkfilclkgeaa.pattern
open Go.ChangeShapes Go.WideShapes Go.ChangeAt Go.RowKit
set_option linter.unusedVariables false
def mixI (z : Int) : Int :=
  let z1 := IntKind.u64.wrap (bits BinOp.xor IntKind.u64 z (z / 1073741824) * 13787848793156543929)
  let z2 := IntKind.u64.wrap (bits BinOp.xor IntKind.u64 z1 (z1 / 134217728) * 10723151780598845931)
  bits BinOp.xor IntKind.u64 z2 (z2 / 2147483648)
def wordI (s p k : Int) : Int := mixI (IntKind.u64.wrap (IntKind.u64.wrap (s + IntKind.u64.wrap (IntKind.u64.wrap (wrap64 (k + 1)) * 11400714819323198485)) + IntKind.u64.wrap (IntKind.u64.wrap p * 15111065706836454659)))
def noiseI (s p k : Int) : Int := wordI s p (wrap64 (k.tdiv 8)) / 2 ^ (8 * (k % 8)).toNat % 256
theorem twice (q : Int) : IntKind.u64.wrap (IntKind.u64.wrap q + 1) = IntKind.u64.wrap (wrap64 (q + 1)) := by
  unfold wrap64
  simp only [IntKind.wrap_u64]
  omega
set_option maxRecDepth 100000 in
theorem word_walk (s p k : Int) (w : World) : Calls Try.prog 29 #[.int .u64 s, .int .i64 p, .int .i64 k] w fun e w' => e = .returned (.int .u64 (wordI s p k)) ∧ w' = w := by
  go_enter Try.func29, Try.ntmps29
  go_wp2
  go_ret
  exact ⟨by kernel_rfl, rfl⟩
theorem noise_walk (s p k : Int) (hp : 0 ≤ p) (hk : 0 ≤ k) (w : World) : Calls Try.prog 13 #[.int .u64 s, .int .i64 p, .int .i64 k] w fun e w' => e = .returned (.int .u8 (noiseI s p k)) ∧ w' = w := by
  have h1 : ¬ p < 0 := by omega
  have h2 : ¬ k < 0 := by omega
  go_enter Try.func13, Try.ntmps13
  go_wp2_with (go_at_call 29; refine (word_walk _ _ _ _).mono ?_; rintro e w' ⟨rfl, rfl⟩)
  go_ret
  exact ⟨rfl, rfl⟩
theorem rnoise_walk (s p k : Int) (hp : 0 ≤ p) (hk : 0 ≤ k) (w : World) : Calls Try.prog 14 #[.int .u64 s, .int .i64 p, .int .i64 k] w fun e w' => e = .returned (.int .u8 (noiseI s p k)) ∧ w' = w := by
  have h1 : ¬ p < 0 := by omega
  have h2 : ¬ k < 0 := by omega
  have e : noiseI s p k = noiseI s p k := rfl
  conv at e => rhs; unfold noiseI wordI
  rw [← twice] at e
  rw [e]
  clear e
  go_enter Try.func14, Try.ntmps14
  go_wp2
  go_ret
  exact ⟨by kernel_rfl, rfl⟩
theorem noise_no (s p k : Int) (h : p < 0 ∨ k < 0) (w : World) : Calls Try.prog 13 #[.int .u64 s, .int .i64 p, .int .i64 k] w fun e w' => e = .returned (.int .u8 0) ∧ w' = w := by
  by_cases h1 : p < 0
  · go_enter Try.func13, Try.ntmps13
    go_wp2
    go_ret
    exact ⟨rfl, rfl⟩
  · have h2 : k < 0 := by omega
    clear h
    go_enter Try.func13, Try.ntmps13
    go_wp2
    go_ret
    exact ⟨rfl, rfl⟩
theorem rnoise_no (s p k : Int) (h : p < 0 ∨ k < 0) (w : World) : Calls Try.prog 14 #[.int .u64 s, .int .i64 p, .int .i64 k] w fun e w' => e = .returned (.int .u8 0) ∧ w' = w := by
  by_cases h1 : p < 0
  · go_enter Try.func14, Try.ntmps14
    go_wp2
    go_ret
    exact ⟨rfl, rfl⟩
  · have h2 : k < 0 := by omega
    clear h
    go_enter Try.func14, Try.ntmps14
    go_wp2
    go_ret
    exact ⟨rfl, rfl⟩

theorem byte_no (s p q k : Int) (h : p < 0 ∨ q ≤ p ∨ k < 0) (w : World) : Calls Try.prog 12 #[.int .u64 s, .int .i64 p, .int .i64 q, .int .i64 k] w fun e w' => e = .returned (.int .u8 0) ∧ w' = w := by
  by_cases h1 : p < 0
  · go_enter Try.func12, Try.ntmps12
    go_wp2
    go_ret
    exact ⟨rfl, rfl⟩
  · by_cases h2 : q ≤ p
    · clear h
      go_enter Try.func12, Try.ntmps12
      go_wp2
      go_ret
      exact ⟨rfl, rfl⟩
    · have h3 : k < 0 := by omega
      clear h
      go_enter Try.func12, Try.ntmps12
      go_wp2
      go_ret
      exact ⟨rfl, rfl⟩
theorem byte_last (s p k : Int) (hp : 0 ≤ p) (hp2 : p < 9223372036854775807) (hk : 0 ≤ k) (w : World) : Calls Try.prog 12 #[.int .u64 s, .int .i64 p, .int .i64 (p + 1), .int .i64 k] w fun e w' => e = .returned (.int .u8 (noiseI s p k)) ∧ w' = w := by
  have h1 : ¬ p < 0 := by omega
  have h2 : ¬ k < 0 := by omega
  have h3 : ¬ p + 1 ≤ p := by omega
  have h4 : wrap64 (p + 1 - 1) = p := by rw [IntWalk.wrap64_in _ (by omega)]; omega
  go_enter Try.func12, Try.ntmps12
  go_wp2_with (go_at_call 13; refine (noise_walk _ _ _ hp hk _).mono ?_; rintro e w' ⟨rfl, rfl⟩)
  go_ret
  exact ⟨rfl, rfl⟩

theorem rbyte_no (s p q k : Int) (h : p < 0 ∨ q ≤ p ∨ k < 0) (w : World) : Calls Try.prog 15 #[.int .u64 s, .int .i64 p, .int .i64 q, .int .i64 k] w fun e w' => e = .returned (.int .u8 0) ∧ w' = w := by
  by_cases h1 : p < 0
  · go_enter Try.func15, Try.ntmps15
    go_wp2
    go_ret
    exact ⟨rfl, rfl⟩
  · by_cases h2 : q ≤ p
    · clear h
      go_enter Try.func15, Try.ntmps15
      go_wp2
      go_ret
      exact ⟨rfl, rfl⟩
    · have h3 : k < 0 := by omega
      clear h
      go_enter Try.func15, Try.ntmps15
      go_wp2
      go_ret
      exact ⟨rfl, rfl⟩
theorem rbyte_last (s p k : Int) (hp : 0 ≤ p) (hp2 : p < 9223372036854775807) (hk : 0 ≤ k) (w : World) : Calls Try.prog 15 #[.int .u64 s, .int .i64 p, .int .i64 (p + 1), .int .i64 k] w fun e w' => e = .returned (.int .u8 (noiseI s p k)) ∧ w' = w := by
  have h1 : ¬ p < 0 := by omega
  have h2 : ¬ k < 0 := by omega
  have h3 : ¬ p + 1 ≤ p := by omega
  have h4 : wrap64 (p + 1 - 1) = p := by rw [IntWalk.wrap64_in _ (by omega)]; omega
  go_enter Try.func15, Try.ntmps15
  go_wp2_with (go_at_call 14; refine (rnoise_walk _ _ _ hp hk _).mono ?_; rintro e w' ⟨rfl, rfl⟩)
  go_ret
  exact ⟨rfl, rfl⟩

theorem byte_1 (s p q k : Int) (hp : 0 ≤ p) (hq : p + 1 < q) (hq2 : q ≤ 9223372036854775807) (hk : 0 ≤ k) (h : p % 4 = 1) (w : World) : Calls Try.prog 12 #[.int .u64 s, .int .i64 p, .int .i64 q, .int .i64 k] w fun e w' => e = .returned (.int .u8 85) ∧ w' = w := by
  have h1 : ¬ p < 0 := by omega
  have h2 : ¬ k < 0 := by omega
  have h3 : ¬ q ≤ p := by omega
  have h4 : ¬ p = wrap64 (q - 1) := by rw [IntWalk.wrap64_in _ (by omega)]; omega
  have h5 : Int.tmod p 4 = 1 := by rw [Int.tmod_eq_emod_of_nonneg hp]; exact h
  go_enter Try.func12, Try.ntmps12
  go_wp2
  go_ret
  exact ⟨rfl, rfl⟩
theorem byte_2 (s p q k : Int) (hp : 0 ≤ p) (hq : p + 1 < q) (hq2 : q ≤ 9223372036854775807) (hk : 0 ≤ k) (h : p % 4 = 2) (w : World) : Calls Try.prog 12 #[.int .u64 s, .int .i64 p, .int .i64 q, .int .i64 k] w fun e w' => e = .returned (.int .u8 170) ∧ w' = w := by
  have h1 : ¬ p < 0 := by omega
  have h2 : ¬ k < 0 := by omega
  have h3 : ¬ q ≤ p := by omega
  have h4 : ¬ p = wrap64 (q - 1) := by rw [IntWalk.wrap64_in _ (by omega)]; omega
  have h5 : Int.tmod p 4 = 2 := by rw [Int.tmod_eq_emod_of_nonneg hp]; exact h
  go_enter Try.func12, Try.ntmps12
  go_wp2
  go_ret
  exact ⟨rfl, rfl⟩
theorem byte_0 (s p q k : Int) (hp : 0 ≤ p) (hq : p + 1 < q) (hq2 : q ≤ 9223372036854775807) (hk : 0 ≤ k) (h : p % 4 = 0) (w : World) : Calls Try.prog 12 #[.int .u64 s, .int .i64 p, .int .i64 q, .int .i64 k] w fun e w' => e = .returned (.int .u8 (noiseI s p k)) ∧ w' = w := by
  have h1 : ¬ p < 0 := by omega
  have h2 : ¬ k < 0 := by omega
  have h3 : ¬ q ≤ p := by omega
  have h4 : ¬ p = wrap64 (q - 1) := by rw [IntWalk.wrap64_in _ (by omega)]; omega
  have h5 : Int.tmod p 4 = 0 := by rw [Int.tmod_eq_emod_of_nonneg hp]; exact h
  go_enter Try.func12, Try.ntmps12
  go_wp2_with (go_at_call 13; refine (noise_walk _ _ _ hp hk _).mono ?_; rintro e w' ⟨rfl, rfl⟩)
  go_ret
  exact ⟨rfl, rfl⟩
theorem byte_30 (s p q k : Int) (hp : 0 ≤ p) (hq : p + 1 < q) (hq2 : q ≤ 9223372036854775807) (hk : 0 ≤ k) (h : p % 4 = 3) (hr : k % 3 = 0) (w : World) : Calls Try.prog 12 #[.int .u64 s, .int .i64 p, .int .i64 q, .int .i64 k] w fun e w' => e = .returned (.int .u8 146) ∧ Below w.heap.size w w' := by
  have h1 : ¬ p < 0 := by omega
  have h2 : ¬ k < 0 := by omega
  have h3 : ¬ q ≤ p := by omega
  have h4 : ¬ p = wrap64 (q - 1) := by rw [IntWalk.wrap64_in _ (by omega)]; omega
  have h5 : Int.tmod p 4 = 3 := by rw [Int.tmod_eq_emod_of_nonneg hp]; exact h
  have h6 : Int.tmod k 3 = 0 := by rw [Int.tmod_eq_emod_of_nonneg hk]; exact hr
  have hi : Sem.run Try.prog (Instr.index 52 (Value.agg #[Value.int IntKind.u8 146, Value.int IntKind.u8 73, Value.int IntKind.u8 36]) (Value.int IntKind.i64 0)) w = .ok (.int .u8 146) w := by kernel_rfl
  go_enter Try.func12, Try.ntmps12
  go_wp2
  go_ret
  exact ⟨rfl, Below.refl _ _⟩
theorem byte_31 (s p q k : Int) (hp : 0 ≤ p) (hq : p + 1 < q) (hq2 : q ≤ 9223372036854775807) (hk : 0 ≤ k) (h : p % 4 = 3) (hr : k % 3 = 1) (w : World) : Calls Try.prog 12 #[.int .u64 s, .int .i64 p, .int .i64 q, .int .i64 k] w fun e w' => e = .returned (.int .u8 73) ∧ Below w.heap.size w w' := by
  have h1 : ¬ p < 0 := by omega
  have h2 : ¬ k < 0 := by omega
  have h3 : ¬ q ≤ p := by omega
  have h4 : ¬ p = wrap64 (q - 1) := by rw [IntWalk.wrap64_in _ (by omega)]; omega
  have h5 : Int.tmod p 4 = 3 := by rw [Int.tmod_eq_emod_of_nonneg hp]; exact h
  have h6 : Int.tmod k 3 = 1 := by rw [Int.tmod_eq_emod_of_nonneg hk]; exact hr
  have hi : Sem.run Try.prog (Instr.index 52 (Value.agg #[Value.int IntKind.u8 146, Value.int IntKind.u8 73, Value.int IntKind.u8 36]) (Value.int IntKind.i64 1)) w = .ok (.int .u8 73) w := by kernel_rfl
  go_enter Try.func12, Try.ntmps12
  go_wp2
  go_ret
  exact ⟨rfl, Below.refl _ _⟩
theorem byte_32 (s p q k : Int) (hp : 0 ≤ p) (hq : p + 1 < q) (hq2 : q ≤ 9223372036854775807) (hk : 0 ≤ k) (h : p % 4 = 3) (hr : k % 3 = 2) (w : World) : Calls Try.prog 12 #[.int .u64 s, .int .i64 p, .int .i64 q, .int .i64 k] w fun e w' => e = .returned (.int .u8 36) ∧ Below w.heap.size w w' := by
  have h1 : ¬ p < 0 := by omega
  have h2 : ¬ k < 0 := by omega
  have h3 : ¬ q ≤ p := by omega
  have h4 : ¬ p = wrap64 (q - 1) := by rw [IntWalk.wrap64_in _ (by omega)]; omega
  have h5 : Int.tmod p 4 = 3 := by rw [Int.tmod_eq_emod_of_nonneg hp]; exact h
  have h6 : Int.tmod k 3 = 2 := by rw [Int.tmod_eq_emod_of_nonneg hk]; exact hr
  have hi : Sem.run Try.prog (Instr.index 52 (Value.agg #[Value.int IntKind.u8 146, Value.int IntKind.u8 73, Value.int IntKind.u8 36]) (Value.int IntKind.i64 2)) w = .ok (.int .u8 36) w := by kernel_rfl
  go_enter Try.func12, Try.ntmps12
  go_wp2
  go_ret
  exact ⟨rfl, Below.refl _ _⟩

theorem rbyte_1 (s p q k : Int) (hp : 0 ≤ p) (hq : p + 1 < q) (hq2 : q ≤ 9223372036854775807) (hk : 0 ≤ k) (h : p % 4 = 1) (w : World) : Calls Try.prog 15 #[.int .u64 s, .int .i64 p, .int .i64 q, .int .i64 k] w fun e w' => e = .returned (.int .u8 85) ∧ w' = w := by
  have h1 : ¬ p < 0 := by omega
  have h2 : ¬ k < 0 := by omega
  have h3 : ¬ q ≤ p := by omega
  have h4 : ¬ p = wrap64 (q - 1) := by rw [IntWalk.wrap64_in _ (by omega)]; omega
  have h5 : Int.tmod p 4 = 1 := by rw [Int.tmod_eq_emod_of_nonneg hp]; exact h
  go_enter Try.func15, Try.ntmps15
  go_wp2
  go_ret
  exact ⟨rfl, rfl⟩
theorem rbyte_2 (s p q k : Int) (hp : 0 ≤ p) (hq : p + 1 < q) (hq2 : q ≤ 9223372036854775807) (hk : 0 ≤ k) (h : p % 4 = 2) (w : World) : Calls Try.prog 15 #[.int .u64 s, .int .i64 p, .int .i64 q, .int .i64 k] w fun e w' => e = .returned (.int .u8 170) ∧ w' = w := by
  have h1 : ¬ p < 0 := by omega
  have h2 : ¬ k < 0 := by omega
  have h3 : ¬ q ≤ p := by omega
  have h4 : ¬ p = wrap64 (q - 1) := by rw [IntWalk.wrap64_in _ (by omega)]; omega
  have h5 : Int.tmod p 4 = 2 := by rw [Int.tmod_eq_emod_of_nonneg hp]; exact h
  go_enter Try.func15, Try.ntmps15
  go_wp2
  go_ret
  exact ⟨rfl, rfl⟩
theorem rbyte_0 (s p q k : Int) (hp : 0 ≤ p) (hq : p + 1 < q) (hq2 : q ≤ 9223372036854775807) (hk : 0 ≤ k) (h : p % 4 = 0) (w : World) : Calls Try.prog 15 #[.int .u64 s, .int .i64 p, .int .i64 q, .int .i64 k] w fun e w' => e = .returned (.int .u8 (noiseI s p k)) ∧ w' = w := by
  have h1 : ¬ p < 0 := by omega
  have h2 : ¬ k < 0 := by omega
  have h3 : ¬ q ≤ p := by omega
  have h4 : ¬ p = wrap64 (q - 1) := by rw [IntWalk.wrap64_in _ (by omega)]; omega
  have h5 : Int.tmod p 4 = 0 := by rw [Int.tmod_eq_emod_of_nonneg hp]; exact h
  go_enter Try.func15, Try.ntmps15
  go_wp2_with (go_at_call 14; refine (rnoise_walk _ _ _ hp hk _).mono ?_; rintro e w' ⟨rfl, rfl⟩)
  go_ret
  exact ⟨rfl, rfl⟩
theorem rbyte_30 (s p q k : Int) (hp : 0 ≤ p) (hq : p + 1 < q) (hq2 : q ≤ 9223372036854775807) (hk : 0 ≤ k) (h : p % 4 = 3) (hr : k % 3 = 0) (w : World) : Calls Try.prog 15 #[.int .u64 s, .int .i64 p, .int .i64 q, .int .i64 k] w fun e w' => e = .returned (.int .u8 146) ∧ Below w.heap.size w w' := by
  have h1 : ¬ p < 0 := by omega
  have h2 : ¬ k < 0 := by omega
  have h3 : ¬ q ≤ p := by omega
  have h4 : ¬ p = wrap64 (q - 1) := by rw [IntWalk.wrap64_in _ (by omega)]; omega
  have h5 : Int.tmod p 4 = 3 := by rw [Int.tmod_eq_emod_of_nonneg hp]; exact h
  have h6 : Int.tmod k 3 = 0 := by rw [Int.tmod_eq_emod_of_nonneg hk]; exact hr
  go_enter Try.func15, Try.ntmps15
  go_wp2
  refine bodyPost_ret (results_tmp rfl _ _ _) rfl ?_
  exact ⟨rfl, (Below.refl _ w).alloc (Nat.le_refl _) _⟩
theorem rbyte_31 (s p q k : Int) (hp : 0 ≤ p) (hq : p + 1 < q) (hq2 : q ≤ 9223372036854775807) (hk : 0 ≤ k) (h : p % 4 = 3) (hr : k % 3 = 1) (w : World) : Calls Try.prog 15 #[.int .u64 s, .int .i64 p, .int .i64 q, .int .i64 k] w fun e w' => e = .returned (.int .u8 73) ∧ Below w.heap.size w w' := by
  have h1 : ¬ p < 0 := by omega
  have h2 : ¬ k < 0 := by omega
  have h3 : ¬ q ≤ p := by omega
  have h4 : ¬ p = wrap64 (q - 1) := by rw [IntWalk.wrap64_in _ (by omega)]; omega
  have h5 : Int.tmod p 4 = 3 := by rw [Int.tmod_eq_emod_of_nonneg hp]; exact h
  have h6 : Int.tmod k 3 = 1 := by rw [Int.tmod_eq_emod_of_nonneg hk]; exact hr
  go_enter Try.func15, Try.ntmps15
  go_wp2
  refine bodyPost_ret (results_tmp rfl _ _ _) rfl ?_
  exact ⟨rfl, (Below.refl _ w).alloc (Nat.le_refl _) _⟩
theorem rbyte_32 (s p q k : Int) (hp : 0 ≤ p) (hq : p + 1 < q) (hq2 : q ≤ 9223372036854775807) (hk : 0 ≤ k) (h : p % 4 = 3) (hr : k % 3 = 2) (w : World) : Calls Try.prog 15 #[.int .u64 s, .int .i64 p, .int .i64 q, .int .i64 k] w fun e w' => e = .returned (.int .u8 36) ∧ Below w.heap.size w w' := by
  have h1 : ¬ p < 0 := by omega
  have h2 : ¬ k < 0 := by omega
  have h3 : ¬ q ≤ p := by omega
  have h4 : ¬ p = wrap64 (q - 1) := by rw [IntWalk.wrap64_in _ (by omega)]; omega
  have h5 : Int.tmod p 4 = 3 := by rw [Int.tmod_eq_emod_of_nonneg hp]; exact h
  have h6 : Int.tmod k 3 = 2 := by rw [Int.tmod_eq_emod_of_nonneg hk]; exact hr
  go_enter Try.func15, Try.ntmps15
  go_wp2
  refine bodyPost_ret (results_tmp rfl _ _ _) rfl ?_
  exact ⟨rfl, (Below.refl _ w).alloc (Nat.le_refl _) _⟩

def byteI (s p q k : Int) : Int :=
  if p < 0 ∨ q ≤ p ∨ k < 0 then 0 else if p + 1 = q then noiseI s p k
  else if p % 4 = 1 then 85 else if p % 4 = 2 then 170 else if p % 4 = 0 then noiseI s p k else if k % 3 = 0 then 146 else if k % 3 = 1 then 73 else 36

theorem byte_walk (s p q k : Int) (hq : q ≤ 9223372036854775807) (w : World) : Calls Try.prog 12 #[.int .u64 s, .int .i64 p, .int .i64 q, .int .i64 k] w fun e w' => e = .returned (.int .u8 (byteI s p q k)) ∧ Below w.heap.size w w' := by
  have same : ∀ {e : Ending} {w' : World} {x : Value}, e = .returned x ∧ w' = w → e = .returned x ∧ Below w.heap.size w w' := by rintro e w' x ⟨h, rfl⟩; exact ⟨h, Below.refl _ _⟩
  by_cases h : p < 0 ∨ q ≤ p ∨ k < 0
  · rw [show byteI s p q k = 0 from if_pos h]
    exact (byte_no s p q k h w).mono fun e w' h => same h
  · by_cases h1 : p + 1 = q
    · subst h1
      rw [show byteI s p (p + 1) k = noiseI s p k from (if_neg h).trans (if_pos rfl)]
      exact (byte_last s p k (by omega) (by omega) (by omega) w).mono fun e w' h => same h
    · by_cases h2 : p % 4 = 1
      · rw [show byteI s p q k = 85 from (if_neg h).trans ((if_neg h1).trans (if_pos h2))]
        exact (byte_1 s p q k (by omega) (by omega) hq (by omega) h2 w).mono fun e w' h => same h
      · by_cases h3 : p % 4 = 2
        · rw [show byteI s p q k = 170 from (if_neg h).trans ((if_neg h1).trans ((if_neg h2).trans (if_pos h3)))]
          exact (byte_2 s p q k (by omega) (by omega) hq (by omega) h3 w).mono fun e w' h => same h
        · by_cases h4 : p % 4 = 0
          · rw [show byteI s p q k = noiseI s p k from (if_neg h).trans ((if_neg h1).trans ((if_neg h2).trans ((if_neg h3).trans (if_pos h4))))]
            exact (byte_0 s p q k (by omega) (by omega) hq (by omega) h4 w).mono fun e w' h => same h
          · by_cases h5 : k % 3 = 0
            · rw [show byteI s p q k = 146 from (if_neg h).trans ((if_neg h1).trans ((if_neg h2).trans ((if_neg h3).trans ((if_neg h4).trans (if_pos h5)))))]
              exact byte_30 s p q k (by omega) (by omega) hq (by omega) (by omega) h5 w
            · by_cases h6 : k % 3 = 1
              · rw [show byteI s p q k = 73 from (if_neg h).trans ((if_neg h1).trans ((if_neg h2).trans ((if_neg h3).trans ((if_neg h4).trans ((if_neg h5).trans (if_pos h6))))))]
                exact byte_31 s p q k (by omega) (by omega) hq (by omega) (by omega) h6 w
              · rw [show byteI s p q k = 36 from (if_neg h).trans ((if_neg h1).trans ((if_neg h2).trans ((if_neg h3).trans ((if_neg h4).trans ((if_neg h5).trans (if_neg h6))))))]
                exact byte_32 s p q k (by omega) (by omega) hq (by omega) (by omega) (by omega) w

theorem rbyte_walk (s p q k : Int) (hq : q ≤ 9223372036854775807) (w : World) : Calls Try.prog 15 #[.int .u64 s, .int .i64 p, .int .i64 q, .int .i64 k] w fun e w' => e = .returned (.int .u8 (byteI s p q k)) ∧ Below w.heap.size w w' := by
  have same : ∀ {e : Ending} {w' : World} {x : Value}, e = .returned x ∧ w' = w → e = .returned x ∧ Below w.heap.size w w' := by rintro e w' x ⟨h, rfl⟩; exact ⟨h, Below.refl _ _⟩
  by_cases h : p < 0 ∨ q ≤ p ∨ k < 0
  · rw [show byteI s p q k = 0 from if_pos h]
    exact (rbyte_no s p q k h w).mono fun e w' h => same h
  · by_cases h1 : p + 1 = q
    · subst h1
      rw [show byteI s p (p + 1) k = noiseI s p k from (if_neg h).trans (if_pos rfl)]
      exact (rbyte_last s p k (by omega) (by omega) (by omega) w).mono fun e w' h => same h
    · by_cases h2 : p % 4 = 1
      · rw [show byteI s p q k = 85 from (if_neg h).trans ((if_neg h1).trans (if_pos h2))]
        exact (rbyte_1 s p q k (by omega) (by omega) hq (by omega) h2 w).mono fun e w' h => same h
      · by_cases h3 : p % 4 = 2
        · rw [show byteI s p q k = 170 from (if_neg h).trans ((if_neg h1).trans ((if_neg h2).trans (if_pos h3)))]
          exact (rbyte_2 s p q k (by omega) (by omega) hq (by omega) h3 w).mono fun e w' h => same h
        · by_cases h4 : p % 4 = 0
          · rw [show byteI s p q k = noiseI s p k from (if_neg h).trans ((if_neg h1).trans ((if_neg h2).trans ((if_neg h3).trans (if_pos h4))))]
            exact (rbyte_0 s p q k (by omega) (by omega) hq (by omega) h4 w).mono fun e w' h => same h
          · by_cases h5 : k % 3 = 0
            · rw [show byteI s p q k = 146 from (if_neg h).trans ((if_neg h1).trans ((if_neg h2).trans ((if_neg h3).trans ((if_neg h4).trans (if_pos h5)))))]
              exact rbyte_30 s p q k (by omega) (by omega) hq (by omega) (by omega) h5 w
            · by_cases h6 : k % 3 = 1
              · rw [show byteI s p q k = 73 from (if_neg h).trans ((if_neg h1).trans ((if_neg h2).trans ((if_neg h3).trans ((if_neg h4).trans ((if_neg h5).trans (if_pos h6))))))]
                exact rbyte_31 s p q k (by omega) (by omega) hq (by omega) (by omega) h6 w
              · rw [show byteI s p q k = 36 from (if_neg h).trans ((if_neg h1).trans ((if_neg h2).trans ((if_neg h3).trans ((if_neg h4).trans ((if_neg h5).trans (if_neg h6))))))]
                exact rbyte_32 s p q k (by omega) (by omega) hq (by omega) (by omega) (by omega) w
end Go.Proofs.Ytmefkfilclkgeaa.pattern
