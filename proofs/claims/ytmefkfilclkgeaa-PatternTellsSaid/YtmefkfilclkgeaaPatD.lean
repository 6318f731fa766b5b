import Derived.Test.YtmefkfilclkgeaaPatC
import Derived.Maps.AppendAt
namespace Go.Proofs.Ytmefkfilclkgeaa.pattern
open Go.ChangeShapes Go.WideShapes Go.ChangeAt Go.RowKit
set_option linter.unusedVariables false
theorem rbytes_none (s p q pos n : Int) (h : pos < 0 ∨ n < 0 ∨ 4096 < n ∨ 1099511627776 < pos) (w : World) :
    Calls Try.prog 16 #[.int .u64 s, .int .i64 p, .int .i64 q, .int .i64 pos, .int .i64 n] w (Got w []) := by
  have fin : Got w [] (.returned (.slice none 0 0)) w := ⟨_, rfl, World.ownsRow_nil _ _ _ _, Below.refl _ _⟩
  by_cases a1 : pos < 0
  · clear h
    go_enter Try.func16, Try.ntmps16
    go_wp2
    go_ret
    exact fin
  by_cases a2 : n < 0
  · clear h
    go_enter Try.func16, Try.ntmps16
    go_wp2
    go_ret
    exact fin
  by_cases a3 : n > 4096
  · clear h
    go_enter Try.func16, Try.ntmps16
    go_wp2
    go_ret
    exact fin
  have a4 : pos > 1099511627776 := by omega
  clear h
  go_enter Try.func16, Try.ntmps16
  go_wp2
  go_ret
  exact fin
/-- the relation of the loop -/
def Grew (w : World) (s p q pos : Int) (n : Nat) (v i : Value) (wr : World) : Prop :=
  ∃ k : Nat, k ≤ n ∧ i = .int .i64 k ∧ wr.ownsRow w.heap.size 5 1 v k ((bytesI s p q pos k).map (Value.int .u8)) ∧ Below w.heap.size w wr
theorem bytesI_snoc (s p q pos : Int) (k : Nat) : (bytesI s p q pos (k + 1)).map (Value.int .u8) = (bytesI s p q pos k).map (Value.int .u8) ++ [.int .u8 (byteI s p q (pos + (k : Int)))] := by
  simp [bytesI, List.range_succ]
theorem Once.owns {w w' : World} (h : Once w w') {B e n : Nat} {v : Value} {xs : List Value} (o : w.ownsRow B e 1 v n xs) : w'.ownsRow B e 1 v n xs := by
  rcases h with rfl | rfl
  · exact o
  · exact o.alloc _
theorem rbytes_walk (s p q pos : Int) (n : Nat) (hn : n ≤ 4096) (h0 : 0 ≤ pos) (h1 : pos ≤ 1099511627776) (hq : q ≤ 9223372036854775807) (w : World) :
    Calls Try.prog 16 #[.int .u64 s, .int .i64 p, .int .i64 q, .int .i64 pos, .int .i64 n] w (Got w (bytesI s p q pos n)) := by
  obtain ⟨i0, hi, hz0, hz1, hz2⟩ := info_parts info5
  have a1 : ¬ pos < 0 := by omega
  have a2 : ¬ ((n : Int) < 0) := by omega
  have a3 : ¬ ((n : Int) > 4096) := by omega
  have a4 : ¬ (pos > 1099511627776) := by omega
  go_enter Try.func16, Try.ntmps16
  go_wp2
  go_loopw [11, 12] (fun v i wr => Grew w s p q pos n v i wr) (fun _ i _ => n - (intOf i).toNat)
  case atStart => exact ⟨0, by omega, rfl, World.ownsRow_nil _ _ _ _, Below.refl _ _⟩
  case round =>
    obtain ⟨k, hk, rfl, hrow, hB⟩ := hrel
    by_cases hlt : k < n
    · go_wp2_with (first
        | (go_at_call 15; refine (rbyteS_walk _ _ _ _ hq _).mono ?_; rintro e w1 ⟨rfl, ho⟩; have hrow1 := ho.owns hrow; have hB1 := hB.trans (ho.below.mono hB.size); clear ho)
        | (at_builtin; refine wpList_append_own _ rfl _ _ 22 rfl w.heap.size 5 i0 (.int .u8 0) 1 1 Try.underlying22 hi hz0 hz1 hz2 rfl (by decide) _ _ _ rfl (hrow1.alloc _) ⟨w1.heap.size, 0, none⟩ 1 1 [.int .u8 (byteI s p q (pos + (k : Int)))] rfl rfl (cell_one_new _ _ _) (by simp [Value.oneCell']) (by unfold maxLen; omega) (by omega) (by have := hB1.size; simp; omega) ?_; intro v' w2 hown' hgrow _))
      rw [← bytesI_snoc] at hown'
      exact ⟨⟨k + 1, by omega, by simp, hown', (hB1.alloc hB1.size _).grown hgrow (by have := hB1.size; simp; omega) (fun k e => (hrow1.lt k e).1)⟩, by simp [intOf]; omega⟩
    · obtain rfl : k = n := by omega
      go_wp2
      go_ret
      refine ⟨_, rfl, ?_, hB⟩
      have e : (bytesI s p q pos k).length = k := by simp [bytesI]
      rw [e]; exact hrow
end Go.Proofs.Ytmefkfilclkgeaa.pattern
