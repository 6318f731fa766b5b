import Derived.Test.YtmefkfilclkgeaaPatB
import Derived.LoopTactic
import Derived.OwnWalk
namespace Go.Proofs.Ytmefkfilclkgeaa.pattern
open Go.ChangeShapes Go.WideShapes Go.ChangeAt Go.RowKit
set_option linter.unusedVariables false
def bytesI (s p q pos : Int) (n : Nat) : List Int := (List.range n).map fun i : Nat => byteI s p q (pos + (i : Int))
/-- so many are there, the others are noughts yet -/
def partI (s p q pos : Int) (n k : Nat) : List Value := (List.range n).map fun i => if i < k then .int .u8 (byteI s p q (pos + (i : Int))) else .int .u8 0
theorem partI_zero (s p q pos : Int) (n : Nat) : partI s p q pos n 0 = List.replicate n (.int .u8 0) := by
  apply List.ext_getElem <;> simp [partI]
theorem partI_full (s p q pos : Int) (n : Nat) : partI s p q pos n n = (bytesI s p q pos n).map (Value.int .u8) := by
  apply List.ext_getElem
  · simp [partI, bytesI]
  · intro i h1 h2
    simp [partI, bytesI] at h1 ⊢
    exact fun h => absurd h (by omega)
theorem partI_set (s p q pos : Int) (n k : Nat) (hk : k < n) : (partI s p q pos n k).set k (.int .u8 (byteI s p q (pos + (k : Int)))) = partI s p q pos n (k + 1) := by
  apply List.ext_getElem
  · simp [partI]
  · intro i h1 h2
    simp [partI] at h1 ⊢
    rw [List.getElem_set]
    by_cases e : k = i
    · subst e; simp
    · rw [if_neg e]
      simp
      by_cases h : i < k
      · rw [if_pos h, if_pos (by omega)]
      · rw [if_neg h, if_neg (by omega)]
theorem partI_length (s p q pos : Int) (n k : Nat) : (partI s p q pos n k).length = n := by simp [partI]
/-- bytes came back, the call's own -/
def Got (w : World) (l : List Int) (e : Ending) (w' : World) : Prop :=
  ∃ v, e = .returned v ∧ w'.ownsRow w.heap.size 5 1 v l.length (l.map (Value.int .u8)) ∧ Below w.heap.size w w'
theorem info5 : (Try.prog.info? 5).map (fun i => (i.zero, i.size, i.bytes)) = some (some (.int .u8 0), 1, 1) := by kernel_rfl
/-- the relation of the loop -/
def Part (w : World) (s p q pos : Int) (n : Nat) (i : Value) (wr : World) : Prop :=
  ∃ k : Nat, k ≤ n ∧ i = .int .i64 k ∧ wr.ownsRow w.heap.size 5 1 (.slice (some ⟨w.heap.size, 0, none⟩) n n) n (partI s p q pos n k) ∧ Below w.heap.size w wr
theorem bytes_walk (s p q pos : Int) (n : Nat) (hn : n ≤ 4096) (h0 : 0 ≤ pos) (h1 : pos ≤ 1099511627776) (hq : q ≤ 9223372036854775807) (w : World) :
    Calls Try.prog 11 #[.int .u64 s, .int .i64 p, .int .i64 q, .int .i64 pos, .int .i64 n] w (Got w (bytesI s p q pos n)) := by
  obtain ⟨i0, hi, hz0, hz1, hz2⟩ := info_parts info5
  have a1 : ¬ pos < 0 := by omega
  have a2 : ¬ ((n : Int) < 0) := by omega
  have a3 : ¬ ((n : Int) > 4096) := by omega
  have a4 : ¬ (pos > 1099511627776) := by omega
  go_enter Try.func11, Try.ntmps11
  go_wp2_with (at_make; refine wpList_make_full _ rfl _ _ 22 rfl w.heap.size 5 i0 (.int .u8 0) 1 Try.underlying22 hi hz0 hz1 _ _ _ _ n rfl rfl rfl rfl (by rw [hz2]; omega) (by unfold maxLen; omega) (Nat.le_refl _) ?_; intro w1 hown hgrow)
  have hB : Below w.heap.size w w1 := (Below.refl _ w).grown hgrow (Nat.le_refl _) (fun k h => by cases h)
  have hrow : w1.ownsRow w.heap.size 5 1 (.slice (some ⟨w.heap.size, 0, none⟩) n n) n (partI s p q pos n 0) := by
    have e : (madeCells (Value.int IntKind.u8 0).cells (n * 1)).toList = partI s p q pos n 0 := by
      rw [Nat.mul_one, partI_zero]; exact toList_madeCells_one _ _
    rw [← e]; exact hown
  clear hown hgrow
  go_loopw [31] (fun i wr => Part w s p q pos n i wr) (fun i _ => n - (intOf i).toNat)
  case atStart => exact ⟨0, by omega, rfl, hrow, hB⟩
  case round =>
    clear hB hrow
    obtain ⟨k, hk, rfl, hrow, hB⟩ := hrel
    by_cases hlt : k < n
    · obtain ⟨u, hu⟩ : ∃ u, wr.cell? ⟨w.heap.size, k, none⟩ = some u := by
        rw [hrow.cellAt k (by omega)]
        exact ⟨_, List.getElem?_eq_getElem (by rw [partI_length]; exact hlt)⟩
      have hf : wr.frozen? ⟨w.heap.size, k, none⟩ = false := hrow.frozenAt k
      go_wp2_with (go_at_call 12; refine (byteS_walk _ _ _ _ hq _).mono ?_; rintro e w' ⟨rfl, rfl⟩)
      have h2 := (hrow.stored k (.int .u8 (byteI s p q (pos + (k : Int))))).1
      rw [partI_set _ _ _ _ _ _ hlt] at h2
      exact ⟨⟨k + 1, by omega, by simp, h2, hB.setCell (p := ⟨w.heap.size, k, none⟩) (Nat.le_refl _) _⟩, by simp [intOf]; omega⟩
    · obtain rfl : k = n := by omega
      rw [partI_full] at hrow
      go_wp2
      go_ret
      refine ⟨_, rfl, ?_, hB⟩
      have e : (bytesI s p q pos k).length = k := by simp [bytesI]
      rw [e]; exact hrow
theorem bytes_none (s p q pos n : Int) (h : pos < 0 ∨ n < 0 ∨ 4096 < n ∨ 1099511627776 < pos) (w : World) :
    Calls Try.prog 11 #[.int .u64 s, .int .i64 p, .int .i64 q, .int .i64 pos, .int .i64 n] w (Got w []) := by
  have fin : Got w [] (.returned (.slice none 0 0)) w := ⟨_, rfl, World.ownsRow_nil _ _ _ _, Below.refl _ _⟩
  by_cases a1 : pos < 0
  · clear h
    go_enter Try.func11, Try.ntmps11
    go_wp2
    go_ret
    exact fin
  by_cases a2 : n < 0
  · clear h
    go_enter Try.func11, Try.ntmps11
    go_wp2
    go_ret
    exact fin
  by_cases a3 : n > 4096
  · clear h
    go_enter Try.func11, Try.ntmps11
    go_wp2
    go_ret
    exact fin
  have a4 : pos > 1099511627776 := by omega
  clear h
  go_enter Try.func11, Try.ntmps11
  go_wp2
  go_ret
  exact fin
end Go.Proofs.Ytmefkfilclkgeaa.pattern
