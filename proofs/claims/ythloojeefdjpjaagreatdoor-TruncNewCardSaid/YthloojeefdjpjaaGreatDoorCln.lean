/- Two small functions of the image, told: are a block's bytes behind the size noughts? may a text be a name? -/
import Derived.Test.YthloojeefdjpjaaGreatDoorChecked
import Derived.WalkKit
import Derived.ProofKit
import Derived.OpenShut
import Derived.KernelRfl
import Derived.Below
import Derived.LoopTactic
import Derived.OwnWalk
namespace Go.Proofs.YthloojeefdjpjaaGreatDoor
open Go Go.RowKit Go.ChangeShapes Go.WideShapes
set_option linter.unusedVariables false
/-- bytes that are no noughts lie below the size -/
def below_ (size : Int) (b : Int) (at_ : Int) : Prop := b = 0 ∨ at_ < size
theorem clean_true (no size b0 b1 b2 b3 b4 b5 b6 b7 : Int) (h0 : 0 ≤ no) (h1 : no ≤ 1099511627776) (g0 : below_ size b0 (no * 8)) (g1 : below_ size b1 (no * 8 + 1)) (g2 : below_ size b2 (no * 8 + 2)) (g3 : below_ size b3 (no * 8 + 3))
    (g4 : below_ size b4 (no * 8 + 4)) (g5 : below_ size b5 (no * 8 + 5)) (g6 : below_ size b6 (no * 8 + 6)) (g7 : below_ size b7 (no * 8 + 7)) (w : World) :
    Calls Tryz.prog 228 #[.agg #[.int .i64 no, .int .u8 b0, .int .u8 b1, .int .u8 b2, .int .u8 b3, .int .u8 b4, .int .u8 b5, .int .u8 b6, .int .u8 b7], .int .i64 size] w fun e w' => e = .returned (.bool true) ∧ Below w.heap.size w w' := by
  have hB : Below w.heap.size w (w.alloc (Obj.cells #[.int .i64 no, .int .u8 b0, .int .u8 b1, .int .u8 b2, .int .u8 b3, .int .u8 b4, .int .u8 b5, .int .u8 b6, .int .u8 b7] 92)) := (Below.refl _ w).alloc (Nat.le_refl _) _
  go_enter Tryz.func228, Tryz.ntmps228
  go_wp2
  have x0 : (w.alloc (Obj.cells #[.int .i64 no, .int .u8 b0, .int .u8 b1, .int .u8 b2, .int .u8 b3, .int .u8 b4, .int .u8 b5, .int .u8 b6, .int .u8 b7] 92)).cell? ⟨w.heap.size, 0, none⟩ = some (.int .i64 no) := cell_of_row _ _ 0 _ _ _ (heap_alloc_new w _)
  have ix0 : ∀ W, Sem.run Tryz.prog (Instr.index 90 (.agg #[.int .u8 b0, .int .u8 b1, .int .u8 b2, .int .u8 b3, .int .u8 b4, .int .u8 b5, .int .u8 b6, .int .u8 b7]) (.int .i64 0)) W = .ok (.int .u8 b0) W := fun _ => by kernel_rfl
  have ix1 : ∀ W, Sem.run Tryz.prog (Instr.index 90 (.agg #[.int .u8 b0, .int .u8 b1, .int .u8 b2, .int .u8 b3, .int .u8 b4, .int .u8 b5, .int .u8 b6, .int .u8 b7]) (.int .i64 1)) W = .ok (.int .u8 b1) W := fun _ => by kernel_rfl
  have ix2 : ∀ W, Sem.run Tryz.prog (Instr.index 90 (.agg #[.int .u8 b0, .int .u8 b1, .int .u8 b2, .int .u8 b3, .int .u8 b4, .int .u8 b5, .int .u8 b6, .int .u8 b7]) (.int .i64 2)) W = .ok (.int .u8 b2) W := fun _ => by kernel_rfl
  have ix3 : ∀ W, Sem.run Tryz.prog (Instr.index 90 (.agg #[.int .u8 b0, .int .u8 b1, .int .u8 b2, .int .u8 b3, .int .u8 b4, .int .u8 b5, .int .u8 b6, .int .u8 b7]) (.int .i64 3)) W = .ok (.int .u8 b3) W := fun _ => by kernel_rfl
  have ix4 : ∀ W, Sem.run Tryz.prog (Instr.index 90 (.agg #[.int .u8 b0, .int .u8 b1, .int .u8 b2, .int .u8 b3, .int .u8 b4, .int .u8 b5, .int .u8 b6, .int .u8 b7]) (.int .i64 4)) W = .ok (.int .u8 b4) W := fun _ => by kernel_rfl
  have ix5 : ∀ W, Sem.run Tryz.prog (Instr.index 90 (.agg #[.int .u8 b0, .int .u8 b1, .int .u8 b2, .int .u8 b3, .int .u8 b4, .int .u8 b5, .int .u8 b6, .int .u8 b7]) (.int .i64 5)) W = .ok (.int .u8 b5) W := fun _ => by kernel_rfl
  have ix6 : ∀ W, Sem.run Tryz.prog (Instr.index 90 (.agg #[.int .u8 b0, .int .u8 b1, .int .u8 b2, .int .u8 b3, .int .u8 b4, .int .u8 b5, .int .u8 b6, .int .u8 b7]) (.int .i64 6)) W = .ok (.int .u8 b6) W := fun _ => by kernel_rfl
  have ix7 : ∀ W, Sem.run Tryz.prog (Instr.index 90 (.agg #[.int .u8 b0, .int .u8 b1, .int .u8 b2, .int .u8 b3, .int .u8 b4, .int .u8 b5, .int .u8 b6, .int .u8 b7]) (.int .i64 7)) W = .ok (.int .u8 b7) W := fun _ => by kernel_rfl
  generalize w.alloc (Obj.cells #[.int .i64 no, .int .u8 b0, .int .u8 b1, .int .u8 b2, .int .u8 b3, .int .u8 b4, .int .u8 b5, .int .u8 b6, .int .u8 b7] 92) = W1 at *
  go_loopw [9] (fun i wr => ∃ k : Nat, k ≤ 8 ∧ i = .int .i64 k ∧ wr = W1) (fun i _ => 8 - (intOf i).toNat)
  case atStart => exact ⟨0, by omega, rfl, rfl⟩
  case round =>
    obtain ⟨k, hk, rfl, rfl⟩ := hrel
    have hc : k = 0 ∨ k = 1 ∨ k = 2 ∨ k = 3 ∨ k = 4 ∨ k = 5 ∨ k = 6 ∨ k = 7 ∨ k = 8 := by omega
    rcases hc with rfl | rfl | rfl | rfl | rfl | rfl | rfl | rfl | rfl
    · have HX : Hid True := trivial
      by_cases hb : b0 = 0
      · clear g0 g1 g2 g3 g4 g5 g6 g7
        subst hb
        go_wp2
        refine ⟨⟨1, by omega, ?_⟩, ?_⟩ <;> simp [intOf]
      · have hl : ¬ (no * 8 ≥ size) := by rcases g0 with h | h; exact absurd h hb; omega
        clear g0 g1 g2 g3 g4 g5 g6 g7
        go_wp2
        refine ⟨⟨1, by omega, ?_⟩, ?_⟩ <;> simp [intOf]
    · have HX : Hid True := trivial
      by_cases hb : b1 = 0
      · clear g0 g1 g2 g3 g4 g5 g6 g7
        subst hb
        go_wp2
        refine ⟨⟨2, by omega, ?_⟩, ?_⟩ <;> simp [intOf]
      · have hl : ¬ (no * 8 + 1 ≥ size) := by rcases g1 with h | h; exact absurd h hb; omega
        clear g0 g1 g2 g3 g4 g5 g6 g7
        go_wp2
        refine ⟨⟨2, by omega, ?_⟩, ?_⟩ <;> simp [intOf]
    · have HX : Hid True := trivial
      by_cases hb : b2 = 0
      · clear g0 g1 g2 g3 g4 g5 g6 g7
        subst hb
        go_wp2
        refine ⟨⟨3, by omega, ?_⟩, ?_⟩ <;> simp [intOf]
      · have hl : ¬ (no * 8 + 2 ≥ size) := by rcases g2 with h | h; exact absurd h hb; omega
        clear g0 g1 g2 g3 g4 g5 g6 g7
        go_wp2
        refine ⟨⟨3, by omega, ?_⟩, ?_⟩ <;> simp [intOf]
    · have HX : Hid True := trivial
      by_cases hb : b3 = 0
      · clear g0 g1 g2 g3 g4 g5 g6 g7
        subst hb
        go_wp2
        refine ⟨⟨4, by omega, ?_⟩, ?_⟩ <;> simp [intOf]
      · have hl : ¬ (no * 8 + 3 ≥ size) := by rcases g3 with h | h; exact absurd h hb; omega
        clear g0 g1 g2 g3 g4 g5 g6 g7
        go_wp2
        refine ⟨⟨4, by omega, ?_⟩, ?_⟩ <;> simp [intOf]
    · have HX : Hid True := trivial
      by_cases hb : b4 = 0
      · clear g0 g1 g2 g3 g4 g5 g6 g7
        subst hb
        go_wp2
        refine ⟨⟨5, by omega, ?_⟩, ?_⟩ <;> simp [intOf]
      · have hl : ¬ (no * 8 + 4 ≥ size) := by rcases g4 with h | h; exact absurd h hb; omega
        clear g0 g1 g2 g3 g4 g5 g6 g7
        go_wp2
        refine ⟨⟨5, by omega, ?_⟩, ?_⟩ <;> simp [intOf]
    · have HX : Hid True := trivial
      by_cases hb : b5 = 0
      · clear g0 g1 g2 g3 g4 g5 g6 g7
        subst hb
        go_wp2
        refine ⟨⟨6, by omega, ?_⟩, ?_⟩ <;> simp [intOf]
      · have hl : ¬ (no * 8 + 5 ≥ size) := by rcases g5 with h | h; exact absurd h hb; omega
        clear g0 g1 g2 g3 g4 g5 g6 g7
        go_wp2
        refine ⟨⟨6, by omega, ?_⟩, ?_⟩ <;> simp [intOf]
    · have HX : Hid True := trivial
      by_cases hb : b6 = 0
      · clear g0 g1 g2 g3 g4 g5 g6 g7
        subst hb
        go_wp2
        refine ⟨⟨7, by omega, ?_⟩, ?_⟩ <;> simp [intOf]
      · have hl : ¬ (no * 8 + 6 ≥ size) := by rcases g6 with h | h; exact absurd h hb; omega
        clear g0 g1 g2 g3 g4 g5 g6 g7
        go_wp2
        refine ⟨⟨7, by omega, ?_⟩, ?_⟩ <;> simp [intOf]
    · have HX : Hid True := trivial
      by_cases hb : b7 = 0
      · clear g0 g1 g2 g3 g4 g5 g6 g7
        subst hb
        go_wp2
        refine ⟨⟨8, by omega, ?_⟩, ?_⟩ <;> simp [intOf]
      · have hl : ¬ (no * 8 + 7 ≥ size) := by rcases g7 with h | h; exact absurd h hb; omega
        clear g0 g1 g2 g3 g4 g5 g6 g7
        go_wp2
        refine ⟨⟨8, by omega, ?_⟩, ?_⟩ <;> simp [intOf]
    · clear g0 g1 g2 g3 g4 g5 g6 g7
      go_wp2
      go_ret
      exact ⟨rfl, hB⟩
end Go.Proofs.YthloojeefdjpjaaGreatDoor
