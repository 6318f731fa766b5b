import Derived.Test.YtmefkfilclkgeaaGrowD
import Derived.Test.YtmefkfilclkgeaaLawBoundRuns
namespace Go.Proofs.Ytmefkfilclkgeaa.bound
open Go.ChangeShapes Go.WideShapes Go.ChangeAt Go.RowKit
set_option linter.unusedVariables false
/-- the law's map, told whole: its box, its regions -/
def MBox (w W : World) (B : Nat) (v : Value) (n : Nat) (p s t : Nat → Int) : Prop :=
  W.heap[B]? = some (.cells #[.int .i64 0, .int .i64 0, .int .u8 63, v] 37 (0, 0)) ∧ Own3 W w.heap.size v n p s t ∧ Below w.heap.size w W
theorem MBox.on {w W W' : World} {B : Nat} {v : Value} {n : Nat} {p s t : Nat → Int} (h : MBox w W B v n p s t) (k : Below W.heap.size W W') : MBox w W' B v n p s t :=
  ⟨(k.block _ (Array.getElem?_eq_some_iff.1 h.1).1).trans h.1, h.2.1.below k, h.2.2.trans (k.mono h.2.2.size)⟩
theorem acts_of {w W : World} {B n cap : Nat} {a : Option Addr} {p s t : Nat → Int} {size : Int} (h : MBox w W B (.slice a n cap) n p s t) (g : Good n p s t size) (h0 : 0 ≤ size) (h255 : size ≤ 255) (c r : Int) (hc : 1 ≤ c ∧ c ≤ 512) (hr : 0 ≤ r ∧ r ≤ 20) :
    Calls Try.prog 19 #[.agg #[.int .i64 c, .int .i64 r, .bool false], .agg #[.int .i64 0, .int .i64 0, .int .u8 63, .slice a n cap]] W fun e w' => e = .returned (.int .i64 ((3 + 2 * r) * (sectorsI size + n))) ∧ Below W.heap.size W w' := by
  obtain ⟨a', cap', hv, hR⟩ := h.2.1.regs g
  cases hv
  have hn := g.count
  have k := acts_walk c r 0 0 63 false a cap (regsL n p s t) (by rw [regsL_length]; omega) W hR
  rw [regsL_length] at k
  have e : actsI c r 0 0 63 (regsL n p s t) = (3 + 2 * r) * (sectorsI size + n) := by
    have ho : optsB c r = true := decide_eq_true (by omega)
    have hm : mapB 0 0 63 (regsL n p s t) = true := by
      unfold mapB
      rw [g.mayB, g.endG, decide_eq_true (by omega : (0 : Int) ≤ 0), decide_eq_true h0, decide_eq_true (by omega : (0 : Int) ≤ 20)]
      rfl
    unfold actsI
    rw [ho, hm, g.endG, regsL_length]
  rw [e] at k
  exact k
set_option maxHeartbeats 4000000 in
theorem grows_few (size a b : Int) (n cap : Nat) (sl : Option Addr) (c : Nat → Int × Int × Int) (h0 : 0 ≤ size) (h255 : size ≤ 255) (ha : 0 ≤ a ∧ a ≤ 255) (hb : 0 ≤ b ∧ b ≤ 255) (hn : n ≤ 10) (w : World) (hc : Cuts w sl n c) :
    Calls Try.prog 9 #[.int .u8 size, .slice sl n cap, .int .u8 a, .int .u8 b] w fun e w' => e = .returned (.bool true) ∧ Below w.heap.size w w' := by
  have HC : Hid (Cuts w sl n c) := hc
  clear hc
  have c1 : ¬ ((n : Int) > 10) := by omega
  go_enter Try.func9, Try.ntmps9
  go_wp2_with (go_at_call 17; refine (lawmap_walk size n cap sl c h0 h255 hn _ HC.out).mono ?_; rintro e w1 ⟨v, m, p, s, t, rfl, o1, g1, hb1⟩; obtain ⟨a2, cap2, rfl, _⟩ := o1.regs g1; have HO : Hid (Own3 w1 w.heap.size (.slice a2 m cap2) m p s t) := o1; have HG : Hid (Good m p s t size) := g1; clear o1 g1)
  generalize hX : a % 21 = X
  generalize hY : b % 21 = Y
  have x0 : 0 ≤ X ∧ X ≤ 20 := by omega
  have y0 : 0 ≤ Y ∧ Y ≤ 20 := by omega
  clear hX hY
  have kS := fun w => sectors_walk size w
  have qin := sectorsI_in size
  have hm := HG.out.count
  have kA : ∀ W, MBox w W w1.heap.size (.slice a2 m cap2) m p s t → _ := fun W h => acts_of h HG.out h0 h255 1 X (by omega) x0
  have kB : ∀ W, MBox w W w1.heap.size (.slice a2 m cap2) m p s t → _ := fun W h => acts_of h HG.out h0 h255 9 Y (by omega) y0
  have kN : ∀ W, MBox w W w1.heap.size (.slice a2 m cap2) m p s t → _ := fun W h => acts_of h HG.out h0 h255 1 0 (by omega) (by omega)
  generalize sectorsI size = q at *
  have hle : Hid (X ≤ Y → (3 + 2 * X) * (q + (m : Int)) ≤ (3 + 2 * Y) * (q + (m : Int))) := fun h => Int.mul_le_mul_of_nonneg_right (by omega) (by omega)
  have hPA0 : 0 ≤ (3 + 2 * X) * (q + (m : Int)) := Int.mul_nonneg (by omega) (by omega)
  have hPA1 : (3 + 2 * X) * (q + (m : Int)) ≤ 43 * 137438953772 := Int.mul_le_mul (by omega) (by omega) (by omega) (by omega)
  have hE : Hid ((3 + 2 * 0) * (q + (m : Int)) * (3 + 2 * X) = 3 * ((3 + 2 * X) * (q + (m : Int)))) := by
    show (3 + 2 * 0) * (q + (m : Int)) * (3 + 2 * X) = 3 * ((3 + 2 * X) * (q + (m : Int)))
    rw [Int.mul_comm (3 + 2 * X) (q + (m : Int)), ← Int.mul_assoc]
    rfl
  have hPN : Hid (3 * (q + (m : Int)) = (3 + 2 * 0) * (q + (m : Int))) := by
    show 3 * (q + (m : Int)) = (3 + 2 * 0) * (q + (m : Int))
    rfl
  generalize (3 + 2 * X) * (q + (m : Int)) = PA at *
  generalize (3 + 2 * Y) * (q + (m : Int)) = PB at *
  generalize (3 + 2 * 0) * (q + (m : Int)) = PN at *
  have hS0 : MBox w (w1.alloc (Obj.cells #[Value.int IntKind.i64 0, Value.int IntKind.i64 0, Value.int IntKind.u8 63, Value.slice a2 m cap2] 37)).drew w1.heap.size (.slice a2 m cap2) m p s t :=
    ⟨heap_alloc_new w1 _, (HO.out.below ((Below.refl _ w1).alloc (Nat.le_refl _) _)).below (Below.refl _ _).drew, ((hb1.alloc hb1.size _)).drew⟩
  refine wp_region_held_drew (S := fun W => MBox w W w1.heap.size (.slice a2 m cap2) m p s t) (by kernel_rfl) hS0 (fun hS => ?_)
  replace hS := hS0
  clear hS0 HO HG
  refine wpAnyH_take (i := 0) (v := Value.int .i64 (X)) rfl (by kernel_rfl) (by kernel_rfl) (by kernel_rfl) (fun _ _ _ h => h) (Or.inl ⟨by kernel_rfl, fun W hW => by kernel_rfl⟩) hS ?_
  refine wpAnyH_take (i := 1) (v := Value.agg #[.int .i64 1, .int .i64 X, .bool false]) rfl (by kernel_rfl) (by kernel_rfl) (by kernel_rfl) (fun _ _ _ h => h) (Or.inl ⟨by kernel_rfl, fun W hW => by kernel_rfl⟩) hS ?_
  refine wpAnyH_take (i := 2) (v := Value.agg #[.int .i64 0, .int .i64 0, .int .u8 63, .slice a2 m cap2]) rfl (by kernel_rfl) (by kernel_rfl) (by kernel_rfl) (fun _ _ _ h => h) (Or.inl ⟨by kernel_rfl, fun W hW => by have y0 := cell_of_row _ _ 0 _ _ _ hW.1; have y1 := cell_of_row _ _ 1 _ _ _ hW.1; have y2 := cell_of_row _ _ 2 _ _ _ hW.1; have y3 := cell_of_row _ _ 3 _ _ _ hW.1; go_simp⟩) hS ?_
  refine wpAnyH_take (i := 4) (v := Value.int .i64 (Y)) rfl (by kernel_rfl) (by kernel_rfl) (by kernel_rfl) (fun _ _ _ h => h) (Or.inl ⟨by kernel_rfl, fun W hW => by kernel_rfl⟩) hS ?_
  refine wpAnyH_take (i := 5) (v := Value.agg #[.int .i64 9, .int .i64 Y, .bool false]) rfl (by kernel_rfl) (by kernel_rfl) (by kernel_rfl) (fun _ _ _ h => h) (Or.inl ⟨by kernel_rfl, fun W hW => by kernel_rfl⟩) hS ?_
  refine wpAnyH_take (i := 6) (v := Value.agg #[.int .i64 0, .int .i64 0, .int .u8 63, .slice a2 m cap2]) rfl (by kernel_rfl) (by kernel_rfl) (by kernel_rfl) (fun _ _ _ h => h) (Or.inl ⟨by kernel_rfl, fun W hW => by have y0 := cell_of_row _ _ 0 _ _ _ hW.1; have y1 := cell_of_row _ _ 1 _ _ _ hW.1; have y2 := cell_of_row _ _ 2 _ _ _ hW.1; have y3 := cell_of_row _ _ 3 _ _ _ hW.1; go_simp⟩) hS ?_
  refine wpAnyH_ready (rs := [3]) (by kernel_rfl) (by simp) ?_
  refine AllReadyH.cons rfl (fun K hK => ?_) AllReadyH.nil
  ·   skip
      rw [if_pos (by kernel_rfl)]
      go_simp
      go_wp2_with (go_at_call 19; refine (kA _ hS).mono ?_; rintro e w3 ⟨rfl, hb3⟩)
      refine hK.out _ _ (hS.on hb3) (fun hS => ?_)
      clear hK K
      refine wpAnyH_ready (rs := [7]) (by kernel_rfl) (by simp) ?_
      refine AllReadyH.cons rfl (fun K hK => ?_) AllReadyH.nil
      rw [if_pos (by kernel_rfl)]
      go_simp
      go_wp2_with (go_at_call 19; refine (kB _ hS).mono ?_; rintro e w4 ⟨rfl, hb4⟩)
      refine hK.out _ _ (hS.on hb4) (fun hS => ?_)
      clear hK K
      refine wpAnyH_take (i := 8) (v := Value.int .i64 (PA)) rfl (by kernel_rfl) (by kernel_rfl) (by kernel_rfl) (fun _ _ _ h => h) (Or.inl ⟨by kernel_rfl, fun W hW => by kernel_rfl⟩) hS ?_
      refine wpAnyH_take (i := 9) (v := Value.int .i64 (PB)) rfl (by kernel_rfl) (by kernel_rfl) (by kernel_rfl) (fun _ _ _ h => h) (Or.inl ⟨by kernel_rfl, fun W hW => by kernel_rfl⟩) hS ?_
      clear hb3 hb4 hb1
      refine wpAnyH_done (by kernel_rfl) ?_ _
      have y0 := cell_of_row _ _ 0 _ _ _ hS.1
      have y1 := cell_of_row _ _ 1 _ _ _ hS.1
      have y2 := cell_of_row _ _ 2 _ _ _ hS.1
      have y3 := cell_of_row _ _ 3 _ _ _ hS.1
      go_wp2_with (go_at_call 19; refine (kN _ hS).mono ?_; rintro e w5 ⟨rfl, hb5⟩; replace hS := hS.on hb5; clear hb5 y0 y1 y2 y3)
      refine wp_region_held_drew (S := fun W => MBox w W w1.heap.size (.slice a2 m cap2) m p s t) (by kernel_rfl) (hS.on (Below.refl _ _).drew) (fun hS => ?_)
      replace hS : MBox w w5.drew w1.heap.size (.slice a2 m cap2) m p s t := hS
      by_cases hXY : X > Y
      · skip
        refine wpAnyH_take (i := 0) (v := Value.int .i64 (X)) rfl (by kernel_rfl) (by kernel_rfl) (by kernel_rfl) (fun _ _ _ h => h) (Or.inl ⟨by kernel_rfl, fun W hW => by kernel_rfl⟩) hS ?_
        refine wpAnyH_take (i := 1) (v := Value.int .i64 (Y)) rfl (by kernel_rfl) (by kernel_rfl) (by kernel_rfl) (fun _ _ _ h => h) (Or.inl ⟨by kernel_rfl, fun W hW => by kernel_rfl⟩) hS ?_
        refine wpAnyH_take (i := 2) (v := Value.bool true) rfl (by kernel_rfl) (by kernel_rfl) (by kernel_rfl) (fun _ _ _ h => h) (Or.inl ⟨by kernel_rfl, fun W hW => by go_simp⟩) hS ?_
        refine wpAnyH_take (i := 3) (v := Value.bool true) rfl (by kernel_rfl) (by kernel_rfl) (by kernel_rfl) (fun _ _ _ h => h) (Or.inl ⟨by kernel_rfl, fun W hW => by kernel_rfl⟩) hS ?_
        refine wpAnyH_take (i := 4) (v := undef) rfl (by kernel_rfl) (by kernel_rfl) (by kernel_rfl) (fun _ _ _ h => h) (Or.inr ⟨by kernel_rfl, rfl⟩) hS ?_
        refine wpAnyH_take (i := 5) (v := undef) rfl (by kernel_rfl) (by kernel_rfl) (by kernel_rfl) (fun _ _ _ h => h) (Or.inr ⟨by kernel_rfl, rfl⟩) hS ?_
        refine wpAnyH_take (i := 6) (v := undef) rfl (by kernel_rfl) (by kernel_rfl) (by kernel_rfl) (fun _ _ _ h => h) (Or.inr ⟨by kernel_rfl, rfl⟩) hS ?_
        refine wpAnyH_take (i := 7) (v := Value.bool true) rfl (by kernel_rfl) (by kernel_rfl) (by kernel_rfl) (fun _ _ _ h => h) (Or.inl ⟨by kernel_rfl, fun W hW => by kernel_rfl⟩) hS ?_
        refine wpAnyH_take (i := 8) (v := Value.bool true) rfl (by kernel_rfl) (by kernel_rfl) (by kernel_rfl) (fun _ _ _ h => h) (Or.inl ⟨by kernel_rfl, fun W hW => by kernel_rfl⟩) hS ?_
        refine wpAnyH_take (i := 9) (v := Value.int .i64 (PN)) rfl (by kernel_rfl) (by kernel_rfl) (by kernel_rfl) (fun _ _ _ h => h) (Or.inl ⟨by kernel_rfl, fun W hW => by kernel_rfl⟩) hS ?_
        refine wpAnyH_take (i := 10) (v := Value.int .u8 (size)) rfl (by kernel_rfl) (by kernel_rfl) (by kernel_rfl) (fun _ _ _ h => h) (Or.inl ⟨by kernel_rfl, fun W hW => by kernel_rfl⟩) hS ?_
        refine wpAnyH_take (i := 11) (v := Value.int .i64 (size)) rfl (by kernel_rfl) (by kernel_rfl) (by kernel_rfl) (fun _ _ _ h => h) (Or.inl ⟨by kernel_rfl, fun W hW => by go_simp; exact IntWalk.i64_in _ (by omega)⟩) hS ?_
        refine wpAnyH_take (i := 13) (v := Value.pointer (some ⟨w1.heap.size, 3, none⟩)) rfl (by kernel_rfl) (by kernel_rfl) (by kernel_rfl) (fun _ _ _ h => h) (Or.inl ⟨by kernel_rfl, fun W hW => by kernel_rfl⟩) hS ?_
        refine wpAnyH_take (i := 14) (v := Value.slice a2 m cap2) rfl (by kernel_rfl) (by kernel_rfl) (by kernel_rfl) (fun _ _ _ h => h) (Or.inl ⟨by kernel_rfl, fun W hW => by have y0 := cell_of_row _ _ 0 _ _ _ hW.1; have y1 := cell_of_row _ _ 1 _ _ _ hW.1; have y2 := cell_of_row _ _ 2 _ _ _ hW.1; have y3 := cell_of_row _ _ 3 _ _ _ hW.1; go_simp⟩) hS ?_
        refine wpAnyH_take (i := 15) (v := Value.int .i64 (m)) rfl (by kernel_rfl) (by kernel_rfl) (by kernel_rfl) (fun _ _ _ h => h) (Or.inl ⟨by kernel_rfl, fun W hW => by go_simp⟩) hS ?_
        refine wpAnyH_ready (rs := [12]) (by kernel_rfl) (by simp) ?_
        refine AllReadyH.cons rfl (fun K hK => ?_) AllReadyH.nil
        rw [if_pos (by kernel_rfl)]
        go_simp
        go_wp2_with (go_at_call 18; refine (kS _).mono ?_; rintro e w6 ⟨rfl, rfl⟩)
        refine hK.out _ _ (hS) (fun hS => ?_)
        clear hK K
        refine wpAnyH_take (i := 16) (v := Value.int .i64 (q + m)) rfl (by kernel_rfl) (by kernel_rfl) (by kernel_rfl) (fun _ _ _ h => h) (Or.inl ⟨by kernel_rfl, fun W hW => by go_simp; exact IntWalk.i64_in _ (by omega)⟩) hS ?_
        refine wpAnyH_take (i := 17) (v := Value.int .i64 (PN)) rfl (by kernel_rfl) (by kernel_rfl) (by kernel_rfl) (fun _ _ _ h => h) (Or.inl ⟨by kernel_rfl, fun W hW => by go_simp; rw [← hPN.out]; exact IntWalk.i64_in _ (by omega)⟩) hS ?_
        refine wpAnyH_take (i := 18) (v := Value.bool true) rfl (by kernel_rfl) (by kernel_rfl) (by kernel_rfl) (fun _ _ _ h => h) (Or.inl ⟨by kernel_rfl, fun W hW => by go_simp⟩) hS ?_
        refine wpAnyH_take (i := 19) (v := Value.bool true) rfl (by kernel_rfl) (by kernel_rfl) (by kernel_rfl) (fun _ _ _ h => h) (Or.inl ⟨by kernel_rfl, fun W hW => by kernel_rfl⟩) hS ?_
        refine wpAnyH_take (i := 20) (v := Value.bool true) rfl (by kernel_rfl) (by kernel_rfl) (by kernel_rfl) (fun _ _ _ h => h) (Or.inl ⟨by kernel_rfl, fun W hW => by kernel_rfl⟩) hS ?_
        refine wpAnyH_take (i := 21) (v := Value.int .i64 (PA)) rfl (by kernel_rfl) (by kernel_rfl) (by kernel_rfl) (fun _ _ _ h => h) (Or.inl ⟨by kernel_rfl, fun W hW => by kernel_rfl⟩) hS ?_
        refine wpAnyH_take (i := 22) (v := Value.int .i64 (3 * PA)) rfl (by kernel_rfl) (by kernel_rfl) (by kernel_rfl) (fun _ _ _ h => h) (Or.inl ⟨by kernel_rfl, fun W hW => by go_simp; exact IntWalk.i64_in _ (by omega)⟩) hS ?_
        refine wpAnyH_take (i := 23) (v := Value.int .i64 (PN)) rfl (by kernel_rfl) (by kernel_rfl) (by kernel_rfl) (fun _ _ _ h => h) (Or.inl ⟨by kernel_rfl, fun W hW => by kernel_rfl⟩) hS ?_
        refine wpAnyH_take (i := 24) (v := Value.int .i64 (X)) rfl (by kernel_rfl) (by kernel_rfl) (by kernel_rfl) (fun _ _ _ h => h) (Or.inl ⟨by kernel_rfl, fun W hW => by kernel_rfl⟩) hS ?_
        refine wpAnyH_take (i := 25) (v := Value.int .i64 (2 * X)) rfl (by kernel_rfl) (by kernel_rfl) (by kernel_rfl) (fun _ _ _ h => h) (Or.inl ⟨by kernel_rfl, fun W hW => by go_simp; exact IntWalk.i64_in _ (by omega)⟩) hS ?_
        refine wpAnyH_take (i := 26) (v := Value.int .i64 (3 + 2 * X)) rfl (by kernel_rfl) (by kernel_rfl) (by kernel_rfl) (fun _ _ _ h => h) (Or.inl ⟨by kernel_rfl, fun W hW => by go_simp; exact IntWalk.i64_in _ (by omega)⟩) hS ?_
        refine wpAnyH_take (i := 27) (v := Value.int .i64 (3 * PA)) rfl (by kernel_rfl) (by kernel_rfl) (by kernel_rfl) (fun _ _ _ h => h) (Or.inl ⟨by kernel_rfl, fun W hW => by go_simp; rw [hE.out]; exact IntWalk.i64_in _ (by omega)⟩) hS ?_
        refine wpAnyH_take (i := 28) (v := Value.bool true) rfl (by kernel_rfl) (by kernel_rfl) (by kernel_rfl) (fun _ _ _ h => h) (Or.inl ⟨by kernel_rfl, fun W hW => by go_simp⟩) hS ?_
        refine wpAnyH_take (i := 29) (v := Value.bool true) rfl (by kernel_rfl) (by kernel_rfl) (by kernel_rfl) (fun _ _ _ h => h) (Or.inl ⟨by kernel_rfl, fun W hW => by kernel_rfl⟩) hS ?_
        refine wpAnyH_take (i := 30) (v := Value.bool true) rfl (by kernel_rfl) (by kernel_rfl) (by kernel_rfl) (fun _ _ _ h => h) (Or.inl ⟨by kernel_rfl, fun W hW => by kernel_rfl⟩) hS ?_
        refine wpAnyH_ready (rs := [31]) (by kernel_rfl) (by simp) ?_
        refine AllReadyH.cons rfl (fun K hK => ?_) AllReadyH.nil
        rw [if_pos (by kernel_rfl)]
        go_simp
        go_wp2_with (go_at_call 7; refine (boundRuns.walk _).mono ?_; rintro e w7 ⟨rfl, hb7⟩)
        refine hK.out _ _ (hS.on hb7) (fun hS => ?_)
        clear hK K
        refine wpAnyH_take (i := 32) (v := Value.bool true) rfl (by kernel_rfl) (by kernel_rfl) (by kernel_rfl) (fun _ _ _ h => h) (Or.inl ⟨by kernel_rfl, fun W hW => by kernel_rfl⟩) hS ?_
        refine wpAnyH_take (i := 33) (v := Value.bool true) rfl (by kernel_rfl) (by kernel_rfl) (by kernel_rfl) (fun _ _ _ h => h) (Or.inl ⟨by kernel_rfl, fun W hW => by kernel_rfl⟩) hS ?_
        refine wpAnyH_done (by kernel_rfl) ?_ _
        go_wp2
        go_ret
        exact ⟨rfl, hS.2.2⟩
      · skip
        refine wpAnyH_take (i := 0) (v := Value.int .i64 (X)) rfl (by kernel_rfl) (by kernel_rfl) (by kernel_rfl) (fun _ _ _ h => h) (Or.inl ⟨by kernel_rfl, fun W hW => by kernel_rfl⟩) hS ?_
        refine wpAnyH_take (i := 1) (v := Value.int .i64 (Y)) rfl (by kernel_rfl) (by kernel_rfl) (by kernel_rfl) (fun _ _ _ h => h) (Or.inl ⟨by kernel_rfl, fun W hW => by kernel_rfl⟩) hS ?_
        refine wpAnyH_take (i := 2) (v := Value.bool false) rfl (by kernel_rfl) (by kernel_rfl) (by kernel_rfl) (fun _ _ _ h => h) (Or.inl ⟨by kernel_rfl, fun W hW => by go_simp⟩) hS ?_
        refine wpAnyH_take (i := 3) (v := Value.bool false) rfl (by kernel_rfl) (by kernel_rfl) (by kernel_rfl) (fun _ _ _ h => h) (Or.inl ⟨by kernel_rfl, fun W hW => by kernel_rfl⟩) hS ?_
        refine wpAnyH_take (i := 4) (v := Value.int .i64 (PA)) rfl (by kernel_rfl) (by kernel_rfl) (by kernel_rfl) (fun _ _ _ h => h) (Or.inl ⟨by kernel_rfl, fun W hW => by kernel_rfl⟩) hS ?_
        refine wpAnyH_take (i := 5) (v := Value.int .i64 (PB)) rfl (by kernel_rfl) (by kernel_rfl) (by kernel_rfl) (fun _ _ _ h => h) (Or.inl ⟨by kernel_rfl, fun W hW => by kernel_rfl⟩) hS ?_
        refine wpAnyH_take (i := 6) (v := Value.bool true) rfl (by kernel_rfl) (by kernel_rfl) (by kernel_rfl) (fun _ _ _ h => h) (Or.inl ⟨by kernel_rfl, fun W hW => by go_simp; exact hle.out (by omega)⟩) hS ?_
        refine wpAnyH_take (i := 7) (v := Value.bool true) rfl (by kernel_rfl) (by kernel_rfl) (by kernel_rfl) (fun _ _ _ h => h) (Or.inl ⟨by kernel_rfl, fun W hW => by kernel_rfl⟩) hS ?_
        refine wpAnyH_take (i := 8) (v := Value.bool true) rfl (by kernel_rfl) (by kernel_rfl) (by kernel_rfl) (fun _ _ _ h => h) (Or.inl ⟨by kernel_rfl, fun W hW => by kernel_rfl⟩) hS ?_
        refine wpAnyH_take (i := 9) (v := Value.int .i64 (PN)) rfl (by kernel_rfl) (by kernel_rfl) (by kernel_rfl) (fun _ _ _ h => h) (Or.inl ⟨by kernel_rfl, fun W hW => by kernel_rfl⟩) hS ?_
        refine wpAnyH_take (i := 10) (v := Value.int .u8 (size)) rfl (by kernel_rfl) (by kernel_rfl) (by kernel_rfl) (fun _ _ _ h => h) (Or.inl ⟨by kernel_rfl, fun W hW => by kernel_rfl⟩) hS ?_
        refine wpAnyH_take (i := 11) (v := Value.int .i64 (size)) rfl (by kernel_rfl) (by kernel_rfl) (by kernel_rfl) (fun _ _ _ h => h) (Or.inl ⟨by kernel_rfl, fun W hW => by go_simp; exact IntWalk.i64_in _ (by omega)⟩) hS ?_
        refine wpAnyH_take (i := 13) (v := Value.pointer (some ⟨w1.heap.size, 3, none⟩)) rfl (by kernel_rfl) (by kernel_rfl) (by kernel_rfl) (fun _ _ _ h => h) (Or.inl ⟨by kernel_rfl, fun W hW => by kernel_rfl⟩) hS ?_
        refine wpAnyH_take (i := 14) (v := Value.slice a2 m cap2) rfl (by kernel_rfl) (by kernel_rfl) (by kernel_rfl) (fun _ _ _ h => h) (Or.inl ⟨by kernel_rfl, fun W hW => by have y0 := cell_of_row _ _ 0 _ _ _ hW.1; have y1 := cell_of_row _ _ 1 _ _ _ hW.1; have y2 := cell_of_row _ _ 2 _ _ _ hW.1; have y3 := cell_of_row _ _ 3 _ _ _ hW.1; go_simp⟩) hS ?_
        refine wpAnyH_take (i := 15) (v := Value.int .i64 (m)) rfl (by kernel_rfl) (by kernel_rfl) (by kernel_rfl) (fun _ _ _ h => h) (Or.inl ⟨by kernel_rfl, fun W hW => by go_simp⟩) hS ?_
        refine wpAnyH_ready (rs := [12]) (by kernel_rfl) (by simp) ?_
        refine AllReadyH.cons rfl (fun K hK => ?_) AllReadyH.nil
        rw [if_pos (by kernel_rfl)]
        go_simp
        go_wp2_with (go_at_call 18; refine (kS _).mono ?_; rintro e w6 ⟨rfl, rfl⟩)
        refine hK.out _ _ (hS) (fun hS => ?_)
        clear hK K
        refine wpAnyH_take (i := 16) (v := Value.int .i64 (q + m)) rfl (by kernel_rfl) (by kernel_rfl) (by kernel_rfl) (fun _ _ _ h => h) (Or.inl ⟨by kernel_rfl, fun W hW => by go_simp; exact IntWalk.i64_in _ (by omega)⟩) hS ?_
        refine wpAnyH_take (i := 17) (v := Value.int .i64 (PN)) rfl (by kernel_rfl) (by kernel_rfl) (by kernel_rfl) (fun _ _ _ h => h) (Or.inl ⟨by kernel_rfl, fun W hW => by go_simp; rw [← hPN.out]; exact IntWalk.i64_in _ (by omega)⟩) hS ?_
        refine wpAnyH_take (i := 18) (v := Value.bool true) rfl (by kernel_rfl) (by kernel_rfl) (by kernel_rfl) (fun _ _ _ h => h) (Or.inl ⟨by kernel_rfl, fun W hW => by go_simp⟩) hS ?_
        refine wpAnyH_take (i := 19) (v := Value.bool true) rfl (by kernel_rfl) (by kernel_rfl) (by kernel_rfl) (fun _ _ _ h => h) (Or.inl ⟨by kernel_rfl, fun W hW => by kernel_rfl⟩) hS ?_
        refine wpAnyH_take (i := 20) (v := Value.bool true) rfl (by kernel_rfl) (by kernel_rfl) (by kernel_rfl) (fun _ _ _ h => h) (Or.inl ⟨by kernel_rfl, fun W hW => by kernel_rfl⟩) hS ?_
        refine wpAnyH_take (i := 21) (v := Value.int .i64 (PA)) rfl (by kernel_rfl) (by kernel_rfl) (by kernel_rfl) (fun _ _ _ h => h) (Or.inl ⟨by kernel_rfl, fun W hW => by kernel_rfl⟩) hS ?_
        refine wpAnyH_take (i := 22) (v := Value.int .i64 (3 * PA)) rfl (by kernel_rfl) (by kernel_rfl) (by kernel_rfl) (fun _ _ _ h => h) (Or.inl ⟨by kernel_rfl, fun W hW => by go_simp; exact IntWalk.i64_in _ (by omega)⟩) hS ?_
        refine wpAnyH_take (i := 23) (v := Value.int .i64 (PN)) rfl (by kernel_rfl) (by kernel_rfl) (by kernel_rfl) (fun _ _ _ h => h) (Or.inl ⟨by kernel_rfl, fun W hW => by kernel_rfl⟩) hS ?_
        refine wpAnyH_take (i := 24) (v := Value.int .i64 (X)) rfl (by kernel_rfl) (by kernel_rfl) (by kernel_rfl) (fun _ _ _ h => h) (Or.inl ⟨by kernel_rfl, fun W hW => by kernel_rfl⟩) hS ?_
        refine wpAnyH_take (i := 25) (v := Value.int .i64 (2 * X)) rfl (by kernel_rfl) (by kernel_rfl) (by kernel_rfl) (fun _ _ _ h => h) (Or.inl ⟨by kernel_rfl, fun W hW => by go_simp; exact IntWalk.i64_in _ (by omega)⟩) hS ?_
        refine wpAnyH_take (i := 26) (v := Value.int .i64 (3 + 2 * X)) rfl (by kernel_rfl) (by kernel_rfl) (by kernel_rfl) (fun _ _ _ h => h) (Or.inl ⟨by kernel_rfl, fun W hW => by go_simp; exact IntWalk.i64_in _ (by omega)⟩) hS ?_
        refine wpAnyH_take (i := 27) (v := Value.int .i64 (3 * PA)) rfl (by kernel_rfl) (by kernel_rfl) (by kernel_rfl) (fun _ _ _ h => h) (Or.inl ⟨by kernel_rfl, fun W hW => by go_simp; rw [hE.out]; exact IntWalk.i64_in _ (by omega)⟩) hS ?_
        refine wpAnyH_take (i := 28) (v := Value.bool true) rfl (by kernel_rfl) (by kernel_rfl) (by kernel_rfl) (fun _ _ _ h => h) (Or.inl ⟨by kernel_rfl, fun W hW => by go_simp⟩) hS ?_
        refine wpAnyH_take (i := 29) (v := Value.bool true) rfl (by kernel_rfl) (by kernel_rfl) (by kernel_rfl) (fun _ _ _ h => h) (Or.inl ⟨by kernel_rfl, fun W hW => by kernel_rfl⟩) hS ?_
        refine wpAnyH_take (i := 30) (v := Value.bool true) rfl (by kernel_rfl) (by kernel_rfl) (by kernel_rfl) (fun _ _ _ h => h) (Or.inl ⟨by kernel_rfl, fun W hW => by kernel_rfl⟩) hS ?_
        refine wpAnyH_ready (rs := [31]) (by kernel_rfl) (by simp) ?_
        refine AllReadyH.cons rfl (fun K hK => ?_) AllReadyH.nil
        rw [if_pos (by kernel_rfl)]
        go_simp
        go_wp2_with (go_at_call 7; refine (boundRuns.walk _).mono ?_; rintro e w7 ⟨rfl, hb7⟩)
        refine hK.out _ _ (hS.on hb7) (fun hS => ?_)
        clear hK K
        refine wpAnyH_take (i := 32) (v := Value.bool true) rfl (by kernel_rfl) (by kernel_rfl) (by kernel_rfl) (fun _ _ _ h => h) (Or.inl ⟨by kernel_rfl, fun W hW => by kernel_rfl⟩) hS ?_
        refine wpAnyH_take (i := 33) (v := Value.bool true) rfl (by kernel_rfl) (by kernel_rfl) (by kernel_rfl) (fun _ _ _ h => h) (Or.inl ⟨by kernel_rfl, fun W hW => by kernel_rfl⟩) hS ?_
        refine wpAnyH_done (by kernel_rfl) ?_ _
        go_wp2
        go_ret
        exact ⟨rfl, hS.2.2⟩

end Go.Proofs.Ytmefkfilclkgeaa.bound
