import Derived.Test.YtmefkfilclkgeaaGrowC
namespace Go.Proofs.Ytmefkfilclkgeaa.bound
open Go.ChangeShapes Go.WideShapes Go.ChangeAt Go.RowKit
set_option linter.unusedVariables false
theorem Own3.set {w : World} {B n g : Nat} {v : Value} {p s t : Nat → Int} (h : Own3 w B v n p s t) (hg : g < B) (j : Nat) (u : Value) : Own3 (w.setCell ⟨g, j, none⟩ u) B v n p s t := by
  obtain ⟨h0, xs, h1, h2⟩ := h
  refine ⟨h0, xs, ⟨h1.1, ?_⟩, h2⟩
  rcases h1.2 with h3 | ⟨k, cap, cur, e1, e2, e3, e4⟩
  · exact .inl h3
  · exact .inr ⟨k, cap, cur, e1, e2, by rw [Below.heap_setCell _ _ _ _ (by show k ≠ g; omega)]; exact e3, e4⟩
/-- a box of a map, and what was there -/
def Box4 (w W : World) : Prop := (∃ cs, W.heap[w.heap.size]? = some (.cells cs 37 (0, 0)) ∧ cs.size = 4) ∧ w.heap.size + 1 ≤ W.heap.size ∧ Below w.heap.size w W
theorem Box4.on {w W W' : World} (h : Box4 w W) (k : Below W.heap.size W W') : Box4 w W' :=
  ⟨⟨h.1.choose, (k.block _ h.2.1).trans h.1.choose_spec.1, h.1.choose_spec.2⟩, Nat.le_trans h.2.1 k.size, h.2.2.trans (k.mono h.2.2.size)⟩
set_option maxHeartbeats 2000000 in
theorem lawmap_walk (size : Int) (n cap : Nat) (a : Option Addr) (c : Nat → Int × Int × Int) (h0 : 0 ≤ size) (h255 : size ≤ 255) (hn : n ≤ 10) (w : World) (hc : Cuts w a n c) :
    Calls Try.prog 17 #[.int .u8 size, .slice a n cap, .int .u8 0, .int .u8 0] w fun e w' => ∃ v n' p s t, e = .returned (.agg #[.int .i64 0, .int .i64 0, .int .u8 63, v]) ∧ Own3 w' w.heap.size v n' p s t ∧ Good n' p s t size ∧ Below w.heap.size w w' := by
  have HC : Hid (Cuts w a n c) := hc
  clear hc
  go_enter Try.func17, Try.ntmps17
  go_upto_region 1 with (fail)
  refine wp_region_held_drew (S := fun W => Box4 w W) (by kernel_rfl) ?_ (fun hS => ?_)
  · exact ⟨⟨_, heap_alloc_new w _, rfl⟩, by simp, ((Below.refl _ w).alloc (Nat.le_refl _) _).drew⟩
  refine wpAnyH_take (i := 0) (v := Value.int .u8 (0)) rfl (by kernel_rfl) (by kernel_rfl) (by kernel_rfl) (fun _ _ _ h => h) (Or.inl ⟨by kernel_rfl, fun W hW => by kernel_rfl⟩) hS ?_
  refine wpAnyH_take (i := 1) (v := Value.int .i64 (0)) rfl (by kernel_rfl) (by kernel_rfl) (by kernel_rfl) (fun _ _ _ h => h) (Or.inl ⟨by kernel_rfl, fun W hW => by kernel_rfl⟩) hS ?_
  refine wpAnyH_take (i := 2) (v := Value.int .u8 (size)) rfl (by kernel_rfl) (by kernel_rfl) (by kernel_rfl) (fun _ _ _ h => h) (Or.inl ⟨by kernel_rfl, fun W hW => by kernel_rfl⟩) hS ?_
  refine wpAnyH_take (i := 3) (v := Value.int .i64 (size)) rfl (by kernel_rfl) (by kernel_rfl) (by kernel_rfl) (fun _ _ _ h => h) (Or.inl ⟨by kernel_rfl, fun W hW => by go_simp; exact IntWalk.i64_in _ (by omega)⟩) hS ?_
  refine wpAnyH_take (i := 4) (v := Value.int .i64 (size + 1)) rfl (by kernel_rfl) (by kernel_rfl) (by kernel_rfl) (fun _ _ _ h => h) (Or.inl ⟨by kernel_rfl, fun W hW => by go_simp; exact IntWalk.i64_in _ (by omega)⟩) hS ?_
  refine wpAnyH_take (i := 5) (v := Value.int .i64 (0)) rfl (by kernel_rfl) (by kernel_rfl) (by kernel_rfl) (fun _ _ _ h => h) (Or.inl ⟨by kernel_rfl, fun W hW => by go_simp; omega⟩) hS ?_
  refine wpAnyH_take (i := 6) (v := Value.int .u8 (0)) rfl (by kernel_rfl) (by kernel_rfl) (by kernel_rfl) (fun _ _ _ h => h) (Or.inl ⟨by kernel_rfl, fun W hW => by kernel_rfl⟩) hS ?_
  refine wpAnyH_take (i := 7) (v := Value.int .u8 (0)) rfl (by kernel_rfl) (by kernel_rfl) (by kernel_rfl) (fun _ _ _ h => h) (Or.inl ⟨by kernel_rfl, fun W hW => by kernel_rfl⟩) hS ?_
  refine wpAnyH_take (i := 8) (v := Value.int .i64 (0)) rfl (by kernel_rfl) (by kernel_rfl) (by kernel_rfl) (fun _ _ _ h => h) (Or.inl ⟨by kernel_rfl, fun W hW => by kernel_rfl⟩) hS ?_
  refine wpAnyH_take (i := 9) (v := Value.int .u8 (size)) rfl (by kernel_rfl) (by kernel_rfl) (by kernel_rfl) (fun _ _ _ h => h) (Or.inl ⟨by kernel_rfl, fun W hW => by kernel_rfl⟩) hS ?_
  refine wpAnyH_take (i := 10) (v := Value.slice a n cap) rfl (by kernel_rfl) (by kernel_rfl) (by kernel_rfl) (fun _ _ _ h => h) (Or.inl ⟨by kernel_rfl, fun W hW => by kernel_rfl⟩) hS ?_
  refine wpAnyH_ready (rs := [11]) (by kernel_rfl) (by simp) ?_
  refine AllReadyH.cons rfl (fun K hK => ?_) AllReadyH.nil
  rw [if_pos (by kernel_rfl)]
  go_simp
  go_wp2_with (go_at_call 30; refine (made_walk size n cap a c h0 h255 hn _ (HC.out.on hS.2.2)).mono ?_; rintro e w2 ⟨v, n2, p, s, t, rfl, o2, g2, hb2⟩; obtain ⟨a2, cap2, rfl, _⟩ := o2.regs g2; have HO2 : Hid (Own3 w2 (w.heap.size + 1) (.slice a2 n2 cap2) n2 p s t) := o2.low hS.2.1; have HG2 : Hid (Good n2 p s t size) := g2; clear o2 g2)
  refine hK.out _ _ (hS.on hb2) (fun hS => ?_)
  clear hK K
  refine wpAnyH_take (i := 12) (v := Value.agg #[.int .i64 0, .int .i64 0, .int .u8 63, .slice a2 n2 cap2]) rfl (by kernel_rfl) (by kernel_rfl) (by kernel_rfl) (fun _ _ _ h => h) (Or.inl ⟨by kernel_rfl, fun W hW => by kernel_rfl⟩) hS ?_
  obtain ⟨⟨cs, hcs, hsz⟩, hlt, hBw⟩ := hS
  obtain ⟨c0, c1, c2, c3, rfl⟩ : ∃ c0 c1 c2 c3, cs = #[c0, c1, c2, c3] := by
    match cs, hsz with
    | ⟨[c0, c1, c2, c3]⟩, _ => exact ⟨c0, c1, c2, c3, rfl⟩
  have x0 : w2.cell? ⟨w.heap.size, 0, none⟩ = some c0 := cell_of_row _ _ 0 _ _ _ hcs
  have x1 : w2.cell? ⟨w.heap.size, 1, none⟩ = some c1 := cell_of_row _ _ 1 _ _ _ hcs
  have x2 : w2.cell? ⟨w.heap.size, 2, none⟩ = some c2 := cell_of_row _ _ 2 _ _ _ hcs
  have x3 : w2.cell? ⟨w.heap.size, 3, none⟩ = some c3 := cell_of_row _ _ 3 _ _ _ hcs
  have f0 : ∀ j, w2.frozen? ⟨w.heap.size, j, none⟩ = false := fun j => by simp [World.frozen?, hcs]
  refine wpAnyH_ready (rs := [13]) (by kernel_rfl) (by simp) ?_
  refine AllReadyH.cons rfl (fun K hK => ?_) AllReadyH.nil
  rw [if_pos (by kernel_rfl)]
  go_simp
  have f00 := f0 0; have f01 := f0 1; have f02 := f0 2; have f03 := f0 3
  go_wp2
  have hb3 : ((((w2.setCell ⟨w.heap.size, 0, none⟩ (Value.int IntKind.i64 0)).setCell ⟨w.heap.size, 1, none⟩ (Value.int IntKind.i64 0)).setCell ⟨w.heap.size, 2, none⟩ (Value.int IntKind.u8 63)).setCell ⟨w.heap.size, 3, none⟩ (Value.slice a2 n2 cap2)).heap[w.heap.size]? = some (.cells #[Value.int IntKind.i64 0, Value.int IntKind.i64 0, Value.int IntKind.u8 63, Value.slice a2 n2 cap2] 37 (0, 0)) := by
    simp [World.setCell, Array.getElem?_modify, hcs]
  have hs3 : ((((w2.setCell ⟨w.heap.size, 0, none⟩ (Value.int IntKind.i64 0)).setCell ⟨w.heap.size, 1, none⟩ (Value.int IntKind.i64 0)).setCell ⟨w.heap.size, 2, none⟩ (Value.int IntKind.u8 63)).setCell ⟨w.heap.size, 3, none⟩ (Value.slice a2 n2 cap2)).heap.size = w2.heap.size := by
    simp [World.setCell]
  have ho3 := (((HO2.out.set (Nat.lt_succ_self _) 0 (Value.int IntKind.i64 0)).set (Nat.lt_succ_self _) 1 (Value.int IntKind.i64 0)).set (Nat.lt_succ_self _) 2 (Value.int IntKind.u8 63)).set (Nat.lt_succ_self _) 3 (Value.slice a2 n2 cap2)
  have hB3 := (((hBw.setCell (p := ⟨w.heap.size, 0, none⟩) (Nat.le_refl _) (Value.int IntKind.i64 0)).setCell (p := ⟨w.heap.size, 1, none⟩) (Nat.le_refl _) (Value.int IntKind.i64 0)).setCell (p := ⟨w.heap.size, 2, none⟩) (Nat.le_refl _) (Value.int IntKind.u8 63)).setCell (p := ⟨w.heap.size, 3, none⟩) (Nat.le_refl _) (Value.slice a2 n2 cap2)
  generalize ((((w2.setCell ⟨w.heap.size, 0, none⟩ (Value.int IntKind.i64 0)).setCell ⟨w.heap.size, 1, none⟩ (Value.int IntKind.i64 0)).setCell ⟨w.heap.size, 2, none⟩ (Value.int IntKind.u8 63)).setCell ⟨w.heap.size, 3, none⟩ (Value.slice a2 n2 cap2)) = w3 at *
  refine hK.out _ _ ⟨⟨_, hb3, rfl⟩, by omega, hB3⟩ (fun hS => ?_)
  clear hK K
  clear x0 x1 x2 x3 f0 f00 f01 f02 f03
  have HO3 : Hid (Own3 w3 (w.heap.size + 1) (Value.slice a2 n2 cap2) n2 p s t) := ho3
  have HB3 : Hid (Below w.heap.size w w3) := hB3
  have x0 : w3.cell? ⟨w.heap.size, 0, none⟩ = some (.int .i64 0) := cell_of_row _ _ 0 _ _ _ hb3
  have x1 : w3.cell? ⟨w.heap.size, 1, none⟩ = some (.int .i64 0) := cell_of_row _ _ 1 _ _ _ hb3
  have x2 : w3.cell? ⟨w.heap.size, 2, none⟩ = some (.int .u8 63) := cell_of_row _ _ 2 _ _ _ hb3
  have x3 : w3.cell? ⟨w.heap.size, 3, none⟩ = some (Value.slice a2 n2 cap2) := cell_of_row _ _ 3 _ _ _ hb3
  clear ho3 hB3 hs3 hcs hsz hBw hS
  refine wpAnyH_done (by kernel_rfl) ?_ _
  go_wp2
  refine bodyPost_ret (results_cell_row rfl _ _ w.heap.size 37 _ (0, 0) _ rfl hb3 Try.underlying37 rfl (by kernel_rfl)) rfl ?_
  exact ⟨_, n2, p, s, t, rfl, HO3.out.low (by omega), HG2.out, HB3.out⟩

end Go.Proofs.Ytmefkfilclkgeaa.bound
