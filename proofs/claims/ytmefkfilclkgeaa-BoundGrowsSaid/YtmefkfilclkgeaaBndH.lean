import Derived.Test.YtmefkfilclkgeaaBndE
import Derived.Deep.RegionWith
import Derived.Deep.RegionHeld3
import Derived.Deep.Cut
namespace Go.Proofs.Ytmefkfilclkgeaa.bound
open Go.ChangeShapes Go.WideShapes Go.ChangeAt Go.RowKit
set_option linter.unusedVariables false
/-- the two boxes, the regions, and what was there -/
def Two (w W : World) (c r pos pass st : Int) (bk : Bool) (a : Option Addr) (n cap : Nat) (l : List Rg) : Prop :=
  w.heap.size + 1 < W.heap.size ∧ W.cell? ⟨w.heap.size, 0, none⟩ = some (.int .i64 c) ∧ W.cell? ⟨w.heap.size, 1, none⟩ = some (.int .i64 r) ∧ W.cell? ⟨w.heap.size, 2, none⟩ = some (.bool bk) ∧
  W.cell? ⟨w.heap.size + 1, 0, none⟩ = some (.int .i64 pos) ∧ W.cell? ⟨w.heap.size + 1, 1, none⟩ = some (.int .i64 pass) ∧ W.cell? ⟨w.heap.size + 1, 2, none⟩ = some (.int .u8 st) ∧ W.cell? ⟨w.heap.size + 1, 3, none⟩ = some (.slice a n cap) ∧ Regs W a l ∧ Below w.heap.size w W
section
variable {w W W' : World} {c r pos pass st : Int} {bk : Bool} {a : Option Addr} {n cap : Nat} {l : List Rg}
theorem Two.on (h : Two w W c r pos pass st bk a n cap l) (k : Below W.heap.size W W') : Two w W' c r pos pass st bk a n cap l := by
  obtain ⟨h0, h1, h2, h3, h4, h5, h6, h7, h8, h9⟩ := h
  refine ⟨Nat.lt_of_lt_of_le h0 k.size, (k.cell ?_).trans h1, (k.cell ?_).trans h2, (k.cell ?_).trans h3, (k.cell h0).trans h4, (k.cell h0).trans h5, (k.cell h0).trans h6, (k.cell h0).trans h7, h8.on k, h9.trans (k.mono h9.size)⟩ <;> exact Nat.lt_of_succ_lt h0
theorem Two.drew (h : Two w W c r pos pass st bk a n cap l) : Two w W.drew c r pos pass st bk a n cap l := h.on (Below.refl _ W).drew
theorem Two.regs (h : Two w W c r pos pass st bk a n cap l) : Regs W a l := h.2.2.2.2.2.2.2.2.1
theorem Two.below (h : Two w W c r pos pass st bk a n cap l) : Below w.heap.size w W := h.2.2.2.2.2.2.2.2.2
theorem Two.new (h : Regs w a l) : Two w ((w.alloc (Obj.cells #[Value.int IntKind.i64 c, Value.int IntKind.i64 r, Value.bool bk] 34)).alloc (Obj.cells #[Value.int IntKind.i64 pos, Value.int IntKind.i64 pass, Value.int IntKind.u8 st, Value.slice a n cap] 37)) c r pos pass st bk a n cap l := by
  have k : Below w.heap.size w ((w.alloc (Obj.cells #[Value.int IntKind.i64 c, Value.int IntKind.i64 r, Value.bool bk] 34)).alloc (Obj.cells #[Value.int IntKind.i64 pos, Value.int IntKind.i64 pass, Value.int IntKind.u8 st, Value.slice a n cap] 37)) := ((Below.refl _ w).alloc (Nat.le_refl _) _).alloc (by simp) _
  refine ⟨?_, ?_, ?_, ?_, ?_, ?_, ?_, ?_, h.on k, k⟩ <;> go_simp
end
set_option maxHeartbeats 1000000 in
set_option maxRecDepth 1000000 in
theorem acts_yes (c r pos pass st x y : Int) (bk : Bool) (a : Option Addr) (n cap : Nat) (l : List Rg) (hr : 0 ≤ r ∧ r ≤ 20) (hy : 0 ≤ y ∧ y ≤ 137438953472) (hn : n ≤ 300)
    (k1 : ∀ w, Calls Try.prog 31 #[.agg #[.int .i64 c, .int .i64 r, .bool bk]] w fun e w' => e = .returned (.bool true) ∧ Below w.heap.size w w')
    (k2 : ∀ w, Regs w a l → Calls Try.prog 26 #[.agg #[.int .i64 pos, .int .i64 pass, .int .u8 st, .slice a n cap]] w fun e w' => e = .returned (.bool true) ∧ Below w.heap.size w w')
    (k3 : ∀ w, Regs w a l → Calls Try.prog 32 #[.slice a n cap] w fun e w' => e = .returned (.int .i64 x) ∧ Below w.heap.size w w')
    (k4 : ∀ w, Calls Try.prog 18 #[.int .i64 x] w fun e w' => e = .returned (.int .i64 y) ∧ w' = w)
    (w : World) (h : Regs w a l) :
    Calls Try.prog 19 #[.agg #[.int .i64 c, .int .i64 r, .bool bk], .agg #[.int .i64 pos, .int .i64 pass, .int .u8 st, .slice a n cap]] w fun e w' => e = .returned (.int .i64 ((3 + 2 * r) * (y + n))) ∧ Below w.heap.size w w' := by
  obtain ⟨hr0, hr1⟩ := hr
  obtain ⟨hy0, hy1⟩ := hy
  have hT := Two.new (c := c) (r := r) (pos := pos) (pass := pass) (st := st) (bk := bk) (n := n) (cap := cap) h
  have HP : Hid (IntKind.i64.wrap ((3 + 2 * r) * (y + (n : Int))) = (3 + 2 * r) * (y + (n : Int))) := by
    have p1 : 0 ≤ (3 + 2 * r) * (y + (n : Int)) := Int.mul_nonneg (by omega) (by omega)
    have p2 : (3 + 2 * r) * (y + (n : Int)) ≤ 43 * 137438953772 := Int.mul_le_mul (by omega) (by omega) (by omega) (by omega)
    exact IntWalk.i64_in _ (by omega)
  clear h
  go_enter Try.func19, Try.ntmps19
  go_upto_region 1 with (fail)
  generalize ((w.alloc (Obj.cells #[Value.int IntKind.i64 c, Value.int IntKind.i64 r, Value.bool bk] 34)).alloc (Obj.cells #[Value.int IntKind.i64 pos, Value.int IntKind.i64 pass, Value.int IntKind.u8 st, Value.slice a n cap] 37)) = W0 at *
  have a0 := hT.2.1
  have a1 := hT.2.2.1
  have a2 := hT.2.2.2.1
  go_wp2_with (first
    | (go_at_call 31; refine (k1 _).mono ?_; rintro e w1 ⟨rfl, hb1⟩; replace hT := hT.on hb1; have b0 := hT.2.2.2.2.1; have b1 := hT.2.2.2.2.2.1; have b2 := hT.2.2.2.2.2.2.1; have b3 := hT.2.2.2.2.2.2.2.1; clear hb1)
    | (go_at_call 26; refine (k2 _ hT.regs).mono ?_; rintro e w2 ⟨rfl, hb2⟩; replace hT := hT.on hb2; clear hb2))
  refine wp_region_held_drew (S := fun W => Two w W c r pos pass st bk a n cap l) (by kernel_rfl) hT.drew (fun hS => ?_)
  replace hS : Two w w2.drew c r pos pass st bk a n cap l := hS
  refine wpAnyH_take (i := 0) (v := Value.pointer (some ⟨w.heap.size, 1, none⟩)) rfl (by kernel_rfl) (by kernel_rfl) (by kernel_rfl) (fun _ _ _ h => h) (Or.inl ⟨by kernel_rfl, fun W hW => by kernel_rfl⟩) hS ?_
  refine wpAnyH_take (i := 1) (v := Value.int .i64 r) rfl (by kernel_rfl) (by kernel_rfl) (by kernel_rfl) (fun _ _ _ h => h) (Or.inl ⟨by kernel_rfl, fun W hW => by obtain ⟨hBB, a0, a1, a2, b0, b1, b2, b3, hRR, hSS⟩ := hW; go_simp⟩) hS ?_
  refine wpAnyH_take (i := 2) (v := Value.int .i64 (2 * r)) rfl (by kernel_rfl) (by kernel_rfl) (by kernel_rfl) (fun _ _ _ h => h) (Or.inl ⟨by kernel_rfl, fun W hW => by go_simp; exact IntWalk.i64_in _ (by omega)⟩) hS ?_
  refine wpAnyH_take (i := 3) (v := Value.int .i64 (3 + 2 * r)) rfl (by kernel_rfl) (by kernel_rfl) (by kernel_rfl) (fun _ _ _ h => h) (Or.inl ⟨by kernel_rfl, fun W hW => by go_simp; exact IntWalk.i64_in _ (by omega)⟩) hS ?_
  refine wpAnyH_take (i := 4) (v := Value.pointer (some ⟨w.heap.size + 1, 3, none⟩)) rfl (by kernel_rfl) (by kernel_rfl) (by kernel_rfl) (fun _ _ _ h => h) (Or.inl ⟨by kernel_rfl, fun W hW => by kernel_rfl⟩) hS ?_
  refine wpAnyH_take (i := 5) (v := Value.slice a n cap) rfl (by kernel_rfl) (by kernel_rfl) (by kernel_rfl) (fun _ _ _ h => h) (Or.inl ⟨by kernel_rfl, fun W hW => by obtain ⟨hBB, a0, a1, a2, b0, b1, b2, b3, hRR, hSS⟩ := hW; go_simp⟩) hS ?_
  refine wpAnyH_take (i := 8) (v := Value.pointer (some ⟨w.heap.size + 1, 3, none⟩)) rfl (by kernel_rfl) (by kernel_rfl) (by kernel_rfl) (fun _ _ _ h => h) (Or.inl ⟨by kernel_rfl, fun W hW => by kernel_rfl⟩) hS ?_
  refine wpAnyH_take (i := 9) (v := Value.slice a n cap) rfl (by kernel_rfl) (by kernel_rfl) (by kernel_rfl) (fun _ _ _ h => h) (Or.inl ⟨by kernel_rfl, fun W hW => by obtain ⟨hBB, a0, a1, a2, b0, b1, b2, b3, hRR, hSS⟩ := hW; go_simp⟩) hS ?_
  refine wpAnyH_take (i := 10) (v := Value.int .i64 n) rfl (by kernel_rfl) (by kernel_rfl) (by kernel_rfl) (fun _ _ _ h => h) (Or.inl ⟨by kernel_rfl, fun W hW => by go_simp⟩) hS ?_
  refine wpAnyH_ready (rs := [6]) (by kernel_rfl) (by simp) ?_
  refine AllReadyH.cons rfl (fun K hK => ?_) AllReadyH.nil
  rw [if_pos (by kernel_rfl)]
  go_simp
  go_wp2_with (go_at_call 32; refine (k3 _ hS.regs).mono ?_; rintro e w1 ⟨rfl, hb⟩; have hS1 := hS.on hb; clear hb)
  refine hK.out _ _ (by assumption) (fun hS => ?_)
  clear hK K
  refine wpAnyH_ready (rs := [7]) (by kernel_rfl) (by simp) ?_
  refine AllReadyH.cons rfl (fun K hK => ?_) AllReadyH.nil
  rw [if_pos (by kernel_rfl)]
  go_simp
  go_wp2_with (go_at_call 18; refine (k4 _).mono ?_; rintro e w1 ⟨rfl, rfl⟩)
  refine hK.out _ _ (by assumption) (fun hS => ?_)
  clear hK K
  refine wpAnyH_take (i := 11) (v := Value.int .i64 (y + n)) rfl (by kernel_rfl) (by kernel_rfl) (by kernel_rfl) (fun _ _ _ h => h) (Or.inl ⟨by kernel_rfl, fun W hW => by go_simp; exact IntWalk.i64_in _ (by omega)⟩) hS ?_
  refine wpAnyH_take (i := 12) (v := Value.int .i64 ((3 + 2 * r) * (y + n))) rfl (by kernel_rfl) (by kernel_rfl) (by kernel_rfl) (fun _ _ _ h => h) (Or.inl ⟨by kernel_rfl, fun W hW => by go_simp; exact HP.out⟩) hS ?_
  refine wpAnyH_take (i := 13) (v := Value.int .i64 ((3 + 2 * r) * (y + n))) rfl (by kernel_rfl) (by kernel_rfl) (by kernel_rfl) (fun _ _ _ h => h) (Or.inl ⟨by kernel_rfl, fun W hW => by kernel_rfl⟩) hS ?_
  refine wpAnyH_done (by kernel_rfl) ?_ _
  go_wp2
  go_ret
  exact ⟨rfl, hS.below⟩
set_option maxHeartbeats 1000000 in
set_option maxRecDepth 1000000 in
theorem racts_yes (c r pos pass st x y : Int) (bk : Bool) (a : Option Addr) (n cap : Nat) (l : List Rg) (hr : 0 ≤ r ∧ r ≤ 20) (hy : 0 ≤ y ∧ y ≤ 137438953472) (hn : n ≤ 300)
    (k1 : ∀ w, Calls Try.prog 33 #[.agg #[.int .i64 c, .int .i64 r, .bool bk]] w fun e w' => e = .returned (.bool true) ∧ Below w.heap.size w w')
    (k2 : ∀ w, Regs w a l → Calls Try.prog 34 #[.agg #[.int .i64 pos, .int .i64 pass, .int .u8 st, .slice a n cap]] w fun e w' => e = .returned (.bool true) ∧ Below w.heap.size w w')
    (k3 : ∀ w, Regs w a l → Calls Try.prog 35 #[.slice a n cap] w fun e w' => e = .returned (.int .i64 x) ∧ Below w.heap.size w w')
    (k4 : ∀ w, Calls Try.prog 22 #[.int .i64 x] w fun e w' => e = .returned (.int .i64 y) ∧ w' = w)
    (w : World) (h : Regs w a l) :
    Calls Try.prog 23 #[.agg #[.int .i64 c, .int .i64 r, .bool bk], .agg #[.int .i64 pos, .int .i64 pass, .int .u8 st, .slice a n cap]] w fun e w' => e = .returned (.int .i64 ((3 + 2 * r) * (y + n))) ∧ Below w.heap.size w w' := by
  obtain ⟨hr0, hr1⟩ := hr
  obtain ⟨hy0, hy1⟩ := hy
  have hT := Two.new (c := c) (r := r) (pos := pos) (pass := pass) (st := st) (bk := bk) (n := n) (cap := cap) h
  have HP : Hid (IntKind.i64.wrap ((3 + 2 * r) * (y + (n : Int))) = (3 + 2 * r) * (y + (n : Int))) := by
    have p1 : 0 ≤ (3 + 2 * r) * (y + (n : Int)) := Int.mul_nonneg (by omega) (by omega)
    have p2 : (3 + 2 * r) * (y + (n : Int)) ≤ 43 * 137438953772 := Int.mul_le_mul (by omega) (by omega) (by omega) (by omega)
    exact IntWalk.i64_in _ (by omega)
  clear h
  go_enter Try.func23, Try.ntmps23
  go_upto_region 1 with (fail)
  generalize ((w.alloc (Obj.cells #[Value.int IntKind.i64 c, Value.int IntKind.i64 r, Value.bool bk] 34)).alloc (Obj.cells #[Value.int IntKind.i64 pos, Value.int IntKind.i64 pass, Value.int IntKind.u8 st, Value.slice a n cap] 37)) = W0 at *
  have a0 := hT.2.1
  have a1 := hT.2.2.1
  have a2 := hT.2.2.2.1
  go_wp2_with (first
    | (go_at_call 33; refine (k1 _).mono ?_; rintro e w1 ⟨rfl, hb1⟩; replace hT := hT.on hb1; have b0 := hT.2.2.2.2.1; have b1 := hT.2.2.2.2.2.1; have b2 := hT.2.2.2.2.2.2.1; have b3 := hT.2.2.2.2.2.2.2.1; clear hb1)
    | (go_at_call 34; refine (k2 _ hT.regs).mono ?_; rintro e w2 ⟨rfl, hb2⟩; replace hT := hT.on hb2; clear hb2))
  refine wp_region_held_drew (S := fun W => Two w W c r pos pass st bk a n cap l) (by kernel_rfl) hT.drew (fun hS => ?_)
  replace hS : Two w w2.drew c r pos pass st bk a n cap l := hS
  refine wpAnyH_take (i := 0) (v := Value.pointer (some ⟨w.heap.size, 1, none⟩)) rfl (by kernel_rfl) (by kernel_rfl) (by kernel_rfl) (fun _ _ _ h => h) (Or.inl ⟨by kernel_rfl, fun W hW => by kernel_rfl⟩) hS ?_
  refine wpAnyH_take (i := 1) (v := Value.int .i64 r) rfl (by kernel_rfl) (by kernel_rfl) (by kernel_rfl) (fun _ _ _ h => h) (Or.inl ⟨by kernel_rfl, fun W hW => by obtain ⟨hBB, a0, a1, a2, b0, b1, b2, b3, hRR, hSS⟩ := hW; go_simp⟩) hS ?_
  refine wpAnyH_take (i := 2) (v := Value.int .i64 (2 * r)) rfl (by kernel_rfl) (by kernel_rfl) (by kernel_rfl) (fun _ _ _ h => h) (Or.inl ⟨by kernel_rfl, fun W hW => by go_simp; exact IntWalk.i64_in _ (by omega)⟩) hS ?_
  refine wpAnyH_take (i := 3) (v := Value.int .i64 (3 + 2 * r)) rfl (by kernel_rfl) (by kernel_rfl) (by kernel_rfl) (fun _ _ _ h => h) (Or.inl ⟨by kernel_rfl, fun W hW => by go_simp; exact IntWalk.i64_in _ (by omega)⟩) hS ?_
  refine wpAnyH_take (i := 4) (v := Value.pointer (some ⟨w.heap.size + 1, 3, none⟩)) rfl (by kernel_rfl) (by kernel_rfl) (by kernel_rfl) (fun _ _ _ h => h) (Or.inl ⟨by kernel_rfl, fun W hW => by kernel_rfl⟩) hS ?_
  refine wpAnyH_take (i := 5) (v := Value.slice a n cap) rfl (by kernel_rfl) (by kernel_rfl) (by kernel_rfl) (fun _ _ _ h => h) (Or.inl ⟨by kernel_rfl, fun W hW => by obtain ⟨hBB, a0, a1, a2, b0, b1, b2, b3, hRR, hSS⟩ := hW; go_simp⟩) hS ?_
  refine wpAnyH_take (i := 8) (v := Value.pointer (some ⟨w.heap.size + 1, 3, none⟩)) rfl (by kernel_rfl) (by kernel_rfl) (by kernel_rfl) (fun _ _ _ h => h) (Or.inl ⟨by kernel_rfl, fun W hW => by kernel_rfl⟩) hS ?_
  refine wpAnyH_take (i := 9) (v := Value.slice a n cap) rfl (by kernel_rfl) (by kernel_rfl) (by kernel_rfl) (fun _ _ _ h => h) (Or.inl ⟨by kernel_rfl, fun W hW => by obtain ⟨hBB, a0, a1, a2, b0, b1, b2, b3, hRR, hSS⟩ := hW; go_simp⟩) hS ?_
  refine wpAnyH_take (i := 10) (v := Value.int .i64 n) rfl (by kernel_rfl) (by kernel_rfl) (by kernel_rfl) (fun _ _ _ h => h) (Or.inl ⟨by kernel_rfl, fun W hW => by go_simp⟩) hS ?_
  refine wpAnyH_ready (rs := [6]) (by kernel_rfl) (by simp) ?_
  refine AllReadyH.cons rfl (fun K hK => ?_) AllReadyH.nil
  rw [if_pos (by kernel_rfl)]
  go_simp
  go_wp2_with (go_at_call 35; refine (k3 _ hS.regs).mono ?_; rintro e w1 ⟨rfl, hb⟩; have hS1 := hS.on hb; clear hb)
  refine hK.out _ _ (by assumption) (fun hS => ?_)
  clear hK K
  refine wpAnyH_ready (rs := [7]) (by kernel_rfl) (by simp) ?_
  refine AllReadyH.cons rfl (fun K hK => ?_) AllReadyH.nil
  rw [if_pos (by kernel_rfl)]
  go_simp
  go_wp2_with (go_at_call 22; refine (k4 _).mono ?_; rintro e w1 ⟨rfl, rfl⟩)
  refine hK.out _ _ (by assumption) (fun hS => ?_)
  clear hK K
  refine wpAnyH_take (i := 11) (v := Value.int .i64 (y + n)) rfl (by kernel_rfl) (by kernel_rfl) (by kernel_rfl) (fun _ _ _ h => h) (Or.inl ⟨by kernel_rfl, fun W hW => by go_simp; exact IntWalk.i64_in _ (by omega)⟩) hS ?_
  refine wpAnyH_take (i := 12) (v := Value.int .i64 ((3 + 2 * r) * (y + n))) rfl (by kernel_rfl) (by kernel_rfl) (by kernel_rfl) (fun _ _ _ h => h) (Or.inl ⟨by kernel_rfl, fun W hW => by go_simp; exact HP.out⟩) hS ?_
  refine wpAnyH_take (i := 13) (v := Value.int .i64 ((3 + 2 * r) * (y + n))) rfl (by kernel_rfl) (by kernel_rfl) (by kernel_rfl) (fun _ _ _ h => h) (Or.inl ⟨by kernel_rfl, fun W hW => by kernel_rfl⟩) hS ?_
  refine wpAnyH_done (by kernel_rfl) ?_ _
  go_wp2
  go_ret
  exact ⟨rfl, hS.below⟩

set_option maxHeartbeats 1000000 in
theorem acts_no1 (c r pos pass st : Int) (bk : Bool) (a : Option Addr) (n cap : Nat) (l : List Rg)
    (k1 : ∀ w, Calls Try.prog 31 #[.agg #[.int .i64 c, .int .i64 r, .bool bk]] w fun e w' => e = .returned (.bool false) ∧ Below w.heap.size w w')
    (w : World) (h : Regs w a l) :
    Calls Try.prog 19 #[.agg #[.int .i64 c, .int .i64 r, .bool bk], .agg #[.int .i64 pos, .int .i64 pass, .int .u8 st, .slice a n cap]] w fun e w' => e = .returned (.int .i64 0) ∧ Below w.heap.size w w' := by
  have hT := Two.new (c := c) (r := r) (pos := pos) (pass := pass) (st := st) (bk := bk) (n := n) (cap := cap) h
  clear h
  go_enter Try.func19, Try.ntmps19
  go_upto_region 1 with (fail)
  generalize ((w.alloc (Obj.cells #[Value.int IntKind.i64 c, Value.int IntKind.i64 r, Value.bool bk] 34)).alloc (Obj.cells #[Value.int IntKind.i64 pos, Value.int IntKind.i64 pass, Value.int IntKind.u8 st, Value.slice a n cap] 37)) = W0 at *
  have a0 := hT.2.1
  have a1 := hT.2.2.1
  have a2 := hT.2.2.2.1
  go_wp2_with (first
    | (go_at_call 31; refine (k1 _).mono ?_; rintro e w1 ⟨rfl, hb1⟩; replace hT := hT.on hb1; have b0 := hT.2.2.2.2.1; have b1 := hT.2.2.2.2.2.1; have b2 := hT.2.2.2.2.2.2.1; have b3 := hT.2.2.2.2.2.2.2.1; clear hb1))
  refine bodyPost_ret (results_tmp rfl _ _ _) rfl ?_
  exact ⟨rfl, hT.below⟩

set_option maxHeartbeats 1000000 in
theorem acts_no2 (c r pos pass st : Int) (bk : Bool) (a : Option Addr) (n cap : Nat) (l : List Rg)
    (k1 : ∀ w, Calls Try.prog 31 #[.agg #[.int .i64 c, .int .i64 r, .bool bk]] w fun e w' => e = .returned (.bool true) ∧ Below w.heap.size w w')
    (k2 : ∀ w, Regs w a l → Calls Try.prog 26 #[.agg #[.int .i64 pos, .int .i64 pass, .int .u8 st, .slice a n cap]] w fun e w' => e = .returned (.bool false) ∧ Below w.heap.size w w')
    (w : World) (h : Regs w a l) :
    Calls Try.prog 19 #[.agg #[.int .i64 c, .int .i64 r, .bool bk], .agg #[.int .i64 pos, .int .i64 pass, .int .u8 st, .slice a n cap]] w fun e w' => e = .returned (.int .i64 0) ∧ Below w.heap.size w w' := by
  have hT := Two.new (c := c) (r := r) (pos := pos) (pass := pass) (st := st) (bk := bk) (n := n) (cap := cap) h
  clear h
  go_enter Try.func19, Try.ntmps19
  go_upto_region 1 with (fail)
  generalize ((w.alloc (Obj.cells #[Value.int IntKind.i64 c, Value.int IntKind.i64 r, Value.bool bk] 34)).alloc (Obj.cells #[Value.int IntKind.i64 pos, Value.int IntKind.i64 pass, Value.int IntKind.u8 st, Value.slice a n cap] 37)) = W0 at *
  have a0 := hT.2.1
  have a1 := hT.2.2.1
  have a2 := hT.2.2.2.1
  go_wp2_with (first
    | (go_at_call 31; refine (k1 _).mono ?_; rintro e w1 ⟨rfl, hb1⟩; replace hT := hT.on hb1; have b0 := hT.2.2.2.2.1; have b1 := hT.2.2.2.2.2.1; have b2 := hT.2.2.2.2.2.2.1; have b3 := hT.2.2.2.2.2.2.2.1; clear hb1)
    | (go_at_call 26; refine (k2 _ hT.regs).mono ?_; rintro e w2 ⟨rfl, hb2⟩; replace hT := hT.on hb2; clear hb2))
  refine bodyPost_ret (results_tmp rfl _ _ _) rfl ?_
  exact ⟨rfl, hT.below⟩

set_option maxHeartbeats 1000000 in
theorem steps_no1 (c r pos pass st : Int) (bk : Bool) (a : Option Addr) (n cap : Nat) (l : List Rg)
    (k1 : ∀ w, Calls Try.prog 31 #[.agg #[.int .i64 c, .int .i64 r, .bool bk]] w fun e w' => e = .returned (.bool false) ∧ Below w.heap.size w w')
    (w : World) (h : Regs w a l) :
    Calls Try.prog 20 #[.agg #[.int .i64 c, .int .i64 r, .bool bk], .agg #[.int .i64 pos, .int .i64 pass, .int .u8 st, .slice a n cap]] w fun e w' => e = .returned (.int .i64 0) ∧ Below w.heap.size w w' := by
  have hT := Two.new (c := c) (r := r) (pos := pos) (pass := pass) (st := st) (bk := bk) (n := n) (cap := cap) h
  clear h
  go_enter Try.func20, Try.ntmps20
  go_upto_region 1 with (fail)
  generalize ((w.alloc (Obj.cells #[Value.int IntKind.i64 c, Value.int IntKind.i64 r, Value.bool bk] 34)).alloc (Obj.cells #[Value.int IntKind.i64 pos, Value.int IntKind.i64 pass, Value.int IntKind.u8 st, Value.slice a n cap] 37)) = W0 at *
  have a0 := hT.2.1
  have a1 := hT.2.2.1
  have a2 := hT.2.2.2.1
  go_wp2_with (first
    | (go_at_call 31; refine (k1 _).mono ?_; rintro e w1 ⟨rfl, hb1⟩; replace hT := hT.on hb1; have b0 := hT.2.2.2.2.1; have b1 := hT.2.2.2.2.2.1; have b2 := hT.2.2.2.2.2.2.1; have b3 := hT.2.2.2.2.2.2.2.1; clear hb1))
  refine bodyPost_ret (results_tmp rfl _ _ _) rfl ?_
  exact ⟨rfl, hT.below⟩

set_option maxHeartbeats 1000000 in
theorem steps_no2 (c r pos pass st : Int) (bk : Bool) (a : Option Addr) (n cap : Nat) (l : List Rg)
    (k1 : ∀ w, Calls Try.prog 31 #[.agg #[.int .i64 c, .int .i64 r, .bool bk]] w fun e w' => e = .returned (.bool true) ∧ Below w.heap.size w w')
    (k2 : ∀ w, Regs w a l → Calls Try.prog 26 #[.agg #[.int .i64 pos, .int .i64 pass, .int .u8 st, .slice a n cap]] w fun e w' => e = .returned (.bool false) ∧ Below w.heap.size w w')
    (w : World) (h : Regs w a l) :
    Calls Try.prog 20 #[.agg #[.int .i64 c, .int .i64 r, .bool bk], .agg #[.int .i64 pos, .int .i64 pass, .int .u8 st, .slice a n cap]] w fun e w' => e = .returned (.int .i64 0) ∧ Below w.heap.size w w' := by
  have hT := Two.new (c := c) (r := r) (pos := pos) (pass := pass) (st := st) (bk := bk) (n := n) (cap := cap) h
  clear h
  go_enter Try.func20, Try.ntmps20
  go_upto_region 1 with (fail)
  generalize ((w.alloc (Obj.cells #[Value.int IntKind.i64 c, Value.int IntKind.i64 r, Value.bool bk] 34)).alloc (Obj.cells #[Value.int IntKind.i64 pos, Value.int IntKind.i64 pass, Value.int IntKind.u8 st, Value.slice a n cap] 37)) = W0 at *
  have a0 := hT.2.1
  have a1 := hT.2.2.1
  have a2 := hT.2.2.2.1
  go_wp2_with (first
    | (go_at_call 31; refine (k1 _).mono ?_; rintro e w1 ⟨rfl, hb1⟩; replace hT := hT.on hb1; have b0 := hT.2.2.2.2.1; have b1 := hT.2.2.2.2.2.1; have b2 := hT.2.2.2.2.2.2.1; have b3 := hT.2.2.2.2.2.2.2.1; clear hb1)
    | (go_at_call 26; refine (k2 _ hT.regs).mono ?_; rintro e w2 ⟨rfl, hb2⟩; replace hT := hT.on hb2; clear hb2))
  refine bodyPost_ret (results_tmp rfl _ _ _) rfl ?_
  exact ⟨rfl, hT.below⟩

set_option maxHeartbeats 1000000 in
theorem steps_yes (c r pos pass st x : Int) (bk : Bool) (a : Option Addr) (n cap : Nat) (l : List Rg) (hx : 0 ≤ x ∧ x ≤ 9223372036854775806)
    (k1 : ∀ w, Calls Try.prog 31 #[.agg #[.int .i64 c, .int .i64 r, .bool bk]] w fun e w' => e = .returned (.bool true) ∧ Below w.heap.size w w')
    (k2 : ∀ w, Regs w a l → Calls Try.prog 26 #[.agg #[.int .i64 pos, .int .i64 pass, .int .u8 st, .slice a n cap]] w fun e w' => e = .returned (.bool true) ∧ Below w.heap.size w w')
    (k3 : ∀ w, Regs w a l → Calls Try.prog 19 #[.agg #[.int .i64 c, .int .i64 r, .bool bk], .agg #[.int .i64 pos, .int .i64 pass, .int .u8 st, .slice a n cap]] w fun e w' => e = .returned (.int .i64 x) ∧ Below w.heap.size w w')
    (w : World) (h : Regs w a l) :
    Calls Try.prog 20 #[.agg #[.int .i64 c, .int .i64 r, .bool bk], .agg #[.int .i64 pos, .int .i64 pass, .int .u8 st, .slice a n cap]] w fun e w' => e = .returned (.int .i64 (x + 1)) ∧ Below w.heap.size w w' := by
  obtain ⟨hx0, hx1⟩ := hx
  have hT := Two.new (c := c) (r := r) (pos := pos) (pass := pass) (st := st) (bk := bk) (n := n) (cap := cap) h
  clear h
  go_enter Try.func20, Try.ntmps20
  go_upto_region 1 with (fail)
  generalize ((w.alloc (Obj.cells #[Value.int IntKind.i64 c, Value.int IntKind.i64 r, Value.bool bk] 34)).alloc (Obj.cells #[Value.int IntKind.i64 pos, Value.int IntKind.i64 pass, Value.int IntKind.u8 st, Value.slice a n cap] 37)) = W0 at *
  have a0 := hT.2.1
  have a1 := hT.2.2.1
  have a2 := hT.2.2.2.1
  go_wp2_with (first
    | (go_at_call 31; refine (k1 _).mono ?_; rintro e w1 ⟨rfl, hb1⟩; replace hT := hT.on hb1; have b0 := hT.2.2.2.2.1; have b1 := hT.2.2.2.2.2.1; have b2 := hT.2.2.2.2.2.2.1; have b3 := hT.2.2.2.2.2.2.2.1; clear hb1)
    | (go_at_call 26; refine (k2 _ hT.regs).mono ?_; rintro e w2 ⟨rfl, hb2⟩; replace hT := hT.on hb2; have c0 := hT.2.1; have c1 := hT.2.2.1; have c2 := hT.2.2.2.1; have d0 := hT.2.2.2.2.1; have d1 := hT.2.2.2.2.2.1; have d2 := hT.2.2.2.2.2.2.1; have d3 := hT.2.2.2.2.2.2.2.1; clear hb2)
    | (go_at_call 19; refine (k3 _ hT.regs).mono ?_; rintro e w3 ⟨rfl, hb3⟩; replace hT := hT.on hb3; clear hb3))
  refine bodyPost_ret (results_tmp rfl _ _ _) rfl ?_
  exact ⟨rfl, hT.below⟩

set_option maxHeartbeats 1000000 in
theorem racts_no1 (c r pos pass st : Int) (bk : Bool) (a : Option Addr) (n cap : Nat) (l : List Rg)
    (k1 : ∀ w, Calls Try.prog 33 #[.agg #[.int .i64 c, .int .i64 r, .bool bk]] w fun e w' => e = .returned (.bool false) ∧ Below w.heap.size w w')
    (w : World) (h : Regs w a l) :
    Calls Try.prog 23 #[.agg #[.int .i64 c, .int .i64 r, .bool bk], .agg #[.int .i64 pos, .int .i64 pass, .int .u8 st, .slice a n cap]] w fun e w' => e = .returned (.int .i64 0) ∧ Below w.heap.size w w' := by
  have hT := Two.new (c := c) (r := r) (pos := pos) (pass := pass) (st := st) (bk := bk) (n := n) (cap := cap) h
  clear h
  go_enter Try.func23, Try.ntmps23
  go_upto_region 1 with (fail)
  generalize ((w.alloc (Obj.cells #[Value.int IntKind.i64 c, Value.int IntKind.i64 r, Value.bool bk] 34)).alloc (Obj.cells #[Value.int IntKind.i64 pos, Value.int IntKind.i64 pass, Value.int IntKind.u8 st, Value.slice a n cap] 37)) = W0 at *
  have a0 := hT.2.1
  have a1 := hT.2.2.1
  have a2 := hT.2.2.2.1
  go_wp2_with (first
    | (go_at_call 33; refine (k1 _).mono ?_; rintro e w1 ⟨rfl, hb1⟩; replace hT := hT.on hb1; have b0 := hT.2.2.2.2.1; have b1 := hT.2.2.2.2.2.1; have b2 := hT.2.2.2.2.2.2.1; have b3 := hT.2.2.2.2.2.2.2.1; clear hb1))
  refine bodyPost_ret (results_tmp rfl _ _ _) rfl ?_
  exact ⟨rfl, hT.below⟩

set_option maxHeartbeats 1000000 in
theorem racts_no2 (c r pos pass st : Int) (bk : Bool) (a : Option Addr) (n cap : Nat) (l : List Rg)
    (k1 : ∀ w, Calls Try.prog 33 #[.agg #[.int .i64 c, .int .i64 r, .bool bk]] w fun e w' => e = .returned (.bool true) ∧ Below w.heap.size w w')
    (k2 : ∀ w, Regs w a l → Calls Try.prog 34 #[.agg #[.int .i64 pos, .int .i64 pass, .int .u8 st, .slice a n cap]] w fun e w' => e = .returned (.bool false) ∧ Below w.heap.size w w')
    (w : World) (h : Regs w a l) :
    Calls Try.prog 23 #[.agg #[.int .i64 c, .int .i64 r, .bool bk], .agg #[.int .i64 pos, .int .i64 pass, .int .u8 st, .slice a n cap]] w fun e w' => e = .returned (.int .i64 0) ∧ Below w.heap.size w w' := by
  have hT := Two.new (c := c) (r := r) (pos := pos) (pass := pass) (st := st) (bk := bk) (n := n) (cap := cap) h
  clear h
  go_enter Try.func23, Try.ntmps23
  go_upto_region 1 with (fail)
  generalize ((w.alloc (Obj.cells #[Value.int IntKind.i64 c, Value.int IntKind.i64 r, Value.bool bk] 34)).alloc (Obj.cells #[Value.int IntKind.i64 pos, Value.int IntKind.i64 pass, Value.int IntKind.u8 st, Value.slice a n cap] 37)) = W0 at *
  have a0 := hT.2.1
  have a1 := hT.2.2.1
  have a2 := hT.2.2.2.1
  go_wp2_with (first
    | (go_at_call 33; refine (k1 _).mono ?_; rintro e w1 ⟨rfl, hb1⟩; replace hT := hT.on hb1; have b0 := hT.2.2.2.2.1; have b1 := hT.2.2.2.2.2.1; have b2 := hT.2.2.2.2.2.2.1; have b3 := hT.2.2.2.2.2.2.2.1; clear hb1)
    | (go_at_call 34; refine (k2 _ hT.regs).mono ?_; rintro e w2 ⟨rfl, hb2⟩; replace hT := hT.on hb2; clear hb2))
  refine bodyPost_ret (results_tmp rfl _ _ _) rfl ?_
  exact ⟨rfl, hT.below⟩

set_option maxHeartbeats 1000000 in
theorem rsteps_no1 (c r pos pass st : Int) (bk : Bool) (a : Option Addr) (n cap : Nat) (l : List Rg)
    (k1 : ∀ w, Calls Try.prog 33 #[.agg #[.int .i64 c, .int .i64 r, .bool bk]] w fun e w' => e = .returned (.bool false) ∧ Below w.heap.size w w')
    (w : World) (h : Regs w a l) :
    Calls Try.prog 24 #[.agg #[.int .i64 c, .int .i64 r, .bool bk], .agg #[.int .i64 pos, .int .i64 pass, .int .u8 st, .slice a n cap]] w fun e w' => e = .returned (.int .i64 0) ∧ Below w.heap.size w w' := by
  have hT := Two.new (c := c) (r := r) (pos := pos) (pass := pass) (st := st) (bk := bk) (n := n) (cap := cap) h
  clear h
  go_enter Try.func24, Try.ntmps24
  go_upto_region 1 with (fail)
  generalize ((w.alloc (Obj.cells #[Value.int IntKind.i64 c, Value.int IntKind.i64 r, Value.bool bk] 34)).alloc (Obj.cells #[Value.int IntKind.i64 pos, Value.int IntKind.i64 pass, Value.int IntKind.u8 st, Value.slice a n cap] 37)) = W0 at *
  have a0 := hT.2.1
  have a1 := hT.2.2.1
  have a2 := hT.2.2.2.1
  go_wp2_with (first
    | (go_at_call 33; refine (k1 _).mono ?_; rintro e w1 ⟨rfl, hb1⟩; replace hT := hT.on hb1; have b0 := hT.2.2.2.2.1; have b1 := hT.2.2.2.2.2.1; have b2 := hT.2.2.2.2.2.2.1; have b3 := hT.2.2.2.2.2.2.2.1; clear hb1))
  refine bodyPost_ret (results_tmp rfl _ _ _) rfl ?_
  exact ⟨rfl, hT.below⟩

set_option maxHeartbeats 1000000 in
theorem rsteps_no2 (c r pos pass st : Int) (bk : Bool) (a : Option Addr) (n cap : Nat) (l : List Rg)
    (k1 : ∀ w, Calls Try.prog 33 #[.agg #[.int .i64 c, .int .i64 r, .bool bk]] w fun e w' => e = .returned (.bool true) ∧ Below w.heap.size w w')
    (k2 : ∀ w, Regs w a l → Calls Try.prog 34 #[.agg #[.int .i64 pos, .int .i64 pass, .int .u8 st, .slice a n cap]] w fun e w' => e = .returned (.bool false) ∧ Below w.heap.size w w')
    (w : World) (h : Regs w a l) :
    Calls Try.prog 24 #[.agg #[.int .i64 c, .int .i64 r, .bool bk], .agg #[.int .i64 pos, .int .i64 pass, .int .u8 st, .slice a n cap]] w fun e w' => e = .returned (.int .i64 0) ∧ Below w.heap.size w w' := by
  have hT := Two.new (c := c) (r := r) (pos := pos) (pass := pass) (st := st) (bk := bk) (n := n) (cap := cap) h
  clear h
  go_enter Try.func24, Try.ntmps24
  go_upto_region 1 with (fail)
  generalize ((w.alloc (Obj.cells #[Value.int IntKind.i64 c, Value.int IntKind.i64 r, Value.bool bk] 34)).alloc (Obj.cells #[Value.int IntKind.i64 pos, Value.int IntKind.i64 pass, Value.int IntKind.u8 st, Value.slice a n cap] 37)) = W0 at *
  have a0 := hT.2.1
  have a1 := hT.2.2.1
  have a2 := hT.2.2.2.1
  go_wp2_with (first
    | (go_at_call 33; refine (k1 _).mono ?_; rintro e w1 ⟨rfl, hb1⟩; replace hT := hT.on hb1; have b0 := hT.2.2.2.2.1; have b1 := hT.2.2.2.2.2.1; have b2 := hT.2.2.2.2.2.2.1; have b3 := hT.2.2.2.2.2.2.2.1; clear hb1)
    | (go_at_call 34; refine (k2 _ hT.regs).mono ?_; rintro e w2 ⟨rfl, hb2⟩; replace hT := hT.on hb2; clear hb2))
  refine bodyPost_ret (results_tmp rfl _ _ _) rfl ?_
  exact ⟨rfl, hT.below⟩

set_option maxHeartbeats 1000000 in
theorem rsteps_yes (c r pos pass st x : Int) (bk : Bool) (a : Option Addr) (n cap : Nat) (l : List Rg) (hx : 0 ≤ x ∧ x ≤ 9223372036854775806)
    (k1 : ∀ w, Calls Try.prog 33 #[.agg #[.int .i64 c, .int .i64 r, .bool bk]] w fun e w' => e = .returned (.bool true) ∧ Below w.heap.size w w')
    (k2 : ∀ w, Regs w a l → Calls Try.prog 34 #[.agg #[.int .i64 pos, .int .i64 pass, .int .u8 st, .slice a n cap]] w fun e w' => e = .returned (.bool true) ∧ Below w.heap.size w w')
    (k3 : ∀ w, Regs w a l → Calls Try.prog 23 #[.agg #[.int .i64 c, .int .i64 r, .bool bk], .agg #[.int .i64 pos, .int .i64 pass, .int .u8 st, .slice a n cap]] w fun e w' => e = .returned (.int .i64 x) ∧ Below w.heap.size w w')
    (w : World) (h : Regs w a l) :
    Calls Try.prog 24 #[.agg #[.int .i64 c, .int .i64 r, .bool bk], .agg #[.int .i64 pos, .int .i64 pass, .int .u8 st, .slice a n cap]] w fun e w' => e = .returned (.int .i64 (x + 1)) ∧ Below w.heap.size w w' := by
  obtain ⟨hx0, hx1⟩ := hx
  have hT := Two.new (c := c) (r := r) (pos := pos) (pass := pass) (st := st) (bk := bk) (n := n) (cap := cap) h
  clear h
  go_enter Try.func24, Try.ntmps24
  go_upto_region 1 with (fail)
  generalize ((w.alloc (Obj.cells #[Value.int IntKind.i64 c, Value.int IntKind.i64 r, Value.bool bk] 34)).alloc (Obj.cells #[Value.int IntKind.i64 pos, Value.int IntKind.i64 pass, Value.int IntKind.u8 st, Value.slice a n cap] 37)) = W0 at *
  have a0 := hT.2.1
  have a1 := hT.2.2.1
  have a2 := hT.2.2.2.1
  go_wp2_with (first
    | (go_at_call 33; refine (k1 _).mono ?_; rintro e w1 ⟨rfl, hb1⟩; replace hT := hT.on hb1; have b0 := hT.2.2.2.2.1; have b1 := hT.2.2.2.2.2.1; have b2 := hT.2.2.2.2.2.2.1; have b3 := hT.2.2.2.2.2.2.2.1; clear hb1)
    | (go_at_call 34; refine (k2 _ hT.regs).mono ?_; rintro e w2 ⟨rfl, hb2⟩; replace hT := hT.on hb2; have c0 := hT.2.1; have c1 := hT.2.2.1; have c2 := hT.2.2.2.1; have d0 := hT.2.2.2.2.1; have d1 := hT.2.2.2.2.2.1; have d2 := hT.2.2.2.2.2.2.1; have d3 := hT.2.2.2.2.2.2.2.1; clear hb2)
    | (go_at_call 23; refine (k3 _ hT.regs).mono ?_; rintro e w3 ⟨rfl, hb3⟩; replace hT := hT.on hb3; clear hb3))
  refine bodyPost_ret (results_tmp rfl _ _ _) rfl ?_
  exact ⟨rfl, hT.below⟩
end Go.Proofs.Ytmefkfilclkgeaa.bound
