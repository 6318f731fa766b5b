import Derived.Test.YtmefkfilclkgeaaBndH
namespace Go.Proofs.Ytmefkfilclkgeaa.bound
open Go.ChangeShapes Go.WideShapes Go.ChangeAt Go.RowKit
set_option linter.unusedVariables false
theorem few_yes (a : Option Addr) (n cap : Nat) (hn : n ≤ 80) (w : World) : Calls Try.prog 21 #[.slice a n cap] w fun e w' => e = .returned (.bool true) ∧ w' = w := by
  go_enter Try.func21, Try.ntmps21
  go_wp2
  go_ret
  refine ⟨?_, rfl⟩
  show Ending.returned (Value.bool (decide ((n : Int) ≤ 80))) = _
  rw [decide_eq_true (by omega)]
theorem few_no (a : Option Addr) (n cap : Nat) (hn : 80 < n) (w : World) : Calls Try.prog 21 #[.slice a n cap] w fun e w' => e = .returned (.bool false) ∧ w' = w := by
  go_enter Try.func21, Try.ntmps21
  go_wp2
  go_ret
  refine ⟨?_, rfl⟩
  show Ending.returned (Value.bool (decide ((n : Int) ≤ 80))) = _
  rw [decide_eq_false (by omega)]

set_option maxHeartbeats 4000000 in
set_option maxRecDepth 1000000 in
theorem tells_few (c r pos pass st size z X Y : Int) (bk : Bool) (a : Option Addr) (n cap : Nat) (l : List Rg)
    (k0 : ∀ w, Calls Try.prog 21 #[.slice a n cap] w fun e w' => e = .returned (.bool true) ∧ w' = w)
    (k1 : ∀ w, Calls Try.prog 18 #[.int .i64 size] w fun e w' => e = .returned (.int .i64 z) ∧ w' = w)
    (k2 : ∀ w, Calls Try.prog 22 #[.int .i64 size] w fun e w' => e = .returned (.int .i64 z) ∧ w' = w)
    (k3 : ∀ w, Regs w a l → Calls Try.prog 19 #[.agg #[.int .i64 c, .int .i64 r, .bool bk], .agg #[.int .i64 pos, .int .i64 pass, .int .u8 st, .slice a n cap]] w fun e w' => e = .returned (.int .i64 X) ∧ Below w.heap.size w w')
    (k4 : ∀ w, Regs w a l → Calls Try.prog 23 #[.agg #[.int .i64 c, .int .i64 r, .bool bk], .agg #[.int .i64 pos, .int .i64 pass, .int .u8 st, .slice a n cap]] w fun e w' => e = .returned (.int .i64 X) ∧ Below w.heap.size w w')
    (k5 : ∀ w, Regs w a l → Calls Try.prog 20 #[.agg #[.int .i64 c, .int .i64 r, .bool bk], .agg #[.int .i64 pos, .int .i64 pass, .int .u8 st, .slice a n cap]] w fun e w' => e = .returned (.int .i64 Y) ∧ Below w.heap.size w w')
    (k6 : ∀ w, Regs w a l → Calls Try.prog 24 #[.agg #[.int .i64 c, .int .i64 r, .bool bk], .agg #[.int .i64 pos, .int .i64 pass, .int .u8 st, .slice a n cap]] w fun e w' => e = .returned (.int .i64 Y) ∧ Below w.heap.size w w')
    (k7 : ∀ w, Calls Try.prog 7 #[] w fun e w' => e = .returned (.bool true) ∧ Below w.heap.size w w')
    (w : World) (h : Regs w a l) :
    Calls Try.prog 8 #[.agg #[.int .i64 c, .int .i64 r, .bool bk], .agg #[.int .i64 pos, .int .i64 pass, .int .u8 st, .slice a n cap], .int .i64 size] w fun e w' => e = .returned (.bool true) ∧ Below w.heap.size w w' := by
  have hT := Two.new (c := c) (r := r) (pos := pos) (pass := pass) (st := st) (bk := bk) (n := n) (cap := cap) h
  clear h
  go_enter Try.func8, Try.ntmps8
  go_upto_region 1 with (fail)
  generalize ((w.alloc (Obj.cells #[Value.int IntKind.i64 c, Value.int IntKind.i64 r, Value.bool bk] 34)).alloc (Obj.cells #[Value.int IntKind.i64 pos, Value.int IntKind.i64 pass, Value.int IntKind.u8 st, Value.slice a n cap] 37)) = W0 at *
  have b3 := hT.2.2.2.2.2.2.2.1
  go_wp2_with (go_at_call 21; refine (k0 _).mono ?_; rintro e w1 ⟨rfl, rfl⟩)
  refine wp_region_held_drew (S := fun W => Two w W c r pos pass st bk a n cap l) (by kernel_rfl) hT.drew (fun hS => ?_)
  replace hS : Two w w1.drew c r pos pass st bk a n cap l := hS
  refine wpAnyH_take (i := 0) (v := Value.int .i64 size) rfl (by kernel_rfl) (by kernel_rfl) (by kernel_rfl) (fun _ _ _ h => h) (Or.inl ⟨by kernel_rfl, fun W hW => by kernel_rfl⟩) hS ?_
  refine wpAnyH_take (i := 2) (v := Value.int .i64 size) rfl (by kernel_rfl) (by kernel_rfl) (by kernel_rfl) (fun _ _ _ h => h) (Or.inl ⟨by kernel_rfl, fun W hW => by kernel_rfl⟩) hS ?_
  refine wpAnyH_ready (rs := [1]) (by kernel_rfl) (by simp) ?_
  refine AllReadyH.cons rfl (fun K hK => ?_) AllReadyH.nil
  rw [if_pos (by kernel_rfl)]
  go_simp
  go_wp2_with (go_at_call 18; refine (k1 _).mono ?_; rintro e w1 ⟨rfl, rfl⟩)
  refine hK.out _ _ (by assumption) (fun hS => ?_)
  clear hK K
  refine wpAnyH_ready (rs := [3]) (by kernel_rfl) (by simp) ?_
  refine AllReadyH.cons rfl (fun K hK => ?_) AllReadyH.nil
  rw [if_pos (by kernel_rfl)]
  go_simp
  go_wp2_with (go_at_call 22; refine (k2 _).mono ?_; rintro e w1 ⟨rfl, rfl⟩)
  refine hK.out _ _ (by assumption) (fun hS => ?_)
  clear hK K
  refine wpAnyH_take (i := 4) (v := Value.bool true) rfl (by kernel_rfl) (by kernel_rfl) (by kernel_rfl) (fun _ _ _ h => h) (Or.inl ⟨by kernel_rfl, fun W hW => by go_simp⟩) hS ?_
  refine wpAnyH_take (i := 5) (v := Value.bool true) rfl (by kernel_rfl) (by kernel_rfl) (by kernel_rfl) (fun _ _ _ h => h) (Or.inl ⟨by kernel_rfl, fun W hW => by kernel_rfl⟩) hS ?_
  refine wpAnyH_take (i := 6) (v := Value.agg #[.int .i64 c, .int .i64 r, .bool bk]) rfl (by kernel_rfl) (by kernel_rfl) (by kernel_rfl) (fun _ _ _ h => h) (Or.inl ⟨by kernel_rfl, fun W hW => by obtain ⟨hBB, a0, a1, a2, b0, b1, b2, b3, hRR, hSS⟩ := hW; go_simp⟩) hS ?_
  refine wpAnyH_take (i := 7) (v := Value.agg #[.int .i64 pos, .int .i64 pass, .int .u8 st, .slice a n cap]) rfl (by kernel_rfl) (by kernel_rfl) (by kernel_rfl) (fun _ _ _ h => h) (Or.inl ⟨by kernel_rfl, fun W hW => by obtain ⟨hBB, a0, a1, a2, b0, b1, b2, b3, hRR, hSS⟩ := hW; go_simp⟩) hS ?_
  refine wpAnyH_take (i := 9) (v := Value.agg #[.int .i64 c, .int .i64 r, .bool bk]) rfl (by kernel_rfl) (by kernel_rfl) (by kernel_rfl) (fun _ _ _ h => h) (Or.inl ⟨by kernel_rfl, fun W hW => by obtain ⟨hBB, a0, a1, a2, b0, b1, b2, b3, hRR, hSS⟩ := hW; go_simp⟩) hS ?_
  refine wpAnyH_take (i := 10) (v := Value.agg #[.int .i64 pos, .int .i64 pass, .int .u8 st, .slice a n cap]) rfl (by kernel_rfl) (by kernel_rfl) (by kernel_rfl) (fun _ _ _ h => h) (Or.inl ⟨by kernel_rfl, fun W hW => by obtain ⟨hBB, a0, a1, a2, b0, b1, b2, b3, hRR, hSS⟩ := hW; go_simp⟩) hS ?_
  refine wpAnyH_ready (rs := [8]) (by kernel_rfl) (by simp) ?_
  refine AllReadyH.cons rfl (fun K hK => ?_) AllReadyH.nil
  rw [if_pos (by kernel_rfl)]
  go_simp
  go_wp2_with (go_at_call 19; refine (k3 _ hS.regs).mono ?_; rintro e w1 ⟨rfl, hb⟩; have hS1 := hS.on hb; clear hb)
  refine hK.out _ _ (by assumption) (fun hS => ?_)
  clear hK K
  refine wpAnyH_ready (rs := [11]) (by kernel_rfl) (by simp) ?_
  refine AllReadyH.cons rfl (fun K hK => ?_) AllReadyH.nil
  rw [if_pos (by kernel_rfl)]
  go_simp
  go_wp2_with (go_at_call 23; refine (k4 _ hS.regs).mono ?_; rintro e w1 ⟨rfl, hb⟩; have hS1 := hS.on hb; clear hb)
  refine hK.out _ _ (by assumption) (fun hS => ?_)
  clear hK K
  refine wpAnyH_take (i := 12) (v := Value.bool true) rfl (by kernel_rfl) (by kernel_rfl) (by kernel_rfl) (fun _ _ _ h => h) (Or.inl ⟨by kernel_rfl, fun W hW => by go_simp⟩) hS ?_
  refine wpAnyH_take (i := 13) (v := Value.bool true) rfl (by kernel_rfl) (by kernel_rfl) (by kernel_rfl) (fun _ _ _ h => h) (Or.inl ⟨by kernel_rfl, fun W hW => by kernel_rfl⟩) hS ?_
  refine wpAnyH_take (i := 14) (v := Value.bool true) rfl (by kernel_rfl) (by kernel_rfl) (by kernel_rfl) (fun _ _ _ h => h) (Or.inl ⟨by kernel_rfl, fun W hW => by kernel_rfl⟩) hS ?_
  refine wpAnyH_take (i := 15) (v := Value.agg #[.int .i64 c, .int .i64 r, .bool bk]) rfl (by kernel_rfl) (by kernel_rfl) (by kernel_rfl) (fun _ _ _ h => h) (Or.inl ⟨by kernel_rfl, fun W hW => by obtain ⟨hBB, a0, a1, a2, b0, b1, b2, b3, hRR, hSS⟩ := hW; go_simp⟩) hS ?_
  refine wpAnyH_take (i := 16) (v := Value.agg #[.int .i64 pos, .int .i64 pass, .int .u8 st, .slice a n cap]) rfl (by kernel_rfl) (by kernel_rfl) (by kernel_rfl) (fun _ _ _ h => h) (Or.inl ⟨by kernel_rfl, fun W hW => by obtain ⟨hBB, a0, a1, a2, b0, b1, b2, b3, hRR, hSS⟩ := hW; go_simp⟩) hS ?_
  refine wpAnyH_take (i := 18) (v := Value.agg #[.int .i64 c, .int .i64 r, .bool bk]) rfl (by kernel_rfl) (by kernel_rfl) (by kernel_rfl) (fun _ _ _ h => h) (Or.inl ⟨by kernel_rfl, fun W hW => by obtain ⟨hBB, a0, a1, a2, b0, b1, b2, b3, hRR, hSS⟩ := hW; go_simp⟩) hS ?_
  refine wpAnyH_take (i := 19) (v := Value.agg #[.int .i64 pos, .int .i64 pass, .int .u8 st, .slice a n cap]) rfl (by kernel_rfl) (by kernel_rfl) (by kernel_rfl) (fun _ _ _ h => h) (Or.inl ⟨by kernel_rfl, fun W hW => by obtain ⟨hBB, a0, a1, a2, b0, b1, b2, b3, hRR, hSS⟩ := hW; go_simp⟩) hS ?_
  refine wpAnyH_ready (rs := [17]) (by kernel_rfl) (by simp) ?_
  refine AllReadyH.cons rfl (fun K hK => ?_) AllReadyH.nil
  rw [if_pos (by kernel_rfl)]
  go_simp
  go_wp2_with (go_at_call 20; refine (k5 _ hS.regs).mono ?_; rintro e w1 ⟨rfl, hb⟩; have hS1 := hS.on hb; clear hb)
  refine hK.out _ _ (by assumption) (fun hS => ?_)
  clear hK K
  refine wpAnyH_ready (rs := [20]) (by kernel_rfl) (by simp) ?_
  refine AllReadyH.cons rfl (fun K hK => ?_) AllReadyH.nil
  rw [if_pos (by kernel_rfl)]
  go_simp
  go_wp2_with (go_at_call 24; refine (k6 _ hS.regs).mono ?_; rintro e w1 ⟨rfl, hb⟩; have hS1 := hS.on hb; clear hb)
  refine hK.out _ _ (by assumption) (fun hS => ?_)
  clear hK K
  refine wpAnyH_take (i := 21) (v := Value.bool true) rfl (by kernel_rfl) (by kernel_rfl) (by kernel_rfl) (fun _ _ _ h => h) (Or.inl ⟨by kernel_rfl, fun W hW => by go_simp⟩) hS ?_
  refine wpAnyH_take (i := 22) (v := Value.bool true) rfl (by kernel_rfl) (by kernel_rfl) (by kernel_rfl) (fun _ _ _ h => h) (Or.inl ⟨by kernel_rfl, fun W hW => by kernel_rfl⟩) hS ?_
  refine wpAnyH_take (i := 23) (v := Value.bool true) rfl (by kernel_rfl) (by kernel_rfl) (by kernel_rfl) (fun _ _ _ h => h) (Or.inl ⟨by kernel_rfl, fun W hW => by kernel_rfl⟩) hS ?_
  refine wpAnyH_ready (rs := [24]) (by kernel_rfl) (by simp) ?_
  refine AllReadyH.cons rfl (fun K hK => ?_) AllReadyH.nil
  rw [if_pos (by kernel_rfl)]
  go_simp
  go_wp2_with (go_at_call 7; refine (k7 _).mono ?_; rintro e w1 ⟨rfl, hb⟩; have hS1 := hS.on hb; clear hb)
  refine hK.out _ _ (by assumption) (fun hS => ?_)
  clear hK K
  refine wpAnyH_take (i := 25) (v := Value.bool true) rfl (by kernel_rfl) (by kernel_rfl) (by kernel_rfl) (fun _ _ _ h => h) (Or.inl ⟨by kernel_rfl, fun W hW => by kernel_rfl⟩) hS ?_
  refine wpAnyH_take (i := 26) (v := Value.bool true) rfl (by kernel_rfl) (by kernel_rfl) (by kernel_rfl) (fun _ _ _ h => h) (Or.inl ⟨by kernel_rfl, fun W hW => by kernel_rfl⟩) hS ?_
  refine wpAnyH_done (by kernel_rfl) ?_ _
  go_wp2
  refine bodyPost_ret (results_tmp rfl _ _ _) rfl ?_
  exact ⟨rfl, hS.below⟩

theorem tells_many (c r pos pass st size : Int) (bk : Bool) (a : Option Addr) (n cap : Nat) (l : List Rg)
    (k0 : ∀ w, Calls Try.prog 21 #[.slice a n cap] w fun e w' => e = .returned (.bool false) ∧ w' = w)
    (k7 : ∀ w, Calls Try.prog 7 #[] w fun e w' => e = .returned (.bool true) ∧ Below w.heap.size w w')
    (w : World) (h : Regs w a l) :
    Calls Try.prog 8 #[.agg #[.int .i64 c, .int .i64 r, .bool bk], .agg #[.int .i64 pos, .int .i64 pass, .int .u8 st, .slice a n cap], .int .i64 size] w fun e w' => e = .returned (.bool true) ∧ Below w.heap.size w w' := by
  have hT := Two.new (c := c) (r := r) (pos := pos) (pass := pass) (st := st) (bk := bk) (n := n) (cap := cap) h
  clear h
  go_enter Try.func8, Try.ntmps8
  go_upto_region 1 with (fail)
  generalize ((w.alloc (Obj.cells #[Value.int IntKind.i64 c, Value.int IntKind.i64 r, Value.bool bk] 34)).alloc (Obj.cells #[Value.int IntKind.i64 pos, Value.int IntKind.i64 pass, Value.int IntKind.u8 st, Value.slice a n cap] 37)) = W0 at *
  have b3 := hT.2.2.2.2.2.2.2.1
  go_wp2_with (first
    | (go_at_call 21; refine (k0 _).mono ?_; rintro e w1 ⟨rfl, rfl⟩)
    | (go_at_call 7; refine (k7 _).mono ?_; rintro e w2 ⟨rfl, hb⟩; replace hT := hT.on hb; clear hb))
  refine bodyPost_ret (results_tmp rfl _ _ _) rfl ?_
  exact ⟨rfl, hT.below⟩
end Go.Proofs.Ytmefkfilclkgeaa.bound
