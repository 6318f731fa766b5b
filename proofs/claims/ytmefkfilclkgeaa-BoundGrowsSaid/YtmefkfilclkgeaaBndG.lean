import Derived.Test.YtmefkfilclkgeaaBndF
namespace Go.Proofs.Ytmefkfilclkgeaa.bound
open Go.ChangeShapes Go.WideShapes Go.ChangeAt Go.RowKit
set_option linter.unusedVariables false

set_option maxHeartbeats 4000000 in
set_option maxRecDepth 1000000 in
theorem rmap_c0 (a : Option Addr) (n cap : Nat) (pos pass st x : Int) (l : List Rg) 
    (k1 : ∀ w, Regs w a l → Calls Try.prog 46 #[.slice a n cap] w fun e w' => e = .returned (.bool false) ∧ Below w.heap.size w w')
    (w : World) (h : Regs w a l) :
    Calls Try.prog 34 #[.agg #[.int .i64 pos, .int .i64 pass, .int .u8 st, .slice a n cap]] w fun e w' => e = .returned (.bool false) ∧ Below w.heap.size w w' := by
  have hX := OneBox.new (pos := pos) (pass := pass) (st := st) (n := n) (cap := cap) h
  clear h
  go_enter Try.func34, Try.ntmps34
  go_wp2
  generalize w.alloc (Obj.cells #[Value.int IntKind.i64 pos, Value.int IntKind.i64 pass, Value.int IntKind.u8 st, Value.slice a n cap] 37) = W0 at *
  refine wp_region_held_drew (S := fun W => OneBox w W pos pass st a n cap l) (by kernel_rfl) (hX.on (Below.refl _ _).drew) (fun hS => ?_)
  replace hS : OneBox w W0.drew pos pass st a n cap l := hS
  refine wpAnyH_take (i := 0) (v := Value.pointer (some ⟨w.heap.size, 3, none⟩)) rfl (by kernel_rfl) (by kernel_rfl) (by kernel_rfl) (fun _ _ _ h => h) (Or.inl ⟨by kernel_rfl, fun W hW => by kernel_rfl⟩) hS ?_
  refine wpAnyH_take (i := 1) (v := Value.slice a n cap) rfl (by kernel_rfl) (by kernel_rfl) (by kernel_rfl) (fun _ _ _ h => h) (Or.inl ⟨by kernel_rfl, fun W hW => by obtain ⟨hBB, l0, l1, l2, l3, hRR, hSS⟩ := hW; go_simp⟩) hS ?_
  refine wpAnyH_ready (rs := [2]) (by kernel_rfl) (by simp) ?_
  refine AllReadyH.cons rfl (fun K hK => ?_) AllReadyH.nil
  rw [if_pos (by kernel_rfl)]
  go_simp
  go_wp2_with (go_at_call 46; refine (k1 _ hS.regs).mono ?_; rintro e w1 ⟨rfl, hb⟩; have hS1 := hS.on hb; clear hb)
  refine hK.out _ _ (by assumption) (fun hS => ?_)
  clear hK K
  refine wpAnyH_take (i := 3) (v := Value.bool false) rfl (by kernel_rfl) (by kernel_rfl) (by kernel_rfl) (fun _ _ _ h => h) (Or.inl ⟨by kernel_rfl, fun W hW => by kernel_rfl⟩) hS ?_
  refine wpAnyH_take (i := 4) (v := undef) rfl (by kernel_rfl) (by kernel_rfl) (by kernel_rfl) (fun _ _ _ h => h) (Or.inr ⟨by kernel_rfl, rfl⟩) hS ?_
  refine wpAnyH_take (i := 5) (v := undef) rfl (by kernel_rfl) (by kernel_rfl) (by kernel_rfl) (fun _ _ _ h => h) (Or.inr ⟨by kernel_rfl, rfl⟩) hS ?_
  refine wpAnyH_take (i := 6) (v := undef) rfl (by kernel_rfl) (by kernel_rfl) (by kernel_rfl) (fun _ _ _ h => h) (Or.inr ⟨by kernel_rfl, rfl⟩) hS ?_
  refine wpAnyH_take (i := 7) (v := Value.bool false) rfl (by kernel_rfl) (by kernel_rfl) (by kernel_rfl) (fun _ _ _ h => h) (Or.inl ⟨by kernel_rfl, fun W hW => by kernel_rfl⟩) hS ?_
  refine wpAnyH_take (i := 8) (v := Value.bool false) rfl (by kernel_rfl) (by kernel_rfl) (by kernel_rfl) (fun _ _ _ h => h) (Or.inl ⟨by kernel_rfl, fun W hW => by kernel_rfl⟩) hS ?_
  refine wpAnyH_take (i := 9) (v := undef) rfl (by kernel_rfl) (by kernel_rfl) (by kernel_rfl) (fun _ _ _ h => h) (Or.inr ⟨by kernel_rfl, rfl⟩) hS ?_
  refine wpAnyH_take (i := 10) (v := undef) rfl (by kernel_rfl) (by kernel_rfl) (by kernel_rfl) (fun _ _ _ h => h) (Or.inr ⟨by kernel_rfl, rfl⟩) hS ?_
  refine wpAnyH_take (i := 11) (v := undef) rfl (by kernel_rfl) (by kernel_rfl) (by kernel_rfl) (fun _ _ _ h => h) (Or.inr ⟨by kernel_rfl, rfl⟩) hS ?_
  refine wpAnyH_take (i := 12) (v := undef) rfl (by kernel_rfl) (by kernel_rfl) (by kernel_rfl) (fun _ _ _ h => h) (Or.inr ⟨by kernel_rfl, rfl⟩) hS ?_
  refine wpAnyH_ready (rs := [13]) (by kernel_rfl) (by simp) ?_
  refine AllReadyH.cons rfl (fun K hK => ?_) AllReadyH.nil
  go_simp
  refine hK.out _ _ hS (fun hS => ?_)
  clear hK K
  refine wpAnyH_take (i := 14) (v := undef) rfl (by kernel_rfl) (by kernel_rfl) (by kernel_rfl) (fun _ _ _ h => h) (Or.inr ⟨by kernel_rfl, rfl⟩) hS ?_
  refine wpAnyH_take (i := 15) (v := Value.bool false) rfl (by kernel_rfl) (by kernel_rfl) (by kernel_rfl) (fun _ _ _ h => h) (Or.inl ⟨by kernel_rfl, fun W hW => by kernel_rfl⟩) hS ?_
  refine wpAnyH_take (i := 16) (v := Value.bool false) rfl (by kernel_rfl) (by kernel_rfl) (by kernel_rfl) (fun _ _ _ h => h) (Or.inl ⟨by kernel_rfl, fun W hW => by kernel_rfl⟩) hS ?_
  refine wpAnyH_take (i := 17) (v := undef) rfl (by kernel_rfl) (by kernel_rfl) (by kernel_rfl) (fun _ _ _ h => h) (Or.inr ⟨by kernel_rfl, rfl⟩) hS ?_
  refine wpAnyH_take (i := 18) (v := undef) rfl (by kernel_rfl) (by kernel_rfl) (by kernel_rfl) (fun _ _ _ h => h) (Or.inr ⟨by kernel_rfl, rfl⟩) hS ?_
  refine wpAnyH_take (i := 19) (v := undef) rfl (by kernel_rfl) (by kernel_rfl) (by kernel_rfl) (fun _ _ _ h => h) (Or.inr ⟨by kernel_rfl, rfl⟩) hS ?_
  refine wpAnyH_take (i := 20) (v := Value.bool false) rfl (by kernel_rfl) (by kernel_rfl) (by kernel_rfl) (fun _ _ _ h => h) (Or.inl ⟨by kernel_rfl, fun W hW => by kernel_rfl⟩) hS ?_
  refine wpAnyH_take (i := 21) (v := Value.bool false) rfl (by kernel_rfl) (by kernel_rfl) (by kernel_rfl) (fun _ _ _ h => h) (Or.inl ⟨by kernel_rfl, fun W hW => by kernel_rfl⟩) hS ?_
  refine wpAnyH_take (i := 22) (v := undef) rfl (by kernel_rfl) (by kernel_rfl) (by kernel_rfl) (fun _ _ _ h => h) (Or.inr ⟨by kernel_rfl, rfl⟩) hS ?_
  refine wpAnyH_take (i := 23) (v := undef) rfl (by kernel_rfl) (by kernel_rfl) (by kernel_rfl) (fun _ _ _ h => h) (Or.inr ⟨by kernel_rfl, rfl⟩) hS ?_
  refine wpAnyH_take (i := 24) (v := undef) rfl (by kernel_rfl) (by kernel_rfl) (by kernel_rfl) (fun _ _ _ h => h) (Or.inr ⟨by kernel_rfl, rfl⟩) hS ?_
  refine wpAnyH_take (i := 25) (v := Value.bool false) rfl (by kernel_rfl) (by kernel_rfl) (by kernel_rfl) (fun _ _ _ h => h) (Or.inl ⟨by kernel_rfl, fun W hW => by kernel_rfl⟩) hS ?_
  refine wpAnyH_take (i := 26) (v := Value.bool false) rfl (by kernel_rfl) (by kernel_rfl) (by kernel_rfl) (fun _ _ _ h => h) (Or.inl ⟨by kernel_rfl, fun W hW => by kernel_rfl⟩) hS ?_
  refine wpAnyH_take (i := 27) (v := undef) rfl (by kernel_rfl) (by kernel_rfl) (by kernel_rfl) (fun _ _ _ h => h) (Or.inr ⟨by kernel_rfl, rfl⟩) hS ?_
  refine wpAnyH_take (i := 28) (v := undef) rfl (by kernel_rfl) (by kernel_rfl) (by kernel_rfl) (fun _ _ _ h => h) (Or.inr ⟨by kernel_rfl, rfl⟩) hS ?_
  refine wpAnyH_ready (rs := [29]) (by kernel_rfl) (by simp) ?_
  refine AllReadyH.cons rfl (fun K hK => ?_) AllReadyH.nil
  go_simp
  refine hK.out _ _ hS (fun hS => ?_)
  clear hK K
  refine wpAnyH_take (i := 30) (v := Value.bool false) rfl (by kernel_rfl) (by kernel_rfl) (by kernel_rfl) (fun _ _ _ h => h) (Or.inl ⟨by kernel_rfl, fun W hW => by kernel_rfl⟩) hS ?_
  refine wpAnyH_take (i := 31) (v := Value.bool false) rfl (by kernel_rfl) (by kernel_rfl) (by kernel_rfl) (fun _ _ _ h => h) (Or.inl ⟨by kernel_rfl, fun W hW => by kernel_rfl⟩) hS ?_
  refine wpAnyH_done (by kernel_rfl) ?_ _
  go_wp2
  refine bodyPost_ret (results_tmp rfl _ _ _) rfl ?_
  exact ⟨rfl, hS.below⟩

set_option maxHeartbeats 4000000 in
set_option maxRecDepth 1000000 in
theorem rmap_c1 (a : Option Addr) (n cap : Nat) (pos pass st x : Int) (l : List Rg) (g1 : pos < 0)
    (k1 : ∀ w, Regs w a l → Calls Try.prog 46 #[.slice a n cap] w fun e w' => e = .returned (.bool true) ∧ Below w.heap.size w w')
    (w : World) (h : Regs w a l) :
    Calls Try.prog 34 #[.agg #[.int .i64 pos, .int .i64 pass, .int .u8 st, .slice a n cap]] w fun e w' => e = .returned (.bool false) ∧ Below w.heap.size w w' := by
  have hX := OneBox.new (pos := pos) (pass := pass) (st := st) (n := n) (cap := cap) h
  clear h
  go_enter Try.func34, Try.ntmps34
  go_wp2
  generalize w.alloc (Obj.cells #[Value.int IntKind.i64 pos, Value.int IntKind.i64 pass, Value.int IntKind.u8 st, Value.slice a n cap] 37) = W0 at *
  refine wp_region_held_drew (S := fun W => OneBox w W pos pass st a n cap l) (by kernel_rfl) (hX.on (Below.refl _ _).drew) (fun hS => ?_)
  replace hS : OneBox w W0.drew pos pass st a n cap l := hS
  refine wpAnyH_take (i := 0) (v := Value.pointer (some ⟨w.heap.size, 3, none⟩)) rfl (by kernel_rfl) (by kernel_rfl) (by kernel_rfl) (fun _ _ _ h => h) (Or.inl ⟨by kernel_rfl, fun W hW => by kernel_rfl⟩) hS ?_
  refine wpAnyH_take (i := 1) (v := Value.slice a n cap) rfl (by kernel_rfl) (by kernel_rfl) (by kernel_rfl) (fun _ _ _ h => h) (Or.inl ⟨by kernel_rfl, fun W hW => by obtain ⟨hBB, l0, l1, l2, l3, hRR, hSS⟩ := hW; go_simp⟩) hS ?_
  refine wpAnyH_ready (rs := [2]) (by kernel_rfl) (by simp) ?_
  refine AllReadyH.cons rfl (fun K hK => ?_) AllReadyH.nil
  rw [if_pos (by kernel_rfl)]
  go_simp
  go_wp2_with (go_at_call 46; refine (k1 _ hS.regs).mono ?_; rintro e w1 ⟨rfl, hb⟩; have hS1 := hS.on hb; clear hb)
  refine hK.out _ _ (by assumption) (fun hS => ?_)
  clear hK K
  refine wpAnyH_take (i := 3) (v := Value.bool true) rfl (by kernel_rfl) (by kernel_rfl) (by kernel_rfl) (fun _ _ _ h => h) (Or.inl ⟨by kernel_rfl, fun W hW => by kernel_rfl⟩) hS ?_
  refine wpAnyH_take (i := 4) (v := Value.pointer (some ⟨w.heap.size, 0, none⟩)) rfl (by kernel_rfl) (by kernel_rfl) (by kernel_rfl) (fun _ _ _ h => h) (Or.inl ⟨by kernel_rfl, fun W hW => by kernel_rfl⟩) hS ?_
  refine wpAnyH_take (i := 5) (v := Value.int .i64 pos) rfl (by kernel_rfl) (by kernel_rfl) (by kernel_rfl) (fun _ _ _ h => h) (Or.inl ⟨by kernel_rfl, fun W hW => by obtain ⟨hBB, l0, l1, l2, l3, hRR, hSS⟩ := hW; go_simp⟩) hS ?_
  refine wpAnyH_take (i := 6) (v := Value.bool false) rfl (by kernel_rfl) (by kernel_rfl) (by kernel_rfl) (fun _ _ _ h => h) (Or.inl ⟨by kernel_rfl, fun W hW => by go_simp⟩) hS ?_
  refine wpAnyH_take (i := 7) (v := Value.bool false) rfl (by kernel_rfl) (by kernel_rfl) (by kernel_rfl) (fun _ _ _ h => h) (Or.inl ⟨by kernel_rfl, fun W hW => by kernel_rfl⟩) hS ?_
  refine wpAnyH_take (i := 8) (v := Value.bool false) rfl (by kernel_rfl) (by kernel_rfl) (by kernel_rfl) (fun _ _ _ h => h) (Or.inl ⟨by kernel_rfl, fun W hW => by kernel_rfl⟩) hS ?_
  refine wpAnyH_take (i := 9) (v := undef) rfl (by kernel_rfl) (by kernel_rfl) (by kernel_rfl) (fun _ _ _ h => h) (Or.inr ⟨by kernel_rfl, rfl⟩) hS ?_
  refine wpAnyH_take (i := 10) (v := undef) rfl (by kernel_rfl) (by kernel_rfl) (by kernel_rfl) (fun _ _ _ h => h) (Or.inr ⟨by kernel_rfl, rfl⟩) hS ?_
  refine wpAnyH_take (i := 11) (v := undef) rfl (by kernel_rfl) (by kernel_rfl) (by kernel_rfl) (fun _ _ _ h => h) (Or.inr ⟨by kernel_rfl, rfl⟩) hS ?_
  refine wpAnyH_take (i := 12) (v := undef) rfl (by kernel_rfl) (by kernel_rfl) (by kernel_rfl) (fun _ _ _ h => h) (Or.inr ⟨by kernel_rfl, rfl⟩) hS ?_
  refine wpAnyH_ready (rs := [13]) (by kernel_rfl) (by simp) ?_
  refine AllReadyH.cons rfl (fun K hK => ?_) AllReadyH.nil
  go_simp
  refine hK.out _ _ hS (fun hS => ?_)
  clear hK K
  refine wpAnyH_take (i := 14) (v := undef) rfl (by kernel_rfl) (by kernel_rfl) (by kernel_rfl) (fun _ _ _ h => h) (Or.inr ⟨by kernel_rfl, rfl⟩) hS ?_
  refine wpAnyH_take (i := 15) (v := Value.bool false) rfl (by kernel_rfl) (by kernel_rfl) (by kernel_rfl) (fun _ _ _ h => h) (Or.inl ⟨by kernel_rfl, fun W hW => by kernel_rfl⟩) hS ?_
  refine wpAnyH_take (i := 16) (v := Value.bool false) rfl (by kernel_rfl) (by kernel_rfl) (by kernel_rfl) (fun _ _ _ h => h) (Or.inl ⟨by kernel_rfl, fun W hW => by kernel_rfl⟩) hS ?_
  refine wpAnyH_take (i := 17) (v := undef) rfl (by kernel_rfl) (by kernel_rfl) (by kernel_rfl) (fun _ _ _ h => h) (Or.inr ⟨by kernel_rfl, rfl⟩) hS ?_
  refine wpAnyH_take (i := 18) (v := undef) rfl (by kernel_rfl) (by kernel_rfl) (by kernel_rfl) (fun _ _ _ h => h) (Or.inr ⟨by kernel_rfl, rfl⟩) hS ?_
  refine wpAnyH_take (i := 19) (v := undef) rfl (by kernel_rfl) (by kernel_rfl) (by kernel_rfl) (fun _ _ _ h => h) (Or.inr ⟨by kernel_rfl, rfl⟩) hS ?_
  refine wpAnyH_take (i := 20) (v := Value.bool false) rfl (by kernel_rfl) (by kernel_rfl) (by kernel_rfl) (fun _ _ _ h => h) (Or.inl ⟨by kernel_rfl, fun W hW => by kernel_rfl⟩) hS ?_
  refine wpAnyH_take (i := 21) (v := Value.bool false) rfl (by kernel_rfl) (by kernel_rfl) (by kernel_rfl) (fun _ _ _ h => h) (Or.inl ⟨by kernel_rfl, fun W hW => by kernel_rfl⟩) hS ?_
  refine wpAnyH_take (i := 22) (v := undef) rfl (by kernel_rfl) (by kernel_rfl) (by kernel_rfl) (fun _ _ _ h => h) (Or.inr ⟨by kernel_rfl, rfl⟩) hS ?_
  refine wpAnyH_take (i := 23) (v := undef) rfl (by kernel_rfl) (by kernel_rfl) (by kernel_rfl) (fun _ _ _ h => h) (Or.inr ⟨by kernel_rfl, rfl⟩) hS ?_
  refine wpAnyH_take (i := 24) (v := undef) rfl (by kernel_rfl) (by kernel_rfl) (by kernel_rfl) (fun _ _ _ h => h) (Or.inr ⟨by kernel_rfl, rfl⟩) hS ?_
  refine wpAnyH_take (i := 25) (v := Value.bool false) rfl (by kernel_rfl) (by kernel_rfl) (by kernel_rfl) (fun _ _ _ h => h) (Or.inl ⟨by kernel_rfl, fun W hW => by kernel_rfl⟩) hS ?_
  refine wpAnyH_take (i := 26) (v := Value.bool false) rfl (by kernel_rfl) (by kernel_rfl) (by kernel_rfl) (fun _ _ _ h => h) (Or.inl ⟨by kernel_rfl, fun W hW => by kernel_rfl⟩) hS ?_
  refine wpAnyH_take (i := 27) (v := undef) rfl (by kernel_rfl) (by kernel_rfl) (by kernel_rfl) (fun _ _ _ h => h) (Or.inr ⟨by kernel_rfl, rfl⟩) hS ?_
  refine wpAnyH_take (i := 28) (v := undef) rfl (by kernel_rfl) (by kernel_rfl) (by kernel_rfl) (fun _ _ _ h => h) (Or.inr ⟨by kernel_rfl, rfl⟩) hS ?_
  refine wpAnyH_ready (rs := [29]) (by kernel_rfl) (by simp) ?_
  refine AllReadyH.cons rfl (fun K hK => ?_) AllReadyH.nil
  go_simp
  refine hK.out _ _ hS (fun hS => ?_)
  clear hK K
  refine wpAnyH_take (i := 30) (v := Value.bool false) rfl (by kernel_rfl) (by kernel_rfl) (by kernel_rfl) (fun _ _ _ h => h) (Or.inl ⟨by kernel_rfl, fun W hW => by kernel_rfl⟩) hS ?_
  refine wpAnyH_take (i := 31) (v := Value.bool false) rfl (by kernel_rfl) (by kernel_rfl) (by kernel_rfl) (fun _ _ _ h => h) (Or.inl ⟨by kernel_rfl, fun W hW => by kernel_rfl⟩) hS ?_
  refine wpAnyH_done (by kernel_rfl) ?_ _
  go_wp2
  refine bodyPost_ret (results_tmp rfl _ _ _) rfl ?_
  exact ⟨rfl, hS.below⟩

set_option maxHeartbeats 4000000 in
set_option maxRecDepth 1000000 in
theorem rmap_c2 (a : Option Addr) (n cap : Nat) (pos pass st x : Int) (l : List Rg) (g1 : 0 ≤ pos) (g2 : x < pos)
    (k1 : ∀ w, Regs w a l → Calls Try.prog 46 #[.slice a n cap] w fun e w' => e = .returned (.bool true) ∧ Below w.heap.size w w') (k2 : ∀ w, Regs w a l → Calls Try.prog 35 #[.slice a n cap] w fun e w' => e = .returned (.int .i64 x) ∧ Below w.heap.size w w')
    (w : World) (h : Regs w a l) :
    Calls Try.prog 34 #[.agg #[.int .i64 pos, .int .i64 pass, .int .u8 st, .slice a n cap]] w fun e w' => e = .returned (.bool false) ∧ Below w.heap.size w w' := by
  have hX := OneBox.new (pos := pos) (pass := pass) (st := st) (n := n) (cap := cap) h
  clear h
  go_enter Try.func34, Try.ntmps34
  go_wp2
  generalize w.alloc (Obj.cells #[Value.int IntKind.i64 pos, Value.int IntKind.i64 pass, Value.int IntKind.u8 st, Value.slice a n cap] 37) = W0 at *
  refine wp_region_held_drew (S := fun W => OneBox w W pos pass st a n cap l) (by kernel_rfl) (hX.on (Below.refl _ _).drew) (fun hS => ?_)
  replace hS : OneBox w W0.drew pos pass st a n cap l := hS
  refine wpAnyH_take (i := 0) (v := Value.pointer (some ⟨w.heap.size, 3, none⟩)) rfl (by kernel_rfl) (by kernel_rfl) (by kernel_rfl) (fun _ _ _ h => h) (Or.inl ⟨by kernel_rfl, fun W hW => by kernel_rfl⟩) hS ?_
  refine wpAnyH_take (i := 1) (v := Value.slice a n cap) rfl (by kernel_rfl) (by kernel_rfl) (by kernel_rfl) (fun _ _ _ h => h) (Or.inl ⟨by kernel_rfl, fun W hW => by obtain ⟨hBB, l0, l1, l2, l3, hRR, hSS⟩ := hW; go_simp⟩) hS ?_
  refine wpAnyH_ready (rs := [2]) (by kernel_rfl) (by simp) ?_
  refine AllReadyH.cons rfl (fun K hK => ?_) AllReadyH.nil
  rw [if_pos (by kernel_rfl)]
  go_simp
  go_wp2_with (go_at_call 46; refine (k1 _ hS.regs).mono ?_; rintro e w1 ⟨rfl, hb⟩; have hS1 := hS.on hb; clear hb)
  refine hK.out _ _ (by assumption) (fun hS => ?_)
  clear hK K
  refine wpAnyH_take (i := 3) (v := Value.bool true) rfl (by kernel_rfl) (by kernel_rfl) (by kernel_rfl) (fun _ _ _ h => h) (Or.inl ⟨by kernel_rfl, fun W hW => by kernel_rfl⟩) hS ?_
  refine wpAnyH_take (i := 4) (v := Value.pointer (some ⟨w.heap.size, 0, none⟩)) rfl (by kernel_rfl) (by kernel_rfl) (by kernel_rfl) (fun _ _ _ h => h) (Or.inl ⟨by kernel_rfl, fun W hW => by kernel_rfl⟩) hS ?_
  refine wpAnyH_take (i := 5) (v := Value.int .i64 pos) rfl (by kernel_rfl) (by kernel_rfl) (by kernel_rfl) (fun _ _ _ h => h) (Or.inl ⟨by kernel_rfl, fun W hW => by obtain ⟨hBB, l0, l1, l2, l3, hRR, hSS⟩ := hW; go_simp⟩) hS ?_
  refine wpAnyH_take (i := 6) (v := Value.bool true) rfl (by kernel_rfl) (by kernel_rfl) (by kernel_rfl) (fun _ _ _ h => h) (Or.inl ⟨by kernel_rfl, fun W hW => by go_simp⟩) hS ?_
  refine wpAnyH_take (i := 7) (v := Value.bool true) rfl (by kernel_rfl) (by kernel_rfl) (by kernel_rfl) (fun _ _ _ h => h) (Or.inl ⟨by kernel_rfl, fun W hW => by kernel_rfl⟩) hS ?_
  refine wpAnyH_take (i := 8) (v := Value.bool true) rfl (by kernel_rfl) (by kernel_rfl) (by kernel_rfl) (fun _ _ _ h => h) (Or.inl ⟨by kernel_rfl, fun W hW => by kernel_rfl⟩) hS ?_
  refine wpAnyH_take (i := 9) (v := Value.pointer (some ⟨w.heap.size, 0, none⟩)) rfl (by kernel_rfl) (by kernel_rfl) (by kernel_rfl) (fun _ _ _ h => h) (Or.inl ⟨by kernel_rfl, fun W hW => by kernel_rfl⟩) hS ?_
  refine wpAnyH_take (i := 10) (v := Value.int .i64 pos) rfl (by kernel_rfl) (by kernel_rfl) (by kernel_rfl) (fun _ _ _ h => h) (Or.inl ⟨by kernel_rfl, fun W hW => by obtain ⟨hBB, l0, l1, l2, l3, hRR, hSS⟩ := hW; go_simp⟩) hS ?_
  refine wpAnyH_take (i := 11) (v := Value.pointer (some ⟨w.heap.size, 3, none⟩)) rfl (by kernel_rfl) (by kernel_rfl) (by kernel_rfl) (fun _ _ _ h => h) (Or.inl ⟨by kernel_rfl, fun W hW => by kernel_rfl⟩) hS ?_
  refine wpAnyH_take (i := 12) (v := Value.slice a n cap) rfl (by kernel_rfl) (by kernel_rfl) (by kernel_rfl) (fun _ _ _ h => h) (Or.inl ⟨by kernel_rfl, fun W hW => by obtain ⟨hBB, l0, l1, l2, l3, hRR, hSS⟩ := hW; go_simp⟩) hS ?_
  refine wpAnyH_ready (rs := [13]) (by kernel_rfl) (by simp) ?_
  refine AllReadyH.cons rfl (fun K hK => ?_) AllReadyH.nil
  rw [if_pos (by kernel_rfl)]
  go_simp
  go_wp2_with (go_at_call 35; refine (k2 _ hS.regs).mono ?_; rintro e w2 ⟨rfl, hb⟩; have hS2 := hS.on hb; clear hb)
  refine hK.out _ _ (by assumption) (fun hS => ?_)
  clear hK K
  refine wpAnyH_take (i := 14) (v := Value.bool false) rfl (by kernel_rfl) (by kernel_rfl) (by kernel_rfl) (fun _ _ _ h => h) (Or.inl ⟨by kernel_rfl, fun W hW => by go_simp⟩) hS ?_
  refine wpAnyH_take (i := 15) (v := Value.bool false) rfl (by kernel_rfl) (by kernel_rfl) (by kernel_rfl) (fun _ _ _ h => h) (Or.inl ⟨by kernel_rfl, fun W hW => by kernel_rfl⟩) hS ?_
  refine wpAnyH_take (i := 16) (v := Value.bool false) rfl (by kernel_rfl) (by kernel_rfl) (by kernel_rfl) (fun _ _ _ h => h) (Or.inl ⟨by kernel_rfl, fun W hW => by kernel_rfl⟩) hS ?_
  refine wpAnyH_take (i := 17) (v := undef) rfl (by kernel_rfl) (by kernel_rfl) (by kernel_rfl) (fun _ _ _ h => h) (Or.inr ⟨by kernel_rfl, rfl⟩) hS ?_
  refine wpAnyH_take (i := 18) (v := undef) rfl (by kernel_rfl) (by kernel_rfl) (by kernel_rfl) (fun _ _ _ h => h) (Or.inr ⟨by kernel_rfl, rfl⟩) hS ?_
  refine wpAnyH_take (i := 19) (v := undef) rfl (by kernel_rfl) (by kernel_rfl) (by kernel_rfl) (fun _ _ _ h => h) (Or.inr ⟨by kernel_rfl, rfl⟩) hS ?_
  refine wpAnyH_take (i := 20) (v := Value.bool false) rfl (by kernel_rfl) (by kernel_rfl) (by kernel_rfl) (fun _ _ _ h => h) (Or.inl ⟨by kernel_rfl, fun W hW => by kernel_rfl⟩) hS ?_
  refine wpAnyH_take (i := 21) (v := Value.bool false) rfl (by kernel_rfl) (by kernel_rfl) (by kernel_rfl) (fun _ _ _ h => h) (Or.inl ⟨by kernel_rfl, fun W hW => by kernel_rfl⟩) hS ?_
  refine wpAnyH_take (i := 22) (v := undef) rfl (by kernel_rfl) (by kernel_rfl) (by kernel_rfl) (fun _ _ _ h => h) (Or.inr ⟨by kernel_rfl, rfl⟩) hS ?_
  refine wpAnyH_take (i := 23) (v := undef) rfl (by kernel_rfl) (by kernel_rfl) (by kernel_rfl) (fun _ _ _ h => h) (Or.inr ⟨by kernel_rfl, rfl⟩) hS ?_
  refine wpAnyH_take (i := 24) (v := undef) rfl (by kernel_rfl) (by kernel_rfl) (by kernel_rfl) (fun _ _ _ h => h) (Or.inr ⟨by kernel_rfl, rfl⟩) hS ?_
  refine wpAnyH_take (i := 25) (v := Value.bool false) rfl (by kernel_rfl) (by kernel_rfl) (by kernel_rfl) (fun _ _ _ h => h) (Or.inl ⟨by kernel_rfl, fun W hW => by kernel_rfl⟩) hS ?_
  refine wpAnyH_take (i := 26) (v := Value.bool false) rfl (by kernel_rfl) (by kernel_rfl) (by kernel_rfl) (fun _ _ _ h => h) (Or.inl ⟨by kernel_rfl, fun W hW => by kernel_rfl⟩) hS ?_
  refine wpAnyH_take (i := 27) (v := undef) rfl (by kernel_rfl) (by kernel_rfl) (by kernel_rfl) (fun _ _ _ h => h) (Or.inr ⟨by kernel_rfl, rfl⟩) hS ?_
  refine wpAnyH_take (i := 28) (v := undef) rfl (by kernel_rfl) (by kernel_rfl) (by kernel_rfl) (fun _ _ _ h => h) (Or.inr ⟨by kernel_rfl, rfl⟩) hS ?_
  refine wpAnyH_ready (rs := [29]) (by kernel_rfl) (by simp) ?_
  refine AllReadyH.cons rfl (fun K hK => ?_) AllReadyH.nil
  go_simp
  refine hK.out _ _ hS (fun hS => ?_)
  clear hK K
  refine wpAnyH_take (i := 30) (v := Value.bool false) rfl (by kernel_rfl) (by kernel_rfl) (by kernel_rfl) (fun _ _ _ h => h) (Or.inl ⟨by kernel_rfl, fun W hW => by kernel_rfl⟩) hS ?_
  refine wpAnyH_take (i := 31) (v := Value.bool false) rfl (by kernel_rfl) (by kernel_rfl) (by kernel_rfl) (fun _ _ _ h => h) (Or.inl ⟨by kernel_rfl, fun W hW => by kernel_rfl⟩) hS ?_
  refine wpAnyH_done (by kernel_rfl) ?_ _
  go_wp2
  refine bodyPost_ret (results_tmp rfl _ _ _) rfl ?_
  exact ⟨rfl, hS.below⟩

set_option maxHeartbeats 4000000 in
set_option maxRecDepth 1000000 in
theorem rmap_c3 (a : Option Addr) (n cap : Nat) (pos pass st x : Int) (l : List Rg) (g1 : 0 ≤ pos) (g2 : pos ≤ x) (g3 : pass < 0)
    (k1 : ∀ w, Regs w a l → Calls Try.prog 46 #[.slice a n cap] w fun e w' => e = .returned (.bool true) ∧ Below w.heap.size w w') (k2 : ∀ w, Regs w a l → Calls Try.prog 35 #[.slice a n cap] w fun e w' => e = .returned (.int .i64 x) ∧ Below w.heap.size w w')
    (w : World) (h : Regs w a l) :
    Calls Try.prog 34 #[.agg #[.int .i64 pos, .int .i64 pass, .int .u8 st, .slice a n cap]] w fun e w' => e = .returned (.bool false) ∧ Below w.heap.size w w' := by
  have hX := OneBox.new (pos := pos) (pass := pass) (st := st) (n := n) (cap := cap) h
  clear h
  go_enter Try.func34, Try.ntmps34
  go_wp2
  generalize w.alloc (Obj.cells #[Value.int IntKind.i64 pos, Value.int IntKind.i64 pass, Value.int IntKind.u8 st, Value.slice a n cap] 37) = W0 at *
  refine wp_region_held_drew (S := fun W => OneBox w W pos pass st a n cap l) (by kernel_rfl) (hX.on (Below.refl _ _).drew) (fun hS => ?_)
  replace hS : OneBox w W0.drew pos pass st a n cap l := hS
  refine wpAnyH_take (i := 0) (v := Value.pointer (some ⟨w.heap.size, 3, none⟩)) rfl (by kernel_rfl) (by kernel_rfl) (by kernel_rfl) (fun _ _ _ h => h) (Or.inl ⟨by kernel_rfl, fun W hW => by kernel_rfl⟩) hS ?_
  refine wpAnyH_take (i := 1) (v := Value.slice a n cap) rfl (by kernel_rfl) (by kernel_rfl) (by kernel_rfl) (fun _ _ _ h => h) (Or.inl ⟨by kernel_rfl, fun W hW => by obtain ⟨hBB, l0, l1, l2, l3, hRR, hSS⟩ := hW; go_simp⟩) hS ?_
  refine wpAnyH_ready (rs := [2]) (by kernel_rfl) (by simp) ?_
  refine AllReadyH.cons rfl (fun K hK => ?_) AllReadyH.nil
  rw [if_pos (by kernel_rfl)]
  go_simp
  go_wp2_with (go_at_call 46; refine (k1 _ hS.regs).mono ?_; rintro e w1 ⟨rfl, hb⟩; have hS1 := hS.on hb; clear hb)
  refine hK.out _ _ (by assumption) (fun hS => ?_)
  clear hK K
  refine wpAnyH_take (i := 3) (v := Value.bool true) rfl (by kernel_rfl) (by kernel_rfl) (by kernel_rfl) (fun _ _ _ h => h) (Or.inl ⟨by kernel_rfl, fun W hW => by kernel_rfl⟩) hS ?_
  refine wpAnyH_take (i := 4) (v := Value.pointer (some ⟨w.heap.size, 0, none⟩)) rfl (by kernel_rfl) (by kernel_rfl) (by kernel_rfl) (fun _ _ _ h => h) (Or.inl ⟨by kernel_rfl, fun W hW => by kernel_rfl⟩) hS ?_
  refine wpAnyH_take (i := 5) (v := Value.int .i64 pos) rfl (by kernel_rfl) (by kernel_rfl) (by kernel_rfl) (fun _ _ _ h => h) (Or.inl ⟨by kernel_rfl, fun W hW => by obtain ⟨hBB, l0, l1, l2, l3, hRR, hSS⟩ := hW; go_simp⟩) hS ?_
  refine wpAnyH_take (i := 6) (v := Value.bool true) rfl (by kernel_rfl) (by kernel_rfl) (by kernel_rfl) (fun _ _ _ h => h) (Or.inl ⟨by kernel_rfl, fun W hW => by go_simp⟩) hS ?_
  refine wpAnyH_take (i := 7) (v := Value.bool true) rfl (by kernel_rfl) (by kernel_rfl) (by kernel_rfl) (fun _ _ _ h => h) (Or.inl ⟨by kernel_rfl, fun W hW => by kernel_rfl⟩) hS ?_
  refine wpAnyH_take (i := 8) (v := Value.bool true) rfl (by kernel_rfl) (by kernel_rfl) (by kernel_rfl) (fun _ _ _ h => h) (Or.inl ⟨by kernel_rfl, fun W hW => by kernel_rfl⟩) hS ?_
  refine wpAnyH_take (i := 9) (v := Value.pointer (some ⟨w.heap.size, 0, none⟩)) rfl (by kernel_rfl) (by kernel_rfl) (by kernel_rfl) (fun _ _ _ h => h) (Or.inl ⟨by kernel_rfl, fun W hW => by kernel_rfl⟩) hS ?_
  refine wpAnyH_take (i := 10) (v := Value.int .i64 pos) rfl (by kernel_rfl) (by kernel_rfl) (by kernel_rfl) (fun _ _ _ h => h) (Or.inl ⟨by kernel_rfl, fun W hW => by obtain ⟨hBB, l0, l1, l2, l3, hRR, hSS⟩ := hW; go_simp⟩) hS ?_
  refine wpAnyH_take (i := 11) (v := Value.pointer (some ⟨w.heap.size, 3, none⟩)) rfl (by kernel_rfl) (by kernel_rfl) (by kernel_rfl) (fun _ _ _ h => h) (Or.inl ⟨by kernel_rfl, fun W hW => by kernel_rfl⟩) hS ?_
  refine wpAnyH_take (i := 12) (v := Value.slice a n cap) rfl (by kernel_rfl) (by kernel_rfl) (by kernel_rfl) (fun _ _ _ h => h) (Or.inl ⟨by kernel_rfl, fun W hW => by obtain ⟨hBB, l0, l1, l2, l3, hRR, hSS⟩ := hW; go_simp⟩) hS ?_
  refine wpAnyH_ready (rs := [13]) (by kernel_rfl) (by simp) ?_
  refine AllReadyH.cons rfl (fun K hK => ?_) AllReadyH.nil
  rw [if_pos (by kernel_rfl)]
  go_simp
  go_wp2_with (go_at_call 35; refine (k2 _ hS.regs).mono ?_; rintro e w2 ⟨rfl, hb⟩; have hS2 := hS.on hb; clear hb)
  refine hK.out _ _ (by assumption) (fun hS => ?_)
  clear hK K
  refine wpAnyH_take (i := 14) (v := Value.bool true) rfl (by kernel_rfl) (by kernel_rfl) (by kernel_rfl) (fun _ _ _ h => h) (Or.inl ⟨by kernel_rfl, fun W hW => by go_simp⟩) hS ?_
  refine wpAnyH_take (i := 15) (v := Value.bool true) rfl (by kernel_rfl) (by kernel_rfl) (by kernel_rfl) (fun _ _ _ h => h) (Or.inl ⟨by kernel_rfl, fun W hW => by kernel_rfl⟩) hS ?_
  refine wpAnyH_take (i := 16) (v := Value.bool true) rfl (by kernel_rfl) (by kernel_rfl) (by kernel_rfl) (fun _ _ _ h => h) (Or.inl ⟨by kernel_rfl, fun W hW => by kernel_rfl⟩) hS ?_
  refine wpAnyH_take (i := 17) (v := Value.pointer (some ⟨w.heap.size, 1, none⟩)) rfl (by kernel_rfl) (by kernel_rfl) (by kernel_rfl) (fun _ _ _ h => h) (Or.inl ⟨by kernel_rfl, fun W hW => by kernel_rfl⟩) hS ?_
  refine wpAnyH_take (i := 18) (v := Value.int .i64 pass) rfl (by kernel_rfl) (by kernel_rfl) (by kernel_rfl) (fun _ _ _ h => h) (Or.inl ⟨by kernel_rfl, fun W hW => by obtain ⟨hBB, l0, l1, l2, l3, hRR, hSS⟩ := hW; go_simp⟩) hS ?_
  refine wpAnyH_take (i := 19) (v := Value.bool false) rfl (by kernel_rfl) (by kernel_rfl) (by kernel_rfl) (fun _ _ _ h => h) (Or.inl ⟨by kernel_rfl, fun W hW => by go_simp⟩) hS ?_
  refine wpAnyH_take (i := 20) (v := Value.bool false) rfl (by kernel_rfl) (by kernel_rfl) (by kernel_rfl) (fun _ _ _ h => h) (Or.inl ⟨by kernel_rfl, fun W hW => by kernel_rfl⟩) hS ?_
  refine wpAnyH_take (i := 21) (v := Value.bool false) rfl (by kernel_rfl) (by kernel_rfl) (by kernel_rfl) (fun _ _ _ h => h) (Or.inl ⟨by kernel_rfl, fun W hW => by kernel_rfl⟩) hS ?_
  refine wpAnyH_take (i := 22) (v := undef) rfl (by kernel_rfl) (by kernel_rfl) (by kernel_rfl) (fun _ _ _ h => h) (Or.inr ⟨by kernel_rfl, rfl⟩) hS ?_
  refine wpAnyH_take (i := 23) (v := undef) rfl (by kernel_rfl) (by kernel_rfl) (by kernel_rfl) (fun _ _ _ h => h) (Or.inr ⟨by kernel_rfl, rfl⟩) hS ?_
  refine wpAnyH_take (i := 24) (v := undef) rfl (by kernel_rfl) (by kernel_rfl) (by kernel_rfl) (fun _ _ _ h => h) (Or.inr ⟨by kernel_rfl, rfl⟩) hS ?_
  refine wpAnyH_take (i := 25) (v := Value.bool false) rfl (by kernel_rfl) (by kernel_rfl) (by kernel_rfl) (fun _ _ _ h => h) (Or.inl ⟨by kernel_rfl, fun W hW => by kernel_rfl⟩) hS ?_
  refine wpAnyH_take (i := 26) (v := Value.bool false) rfl (by kernel_rfl) (by kernel_rfl) (by kernel_rfl) (fun _ _ _ h => h) (Or.inl ⟨by kernel_rfl, fun W hW => by kernel_rfl⟩) hS ?_
  refine wpAnyH_take (i := 27) (v := undef) rfl (by kernel_rfl) (by kernel_rfl) (by kernel_rfl) (fun _ _ _ h => h) (Or.inr ⟨by kernel_rfl, rfl⟩) hS ?_
  refine wpAnyH_take (i := 28) (v := undef) rfl (by kernel_rfl) (by kernel_rfl) (by kernel_rfl) (fun _ _ _ h => h) (Or.inr ⟨by kernel_rfl, rfl⟩) hS ?_
  refine wpAnyH_ready (rs := [29]) (by kernel_rfl) (by simp) ?_
  refine AllReadyH.cons rfl (fun K hK => ?_) AllReadyH.nil
  go_simp
  refine hK.out _ _ hS (fun hS => ?_)
  clear hK K
  refine wpAnyH_take (i := 30) (v := Value.bool false) rfl (by kernel_rfl) (by kernel_rfl) (by kernel_rfl) (fun _ _ _ h => h) (Or.inl ⟨by kernel_rfl, fun W hW => by kernel_rfl⟩) hS ?_
  refine wpAnyH_take (i := 31) (v := Value.bool false) rfl (by kernel_rfl) (by kernel_rfl) (by kernel_rfl) (fun _ _ _ h => h) (Or.inl ⟨by kernel_rfl, fun W hW => by kernel_rfl⟩) hS ?_
  refine wpAnyH_done (by kernel_rfl) ?_ _
  go_wp2
  refine bodyPost_ret (results_tmp rfl _ _ _) rfl ?_
  exact ⟨rfl, hS.below⟩

set_option maxHeartbeats 4000000 in
set_option maxRecDepth 1000000 in
theorem rmap_c4 (a : Option Addr) (n cap : Nat) (pos pass st x : Int) (l : List Rg) (g1 : 0 ≤ pos) (g2 : pos ≤ x) (g3 : 0 ≤ pass) (g4 : 20 < pass)
    (k1 : ∀ w, Regs w a l → Calls Try.prog 46 #[.slice a n cap] w fun e w' => e = .returned (.bool true) ∧ Below w.heap.size w w') (k2 : ∀ w, Regs w a l → Calls Try.prog 35 #[.slice a n cap] w fun e w' => e = .returned (.int .i64 x) ∧ Below w.heap.size w w')
    (w : World) (h : Regs w a l) :
    Calls Try.prog 34 #[.agg #[.int .i64 pos, .int .i64 pass, .int .u8 st, .slice a n cap]] w fun e w' => e = .returned (.bool false) ∧ Below w.heap.size w w' := by
  have hX := OneBox.new (pos := pos) (pass := pass) (st := st) (n := n) (cap := cap) h
  clear h
  go_enter Try.func34, Try.ntmps34
  go_wp2
  generalize w.alloc (Obj.cells #[Value.int IntKind.i64 pos, Value.int IntKind.i64 pass, Value.int IntKind.u8 st, Value.slice a n cap] 37) = W0 at *
  refine wp_region_held_drew (S := fun W => OneBox w W pos pass st a n cap l) (by kernel_rfl) (hX.on (Below.refl _ _).drew) (fun hS => ?_)
  replace hS : OneBox w W0.drew pos pass st a n cap l := hS
  refine wpAnyH_take (i := 0) (v := Value.pointer (some ⟨w.heap.size, 3, none⟩)) rfl (by kernel_rfl) (by kernel_rfl) (by kernel_rfl) (fun _ _ _ h => h) (Or.inl ⟨by kernel_rfl, fun W hW => by kernel_rfl⟩) hS ?_
  refine wpAnyH_take (i := 1) (v := Value.slice a n cap) rfl (by kernel_rfl) (by kernel_rfl) (by kernel_rfl) (fun _ _ _ h => h) (Or.inl ⟨by kernel_rfl, fun W hW => by obtain ⟨hBB, l0, l1, l2, l3, hRR, hSS⟩ := hW; go_simp⟩) hS ?_
  refine wpAnyH_ready (rs := [2]) (by kernel_rfl) (by simp) ?_
  refine AllReadyH.cons rfl (fun K hK => ?_) AllReadyH.nil
  rw [if_pos (by kernel_rfl)]
  go_simp
  go_wp2_with (go_at_call 46; refine (k1 _ hS.regs).mono ?_; rintro e w1 ⟨rfl, hb⟩; have hS1 := hS.on hb; clear hb)
  refine hK.out _ _ (by assumption) (fun hS => ?_)
  clear hK K
  refine wpAnyH_take (i := 3) (v := Value.bool true) rfl (by kernel_rfl) (by kernel_rfl) (by kernel_rfl) (fun _ _ _ h => h) (Or.inl ⟨by kernel_rfl, fun W hW => by kernel_rfl⟩) hS ?_
  refine wpAnyH_take (i := 4) (v := Value.pointer (some ⟨w.heap.size, 0, none⟩)) rfl (by kernel_rfl) (by kernel_rfl) (by kernel_rfl) (fun _ _ _ h => h) (Or.inl ⟨by kernel_rfl, fun W hW => by kernel_rfl⟩) hS ?_
  refine wpAnyH_take (i := 5) (v := Value.int .i64 pos) rfl (by kernel_rfl) (by kernel_rfl) (by kernel_rfl) (fun _ _ _ h => h) (Or.inl ⟨by kernel_rfl, fun W hW => by obtain ⟨hBB, l0, l1, l2, l3, hRR, hSS⟩ := hW; go_simp⟩) hS ?_
  refine wpAnyH_take (i := 6) (v := Value.bool true) rfl (by kernel_rfl) (by kernel_rfl) (by kernel_rfl) (fun _ _ _ h => h) (Or.inl ⟨by kernel_rfl, fun W hW => by go_simp⟩) hS ?_
  refine wpAnyH_take (i := 7) (v := Value.bool true) rfl (by kernel_rfl) (by kernel_rfl) (by kernel_rfl) (fun _ _ _ h => h) (Or.inl ⟨by kernel_rfl, fun W hW => by kernel_rfl⟩) hS ?_
  refine wpAnyH_take (i := 8) (v := Value.bool true) rfl (by kernel_rfl) (by kernel_rfl) (by kernel_rfl) (fun _ _ _ h => h) (Or.inl ⟨by kernel_rfl, fun W hW => by kernel_rfl⟩) hS ?_
  refine wpAnyH_take (i := 9) (v := Value.pointer (some ⟨w.heap.size, 0, none⟩)) rfl (by kernel_rfl) (by kernel_rfl) (by kernel_rfl) (fun _ _ _ h => h) (Or.inl ⟨by kernel_rfl, fun W hW => by kernel_rfl⟩) hS ?_
  refine wpAnyH_take (i := 10) (v := Value.int .i64 pos) rfl (by kernel_rfl) (by kernel_rfl) (by kernel_rfl) (fun _ _ _ h => h) (Or.inl ⟨by kernel_rfl, fun W hW => by obtain ⟨hBB, l0, l1, l2, l3, hRR, hSS⟩ := hW; go_simp⟩) hS ?_
  refine wpAnyH_take (i := 11) (v := Value.pointer (some ⟨w.heap.size, 3, none⟩)) rfl (by kernel_rfl) (by kernel_rfl) (by kernel_rfl) (fun _ _ _ h => h) (Or.inl ⟨by kernel_rfl, fun W hW => by kernel_rfl⟩) hS ?_
  refine wpAnyH_take (i := 12) (v := Value.slice a n cap) rfl (by kernel_rfl) (by kernel_rfl) (by kernel_rfl) (fun _ _ _ h => h) (Or.inl ⟨by kernel_rfl, fun W hW => by obtain ⟨hBB, l0, l1, l2, l3, hRR, hSS⟩ := hW; go_simp⟩) hS ?_
  refine wpAnyH_ready (rs := [13]) (by kernel_rfl) (by simp) ?_
  refine AllReadyH.cons rfl (fun K hK => ?_) AllReadyH.nil
  rw [if_pos (by kernel_rfl)]
  go_simp
  go_wp2_with (go_at_call 35; refine (k2 _ hS.regs).mono ?_; rintro e w2 ⟨rfl, hb⟩; have hS2 := hS.on hb; clear hb)
  refine hK.out _ _ (by assumption) (fun hS => ?_)
  clear hK K
  refine wpAnyH_take (i := 14) (v := Value.bool true) rfl (by kernel_rfl) (by kernel_rfl) (by kernel_rfl) (fun _ _ _ h => h) (Or.inl ⟨by kernel_rfl, fun W hW => by go_simp⟩) hS ?_
  refine wpAnyH_take (i := 15) (v := Value.bool true) rfl (by kernel_rfl) (by kernel_rfl) (by kernel_rfl) (fun _ _ _ h => h) (Or.inl ⟨by kernel_rfl, fun W hW => by kernel_rfl⟩) hS ?_
  refine wpAnyH_take (i := 16) (v := Value.bool true) rfl (by kernel_rfl) (by kernel_rfl) (by kernel_rfl) (fun _ _ _ h => h) (Or.inl ⟨by kernel_rfl, fun W hW => by kernel_rfl⟩) hS ?_
  refine wpAnyH_take (i := 17) (v := Value.pointer (some ⟨w.heap.size, 1, none⟩)) rfl (by kernel_rfl) (by kernel_rfl) (by kernel_rfl) (fun _ _ _ h => h) (Or.inl ⟨by kernel_rfl, fun W hW => by kernel_rfl⟩) hS ?_
  refine wpAnyH_take (i := 18) (v := Value.int .i64 pass) rfl (by kernel_rfl) (by kernel_rfl) (by kernel_rfl) (fun _ _ _ h => h) (Or.inl ⟨by kernel_rfl, fun W hW => by obtain ⟨hBB, l0, l1, l2, l3, hRR, hSS⟩ := hW; go_simp⟩) hS ?_
  refine wpAnyH_take (i := 19) (v := Value.bool true) rfl (by kernel_rfl) (by kernel_rfl) (by kernel_rfl) (fun _ _ _ h => h) (Or.inl ⟨by kernel_rfl, fun W hW => by go_simp⟩) hS ?_
  refine wpAnyH_take (i := 20) (v := Value.bool true) rfl (by kernel_rfl) (by kernel_rfl) (by kernel_rfl) (fun _ _ _ h => h) (Or.inl ⟨by kernel_rfl, fun W hW => by kernel_rfl⟩) hS ?_
  refine wpAnyH_take (i := 21) (v := Value.bool true) rfl (by kernel_rfl) (by kernel_rfl) (by kernel_rfl) (fun _ _ _ h => h) (Or.inl ⟨by kernel_rfl, fun W hW => by kernel_rfl⟩) hS ?_
  refine wpAnyH_take (i := 22) (v := Value.pointer (some ⟨w.heap.size, 1, none⟩)) rfl (by kernel_rfl) (by kernel_rfl) (by kernel_rfl) (fun _ _ _ h => h) (Or.inl ⟨by kernel_rfl, fun W hW => by kernel_rfl⟩) hS ?_
  refine wpAnyH_take (i := 23) (v := Value.int .i64 pass) rfl (by kernel_rfl) (by kernel_rfl) (by kernel_rfl) (fun _ _ _ h => h) (Or.inl ⟨by kernel_rfl, fun W hW => by obtain ⟨hBB, l0, l1, l2, l3, hRR, hSS⟩ := hW; go_simp⟩) hS ?_
  refine wpAnyH_take (i := 24) (v := Value.bool false) rfl (by kernel_rfl) (by kernel_rfl) (by kernel_rfl) (fun _ _ _ h => h) (Or.inl ⟨by kernel_rfl, fun W hW => by go_simp⟩) hS ?_
  refine wpAnyH_take (i := 25) (v := Value.bool false) rfl (by kernel_rfl) (by kernel_rfl) (by kernel_rfl) (fun _ _ _ h => h) (Or.inl ⟨by kernel_rfl, fun W hW => by kernel_rfl⟩) hS ?_
  refine wpAnyH_take (i := 26) (v := Value.bool false) rfl (by kernel_rfl) (by kernel_rfl) (by kernel_rfl) (fun _ _ _ h => h) (Or.inl ⟨by kernel_rfl, fun W hW => by kernel_rfl⟩) hS ?_
  refine wpAnyH_take (i := 27) (v := undef) rfl (by kernel_rfl) (by kernel_rfl) (by kernel_rfl) (fun _ _ _ h => h) (Or.inr ⟨by kernel_rfl, rfl⟩) hS ?_
  refine wpAnyH_take (i := 28) (v := undef) rfl (by kernel_rfl) (by kernel_rfl) (by kernel_rfl) (fun _ _ _ h => h) (Or.inr ⟨by kernel_rfl, rfl⟩) hS ?_
  refine wpAnyH_ready (rs := [29]) (by kernel_rfl) (by simp) ?_
  refine AllReadyH.cons rfl (fun K hK => ?_) AllReadyH.nil
  go_simp
  refine hK.out _ _ hS (fun hS => ?_)
  clear hK K
  refine wpAnyH_take (i := 30) (v := Value.bool false) rfl (by kernel_rfl) (by kernel_rfl) (by kernel_rfl) (fun _ _ _ h => h) (Or.inl ⟨by kernel_rfl, fun W hW => by kernel_rfl⟩) hS ?_
  refine wpAnyH_take (i := 31) (v := Value.bool false) rfl (by kernel_rfl) (by kernel_rfl) (by kernel_rfl) (fun _ _ _ h => h) (Or.inl ⟨by kernel_rfl, fun W hW => by kernel_rfl⟩) hS ?_
  refine wpAnyH_done (by kernel_rfl) ?_ _
  go_wp2
  refine bodyPost_ret (results_tmp rfl _ _ _) rfl ?_
  exact ⟨rfl, hS.below⟩

set_option maxHeartbeats 4000000 in
set_option maxRecDepth 1000000 in
theorem rmap_c5 (a : Option Addr) (n cap : Nat) (pos pass st x : Int) (l : List Rg) (g1 : 0 ≤ pos) (g2 : pos ≤ x) (g3 : 0 ≤ pass) (g4 : pass ≤ 20) (Z : Bool)
    (k1 : ∀ w, Regs w a l → Calls Try.prog 46 #[.slice a n cap] w fun e w' => e = .returned (.bool true) ∧ Below w.heap.size w w') (k2 : ∀ w, Regs w a l → Calls Try.prog 35 #[.slice a n cap] w fun e w' => e = .returned (.int .i64 x) ∧ Below w.heap.size w w') (k3 : ∀ w, Calls Try.prog 47 #[.int .u8 st] w fun e w' => e = .returned (.bool Z) ∧ w' = w)
    (w : World) (h : Regs w a l) :
    Calls Try.prog 34 #[.agg #[.int .i64 pos, .int .i64 pass, .int .u8 st, .slice a n cap]] w fun e w' => e = .returned (.bool Z) ∧ Below w.heap.size w w' := by
  have hX := OneBox.new (pos := pos) (pass := pass) (st := st) (n := n) (cap := cap) h
  clear h
  go_enter Try.func34, Try.ntmps34
  go_wp2
  generalize w.alloc (Obj.cells #[Value.int IntKind.i64 pos, Value.int IntKind.i64 pass, Value.int IntKind.u8 st, Value.slice a n cap] 37) = W0 at *
  refine wp_region_held_drew (S := fun W => OneBox w W pos pass st a n cap l) (by kernel_rfl) (hX.on (Below.refl _ _).drew) (fun hS => ?_)
  replace hS : OneBox w W0.drew pos pass st a n cap l := hS
  refine wpAnyH_take (i := 0) (v := Value.pointer (some ⟨w.heap.size, 3, none⟩)) rfl (by kernel_rfl) (by kernel_rfl) (by kernel_rfl) (fun _ _ _ h => h) (Or.inl ⟨by kernel_rfl, fun W hW => by kernel_rfl⟩) hS ?_
  refine wpAnyH_take (i := 1) (v := Value.slice a n cap) rfl (by kernel_rfl) (by kernel_rfl) (by kernel_rfl) (fun _ _ _ h => h) (Or.inl ⟨by kernel_rfl, fun W hW => by obtain ⟨hBB, l0, l1, l2, l3, hRR, hSS⟩ := hW; go_simp⟩) hS ?_
  refine wpAnyH_ready (rs := [2]) (by kernel_rfl) (by simp) ?_
  refine AllReadyH.cons rfl (fun K hK => ?_) AllReadyH.nil
  rw [if_pos (by kernel_rfl)]
  go_simp
  go_wp2_with (go_at_call 46; refine (k1 _ hS.regs).mono ?_; rintro e w1 ⟨rfl, hb⟩; have hS1 := hS.on hb; clear hb)
  refine hK.out _ _ (by assumption) (fun hS => ?_)
  clear hK K
  refine wpAnyH_take (i := 3) (v := Value.bool true) rfl (by kernel_rfl) (by kernel_rfl) (by kernel_rfl) (fun _ _ _ h => h) (Or.inl ⟨by kernel_rfl, fun W hW => by kernel_rfl⟩) hS ?_
  refine wpAnyH_take (i := 4) (v := Value.pointer (some ⟨w.heap.size, 0, none⟩)) rfl (by kernel_rfl) (by kernel_rfl) (by kernel_rfl) (fun _ _ _ h => h) (Or.inl ⟨by kernel_rfl, fun W hW => by kernel_rfl⟩) hS ?_
  refine wpAnyH_take (i := 5) (v := Value.int .i64 pos) rfl (by kernel_rfl) (by kernel_rfl) (by kernel_rfl) (fun _ _ _ h => h) (Or.inl ⟨by kernel_rfl, fun W hW => by obtain ⟨hBB, l0, l1, l2, l3, hRR, hSS⟩ := hW; go_simp⟩) hS ?_
  refine wpAnyH_take (i := 6) (v := Value.bool true) rfl (by kernel_rfl) (by kernel_rfl) (by kernel_rfl) (fun _ _ _ h => h) (Or.inl ⟨by kernel_rfl, fun W hW => by go_simp⟩) hS ?_
  refine wpAnyH_take (i := 7) (v := Value.bool true) rfl (by kernel_rfl) (by kernel_rfl) (by kernel_rfl) (fun _ _ _ h => h) (Or.inl ⟨by kernel_rfl, fun W hW => by kernel_rfl⟩) hS ?_
  refine wpAnyH_take (i := 8) (v := Value.bool true) rfl (by kernel_rfl) (by kernel_rfl) (by kernel_rfl) (fun _ _ _ h => h) (Or.inl ⟨by kernel_rfl, fun W hW => by kernel_rfl⟩) hS ?_
  refine wpAnyH_take (i := 9) (v := Value.pointer (some ⟨w.heap.size, 0, none⟩)) rfl (by kernel_rfl) (by kernel_rfl) (by kernel_rfl) (fun _ _ _ h => h) (Or.inl ⟨by kernel_rfl, fun W hW => by kernel_rfl⟩) hS ?_
  refine wpAnyH_take (i := 10) (v := Value.int .i64 pos) rfl (by kernel_rfl) (by kernel_rfl) (by kernel_rfl) (fun _ _ _ h => h) (Or.inl ⟨by kernel_rfl, fun W hW => by obtain ⟨hBB, l0, l1, l2, l3, hRR, hSS⟩ := hW; go_simp⟩) hS ?_
  refine wpAnyH_take (i := 11) (v := Value.pointer (some ⟨w.heap.size, 3, none⟩)) rfl (by kernel_rfl) (by kernel_rfl) (by kernel_rfl) (fun _ _ _ h => h) (Or.inl ⟨by kernel_rfl, fun W hW => by kernel_rfl⟩) hS ?_
  refine wpAnyH_take (i := 12) (v := Value.slice a n cap) rfl (by kernel_rfl) (by kernel_rfl) (by kernel_rfl) (fun _ _ _ h => h) (Or.inl ⟨by kernel_rfl, fun W hW => by obtain ⟨hBB, l0, l1, l2, l3, hRR, hSS⟩ := hW; go_simp⟩) hS ?_
  refine wpAnyH_ready (rs := [13]) (by kernel_rfl) (by simp) ?_
  refine AllReadyH.cons rfl (fun K hK => ?_) AllReadyH.nil
  rw [if_pos (by kernel_rfl)]
  go_simp
  go_wp2_with (go_at_call 35; refine (k2 _ hS.regs).mono ?_; rintro e w2 ⟨rfl, hb⟩; have hS2 := hS.on hb; clear hb)
  refine hK.out _ _ (by assumption) (fun hS => ?_)
  clear hK K
  refine wpAnyH_take (i := 14) (v := Value.bool true) rfl (by kernel_rfl) (by kernel_rfl) (by kernel_rfl) (fun _ _ _ h => h) (Or.inl ⟨by kernel_rfl, fun W hW => by go_simp⟩) hS ?_
  refine wpAnyH_take (i := 15) (v := Value.bool true) rfl (by kernel_rfl) (by kernel_rfl) (by kernel_rfl) (fun _ _ _ h => h) (Or.inl ⟨by kernel_rfl, fun W hW => by kernel_rfl⟩) hS ?_
  refine wpAnyH_take (i := 16) (v := Value.bool true) rfl (by kernel_rfl) (by kernel_rfl) (by kernel_rfl) (fun _ _ _ h => h) (Or.inl ⟨by kernel_rfl, fun W hW => by kernel_rfl⟩) hS ?_
  refine wpAnyH_take (i := 17) (v := Value.pointer (some ⟨w.heap.size, 1, none⟩)) rfl (by kernel_rfl) (by kernel_rfl) (by kernel_rfl) (fun _ _ _ h => h) (Or.inl ⟨by kernel_rfl, fun W hW => by kernel_rfl⟩) hS ?_
  refine wpAnyH_take (i := 18) (v := Value.int .i64 pass) rfl (by kernel_rfl) (by kernel_rfl) (by kernel_rfl) (fun _ _ _ h => h) (Or.inl ⟨by kernel_rfl, fun W hW => by obtain ⟨hBB, l0, l1, l2, l3, hRR, hSS⟩ := hW; go_simp⟩) hS ?_
  refine wpAnyH_take (i := 19) (v := Value.bool true) rfl (by kernel_rfl) (by kernel_rfl) (by kernel_rfl) (fun _ _ _ h => h) (Or.inl ⟨by kernel_rfl, fun W hW => by go_simp⟩) hS ?_
  refine wpAnyH_take (i := 20) (v := Value.bool true) rfl (by kernel_rfl) (by kernel_rfl) (by kernel_rfl) (fun _ _ _ h => h) (Or.inl ⟨by kernel_rfl, fun W hW => by kernel_rfl⟩) hS ?_
  refine wpAnyH_take (i := 21) (v := Value.bool true) rfl (by kernel_rfl) (by kernel_rfl) (by kernel_rfl) (fun _ _ _ h => h) (Or.inl ⟨by kernel_rfl, fun W hW => by kernel_rfl⟩) hS ?_
  refine wpAnyH_take (i := 22) (v := Value.pointer (some ⟨w.heap.size, 1, none⟩)) rfl (by kernel_rfl) (by kernel_rfl) (by kernel_rfl) (fun _ _ _ h => h) (Or.inl ⟨by kernel_rfl, fun W hW => by kernel_rfl⟩) hS ?_
  refine wpAnyH_take (i := 23) (v := Value.int .i64 pass) rfl (by kernel_rfl) (by kernel_rfl) (by kernel_rfl) (fun _ _ _ h => h) (Or.inl ⟨by kernel_rfl, fun W hW => by obtain ⟨hBB, l0, l1, l2, l3, hRR, hSS⟩ := hW; go_simp⟩) hS ?_
  refine wpAnyH_take (i := 24) (v := Value.bool true) rfl (by kernel_rfl) (by kernel_rfl) (by kernel_rfl) (fun _ _ _ h => h) (Or.inl ⟨by kernel_rfl, fun W hW => by go_simp⟩) hS ?_
  refine wpAnyH_take (i := 25) (v := Value.bool true) rfl (by kernel_rfl) (by kernel_rfl) (by kernel_rfl) (fun _ _ _ h => h) (Or.inl ⟨by kernel_rfl, fun W hW => by kernel_rfl⟩) hS ?_
  refine wpAnyH_take (i := 26) (v := Value.bool true) rfl (by kernel_rfl) (by kernel_rfl) (by kernel_rfl) (fun _ _ _ h => h) (Or.inl ⟨by kernel_rfl, fun W hW => by kernel_rfl⟩) hS ?_
  refine wpAnyH_take (i := 27) (v := Value.pointer (some ⟨w.heap.size, 2, none⟩)) rfl (by kernel_rfl) (by kernel_rfl) (by kernel_rfl) (fun _ _ _ h => h) (Or.inl ⟨by kernel_rfl, fun W hW => by kernel_rfl⟩) hS ?_
  refine wpAnyH_take (i := 28) (v := Value.int .u8 st) rfl (by kernel_rfl) (by kernel_rfl) (by kernel_rfl) (fun _ _ _ h => h) (Or.inl ⟨by kernel_rfl, fun W hW => by obtain ⟨hBB, l0, l1, l2, l3, hRR, hSS⟩ := hW; go_simp⟩) hS ?_
  refine wpAnyH_ready (rs := [29]) (by kernel_rfl) (by simp) ?_
  refine AllReadyH.cons rfl (fun K hK => ?_) AllReadyH.nil
  rw [if_pos (by kernel_rfl)]
  go_simp
  go_wp2_with (go_at_call 47; refine (k3 _).mono ?_; rintro e w3 ⟨rfl, rfl⟩)
  refine hK.out _ _ (by assumption) (fun hS => ?_)
  clear hK K
  refine wpAnyH_take (i := 30) (v := Value.bool Z) rfl (by kernel_rfl) (by kernel_rfl) (by kernel_rfl) (fun _ _ _ h => h) (Or.inl ⟨by kernel_rfl, fun W hW => by kernel_rfl⟩) hS ?_
  refine wpAnyH_take (i := 31) (v := Value.bool Z) rfl (by kernel_rfl) (by kernel_rfl) (by kernel_rfl) (fun _ _ _ h => h) (Or.inl ⟨by kernel_rfl, fun W hW => by kernel_rfl⟩) hS ?_
  refine wpAnyH_done (by kernel_rfl) ?_ _
  go_wp2
  refine bodyPost_ret (results_tmp rfl _ _ _) rfl ?_
  exact ⟨rfl, hS.below⟩
end Go.Proofs.Ytmefkfilclkgeaa.bound
