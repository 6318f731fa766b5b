import Derived.Test.YtmefkfilclkgeaaGrowB
import Derived.Test.YtmefkfilclkgeaaAbProg
import Derived.Deep.RegionHeld3
namespace Go.Proofs.Ytmefkfilclkgeaa.bound
open Go.ChangeShapes Go.WideShapes Go.ChangeAt Go.RowKit
set_option linter.unusedVariables false
/-- regions came back, the call's own, that end at a size -/
def Got3 (w : World) (size : Int) (e : Ending) (w' : World) : Prop :=
  ∃ v n p s t, e = .returned v ∧ Own3 w' w.heap.size v n p s t ∧ Good n p s t size ∧ Below w.heap.size w w'
theorem new_none (w : World) : Calls Try.prog 42 #[.int .i64 0] w (Got3 w 0) := by
  go_enter Try.func42, Try.ntmps42
  go_wp2
  go_ret
  exact ⟨_, 0, fun _ => 0, fun _ => 0, fun _ => 0, rfl, ⟨fun _ => rfl, [], World.ownsRow_nil _ _ _ _, fun k hk => by omega⟩,
    ⟨fun h => by omega, fun _ => rfl, fun k hk => by omega, fun k hk => by omega, fun k hk => by omega, by omega, fun k hk => by omega, fun k hk => by omega⟩, Below.refl _ _⟩
theorem new_some (size : Int) (h1 : 1 ≤ size) (h2 : size ≤ 255) (w : World) : Calls Try.prog 42 #[.int .i64 size] w (Got3 w size) := by
  have c1 : ¬ size < 1 := by omega
  have c2 : ¬ (size > 1099511627776) := by omega
  go_enter Try.func42, Try.ntmps42
  go_wp2
  go_ret
  refine ⟨_, 1, fun _ => 0, fun _ => size, fun _ => 63, rfl, ⟨fun h => by omega, [.int .i64 0, .int .i64 size, .int .u8 63], ⟨rfl, .inr ⟨w.heap.size, 1, _, rfl, Nat.le_refl _, heap_alloc_new w _, Nat.le_refl _, by unfold maxLen; omega, rfl, rfl⟩⟩, fun k hk => ?_⟩,
    (one_good h1 (by omega) (by decide)).cast (by omega), (Below.refl _ w).alloc (Nat.le_refl _) _⟩
  obtain rfl : k = 0 := by omega
  exact ⟨rfl, rfl, rfl⟩
theorem new_walk (size : Int) (h1 : 0 ≤ size) (h2 : size ≤ 255) (w : World) : Calls Try.prog 42 #[.int .i64 size] w (Got3 w size) := by
  by_cases h : size = 0
  · subst h; exact new_none w
  · exact new_some size (by omega) h2 w
def said (x : Int) : Option (Value × Hp) → Bool
  | some (.int .u8 y, _) => y == x
  | _ => false
noncomputable def ofAt (r : Nat) : Option (Value × Hp) := answer env (fun _ => none) 200 44 [.agg #[lost, lost, rest8 5 r]] ⟨Try.prog.globals.size, .nil⟩
theorem of_at {r : Nat} {x : Int} (hr : said x (ofAt r) = true) (p q : Int) (s : Nat) (hs : s % 5 = r) (hr5 : r < 5) (h255 : s ≤ 255) (w : World) :
    Calls Try.prog 44 #[.agg #[.int .u8 p, .int .u8 q, .int .u8 s]] w fun e w' => e = .returned (.int .u8 x) ∧ Below w.heap.size w w' := by
  unfold ofAt env at hr
  cases ha : answer (Env.of Try.prog eqList) (fun _ => none) 200 44 [.agg #[lost, lost, rest8 5 r]] ⟨Try.prog.globals.size, .nil⟩ with
  | none => rw [ha] at hr; cases hr
  | some vh =>
    obtain ⟨v, h2⟩ := vh
    rw [ha] at hr
    have hv : v = .int .u8 x := by
      unfold said at hr
      split at hr
      · rename_i y h3 e
        cases e
        rw [eq_of_beq hr]
      · cases hr
    subst hv
    have hl : LR (globB Try.prog.globals.size) [.agg #[lost, lost, rest8 5 r]] [.agg #[.int .u8 p, .int .u8 q, .int .u8 s]] := by
      refine LR.cons (.agg rfl fun i a b h1 h2 => ?_) (LR.nil _)
      match i with
      | 0 => simp at h1 h2; subst h1 h2; exact .lost _ rfl
      | 1 => simp at h1 h2; subst h1 h2; exact .lost _ rfl
      | 2 => simp at h1 h2; subst h1 h2; exact .rest8 _ _ (by rw [show (5 * 512 + r) / 512 = 5 by omega, show (5 * 512 + r) % 512 = r by omega]; exact hs) h255
      | i + 3 => simp at h1
    refine (answer_calls (P := Try.prog) (eqs := eqList) (f := 44) prog_types prog_eqs prog_guards prog_mix prog_funcs prog_names no_sp ha hl (glob_hr prog_globals) (fun g hg => if_pos hg)).mono ?_
    rintro en w2 ⟨v', β2, rfl, _, S, hR⟩
    exact ⟨by rw [hR.int_inv], glob_st S⟩
theorem of_walk (p q : Int) (s : Int) (h0 : 0 ≤ s) (h255 : s ≤ 255) : ∃ x, statusB x = true ∧ ∀ w, Calls Try.prog 44 #[.agg #[.int .u8 p, .int .u8 q, .int .u8 s]] w fun e w' => e = .returned (.int .u8 x) ∧ Below w.heap.size w w' := by
  obtain ⟨n, rfl⟩ : ∃ n : Nat, s = n := ⟨s.toNat, by omega⟩
  have h5 : n % 5 = 0 ∨ n % 5 = 1 ∨ n % 5 = 2 ∨ n % 5 = 3 ∨ n % 5 = 4 := by omega
  rcases h5 with h | h | h | h | h
  · exact ⟨63, rfl, of_at (by kernel_rfl) p q n h (by omega) (by omega)⟩
  · exact ⟨42, rfl, of_at (by kernel_rfl) p q n h (by omega) (by omega)⟩
  · exact ⟨47, rfl, of_at (by kernel_rfl) p q n h (by omega) (by omega)⟩
  · exact ⟨45, rfl, of_at (by kernel_rfl) p q n h (by omega) (by omega)⟩
  · exact ⟨43, rfl, of_at (by kernel_rfl) p q n h (by omega) (by omega)⟩
/-- parts that came in -/
def Cuts (w : World) (a : Option Addr) (n : Nat) (c : Nat → Int × Int × Int) : Prop :=
  n = 0 ∨ ∃ b o, a = some ⟨b, o, none⟩ ∧ b < w.heap.size ∧ ∀ k, k < n → (w.cell? ⟨b, o + k * 3, none⟩ = some (.int .u8 (c k).1) ∧ w.cell? ⟨b, o + k * 3 + 1, none⟩ = some (.int .u8 (c k).2.1) ∧ w.cell? ⟨b, o + k * 3 + 2, none⟩ = some (.int .u8 (c k).2.2)) ∧
    (0 ≤ (c k).1 ∧ (c k).1 ≤ 255) ∧ (0 ≤ (c k).2.1 ∧ (c k).2.1 ≤ 255) ∧ 0 ≤ (c k).2.2 ∧ (c k).2.2 ≤ 255
theorem Cuts.on {w w' : World} {a : Option Addr} {n : Nat} {c : Nat → Int × Int × Int} (h : Cuts w a n c) (k : Below w.heap.size w w') : Cuts w' a n c := by
  rcases h with h | ⟨b, o, h, hb, hc⟩
  · exact .inl h
  · refine .inr ⟨b, o, h, by have := k.size; omega, fun j hj => ?_⟩
    obtain ⟨⟨h1, h2, h3⟩, h4⟩ := hc j hj
    exact ⟨⟨(k.cell hb).trans h1, (k.cell hb).trans h2, (k.cell hb).trans h3⟩, h4⟩
theorem Own3.low {w : World} {B B' n : Nat} {v : Value} {p s t : Nat → Int} (h : Own3 w B v n p s t) (hB : B' ≤ B) : Own3 w B' v n p s t := by
  obtain ⟨h0, xs, h1, h2⟩ := h
  exact ⟨h0, xs, own_mono h1 hB, h2⟩
/-- regions that end at a size, the call's own -/
def Rel3 (w : World) (size : Int) (v : Value) (wr : World) : Prop :=
  ∃ n p s t, Own3 wr w.heap.size v n p s t ∧ Good n p s t size ∧ Below w.heap.size w wr
set_option maxHeartbeats 2000000 in
theorem made_walk (size : Int) (n cap : Nat) (a : Option Addr) (c : Nat → Int × Int × Int) (h0 : 0 ≤ size) (h255 : size ≤ 255) (hn : n ≤ 10) (w : World) (hc : Cuts w a n c) :
    Calls Try.prog 30 #[.int .u8 size, .slice a n cap] w (Got3 w size) := by
  have HC : Hid (Cuts w a n c) := hc
  have kN := fun w => new_walk size h0 h255 w
  clear hc
  go_enter Try.func30, Try.ntmps30
  go_wp2_with (go_at_call 42; refine (kN _).mono ?_; rintro e w1 ⟨v0, n0, p0, s0, t0, rfl, o0, g0, hb0⟩; have HR0 : Hid (Rel3 w size v0 w1) := ⟨n0, p0, s0, t0, o0, g0, hb0⟩; clear o0 g0 hb0)
  go_loopw [5, 6] (fun v i wr => ∃ k : Nat, k ≤ n ∧ i = .int .i64 k ∧ Rel3 w size v wr) (fun _ i _ => n - (intOf i).toNat)
  case atStart => exact ⟨0, by omega, rfl, HR0.out⟩
  case round =>
    clear HR0
    obtain ⟨k, hk, rfl, n1, p1, s1, t1, o1, g1, HB⟩ := hrel
    by_cases hlt : k < n
    · obtain ⟨a1, cap1, rfl, _⟩ := o1.regs g1
      rcases HC.out with hn0 | ⟨b, o, rfl, hb, hcells⟩
      · omega
      · obtain ⟨⟨x0, x1, x2⟩, ⟨q0, q1⟩, ⟨q2, q3⟩, q4, q5⟩ := hcells k hlt
        obtain ⟨x, hx, kO⟩ := of_walk (c k).1 (c k).2.1 (c k).2.2 q4 q5
        have HX : Hid (statusB x = true) := hx
        have HO : Hid (Own3 wr w.heap.size (.slice a1 n1 cap1) n1 p1 s1 t1) := o1
        have HG : Hid (Good n1 p1 s1 t1 size) := g1
        replace x0 := (HB.cell hb).trans x0
        replace x1 := (HB.cell hb).trans x1
        replace x2 := (HB.cell hb).trans x2
        replace hb : b < wr.heap.size := by have := HB.size; omega
        clear hx o1 g1 hcells kN
        go_upto_region 5 with (fail)
        refine wp_region_held_drew (S := fun W => Below wr.heap.size wr W) (by kernel_rfl) ((Below.refl _ wr).drew) (fun hS => ?_)
        replace hS : Below wr.heap.size wr wr.drew := hS
        refine wpAnyH_take (i := 0) (v := Value.slice a1 n1 cap1) rfl (by kernel_rfl) (by kernel_rfl) (by kernel_rfl) (fun _ _ _ h => h) (Or.inl ⟨by kernel_rfl, fun W hW => by kernel_rfl⟩) hS ?_
        refine wpAnyH_take (i := 1) (v := Value.slice (some ⟨b, o, none⟩) n cap) rfl (by kernel_rfl) (by kernel_rfl) (by kernel_rfl) (fun _ _ _ h => h) (Or.inl ⟨by kernel_rfl, fun W hW => by kernel_rfl⟩) hS ?_
        refine wpAnyH_take (i := 2) (v := Value.int .i64 (k)) rfl (by kernel_rfl) (by kernel_rfl) (by kernel_rfl) (fun _ _ _ h => h) (Or.inl ⟨by kernel_rfl, fun W hW => by kernel_rfl⟩) hS ?_
        refine wpAnyH_take (i := 3) (v := Value.pointer (some ⟨b, o + k * 3, none⟩)) rfl (by kernel_rfl) (by kernel_rfl) (by kernel_rfl) (fun _ _ _ h => h) (Or.inl ⟨by kernel_rfl, fun W hW => by go_simp⟩) hS ?_
        refine wpAnyH_take (i := 4) (v := Value.pointer (some ⟨b, o + k * 3, none⟩)) rfl (by kernel_rfl) (by kernel_rfl) (by kernel_rfl) (fun _ _ _ h => h) (Or.inl ⟨by kernel_rfl, fun W hW => by kernel_rfl⟩) hS ?_
        refine wpAnyH_take (i := 5) (v := Value.int .u8 ((c k).1)) rfl (by kernel_rfl) (by kernel_rfl) (by kernel_rfl) (fun _ _ _ h => h) (Or.inl ⟨by kernel_rfl, fun W hW => by have y0 := (hW.cell hb).trans x0; have y1 := (hW.cell hb).trans x1; have y2 := (hW.cell hb).trans x2; go_simp⟩) hS ?_
        refine wpAnyH_take (i := 6) (v := Value.int .i64 ((c k).1)) rfl (by kernel_rfl) (by kernel_rfl) (by kernel_rfl) (fun _ _ _ h => h) (Or.inl ⟨by kernel_rfl, fun W hW => by go_simp; exact IntWalk.i64_in _ (by omega)⟩) hS ?_
        refine wpAnyH_take (i := 7) (v := Value.slice (some ⟨b, o, none⟩) n cap) rfl (by kernel_rfl) (by kernel_rfl) (by kernel_rfl) (fun _ _ _ h => h) (Or.inl ⟨by kernel_rfl, fun W hW => by kernel_rfl⟩) hS ?_
        refine wpAnyH_take (i := 8) (v := Value.int .i64 (k)) rfl (by kernel_rfl) (by kernel_rfl) (by kernel_rfl) (fun _ _ _ h => h) (Or.inl ⟨by kernel_rfl, fun W hW => by kernel_rfl⟩) hS ?_
        refine wpAnyH_take (i := 9) (v := Value.pointer (some ⟨b, o + k * 3, none⟩)) rfl (by kernel_rfl) (by kernel_rfl) (by kernel_rfl) (fun _ _ _ h => h) (Or.inl ⟨by kernel_rfl, fun W hW => by go_simp⟩) hS ?_
        refine wpAnyH_take (i := 10) (v := Value.pointer (some ⟨b, o + k * 3 + 1, none⟩)) rfl (by kernel_rfl) (by kernel_rfl) (by kernel_rfl) (fun _ _ _ h => h) (Or.inl ⟨by kernel_rfl, fun W hW => by kernel_rfl⟩) hS ?_
        refine wpAnyH_take (i := 11) (v := Value.int .u8 ((c k).2.1)) rfl (by kernel_rfl) (by kernel_rfl) (by kernel_rfl) (fun _ _ _ h => h) (Or.inl ⟨by kernel_rfl, fun W hW => by have y0 := (hW.cell hb).trans x0; have y1 := (hW.cell hb).trans x1; have y2 := (hW.cell hb).trans x2; go_simp⟩) hS ?_
        refine wpAnyH_take (i := 12) (v := Value.int .i64 ((c k).2.1)) rfl (by kernel_rfl) (by kernel_rfl) (by kernel_rfl) (fun _ _ _ h => h) (Or.inl ⟨by kernel_rfl, fun W hW => by go_simp; exact IntWalk.i64_in _ (by omega)⟩) hS ?_
        refine wpAnyH_take (i := 13) (v := Value.slice (some ⟨b, o, none⟩) n cap) rfl (by kernel_rfl) (by kernel_rfl) (by kernel_rfl) (fun _ _ _ h => h) (Or.inl ⟨by kernel_rfl, fun W hW => by kernel_rfl⟩) hS ?_
        refine wpAnyH_take (i := 14) (v := Value.int .i64 (k)) rfl (by kernel_rfl) (by kernel_rfl) (by kernel_rfl) (fun _ _ _ h => h) (Or.inl ⟨by kernel_rfl, fun W hW => by kernel_rfl⟩) hS ?_
        refine wpAnyH_take (i := 15) (v := Value.pointer (some ⟨b, o + k * 3, none⟩)) rfl (by kernel_rfl) (by kernel_rfl) (by kernel_rfl) (fun _ _ _ h => h) (Or.inl ⟨by kernel_rfl, fun W hW => by go_simp⟩) hS ?_
        refine wpAnyH_take (i := 16) (v := Value.agg #[.int .u8 (c k).1, .int .u8 (c k).2.1, .int .u8 (c k).2.2]) rfl (by kernel_rfl) (by kernel_rfl) (by kernel_rfl) (fun _ _ _ h => h) (Or.inl ⟨by kernel_rfl, fun W hW => by have y0 := (hW.cell hb).trans x0; have y1 := (hW.cell hb).trans x1; have y2 := (hW.cell hb).trans x2; go_simp⟩) hS ?_
        refine wpAnyH_ready (rs := [17]) (by kernel_rfl) (by simp) ?_
        refine AllReadyH.cons rfl (fun K hK => ?_) AllReadyH.nil
        rw [if_pos (by kernel_rfl)]
        go_simp
        go_wp2_with (go_at_call 44; refine (kO _).mono ?_; rintro e w1 ⟨rfl, hb1⟩)
        refine hK.out _ _ (hS.trans (hb1.mono hS.size)) (fun hS => ?_)
        clear hK K
        refine wpAnyH_ready (rs := [18]) (by kernel_rfl) (by simp) ?_
        refine AllReadyH.cons rfl (fun K hK => ?_) AllReadyH.nil
        rw [if_pos (by kernel_rfl)]
        go_simp
        go_wp2_with (go_at_call 43; refine (set_walk w.heap.size n1 cap1 a1 (c k).1 (c k).2.1 x size p1 s1 t1 h255 _ (by have := hS.size; have := HB.size; omega) (HO.out.below hS) HG.out (by omega) (by omega) (by omega) (by omega) HX.out).mono ?_; rintro e w2 ⟨v2, n2, p2, s2, t2, rfl, o2, g2, hb2⟩; have HO2 : Hid (Own3 w2 w.heap.size v2 n2 p2 s2 t2) := o2.low (by have := hS.size; have := HB.size; omega); have HG2 : Hid (Good n2 p2 s2 t2 size) := g2; clear o2 g2)
        refine hK.out _ _ (hS.trans (hb2.mono hS.size)) (fun hS => ?_)
        clear hK K
        refine wpAnyH_take (i := 19) (v := v2) rfl (by kernel_rfl) (by kernel_rfl) (by kernel_rfl) (fun _ _ _ h => h) (Or.inl ⟨by kernel_rfl, fun W hW => by kernel_rfl⟩) hS ?_
        refine wpAnyH_done (by kernel_rfl) ?_ _
        have hR : Rel3 w size v2 w2 := ⟨n2, p2, s2, t2, HO2.out, HG2.out, HB.trans (hS.mono HB.size)⟩
        clear HO2 HG2 HB hS hb1 hb2 x0 x1 x2 HO HG HX kO
        go_wp2
        exact ⟨⟨k + 1, by omega, by simp, hR⟩, by simp [intOf]; omega⟩
    · obtain rfl : k = n := by omega
      clear kN
      go_wp2
      go_ret
      exact ⟨_, n1, p1, s1, t1, rfl, o1, g1, HB⟩

end Go.Proofs.Ytmefkfilclkgeaa.bound
