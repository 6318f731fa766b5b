import Derived.Test.YtmefkfilclkgeaaBndC
namespace Go.Proofs.Ytmefkfilclkgeaa.bound
open Go.ChangeShapes Go.WideShapes Go.ChangeAt Go.RowKit
set_option linter.unusedVariables false
/-- a slice's address leads to these regions -/
def Regs (w : World) (a : Option Addr) (l : List Rg) : Prop := l = [] ∨ ∃ b o, a = some ⟨b, o, none⟩ ∧ b < w.heap.size ∧ Cells w b o l
theorem Regs.on {w w' : World} {a : Option Addr} {l : List Rg} (h : Regs w a l) (k : Below w.heap.size w w') : Regs w' a l := by
  rcases h with h | ⟨b, o, h, hb, hc⟩
  · exact .inl h
  · exact .inr ⟨b, o, h, by have := k.size; omega, hc.below k hb⟩
theorem may_walk (a : Option Addr) (cap : Nat) (l : List Rg) (hl : l.length ≤ 1152921504606846976) (w : World) (h : Regs w a l) :
    Calls Try.prog 36 #[.slice a l.length cap] w fun e w' => e = .returned (.bool (mayB l)) ∧ Below w.heap.size w w' := by
  rcases h with rfl | ⟨b, o, rfl, hb, hc⟩
  · go_enter Try.func36, Try.ntmps36
    go_wp2
    go_loopw [8] (fun i wr => i = .int .i64 0 ∧ wr = w) (fun _ _ => 0)
    case atStart => exact ⟨rfl, rfl⟩
    case round =>
      obtain ⟨rfl, rfl⟩ := hrel
      go_wp2
      go_ret
      exact ⟨rfl, Below.refl _ _⟩
  · exact may_some b o cap l hl w hb hc
theorem rmay_walk (a : Option Addr) (cap : Nat) (l : List Rg) (hl : l.length ≤ 1152921504606846976) (w : World) (h : Regs w a l) :
    Calls Try.prog 46 #[.slice a l.length cap] w fun e w' => e = .returned (.bool (mayB l)) ∧ Below w.heap.size w w' := by
  rcases h with rfl | ⟨b, o, rfl, hb, hc⟩
  · go_enter Try.func46, Try.ntmps46
    go_wp2
    go_loopw [4] (fun i wr => i = .int .i64 0 ∧ wr = w) (fun _ _ => 0)
    case atStart => exact ⟨rfl, rfl⟩
    case round =>
      obtain ⟨rfl, rfl⟩ := hrel
      go_wp2
      go_ret
      exact ⟨rfl, Below.refl _ _⟩
  · exact rmay_some b o cap l hl w hb hc
def endI (l : List Rg) : Int := if l.length = 0 then 0 else wrap64 (posI l (l.length - 1) + sizeI l (l.length - 1))
theorem end_walk (a : Option Addr) (cap : Nat) (l : List Rg) (hl : l.length ≤ 1152921504606846976) (w : World) (h : Regs w a l) :
    Calls Try.prog 45 #[.slice a l.length cap] w fun e w' => e = .returned (.int .i64 (endI l)) ∧ Below w.heap.size w w' := by
  rcases h with rfl | ⟨b, o, rfl, hb, hc⟩
  · go_enter Try.func45, Try.ntmps45
    go_wp2
    go_ret
    exact ⟨rfl, Below.refl _ _⟩
  · by_cases h0 : l.length = 0
    · obtain rfl : l = [] := List.eq_nil_of_length_eq_zero h0
      go_enter Try.func45, Try.ntmps45
      go_wp2
      go_ret
      exact ⟨rfl, Below.refl _ _⟩
    · obtain ⟨n, hn⟩ : ∃ n, l.length = n + 1 := ⟨l.length - 1, by omega⟩
      rw [show endI l = wrap64 (posI l n + sizeI l n) by unfold endI; rw [if_neg h0, hn]; rfl]
      obtain ⟨c1, c2, c3⟩ := hc.1 n (by omega)
      have HN : Hid (l.length = n + 1) := hn
      rw [hn] at hl ⊢
      clear hn h0 hc
      go_enter Try.func45, Try.ntmps45
      go_wp2
      refine bodyPost_ret (results_tmp rfl _ _ _) rfl ?_
      exact ⟨rfl, (Below.refl _ w).alloc (Nat.le_refl _) _⟩
def endG (l : List Rg) : Int := if mayB l = true then endI l else 0
theorem End_walk (a : Option Addr) (cap : Nat) (l : List Rg) (hl : l.length ≤ 1152921504606846976) (w : World) (h : Regs w a l) :
    Calls Try.prog 32 #[.slice a l.length cap] w fun e w' => e = .returned (.int .i64 (endG l)) ∧ Below w.heap.size w w' := by
  obtain ⟨m, hm⟩ : ∃ m, mayB l = m := ⟨_, rfl⟩
  obtain ⟨x, hx⟩ : ∃ x, endI l = x := ⟨_, rfl⟩
  have k1 := fun w h => may_walk a cap l hl w h
  have k2 := fun w h => end_walk a cap l hl w h
  have HR : Hid (Regs w a l) := h
  simp only [endG]
  rw [hm, hx]
  simp only [hm] at k1
  simp only [hx] at k2
  clear hm hx h
  generalize l.length = n at *
  cases m with
  | false =>
    go_enter Try.func32, Try.ntmps32
    go_wp2_with (go_at_call 36; refine (k1 _ HR.out).mono ?_; clear k1; rintro e w1 ⟨rfl, hb1⟩)
    go_ret
    exact ⟨rfl, hb1⟩
  | true =>
    go_enter Try.func32, Try.ntmps32
    go_wp2_with (first
      | (go_at_call 36; refine (k1 _ HR.out).mono ?_; clear k1; rintro e w1 ⟨rfl, hb1⟩)
      | (go_at_call 45; refine (k2 _ (HR.out.on hb1)).mono ?_; clear k2; rintro e w2 ⟨rfl, hb2⟩))
    go_ret
    exact ⟨rfl, hb1.trans (hb2.mono hb1.size)⟩
theorem rEnd_walk (a : Option Addr) (cap : Nat) (l : List Rg) (hl : l.length ≤ 1152921504606846976) (w : World) (h : Regs w a l) :
    Calls Try.prog 35 #[.slice a l.length cap] w fun e w' => e = .returned (.int .i64 (endG l)) ∧ Below w.heap.size w w' := by
  obtain ⟨m, hm⟩ : ∃ m, mayB l = m := ⟨_, rfl⟩
  have k1 := fun w h => rmay_walk a cap l hl w h
  simp only [endG]
  rw [hm]
  simp only [hm] at k1
  have HR : Hid (Regs w a l) := h
  cases m with
  | false =>
    clear hm h
    go_enter Try.func35, Try.ntmps35
    go_wp2_with (go_at_call 46; refine (k1 _ HR.out).mono ?_; clear k1; rintro e w1 ⟨rfl, hb1⟩)
    go_ret
    exact ⟨rfl, hb1⟩
  | true =>
    clear hm
    by_cases h0 : l.length = 0
    · obtain rfl : l = [] := List.eq_nil_of_length_eq_zero h0
      clear h h0
      go_enter Try.func35, Try.ntmps35
      go_wp2_with (go_at_call 46; refine (k1 _ HR.out).mono ?_; clear k1; rintro e w1 ⟨rfl, hb1⟩)
      go_ret
      exact ⟨rfl, hb1⟩
    · rcases h with rfl | ⟨b, o, rfl, hb, hc⟩
      · exact absurd rfl h0
      obtain ⟨n, hn⟩ : ∃ n, l.length = n + 1 := ⟨l.length - 1, by omega⟩
      rw [show endI l = wrap64 (posI l n + sizeI l n) by unfold endI; rw [if_neg h0, hn]; rfl]
      have HC : Hid (Cells w b o l) := hc
      have HN : Hid (l.length = n + 1) := hn
      rw [hn] at hl k1 ⊢
      clear hn h0 hc
      go_enter Try.func35, Try.ntmps35
      go_wp2_with (go_at_call 46; refine (k1 _ HR.out).mono ?_; clear k1; rintro e w1 ⟨rfl, hb1⟩; obtain ⟨c1, c2, c3⟩ := (HC.out.below hb1 hb).1 n (by rw [HN.out]; omega))
      go_quiet (fail)
      go_wp2
      go_ret
      exact ⟨rfl, Go.below_drewN hb1 _⟩
end Go.Proofs.Ytmefkfilclkgeaa.bound
