import Derived.Test.YtkldmbgeldgfhaaGreatDoorRows
import Derived.WalkKit
import Derived.ProofKit
import Derived.OpenShut
import Derived.KernelRfl
import Derived.Below
import Derived.LoopTactic
import Derived.OwnWalk
import Derived.Deep.QuietTactic
import Derived.BigQuiet
import Derived.WalkSmall
namespace Go.Proofs.YtkldmbgeldgfhaaGreatDoor.trunc
open Go.ChangeShapes Go.WideShapes Go.ChangeAt Go.RowKit
set_option linter.unusedVariables false

theorem may_yes (n : Int) (h : 0 ≤ n) (h2 : n ≤ 4611686018427387904) (w : World) :
    Calls Tryz.prog 42 #[.int .i64 n] w fun e w' => e = .returned (.bool true) ∧ w' = w := by
  go_enter Tryz.func42, Tryz.ntmps42
  go_wp2
  go_ret
  exact ⟨rfl, rfl⟩
theorem may_no (n : Int) (h : n < 0 ∨ 4611686018427387904 < n) (w : World) :
    Calls Tryz.prog 42 #[.int .i64 n] w fun e w' => e = .returned (.bool false) ∧ w' = w := by
  by_cases a1 : n < 0
  · clear h
    go_enter Tryz.func42, Tryz.ntmps42
    go_wp2
    go_ret
    exact ⟨rfl, rfl⟩
  · have a2 : 4611686018427387904 < n := by omega
    have a3 : 0 ≤ n := by omega
    have a4 : decide (n ≤ 4611686018427387904) = false := by simp; omega
    clear h a1
    go_enter Tryz.func42, Tryz.ntmps42
    go_wp2
    go_ret
    exact ⟨rfl, rfl⟩
theorem rmay_yes (n : Int) (h : 0 ≤ n) (h2 : n ≤ 4611686018427387904) (w : World) :
    Calls Tryz.prog 44 #[.int .i64 n] w fun e w' => e = .returned (.bool true) ∧ w' = w := by
  go_enter Tryz.func44, Tryz.ntmps44
  go_wp2
  go_ret
  exact ⟨rfl, rfl⟩
theorem rmay_no (n : Int) (h : n < 0 ∨ 4611686018427387904 < n) (w : World) :
    Calls Tryz.prog 44 #[.int .i64 n] w fun e w' => e = .returned (.bool false) ∧ w' = w := by
  by_cases a1 : n < 0
  · clear h
    go_enter Tryz.func44, Tryz.ntmps44
    go_wp2
    go_ret
    exact ⟨rfl, rfl⟩
  · have a2 : 4611686018427387904 < n := by omega
    have a3 : 0 ≤ n := by omega
    have a4 : decide (n ≤ 4611686018427387904) = false := by simp; omega
    clear h a1
    go_enter Tryz.func44, Tryz.ntmps44
    go_wp2
    go_ret
    exact ⟨rfl, rfl⟩

/-- two numbers at a block -/
def Pair (w : World) (x : Nat) (a b : Int) : Prop := w.cell? ⟨x, 0, none⟩ = some (.int .i64 a) ∧ w.cell? ⟨x, 1, none⟩ = some (.int .i64 b)
def at2 (a b : Int) (k : Nat) : Int := if k = 0 then a else b
theorem Pair.at {w : World} {x : Nat} {a b : Int} (h : Pair w x a b) (k : Nat) (hk : k < 2) : w.cell? ⟨x, k, none⟩ = some (.int .i64 (at2 a b k)) := by
  obtain ⟨h0, h1⟩ := h
  match k, hk with
  | 0, _ => exact h0
  | 1, _ => exact h1
theorem at2_may {a b : Int} (ha : 0 ≤ a ∧ a ≤ 4611686018427387904) (hb : 0 ≤ b ∧ b ≤ 4611686018427387904) (k : Nat) : 0 ≤ at2 a b k ∧ at2 a b k ≤ 4611686018427387904 := by
  unfold at2; split <;> assumption

theorem all_pair (a b : Int) (x : Nat) (ha : 0 ≤ a ∧ a ≤ 4611686018427387904) (hb : 0 ≤ b ∧ b ≤ 4611686018427387904) (w : World) (h : Pair w x a b) :
    Calls Tryz.prog 137 #[.slice (some ⟨x, 0, none⟩) 2 2] w fun e w' => e = .returned (.bool true) ∧ w' = w := by
  have HP : Hid (Pair w x a b) := h
  have HA : Hid (∀ k, 0 ≤ at2 a b k ∧ at2 a b k ≤ 4611686018427387904) := at2_may ha hb
  clear h ha hb
  go_enter Tryz.func137, Tryz.ntmps137
  go_wp2
  go_loopw [7] (fun i wr => wr = w ∧ ∃ k : Nat, k ≤ 2 ∧ i = .int .i64 k) (fun i _ => 2 - (intOf i).toNat)
  case atStart => exact ⟨rfl, 0, by omega, rfl⟩
  case round =>
    obtain ⟨rfl, k, hk, rfl⟩ := hrel
    by_cases hlt : k < 2
    · have c1 := HP.out.at k hlt
      obtain ⟨r1, r2⟩ := HA.out k
      go_wp2_with (go_at_call 42; refine (may_yes _ r1 r2 _).mono ?_; rintro e w1 ⟨rfl, rfl⟩)
      exact ⟨⟨by trivial, k + 1, by omega, by simp⟩, by simp [intOf]; omega⟩
    · obtain rfl : k = 2 := by omega
      go_wp2
      go_ret
      exact ⟨rfl, rfl⟩
theorem add_yes (a b : Int) (x : Nat) (ha : 0 ≤ a ∧ a ≤ 4611686018427387904) (hb : 0 ≤ b ∧ b ≤ 4611686018427387904) (hs : b ≤ 4611686018427387904 - a) (w : World) (h : Pair w x a b) :
    Calls Tryz.prog 90 #[.slice (some ⟨x, 0, none⟩) 2 2] w fun e w' => e = .returned (.tuple #[.int .i64 (a + b), .bool true]) ∧ w' = w := by
  have HP : Hid (Pair w x a b) := h
  have HA : Hid (0 ≤ a ∧ a ≤ 4611686018427387904) := ha
  have HB : Hid (0 ≤ b ∧ b ≤ 4611686018427387904) := hb
  obtain ⟨c0, c1⟩ := h
  obtain ⟨ha0, ha1⟩ := ha
  obtain ⟨hb0, hb1⟩ := hb
  go_enter Tryz.func90, Tryz.ntmps90
  go_wp2_with (go_at_call 137; refine (all_pair a b x HA.out HB.out _ HP.out).mono ?_; rintro e w1 ⟨rfl, rfl⟩)
  go_loopw [4, 12] (fun s i wr => wr = w1 ∧ ((i = .int .i64 0 ∧ s = .int .i64 0) ∨ (i = .int .i64 1 ∧ s = .int .i64 a) ∨ (i = .int .i64 2 ∧ s = .int .i64 (a + b)))) (fun _ i _ => 2 - (intOf i).toNat)
  case atStart => exact ⟨rfl, .inl ⟨rfl, rfl⟩⟩
  case round =>
    obtain ⟨rfl, ⟨rfl, rfl⟩ | ⟨rfl, rfl⟩ | ⟨rfl, rfl⟩⟩ := hrel
    · go_wp2
      exact ⟨⟨by trivial, .inr (.inl ⟨by simp, by simp⟩)⟩, by simp [intOf]⟩
    · go_wp2
      exact ⟨⟨by trivial, .inr (.inr ⟨by simp, by simp⟩)⟩, by simp [intOf]⟩
    · go_wp2
      go_ret2
      exact ⟨rfl, rfl⟩
theorem add_no (a b : Int) (x : Nat) (ha : 0 ≤ a ∧ a ≤ 4611686018427387904) (hb : 0 ≤ b ∧ b ≤ 4611686018427387904) (hs : 4611686018427387904 - a < b) (w : World) (h : Pair w x a b) :
    Calls Tryz.prog 90 #[.slice (some ⟨x, 0, none⟩) 2 2] w fun e w' => e = .returned (.tuple #[.int .i64 0, .bool false]) ∧ w' = w := by
  have HP : Hid (Pair w x a b) := h
  have HA : Hid (0 ≤ a ∧ a ≤ 4611686018427387904) := ha
  have HB : Hid (0 ≤ b ∧ b ≤ 4611686018427387904) := hb
  obtain ⟨c0, c1⟩ := h
  obtain ⟨ha0, ha1⟩ := ha
  obtain ⟨hb0, hb1⟩ := hb
  go_enter Tryz.func90, Tryz.ntmps90
  go_wp2_with (go_at_call 137; refine (all_pair a b x HA.out HB.out _ HP.out).mono ?_; rintro e w1 ⟨rfl, rfl⟩)
  go_loopw [4, 12] (fun s i wr => wr = w1 ∧ ((i = .int .i64 0 ∧ s = .int .i64 0) ∨ (i = .int .i64 1 ∧ s = .int .i64 a))) (fun _ i _ => 2 - (intOf i).toNat)
  case atStart => exact ⟨rfl, .inl ⟨rfl, rfl⟩⟩
  case round =>
    obtain ⟨rfl, ⟨rfl, rfl⟩ | ⟨rfl, rfl⟩⟩ := hrel
    · go_wp2
      exact ⟨⟨by trivial, .inr ⟨by simp, by simp⟩⟩, by simp [intOf]⟩
    · go_wp2
      go_ret2
      exact ⟨rfl, rfl⟩
theorem radd_yes (a b : Int) (x : Nat) (ha : 0 ≤ a ∧ a ≤ 4611686018427387904) (hb : 0 ≤ b ∧ b ≤ 4611686018427387904) (hs : b ≤ 4611686018427387904 - a) (w : World) (h : Pair w x a b) :
    Calls Tryz.prog 45 #[.slice (some ⟨x, 0, none⟩) 2 2] w fun e w' => e = .returned (.tuple #[.int .i64 (a + b), .bool true]) ∧ w' = w := by
  obtain ⟨c0, c1⟩ := h
  obtain ⟨ha0, ha1⟩ := ha
  obtain ⟨hb0, hb1⟩ := hb
  go_enter Tryz.func45, Tryz.ntmps45
  go_wp2
  go_loopw [4, 5] (fun s i wr => wr = w ∧ ((i = .int .i64 0 ∧ s = .int .i64 0) ∨ (i = .int .i64 1 ∧ s = .int .i64 a) ∨ (i = .int .i64 2 ∧ s = .int .i64 (a + b)))) (fun _ i _ => 2 - (intOf i).toNat)
  case atStart => exact ⟨rfl, .inl ⟨rfl, rfl⟩⟩
  case round =>
    obtain ⟨rfl, ⟨rfl, rfl⟩ | ⟨rfl, rfl⟩ | ⟨rfl, rfl⟩⟩ := hrel
    · go_wp2_with (go_at_call 44; refine (rmay_yes _ ha0 ha1 _).mono ?_; rintro e w1 ⟨rfl, rfl⟩)
      exact ⟨⟨by trivial, .inr (.inl ⟨by simp, by simp⟩)⟩, by simp [intOf]⟩
    · go_wp2_with (go_at_call 44; refine (rmay_yes _ hb0 hb1 _).mono ?_; rintro e w1 ⟨rfl, rfl⟩)
      exact ⟨⟨by trivial, .inr (.inr ⟨by simp, by simp⟩)⟩, by simp [intOf]⟩
    · go_wp2
      go_ret2
      exact ⟨rfl, rfl⟩
theorem radd_no (a b : Int) (x : Nat) (ha : 0 ≤ a ∧ a ≤ 4611686018427387904) (hb : 0 ≤ b ∧ b ≤ 4611686018427387904) (hs : 4611686018427387904 - a < b) (w : World) (h : Pair w x a b) :
    Calls Tryz.prog 45 #[.slice (some ⟨x, 0, none⟩) 2 2] w fun e w' => e = .returned (.tuple #[.int .i64 0, .bool false]) ∧ w' = w := by
  obtain ⟨c0, c1⟩ := h
  obtain ⟨ha0, ha1⟩ := ha
  obtain ⟨hb0, hb1⟩ := hb
  go_enter Tryz.func45, Tryz.ntmps45
  go_wp2
  go_loopw [4, 5] (fun s i wr => wr = w ∧ ((i = .int .i64 0 ∧ s = .int .i64 0) ∨ (i = .int .i64 1 ∧ s = .int .i64 a))) (fun _ i _ => 2 - (intOf i).toNat)
  case atStart => exact ⟨rfl, .inl ⟨rfl, rfl⟩⟩
  case round =>
    obtain ⟨rfl, ⟨rfl, rfl⟩ | ⟨rfl, rfl⟩⟩ := hrel
    · go_wp2_with (go_at_call 44; refine (rmay_yes _ ha0 ha1 _).mono ?_; rintro e w1 ⟨rfl, rfl⟩)
      exact ⟨⟨by trivial, .inr ⟨by simp, by simp⟩⟩, by simp [intOf]⟩
    · go_wp2_with (go_at_call 44; refine (rmay_yes _ hb0 hb1 _).mono ?_; rintro e w1 ⟨rfl, rfl⟩)
      go_ret2
      exact ⟨rfl, rfl⟩
theorem mod_in (n u : Int) (hn : 0 ≤ n) (hu : 0 ≤ u) : 0 ≤ n % u ∧ n % u ≤ n := by
  obtain ⟨a, rfl⟩ := Int.eq_ofNat_of_zero_le hn
  obtain ⟨b, rfl⟩ := Int.eq_ofNat_of_zero_le hu
  have := Nat.mod_le a b
  rw [← Int.natCast_emod]
  omega
theorem down_yes (n u : Int) (hn : 0 ≤ n) (hn2 : n ≤ 4611686018427387904) (hu : 1 ≤ u) (hu2 : u ≤ 4611686018427387904) (w : World) :
    Calls Tryz.prog 91 #[.int .i64 n, .int .i64 u] w fun e w' => e = .returned (.int .i64 (n - n % u)) ∧ w' = w := by
  obtain ⟨h1, h2⟩ := mod_in n u hn (by omega)
  have h3 : ¬ u = 0 := by omega
  go_enter Tryz.func91, Tryz.ntmps91
  go_wp2_with (go_at_call 42; refine (may_yes _ hn hn2 _).mono ?_; rintro e w1 ⟨rfl, rfl⟩)
  go_ret
  exact ⟨rfl, rfl⟩
theorem down_no (n u : Int) (hn : 0 ≤ n) (hn2 : n ≤ 4611686018427387904) (hu : u < 1) (w : World) :
    Calls Tryz.prog 91 #[.int .i64 n, .int .i64 u] w fun e w' => e = .returned (.int .i64 0) ∧ w' = w := by
  go_enter Tryz.func91, Tryz.ntmps91
  go_wp2_with (go_at_call 42; refine (may_yes _ hn hn2 _).mono ?_; rintro e w1 ⟨rfl, rfl⟩)
  go_ret
  exact ⟨rfl, rfl⟩
theorem rdown_yes (n u : Int) (hn : 0 ≤ n) (hn2 : n ≤ 4611686018427387904) (hu : 1 ≤ u) (hu2 : u ≤ 4611686018427387904) (w : World) :
    Calls Tryz.prog 46 #[.int .i64 n, .int .i64 u] w fun e w' => e = .returned (.int .i64 (n - n % u)) ∧ w' = w := by
  obtain ⟨h1, h2⟩ := mod_in n u hn (by omega)
  have h3 : ¬ u = 0 := by omega
  go_enter Tryz.func46, Tryz.ntmps46
  go_wp2_with (go_at_call 44; refine (rmay_yes _ hn hn2 _).mono ?_; rintro e w1 ⟨rfl, rfl⟩)
  go_ret
  exact ⟨rfl, rfl⟩
theorem rdown_no (n u : Int) (hn : 0 ≤ n) (hn2 : n ≤ 4611686018427387904) (hu : u < 1) (w : World) :
    Calls Tryz.prog 46 #[.int .i64 n, .int .i64 u] w fun e w' => e = .returned (.int .i64 0) ∧ w' = w := by
  go_enter Tryz.func46, Tryz.ntmps46
  go_wp2_with (go_at_call 44; refine (rmay_yes _ hn hn2 _).mono ?_; rintro e w1 ⟨rfl, rfl⟩)
  go_ret
  exact ⟨rfl, rfl⟩
/-- up to a multiple -/
def upI (n u : Int) : Int × Bool := if u < 1 then (0, false) else if n % u = 0 then (n, true) else if 4611686018427387904 - (n - n % u) < u then (0, false) else (n - n % u + u, true)
def Up (f : FuncId) : Prop := ∀ (n u : Int), 0 ≤ n → n ≤ 4611686018427387904 → 0 ≤ u → u ≤ 4611686018427387904 → ∀ w : World,
    Calls Tryz.prog f #[.int .i64 n, .int .i64 u] w fun e w' => e = .returned (.tuple #[.int .i64 (upI n u).1, .bool (upI n u).2]) ∧ w' = w
theorem up_walk : Up 92 := by
  intro n u hn hn2 hu hu2 w
  obtain ⟨h1, h2⟩ := mod_in n u hn hu
  by_cases q : u < 1
  · have e : upI n u = (0, false) := by unfold upI; rw [if_pos q]
    rw [e]
    clear e
    go_enter Tryz.func92, Tryz.ntmps92
    go_wp2_with (go_at_call 42; refine (may_yes _ hn hn2 _).mono ?_; rintro e w1 ⟨rfl, rfl⟩)
    go_ret2
    exact ⟨rfl, rfl⟩
  have q' : 1 ≤ u := by omega
  by_cases q2 : n % u = 0
  · have e : upI n u = (n, true) := by unfold upI; rw [if_neg q, if_pos q2]
    have d : (n - n % u == n) = true := by simp; omega
    rw [e]
    clear e
    go_enter Tryz.func92, Tryz.ntmps92
    go_wp2_with (first | (go_at_call 42; refine (may_yes _ hn hn2 _).mono ?_; rintro e w1 ⟨rfl, rfl⟩) | (go_at_call 91; refine (down_yes _ _ hn hn2 q' hu2 _).mono ?_; rintro e w1 ⟨rfl, rfl⟩))
    go_ret2
    exact ⟨rfl, rfl⟩
  have d : (n - n % u == n) = false := by simp; omega
  by_cases q3 : 4611686018427387904 - (n - n % u) < u
  · have e : upI n u = (0, false) := by unfold upI; rw [if_neg q, if_neg q2, if_pos q3]
    rw [e]
    clear e
    go_enter Tryz.func92, Tryz.ntmps92
    go_wp2_with (first | (go_at_call 42; refine (may_yes _ hn hn2 _).mono ?_; rintro e w1 ⟨rfl, rfl⟩) | (go_at_call 91; refine (down_yes _ _ hn hn2 q' hu2 _).mono ?_; rintro e w1 ⟨rfl, rfl⟩))
    go_ret2
    exact ⟨rfl, rfl⟩
  have e : upI n u = (n - n % u + u, true) := by unfold upI; rw [if_neg q, if_neg q2, if_neg q3]
  rw [e]
  clear e
  go_enter Tryz.func92, Tryz.ntmps92
  go_wp2_with (first | (go_at_call 42; refine (may_yes _ hn hn2 _).mono ?_; rintro e w1 ⟨rfl, rfl⟩) | (go_at_call 91; refine (down_yes _ _ hn hn2 q' hu2 _).mono ?_; rintro e w1 ⟨rfl, rfl⟩))
  go_ret2
  exact ⟨rfl, rfl⟩
theorem rup_walk : Up 47 := by
  intro n u hn hn2 hu hu2 w
  obtain ⟨h1, h2⟩ := mod_in n u hn hu
  by_cases q : u < 1
  · have e : upI n u = (0, false) := by unfold upI; rw [if_pos q]
    rw [e]
    clear e
    go_enter Tryz.func47, Tryz.ntmps47
    go_wp2_with (go_at_call 44; refine (rmay_yes _ hn hn2 _).mono ?_; rintro e w1 ⟨rfl, rfl⟩)
    go_ret2
    exact ⟨rfl, rfl⟩
  have q' : 1 ≤ u := by omega
  have h3 : ¬ u = 0 := by omega
  have h4 : n % u < u := Int.emod_lt_of_pos _ (by omega)
  by_cases q2 : n % u = 0
  · have e : upI n u = (n, true) := by unfold upI; rw [if_neg q, if_pos q2]
    have d : (n % u == 0) = true := by simp; omega
    rw [e]
    clear e
    go_enter Tryz.func47, Tryz.ntmps47
    go_wp2_with (go_at_call 44; refine (rmay_yes _ hn hn2 _).mono ?_; rintro e w1 ⟨rfl, rfl⟩)
    go_ret2
    exact ⟨rfl, rfl⟩
  have d : (n % u == 0) = false := by simp; omega
  by_cases q3 : 4611686018427387904 - (n - n % u) < u
  · have e : upI n u = (0, false) := by unfold upI; rw [if_neg q, if_neg q2, if_pos q3]
    have q4 : 4611686018427387904 - n < u - n % u := by omega
    rw [e]
    clear e
    go_enter Tryz.func47, Tryz.ntmps47
    go_wp2_with (go_at_call 44; refine (rmay_yes _ hn hn2 _).mono ?_; rintro e w1 ⟨rfl, rfl⟩)
    go_ret2
    exact ⟨rfl, rfl⟩
  have e : upI n u = (n + (u - n % u), true) := by unfold upI; rw [if_neg q, if_neg q2, if_neg q3, show n - n % u + u = n + (u - n % u) by omega]
  have q4 : ¬ (4611686018427387904 - n < u - n % u) := by omega
  rw [e]
  clear e
  go_enter Tryz.func47, Tryz.ntmps47
  go_wp2_with (go_at_call 44; refine (rmay_yes _ hn hn2 _).mono ?_; rintro e w1 ⟨rfl, rfl⟩)
  go_ret2
  exact ⟨rfl, rfl⟩
end Go.Proofs.YtkldmbgeldgfhaaGreatDoor.trunc
