import Derived.Test.YtkldmbgeldgfhaaGreatDoorTru
namespace Go.Proofs.YtkldmbgeldgfhaaGreatDoor.trunc
open Go.ChangeShapes Go.WideShapes Go.ChangeAt Go.RowKit
set_option linter.unusedVariables false
theorem pair_new (w : World) (a b : Int) (t : TypeId) : Pair (w.alloc (Obj.cells #[.int .i64 a, .int .i64 b] t)) w.heap.size a b := by
  have hb : (w.alloc (Obj.cells #[.int .i64 a, .int .i64 b] t)).heap[w.heap.size]? = some (.cells #[.int .i64 a, .int .i64 b] t (0, 0)) := heap_alloc_new w _
  exact ⟨by rw [cell_of_row _ _ 0 _ _ _ hb]; rfl, by rw [cell_of_row _ _ 1 _ _ _ hb]; rfl⟩
def reckI (m n b : Int) : Int × Bool :=
  if m = 0 then (n, true) else if m = 43 then (if 4611686018427387904 - b < n then (0, false) else (b + n, true)) else if m = 45 then (max 0 (b - n), true) else if m = 60 then (min b n, true) else if m = 62 then (max b n, true)
  else if m = 47 then (if n < 1 then (0, false) else (b - b % n, true)) else if m = 37 then upI b n else (0, false)
theorem reck_walk (m n b : Int) (hn : 0 ≤ n) (hn2 : n ≤ 4611686018427387904) (hb : 0 ≤ b) (hb2 : b ≤ 4611686018427387904) (w : World) :
    Calls Tryz.prog 43 #[.int .u8 m, .int .i64 n, .int .i64 b] w fun e w' => e = .returned (.tuple #[.int .i64 (reckI m n b).1, .bool (reckI m n b).2]) ∧ Below w.heap.size w w' := by
  by_cases m0 : m = 0
  · subst m0
    have e : reckI 0 n b = (n, true) := by simp [reckI]
    rw [e]
    clear e
    go_enter Tryz.func43, Tryz.ntmps43
    go_wp2
    go_ret2
    exact ⟨rfl, Below.refl _ _⟩
  by_cases m43 : m = 43
  · subst m43
    by_cases q : 4611686018427387904 - b < n
    · have e : reckI 43 n b = (0, false) := by simp [reckI, q]
      rw [e]
      clear e
      go_enter Tryz.func43, Tryz.ntmps43
      go_wp2_with ((go_at_call 90; refine (add_no _ _ _ ⟨hb, hb2⟩ ⟨hn, hn2⟩ q _ (pair_new _ _ _ _)).mono ?_; rintro e w1 ⟨rfl, rfl⟩))
      go_ret2
      exact ⟨rfl, (Below.refl _ w).alloc (Nat.le_refl _) _⟩
    · replace q : n ≤ 4611686018427387904 - b := by omega
      have e : reckI 43 n b = (b + n, true) := by simp [reckI, show ¬ (4611686018427387904 - b < n) by omega]
      rw [e]
      clear e
      go_enter Tryz.func43, Tryz.ntmps43
      go_wp2_with ((go_at_call 90; refine (add_yes _ _ _ ⟨hb, hb2⟩ ⟨hn, hn2⟩ q _ (pair_new _ _ _ _)).mono ?_; rintro e w1 ⟨rfl, rfl⟩))
      go_ret2
      exact ⟨rfl, (Below.refl _ w).alloc (Nat.le_refl _) _⟩
  by_cases m45 : m = 45
  · subst m45
    have e : reckI 45 n b = (max 0 (b - n), true) := by simp [reckI]
    rw [e]
    clear e
    go_enter Tryz.func43, Tryz.ntmps43
    go_wp2
    all_goals go_ret2
    all_goals first
      | exact ⟨by rw [show max 0 (b - n) = b - n by omega]; rfl, Below.refl _ _⟩
      | exact ⟨by rw [show max 0 (b - n) = 0 by omega]; rfl, Below.refl _ _⟩
  by_cases m60 : m = 60
  · subst m60
    have e : reckI 60 n b = (min b n, true) := by simp [reckI]
    rw [e]
    clear e
    go_enter Tryz.func43, Tryz.ntmps43
    go_wp2
    all_goals go_ret2
    all_goals first
      | exact ⟨by rw [show min b n = b by omega]; rfl, Below.refl _ _⟩
      | exact ⟨by rw [show min b n = n by omega]; rfl, Below.refl _ _⟩
  by_cases m62 : m = 62
  · subst m62
    have e : reckI 62 n b = (max b n, true) := by simp [reckI]
    rw [e]
    clear e
    go_enter Tryz.func43, Tryz.ntmps43
    go_wp2
    all_goals go_ret2
    all_goals first
      | exact ⟨by rw [show max b n = b by omega]; rfl, Below.refl _ _⟩
      | exact ⟨by rw [show max b n = n by omega]; rfl, Below.refl _ _⟩
  by_cases m47 : m = 47
  · subst m47
    by_cases q : n < 1
    · have q2 : decide (n > 0) = false := by simp; omega
      have e : reckI 47 n b = (0, false) := by simp [reckI, q]
      rw [e]
      clear e
      go_enter Tryz.func43, Tryz.ntmps43
      go_wp2_with ((go_at_call 91; refine (down_no _ _ hb hb2 q _).mono ?_; rintro e w1 ⟨rfl, rfl⟩))
      go_ret2
      exact ⟨rfl, Below.refl _ _⟩
    · have q1 : 1 ≤ n := by omega
      have q2 : decide (n > 0) = true := by simp; omega
      have e : reckI 47 n b = (b - b % n, true) := by simp [reckI, q]
      rw [e]
      clear e
      go_enter Tryz.func43, Tryz.ntmps43
      go_wp2_with ((go_at_call 91; refine (down_yes _ _ hb hb2 q1 hn2 _).mono ?_; rintro e w1 ⟨rfl, rfl⟩))
      go_ret2
      exact ⟨rfl, Below.refl _ _⟩
  by_cases m37 : m = 37
  · subst m37
    have e : reckI 37 n b = upI b n := by simp [reckI]
    rw [e]
    clear e
    go_enter Tryz.func43, Tryz.ntmps43
    go_wp2_with ((go_at_call 92; refine (up_walk _ _ hb hb2 hn hn2 _).mono ?_; rintro e w1 ⟨rfl, rfl⟩))
    go_ret2
    exact ⟨rfl, Below.refl _ _⟩
  have e0 : (m == 0) = false := by simpa using m0
  have e43 : (m == 43) = false := by simpa using m43
  have e45 : (m == 45) = false := by simpa using m45
  have e60 : (m == 60) = false := by simpa using m60
  have e62 : (m == 62) = false := by simpa using m62
  have e47 : (m == 47) = false := by simpa using m47
  have e37 : (m == 37) = false := by simpa using m37
  have e : reckI m n b = (0, false) := by simp [reckI, m0, m43, m45, m60, m62, m47, m37]
  rw [e]
  clear e
  go_enter Tryz.func43, Tryz.ntmps43
  go_wp2
  go_ret2
  exact ⟨rfl, Below.refl _ _⟩

def sizeI (m n b : Int) : Int × Bool := if 0 ≤ n ∧ n ≤ 4611686018427387904 ∧ 0 ≤ b ∧ b ≤ 4611686018427387904 then (if (reckI m n b).2 = true ∧ (reckI m n b).1 ≤ 1099511627776 then ((reckI m n b).1, true) else (0, false)) else (0, false)
def Size (f : FuncId) : Prop := ∀ (m n b : Int) (w : World), Calls Tryz.prog f #[.int .u8 m, .int .i64 n, .int .i64 b] w fun e w' => e = .returned (.tuple #[.int .i64 (sizeI m n b).1, .bool (sizeI m n b).2]) ∧ Below w.heap.size w w'

def mayI (n : Int) : Bool := decide (0 ≤ n ∧ n ≤ 4611686018427387904)
theorem mayI_yes {n : Int} (h : 0 ≤ n) (h2 : n ≤ 4611686018427387904) : mayI n = true := by unfold mayI; simp; omega
theorem mayI_no {n : Int} (h : n < 0 ∨ 4611686018427387904 < n) : mayI n = false := by unfold mayI; simp; omega
theorem may_any (n : Int) (w : World) : Calls Tryz.prog 42 #[.int .i64 n] w fun e w' => e = .returned (.bool (mayI n)) ∧ w' = w := by
  by_cases h : n < 0 ∨ 4611686018427387904 < n
  · rw [mayI_no h]; exact may_no n h w
  · rw [mayI_yes (by omega) (by omega)]; exact may_yes n (by omega) (by omega) w
theorem rmay_any (n : Int) (w : World) : Calls Tryz.prog 44 #[.int .i64 n] w fun e w' => e = .returned (.bool (mayI n)) ∧ w' = w := by
  by_cases h : n < 0 ∨ 4611686018427387904 < n
  · rw [mayI_no h]; exact rmay_no n h w
  · rw [mayI_yes (by omega) (by omega)]; exact rmay_yes n (by omega) (by omega) w
theorem size_walk : Size 19 := by
  intro m n b w
  by_cases h1 : n < 0 ∨ 4611686018427387904 < n
  · have e : sizeI m n b = (0, false) := by unfold sizeI; rw [if_neg (by omega)]
    have z1 : mayI n = false := mayI_no h1
    rw [e]
    clear e
    go_enter Tryz.func19, Tryz.ntmps19
    go_wp2_with ((go_at_call 42; refine (may_any _ _).mono ?_; rintro e w1 ⟨rfl, rfl⟩))
    go_ret2
    exact ⟨rfl, Below.refl _ _⟩
  have hn : 0 ≤ n := by omega
  have hn2 : n ≤ 4611686018427387904 := by omega
  have z1 : mayI n = true := mayI_yes hn hn2
  by_cases h2 : b < 0 ∨ 4611686018427387904 < b
  · have e : sizeI m n b = (0, false) := by unfold sizeI; rw [if_neg (by omega)]
    have z2 : mayI b = false := mayI_no h2
    rw [e]
    clear e
    go_enter Tryz.func19, Tryz.ntmps19
    go_wp2_with ((go_at_call 42; refine (may_any _ _).mono ?_; rintro e w1 ⟨rfl, rfl⟩))
    go_ret2
    exact ⟨rfl, Below.refl _ _⟩
  have hb : 0 ≤ b := by omega
  have hb2 : b ≤ 4611686018427387904 := by omega
  have z2 : mayI b = true := mayI_yes hb hb2
  have k := reck_walk m n b hn hn2 hb hb2
  have e0 : sizeI m n b = (if (reckI m n b).2 = true ∧ (reckI m n b).1 ≤ 1099511627776 then ((reckI m n b).1, true) else (0, false)) := by unfold sizeI; rw [if_pos ⟨hn, hn2, hb, hb2⟩]
  rw [e0]
  clear e0 h1 h2
  generalize reckI m n b = r at k ⊢
  obtain ⟨x, t⟩ := r
  cases t with
  | false =>
    rw [if_neg (by simp)]
    go_enter Tryz.func19, Tryz.ntmps19
    go_wp2_with (first | (go_at_call 42; refine (may_any _ _).mono ?_; rintro e w1 ⟨rfl, rfl⟩) | (go_at_call 43; refine (k _).mono ?_; rintro e w1 ⟨rfl, hB⟩))
    go_ret2
    exact ⟨rfl, hB⟩
  | true =>
    by_cases q : x ≤ 1099511627776
    · rw [if_pos ⟨rfl, q⟩]
      go_enter Tryz.func19, Tryz.ntmps19
      go_wp2_with (first | (go_at_call 42; refine (may_any _ _).mono ?_; rintro e w1 ⟨rfl, rfl⟩) | (go_at_call 43; refine (k _).mono ?_; rintro e w1 ⟨rfl, hB⟩))
      go_ret2
      exact ⟨rfl, hB⟩
    · rw [if_neg (by simp; omega)]
      have q : x > 1099511627776 := by omega
      go_enter Tryz.func19, Tryz.ntmps19
      go_wp2_with (first | (go_at_call 42; refine (may_any _ _).mono ?_; rintro e w1 ⟨rfl, rfl⟩) | (go_at_call 43; refine (k _).mono ?_; rintro e w1 ⟨rfl, hB⟩))
      go_ret2
      exact ⟨rfl, hB⟩
theorem rsize_walk : Size 20 := by
  intro m n b w
  by_cases h1 : n < 0 ∨ 4611686018427387904 < n
  · have e : sizeI m n b = (0, false) := by unfold sizeI; rw [if_neg (by omega)]
    have z1 : mayI n = false := mayI_no h1
    rw [e]
    clear e
    go_enter Tryz.func20, Tryz.ntmps20
    go_wp2_with ((go_at_call 44; refine (rmay_any _ _).mono ?_; rintro e w1 ⟨rfl, rfl⟩))
    go_ret2
    exact ⟨rfl, Below.refl _ _⟩
  have hn : 0 ≤ n := by omega
  have hn2 : n ≤ 4611686018427387904 := by omega
  have z1 : mayI n = true := mayI_yes hn hn2
  by_cases h2 : b < 0 ∨ 4611686018427387904 < b
  · have e : sizeI m n b = (0, false) := by unfold sizeI; rw [if_neg (by omega)]
    have z2 : mayI b = false := mayI_no h2
    rw [e]
    clear e
    go_enter Tryz.func20, Tryz.ntmps20
    go_wp2_with ((go_at_call 44; refine (rmay_any _ _).mono ?_; rintro e w1 ⟨rfl, rfl⟩))
    go_ret2
    exact ⟨rfl, Below.refl _ _⟩
  have hb : 0 ≤ b := by omega
  have hb2 : b ≤ 4611686018427387904 := by omega
  have z2 : mayI b = true := mayI_yes hb hb2
  by_cases m0 : m = 0
  · subst m0
    by_cases z : n ≤ 1099511627776
    · have e : sizeI 0 n b = (n, true) := by
        unfold sizeI
        rw [if_pos ⟨hn, hn2, hb, hb2⟩, (show reckI 0 n b = (n, true) by simp [reckI]), if_pos ⟨rfl, z⟩]
      rw [e]
      clear e
      go_enter Tryz.func20, Tryz.ntmps20
      go_wp2_with ((go_at_call 44; refine (rmay_any _ _).mono ?_; rintro e w1 ⟨rfl, rfl⟩))
      all_goals go_ret2
      exact ⟨rfl, Below.refl _ _⟩
    · have z : 1099511627776 < n := by omega
      have e : sizeI 0 n b = (0, false) := by
        unfold sizeI
        rw [if_pos ⟨hn, hn2, hb, hb2⟩, (show reckI 0 n b = (n, true) by simp [reckI]), if_neg (fun q => by have q2 := q.2; simp only at q2; omega)]
      rw [e]
      clear e
      go_enter Tryz.func20, Tryz.ntmps20
      go_wp2_with ((go_at_call 44; refine (rmay_any _ _).mono ?_; rintro e w1 ⟨rfl, rfl⟩))
      all_goals go_ret2
      exact ⟨rfl, Below.refl _ _⟩
  by_cases m43 : m = 43
  · subst m43
    by_cases q : 4611686018427387904 - b < n
    · have e : sizeI 43 n b = (0, false) := by
        unfold sizeI
        rw [if_pos ⟨hn, hn2, hb, hb2⟩, (show reckI 43 n b = (0, false) by simp [reckI, q]), if_neg (by simp)]
      rw [e]
      clear e
      go_enter Tryz.func20, Tryz.ntmps20
      go_wp2_with (first | (go_at_call 44; refine (rmay_any _ _).mono ?_; rintro e w1 ⟨rfl, rfl⟩) | (go_at_call 45; refine (radd_no _ _ _ ⟨hb, hb2⟩ ⟨hn, hn2⟩ q _ (pair_new _ _ _ _)).mono ?_; rintro e w1 ⟨rfl, rfl⟩))
      all_goals go_ret2
      exact ⟨rfl, (Below.refl _ _).alloc (Nat.le_refl _) _⟩
    · replace q : n ≤ 4611686018427387904 - b := by omega
      by_cases z : (b + n) ≤ 1099511627776
      · have e : sizeI 43 n b = (b + n, true) := by
          unfold sizeI
          rw [if_pos ⟨hn, hn2, hb, hb2⟩, (show reckI 43 n b = (b + n, true) by simp [reckI, show ¬ (4611686018427387904 - b < n) by omega]), if_pos ⟨rfl, z⟩]
        rw [e]
        clear e
        go_enter Tryz.func20, Tryz.ntmps20
        go_wp2_with (first | (go_at_call 44; refine (rmay_any _ _).mono ?_; rintro e w1 ⟨rfl, rfl⟩) | (go_at_call 45; refine (radd_yes _ _ _ ⟨hb, hb2⟩ ⟨hn, hn2⟩ q _ (pair_new _ _ _ _)).mono ?_; rintro e w1 ⟨rfl, rfl⟩))
        all_goals go_ret2
        exact ⟨rfl, (Below.refl _ _).alloc (Nat.le_refl _) _⟩
      · have z : 1099511627776 < (b + n) := by omega
        have e : sizeI 43 n b = (0, false) := by
          unfold sizeI
          rw [if_pos ⟨hn, hn2, hb, hb2⟩, (show reckI 43 n b = (b + n, true) by simp [reckI, show ¬ (4611686018427387904 - b < n) by omega]), if_neg (fun q => by have q2 := q.2; simp only at q2; omega)]
        rw [e]
        clear e
        go_enter Tryz.func20, Tryz.ntmps20
        go_wp2_with (first | (go_at_call 44; refine (rmay_any _ _).mono ?_; rintro e w1 ⟨rfl, rfl⟩) | (go_at_call 45; refine (radd_yes _ _ _ ⟨hb, hb2⟩ ⟨hn, hn2⟩ q _ (pair_new _ _ _ _)).mono ?_; rintro e w1 ⟨rfl, rfl⟩))
        all_goals go_ret2
        exact ⟨rfl, (Below.refl _ _).alloc (Nat.le_refl _) _⟩
  by_cases m45 : m = 45
  · subst m45
    by_cases z : max 0 (b - n) ≤ 1099511627776
    · have e : sizeI 45 n b = (max 0 (b - n), true) := by
        unfold sizeI
        rw [if_pos ⟨hn, hn2, hb, hb2⟩, (show reckI 45 n b = (max 0 (b - n), true) by simp [reckI]), if_pos ⟨rfl, z⟩]
      rw [e]
      clear e
      go_enter Tryz.func20, Tryz.ntmps20
      go_wp2_with ((go_at_call 44; refine (rmay_any _ _).mono ?_; rintro e w1 ⟨rfl, rfl⟩))
      all_goals go_ret2
      all_goals first
        | exact ⟨rfl, Below.refl _ _⟩
        | exact ⟨by rw [show max 0 (b - n) = b - n by omega]; rfl, Below.refl _ _⟩
        | exact ⟨by rw [show max 0 (b - n) = 0 by omega]; rfl, Below.refl _ _⟩
    · have z : 1099511627776 < max 0 (b - n) := by omega
      have e : sizeI 45 n b = (0, false) := by
        unfold sizeI
        rw [if_pos ⟨hn, hn2, hb, hb2⟩, (show reckI 45 n b = (max 0 (b - n), true) by simp [reckI]), if_neg (fun q => by have q2 := q.2; simp only at q2; omega)]
      rw [e]
      clear e
      go_enter Tryz.func20, Tryz.ntmps20
      go_wp2_with ((go_at_call 44; refine (rmay_any _ _).mono ?_; rintro e w1 ⟨rfl, rfl⟩))
      all_goals go_ret2
      all_goals first
        | exact ⟨rfl, Below.refl _ _⟩
        | exact ⟨by rw [show max 0 (b - n) = b - n by omega]; rfl, Below.refl _ _⟩
        | exact ⟨by rw [show max 0 (b - n) = 0 by omega]; rfl, Below.refl _ _⟩
  by_cases m60 : m = 60
  · subst m60
    by_cases z : min b n ≤ 1099511627776
    · have e : sizeI 60 n b = (min b n, true) := by
        unfold sizeI
        rw [if_pos ⟨hn, hn2, hb, hb2⟩, (show reckI 60 n b = (min b n, true) by simp [reckI]), if_pos ⟨rfl, z⟩]
      rw [e]
      clear e
      go_enter Tryz.func20, Tryz.ntmps20
      go_wp2_with ((go_at_call 44; refine (rmay_any _ _).mono ?_; rintro e w1 ⟨rfl, rfl⟩))
      all_goals go_ret2
      all_goals first
        | exact ⟨rfl, Below.refl _ _⟩
        | exact ⟨by rw [show min b n = b by omega]; rfl, Below.refl _ _⟩
        | exact ⟨by rw [show min b n = n by omega]; rfl, Below.refl _ _⟩
    · have z : 1099511627776 < min b n := by omega
      have e : sizeI 60 n b = (0, false) := by
        unfold sizeI
        rw [if_pos ⟨hn, hn2, hb, hb2⟩, (show reckI 60 n b = (min b n, true) by simp [reckI]), if_neg (fun q => by have q2 := q.2; simp only at q2; omega)]
      rw [e]
      clear e
      go_enter Tryz.func20, Tryz.ntmps20
      go_wp2_with ((go_at_call 44; refine (rmay_any _ _).mono ?_; rintro e w1 ⟨rfl, rfl⟩))
      all_goals go_ret2
      all_goals first
        | exact ⟨rfl, Below.refl _ _⟩
        | exact ⟨by rw [show min b n = b by omega]; rfl, Below.refl _ _⟩
        | exact ⟨by rw [show min b n = n by omega]; rfl, Below.refl _ _⟩
  by_cases m62 : m = 62
  · subst m62
    by_cases z : max b n ≤ 1099511627776
    · have e : sizeI 62 n b = (max b n, true) := by
        unfold sizeI
        rw [if_pos ⟨hn, hn2, hb, hb2⟩, (show reckI 62 n b = (max b n, true) by simp [reckI]), if_pos ⟨rfl, z⟩]
      rw [e]
      clear e
      go_enter Tryz.func20, Tryz.ntmps20
      go_wp2_with ((go_at_call 44; refine (rmay_any _ _).mono ?_; rintro e w1 ⟨rfl, rfl⟩))
      all_goals go_ret2
      all_goals first
        | exact ⟨rfl, Below.refl _ _⟩
        | exact ⟨by rw [show max b n = b by omega]; rfl, Below.refl _ _⟩
        | exact ⟨by rw [show max b n = n by omega]; rfl, Below.refl _ _⟩
    · have z : 1099511627776 < max b n := by omega
      have e : sizeI 62 n b = (0, false) := by
        unfold sizeI
        rw [if_pos ⟨hn, hn2, hb, hb2⟩, (show reckI 62 n b = (max b n, true) by simp [reckI]), if_neg (fun q => by have q2 := q.2; simp only at q2; omega)]
      rw [e]
      clear e
      go_enter Tryz.func20, Tryz.ntmps20
      go_wp2_with ((go_at_call 44; refine (rmay_any _ _).mono ?_; rintro e w1 ⟨rfl, rfl⟩))
      all_goals go_ret2
      all_goals first
        | exact ⟨rfl, Below.refl _ _⟩
        | exact ⟨by rw [show max b n = b by omega]; rfl, Below.refl _ _⟩
        | exact ⟨by rw [show max b n = n by omega]; rfl, Below.refl _ _⟩
  by_cases m47 : m = 47
  · subst m47
    by_cases q : n < 1
    · have q2 : decide (n > 0) = false := by simp; omega
      have e : sizeI 47 n b = (0, false) := by
        unfold sizeI
        rw [if_pos ⟨hn, hn2, hb, hb2⟩, (show reckI 47 n b = (0, false) by simp [reckI, q]), if_neg (by simp)]
      rw [e]
      clear e
      go_enter Tryz.func20, Tryz.ntmps20
      go_wp2_with (first | (go_at_call 44; refine (rmay_any _ _).mono ?_; rintro e w1 ⟨rfl, rfl⟩) | (go_at_call 46; refine (rdown_no _ _ hb hb2 q _).mono ?_; rintro e w1 ⟨rfl, rfl⟩))
      all_goals go_ret2
      exact ⟨rfl, Below.refl _ _⟩
    · have q1 : 1 ≤ n := by omega
      have q2 : decide (n > 0) = true := by simp; omega
      by_cases z : (b - b % n) ≤ 1099511627776
      · have e : sizeI 47 n b = (b - b % n, true) := by
          unfold sizeI
          rw [if_pos ⟨hn, hn2, hb, hb2⟩, (show reckI 47 n b = (b - b % n, true) by simp [reckI, q]), if_pos ⟨rfl, z⟩]
        rw [e]
        clear e
        go_enter Tryz.func20, Tryz.ntmps20
        go_wp2_with (first | (go_at_call 44; refine (rmay_any _ _).mono ?_; rintro e w1 ⟨rfl, rfl⟩) | (go_at_call 46; refine (rdown_yes _ _ hb hb2 q1 hn2 _).mono ?_; rintro e w1 ⟨rfl, rfl⟩))
        all_goals go_ret2
        exact ⟨rfl, Below.refl _ _⟩
      · have z : 1099511627776 < (b - b % n) := by omega
        have e : sizeI 47 n b = (0, false) := by
          unfold sizeI
          rw [if_pos ⟨hn, hn2, hb, hb2⟩, (show reckI 47 n b = (b - b % n, true) by simp [reckI, q]), if_neg (fun q => by have q2 := q.2; simp only at q2; omega)]
        rw [e]
        clear e
        go_enter Tryz.func20, Tryz.ntmps20
        go_wp2_with (first | (go_at_call 44; refine (rmay_any _ _).mono ?_; rintro e w1 ⟨rfl, rfl⟩) | (go_at_call 46; refine (rdown_yes _ _ hb hb2 q1 hn2 _).mono ?_; rintro e w1 ⟨rfl, rfl⟩))
        all_goals go_ret2
        exact ⟨rfl, Below.refl _ _⟩
  by_cases m37 : m = 37
  · subst m37
    have k := rup_walk b n hb hb2 hn hn2
    have e0 : sizeI 37 n b = (if (upI b n).2 = true ∧ (upI b n).1 ≤ 1099511627776 then ((upI b n).1, true) else (0, false)) := by unfold sizeI; rw [if_pos ⟨hn, hn2, hb, hb2⟩, (show reckI 37 n b = upI b n by simp [reckI])]
    rw [e0]
    clear e0
    generalize upI b n = r at k ⊢
    obtain ⟨x, t⟩ := r
    cases t with
    | false =>
      rw [if_neg (by simp)]
      go_enter Tryz.func20, Tryz.ntmps20
      go_wp2_with (first | (go_at_call 44; refine (rmay_any _ _).mono ?_; rintro e w1 ⟨rfl, rfl⟩) | (go_at_call 47; refine (k _).mono ?_; rintro e w1 ⟨rfl, rfl⟩))
      all_goals go_ret2
      exact ⟨rfl, Below.refl _ _⟩
    | true =>
      by_cases q : x ≤ 1099511627776
      · rw [if_pos ⟨rfl, q⟩]
        go_enter Tryz.func20, Tryz.ntmps20
        go_wp2_with (first | (go_at_call 44; refine (rmay_any _ _).mono ?_; rintro e w1 ⟨rfl, rfl⟩) | (go_at_call 47; refine (k _).mono ?_; rintro e w1 ⟨rfl, rfl⟩))
        all_goals go_ret2
        exact ⟨rfl, Below.refl _ _⟩
      · rw [if_neg (by simp; omega)]
        have q : x > 1099511627776 := by omega
        go_enter Tryz.func20, Tryz.ntmps20
        go_wp2_with (first | (go_at_call 44; refine (rmay_any _ _).mono ?_; rintro e w1 ⟨rfl, rfl⟩) | (go_at_call 47; refine (k _).mono ?_; rintro e w1 ⟨rfl, rfl⟩))
        all_goals go_ret2
        exact ⟨rfl, Below.refl _ _⟩
  have e0 : (m == 0) = false := by simpa using m0
  have e43 : (m == 43) = false := by simpa using m43
  have e45 : (m == 45) = false := by simpa using m45
  have e60 : (m == 60) = false := by simpa using m60
  have e62 : (m == 62) = false := by simpa using m62
  have e47 : (m == 47) = false := by simpa using m47
  have e37 : (m == 37) = false := by simpa using m37
  have e : sizeI m n b = (0, false) := by
    unfold sizeI
    rw [if_pos ⟨hn, hn2, hb, hb2⟩, (show reckI m n b = (0, false) by simp [reckI, m0, m43, m45, m60, m62, m47, m37]), if_neg (by simp)]
  rw [e]
  clear e
  go_enter Tryz.func20, Tryz.ntmps20
  go_wp2_with ((go_at_call 44; refine (rmay_any _ _).mono ?_; rintro e w1 ⟨rfl, rfl⟩))
  all_goals go_ret2
  exact ⟨rfl, Below.refl _ _⟩
end Go.Proofs.YtkldmbgeldgfhaaGreatDoor.trunc
