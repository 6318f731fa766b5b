/- The evaluator's tries and lists, and how its values and heaps stand to the machine's. -/
import Derived.Test.YthloojeefdjpjaaGreatDoorAb
import Derived.Below
import Derived.Orders
import Derived.Laws.Cells
import Derived.Laws.IdiomCopy
import Derived.ChangeKeysEq
namespace Go.Proofs.YthloojeefdjpjaaGreatDoor
open Go Go.RowKit
set_option linter.unusedVariables false
set_option linter.unusedSimpArgs false

/-! ### Tries -/
namespace Tr
variable {α : Type}
@[simp] theorem force_eq {β : Type} (t : Tr α) (f : Tr α → β) : t.force f = f t := by cases t <;> rfl
def getN : Nat → Tr α → Nat → Option α
  | 0, _, _ => none
  | n + 1, t, k => Tr.casesOn t none fun v l r => Bool.casesOn (Nat.beq k 0) (Bool.casesOn (Nat.beq (Nat.mod k 2) 1) (getN n r (Nat.pred (Nat.div k 2))) (getN n l (Nat.div k 2))) v
def setN (x : α) : Nat → Nat → Tr α → Tr α
  | 0, _, t => t
  | n + 1, k, t => Tr.casesOn t
    (Bool.casesOn (Nat.beq k 0) (Bool.casesOn (Nat.beq (Nat.mod k 2) 1) (Tr.casesOn (setN x n (Nat.pred (Nat.div k 2)) .nil) (.node none .nil .nil) fun a b c => .node none .nil (.node a b c)) (Tr.casesOn (setN x n (Nat.div k 2) .nil) (.node none .nil .nil) fun a b c => .node none (.node a b c) .nil)) (.node (some x) .nil .nil))
    fun v l r => Bool.casesOn (Nat.beq k 0) (Bool.casesOn (Nat.beq (Nat.mod k 2) 1) (Tr.casesOn (setN x n (Nat.pred (Nat.div k 2)) r) (.node v l .nil) fun a b c => .node v l (.node a b c)) (Tr.casesOn (setN x n (Nat.div k 2) l) (.node v .nil r) fun a b c => .node v (.node a b c) r)) (.node (some x) l r)
theorem g_0 : @get0 α = getN 0 := rfl
theorem g_1 : @get1 α = getN 1 := by funext t k; unfold get1; rw [g_0]; cases t <;> rfl
theorem g_2 : @get2 α = getN 2 := by funext t k; unfold get2; rw [g_1]; cases t <;> rfl
theorem g_3 : @get3 α = getN 3 := by funext t k; unfold get3; rw [g_2]; cases t <;> rfl
theorem g_4 : @get4 α = getN 4 := by funext t k; unfold get4; rw [g_3]; cases t <;> rfl
theorem g_5 : @get5 α = getN 5 := by funext t k; unfold get5; rw [g_4]; cases t <;> rfl
theorem g_6 : @get6 α = getN 6 := by funext t k; unfold get6; rw [g_5]; cases t <;> rfl
theorem g_7 : @get7 α = getN 7 := by funext t k; unfold get7; rw [g_6]; cases t <;> rfl
theorem g_8 : @get8 α = getN 8 := by funext t k; unfold get8; rw [g_7]; cases t <;> rfl
theorem g_9 : @get9 α = getN 9 := by funext t k; unfold get9; rw [g_8]; cases t <;> rfl
theorem g_10 : @get10 α = getN 10 := by funext t k; unfold get10; rw [g_9]; cases t <;> rfl
theorem g_11 : @get11 α = getN 11 := by funext t k; unfold get11; rw [g_10]; cases t <;> rfl
theorem g_12 : @get12 α = getN 12 := by funext t k; unfold get12; rw [g_11]; cases t <;> rfl
theorem g_13 : @get13 α = getN 13 := by funext t k; unfold get13; rw [g_12]; cases t <;> rfl
theorem g_14 : @get14 α = getN 14 := by funext t k; unfold get14; rw [g_13]; cases t <;> rfl
theorem g_15 : @get15 α = getN 15 := by funext t k; unfold get15; rw [g_14]; cases t <;> rfl
theorem g_16 : @get16 α = getN 16 := by funext t k; unfold get16; rw [g_15]; cases t <;> rfl
theorem g_17 : @get17 α = getN 17 := by funext t k; unfold get17; rw [g_16]; cases t <;> rfl
theorem g_18 : @get18 α = getN 18 := by funext t k; unfold get18; rw [g_17]; cases t <;> rfl
theorem g_19 : @get19 α = getN 19 := by funext t k; unfold get19; rw [g_18]; cases t <;> rfl
theorem g_20 : @get20 α = getN 20 := by funext t k; unfold get20; rw [g_19]; cases t <;> rfl
theorem g_21 : @get21 α = getN 21 := by funext t k; unfold get21; rw [g_20]; cases t <;> rfl
theorem g_22 : @get22 α = getN 22 := by funext t k; unfold get22; rw [g_21]; cases t <;> rfl
theorem g_23 : @get23 α = getN 23 := by funext t k; unfold get23; rw [g_22]; cases t <;> rfl
theorem g_24 : @get24 α = getN 24 := by funext t k; unfold get24; rw [g_23]; cases t <;> rfl
theorem g_25 : @get25 α = getN 25 := by funext t k; unfold get25; rw [g_24]; cases t <;> rfl
theorem g_26 : @get26 α = getN 26 := by funext t k; unfold get26; rw [g_25]; cases t <;> rfl
theorem g_27 : @get27 α = getN 27 := by funext t k; unfold get27; rw [g_26]; cases t <;> rfl
theorem g_28 : @get28 α = getN 28 := by funext t k; unfold get28; rw [g_27]; cases t <;> rfl
theorem g_29 : @get29 α = getN 29 := by funext t k; unfold get29; rw [g_28]; cases t <;> rfl
theorem g_30 : @get30 α = getN 30 := by funext t k; unfold get30; rw [g_29]; cases t <;> rfl
theorem g_31 : @get31 α = getN 31 := by funext t k; unfold get31; rw [g_30]; cases t <;> rfl
theorem g_32 : @get32 α = getN 32 := by funext t k; unfold get32; rw [g_31]; cases t <;> rfl
theorem g_33 : @get33 α = getN 33 := by funext t k; unfold get33; rw [g_32]; cases t <;> rfl
theorem g_34 : @get34 α = getN 34 := by funext t k; unfold get34; rw [g_33]; cases t <;> rfl
theorem g_35 : @get35 α = getN 35 := by funext t k; unfold get35; rw [g_34]; cases t <;> rfl
theorem g_36 : @get36 α = getN 36 := by funext t k; unfold get36; rw [g_35]; cases t <;> rfl
theorem g_37 : @get37 α = getN 37 := by funext t k; unfold get37; rw [g_36]; cases t <;> rfl
theorem g_38 : @get38 α = getN 38 := by funext t k; unfold get38; rw [g_37]; cases t <;> rfl
theorem g_39 : @get39 α = getN 39 := by funext t k; unfold get39; rw [g_38]; cases t <;> rfl
theorem g_40 : @get40 α = getN 40 := by funext t k; unfold get40; rw [g_39]; cases t <;> rfl
theorem g_41 : @get41 α = getN 41 := by funext t k; unfold get41; rw [g_40]; cases t <;> rfl
theorem g_42 : @get42 α = getN 42 := by funext t k; unfold get42; rw [g_41]; cases t <;> rfl
theorem g_43 : @get43 α = getN 43 := by funext t k; unfold get43; rw [g_42]; cases t <;> rfl
theorem g_44 : @get44 α = getN 44 := by funext t k; unfold get44; rw [g_43]; cases t <;> rfl
theorem g_45 : @get45 α = getN 45 := by funext t k; unfold get45; rw [g_44]; cases t <;> rfl
theorem g_46 : @get46 α = getN 46 := by funext t k; unfold get46; rw [g_45]; cases t <;> rfl
theorem g_47 : @get47 α = getN 47 := by funext t k; unfold get47; rw [g_46]; cases t <;> rfl
theorem g_48 : @get48 α = getN 48 := by funext t k; unfold get48; rw [g_47]; cases t <;> rfl
theorem g_49 : @get49 α = getN 49 := by funext t k; unfold get49; rw [g_48]; cases t <;> rfl
theorem g_50 : @get50 α = getN 50 := by funext t k; unfold get50; rw [g_49]; cases t <;> rfl
theorem g_51 : @get51 α = getN 51 := by funext t k; unfold get51; rw [g_50]; cases t <;> rfl
theorem g_52 : @get52 α = getN 52 := by funext t k; unfold get52; rw [g_51]; cases t <;> rfl
theorem g_53 : @get53 α = getN 53 := by funext t k; unfold get53; rw [g_52]; cases t <;> rfl
theorem g_54 : @get54 α = getN 54 := by funext t k; unfold get54; rw [g_53]; cases t <;> rfl
theorem g_55 : @get55 α = getN 55 := by funext t k; unfold get55; rw [g_54]; cases t <;> rfl
theorem g_56 : @get56 α = getN 56 := by funext t k; unfold get56; rw [g_55]; cases t <;> rfl
theorem g_57 : @get57 α = getN 57 := by funext t k; unfold get57; rw [g_56]; cases t <;> rfl
theorem g_58 : @get58 α = getN 58 := by funext t k; unfold get58; rw [g_57]; cases t <;> rfl
theorem g_59 : @get59 α = getN 59 := by funext t k; unfold get59; rw [g_58]; cases t <;> rfl
theorem g_60 : @get60 α = getN 60 := by funext t k; unfold get60; rw [g_59]; cases t <;> rfl
theorem g_61 : @get61 α = getN 61 := by funext t k; unfold get61; rw [g_60]; cases t <;> rfl
theorem g_62 : @get62 α = getN 62 := by funext t k; unfold get62; rw [g_61]; cases t <;> rfl
theorem g_63 : @get63 α = getN 63 := by funext t k; unfold get63; rw [g_62]; cases t <;> rfl
theorem g_64 : @get64 α = getN 64 := by funext t k; unfold get64; rw [g_63]; cases t <;> rfl
theorem s_1 (x : α) : set1 x = setN x 1 := by funext k t; unfold set1; rw [show set0 x = setN x 0 from rfl]; cases t <;> rfl
theorem s_2 (x : α) : set2 x = setN x 2 := by funext k t; unfold set2; rw [s_1]; cases t <;> rfl
theorem s_3 (x : α) : set3 x = setN x 3 := by funext k t; unfold set3; rw [s_2]; cases t <;> rfl
theorem s_4 (x : α) : set4 x = setN x 4 := by funext k t; unfold set4; rw [s_3]; cases t <;> rfl
theorem s_5 (x : α) : set5 x = setN x 5 := by funext k t; unfold set5; rw [s_4]; cases t <;> rfl
theorem s_6 (x : α) : set6 x = setN x 6 := by funext k t; unfold set6; rw [s_5]; cases t <;> rfl
theorem s_7 (x : α) : set7 x = setN x 7 := by funext k t; unfold set7; rw [s_6]; cases t <;> rfl
theorem s_8 (x : α) : set8 x = setN x 8 := by funext k t; unfold set8; rw [s_7]; cases t <;> rfl
theorem s_9 (x : α) : set9 x = setN x 9 := by funext k t; unfold set9; rw [s_8]; cases t <;> rfl
theorem s_10 (x : α) : set10 x = setN x 10 := by funext k t; unfold set10; rw [s_9]; cases t <;> rfl
theorem s_11 (x : α) : set11 x = setN x 11 := by funext k t; unfold set11; rw [s_10]; cases t <;> rfl
theorem s_12 (x : α) : set12 x = setN x 12 := by funext k t; unfold set12; rw [s_11]; cases t <;> rfl
theorem s_13 (x : α) : set13 x = setN x 13 := by funext k t; unfold set13; rw [s_12]; cases t <;> rfl
theorem s_14 (x : α) : set14 x = setN x 14 := by funext k t; unfold set14; rw [s_13]; cases t <;> rfl
theorem s_15 (x : α) : set15 x = setN x 15 := by funext k t; unfold set15; rw [s_14]; cases t <;> rfl
theorem s_16 (x : α) : set16 x = setN x 16 := by funext k t; unfold set16; rw [s_15]; cases t <;> rfl
theorem s_17 (x : α) : set17 x = setN x 17 := by funext k t; unfold set17; rw [s_16]; cases t <;> rfl
theorem s_18 (x : α) : set18 x = setN x 18 := by funext k t; unfold set18; rw [s_17]; cases t <;> rfl
theorem s_19 (x : α) : set19 x = setN x 19 := by funext k t; unfold set19; rw [s_18]; cases t <;> rfl
theorem s_20 (x : α) : set20 x = setN x 20 := by funext k t; unfold set20; rw [s_19]; cases t <;> rfl
theorem s_21 (x : α) : set21 x = setN x 21 := by funext k t; unfold set21; rw [s_20]; cases t <;> rfl
theorem s_22 (x : α) : set22 x = setN x 22 := by funext k t; unfold set22; rw [s_21]; cases t <;> rfl
theorem s_23 (x : α) : set23 x = setN x 23 := by funext k t; unfold set23; rw [s_22]; cases t <;> rfl
theorem s_24 (x : α) : set24 x = setN x 24 := by funext k t; unfold set24; rw [s_23]; cases t <;> rfl
theorem s_25 (x : α) : set25 x = setN x 25 := by funext k t; unfold set25; rw [s_24]; cases t <;> rfl
theorem s_26 (x : α) : set26 x = setN x 26 := by funext k t; unfold set26; rw [s_25]; cases t <;> rfl
theorem s_27 (x : α) : set27 x = setN x 27 := by funext k t; unfold set27; rw [s_26]; cases t <;> rfl
theorem s_28 (x : α) : set28 x = setN x 28 := by funext k t; unfold set28; rw [s_27]; cases t <;> rfl
theorem s_29 (x : α) : set29 x = setN x 29 := by funext k t; unfold set29; rw [s_28]; cases t <;> rfl
theorem s_30 (x : α) : set30 x = setN x 30 := by funext k t; unfold set30; rw [s_29]; cases t <;> rfl
theorem s_31 (x : α) : set31 x = setN x 31 := by funext k t; unfold set31; rw [s_30]; cases t <;> rfl
theorem s_32 (x : α) : set32 x = setN x 32 := by funext k t; unfold set32; rw [s_31]; cases t <;> rfl
theorem s_33 (x : α) : set33 x = setN x 33 := by funext k t; unfold set33; rw [s_32]; cases t <;> rfl
theorem s_34 (x : α) : set34 x = setN x 34 := by funext k t; unfold set34; rw [s_33]; cases t <;> rfl
theorem s_35 (x : α) : set35 x = setN x 35 := by funext k t; unfold set35; rw [s_34]; cases t <;> rfl
theorem s_36 (x : α) : set36 x = setN x 36 := by funext k t; unfold set36; rw [s_35]; cases t <;> rfl
theorem s_37 (x : α) : set37 x = setN x 37 := by funext k t; unfold set37; rw [s_36]; cases t <;> rfl
theorem s_38 (x : α) : set38 x = setN x 38 := by funext k t; unfold set38; rw [s_37]; cases t <;> rfl
theorem s_39 (x : α) : set39 x = setN x 39 := by funext k t; unfold set39; rw [s_38]; cases t <;> rfl
theorem s_40 (x : α) : set40 x = setN x 40 := by funext k t; unfold set40; rw [s_39]; cases t <;> rfl
theorem s_41 (x : α) : set41 x = setN x 41 := by funext k t; unfold set41; rw [s_40]; cases t <;> rfl
theorem s_42 (x : α) : set42 x = setN x 42 := by funext k t; unfold set42; rw [s_41]; cases t <;> rfl
theorem s_43 (x : α) : set43 x = setN x 43 := by funext k t; unfold set43; rw [s_42]; cases t <;> rfl
theorem s_44 (x : α) : set44 x = setN x 44 := by funext k t; unfold set44; rw [s_43]; cases t <;> rfl
theorem s_45 (x : α) : set45 x = setN x 45 := by funext k t; unfold set45; rw [s_44]; cases t <;> rfl
theorem s_46 (x : α) : set46 x = setN x 46 := by funext k t; unfold set46; rw [s_45]; cases t <;> rfl
theorem s_47 (x : α) : set47 x = setN x 47 := by funext k t; unfold set47; rw [s_46]; cases t <;> rfl
theorem s_48 (x : α) : set48 x = setN x 48 := by funext k t; unfold set48; rw [s_47]; cases t <;> rfl
theorem s_49 (x : α) : set49 x = setN x 49 := by funext k t; unfold set49; rw [s_48]; cases t <;> rfl
theorem s_50 (x : α) : set50 x = setN x 50 := by funext k t; unfold set50; rw [s_49]; cases t <;> rfl
theorem s_51 (x : α) : set51 x = setN x 51 := by funext k t; unfold set51; rw [s_50]; cases t <;> rfl
theorem s_52 (x : α) : set52 x = setN x 52 := by funext k t; unfold set52; rw [s_51]; cases t <;> rfl
theorem s_53 (x : α) : set53 x = setN x 53 := by funext k t; unfold set53; rw [s_52]; cases t <;> rfl
theorem s_54 (x : α) : set54 x = setN x 54 := by funext k t; unfold set54; rw [s_53]; cases t <;> rfl
theorem s_55 (x : α) : set55 x = setN x 55 := by funext k t; unfold set55; rw [s_54]; cases t <;> rfl
theorem s_56 (x : α) : set56 x = setN x 56 := by funext k t; unfold set56; rw [s_55]; cases t <;> rfl
theorem s_57 (x : α) : set57 x = setN x 57 := by funext k t; unfold set57; rw [s_56]; cases t <;> rfl
theorem s_58 (x : α) : set58 x = setN x 58 := by funext k t; unfold set58; rw [s_57]; cases t <;> rfl
theorem s_59 (x : α) : set59 x = setN x 59 := by funext k t; unfold set59; rw [s_58]; cases t <;> rfl
theorem s_60 (x : α) : set60 x = setN x 60 := by funext k t; unfold set60; rw [s_59]; cases t <;> rfl
theorem s_61 (x : α) : set61 x = setN x 61 := by funext k t; unfold set61; rw [s_60]; cases t <;> rfl
theorem s_62 (x : α) : set62 x = setN x 62 := by funext k t; unfold set62; rw [s_61]; cases t <;> rfl
theorem s_63 (x : α) : set63 x = setN x 63 := by funext k t; unfold set63; rw [s_62]; cases t <;> rfl
theorem s_64 (x : α) : set64 x = setN x 64 := by funext k t; unfold set64; rw [s_63]; cases t <;> rfl
theorem get_eqN (t : Tr α) (k : Nat) : t.get k = getN 64 t k := by unfold get; rw [g_64]
theorem set_eqN (n : Nat) (t : Tr α) (k : Nat) (x : α) : t.set n k x = setN x 64 k t := by unfold set; rw [s_64]
theorem beq_no {k j : Nat} (h : ¬ k = j) : Nat.beq k j = false := by rw [Bool.eq_false_iff]; intro e; exact h (Nat.eq_of_beq_eq_true e)
theorem getN_nil (n k : Nat) : getN n (nil : Tr α) k = none := by cases n <;> rfl
theorem getN_node (n : Nat) (v : Option α) (l r : Tr α) (k : Nat) : getN (n + 1) (node v l r) k = if k = 0 then v else if k % 2 = 1 then getN n l (k / 2) else getN n r (k / 2 - 1) := by
  show (Bool.casesOn (Nat.beq k 0) (Bool.casesOn (Nat.beq (Nat.mod k 2) 1) (getN n r (Nat.pred (Nat.div k 2))) (getN n l (Nat.div k 2))) v : Option α) = _
  by_cases h : k = 0
  · subst h; rfl
  · rw [beq_no h, if_neg h]
    show (Bool.casesOn (Nat.beq (k % 2) 1) (getN n r (k / 2 - 1)) (getN n l (k / 2)) : Option α) = _
    by_cases h2 : k % 2 = 1
    · rw [h2, if_pos rfl]; rfl
    · rw [beq_no h2, if_neg h2]
theorem get_nil (k : Nat) : (nil : Tr α).get k = none := rfl
theorem setN_eq (n : Nat) (t : Tr α) (k : Nat) (x : α) : setN x (n + 1) k t =
    match t with
    | .nil => if k = 0 then .node (some x) .nil .nil else if k % 2 = 1 then .node none (setN x n (k / 2) .nil) .nil else .node none .nil (setN x n (k / 2 - 1) .nil)
    | .node v l r => if k = 0 then .node (some x) l r else if k % 2 = 1 then .node v (setN x n (k / 2) l) r else .node v l (setN x n (k / 2 - 1) r) := by
  have q : ∀ (v : Option α) (l u : Tr α), (Tr.casesOn u (.node v l .nil) fun a b c => .node v l (.node a b c) : Tr α) = .node v l u := fun v l u => by cases u <;> rfl
  have q' : ∀ (v : Option α) (r u : Tr α), (Tr.casesOn u (.node v .nil r) fun a b c => .node v (.node a b c) r : Tr α) = .node v u r := fun v r u => by cases u <;> rfl
  cases t with
  | nil =>
    show (Bool.casesOn (Nat.beq k 0) (Bool.casesOn (Nat.beq (k % 2) 1) (Tr.casesOn (setN x n (k / 2 - 1) .nil) (.node none .nil .nil) fun a b c => .node none .nil (.node a b c)) (Tr.casesOn (setN x n (k / 2) .nil) (.node none .nil .nil) fun a b c => .node none (.node a b c) .nil)) (.node (some x) .nil .nil) : Tr α) = if k = 0 then .node (some x) .nil .nil else if k % 2 = 1 then .node none (setN x n (k / 2) .nil) .nil else .node none .nil (setN x n (k / 2 - 1) .nil)
    rw [q, q']
    by_cases h : k = 0
    · subst h; rfl
    · rw [beq_no h, if_neg h]
      by_cases h2 : k % 2 = 1
      · rw [h2, if_pos rfl]; rfl
      · rw [beq_no h2, if_neg h2]
  | node v l r =>
    show (Bool.casesOn (Nat.beq k 0) (Bool.casesOn (Nat.beq (k % 2) 1) (Tr.casesOn (setN x n (k / 2 - 1) r) (.node v l .nil) fun a b c => .node v l (.node a b c)) (Tr.casesOn (setN x n (k / 2) l) (.node v .nil r) fun a b c => .node v (.node a b c) r)) (.node (some x) l r) : Tr α) = if k = 0 then .node (some x) l r else if k % 2 = 1 then .node v (setN x n (k / 2) l) r else .node v l (setN x n (k / 2 - 1) r)
    rw [q, q']
    by_cases h : k = 0
    · subst h; rfl
    · rw [beq_no h, if_neg h]
      by_cases h2 : k % 2 = 1
      · rw [h2, if_pos rfl]; rfl
      · rw [beq_no h2, if_neg h2]
theorem getN_setN (n : Nat) : ∀ (t : Tr α) (k j : Nat) (x : α), k + 1 < 2 ^ n → getN n (setN x n k t) j = if j = k then some x else getN n t j := by
  induction n with
  | zero => intro t k j x h; simp at h
  | succ n ih =>
    intro t k j x h
    have hp : 2 ^ (n + 1) = 2 * 2 ^ n := by rw [Nat.pow_succ]; omega
    rw [setN_eq]
    have go : ∀ (v : Option α) (l r : Tr α),
        getN (n + 1) (if k = 0 then Tr.node (some x) l r else if k % 2 = 1 then .node v (setN x n (k / 2) l) r else .node v l (setN x n (k / 2 - 1) r)) j =
          if j = k then some x else getN (n + 1) (Tr.node v l r) j := by
      intro v l r
      by_cases h0 : k = 0
      · rw [if_pos h0]; subst h0
        rw [getN_node, getN_node]
        by_cases hj : j = 0
        · rw [if_pos hj, if_pos hj]
        · rw [if_neg hj, if_neg hj, if_neg hj]
      · rw [if_neg h0]
        by_cases h1 : k % 2 = 1
        · rw [if_pos h1, getN_node, getN_node]
          by_cases hj : j = 0
          · rw [if_pos hj, if_pos hj, if_neg (by omega)]
          · rw [if_neg hj, if_neg hj]
            by_cases hj1 : j % 2 = 1
            · rw [if_pos hj1, if_pos hj1, ih _ _ _ _ (by omega)]
              by_cases e : j = k
              · subst e; rw [if_pos rfl, if_pos rfl]
              · rw [if_neg e, if_neg (by omega)]
            · rw [if_neg hj1, if_neg hj1, if_neg (by intro e; subst e; exact hj1 h1)]
        · rw [if_neg h1, getN_node, getN_node]
          by_cases hj : j = 0
          · rw [if_pos hj, if_pos hj, if_neg (by omega)]
          · rw [if_neg hj, if_neg hj]
            by_cases hj1 : j % 2 = 1
            · rw [if_pos hj1, if_pos hj1, if_neg (by intro e; subst e; exact h1 hj1)]
            · rw [if_neg hj1, if_neg hj1, ih _ _ _ _ (by omega)]
              by_cases e : j = k
              · subst e; rw [if_pos rfl, if_pos rfl]
              · rw [if_neg e, if_neg (by omega)]
    cases t with
    | nil =>
      have := go none .nil .nil
      rw [getN_node] at this
      simp only [getN_nil, ite_self] at this
      simpa only [getN_nil] using this
    | node v l r => exact go v l r
theorem get_set (n : Nat) (t : Tr α) (k j : Nat) (x : α) (h : k + 1 < 2 ^ 64) : (t.set n k x).get j = if j = k then some x else t.get j := by
  rw [get_eqN, set_eqN, get_eqN]
  exact getN_setN 64 t k j x h
theorem get_ofList : ∀ (l : List α) (k : Nat) (t : Tr α) (j : Nat), k + l.length < 2 ^ 12 →
    (ofList l k t).get j = if k ≤ j ∧ j < k + l.length then l[j - k]? else t.get j := by
  intro l
  induction l with
  | nil => intro k t j _; simp only [ofList, List.length_nil]; rw [if_neg (by omega)]
  | cons x l ih =>
    intro k t j h
    simp only [List.length_cons] at h
    simp only [ofList]
    rw [ih (k + 1) _ j (by omega), get_set _ _ _ _ _ (by omega)]
    simp only [List.length_cons]
    by_cases h1 : k + 1 ≤ j ∧ j < k + 1 + l.length
    · rw [if_pos h1, if_pos (by omega)]
      obtain ⟨d, rfl⟩ : ∃ d, j = k + 1 + d := ⟨j - (k + 1), by omega⟩
      rw [show k + 1 + d - (k + 1) = d from by omega, show k + 1 + d - k = d + 1 from by omega]
      rfl
    · rw [if_neg h1]
      by_cases h2 : j = k
      · subst h2; rw [if_pos rfl, if_pos (by omega)]; simp
      · rw [if_neg h2, if_neg (by omega)]
end Tr
theorem Hp.get_put {h : Hp} {b j : Nat} {x : Blk} (hb : b < 9223372036854775808) : (h.put b x).get j = if j = b then some x else h.get j := by
  rw [Hp.put_eq]
  unfold Hp.get
  rw [Tr.force_eq]
  exact Tr.get_set 24 _ _ _ _ (by omega)
theorem Hp.put_next {h : Hp} {b : Nat} {x : Blk} : (h.put b x).next = h.next := by rw [Hp.put_eq, Tr.force_eq]
theorem Hp.new_some {h h' : Hp} {b : Nat} {x : Blk} (e : h.new x = some (b, h')) : b = h.next ∧ h'.next = h.next + 1 ∧ h.next < 9223372036854775808 ∧ ∀ j, h'.get j = if j = h.next then some x else h.get j := by
  rw [Hp.new_eq] at e
  cases hc : Nat.blt h.next 9223372036854775808 with
  | false => rw [hc, cond_false] at e; cases e
  | true =>
    rw [hc, cond_true, Tr.force_eq] at e
    have hlt : h.next < 9223372036854775808 := Nat.lt_of_lt_of_le (Nat.lt_succ_self _) (Nat.le_of_ble_eq_true hc)
    injection e with e
    injection e with e1 e2
    subst e1 e2
    refine ⟨rfl, rfl, hlt, fun j => ?_⟩
    show Tr.get _ _ = _
    rw [Tr.get_set 24 _ _ _ _ (by omega)]
    rfl

/-! ### Lists -/
theorem lset_some {α : Type} : ∀ {l : List α} {n : Nat} {y : α} {r : List α}, lset l n y = some r → n < l.length ∧ r = l.set n y := by
  intro l
  induction l with
  | nil => intro n y r h; cases h
  | cons x l ih =>
    intro n y r h
    cases n with
    | zero => simp only [lset, Option.some.injEq] at h; subst h; simp
    | succ n =>
      simp only [lset] at h
      cases hr : lset l n y with
      | none => rw [hr] at h; cases h
      | some q =>
        rw [hr] at h
        simp only [Option.some.injEq] at h
        obtain ⟨h1, rfl⟩ := ih hr
        subst h
        exact ⟨by simp; omega, by simp⟩
theorem ltake_some {α : Type} : ∀ {n : Nat} {l r : List α}, ltake n l = some r → n ≤ l.length ∧ r = l.take n := by
  intro n
  induction n with
  | zero => intro l r h; simp only [ltake, Option.some.injEq] at h; subst h; simp
  | succ n ih =>
    intro l r h
    cases l with
    | nil => cases h
    | cons x l =>
      simp only [ltake] at h
      cases hr : ltake n l with
      | none => rw [hr] at h; cases h
      | some q =>
        rw [hr] at h
        simp only [Option.some.injEq] at h
        obtain ⟨h1, rfl⟩ := ih hr
        subst h
        exact ⟨by simp; omega, by simp⟩
theorem ldrop_some {α : Type} : ∀ {n : Nat} {l r : List α}, ldrop n l = some r → n ≤ l.length ∧ r = l.drop n := by
  intro n
  induction n with
  | zero => intro l r h; simp only [ldrop, Option.some.injEq] at h; subst h; simp
  | succ n ih =>
    intro l r h
    cases l with
    | nil => cases h
    | cons x l =>
      simp only [ldrop] at h
      obtain ⟨h1, rfl⟩ := ih h
      exact ⟨by simp; omega, by simp⟩
theorem lcut_some {α : Type} {l r : List α} {at_ n : Nat} (h : lcut l at_ n = some r) : at_ + n ≤ l.length ∧ r = (l.drop at_).take n ∧ r.length = n := by
  unfold lcut at h
  cases hd : ldrop at_ l with
  | none => rw [hd] at h; cases h
  | some q =>
    rw [hd] at h
    obtain ⟨h1, rfl⟩ := ldrop_some hd
    obtain ⟨h2, rfl⟩ := ltake_some h
    rw [List.length_drop] at h2
    exact ⟨by omega, rfl, by rw [List.length_take, List.length_drop]; omega⟩
theorem lcut_get {α : Type} {l r : List α} {at_ n : Nat} (h : lcut l at_ n = some r) (j : Nat) (hj : j < n) : r[j]? = l[at_ + j]? := by
  obtain ⟨_, rfl, _⟩ := lcut_some h
  rw [List.getElem?_take, if_pos hj, List.getElem?_drop]
theorem lputAt_some {α : Type} : ∀ {n : Nat} {l xs r : List α}, lputAt l xs n = some r → n + xs.length ≤ l.length ∧ r = l.take n ++ xs ++ l.drop (n + xs.length) := by
  intro n
  induction n with
  | zero =>
    intro l xs r h
    simp only [lputAt] at h
    cases hd : ldrop xs.length l with
    | none => rw [hd] at h; cases h
    | some q =>
      rw [hd] at h
      simp only [Option.some.injEq] at h
      obtain ⟨h1, rfl⟩ := ldrop_some hd
      subst h
      exact ⟨by omega, by simp⟩
  | succ n ih =>
    intro l xs r h
    cases l with
    | nil => cases h
    | cons x l =>
      simp only [lputAt] at h
      cases hr : lputAt l xs n with
      | none => rw [hr] at h; cases h
      | some q =>
        rw [hr] at h
        simp only [Option.some.injEq] at h
        obtain ⟨h1, rfl⟩ := ih hr
        subst h
        refine ⟨by simp; omega, ?_⟩
        rw [show n + 1 + xs.length = (n + xs.length) + 1 from by omega]
        simp
theorem lputAt_len {α : Type} {n : Nat} {l xs r : List α} (h : lputAt l xs n = some r) : r.length = l.length := by
  obtain ⟨h1, rfl⟩ := lputAt_some h
  simp only [List.length_append, List.length_take, List.length_drop]
  omega
theorem lputAt_get {α : Type} {n : Nat} {l xs r : List α} (h : lputAt l xs n = some r) (j : Nat) : r[j]? = if n ≤ j ∧ j < n + xs.length then xs[j - n]? else l[j]? := by
  obtain ⟨h1, rfl⟩ := lputAt_some h
  by_cases ha : j < n
  · rw [if_neg (by omega), List.append_assoc, List.getElem?_append_left (by rw [List.length_take]; omega), List.getElem?_take, if_pos ha]
  · by_cases hb : j < n + xs.length
    · rw [if_pos (by omega), List.append_assoc, List.getElem?_append_right (by rw [List.length_take]; omega), List.length_take, Nat.min_eq_left (by omega), List.getElem?_append_left (by omega)]
    · rw [if_neg (by omega), List.getElem?_append_right (by simp only [List.length_append, List.length_take]; omega), List.getElem?_drop]
      simp only [List.length_append, List.length_take]
      rw [Nat.min_eq_left (by omega), show n + xs.length + (j - (n + xs.length)) = j from by omega]

/-! ### Values -/
structure Info where
  blk : Nat
  off : Nat
  ex : Nat
abbrev Bt := Nat → Option Info
def Bt.le (β β' : Bt) : Prop := ∀ b i, β b = some i → β' b = some i
theorem Bt.le.refl (β : Bt) : β.le β := fun _ _ h => h
theorem Bt.le.trans {a b c : Bt} (h : a.le b) (k : b.le c) : a.le c := fun x i e => k x i (h x i e)
inductive VR (β : Bt) : Value → Value → Prop
  | lost (v : Value) (h : v.oneCell' = true) : VR β (.complex .f32 0 0) v
  | any (v : Value) : VR β (.complex .f32 1 0) v
  | rest8 (c a : Nat) (h : a % (c / 512) = c % 512) (ha : a ≤ 255) : VR β (.complex .f64 0 c) (.int .u8 a)
  | rest64 (c a : Nat) (h : a % (c / 512) = c % 512) (ha : a ≤ 255) : VR β (.complex .f32 0 (c + 1)) (.int .i64 a)
  | noneLeft (a : Addr) (c : Nat) : VR β (.chan none) (.slice (some a) 0 c)
  | bool (b : Bool) : VR β (.bool b) (.bool b)
  | int (k : IntKind) (n : Int) : VR β (.int k n) (.int k n)
  | string (s : ByteArray) : VR β (.string s) (.string s)
  | nilPtr : VR β (.pointer none) (.pointer none)
  | ptr {b : Nat} {i : Info} (o : Nat) (h : β b = some i) : VR β (.pointer (some ⟨b, o, none⟩)) (.pointer (some ⟨i.blk, i.off + o, none⟩))
  | nilSlice (n c : Nat) : VR β (.slice none n c) (.slice none n c)
  | slice {b : Nat} {i : Info} (o n c : Nat) (h : β b = some i) : VR β (.slice (some ⟨b, o, none⟩) n c) (.slice (some ⟨i.blk, i.off + o, none⟩) n (c + i.ex))
  | nilMap : VR β (.map none) (.map none)
  | map {b : Nat} {i : Info} (h : β b = some i) : VR β (.map (some b)) (.map (some i.blk))
  | func (fn : Fn) {xs ys cs ds : Array Value} (h1 : xs.size = ys.size) (h2 : ∀ (i : Nat) (x y : Value), xs[i]? = some x → ys[i]? = some y → VR β x y)
      (h3 : cs.size = ds.size) (h4 : ∀ (i : Nat) (x y : Value), cs[i]? = some x → ds[i]? = some y → VR β x y) : VR β (.func fn xs cs) (.func fn ys ds)
  | nilFunc : VR β .nilFunc .nilFunc
  | nilIface : VR β .nilIface .nilIface
  | iface (t : TypeId) {x y : Value} (h : VR β x y) : VR β (.iface t x) (.iface t y)
  | agg {xs ys : Array Value} (h1 : xs.size = ys.size) (h2 : ∀ (i : Nat) (x y : Value), xs[i]? = some x → ys[i]? = some y → VR β x y) : VR β (.agg xs) (.agg ys)
  | tuple {xs ys : Array Value} (h1 : xs.size = ys.size) (h2 : ∀ (i : Nat) (x y : Value), xs[i]? = some x → ys[i]? = some y → VR β x y) : VR β (.tuple xs) (.tuple ys)
theorem VR.mono {β β' : Bt} (hb : β.le β') {v v' : Value} (h : VR β v v') : VR β' v v' := by
  induction h with
  | lost v h => exact .lost v h
  | any v => exact .any v
  | rest8 c a h ha => exact .rest8 c a h ha
  | rest64 c a h ha => exact .rest64 c a h ha
  | noneLeft a c => exact .noneLeft a c
  | bool b => exact .bool b
  | int k n => exact .int k n
  | string s => exact .string s
  | nilPtr => exact .nilPtr
  | ptr o h => exact .ptr o (hb _ _ h)
  | nilSlice n c => exact .nilSlice n c
  | slice o n c h => exact .slice o n c (hb _ _ h)
  | nilMap => exact .nilMap
  | map h => exact .map (hb _ _ h)
  | func fn h1 _ h3 _ ih1 ih2 => exact .func fn h1 ih1 h3 ih2
  | nilFunc => exact .nilFunc
  | nilIface => exact .nilIface
  | iface t _ ih => exact .iface t ih
  | agg h1 _ ih => exact .agg h1 ih
  | tuple h1 _ ih => exact .tuple h1 ih
/-- Lists of values, one by one. -/
def LR (β : Bt) (l l' : List Value) : Prop := l.length = l'.length ∧ ∀ (i : Nat) (x y : Value), l[i]? = some x → l'[i]? = some y → VR β x y
theorem LR.mono {β β' : Bt} (hb : β.le β') {l l' : List Value} (h : LR β l l') : LR β' l l' := ⟨h.1, fun i x y a b => (h.2 i x y a b).mono hb⟩
theorem LR.nil (β : Bt) : LR β [] [] := ⟨rfl, fun i x y h => by simp at h⟩
theorem LR.cons {β : Bt} {x y : Value} {l l' : List Value} (h : VR β x y) (k : LR β l l') : LR β (x :: l) (y :: l') := by
  refine ⟨by simp [k.1], fun i a b ha hb => ?_⟩
  cases i with
  | zero => simp at ha hb; subst ha hb; exact h
  | succ i => exact k.2 i a b (by simpa using ha) (by simpa using hb)
theorem LR.head {β : Bt} {x y : Value} {l l' : List Value} (h : LR β (x :: l) (y :: l')) : VR β x y := h.2 0 x y rfl rfl
theorem LR.tail {β : Bt} {x y : Value} {l l' : List Value} (h : LR β (x :: l) (y :: l')) : LR β l l' :=
  ⟨by have := h.1; simpa using this, fun i a b ha hb => h.2 (i + 1) a b (by simpa using ha) (by simpa using hb)⟩
theorem LR.append {β : Bt} {a b c d : List Value} (h : LR β a b) (k : LR β c d) : LR β (a ++ c) (b ++ d) := by
  refine ⟨by simp [h.1, k.1], fun i x y hx hy => ?_⟩
  rcases Nat.lt_or_ge i a.length with hi | hi
  · rw [List.getElem?_append_left hi] at hx
    rw [List.getElem?_append_left (by rw [← h.1]; exact hi)] at hy
    exact h.2 i x y hx hy
  · rw [List.getElem?_append_right hi] at hx
    rw [List.getElem?_append_right (by rw [← h.1]; exact hi), ← h.1] at hy
    exact k.2 _ x y hx hy
theorem LR.take {β : Bt} {a b : List Value} (h : LR β a b) (n : Nat) : LR β (a.take n) (b.take n) := by
  refine ⟨by simp [h.1], fun i x y hx hy => ?_⟩
  rw [List.getElem?_take] at hx hy
  by_cases hi : i < n
  · rw [if_pos hi] at hx hy; exact h.2 i x y hx hy
  · rw [if_neg hi] at hx; cases hx
theorem LR.drop {β : Bt} {a b : List Value} (h : LR β a b) (n : Nat) : LR β (a.drop n) (b.drop n) := by
  refine ⟨by simp [h.1], fun i x y hx hy => ?_⟩
  rw [List.getElem?_drop] at hx hy
  exact h.2 _ x y hx hy
theorem LR.get {β : Bt} {a b : List Value} (h : LR β a b) {i : Nat} {x : Value} (hx : a[i]? = some x) : ∃ y, b[i]? = some y ∧ VR β x y := by
  have hi : i < a.length := (List.getElem?_eq_some_iff.1 hx).1
  have hj : i < b.length := by rw [← h.1]; exact hi
  exact ⟨b[i], List.getElem?_eq_getElem hj, h.2 i x _ hx (List.getElem?_eq_getElem hj)⟩
/-- Values without an address stand for themselves. -/
def Bare : Value → Prop
  | .bool _ | .int _ _ | .string _ | .nilIface | .nilFunc | .pointer none | .map none | .slice none _ _ => True
  | _ => False
theorem VR.bare {β : Bt} {v : Value} (h : Bare v) : VR β v v := by
  cases v with
  | bool b => exact .bool b
  | int k n => exact .int k n
  | string s => exact .string s
  | pointer a => cases a with | none => exact .nilPtr | some a => exact h.elim
  | slice a n c => cases a with | none => exact .nilSlice n c | some a => exact h.elim
  | map r => cases r with | none => exact .nilMap | some r => exact h.elim
  | nilFunc => exact .nilFunc
  | nilIface => exact .nilIface
  | _ => exact h.elim
theorem VR.undef (β : Bt) : VR β undef undef := .tuple rfl (fun i x y h => by simp at h)
theorem VR.one {β : Bt} {v v' : Value} (h : VR β v v') (h1 : one_ v = true) : v'.oneCell' = true := by
  cases h <;> first | rfl | assumption | (cases h1)
theorem LR.refl_bare {β : Bt} : ∀ {l : List Value}, (∀ v ∈ l, VR β v v) → LR β l l := by
  intro l h
  exact ⟨rfl, fun i x y hx hy => by rw [hx] at hy; injection hy with hy; subst hy; exact h x (List.mem_of_getElem? hx)⟩
theorem VR.cells {β : Bt} {v v' : Value} (h : VR β v v') (hn : isAny v = false) : LR β v.cells.toList v'.cells.toList := by
  cases h with
  | any v => cases hn
  | lost v h =>
    have : v'.cells = #[v'] := by cases v' <;> first | rfl | (cases h)
    rw [this]
    exact LR.cons (.lost _ h) (LR.nil β)
  | agg h1 h2 => exact ⟨by simpa [Value.cells] using h1, fun i x y hx hy => h2 i x y (by simpa [Value.cells] using hx) (by simpa [Value.cells] using hy)⟩
  | _ => exact LR.cons (by first | exact .bool _ | exact .int _ _ | exact .string _ | exact .nilPtr | exact .ptr _ ‹_› | exact .nilSlice _ _ | exact .slice _ _ _ ‹_› | exact .nilMap | exact .map ‹_› | exact .func _ ‹_› ‹_› ‹_› ‹_› | exact .nilFunc | exact .nilIface | exact .iface _ ‹_› | exact .tuple ‹_› ‹_› | exact .rest8 _ _ (by assumption) (by assumption) | exact .rest64 _ _ (by assumption) (by assumption) | exact .noneLeft _ _) (LR.nil β)
end Go.Proofs.YthloojeefdjpjaaGreatDoor
