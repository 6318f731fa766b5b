/- may a text be a name? -/
import Derived.Test.YthloojeefdjpjaaGreatDoorCln
namespace Go.Proofs.YthloojeefdjpjaaGreatDoor
open Go Go.RowKit Go.ChangeShapes Go.WideShapes
set_option linter.unusedVariables false
def mayB (c : Int) : Bool := (decide (97 ≤ c) && decide (c ≤ 122)) || (decide (48 ≤ c) && decide (c ≤ 57)) || c == 46 || c == 95 || c == 45
theorem may_true (c : Int) (h : mayB c = true) (w : World) : Calls Tryz.prog 281 #[.int .u8 c] w fun e w' => e = .returned (.bool true) ∧ w' = w := by
  have h' : (97 ≤ c ∧ c ≤ 122) ∨ (48 ≤ c ∧ c ≤ 57) ∨ c = 46 ∨ c = 95 ∨ c = 45 := by
    simp only [mayB, Bool.or_eq_true, Bool.and_eq_true, decide_eq_true_eq, beq_iff_eq] at h
    omega
  clear h
  rcases h' with ⟨h1, h2⟩ | ⟨h1, h2⟩ | rfl | rfl | rfl
  all_goals
    go_enter Tryz.func281, Tryz.ntmps281
    go_wp2
  all_goals
    go_ret
    exact ⟨rfl, rfl⟩
theorem name_long (s : ByteArray) (h : 20 < s.size) (w : World) : Calls Tryz.prog 181 #[.string s] w fun e w' => e = .returned (.bool false) ∧ w' = w := by
  have h1 : ¬ s = ⟨#[]⟩ := fun e => by subst e; exact absurd h (by decide)
  have h2 : (s.size : Int) > 20 := by omega
  go_enter Tryz.func181, Tryz.ntmps181
  go_wp2
  all_goals
    go_ret
    exact ⟨rfl, rfl⟩
theorem name_true (s : ByteArray) (h1 : 0 < s.size) (h20 : s.size ≤ 20) (hf : ¬ ((s[0].toNat : Int) = 45)) (hc : ∀ (k : Nat) (h : k < s.size), mayB (s[k].toNat : Int) = true) (w : World) :
    Calls Tryz.prog 181 #[.string s] w fun e w' => e = .returned (.bool true) ∧ w' = w := by
  have e1 : ¬ s.toList = [] := fun e => by
    have : s.toList.length = 0 := by rw [e]; rfl
    rw [ByteArray.toList_eq] at this
    have h2 : s.size = s.data.toList.length := rfl
    omega
  have e2 : ¬ ((s.size : Int) > 20) := by omega
  have HC : Hid (∀ (k : Nat) (h : k < s.size), mayB (s[k].toNat : Int) = true) := hc
  clear hc
  go_enter Tryz.func181, Tryz.ntmps181
  go_wp2
  · exfalso
    rename_i hx
    rcases hx with hx | hx
    · exact e1 (by simpa using hx)
    · exact hf (by simpa using hx)
  · go_loopw [18] (fun i wr => ∃ k : Nat, k ≤ s.size ∧ i = .int .i64 k ∧ wr = w) (fun i _ => s.size - (intOf i).toNat)
    case atStart => exact ⟨0, by omega, rfl, rfl⟩
    case round =>
      obtain ⟨k, hk, rfl, rfl⟩ := hrel
      by_cases hlt : k < s.size
      · have kM := may_true _ (HC.out k hlt)
        go_wp2_with (go_at_call 281; refine (kM _).mono ?_; rintro e w1 ⟨rfl, rfl⟩)
        refine ⟨⟨k + 1, by omega, ?_⟩, ?_⟩ <;> simp [intOf] <;> omega
      · obtain rfl : k = s.size := by omega
        go_wp2
        go_ret
        exact ⟨rfl, rfl⟩
end Go.Proofs.YthloojeefdjpjaaGreatDoor
