/- The told functions of a seat whose code prints and reads maps. -/
import Derived.Test.YtbhphcgpfjoppaaGreatDoorTold
import Derived.Test.YtbhphcgpfjoppaaGreatDoorShelf
import Derived.WalkKit
import Derived.ProofKit
import Derived.OpenShut
import Derived.KernelRfl
import Derived.Below
import Derived.LoopTactic
namespace Go.Proofs.YtbhphcgpfjoppaaGreatDoor
open Go Go.RowKit
set_option linter.unusedVariables false
theorem t_repeat : ToldOk Tryz.prog Tryz.prog.globals.size 390 spRepeat := by
  with_reducible exact (repeat_told (enters_of Tryz.func390 (by kernel_rfl) rfl) fun s c w h1 h2 => Tryz.strings_Repeat s c w h1 h2)
theorem t_upper : ToldOk Tryz.prog Tryz.prog.globals.size 388 spUpper := by
  with_reducible exact (upper_told (enters_of Tryz.func388 (by kernel_rfl) rfl) fun s w h1 h2 => Tryz.strings_ToUpper_ascii s w h1 h2)
theorem join_any (bk o c : Nat) (xs : List ByteArray) (sep : ByteArray) (w : World) (hcell : ∀ (j : Nat) x, xs[j]? = some x → w.cell? ⟨bk, o + j, none⟩ = some (.string x)) (hbk : bk < w.heap.size ∨ xs = []) (hn : xs.length ≤ 140737488355328) (hcap : xs.length ≤ c)
    (hlen : (Lib.join (xs.map (·.data.toList)) sep.data.toList).length ≤ 140737488355328) :
    Calls Tryz.prog 369 #[.slice (some ⟨bk, o, none⟩) xs.length c, .string sep] w fun e w' => e = .returned (.string ⟨(Lib.join (xs.map (·.data.toList)) sep.data.toList).toArray⟩) ∧ Below w.heap.size w w' := by
  rcases hbk with hbk | rfl
  · exact Tryz.strings_Join bk o c xs sep w hcell hbk hn hcap hlen
  · exact (Tryz.strings_Join_none (some ⟨bk, o, none⟩) c sep w).mono fun e w' ⟨he, hw⟩ => ⟨he, hw ▸ Below.refl _ _⟩
theorem t_join : ToldOk Tryz.prog Tryz.prog.globals.size 369 spJoin := by
  with_reducible exact (join_told (enters_of Tryz.func369 (by kernel_rfl) rfl) join_any)
/-- a space, or a tab -/
def blank (r : Nat) : Bool := Nat.beq r 32 || Nat.beq r 9
theorem int_beq (n m : Nat) : ((n : Int) == (m : Int)) = Nat.beq n m := by
  cases h : Nat.beq n m with
  | true => rw [Nat.eq_of_beq_eq_true h]; simp
  | false =>
    have : n ≠ m := fun e => by subst e; simp at h
    simp
    omega
theorem blank_gives (w : World) : PredAtRunes Tryz.prog 268 #[] blank w := by
  intro W x hx hb
  show Calls Tryz.prog 268 #[.int .i32 x] W _
  go_enter Tryz.func268, Tryz.ntmps268
  go_wp2
  all_goals
    go_ret
    refine ⟨?_, 0, rfl⟩
    unfold blank
    rw [← int_beq, ← int_beq]
    simp_all
theorem split_calls (s : ByteArray) (w : World) (hs : s.size ≤ 4294967296) : Calls Tryz.prog 189 #[.string s] w fun en w' => ∃ A, en = .returned (.slice (some ⟨A, 0, none⟩) (Lib.goFieldsP blank s).length (Lib.goFieldsP blank s).length) ∧ w.heap.size ≤ A ∧
      w'.ownsRow w.heap.size 9 1 (.slice (some ⟨A, 0, none⟩) (Lib.goFieldsP blank s).length (Lib.goFieldsP blank s).length) (Lib.goFieldsP blank s).length ((Lib.goFieldsP blank s).map Value.string) ∧ Below w.heap.size w w' := by
  go_enter Tryz.func189, Tryz.ntmps189
  go_wp2_with (go_at_call 267; refine (Tryz.strings_FieldsFunc_runes 268 #[] (enters_of Tryz.func268 (by kernel_rfl) rfl) blank s w hs (blank_gives w)).mono ?_; rintro en w1 ⟨A, rfl, hA, ho, hb⟩)
  go_ret
  exact ⟨A, rfl, hA, ho, hb⟩
theorem t_split : ToldOk Tryz.prog Tryz.prog.globals.size 189 (spFields 9 blank) := by
  with_reducible exact (fields_told (enters_of Tryz.func189 (by kernel_rfl) rfl) split_calls)
theorem check_fresh (b : Nat) (w : World) (h1 : w.cell? ⟨b, 0, none⟩ = some (.pointer none)) (h2 : w.shape? b = some (456, 2)) (h3 : w.frozen? ⟨b, 0, none⟩ = false) :
    Calls Tryz.prog 386 #[.pointer (some ⟨b, 0, none⟩)] w fun e w' => e = .returned (.tuple #[]) ∧ w' = w.setCell ⟨b, 0, none⟩ (.pointer (some ⟨b, 0, none⟩)) :=
  Any.Builder_copyCheck_fresh (P := Tryz.prog) (ρ := Tryz.lays158_ren) { Tryz.lays158 with } Tryz.Builder_Extra_158.toX72 b w h1 h2 h3
theorem check_used (b : Nat) (w : World) (h1 : w.cell? ⟨b, 0, none⟩ = some (.pointer (some ⟨b, 0, none⟩))) :
    Calls Tryz.prog 386 #[.pointer (some ⟨b, 0, none⟩)] w fun e w' => e = .returned (.tuple #[]) ∧ w' = w :=
  Any.Builder_copyCheck_used (P := Tryz.prog) (ρ := Tryz.lays158_ren) { Tryz.lays158 with } Tryz.Builder_Extra_158.toX72 b w h1
theorem t_check : ToldOk Tryz.prog Tryz.prog.globals.size 386 (spCheck 456) := by
  with_reducible exact (check_told (enters_of Tryz.func386 (by kernel_rfl) rfl) check_fresh check_used)
noncomputable def spB : Sp := fun f =>
  bif Nat.beq f 390 then some spRepeat
  else bif Nat.beq f 388 then some spUpper
  else bif Nat.beq f 369 then some spJoin
  else bif Nat.beq f 189 then some (spFields 9 blank)
  else bif Nat.beq f 386 then some (spCheck 456)
  else sp f
theorem spB_ok : CallOk Tryz.prog (spCall spB) Tryz.prog.globals.size := by
  unfold spB
  with_reducible exact (told_cons t_repeat (told_cons t_upper (told_cons t_join (told_cons t_split (told_cons t_check sp_ok)))))
end Go.Proofs.YtbhphcgpfjoppaaGreatDoor
