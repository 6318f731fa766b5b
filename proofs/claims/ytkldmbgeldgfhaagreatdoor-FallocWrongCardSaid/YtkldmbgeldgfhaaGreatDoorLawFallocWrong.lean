/- Arguments that are none change nothing, and a file that is not there is made just by room: the call returns true at both bytes, whatever they are. -/
import Derived.Test.YtkldmbgeldgfhaaGreatDoorWrA
import Derived.Test.YtkldmbgeldgfhaaGreatDoorWrB
import Derived.Test.YtkldmbgeldgfhaaGreatDoorWrC
import Derived.Test.YtkldmbgeldgfhaaGreatDoorWrD
import Derived.Test.YtkldmbgeldgfhaaGreatDoorWrE
import Derived.Test.YtkldmbgeldgfhaaGreatDoorWrF
import Derived.Test.YtkldmbgeldgfhaaGreatDoorWrG
import Derived.Test.YtkldmbgeldgfhaaGreatDoorWrH
import Derived.Test.YtkldmbgeldgfhaaGreatDoorWrI
import Derived.Test.YtkldmbgeldgfhaaGreatDoorWrJ
import Derived.Test.YtkldmbgeldgfhaaGreatDoorWrK
import Derived.Test.YtkldmbgeldgfhaaGreatDoorWrL
import Derived.Test.YtkldmbgeldgfhaaGreatDoorWrM
namespace Go.Proofs.YtkldmbgeldgfhaaGreatDoor.fallocWrong
open Go.ChangeShapes Go.WideShapes Go.ChangeAt Go.RowKit
set_option linter.unusedVariables false
theorem all_0 : ∀ q, q < 5 → one 0 q = true
  | 0, _ => t_0_0
  | 1, _ => t_0_1
  | 2, _ => t_0_2
  | 3, _ => t_0_3
  | 4, _ => t_0_4
  | n + 5, h => absurd h (by omega)
theorem all_1 : ∀ q, q < 5 → one 1 q = true
  | 0, _ => t_1_0
  | 1, _ => t_1_1
  | 2, _ => t_1_2
  | 3, _ => t_1_3
  | 4, _ => t_1_4
  | n + 5, h => absurd h (by omega)
theorem all_2 : ∀ q, q < 5 → one 2 q = true
  | 0, _ => t_2_0
  | 1, _ => t_2_1
  | 2, _ => t_2_2
  | 3, _ => t_2_3
  | 4, _ => t_2_4
  | n + 5, h => absurd h (by omega)
theorem all_3 : ∀ q, q < 5 → one 3 q = true
  | 0, _ => t_3_0
  | 1, _ => t_3_1
  | 2, _ => t_3_2
  | 3, _ => t_3_3
  | 4, _ => t_3_4
  | n + 5, h => absurd h (by omega)
theorem all_4 : ∀ q, q < 5 → one 4 q = true
  | 0, _ => t_4_0
  | 1, _ => t_4_1
  | 2, _ => t_4_2
  | 3, _ => t_4_3
  | 4, _ => t_4_4
  | n + 5, h => absurd h (by omega)
theorem all_5 : ∀ q, q < 5 → one 5 q = true
  | 0, _ => t_5_0
  | 1, _ => t_5_1
  | 2, _ => t_5_2
  | 3, _ => t_5_3
  | 4, _ => t_5_4
  | n + 5, h => absurd h (by omega)
theorem all_6 : ∀ q, q < 5 → one 6 q = true
  | 0, _ => t_6_0
  | 1, _ => t_6_1
  | 2, _ => t_6_2
  | 3, _ => t_6_3
  | 4, _ => t_6_4
  | n + 5, h => absurd h (by omega)
theorem all_7 : ∀ q, q < 5 → one 7 q = true
  | 0, _ => t_7_0
  | 1, _ => t_7_1
  | 2, _ => t_7_2
  | 3, _ => t_7_3
  | 4, _ => t_7_4
  | n + 5, h => absurd h (by omega)
theorem all_8 : ∀ q, q < 5 → one 8 q = true
  | 0, _ => t_8_0
  | 1, _ => t_8_1
  | 2, _ => t_8_2
  | 3, _ => t_8_3
  | 4, _ => t_8_4
  | n + 5, h => absurd h (by omega)
theorem all_9 : ∀ q, q < 5 → one 9 q = true
  | 0, _ => t_9_0
  | 1, _ => t_9_1
  | 2, _ => t_9_2
  | 3, _ => t_9_3
  | 4, _ => t_9_4
  | n + 5, h => absurd h (by omega)
theorem all_10 : ∀ q, q < 5 → one 10 q = true
  | 0, _ => t_10_0
  | 1, _ => t_10_1
  | 2, _ => t_10_2
  | 3, _ => t_10_3
  | 4, _ => t_10_4
  | n + 5, h => absurd h (by omega)
theorem all_11 : ∀ q, q < 5 → one 11 q = true
  | 0, _ => t_11_0
  | 1, _ => t_11_1
  | 2, _ => t_11_2
  | 3, _ => t_11_3
  | 4, _ => t_11_4
  | n + 5, h => absurd h (by omega)
theorem all_12 : ∀ q, q < 5 → one 12 q = true
  | 0, _ => t_12_0
  | 1, _ => t_12_1
  | 2, _ => t_12_2
  | 3, _ => t_12_3
  | 4, _ => t_12_4
  | n + 5, h => absurd h (by omega)
theorem all : ∀ r, r < 13 → ∀ q, q < 5 → one r q = true
  | 0, _ => all_0
  | 1, _ => all_1
  | 2, _ => all_2
  | 3, _ => all_3
  | 4, _ => all_4
  | 5, _ => all_5
  | 6, _ => all_6
  | 7, _ => all_7
  | 8, _ => all_8
  | 9, _ => all_9
  | 10, _ => all_10
  | 11, _ => all_11
  | 12, _ => all_12
  | n + 13, h => absurd h (by omega)
theorem walk (a0 : Int) (a1 : Int) (w0 : (Lit.int .u8 a0).wf = true) (w1 : (Lit.int .u8 a1).wf = true) (w : World) (hL : laidMetH Tryz.prog laid w) :
    Calls Tryz.prog 4 #[.int .u8 a0, .int .u8 a1] w fun e w' => e = .returned (.bool true) ∧ Below w.heap.size w w' := by
  have b0 := bounds_u8 w0
  have b1 := bounds_u8 w1
  obtain ⟨a, rfl⟩ : ∃ a : Nat, a0 = a := ⟨a0.toNat, by omega⟩
  obtain ⟨b, rfl⟩ : ∃ b : Nat, a1 = b := ⟨a1.toNat, by omega⟩
  rw [MakeChecks.laidMetH_plain _ _ _ (by kernel_rfl)] at hL
  obtain ⟨ps, hps, _⟩ := hL
  exact one_calls (all _ (Nat.mod_lt a (by omega)) _ (Nat.mod_lt b (by omega))) (Nat.mod_lt a (by omega)) (Nat.mod_lt b (by omega)) a b rfl rfl (by omega) (by omega) w (laidVars_some _ hps)
theorem own : ownKnob Tryz.prog.godebug = none := by kernel_rfl
set_option maxRecDepth 100000 in
theorem lifted (os : Os) (started : os.Started) (H : Type) (enc : TypeId × Value → H) :
    ReturnsInHanded {} Tryz.checked os 4 .any (fun w args => (Rows.fallocWrongSpec.pre enc Tryz.prog Tryz.f4 [] false w args ∧ laidMetH Tryz.prog laid w) ∧ sizedMet enc Tryz.prog Tryz.f4 (OpenSpec.ofChange Rows.fallocWrongSpec) false w args)
      (Rows.fallocWrongSpec.post enc Tryz.prog Tryz.f4 false true false false) := by
  refine returnsInHanded_of_change_and (C := Tryz.checked) (X := fun w _ => laidMetH Tryz.prog laid w) (fun _ _ _ hh h => h.of_heap hh) own started (by kernel_rfl) Tryz.func4
    (ChangeSpec.witness_shaped (enc := enc) (C := Tryz.checked) (os := os) (X := fun w _ => laidMetH Tryz.prog laid w) false (World.laidAll Tryz.prog os laid) #[.int .u8 0, .int .u8 0] 8 (World.laidAll_os _ _ _)
      (World.shaped_of_ZipB (by kernel_rfl) (by kernel_rfl)) (by kernel_rfl) (by kernel_rfl) (by kernel_rfl)
      (by rw [MakeChecks.laidMetH_plain _ _ _ (by kernel_rfl)]; exact laidMet_laidAll _ (by kernel_rfl) (by kernel_rfl))) ?_
  intro W base args ds gs before hval0 hW _ _ hL _
  have hval : ∀ (j : Nat) t v, Tryz.f4.params[j]? = some t → args[j]? = some v → Value.okWide Tryz.prog W .any base t v := hval0
  have hW' := hW
  obtain ⟨p, q, hA0, hV, rfl, _, _⟩ := hW
  have hA : DataW.TrodAll enc Tryz.prog W 0 (fun _ => true) true Tryz.f4.params.toList args.toList ds p := hA0
  rw [Tryz.params4] at hA hval
  obtain ⟨v0, vs0, d0, ds0, p0, q0, hargs, rfl, rfl, h0, r0⟩ := trodAll_cons hA
  obtain ⟨v1, vs1, d1, ds1, p1, q1, rfl, rfl, rfl, h1, r1⟩ := trodAll_cons r0
  obtain ⟨rfl, rfl, rfl⟩ := trodAll_nil r1
  obtain rfl : args = #[v0, v1] := by cases args; simp_all
  obtain ⟨rfl, rfl⟩ := trodVars_none hV
  obtain ⟨a0, rfl, rfl, rfl, w0⟩ := open_int Tryz.underlying5 (hval 0 5 v0 rfl rfl) h0
  obtain ⟨a1, rfl, rfl, rfl, w1⟩ := open_int Tryz.underlying5 (hval 1 5 v1 rfl rfl) h1
  clear hA0 hval0
  simp only [List.append_nil] at hW'
  refine (walk a0 a1 w0 w1 W hL).mono fun e W' ⟨he, hb⟩ => ?_
  subst he
  exact ⟨_, rfl, _, _, _, [], _, [], hW', trodAll_mk1 (shut_bool Tryz.underlying4 _), (trodAll_cons_mk (shut_int Tryz.underlying5 w0) (trodAll_cons_mk (shut_int Tryz.underlying5 w1) trodAll_mk0)), rfl, hb.frame _, fun h => by cases h⟩

theorem over : Rows.fallocWrongRow.holds Tryz.pinned (OpenSpec.ofChange Rows.fallocWrongSpec) :=
  OpenClaim.holds_of_wide 4 Tryz.f4 rfl rfl rfl rfl rfl rfl rfl ⟨rfl, rfl, rfl, rfl, rfl⟩ rfl rfl rfl rfl rfl (by kernel_rfl) Tryz.func4 (by kernel_rfl)
    (of_decide_eq_true (by kernel_rfl)) (by unfold Func.isWrapper; first | (rw [if_pos (by decide +kernel)]; kernel_rfl) | (rw [if_neg (by decide +kernel)]; exact ⟨rfl, rfl⟩))
    (fun os started H enc _ => lifted os started H enc)
theorem proved : Rows.FallocWrongCardSaid :=
  Claim7.holds_tied_plain_at .later [] [.data, .data, .data, .data, .sentinel, .sentinel, .pinned] true (true, "47845ce40dfe7fa251363c12783d8e9c2f91766cfaf2cf3293e72df6c3bffd7e") true over (fun _ h => by cases h) (by kernel_rfl) (fun _ h => by cases h) fallocWrong_row_tie rfl ⟨rfl, rfl⟩ (by kernel_rfl) rfl
    (fun f fn hf hfn => by
      obtain rfl : f = 4 := Option.some.inj ((show Tryz.prog.funcNamed "salvor/salvorlaw29.FallocWrong" = some 4 by kernel_rfl).symm.trans hf) |>.symm
      obtain rfl : fn = Tryz.f4 := (Option.some.inj (Tryz.func4.symm.trans hfn)).symm
      exact ⟨by kernel_rfl, fun j t ht => by
        rw [Tryz.params4] at ht
        rcases j with _ | _ | _ | _ | _ <;> simp at ht <;> (subst ht; kernel_rfl)⟩)
    (by kernel_rfl)
#print axioms proved
end Go.Proofs.YtkldmbgeldgfhaaGreatDoor.fallocWrong
