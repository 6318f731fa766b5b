/- The size that a file is to have, of any mod, any number and any base: trunc.Size and the document's own answer are one: the call returns true. -/
import Derived.Test.YtkldmbgeldgfhaaGreatDoorTruB
import Derived.Test.YtkldmbgeldgfhaaGreatDoorLawTruncRuns
namespace Go.Proofs.YtkldmbgeldgfhaaGreatDoor.truncSizes
open Go.ChangeShapes Go.WideShapes Go.ChangeAt Go.RowKit
open Go.Proofs.YtkldmbgeldgfhaaGreatDoor.trunc
set_option linter.unusedVariables false
def Since (w w' : World) : Prop := Below w.heap.size w w'
theorem Since.refl (w : World) : Since w w := Below.refl _ _
theorem Since.on {w w1 w2 : World} (h : Since w w1) (k : Below w1.heap.size w1 w2) : Since w w2 := Below.trans h (k.mono h.size)
theorem law (m n b X : Int) (T : Bool)
    (k1 : ∀ w, Calls Tryz.prog 19 #[.int .u8 m, .int .i64 n, .int .i64 b] w fun e w' => e = .returned (.tuple #[.int .i64 X, .bool T]) ∧ Below w.heap.size w w')
    (k2 : ∀ w, Calls Tryz.prog 20 #[.int .u8 m, .int .i64 n, .int .i64 b] w fun e w' => e = .returned (.tuple #[.int .i64 X, .bool T]) ∧ Below w.heap.size w w') (w : World) :
    Calls Tryz.prog 6 #[.int .u8 m, .int .i64 n, .int .i64 b] w fun e w' => e = .returned (.bool true) ∧ Below w.heap.size w w' := by
  have hS : Since w w := .refl w
  go_enter Tryz.func6, Tryz.ntmps6
  go_wp2_with (first | (go_at_call 19; refine (k1 _).mono ?_; rintro e w1 ⟨rfl, hb⟩; replace hS := hS.on hb; clear hb) | (go_at_call 20; refine (k2 _).mono ?_; rintro e w2 ⟨rfl, hb⟩; replace hS := hS.on hb; clear hb) | (go_at_call 5; refine (truncRuns.walk _).mono ?_; rintro e w3 ⟨rfl, hb⟩; replace hS := hS.on hb; clear hb))
  go_ret
  exact ⟨rfl, hS⟩
theorem walk (a0 : Int) (a1 : Int) (a2 : Int) (w0 : (Lit.int .u8 a0).wf = true) (w1 : (Lit.int .i64 a1).wf = true) (w2 : (Lit.int .i64 a2).wf = true) (w : World) :
    Calls Tryz.prog 6 #[.int .u8 a0, .int .i64 a1, .int .i64 a2] w fun e w' => e = .returned (.bool true) ∧ Below w.heap.size w w' :=
  law a0 a1 a2 _ _ (size_walk a0 a1 a2) (rsize_walk a0 a1 a2) w
def laid : List (String × DataW Unit) := Rows.truncSizesRow.laid
theorem own : ownKnob Tryz.prog.godebug = none := by kernel_rfl
set_option maxRecDepth 100000 in
theorem lifted (os : Os) (started : os.Started) (H : Type) (enc : TypeId × Value → H) :
    ReturnsInHanded {} Tryz.checked os 6 .any (fun w args => (Rows.truncSizesSpec.pre enc Tryz.prog Tryz.f6 [] false w args ∧ laidMetH Tryz.prog laid w) ∧ sizedMet enc Tryz.prog Tryz.f6 (OpenSpec.ofChange Rows.truncSizesSpec) false w args)
      (Rows.truncSizesSpec.post enc Tryz.prog Tryz.f6 false true false false) := by
  refine returnsInHanded_of_change_and (C := Tryz.checked) (X := fun w _ => laidMetH Tryz.prog laid w) (fun _ _ _ hh h => h.of_heap hh) own started (by kernel_rfl) Tryz.func6
    (ChangeSpec.witness_shaped (enc := enc) (C := Tryz.checked) (os := os) (X := fun w _ => laidMetH Tryz.prog laid w) false (World.laidAll Tryz.prog os laid) #[.int .u8 0, .int .i64 0, .int .i64 0] 8 (World.laidAll_os _ _ _)
      (World.shaped_of_ZipB (by kernel_rfl) (by kernel_rfl)) (by kernel_rfl) (by kernel_rfl) (by kernel_rfl)
      (by rw [MakeChecks.laidMetH_plain _ _ _ (by kernel_rfl)]; exact laidMet_laidAll _ (by kernel_rfl) (by kernel_rfl))) ?_
  intro W base args ds gs before hval0 hW _ _ hL _
  have hval : ∀ (j : Nat) t v, Tryz.f6.params[j]? = some t → args[j]? = some v → Value.okWide Tryz.prog W .any base t v := hval0
  have hW' := hW
  obtain ⟨p, q, hA0, hV, rfl, _, _⟩ := hW
  have hA : DataW.TrodAll enc Tryz.prog W 0 (fun _ => true) true Tryz.f6.params.toList args.toList ds p := hA0
  rw [Tryz.params6] at hA hval
  obtain ⟨v0, vs0, d0, ds0, p0, q0, hargs, rfl, rfl, h0, r0⟩ := trodAll_cons hA
  obtain ⟨v1, vs1, d1, ds1, p1, q1, rfl, rfl, rfl, h1, r1⟩ := trodAll_cons r0
  obtain ⟨v2, vs2, d2, ds2, p2, q2, rfl, rfl, rfl, h2, r2⟩ := trodAll_cons r1
  obtain ⟨rfl, rfl, rfl⟩ := trodAll_nil r2
  obtain rfl : args = #[v0, v1, v2] := by cases args; simp_all
  obtain ⟨rfl, rfl⟩ := trodVars_none hV
  obtain ⟨a0, rfl, rfl, rfl, w0⟩ := open_int Tryz.underlying5 (hval 0 5 v0 rfl rfl) h0
  obtain ⟨a1, rfl, rfl, rfl, w1⟩ := open_int Tryz.underlying3 (hval 1 3 v1 rfl rfl) h1
  obtain ⟨a2, rfl, rfl, rfl, w2⟩ := open_int Tryz.underlying3 (hval 2 3 v2 rfl rfl) h2
  clear hA0 hval0
  simp only [List.append_nil] at hW'
  refine (walk a0 a1 a2 w0 w1 w2 W).mono fun e W' ⟨he, hb⟩ => ?_
  subst he
  exact ⟨_, rfl, _, _, _, [], _, [], hW', trodAll_mk1 (shut_bool Tryz.underlying4 _), (trodAll_cons_mk (shut_int Tryz.underlying5 w0) (trodAll_cons_mk (shut_int Tryz.underlying3 w1) (trodAll_cons_mk (shut_int Tryz.underlying3 w2) trodAll_mk0))), rfl, hb.frame _, fun h => by cases h⟩

theorem over : Rows.truncSizesRow.holds Tryz.pinned (OpenSpec.ofChange Rows.truncSizesSpec) :=
  OpenClaim.holds_of_wide 6 Tryz.f6 rfl rfl rfl rfl rfl rfl rfl ⟨rfl, rfl, rfl, rfl, rfl⟩ rfl rfl rfl rfl rfl (by kernel_rfl) Tryz.func6 (by kernel_rfl)
    (of_decide_eq_true (by kernel_rfl)) (by unfold Func.isWrapper; first | (rw [if_pos (by decide +kernel)]; kernel_rfl) | (rw [if_neg (by decide +kernel)]; exact ⟨rfl, rfl⟩))
    (fun os started H enc _ => lifted os started H enc)
theorem proved : Rows.TruncSizesCardSaid :=
  Claim7.holds_tied_plain_at .later [] [.data, .data, .data, .data, .sentinel, .sentinel, .pinned] true (true, "47845ce40dfe7fa251363c12783d8e9c2f91766cfaf2cf3293e72df6c3bffd7e") true over (fun _ h => by cases h) (by kernel_rfl) (fun _ h => by cases h) truncSizes_row_tie rfl ⟨rfl, rfl⟩ (by kernel_rfl) rfl
    (fun f fn hf hfn => by
      obtain rfl : f = 6 := Option.some.inj ((show Tryz.prog.funcNamed "salvor/salvorlaw28.TruncSizes" = some 6 by kernel_rfl).symm.trans hf) |>.symm
      obtain rfl : fn = Tryz.f6 := (Option.some.inj (Tryz.func6.symm.trans hfn)).symm
      exact ⟨by kernel_rfl, fun j t ht => by
        rw [Tryz.params6] at ht
        rcases j with _ | _ | _ | _ | _ <;> simp at ht <;> (subst ht; kernel_rfl)⟩)
    (by kernel_rfl)
#print axioms proved
end Go.Proofs.YtkldmbgeldgfhaaGreatDoor.truncSizes
