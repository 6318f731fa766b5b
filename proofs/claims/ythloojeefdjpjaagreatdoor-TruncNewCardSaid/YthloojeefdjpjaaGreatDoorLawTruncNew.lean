/- A file that is not there is made, all of noughts, without a block; with c it is passed by: the call returns true. -/
import Derived.Test.YthloojeefdjpjaaGreatDoorTruncNewL
import Derived.Test.YthloojeefdjpjaaGreatDoorTruncNewLb
import Derived.Test.YthloojeefdjpjaaGreatDoorTruncNewLc
import Derived.Test.YthloojeefdjpjaaGreatDoorTruncNewLf
import Derived.Test.YthloojeefdjpjaaGreatDoorRows
import Derived.LaidMore
import Derived.Lay
import Derived.SevenTiedAt
import Derived.Test.YthloojeefdjpjaaGreatDoorCards
import Derived.LaidOnce
import Derived.ProofKit
import Derived.OpenShut
import Derived.Below
import Derived.Test.YthloojeefdjpjaaGreatDoorTie
import Derived.WalkKit
import Derived.KernelRfl

/- The last of the program's facts that TruncNew' row asks for. -/
namespace Go.Proofs.YthloojeefdjpjaaGreatDoor.truncNewM
open Go Go.ChangeShapes Go.WideShapes Go.ChangeAt Go.RowKit
set_option linter.unusedVariables false
theorem joined1 : joinedFacts Tryz.prog 7 Tryz.f7 Rows.truncNewSpec Rows.truncNewRow = true := by
  unfold joinedFacts
  exact (band (band (band (band (band (band (band (band (band (band (band (band (band (band (band (band (band (band (band (band (band (band (band (band (band (band (band (band (band (band (band limb0 limb1) limb2) limb3) limb4) limb5) limb6) limb7) limb8) limb9) limb10) limb11) limb12) (by kernel_rfl)) (by kernel_rfl)) (by kernel_rfl)) (by kernel_rfl)) (by kernel_rfl)) (by kernel_rfl)) (by kernel_rfl)) (by kernel_rfl)) (by kernel_rfl)) limb22) (by kernel_rfl)) limb24) limb25) limb26) limb27) (by kernel_rfl)) (by kernel_rfl)) (by kernel_rfl)) (by kernel_rfl))
end Go.Proofs.YthloojeefdjpjaaGreatDoor.truncNewM

/- A file that is not there is made, all of noughts, without a block; with c it is passed by: the call returns true. -/
namespace Go.Proofs.YthloojeefdjpjaaGreatDoor.truncNew
open Go.Proofs.YthloojeefdjpjaaGreatDoor.truncNewM
open Go.ChangeShapes Go.WideShapes Go.ChangeAt Go.RowKit
set_option linter.unusedVariables false
theorem own : ownKnob Tryz.prog.godebug = none := by kernel_rfl
set_option maxRecDepth 100000 in
theorem lifted (os : Os) (started : os.Started) (H : Type) (enc : TypeId × Value → H) :
    ReturnsInHanded {} Tryz.checked os 7 .any (fun w args => (Rows.truncNewSpec.pre enc Tryz.prog Tryz.f7 [] false w args ∧ laidMetH Tryz.prog laid w) ∧ sizedMet enc Tryz.prog Tryz.f7 (OpenSpec.ofChange Rows.truncNewSpec) false w args)
      (Rows.truncNewSpec.post enc Tryz.prog Tryz.f7 false true false false) := by
  refine returnsInHanded_of_change_and (C := Tryz.checked) (X := fun w _ => laidMetH Tryz.prog laid w) (fun _ _ _ hh h => h.of_heap hh) own started (by kernel_rfl) Tryz.func7
    (ChangeSpec.witness_shaped (enc := enc) (C := Tryz.checked) (os := os) (X := fun w _ => laidMetH Tryz.prog laid w) false (World.laidAll Tryz.prog os laid) #[.int .u16 0, .bool false, .int .u8 0] 8 (World.laidAll_os _ _ _)
      (World.shaped_of_ZipB (shape1 os) (shape2 os)) (by kernel_rfl) (by kernel_rfl) (by kernel_rfl)
      (by rw [MakeChecks.laidMetH_plain _ _ _ (by kernel_rfl)]; exact laidMet_laidAll _ (met1 os) (met2 os))) ?_
  intro W base args ds gs before hval0 hW _ _ hL _
  have hval : ∀ (j : Nat) t v, Tryz.f7.params[j]? = some t → args[j]? = some v → Value.okWide Tryz.prog W .any base t v := hval0
  have hW' := hW
  obtain ⟨p, q, hA0, hV, rfl, _, _⟩ := hW
  have hA : DataW.TrodAll enc Tryz.prog W 0 (fun _ => true) true Tryz.f7.params.toList args.toList ds p := hA0
  rw [Tryz.params7] at hA hval
  obtain ⟨v0, vs0, d0, ds0, p0, q0, hargs, rfl, rfl, h0, r0⟩ := trodAll_cons hA
  obtain ⟨v1, vs1, d1, ds1, p1, q1, rfl, rfl, rfl, h1, r1⟩ := trodAll_cons r0
  obtain ⟨v2, vs2, d2, ds2, p2, q2, rfl, rfl, rfl, h2, r2⟩ := trodAll_cons r1
  obtain ⟨rfl, rfl, rfl⟩ := trodAll_nil r2
  obtain rfl : args = #[v0, v1, v2] := by cases args; simp_all
  obtain ⟨rfl, rfl⟩ := trodVars_none hV
  obtain ⟨a0, rfl, rfl, rfl, w0⟩ := open_int Tryz.underlying63 (hval 0 63 v0 rfl rfl) h0
  obtain ⟨k, rfl, rfl, rfl⟩ := open_bool Tryz.underlying4 (hval 1 4 v1 rfl rfl) h1
  obtain ⟨a2, rfl, rfl, rfl, w2⟩ := open_int Tryz.underlying5 (hval 2 5 v2 rfl rfl) h2
  clear hA0 hval0
  simp only [List.append_nil] at hW'
  have b0 : 0 ≤ a0 ∧ a0 ≤ 65535 := by
    simpa only [Lit.wf, Bool.and_eq_true, decide_eq_true_eq, show IntKind.u16.min = 0 from rfl, show IntKind.u16.max = 65535 from rfl] using w0
  have b2 : 0 ≤ a2 ∧ a2 ≤ 255 := by
    simpa only [Lit.wf, Bool.and_eq_true, decide_eq_true_eq, show IntKind.u8.min = 0 from rfl, show IntKind.u8.max = 255 from rfl] using w2
  obtain ⟨n, rfl⟩ : ∃ n : Nat, a0 = Int.ofNat n := ⟨a0.toNat, by simp only [Int.ofNat_eq_natCast]; omega⟩
  obtain ⟨m, rfl⟩ : ∃ m : Nat, a2 = Int.ofNat m := ⟨a2.toNat, by simp only [Int.ofNat_eq_natCast]; omega⟩
  rw [MakeChecks.laidMetH_plain _ _ _ (by kernel_rfl)] at hL
  obtain ⟨ps, hps, _⟩ := hL
  refine (truncNewM.walk hps k (by simp only [Int.ofNat_eq_natCast] at b0; omega) (by simp only [Int.ofNat_eq_natCast] at b2; omega)).mono fun e W' ⟨he, hb⟩ => ?_
  subst he
  exact ⟨_, rfl, _, _, _, [], _, [], hW', trodAll_mk1 (shut_bool Tryz.underlying4 _), (trodAll_cons_mk (shut_int Tryz.underlying63 w0) (trodAll_cons_mk (shut_bool Tryz.underlying4 _) (trodAll_cons_mk (shut_int Tryz.underlying5 w2) trodAll_mk0))), rfl, hb.frame _, fun h => by cases h⟩

theorem over : Rows.truncNewRow.holds Tryz.pinned (OpenSpec.ofChange Rows.truncNewSpec) :=
  OpenClaim.holds_of_wide 7 Tryz.f7 rfl rfl rfl rfl rfl rfl rfl ⟨rfl, rfl, rfl, rfl, rfl⟩ rfl rfl rfl rfl rfl named1 Tryz.func7 joined1
    (of_decide_eq_true (by kernel_rfl)) (by unfold Func.isWrapper; first | (rw [if_pos (by decide +kernel)]; kernel_rfl) | (rw [if_neg (by decide +kernel)]; exact ⟨rfl, rfl⟩))
    (fun os started H enc _ => lifted os started H enc)
theorem proved : Rows.TruncNewCardSaid :=
  Claim7.holds_tied_plain_at .later [] [.data, .data, .data, .data, .sentinel, .sentinel, .pinned] true (true, "56e5b912f54241fdb74ce9cd301f54a671483a55f01bf417b49f194c91a5bcce") true over (fun _ h => by cases h) text1 (fun _ h => by cases h) truncNew_row_tie rfl ⟨rfl, rfl⟩ main1 rfl
    (fun f fn hf hfn => by
      obtain rfl : f = 7 := Option.some.inj (named1.symm.trans hf) |>.symm
      obtain rfl : fn = Tryz.f7 := (Option.some.inj (Tryz.func7.symm.trans hfn)).symm
      exact ⟨looks1, fun j t ht => by
        rw [Tryz.params7] at ht
        rcases j with _ | _ | _ | _ | _ <;> simp at ht <;> (subst ht; kernel_rfl)⟩)
    goes1
#print axioms proved
end Go.Proofs.YthloojeefdjpjaaGreatDoor.truncNew

