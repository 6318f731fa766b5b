/- Each mod of trunc.Size is what it says, of any number and any base below 2 to the 32nd: the call returns true. -/
import Derived.Test.YtkldmbgeldgfhaaGreatDoorTruB
import Derived.Test.YtkldmbgeldgfhaaGreatDoorLawTruncRuns
namespace Go.Proofs.YtkldmbgeldgfhaaGreatDoor.truncMods
open Go.ChangeShapes Go.WideShapes Go.ChangeAt Go.RowKit
open Go.Proofs.YtkldmbgeldgfhaaGreatDoor.trunc
set_option linter.unusedVariables false
def Since (w w' : World) : Prop := Below w.heap.size w w'
theorem Since.refl (w : World) : Since w w := Below.refl _ _
theorem Since.on {w w1 w2 : World} (h : Since w w1) (k : Below w1.heap.size w1 w2) : Since w w2 := Below.trans h (k.mono h.size)
def SizeIs (a b m x : Int) (t : Bool) : Prop := ∀ w, Calls Tryz.prog 19 #[.int .u8 m, .int .i64 a, .int .i64 b] w fun e w' => e = .returned (.tuple #[.int .i64 x, .bool t]) ∧ Below w.heap.size w w'
set_option maxHeartbeats 4000000 in
set_option maxRecDepth 100000 in
theorem law_less (a b L G D U : Int) (ha : 1 ≤ a) (ha2 : a ≤ 4294967295) (hb : 0 ≤ b) (hb2 : b ≤ 4294967295) (hm : b - a < 0)
    (f : Int → Int) (t : Int → Bool) (kS : ∀ m, SizeIs a b m (f m) (t m))
    (f0 : f 0 = a) (t0 : t 0 = true) (f43 : f 43 = a + b) (t43 : t 43 = true) (f45 : f 45 = 0) (t45 : t 45 = true) (f60 : f 60 = L) (t60 : t 60 = true) (f62 : f 62 = G) (t62 : t 62 = true) (f47 : f 47 = D) (t47 : t 47 = true) (f37 : f 37 = U) (t37 : t 37 = true)
    (l0 : 0 ≤ L) (g1 : G ≤ 4294967295) (lg : L ≤ G) (lgs : L + G = a + b) (d0 : 0 ≤ D) (d1 : D ≤ b) (d2 : b - D < a) (d3 : D % a = 0) (u0 : b ≤ U) (u1 : U - b < a) (u3 : U % a = 0)
    (w : World) :
    Calls Tryz.prog 7 #[.int .u32 a, .int .u32 b] w fun e w' => e = .returned (.bool true) ∧ Below w.heap.size w w' := by
  have hS : Since w w := .refl w
  have ha3 : ¬ a = 0 := by omega
  have ha4 : 0 < a := by omega
  go_enter Tryz.func7, Tryz.ntmps7
  go_wp2_with (first | (go_at_call 19; refine (kS _ _).mono ?_; rintro e w1 ⟨rfl, hb⟩; replace hS := hS.on hb; clear hb; first | rw [f0, t0] | rw [f43, t43] | rw [f45, t45] | rw [f60, t60] | rw [f62, t62] | rw [f47, t47] | rw [f37, t37]) | (go_at_call 5; refine (truncRuns.walk _).mono ?_; rintro e w3 ⟨rfl, hb⟩; replace hS := hS.on hb; clear hb))
  go_ret
  exact ⟨rfl, hS⟩
set_option maxHeartbeats 4000000 in
set_option maxRecDepth 100000 in
theorem law_more (a b L G D U : Int) (ha : 1 ≤ a) (ha2 : a ≤ 4294967295) (hb : 0 ≤ b) (hb2 : b ≤ 4294967295) (hm : 0 ≤ b - a)
    (f : Int → Int) (t : Int → Bool) (kS : ∀ m, SizeIs a b m (f m) (t m))
    (f0 : f 0 = a) (t0 : t 0 = true) (f43 : f 43 = a + b) (t43 : t 43 = true) (f45 : f 45 = b - a) (t45 : t 45 = true) (f60 : f 60 = L) (t60 : t 60 = true) (f62 : f 62 = G) (t62 : t 62 = true) (f47 : f 47 = D) (t47 : t 47 = true) (f37 : f 37 = U) (t37 : t 37 = true)
    (l0 : 0 ≤ L) (g1 : G ≤ 4294967295) (lg : L ≤ G) (lgs : L + G = a + b) (d0 : 0 ≤ D) (d1 : D ≤ b) (d2 : b - D < a) (d3 : D % a = 0) (u0 : b ≤ U) (u1 : U - b < a) (u3 : U % a = 0)
    (w : World) :
    Calls Tryz.prog 7 #[.int .u32 a, .int .u32 b] w fun e w' => e = .returned (.bool true) ∧ Below w.heap.size w w' := by
  have hS : Since w w := .refl w
  have ha3 : ¬ a = 0 := by omega
  have ha4 : 0 < a := by omega
  go_enter Tryz.func7, Tryz.ntmps7
  go_wp2_with (first | (go_at_call 19; refine (kS _ _).mono ?_; rintro e w1 ⟨rfl, hb⟩; replace hS := hS.on hb; clear hb; first | rw [f0, t0] | rw [f43, t43] | rw [f45, t45] | rw [f60, t60] | rw [f62, t62] | rw [f47, t47] | rw [f37, t37]) | (go_at_call 5; refine (truncRuns.walk _).mono ?_; rintro e w3 ⟨rfl, hb⟩; replace hS := hS.on hb; clear hb))
  go_ret
  exact ⟨rfl, hS⟩
set_option maxHeartbeats 4000000 in
set_option maxRecDepth 100000 in
theorem law_zero (b : Int) (hb : 0 ≤ b) (hb2 : b ≤ 4294967295)
    (f : Int → Int) (t : Int → Bool) (kS : ∀ m, SizeIs 0 b m (f m) (t m))
    (f0 : f 0 = 0) (t0 : t 0 = true) (f43 : f 43 = b) (t43 : t 43 = true) (f45 : f 45 = b) (t45 : t 45 = true) (f60 : f 60 = 0) (t60 : t 60 = true) (f62 : f 62 = b) (t62 : t 62 = true) (f47 : f 47 = 0) (t47 : t 47 = false) (f37 : f 37 = 0) (t37 : t 37 = false)
    (w : World) :
    Calls Tryz.prog 7 #[.int .u32 0, .int .u32 b] w fun e w' => e = .returned (.bool true) ∧ Below w.heap.size w w' := by
  have hS : Since w w := .refl w
  go_enter Tryz.func7, Tryz.ntmps7
  go_wp2_with (first | (go_at_call 19; refine (kS _ _).mono ?_; rintro e w1 ⟨rfl, hb⟩; replace hS := hS.on hb; clear hb; first | rw [f0, t0] | rw [f43, t43] | rw [f45, t45] | rw [f60, t60] | rw [f62, t62] | rw [f47, t47] | rw [f37, t37]) | (go_at_call 5; refine (truncRuns.walk _).mono ?_; rintro e w3 ⟨rfl, hb⟩; replace hS := hS.on hb; clear hb))
  go_ret
  exact ⟨rfl, hS⟩
theorem wf32 {a : Int} (h : (Lit.int .u32 a).wf = true) : 0 ≤ a ∧ a ≤ 4294967295 := by
  simp only [Lit.wf, Bool.and_eq_true, decide_eq_true_eq, show IntKind.u32.min = 0 from rfl, show IntKind.u32.max = 4294967295 from rfl] at h
  exact h
theorem size_of {a b m : Int} (ha : 0 ≤ a ∧ a ≤ 4294967295) (hb : 0 ≤ b ∧ b ≤ 4294967295) {x : Int} (h : reckI m a b = (x, true)) (hx : x ≤ 1099511627776) : sizeI m a b = (x, true) := by
  unfold sizeI
  rw [if_pos (by omega), h, if_pos ⟨rfl, hx⟩]
theorem size_none {a b m : Int} {x : Int} (h : reckI m a b = (x, false)) : sizeI m a b = (0, false) := by
  unfold sizeI
  rw [h]
  split <;> simp
theorem walk (a0 : Int) (a1 : Int) (w0 : (Lit.int .u32 a0).wf = true) (w1 : (Lit.int .u32 a1).wf = true) (w : World) :
    Calls Tryz.prog 7 #[.int .u32 a0, .int .u32 a1] w fun e w' => e = .returned (.bool true) ∧ Below w.heap.size w w' := by
  have ha := wf32 w0
  have hb := wf32 w1
  have kS : ∀ m, SizeIs a0 a1 m (sizeI m a0 a1).1 (sizeI m a0 a1).2 := fun m w => size_walk m a0 a1 w
  have s0 : sizeI 0 a0 a1 = (a0, true) := size_of ha hb (by simp [reckI]) (by omega)
  have s43 : sizeI 43 a0 a1 = (a0 + a1, true) := size_of ha hb (by unfold reckI; rw [if_neg (by decide), if_pos rfl, if_neg (by omega), Int.add_comm]) (by omega)
  have s45 : sizeI 45 a0 a1 = (max 0 (a1 - a0), true) := size_of ha hb (by simp [reckI]) (by omega)
  have s60 : sizeI 60 a0 a1 = (min a1 a0, true) := size_of ha hb (by simp [reckI]) (by omega)
  have s62 : sizeI 62 a0 a1 = (max a1 a0, true) := size_of ha hb (by simp [reckI]) (by omega)
  by_cases hz : a0 = 0
  · subst hz
    have s47 : sizeI 47 0 a1 = (0, false) := size_none (by simp [reckI]; rfl)
    have s37 : sizeI 37 0 a1 = (0, false) := size_none (by simp [reckI, upI]; rfl)
    refine law_zero a1 hb.1 hb.2 (fun m => (sizeI m 0 a1).1) (fun m => (sizeI m 0 a1).2) kS (by simp [s0]) (by simp [s0]) (by simp [s43]) (by simp [s43]) (by simp [s45]; omega) (by simp [s45]) (by simp [s60]; omega) (by simp [s60]) (by simp [s62]; omega) (by simp [s62]) (by simp [s47]) (by simp [s47]) (by simp [s37]) (by simp [s37]) w
  · have hp : 1 ≤ a0 := by omega
    have hq : 0 ≤ a1 % a0 ∧ a1 % a0 < a0 := ⟨Int.emod_nonneg _ hz, Int.emod_lt_of_pos _ (by omega)⟩
    have hl := (mod_in a1 a0 hb.1 ha.1).2
    have hd : (a1 - a1 % a0) % a0 = 0 := by rw [Int.sub_emod, Int.emod_emod_of_dvd _ (Int.dvd_refl a0)]; simp
    have s47 : sizeI 47 a0 a1 = (a1 - a1 % a0, true) := size_of ha hb (by simp [reckI]; omega) (by omega)
    obtain ⟨U, s37, u0, u1, u3⟩ : ∃ U, sizeI 37 a0 a1 = (U, true) ∧ a1 ≤ U ∧ U - a1 < a0 ∧ U % a0 = 0 := by
      by_cases q : a1 % a0 = 0
      · exact ⟨a1, size_of ha hb (by simp [reckI, upI, q]; omega) (by omega), by omega, by omega, q⟩
      · refine ⟨a1 - a1 % a0 + a0, size_of ha hb (by unfold reckI upI; rw [if_neg (by decide), if_neg (by decide), if_neg (by decide), if_neg (by decide), if_neg (by decide), if_neg (by decide), if_pos rfl, if_neg (by omega), if_neg q, if_neg (by omega)]) (by omega), by omega, by omega, ?_⟩
        rw [Int.add_emod_right]; exact hd
    by_cases hm : a1 - a0 < 0
    · exact law_less a0 a1 (min a1 a0) (max a1 a0) (a1 - a1 % a0) U hp ha.2 hb.1 hb.2 hm (fun m => (sizeI m a0 a1).1) (fun m => (sizeI m a0 a1).2) kS (by simp [s0]) (by simp [s0]) (by simp [s43]) (by simp [s43]) (by simp [s45]; omega) (by simp [s45]) (by simp [s60]) (by simp [s60]) (by simp [s62]) (by simp [s62]) (by simp [s47]) (by simp [s47]) (by simp [s37]) (by simp [s37])
        (by omega) (by omega) (by omega) (by omega) (by omega) (by omega) (by omega) hd u0 u1 u3 w
    · exact law_more a0 a1 (min a1 a0) (max a1 a0) (a1 - a1 % a0) U hp ha.2 hb.1 hb.2 (by omega) (fun m => (sizeI m a0 a1).1) (fun m => (sizeI m a0 a1).2) kS (by simp [s0]) (by simp [s0]) (by simp [s43]) (by simp [s43]) (by simp [s45]; omega) (by simp [s45]) (by simp [s60]) (by simp [s60]) (by simp [s62]) (by simp [s62]) (by simp [s47]) (by simp [s47]) (by simp [s37]) (by simp [s37])
        (by omega) (by omega) (by omega) (by omega) (by omega) (by omega) (by omega) hd u0 u1 u3 w
def laid : List (String × DataW Unit) := Rows.truncModsRow.laid
theorem own : ownKnob Tryz.prog.godebug = none := by kernel_rfl
set_option maxRecDepth 100000 in
theorem lifted (os : Os) (started : os.Started) (H : Type) (enc : TypeId × Value → H) :
    ReturnsInHanded {} Tryz.checked os 7 .any (fun w args => (Rows.truncModsSpec.pre enc Tryz.prog Tryz.f7 [] false w args ∧ laidMetH Tryz.prog laid w) ∧ sizedMet enc Tryz.prog Tryz.f7 (OpenSpec.ofChange Rows.truncModsSpec) false w args)
      (Rows.truncModsSpec.post enc Tryz.prog Tryz.f7 false true false false) := by
  refine returnsInHanded_of_change_and (C := Tryz.checked) (X := fun w _ => laidMetH Tryz.prog laid w) (fun _ _ _ hh h => h.of_heap hh) own started (by kernel_rfl) Tryz.func7
    (ChangeSpec.witness_shaped (enc := enc) (C := Tryz.checked) (os := os) (X := fun w _ => laidMetH Tryz.prog laid w) false (World.laidAll Tryz.prog os laid) #[.int .u32 0, .int .u32 0] 8 (World.laidAll_os _ _ _)
      (World.shaped_of_ZipB (by kernel_rfl) (by kernel_rfl)) (by kernel_rfl) (by kernel_rfl) (by kernel_rfl)
      (by rw [MakeChecks.laidMetH_plain _ _ _ (by kernel_rfl)]; exact laidMet_laidAll _ (by kernel_rfl) (by kernel_rfl))) ?_
  intro W base args ds gs before hval0 hW _ _ hL _
  have hval : ∀ (j : Nat) t v, Tryz.f7.params[j]? = some t → args[j]? = some v → Value.okWide Tryz.prog W .any base t v := hval0
  have hW' := hW
  obtain ⟨p, q, hA0, hV, rfl, _, _⟩ := hW
  have hA : DataW.TrodAll enc Tryz.prog W 0 (fun _ => true) true Tryz.f7.params.toList args.toList ds p := hA0
  rw [Tryz.params7] at hA hval
  obtain ⟨v0, vs0, d0, ds0, p0, q0, hargs, rfl, rfl, h0, r0⟩ := trodAll_cons hA
  obtain ⟨v1, vs1, d1, ds1, p1, q1, rfl, rfl, rfl, h1, r1⟩ := trodAll_cons r0
  obtain ⟨rfl, rfl, rfl⟩ := trodAll_nil r1
  obtain rfl : args = #[v0, v1] := by cases args; simp_all
  obtain ⟨rfl, rfl⟩ := trodVars_none hV
  obtain ⟨a0, rfl, rfl, rfl, w0⟩ := open_int Tryz.underlying53 (hval 0 53 v0 rfl rfl) h0
  obtain ⟨a1, rfl, rfl, rfl, w1⟩ := open_int Tryz.underlying53 (hval 1 53 v1 rfl rfl) h1
  clear hA0 hval0
  simp only [List.append_nil] at hW'
  refine (walk a0 a1 w0 w1 W).mono fun e W' ⟨he, hb⟩ => ?_
  subst he
  exact ⟨_, rfl, _, _, _, [], _, [], hW', trodAll_mk1 (shut_bool Tryz.underlying4 _), (trodAll_cons_mk (shut_int Tryz.underlying53 w0) (trodAll_cons_mk (shut_int Tryz.underlying53 w1) trodAll_mk0)), rfl, hb.frame _, fun h => by cases h⟩

theorem over : Rows.truncModsRow.holds Tryz.pinned (OpenSpec.ofChange Rows.truncModsSpec) :=
  OpenClaim.holds_of_wide 7 Tryz.f7 rfl rfl rfl rfl rfl rfl rfl ⟨rfl, rfl, rfl, rfl, rfl⟩ rfl rfl rfl rfl rfl (by kernel_rfl) Tryz.func7 (by kernel_rfl)
    (of_decide_eq_true (by kernel_rfl)) (by unfold Func.isWrapper; first | (rw [if_pos (by decide +kernel)]; kernel_rfl) | (rw [if_neg (by decide +kernel)]; exact ⟨rfl, rfl⟩))
    (fun os started H enc _ => lifted os started H enc)
theorem proved : Rows.TruncModsCardSaid :=
  Claim7.holds_tied_plain_at .later [] [.data, .data, .data, .data, .sentinel, .sentinel, .pinned] true (true, "47845ce40dfe7fa251363c12783d8e9c2f91766cfaf2cf3293e72df6c3bffd7e") true over (fun _ h => by cases h) (by kernel_rfl) (fun _ h => by cases h) truncMods_row_tie rfl ⟨rfl, rfl⟩ (by kernel_rfl) rfl
    (fun f fn hf hfn => by
      obtain rfl : f = 7 := Option.some.inj ((show Tryz.prog.funcNamed "salvor/salvorlaw28.TruncMods" = some 7 by kernel_rfl).symm.trans hf) |>.symm
      obtain rfl : fn = Tryz.f7 := (Option.some.inj (Tryz.func7.symm.trans hfn)).symm
      exact ⟨by kernel_rfl, fun j t ht => by
        rw [Tryz.params7] at ht
        rcases j with _ | _ | _ | _ | _ <;> simp at ht <;> (subst ht; kernel_rfl)⟩)
    (by kernel_rfl)
#print axioms proved
end Go.Proofs.YtkldmbgeldgfhaaGreatDoor.truncMods
