import Derived.Test.YtmefkfilclkgeaaPat
import Derived.Test.YtmefkfilclkgeaaLawPatternRuns
import Derived.OpenShut
import Derived.ShutString
namespace Go.Proofs.Ytmefkfilclkgeaa.patternPasses
open Go.ChangeShapes Go.WideShapes Go.ChangeAt Go.RowKit
open Go.Proofs.Ytmefkfilclkgeaa.pattern
set_option linter.unusedVariables false
/-- since a world, nothing that was there has turned -/
def Since (w w' : World) : Prop := Below w.heap.size w w'
theorem Since.refl (w : World) : Since w w := Below.refl _ _
theorem Since.on {w w1 w2 : World} (h : Since w w1) (k : Below w1.heap.size w1 w2) : Since w w2 := Below.trans h (k.mono h.size)
theorem no_case (s o p q k : Int) (h : q ≤ p) (hp : 0 ≤ p ∧ p ≤ 255) (hq : 0 ≤ q ∧ q ≤ 255) (hk : 0 ≤ k ∧ k ≤ 65535) (w : World) :
    Calls Try.prog 6 #[.int .u64 s, .int .u64 o, .int .u8 p, .int .u8 q, .int .u16 k] w fun e w' => e = .returned (.bool true) ∧ Since w w' := by
  obtain ⟨hp, hp2⟩ := hp
  obtain ⟨hq, hq2⟩ := hq
  obtain ⟨hk, hk2⟩ := hk
  have hS : Since w w := .refl w
  go_enter Try.func6, Try.ntmps6
  go_wp2_with (first | (go_at_call 12; refine (byte_no _ _ _ _ (by omega) _).mono ?_; rintro e w' ⟨rfl, rfl⟩) | (go_at_call 3; refine (patternRuns.walk _).mono ?_; rintro e w' ⟨rfl, hb⟩; replace hS := hS.on hb; clear hb))
  go_ret
  exact ⟨rfl, hS⟩

theorem last_eq (s p k : Int) (hp : 0 ≤ p ∧ p + 1 ≤ 255) (hk : 0 ≤ k ∧ k ≤ 65535) (w : World) :
    Calls Try.prog 6 #[.int .u64 s, .int .u64 s, .int .u8 p, .int .u8 (p + 1), .int .u16 k] w fun e w' => e = .returned (.bool true) ∧ Since w w' := by
  obtain ⟨hp, hp2⟩ := hp
  obtain ⟨hk, hk2⟩ := hk
  have hS : Since w w := .refl w
  have h1 : ¬ p + 1 ≤ p := by omega
  have h2 : (p == p + 1 - 1) = true := by simp
  go_enter Try.func6, Try.ntmps6
  go_wp2_with (first | (go_at_call 12; refine (byte_last _ _ _ (by omega) (by omega) (by omega) _).mono ?_; rintro e w' ⟨rfl, rfl⟩) | (go_at_call 13; refine (noise_walk _ _ _ (by omega) (by omega) _).mono ?_; rintro e w' ⟨rfl, rfl⟩) | (go_at_call 3; refine (patternRuns.walk _).mono ?_; rintro e w' ⟨rfl, hb⟩; replace hS := hS.on hb; clear hb))
  go_ret
  exact ⟨rfl, hS⟩

theorem zero_eq (s p q k : Int) (h : p % 4 = 0) (hp : 0 ≤ p ∧ p + 1 ≤ 255) (hq : p + 1 < q) (hq2 : q ≤ 255) (hk : 0 ≤ k ∧ k ≤ 65535) (w : World) :
    Calls Try.prog 6 #[.int .u64 s, .int .u64 s, .int .u8 p, .int .u8 q, .int .u16 k] w fun e w' => e = .returned (.bool true) ∧ Since w w' := by
  obtain ⟨hp, hp2⟩ := hp
  obtain ⟨hk, hk2⟩ := hk
  have hS : Since w w := .refl w
  have h1 : ¬ q ≤ p := by omega
  have h2 : (p == q - 1) = false := by simp; omega
  have h5 : Int.tmod p 4 = 0 := by rw [Int.tmod_eq_emod_of_nonneg hp]; exact h
  go_enter Try.func6, Try.ntmps6
  go_wp2_with (first | (go_at_call 12; refine (byte_0 _ _ _ _ (by omega) (by omega) (by omega) (by omega) h _).mono ?_; rintro e w' ⟨rfl, rfl⟩) | (go_at_call 13; refine (noise_walk _ _ _ (by omega) (by omega) _).mono ?_; rintro e w' ⟨rfl, rfl⟩) | (go_at_call 3; refine (patternRuns.walk _).mono ?_; rintro e w' ⟨rfl, hb⟩; replace hS := hS.on hb; clear hb))
  go_ret
  exact ⟨rfl, hS⟩

theorem last_ne (s o p k : Int) (hn : ¬ s = o) (hp : 0 ≤ p ∧ p + 1 ≤ 255) (hk : 0 ≤ k ∧ k ≤ 65535) (w : World) :
    Calls Try.prog 6 #[.int .u64 s, .int .u64 o, .int .u8 p, .int .u8 (p + 1), .int .u16 k] w fun e w' => e = .returned (.bool true) ∧ Since w w' := by
  obtain ⟨hp, hp2⟩ := hp
  obtain ⟨hk, hk2⟩ := hk
  have hS : Since w w := .refl w
  have h1 : ¬ p + 1 ≤ p := by omega
  have h2 : (p == p + 1 - 1) = true := by simp
  go_enter Try.func6, Try.ntmps6
  go_wp2_with (first | (go_at_call 12; refine (byte_last _ _ _ (by omega) (by omega) (by omega) _).mono ?_; rintro e w' ⟨rfl, rfl⟩) | (go_at_call 13; refine (noise_walk _ _ _ (by omega) (by omega) _).mono ?_; rintro e w' ⟨rfl, rfl⟩) | (go_at_call 3; refine (patternRuns.walk _).mono ?_; rintro e w' ⟨rfl, hb⟩; replace hS := hS.on hb; clear hb))
  go_ret
  exact ⟨rfl, hS⟩

theorem zero_ne (s o p q k : Int) (hn : ¬ s = o) (h : p % 4 = 0) (hp : 0 ≤ p ∧ p + 1 ≤ 255) (hq : p + 1 < q) (hq2 : q ≤ 255) (hk : 0 ≤ k ∧ k ≤ 65535) (w : World) :
    Calls Try.prog 6 #[.int .u64 s, .int .u64 o, .int .u8 p, .int .u8 q, .int .u16 k] w fun e w' => e = .returned (.bool true) ∧ Since w w' := by
  obtain ⟨hp, hp2⟩ := hp
  obtain ⟨hk, hk2⟩ := hk
  have hS : Since w w := .refl w
  have h1 : ¬ q ≤ p := by omega
  have h2 : (p == q - 1) = false := by simp; omega
  have h5 : Int.tmod p 4 = 0 := by rw [Int.tmod_eq_emod_of_nonneg hp]; exact h
  go_enter Try.func6, Try.ntmps6
  go_wp2_with (first | (go_at_call 12; refine (byte_0 _ _ _ _ (by omega) (by omega) (by omega) (by omega) h _).mono ?_; rintro e w' ⟨rfl, rfl⟩) | (go_at_call 13; refine (noise_walk _ _ _ (by omega) (by omega) _).mono ?_; rintro e w' ⟨rfl, rfl⟩) | (go_at_call 3; refine (patternRuns.walk _).mono ?_; rintro e w' ⟨rfl, hb⟩; replace hS := hS.on hb; clear hb))
  go_ret
  exact ⟨rfl, hS⟩

theorem mid_1 (s o p q k : Int) (h : p % 4 = 1) (hp : 0 ≤ p ∧ p + 1 ≤ 255) (hq : p + 1 < q) (hq2 : q ≤ 255) (hk : 0 ≤ k ∧ k ≤ 65535) (w : World) :
    Calls Try.prog 6 #[.int .u64 s, .int .u64 o, .int .u8 p, .int .u8 q, .int .u16 k] w fun e w' => e = .returned (.bool true) ∧ Since w w' := by
  obtain ⟨hp, hp2⟩ := hp
  obtain ⟨hk, hk2⟩ := hk
  have hS : Since w w := .refl w
  have h1 : ¬ q ≤ p := by omega
  have h2 : (p == q - 1) = false := by simp; omega
  have h5 : Int.tmod p 4 = 1 := by rw [Int.tmod_eq_emod_of_nonneg hp]; exact h
  go_enter Try.func6, Try.ntmps6
  go_wp2_with (first | (go_at_call 12; refine (byte_1 _ _ _ _ (by omega) (by omega) (by omega) (by omega) h _).mono ?_; rintro e w' ⟨rfl, rfl⟩) | (go_at_call 3; refine (patternRuns.walk _).mono ?_; rintro e w' ⟨rfl, hb⟩; replace hS := hS.on hb; clear hb))
  go_ret
  exact ⟨rfl, hS⟩

theorem mid_2 (s o p q k : Int) (h : p % 4 = 2) (hp : 0 ≤ p ∧ p + 1 ≤ 255) (hq : p + 1 < q) (hq2 : q ≤ 255) (hk : 0 ≤ k ∧ k ≤ 65535) (w : World) :
    Calls Try.prog 6 #[.int .u64 s, .int .u64 o, .int .u8 p, .int .u8 q, .int .u16 k] w fun e w' => e = .returned (.bool true) ∧ Since w w' := by
  obtain ⟨hp, hp2⟩ := hp
  obtain ⟨hk, hk2⟩ := hk
  have hS : Since w w := .refl w
  have h1 : ¬ q ≤ p := by omega
  have h2 : (p == q - 1) = false := by simp; omega
  have h5 : Int.tmod p 4 = 2 := by rw [Int.tmod_eq_emod_of_nonneg hp]; exact h
  go_enter Try.func6, Try.ntmps6
  go_wp2_with (first | (go_at_call 12; refine (byte_2 _ _ _ _ (by omega) (by omega) (by omega) (by omega) h _).mono ?_; rintro e w' ⟨rfl, rfl⟩) | (go_at_call 3; refine (patternRuns.walk _).mono ?_; rintro e w' ⟨rfl, hb⟩; replace hS := hS.on hb; clear hb))
  go_ret
  exact ⟨rfl, hS⟩

theorem mid_30 (s o p q k : Int) (h : p % 4 = 3) (hr : k % 3 = 0) (hp : 0 ≤ p ∧ p + 1 ≤ 255) (hq : p + 1 < q) (hq2 : q ≤ 255) (hk : 0 ≤ k ∧ k ≤ 65535) (w : World) :
    Calls Try.prog 6 #[.int .u64 s, .int .u64 o, .int .u8 p, .int .u8 q, .int .u16 k] w fun e w' => e = .returned (.bool true) ∧ Since w w' := by
  obtain ⟨hp, hp2⟩ := hp
  obtain ⟨hk, hk2⟩ := hk
  have hS : Since w w := .refl w
  have h1 : ¬ q ≤ p := by omega
  have h2 : (p == q - 1) = false := by simp; omega
  have h5 : Int.tmod p 4 = 3 := by rw [Int.tmod_eq_emod_of_nonneg hp]; exact h
  go_enter Try.func6, Try.ntmps6
  go_wp2_with (first | (go_at_call 12; refine (byte_30 _ _ _ _ (by omega) (by omega) (by omega) (by omega) h (by omega) _).mono ?_; rintro e w' ⟨rfl, hb⟩; replace hS := hS.on hb; clear hb) | (go_at_call 3; refine (patternRuns.walk _).mono ?_; rintro e w' ⟨rfl, hb⟩; replace hS := hS.on hb; clear hb))
  go_ret
  exact ⟨rfl, hS⟩

theorem mid_31 (s o p q k : Int) (h : p % 4 = 3) (hr : k % 3 = 1) (hp : 0 ≤ p ∧ p + 1 ≤ 255) (hq : p + 1 < q) (hq2 : q ≤ 255) (hk : 0 ≤ k ∧ k ≤ 65535) (w : World) :
    Calls Try.prog 6 #[.int .u64 s, .int .u64 o, .int .u8 p, .int .u8 q, .int .u16 k] w fun e w' => e = .returned (.bool true) ∧ Since w w' := by
  obtain ⟨hp, hp2⟩ := hp
  obtain ⟨hk, hk2⟩ := hk
  have hS : Since w w := .refl w
  have h1 : ¬ q ≤ p := by omega
  have h2 : (p == q - 1) = false := by simp; omega
  have h5 : Int.tmod p 4 = 3 := by rw [Int.tmod_eq_emod_of_nonneg hp]; exact h
  go_enter Try.func6, Try.ntmps6
  go_wp2_with (first | (go_at_call 12; refine (byte_31 _ _ _ _ (by omega) (by omega) (by omega) (by omega) h (by omega) _).mono ?_; rintro e w' ⟨rfl, hb⟩; replace hS := hS.on hb; clear hb) | (go_at_call 3; refine (patternRuns.walk _).mono ?_; rintro e w' ⟨rfl, hb⟩; replace hS := hS.on hb; clear hb))
  go_ret
  exact ⟨rfl, hS⟩

theorem mid_32 (s o p q k : Int) (h : p % 4 = 3) (hr : k % 3 = 2) (hp : 0 ≤ p ∧ p + 1 ≤ 255) (hq : p + 1 < q) (hq2 : q ≤ 255) (hk : 0 ≤ k ∧ k ≤ 65535) (w : World) :
    Calls Try.prog 6 #[.int .u64 s, .int .u64 o, .int .u8 p, .int .u8 q, .int .u16 k] w fun e w' => e = .returned (.bool true) ∧ Since w w' := by
  obtain ⟨hp, hp2⟩ := hp
  obtain ⟨hk, hk2⟩ := hk
  have hS : Since w w := .refl w
  have h1 : ¬ q ≤ p := by omega
  have h2 : (p == q - 1) = false := by simp; omega
  have h5 : Int.tmod p 4 = 3 := by rw [Int.tmod_eq_emod_of_nonneg hp]; exact h
  go_enter Try.func6, Try.ntmps6
  go_wp2_with (first | (go_at_call 12; refine (byte_32 _ _ _ _ (by omega) (by omega) (by omega) (by omega) h (by omega) _).mono ?_; rintro e w' ⟨rfl, hb⟩; replace hS := hS.on hb; clear hb) | (go_at_call 3; refine (patternRuns.walk _).mono ?_; rintro e w' ⟨rfl, hb⟩; replace hS := hS.on hb; clear hb))
  go_ret
  exact ⟨rfl, hS⟩

theorem any (s o p q k : Int) (hp : 0 ≤ p ∧ p ≤ 255) (hq : 0 ≤ q ∧ q ≤ 255) (hk : 0 ≤ k ∧ k ≤ 65535) (w : World) :
    Calls Try.prog 6 #[.int .u64 s, .int .u64 o, .int .u8 p, .int .u8 q, .int .u16 k] w fun e w' => e = .returned (.bool true) ∧ Since w w' := by
  by_cases h : q ≤ p
  · exact no_case s o p q k h hp hq hk w
  by_cases h1 : q = p + 1
  · subst h1
    by_cases h2 : s = o
    · subst h2; exact last_eq s p k (by omega) hk w
    · exact last_ne s o p k h2 (by omega) hk w
  by_cases h3 : p % 4 = 0
  · by_cases h2 : s = o
    · subst h2; exact zero_eq s p q k h3 (by omega) (by omega) (by omega) hk w
    · exact zero_ne s o p q k h2 h3 (by omega) (by omega) (by omega) hk w
  by_cases h4 : p % 4 = 1
  · exact mid_1 s o p q k h4 (by omega) (by omega) (by omega) hk w
  by_cases h5 : p % 4 = 2
  · exact mid_2 s o p q k h5 (by omega) (by omega) (by omega) hk w
  by_cases h6 : k % 3 = 0
  · exact mid_30 s o p q k (by omega) h6 (by omega) (by omega) (by omega) hk w
  by_cases h7 : k % 3 = 1
  · exact mid_31 s o p q k (by omega) h7 (by omega) (by omega) (by omega) hk w
  exact mid_32 s o p q k (by omega) (by omega) (by omega) (by omega) (by omega) hk w
theorem own : ownKnob Try.prog.godebug = none := by kernel_rfl
theorem walk (a0 : Int) (a1 : Int) (a2 : Int) (a3 : Int) (a4 : Int) (w0 : (Lit.int .u64 a0).wf = true) (w1 : (Lit.int .u64 a1).wf = true) (w2 : (Lit.int .u8 a2).wf = true) (w3 : (Lit.int .u8 a3).wf = true) (w4 : (Lit.int .u16 a4).wf = true) (w : World) :
    Calls Try.prog 6 #[.int .u64 a0, .int .u64 a1, .int .u8 a2, .int .u8 a3, .int .u16 a4] w fun e w' => e = .returned (.bool true) ∧ Below w.heap.size w w' := by
  simp only [Lit.wf, Bool.and_eq_true, decide_eq_true_eq, show IntKind.u8.min = 0 from rfl, show IntKind.u8.max = 255 from rfl, show IntKind.u16.min = 0 from rfl, show IntKind.u16.max = 65535 from rfl] at w2 w3 w4
  exact any _ _ _ _ _ w2 w3 w4 w
/-! ### THE ROW's STEP: WRITTEN OUT: LEAVE IT -/
set_option maxRecDepth 100000 in
theorem lifted (os : Os) (started : os.Started) (H : Type) (enc : TypeId × Value → H) :
    ReturnsInHanded {} Try.checked os 6 .any (Rows.patternPassesSpec.pre6 enc Try.prog Try.f6 Rows.patternPassesRow.domain false) (Rows.patternPassesSpec.post enc Try.prog Try.f6 false true false false) := by
  refine returnsInHanded_of_change (C := Try.checked) own started (by kernel_rfl) Try.func6
    (ChangeSpec.witness6 (enc := enc) (C := Try.checked) false ⟨#[], #[.int .u64 0, .int .u64 0, .int .u8 0, .int .u8 0, .int .u16 0], []⟩ 8 (by kernel_rfl) (by kernel_rfl) (by kernel_rfl) (by kernel_rfl)) ?_
  intro W base args ds gs before hval0 hW hcnd _
  have hval : ∀ (j : Nat) t v, Try.f6.params[j]? = some t → args[j]? = some v → Value.okWide Try.prog W .any base t v := hval0
  have hW' := hW
  obtain ⟨p, q, hA0, hV, rfl, hfz, hnd⟩ := hW
  have hA : DataW.TrodAll enc Try.prog W 0 (fun _ => true) true Try.f6.params.toList args.toList ds p := hA0
  rw [Try.params6] at hA hval
  obtain ⟨v0, vs0, d0, ds0, p0, q0, hargs, rfl, rfl, h0, r0⟩ := trodAll_cons hA
  obtain ⟨v1, vs1, d1, ds1, p1, q1, rfl, rfl, rfl, h1, r1⟩ := trodAll_cons r0
  obtain ⟨v2, vs2, d2, ds2, p2, q2, rfl, rfl, rfl, h2, r2⟩ := trodAll_cons r1
  obtain ⟨v3, vs3, d3, ds3, p3, q3, rfl, rfl, rfl, h3, r3⟩ := trodAll_cons r2
  obtain ⟨v4, vs4, d4, ds4, p4, q4, rfl, rfl, rfl, h4, r4⟩ := trodAll_cons r3
  obtain ⟨rfl, rfl, rfl⟩ := trodAll_nil r4
  obtain rfl : args = #[v0, v1, v2, v3, v4] := by cases args; simp_all
  obtain ⟨rfl, rfl⟩ := trodVars_none hV
  obtain ⟨a0, rfl, rfl, rfl, w0⟩ := open_int Try.underlying24 (hval 0 24 v0 rfl rfl) h0
  obtain ⟨a1, rfl, rfl, rfl, w1⟩ := open_int Try.underlying24 (hval 1 24 v1 rfl rfl) h1
  obtain ⟨a2, rfl, rfl, rfl, w2⟩ := open_int Try.underlying5 (hval 2 5 v2 rfl rfl) h2
  obtain ⟨a3, rfl, rfl, rfl, w3⟩ := open_int Try.underlying5 (hval 3 5 v3 rfl rfl) h3
  obtain ⟨a4, rfl, rfl, rfl, w4⟩ := open_int Try.underlying31 (hval 4 31 v4 rfl rfl) h4
  clear hA0 hval0
  simp only [List.append_nil] at hW'
  refine (walk a0 a1 a2 a3 a4 w0 w1 w2 w3 w4 W).mono fun e W' ⟨he, hg⟩ => ?_
  subst he
  exact ⟨_, rfl, _, _, _, [], _, [], hW', trodAll_mk1 (shut_bool Try.underlying4 _), (trodAll_cons_mk (shut_int Try.underlying24 w0) (trodAll_cons_mk (shut_int Try.underlying24 w1) (trodAll_cons_mk (shut_int Try.underlying5 w2) (trodAll_cons_mk (shut_int Try.underlying5 w3) (trodAll_cons_mk (shut_int Try.underlying31 w4) trodAll_mk0))))), rfl, hg.frame _, fun h => by cases h⟩

theorem over : Rows.patternPassesRow.holds Try.pinned (OpenSpec.ofChange Rows.patternPassesSpec) :=
  OpenClaim.holds_of_wide 6 Try.f6 rfl rfl rfl rfl rfl rfl rfl ⟨rfl, rfl, rfl, rfl, rfl⟩ rfl rfl rfl rfl rfl (by kernel_rfl) Try.func6 (by kernel_rfl)
    (of_decide_eq_true (by kernel_rfl)) (by unfold Func.isWrapper; first | (rw [if_pos (by decide +kernel)]; kernel_rfl) | (rw [if_neg (by decide +kernel)]; exact ⟨rfl, rfl⟩))
    (fun os started H enc _ => lifted os started H enc)

/-- ████ THE STATEMENT ████ -/
theorem proved : Rows.PatternPassesSaid :=
  over
#print axioms proved
end Go.Proofs.Ytmefkfilclkgeaa.patternPasses
