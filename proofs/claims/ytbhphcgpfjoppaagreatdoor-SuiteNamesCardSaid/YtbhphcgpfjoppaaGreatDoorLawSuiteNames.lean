/- No other command is one, and changes nothing: the call returns true, whatever its arguments. -/
import Derived.Test.YtbhphcgpfjoppaaGreatDoorSuiteNamesN0
import Derived.Test.YtbhphcgpfjoppaaGreatDoorSuiteNamesN1
import Derived.Test.YtbhphcgpfjoppaaGreatDoorSuiteNamesN3
import Derived.Test.YtbhphcgpfjoppaaGreatDoorSnWalk
import Derived.ProofKit
import Derived.OpenShut
import Derived.Test.YtbhphcgpfjoppaaGreatDoorLaid
import Derived.Test.YtbhphcgpfjoppaaGreatDoorCards
import Derived.Test.YtbhphcgpfjoppaaGreatDoorTie
import Derived.WalkKit
import Derived.KernelRfl
import Derived.Lay
import Derived.LaidMore
import Derived.LaidOnce
import Derived.SevenTiedAt
import Derived.SliceStrings
import Derived.ChangeMaps5
import Derived.Carry

/- SuiteNames: the program's facts together, and the walk. -/
namespace Go.Proofs.YtbhphcgpfjoppaaGreatDoor.suiteNamesM
open Go Go.ChangeShapes Go.WideShapes Go.ChangeAt Go.RowKit
set_option linter.unusedVariables false
theorem joined1 : joinedFacts Tryz.prog 5 Tryz.f5 Rows.suiteNamesSpec Rows.suiteNamesRow = true := by
  unfold joinedFacts
  exact (suiteRunsM.band (suiteRunsM.band (suiteRunsM.band (suiteRunsM.band (suiteRunsM.band (suiteRunsM.band (suiteRunsM.band (suiteRunsM.band (suiteRunsM.band (suiteRunsM.band (suiteRunsM.band (suiteRunsM.band (suiteRunsM.band (suiteRunsM.band (suiteRunsM.band (suiteRunsM.band (suiteRunsM.band (suiteRunsM.band (suiteRunsM.band (suiteRunsM.band (suiteRunsM.band (suiteRunsM.band (suiteRunsM.band (suiteRunsM.band (suiteRunsM.band (suiteRunsM.band (suiteRunsM.band (suiteRunsM.band (suiteRunsM.band (suiteRunsM.band (suiteRunsM.band limb0 suiteRunsM.limb1) suiteRunsM.limb2) limb3) limb4) limb5) suiteRunsM.limb6) limb7) suiteRunsM.limb8) limb9) limb10) limb11) limb12) (by kernel_rfl)) (by kernel_rfl)) (by kernel_rfl)) (by kernel_rfl)) (by kernel_rfl)) (by kernel_rfl)) (by kernel_rfl)) (by kernel_rfl)) (by kernel_rfl)) limb22) (by kernel_rfl)) suiteRunsM.limb24) suiteRunsM.limb25) limb26) limb27) (by kernel_rfl)) (by kernel_rfl)) (by kernel_rfl)) (by kernel_rfl))
def laidE : List (String × DataW Unit) := laid.filter fun x => x.1 == "math/bits.deBruijn64tab" || x.1 == "strconv.ErrRange" || x.1 == "strconv.ErrSyntax"
theorem laidE_gs : laidGs Tryz.prog laidE = suiteNames.gs := by kernel_rfl
theorem walk {w : World} (hL : laidMetH Tryz.prog laid w) (s : ByteArray) {v : Value} (hv : suiteNames.Strs w v) : Calls Tryz.prog 5 #[.string s, v] w fun e w' => e = .returned (.bool true) ∧ Below w.heap.size w w' := by
  rw [MakeChecks.laidMetH_plain _ _ _ (by kernel_rfl)] at hL
  obtain ⟨ps, hps, _⟩ := hL
  obtain ⟨ps2, h2⟩ := laidVars_some (fun x => x.1 == "math/bits.deBruijn64tab" || x.1 == "strconv.ErrRange" || x.1 == "strconv.ErrSyntax") hps
  exact suiteNames.walk laidE_gs h2 s hv
end Go.Proofs.YtbhphcgpfjoppaaGreatDoor.suiteNamesM

/- No other command is one, and changes nothing: the call returns true, whatever its arguments. -/
namespace Go.Proofs.YtbhphcgpfjoppaaGreatDoor.suiteNames
open Go.Proofs.YtbhphcgpfjoppaaGreatDoor.suiteNamesM
open Go.ChangeShapes Go.WideShapes Go.ChangeAt Go.RowKit
set_option linter.unusedVariables false

theorem str_cells : Tryz.prog.cellsOf 9 = 1 := by kernel_rfl
set_option maxRecDepth 100000 in
theorem strs_of {H : Type} {enc : TypeId × Value → H} {w : World} {sp : Nat → Bool} {held : Bool} {v : Value} {d : DataW H} {ps : List MemPlace} {r : Reach} {b0 : Nat} (hval : Value.okWide Tryz.prog w r b0 53 v) (h : DataW.Trod enc Tryz.prog w 0 sp held 53 v d ps) : Strs w v := by
  obtain ⟨a', n', c', rfl⟩ := okWide_slice Tryz.underlying53 hval
  obtain ⟨fuel, hf⟩ := h
  rcases open_strings Tryz.underlying53 Tryz.underlying9 str_cells hf with ⟨hc, _⟩ | ⟨a, len, cap, ss, hc, _, hle, _, hlen, _, hat, _⟩
  · obtain ⟨rfl, rfl, rfl⟩ : a' = none ∧ n' = 0 ∧ c' = 0 := by simpa [Value.cells] using hc
    exact .inl rfl
  · obtain ⟨rfl, rfl, rfl⟩ : a' = some a ∧ n' = len ∧ c' = cap := by simpa [Value.cells] using hc
    rcases Nat.eq_zero_or_pos n' with h0 | h0
    · subst h0; exact .inr (.inl ⟨a, c', rfl⟩)
    · have hll : n' ≤ ss.length := by rw [hlen]; split <;> omega
      have cell : ∀ i, i < n' → ∃ cc t fr, w.heap[a.block]? = some (.cells cc t fr) ∧ a.spot = none ∧ cc[a.off + i]? = some (.string (ss.getD i ByteArray.empty)) := fun i hi => by
        have h1 := hat i (by omega)
        have h2 := hat 0 (by omega)
        have ea : a.add 0 = a := rfl
        rw [ea] at h2
        unfold World.cell? at h1 h2
        have eb : (a.add i).block = a.block := by unfold Addr.add; split <;> rfl
        rw [eb] at h1
        split at h2
        · rename_i cc t fr hh
          rw [hh] at h1
          simp only at h1
          cases hsp : a.spot with
          | some x => rw [hsp] at h2; simp at h2
          | none =>
            refine ⟨cc, t, fr, hh, rfl, ?_⟩
            have e1 : (a.add i).spot = none := by unfold Addr.add; split; exact hsp; rfl
            have e2 : (a.add i).off = a.off + i := by unfold Addr.add; split; omega; rfl
            rw [e1, e2] at h1
            simpa using h1
        · cases h2
      obtain ⟨cc, t, fr, hh, hsp, _⟩ := cell 0 h0
      obtain ⟨b, o, sp'⟩ := a
      obtain rfl : sp' = none := hsp
      have all : ∀ i, i < n' → cc[o + i]? = some (.string (ss.getD i ByteArray.empty)) := fun i hi => by
        obtain ⟨cc2, t2, fr2, hh2, _, hc2⟩ := cell i hi
        rw [hh] at hh2
        cases hh2
        exact hc2
      refine .inr (.inr ⟨b, o, n', c', ss.take n', cc, t, fr, rfl, h0, hle, hh, ?_, by simp; omega, fun i hi => ?_⟩)
      · have := (Array.getElem?_eq_some_iff.1 (all (n' - 1) (by omega))).1
        omega
      · rw [all i hi]
        simp only [List.getD_eq_getElem?_getD, List.getElem?_take, hi, if_true]
theorem own : ownKnob Tryz.prog.godebug = none := by kernel_rfl
set_option maxRecDepth 100000 in
theorem lifted (os : Os) (started : os.Started) (H : Type) (enc : TypeId × Value → H) :
    ReturnsInHanded {} Tryz.checked os 5 .any (fun w args => (Rows.suiteNamesSpec.pre enc Tryz.prog Tryz.f5 [] false w args ∧ laidMetH Tryz.prog laid w) ∧ sizedMet enc Tryz.prog Tryz.f5 (OpenSpec.ofChange Rows.suiteNamesSpec) false w args)
      (Rows.suiteNamesSpec.post enc Tryz.prog Tryz.f5 false true false false) := by
  refine returnsInHanded_of_change_and (C := Tryz.checked) (X := fun w _ => laidMetH Tryz.prog laid w) (fun _ _ _ hh h => h.of_heap hh) own started (by kernel_rfl) Tryz.func5
    (ChangeSpec.witness_shaped (enc := enc) (C := Tryz.checked) (os := os) (X := fun w _ => laidMetH Tryz.prog laid w) false (World.laidAll Tryz.prog os laid) #[.string ⟨#[]⟩, .slice none 0 0] 8 (World.laidAll_os _ _ _)
      (World.shaped_of_ZipB (shape1 os) (shape2 os)) (by kernel_rfl) (by kernel_rfl) (by kernel_rfl)
      (by rw [MakeChecks.laidMetH_plain _ _ _ (by kernel_rfl)]; exact laidMet_laidAll _ (met1 os) (met2 os))) ?_
  intro W base args ds gs before hval0 hW _ _ hL _
  have hval : ∀ (j : Nat) t v, Tryz.f5.params[j]? = some t → args[j]? = some v → Value.okWide Tryz.prog W .any base t v := hval0
  have hW' := hW
  obtain ⟨p, q, hA0, hV, rfl, _, _⟩ := hW
  have hA : DataW.TrodAll enc Tryz.prog W 0 (fun _ => true) true Tryz.f5.params.toList args.toList ds p := hA0
  rw [Tryz.params5] at hA hval
  obtain ⟨v0, vs0, d0, ds0, p0, q0, hargs, rfl, rfl, h0, r0⟩ := trodAll_cons hA
  obtain ⟨v1, vs1, d1, ds1, p1, q1, rfl, rfl, rfl, h1, r1⟩ := trodAll_cons r0
  obtain ⟨rfl, rfl, rfl⟩ := trodAll_nil r1
  obtain rfl : args = #[v0, v1] := by cases args; simp_all
  obtain ⟨rfl, rfl⟩ := trodVars_none hV
  obtain ⟨s, rfl, rfl, rfl, ws⟩ := Go.ChangeMaps.open_string Tryz.underlying9 (hval 0 9 v0 rfl rfl) h0
  have hs : Strs W v1 := strs_of (hval 1 53 v1 rfl rfl) h1
  clear hA0 hval0
  simp only [List.append_nil] at hW'
  have hlt := hW'.lt
  refine (suiteNamesM.walk hL s hs).mono fun e W' ⟨he, hb⟩ => ?_
  subst he
  refine ⟨_, rfl, _, _, _, [], _, [], hW', trodAll_mk1 (shut_bool Tryz.underlying4 _), (trodAll_cons_mk (Go.ChangeMaps.shut_string Tryz.underlying9 ws) (trodAll_cons_mk (Below.trod suiteRunsM.limb1 (by kernel_rfl) (of_decide_eq_true (by kernel_rfl)) h1 hb (fun x hx => hlt x ?_)) trodAll_mk0)), rfl, hb.frame _, fun h => by cases h⟩
  simp only [List.mem_append, List.append_nil, List.nil_append] at hx ⊢; simp [hx]

theorem over : Rows.suiteNamesRow.holds Tryz.pinned (OpenSpec.ofChange Rows.suiteNamesSpec) :=
  OpenClaim.holds_of_wide 5 Tryz.f5 rfl rfl rfl rfl rfl rfl rfl ⟨rfl, rfl, rfl, rfl, rfl⟩ rfl rfl rfl rfl rfl named1 Tryz.func5 joined1
    (of_decide_eq_true (by kernel_rfl)) (by unfold Func.isWrapper; first | (rw [if_pos (by decide +kernel)]; kernel_rfl) | (rw [if_neg (by decide +kernel)]; exact ⟨rfl, rfl⟩))
    (fun os started H enc _ => lifted os started H enc)
theorem proved : Rows.SuiteNamesCardSaid :=
  Claim7.holds_tied_plain_at .later [] [.data, .data, .data, .data, .sentinel, .sentinel, .pinned, .pinned] true (true, "d5ae17681ed6529dea53a5900139dfd2db575d63baa10ef19b4d7818c4783ce6") true over (fun _ h => by cases h) text1 (fun _ h => by cases h) suiteNames_row_tie rfl ⟨rfl, rfl⟩ suiteRunsM.main1 rfl
    (fun f fn hf hfn => by
      obtain rfl : f = 5 := Option.some.inj ((named1).symm.trans hf) |>.symm
      obtain rfl : fn = Tryz.f5 := (Option.some.inj (Tryz.func5.symm.trans hfn)).symm
      exact ⟨suiteRunsM.looks1, fun j t ht => by
        rw [Tryz.params5] at ht
        rcases j with _ | _ | _ <;> simp at ht <;> (subst ht; kernel_rfl)⟩)
    goes1
#print axioms proved
end Go.Proofs.YtbhphcgpfjoppaaGreatDoor.suiteNames

