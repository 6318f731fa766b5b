/- TruncNew: each way's tests; the call returns true, whatever its arguments. -/
import Derived.Test.YthloojeefdjpjaaGreatDoorTnB
import Derived.Test.YthloojeefdjpjaaGreatDoorTnC
import Derived.Test.YthloojeefdjpjaaGreatDoorTnD
import Derived.Test.YthloojeefdjpjaaGreatDoorTnE
import Derived.Test.YthloojeefdjpjaaGreatDoorTnF
import Derived.Test.YthloojeefdjpjaaGreatDoorTrRun
import Derived.Test.YthloojeefdjpjaaGreatDoorSeY
import Derived.Test.YthloojeefdjpjaaGreatDoorRows

/- TruncNew: each way's tests; the call's tree ends in true. -/
namespace Go.Proofs.YthloojeefdjpjaaGreatDoor.Se
open Go Go.Proofs.YthloojeefdjpjaaGreatDoor Go.RowKit
set_option linter.unusedVariables false
set_option maxRecDepth 1000000
theorem mod_none : (List.range 10).all (fun d => decide (Lib.indexByte [43, 45, 60, 62, 47, 37] (dg d).toNat.toUInt8 ≥ Int.ofNat 0) == false) = true := by kernel_rfl
theorem dig_dg {c : UInt8} (h : isDig c = true) : ∃ d, d < 10 ∧ c = dg d := by
  have := dig_iff.1 h
  refine ⟨c.toNat - 48, by omega, ?_⟩
  unfold dg
  rw [show 48 + (c.toNat - 48) = c.toNat by omega]
  exact UInt8.ofNat_toNat.symm
/-- facts of numbers -/
structure NumF (n : Nat) : Prop where
  a2 : (decide (0 ≤ nI n) && decide (nI n < 100000)) = true
  a3 : decide (([45, 115] : List UInt8).length + (dN n).length ≤ 9223372036854775807) = true
  a4 : decide (Int.ofNat ([45, 115] ++ dN n).length ≥ Int.ofNat 1) = true
  a5 : decide (Int.ofNat ([45, 115] ++ dN n).length ≥ Int.ofNat 2) = true
  a6 : decide (Int.ofNat 0 < Int.ofNat (tX n).length) = true
  a7 : (tV n == []) = false
  a8 : Nat.blt 0 (tV n).length = true
  a9 : decide (Lib.indexByte [43, 45, 60, 62, 47, 37] ((tV n).getD 0 0).toNat.toUInt8 ≥ Int.ofNat 0) = false
  b1 : okD (tV n) = true
  b2 : decide (Int.ofNat (valN (tV n)) ≤ Int.ofNat 4611686018427387904) = true
  b3 : decide (Int.ofNat (valN (tV n)) > Int.ofNat 1099511627776) = false
  b4 : (Int.ofNat (valN (tV n)) == nI n) = true
  b5 : decide (Int.ofNat (valN (tV n)) > Int.ofNat 0) = !(Nat.beq n 0)
theorem num_facts {n : Nat} (hn : n < 65536) : NumF n := by
  have e1 : nI n = Int.ofNat n := i64_nat (by omega)
  have e2 : dN n = decN n := by unfold dN; rw [e1]; rfl
  obtain ⟨ok, val⟩ := dec_ok (n := n) (by omega)
  obtain ⟨d1, d2, d3⟩ := okD_iff.1 ok
  have e3 : tX n = 115 :: decN n := by
    unfold tX
    rw [e2]
    have : ([45, 115] ++ decN n).length - 1 = (decN n).length + 1 := by simp
    rw [this, List.take_succ_cons, List.take_length]
  have e4 : tV n = decN n := by
    unfold tV
    rw [e3]
    simp
  obtain ⟨c, l, hc⟩ : ∃ c l, decN n = c :: l := by
    cases h : decN n with
    | nil => rw [h] at d2; simp at d2
    | cons c l => exact ⟨c, l, rfl⟩
  have hcd : isDig c = true := by
    rw [hc] at d1
    simp only [List.all_cons, Bool.and_eq_true] at d1
    exact d1.1
  refine ⟨?_, ?_, ?_, ?_, ?_, ?_, ?_, ?_, by rw [e4]; exact ok, ?_, ?_, ?_, ?_⟩
  · rw [e1]; simp only [Int.ofNat_eq_natCast, Bool.and_eq_true, decide_eq_true_eq]; omega
  · rw [e2]; simp only [List.length_cons, List.length_nil, decide_eq_true_eq]; omega
  · rw [e2]; simp only [List.length_append, List.length_cons, List.length_nil, Int.ofNat_eq_natCast, decide_eq_true_eq]; omega
  · rw [e2]; simp only [List.length_append, List.length_cons, List.length_nil, Int.ofNat_eq_natCast, decide_eq_true_eq]; omega
  · rw [e3]; simp only [List.length_cons, Int.ofNat_eq_natCast, decide_eq_true_eq]; omega
  · rw [e4, hc]; rfl
  · rw [e4, hc]; rfl
  · rw [e4, hc]
    obtain ⟨d, hd, rfl⟩ := dig_dg hcd
    have := List.all_eq_true.1 mod_none d (by simpa using hd)
    simpa using this
  · rw [e4, val]; simp only [Int.ofNat_eq_natCast, decide_eq_true_eq]; omega
  · rw [e4, val]; simp only [Int.ofNat_eq_natCast, decide_eq_false_iff_not]; omega
  · rw [e4, val, e1]; simp
  · rw [e4, val]
    cases n with
    | zero => rfl
    | succ n =>
      have : Nat.beq (n + 1) 0 = false := rfl
      rw [this]
      simp only [Int.ofNat_eq_natCast, Bool.not_false, decide_eq_true_eq]
      omega
/-- facts of names -/
structure NameF (name : Nat) (long : Bool) : Prop where
  c1 : (Lib.compareBytes (rN name) (rN name) == Int.ofNat 0) = true
  c2 : decide (Lib.compareBytes (rN name) (rN name) < Int.ofNat 0) = false
  c3 : (List.take 1 (rN name) == [45]) = false
  c4 : (List.take 2 (rN name) == [45, 45]) = false
  c5 : Nat.ble 1 (rN name).length = true
  c6 : Nat.ble 2 (rN name).length = long
  c7 : decide (Int.ofNat (rN name).length ≥ Int.ofNat 1) = true
  c8 : decide (Int.ofNat (rN name).length ≥ Int.ofNat 2) = long
  c9 : nameOk_ (rN name) = true
  c0 : (rN name == [45, 45]) = false
theorem name_facts (name : Nat) : NameF name false ∨ NameF name true := by
  have h6 : name % 6 < 6 := Nat.mod_lt _ (by decide)
  generalize hq : name % 6 = q at h6
  have mk : ∀ l, rightL q = l → ∀ b, (Lib.compareBytes l l == Int.ofNat 0) = true → decide (Lib.compareBytes l l < Int.ofNat 0) = false → (List.take 1 l == [45]) = false → (List.take 2 l == [45, 45]) = false → Nat.ble 1 l.length = true → Nat.ble 2 l.length = b →
      decide (Int.ofNat l.length ≥ Int.ofNat 1) = true → decide (Int.ofNat l.length ≥ Int.ofNat 2) = b → nameOk_ l = true → (l == [45, 45]) = false → NameF name b := fun l e b h1 h2 h3 h4 h5 h6 h7 h8 h9 h0 => by
    have er : rN name = l := by unfold rN; rw [hq]; exact e
    exact ⟨by rw [er]; exact h1, by rw [er]; exact h2, by rw [er]; exact h3, by rw [er]; exact h4, by rw [er]; exact h5, by rw [er]; exact h6, by rw [er]; exact h7, by rw [er]; exact h8, by rw [er]; exact h9, by rw [er]; exact h0⟩
  rcases q with _ | _ | _ | _ | _ | _ | q
  · exact .inl (mk _ rfl false (by kernel_rfl) (by kernel_rfl) (by kernel_rfl) (by kernel_rfl) (by kernel_rfl) (by kernel_rfl) (by kernel_rfl) (by kernel_rfl) (by kernel_rfl) (by kernel_rfl))
  · exact .inl (mk _ rfl false (by kernel_rfl) (by kernel_rfl) (by kernel_rfl) (by kernel_rfl) (by kernel_rfl) (by kernel_rfl) (by kernel_rfl) (by kernel_rfl) (by kernel_rfl) (by kernel_rfl))
  · exact .inl (mk _ rfl false (by kernel_rfl) (by kernel_rfl) (by kernel_rfl) (by kernel_rfl) (by kernel_rfl) (by kernel_rfl) (by kernel_rfl) (by kernel_rfl) (by kernel_rfl) (by kernel_rfl))
  · exact .inr (mk _ rfl true (by kernel_rfl) (by kernel_rfl) (by kernel_rfl) (by kernel_rfl) (by kernel_rfl) (by kernel_rfl) (by kernel_rfl) (by kernel_rfl) (by kernel_rfl) (by kernel_rfl))
  · exact .inr (mk _ rfl true (by kernel_rfl) (by kernel_rfl) (by kernel_rfl) (by kernel_rfl) (by kernel_rfl) (by kernel_rfl) (by kernel_rfl) (by kernel_rfl) (by kernel_rfl) (by kernel_rfl))
  · exact .inr (mk _ rfl true (by kernel_rfl) (by kernel_rfl) (by kernel_rfl) (by kernel_rfl) (by kernel_rfl) (by kernel_rfl) (by kernel_rfl) (by kernel_rfl) (by kernel_rfl) (by kernel_rfl))
  · omega
theorem tn_true {n name : Nat} (keep : Bool) (hn : n < 65536) (hk : name < 256) : ∃ c sh, (tnT n keep name).sel = some (.bool c true, sh) := by
  have N := num_facts hn
  have a1 : Nat.blt name 256 = true := by simpa [Nat.blt_eq] using hk
  have b5 := N.b5
  rcases name_facts name with M | M
  · cases keep with
    | false =>
      by_cases hz : n = 0
      · have b5 : decide (Int.ofNat (valN (tV n)) > Int.ofNat 0) = false := by rw [N.b5, hz]; rfl
        refine true_sel (way_zmt n false name) ?_
        simp only [tn_zmt, List.all_cons, List.all_nil, a1, N.a2, N.a3, N.a4, N.a5, N.a6, N.a7, N.a8, N.a9, N.b1, N.b2, N.b3, N.b4, b5, M.c1, M.c2, M.c3, M.c4, M.c5, M.c6, M.c7, M.c8, M.c9, M.c0]
        rfl
      · have hb : (!Nat.beq n 0) = true := by cases n with | zero => exact absurd rfl hz | succ n => rfl
        rw [hb] at b5
        refine true_sel (way_smt n false name) ?_
        simp only [tn_smt, List.all_cons, List.all_nil, a1, N.a2, N.a3, N.a4, N.a5, N.a6, N.a7, N.a8, N.a9, N.b1, N.b2, N.b3, N.b4, b5, M.c1, M.c2, M.c3, M.c4, M.c5, M.c6, M.c7, M.c8, M.c9, M.c0]
        rfl
    | true =>
      by_cases hz : n = 0
      · have b5 : decide (Int.ofNat (valN (tV n)) > Int.ofNat 0) = false := by rw [N.b5, hz]; rfl
        refine true_sel (way_zkt n true name) ?_
        simp only [tn_zkt, List.all_cons, List.all_nil, a1, N.a2, N.a3, N.a4, N.a5, N.a6, N.a7, N.a8, N.a9, N.b1, N.b2, N.b3, N.b4, b5, M.c1, M.c2, M.c3, M.c4, M.c5, M.c6, M.c7, M.c8, M.c9, M.c0]
        rfl
      · have hb : (!Nat.beq n 0) = true := by cases n with | zero => exact absurd rfl hz | succ n => rfl
        rw [hb] at b5
        refine true_sel (way_skt n true name) ?_
        simp only [tn_skt, List.all_cons, List.all_nil, a1, N.a2, N.a3, N.a4, N.a5, N.a6, N.a7, N.a8, N.a9, N.b1, N.b2, N.b3, N.b4, b5, M.c1, M.c2, M.c3, M.c4, M.c5, M.c6, M.c7, M.c8, M.c9, M.c0]
        rfl
  · cases keep with
    | false =>
      by_cases hz : n = 0
      · have b5 : decide (Int.ofNat (valN (tV n)) > Int.ofNat 0) = false := by rw [N.b5, hz]; rfl
        refine true_sel (way_zml n false name) ?_
        simp only [tn_zml, List.all_cons, List.all_nil, a1, N.a2, N.a3, N.a4, N.a5, N.a6, N.a7, N.a8, N.a9, N.b1, N.b2, N.b3, N.b4, b5, M.c1, M.c2, M.c3, M.c4, M.c5, M.c6, M.c7, M.c8, M.c9, M.c0]
        rfl
      · have hb : (!Nat.beq n 0) = true := by cases n with | zero => exact absurd rfl hz | succ n => rfl
        rw [hb] at b5
        refine true_sel (way_sml n false name) ?_
        simp only [tn_sml, List.all_cons, List.all_nil, a1, N.a2, N.a3, N.a4, N.a5, N.a6, N.a7, N.a8, N.a9, N.b1, N.b2, N.b3, N.b4, b5, M.c1, M.c2, M.c3, M.c4, M.c5, M.c6, M.c7, M.c8, M.c9, M.c0]
        rfl
    | true =>
      by_cases hz : n = 0
      · have b5 : decide (Int.ofNat (valN (tV n)) > Int.ofNat 0) = false := by rw [N.b5, hz]; rfl
        refine true_sel (way_zkl n true name) ?_
        simp only [tn_zkl, List.all_cons, List.all_nil, a1, N.a2, N.a3, N.a4, N.a5, N.a6, N.a7, N.a8, N.a9, N.b1, N.b2, N.b3, N.b4, b5, M.c1, M.c2, M.c3, M.c4, M.c5, M.c6, M.c7, M.c8, M.c9, M.c0]
        rfl
      · have hb : (!Nat.beq n 0) = true := by cases n with | zero => exact absurd rfl hz | succ n => rfl
        rw [hb] at b5
        refine true_sel (way_skl n true name) ?_
        simp only [tn_skl, List.all_cons, List.all_nil, a1, N.a2, N.a3, N.a4, N.a5, N.a6, N.a7, N.a8, N.a9, N.b1, N.b2, N.b3, N.b4, b5, M.c1, M.c2, M.c3, M.c4, M.c5, M.c6, M.c7, M.c8, M.c9, M.c0]
        rfl
end Go.Proofs.YthloojeefdjpjaaGreatDoor.Se

/- TruncNew: the call returns true, whatever its arguments. -/
namespace Go.Proofs.YthloojeefdjpjaaGreatDoor.truncNewM
open Go Go.RowKit Go.ChangeShapes Go.WideShapes Go.ChangeAt Go.Proofs.YthloojeefdjpjaaGreatDoor.Se
set_option linter.unusedVariables false
set_option maxRecDepth 100000
def laid : List (String × DataW Unit) := Rows.truncNewRow.laid
def isPow (p : String × DataW Unit) : Bool := p.1 == "internal/strconv.uint64pow10"
def laidE : List (String × DataW Unit) := laid.filter isPow
noncomputable abbrev gs : List (Nat × List Value) := laidGs Tryz.prog laidE
noncomputable def F0 : Se.Fz := allF ⟨Tryz.prog.globals.size, gsTr gs⟩
theorem F0_zero : ∀ b cs t, F0 b = some (cs, t) → t = 0 := fun b cs t e => (allF_inv e).1
theorem F0_pow : F0 Tryz.powG = some (powC, 0) := by kernel_rfl
theorem gs_lt : ∀ g c, (g, c) ∈ gs → g < 9223372036854775808 := fun g c hm => by
  have h1 : gs.all (fun p => Nat.blt p.1 9223372036854775808) = true := by kernel_rfl
  have h2 := List.all_eq_true.1 h1 _ hm
  simpa [Nat.blt_eq] using h2
theorem room : Tryz.prog.globals.size + 9000000000000000000 ≤ 9223372036854775808 := of_decide_eq_true (by kernel_rfl)
theorem few : Tryz.prog.globals.size ≤ 9223372036854775808 := of_decide_eq_true (by kernel_rfl)
theorem told : Se.ToldOk F0 env spE TTn := TTn_ok F0_zero F0_pow truncRuns_true
theorem walk {w : World} {ps : List MemPlace} (hL : DataW.LaidVars Tryz.prog w laid ps) {n name : Nat} (keep : Bool) (hn : n < 65536) (hk : name < 256) :
    Calls Tryz.prog 7 #[.int .u16 (Int.ofNat n), .bool keep, .int .u8 (Int.ofNat name)] w fun e w' => e = .returned (.bool true) ∧ Below w.heap.size w w' := by
  obtain ⟨ps', hE⟩ := laidVars_some isPow hL
  have H := laid_hr (w := w) few hE
  obtain ⟨c, sh', hsel⟩ := tn_true keep hn hk
  unfold tnT at hsel
  exact se_true (args' := [.int .u16 (Int.ofNat n), .bool keep, .int .u8 (Int.ofNat name)]) (by with_reducible exact spE_ok) told H (gs_ro gs_lt) room (Se.Fz.le.refl _) (fun g hg => if_pos hg)
    (.cons (.int ..) (.cons (.bool ..) (.cons (.int ..) (.nil ..)))) (LR.cons (.int ..) (LR.cons (.bool ..) (LR.cons (.int ..) (LR.nil _)))) hsel
end Go.Proofs.YthloojeefdjpjaaGreatDoor.truncNewM

