/- SuiteNames: its tree path by path, its told function, the walk. -/
import Derived.Test.YtbhphcgpfjoppaaGreatDoorSeY
import Derived.Test.YtbhphcgpfjoppaaGreatDoorSuiteRunsM
import Derived.SliceStrings

/- SuiteNames' tree, path by path. -/
namespace Go.Proofs.YtbhphcgpfjoppaaGreatDoor.suiteNames
open Go Go.RowKit Go.Proofs.YtbhphcgpfjoppaaGreatDoor.Se
set_option linter.unusedVariables false
set_option maxRecDepth 1000000
noncomputable def pfN : FuncId → Option (Nat × (List SV → RT SV)) := fun f => bif Nat.beq f 4 then some (0, fun l => match l with | [] => .ret (.bool true true) | _ => .bad) else none
noncomputable def TN : Se.Told := ⟨pfN, fun _ _ => none⟩
noncomputable def tr (name : List UInt8) (n : Nat) (g : Nat → List UInt8) : RT (SV × SH) := sanswer env TN 400 5 [.str false name, .fsl 0 1 n none fun i => [.str false (g i)]] sh0
/-- a path's tests, where it ends in true -/
def trueAt (t : RT (SV × SH)) (l : List Bool) : Option (List (Bool × Bool)) := match t.follow l with
  | some (cs, x) => (match x.1 with | .bool _ true => some cs | _ => none)
  | none => none
theorem trueAt_sel {t : RT (SV × SH)} {l : List Bool} {cs : List (Bool × Bool)} (h : trueAt t l = some cs) (hc : ∀ p ∈ cs, p.1 = p.2) : ∃ c sh', t.sel = some (.bool c true, sh') := by
  unfold trueAt at h
  split at h
  · rename_i cs2 x hf
    obtain ⟨v, sh'⟩ := x
    simp only at h
    split at h
    · rename_i c
      injection h with h; subst h
      exact ⟨c, sh', follow_sel hf hc⟩
    · cases h
  · cases h
theorem t_0 (name : List UInt8) (n : Nat) (g : Nat → List UInt8) : trueAt (tr name n g) [true] = some [(decide (Int.ofNat n > Int.ofNat 30), true)] := by kernel_rfl
theorem t_1 (name : List UInt8) (n : Nat) (g : Nat → List UInt8) : trueAt (tr name n g) [false, true] = some [(decide (Int.ofNat n > Int.ofNat 30), false), (decide (Int.ofNat name.length > Int.ofNat 40), true)] := by kernel_rfl
theorem t_2 (name : List UInt8) (n : Nat) (g : Nat → List UInt8) : trueAt (tr name n g) [false, false, true] = some [(decide (Int.ofNat n > Int.ofNat 30), false), (decide (Int.ofNat name.length > Int.ofNat 40), false), (name == [100, 100], true)] := by kernel_rfl
theorem t_3 (name : List UInt8) (n : Nat) (g : Nat → List UInt8) : trueAt (tr name n g) [false, false, false, true] = some [(decide (Int.ofNat n > Int.ofNat 30), false), (decide (Int.ofNat name.length > Int.ofNat 40), false), (name == [100, 100], false), (name == [114, 101, 115, 99, 117, 101], true)] := by kernel_rfl
theorem t_4 (name : List UInt8) (n : Nat) (g : Nat → List UInt8) : trueAt (tr name n g) [false, false, false, false, true] = some [(decide (Int.ofNat n > Int.ofNat 30), false), (decide (Int.ofNat name.length > Int.ofNat 40), false), (name == [100, 100], false), (name == [114, 101, 115, 99, 117, 101], false), (name == [115, 104, 114, 101, 100], true)] := by kernel_rfl
theorem t_5 (name : List UInt8) (n : Nat) (g : Nat → List UInt8) : trueAt (tr name n g) [false, false, false, false, false, true] = some [(decide (Int.ofNat n > Int.ofNat 30), false), (decide (Int.ofNat name.length > Int.ofNat 40), false), (name == [100, 100], false), (name == [114, 101, 115, 99, 117, 101], false), (name == [115, 104, 114, 101, 100], false), (name == [116, 114, 117, 110, 99, 97, 116, 101], true)] := by kernel_rfl
theorem t_6 (name : List UInt8) (n : Nat) (g : Nat → List UInt8) : trueAt (tr name n g) [false, false, false, false, false, false, true] = some [(decide (Int.ofNat n > Int.ofNat 30), false), (decide (Int.ofNat name.length > Int.ofNat 40), false), (name == [100, 100], false), (name == [114, 101, 115, 99, 117, 101], false), (name == [115, 104, 114, 101, 100], false), (name == [116, 114, 117, 110, 99, 97, 116, 101], false), (name == [102, 97, 108, 108, 111, 99, 97, 116, 101], true)] := by kernel_rfl
theorem t_7 (name : List UInt8) (n : Nat) (g : Nat → List UInt8) : trueAt (tr name n g) [false, false, false, false, false, false, false, true] = some [(decide (Int.ofNat n > Int.ofNat 30), false), (decide (Int.ofNat name.length > Int.ofNat 40), false), (name == [100, 100], false), (name == [114, 101, 115, 99, 117, 101], false), (name == [115, 104, 114, 101, 100], false), (name == [116, 114, 117, 110, 99, 97, 116, 101], false), (name == [102, 97, 108, 108, 111, 99, 97, 116, 101], false), (name == [99, 112], true)] := by kernel_rfl
theorem t_8 (name : List UInt8) (n : Nat) (g : Nat → List UInt8) : trueAt (tr name n g) [false, false, false, false, false, false, false, false, true] = some [(decide (Int.ofNat n > Int.ofNat 30), false), (decide (Int.ofNat name.length > Int.ofNat 40), false), (name == [100, 100], false), (name == [114, 101, 115, 99, 117, 101], false), (name == [115, 104, 114, 101, 100], false), (name == [116, 114, 117, 110, 99, 97, 116, 101], false), (name == [102, 97, 108, 108, 111, 99, 97, 116, 101], false), (name == [99, 112], false), (name == [115, 121, 110, 99], true)] := by kernel_rfl
theorem t_end_none (name : List UInt8) (n : Nat) (g : Nat → List UInt8) : trueAt (tr name n g) [false, false, false, false, false, false, false, false, false, true, false, true, true, false, false, false, false, false, false, false, false] = some [(decide (Int.ofNat n > Int.ofNat 30), false), (decide (Int.ofNat name.length > Int.ofNat 40), false), (name == [100, 100], false), (name == [114, 101, 115, 99, 117, 101], false), (name == [115, 104, 114, 101, 100], false), (name == [116, 114, 117, 110, 99, 97, 116, 101], false), (name == [102, 97, 108, 108, 111, 99, 97, 116, 101], false), (name == [99, 112], false), (name == [115, 121, 110, 99], false), (Nat.ble ((1 + n) * 16) 140737488355328 && Nat.ble (1 + n) 9223372036854775807, true), (Int.ofNat (1 + n) == Int.ofNat 0, false), (Nat.blt 0 (1 + n), true), (Nat.ble 1 (1 + n), true), (Nat.blt 1 (1 + n), false), (name == [100, 100], false), (name == [114, 101, 115, 99, 117, 101], false), (name == [115, 104, 114, 101, 100], false), (name == [116, 114, 117, 110, 99, 97, 116, 101], false), (name == [102, 97, 108, 108, 111, 99, 97, 116, 101], false), (name == [99, 112], false), (name == [115, 121, 110, 99], false)] := by kernel_rfl
theorem t_end_some (name : List UInt8) (n : Nat) (g : Nat → List UInt8) : trueAt (tr name n g) [false, false, false, false, false, false, false, false, false, true, false, true, true, true, false, false, false, false, false, false, false] = some [(decide (Int.ofNat n > Int.ofNat 30), false), (decide (Int.ofNat name.length > Int.ofNat 40), false), (name == [100, 100], false), (name == [114, 101, 115, 99, 117, 101], false), (name == [115, 104, 114, 101, 100], false), (name == [116, 114, 117, 110, 99, 97, 116, 101], false), (name == [102, 97, 108, 108, 111, 99, 97, 116, 101], false), (name == [99, 112], false), (name == [115, 121, 110, 99], false), (Nat.ble ((1 + n) * 16) 140737488355328 && Nat.ble (1 + n) 9223372036854775807, true), (Int.ofNat (1 + n) == Int.ofNat 0, false), (Nat.blt 0 (1 + n), true), (Nat.ble 1 (1 + n), true), (Nat.blt 1 (1 + n), true), (name == [100, 100], false), (name == [114, 101, 115, 99, 117, 101], false), (name == [115, 104, 114, 101, 100], false), (name == [116, 114, 117, 110, 99, 97, 116, 101], false), (name == [102, 97, 108, 108, 111, 99, 97, 116, 101], false), (name == [99, 112], false), (name == [115, 121, 110, 99], false)] := by kernel_rfl
theorem all_true (name : List UInt8) (n : Nat) (g : Nat → List UInt8) : ∃ c sh', (tr name n g).sel = some (.bool c true, sh') := by
  cases e0 : (decide (Int.ofNat n > Int.ofNat 30) : Bool) with
  | true => exact trueAt_sel (t_0 name n g) (by intro p hp; simp only [List.mem_cons, List.not_mem_nil, or_false] at hp; rcases hp with rfl <;> assumption)
  | false =>
    cases e1 : (decide (Int.ofNat name.length > Int.ofNat 40) : Bool) with
    | true => exact trueAt_sel (t_1 name n g) (by intro p hp; simp only [List.mem_cons, List.not_mem_nil, or_false] at hp; rcases hp with rfl | rfl <;> assumption)
    | false =>
      cases e2 : (name == [100, 100] : Bool) with
      | true => exact trueAt_sel (t_2 name n g) (by intro p hp; simp only [List.mem_cons, List.not_mem_nil, or_false] at hp; rcases hp with rfl | rfl | rfl <;> assumption)
      | false =>
        cases e3 : (name == [114, 101, 115, 99, 117, 101] : Bool) with
        | true => exact trueAt_sel (t_3 name n g) (by intro p hp; simp only [List.mem_cons, List.not_mem_nil, or_false] at hp; rcases hp with rfl | rfl | rfl | rfl <;> assumption)
        | false =>
          cases e4 : (name == [115, 104, 114, 101, 100] : Bool) with
          | true => exact trueAt_sel (t_4 name n g) (by intro p hp; simp only [List.mem_cons, List.not_mem_nil, or_false] at hp; rcases hp with rfl | rfl | rfl | rfl | rfl <;> assumption)
          | false =>
            cases e5 : (name == [116, 114, 117, 110, 99, 97, 116, 101] : Bool) with
            | true => exact trueAt_sel (t_5 name n g) (by intro p hp; simp only [List.mem_cons, List.not_mem_nil, or_false] at hp; rcases hp with rfl | rfl | rfl | rfl | rfl | rfl <;> assumption)
            | false =>
              cases e6 : (name == [102, 97, 108, 108, 111, 99, 97, 116, 101] : Bool) with
              | true => exact trueAt_sel (t_6 name n g) (by intro p hp; simp only [List.mem_cons, List.not_mem_nil, or_false] at hp; rcases hp with rfl | rfl | rfl | rfl | rfl | rfl | rfl <;> assumption)
              | false =>
                cases e7 : (name == [99, 112] : Bool) with
                | true => exact trueAt_sel (t_7 name n g) (by intro p hp; simp only [List.mem_cons, List.not_mem_nil, or_false] at hp; rcases hp with rfl | rfl | rfl | rfl | rfl | rfl | rfl | rfl <;> assumption)
                | false =>
                  cases e8 : (name == [115, 121, 110, 99] : Bool) with
                  | true => exact trueAt_sel (t_8 name n g) (by intro p hp; simp only [List.mem_cons, List.not_mem_nil, or_false] at hp; rcases hp with rfl | rfl | rfl | rfl | rfl | rfl | rfl | rfl | rfl <;> assumption)
                  | false =>
                    have h30 : n ≤ 30 := by
                      have := of_decide_eq_false e0
                      simp only [Int.ofNat_eq_natCast] at this
                      omega
                    have m1 : (Nat.ble ((1 + n) * 16) 140737488355328 && Nat.ble (1 + n) 9223372036854775807) = true := by
                      rw [Nat.ble_eq_true_of_le (by omega), Nat.ble_eq_true_of_le (by omega)]; rfl
                    have m2 : (Int.ofNat (1 + n) == Int.ofNat 0) = false := by
                      rw [beq_eq_false_iff_ne]
                      intro e
                      injection e with e
                      omega
                    have m3 : Nat.blt 0 (1 + n) = true := Nat.ble_eq_true_of_le (by omega)
                    have m4 : Nat.ble 1 (1 + n) = true := Nat.ble_eq_true_of_le (by omega)
                    cases m5 : Nat.blt 1 (1 + n) with
                    | true => exact trueAt_sel (t_end_some name n g) (by intro p hp; simp only [List.mem_cons, List.not_mem_nil, or_false] at hp; rcases hp with rfl | rfl | rfl | rfl | rfl | rfl | rfl | rfl | rfl | rfl | rfl | rfl | rfl | rfl | rfl | rfl | rfl | rfl | rfl | rfl | rfl <;> assumption)
                    | false => exact trueAt_sel (t_end_none name n g) (by intro p hp; simp only [List.mem_cons, List.not_mem_nil, or_false] at hp; rcases hp with rfl | rfl | rfl | rfl | rfl | rfl | rfl | rfl | rfl | rfl | rfl | rfl | rfl | rfl | rfl | rfl | rfl | rfl | rfl | rfl | rfl <;> assumption)
end Go.Proofs.YtbhphcgpfjoppaaGreatDoor.suiteNames

/- SuiteNames: the call returns true, whatever its arguments. -/
namespace Go.Proofs.YtbhphcgpfjoppaaGreatDoor.suiteNames
open Go Go.RowKit Go.Proofs.YtbhphcgpfjoppaaGreatDoor.Se
set_option linter.unusedVariables false
set_option linter.unusedSimpArgs false
set_option maxRecDepth 100000
noncomputable abbrev gs : List (Nat × List Value) := suiteRunsM.gsE
theorem gs_flat : ∀ g c, (g, c) ∈ gs → g < Tryz.prog.globals.size ∧ ∀ v ∈ c, flatV v = true := fun g c hm => by
  have h1 : gs.all (fun p => Nat.blt p.1 Tryz.prog.globals.size && p.2.all flatV) = true := by kernel_rfl
  have h2 := List.all_eq_true.1 h1 _ hm
  rw [Bool.and_eq_true] at h2
  exact ⟨by simpa [Nat.blt_eq] using h2.1, fun v hv => List.all_eq_true.1 h2.2 v hv⟩
theorem gs_lt : ∀ g c, (g, c) ∈ gs → g < Tryz.prog.globals.size := fun g c hm => (gs_flat g c hm).1
theorem globals_few : Tryz.prog.globals.size + 8000001 ≤ 8388608 := of_decide_eq_true (by kernel_rfl)
theorem gs_lt8 : ∀ g c, (g, c) ∈ gs → g < 8388608 := fun g c hm => by have := gs_lt g c hm; have := globals_few; omega
theorem gs_ro2 : ∀ b x, Hp.get ⟨Tryz.prog.globals.size, gsTr gs⟩ b = some x → ¬ x.mine := fun b x e => gs_ro gs_lt8 b x e
theorem gs_got : ∀ g c, (g, c) ∈ gs → Hp.get ⟨Tryz.prog.globals.size, gsTr gs⟩ g = some (.cells c 0 false true) := fun g c hm => by
  rcases List.mem_cons.1 hm with e | hm
  · cases e; kernel_rfl
  rcases List.mem_cons.1 hm with e | hm
  · cases e; kernel_rfl
  rcases List.mem_cons.1 hm with e | hm
  · cases e; kernel_rfl
  cases hm
theorem flat_ones : ∀ {c : List Value}, (∀ v ∈ c, flatV v = true) → ones_ c = true := fun {c} h => ones_mem.2 fun v hv => by
  have := h v hv
  unfold flatV at this
  split at this
  · rfl
  · rfl
  · cases this
noncomputable def F0 : Se.Fz := allF ⟨Tryz.prog.globals.size, gsTr gs⟩
def holdsGs (h : Hp) : Prop := ∀ g c, (g, c) ∈ gs → ∃ e x ro, h.get g = some (.cells c e x ro)
open Classical in
noncomputable def spRuns (args : List Value) (h : Hp) : Option (Value × Hp) :=
  match args with
  | [] => if holdsGs h then some (.bool true, h) else none
  | _ => none
theorem t_runs : Go.Proofs.YtbhphcgpfjoppaaGreatDoor.ToldOk Tryz.prog Tryz.prog.globals.size 4 spRuns :=
  told_of fun args args' h h2 v β w hc hl H hgb => by
    unfold spRuns at hc
    split at hc
    · split at hc
      · rename_i hh
        simp only [Option.some.injEq, Prod.mk.injEq] at hc
        obtain ⟨rfl, rfl⟩ := hc
        obtain rfl : args' = [] := List.eq_nil_of_length_eq_zero hl.1.symm
        rw [show (callFunc 4 (List.toArray [])).run Tryz.prog w = .ok (.enter 4 #[]) w from (enters_of Tryz.func4 (by kernel_rfl) rfl) _ w]
        have H0 := gs_hr H prog_globals hgb gs_flat hh
        have hr := suiteRunsM.runs
        unfold env at hr
        obtain ⟨h3, hr⟩ := saysTrue_some hr
        refine .inr ⟨_, _, rfl, (answer_calls (P := Tryz.prog) (eqs := eqList) (sp := suiteRunsM.top) (f := 4) (n := 20000) (h2 := h3) prog_types prog_eqs prog_guards prog_mix prog_funcs prog_names (by with_reducible exact suiteRunsM.top_ok) hr (LR.nil _) H0 (fun g hg => if_pos hg)).mono ?_⟩
        rintro e w2 ⟨v', β2, rfl, _, S, hR⟩
        have hB := ro_st gs_ro2 S
        exact ⟨_, β, rfl, H.below hB, St.below hB, by rw [hR.bool_inv]; exact .bool _⟩
      · cases hc
    · cases hc
noncomputable def spN : Sp := fun f => bif Nat.beq f 4 then some spRuns else none
theorem spN_ok : CallOk Tryz.prog (spCall spN) Tryz.prog.globals.size := by
  unfold spN
  with_reducible exact (told_cons t_runs told_nil)
theorem told_ok : Se.ToldOk F0 env spN TN where
  lp := fun _ _ => rfl
  run := fun f h => by
    unfold TN pfN at h
    unfold spN
    simp only at h
    cases hb : Nat.beq f 4 with
    | true => rw [hb] at h; cases h
    | false => rfl
  pf := fun f c g h F k hp args args' v h0 H hl hs hp2 => by
    unfold TN pfN at h
    simp only at h
    cases hb : Nat.beq f 4 with
    | false => rw [hb] at h; cases h
    | true =>
      rw [hb] at h
      simp only [cond_true, Option.some.injEq, Prod.mk.injEq] at h
      obtain ⟨rfl, rfl⟩ := h
      cases args with
      | cons a l => cases hs
      | nil =>
        obtain rfl := hl.nil_inv
        simp only [RT.sel, Option.some.injEq] at hs
        subst hs
        have hh : holdsGs hp := fun g c hm => by
          have e := allF_of (gs_got g c hm) (flat_ones (gs_flat g c hm).2)
          obtain ⟨_, _, _, q⟩ := H.frz g c 0 (h0 _ _ e)
          exact q
        refine ⟨0, .bool true, hp, fun n _ => ?_, .bool .., Nat.le_refl _, Nat.le_refl _, fun _ _ => rfl⟩
        have : spN f = some spRuns := by unfold spN; rw [hb]; rfl
        rw [this]
        show spRuns [] hp = _
        unfold spRuns
        simp only [if_pos hh]
end Go.Proofs.YtbhphcgpfjoppaaGreatDoor.suiteNames

/- SuiteNames: the call returns true, whatever its arguments. -/
namespace Go.Proofs.YtbhphcgpfjoppaaGreatDoor.suiteNames
open Go Go.RowKit Go.Proofs.YtbhphcgpfjoppaaGreatDoor.Se
set_option linter.unusedVariables false
set_option linter.unusedSimpArgs false
theorem room0 : Hp.next ⟨Tryz.prog.globals.size, gsTr gs⟩ + 8000000 ≤ 8388608 := of_decide_eq_true (by kernel_rfl)
theorem room1 (t : Tr Blk) : Hp.next ⟨Tryz.prog.globals.size + 1, t⟩ + 8000000 ≤ 8388608 := of_decide_eq_true (by kernel_rfl)
theorem glob_lt : Tryz.prog.globals.size < 8388608 := of_decide_eq_true (by kernel_rfl)
theorem says {w : World} {β : Bt} {h : Hp} (H : HR Tryz.prog β h w) (hro : ∀ b x, h.get b = some x → ¬ x.mine) (hc : h.next + 8000000 ≤ 8388608) (hF0 : Se.Fz.le F0 (allF h)) (hgb : ∀ g, g < Tryz.prog.globals.size → β g = some ⟨g, 0, 0⟩) {s : ByteArray} {n : Nat} {g : Nat → List UInt8} {u v : Value}
    (h1 : VRs (allF h) Im0 (.fsl 0 1 n none fun i => [.str false (g i)]) u) (h2 : VR β u v) :
    Calls Tryz.prog 5 #[.string s, v] w fun e w' => e = .returned (.bool true) ∧ Below w.heap.size w w' := by
  obtain ⟨c, sh', hsel⟩ := all_true s.data.toList n g
  unfold tr at hsel
  exact se_true (args1 := [.string s, u]) (args' := [.string s, v]) (by with_reducible exact spN_ok) told_ok H hro hc hF0 hgb
    (.cons (.str Im0 false s.data.toList) (.cons h1 (.nil ..))) (LR.cons (.string s) (LR.cons h2 (LR.nil _))) hsel
/-- a slice of strings in a world -/
def Strs (w : World) (v : Value) : Prop := v = .slice none 0 0 ∨ (∃ a cap, v = .slice (some a) 0 cap) ∨
  ∃ (b o n cap : Nat) (ss : List ByteArray) (cc : Array Value) (t : TypeId) (fr : Nat × Nat), v = .slice (some ⟨b, o, none⟩) n cap ∧ 0 < n ∧ n ≤ cap ∧ w.heap[b]? = some (.cells cc t fr) ∧ o + n ≤ cc.size ∧ ss.length = n ∧
    ∀ i, i < n → cc[o + i]? = some (.string (ss.getD i ByteArray.empty))
theorem walk_none {w : World} {ps : List MemPlace} {laidE : List (String × DataW Unit)} (hgs : laidGs Tryz.prog laidE = gs) (hL : DataW.LaidVars Tryz.prog w laidE ps) (s : ByteArray) (u v : Value) (h1 : ∀ F : Se.Fz, VRs F Im0 (.fsl 0 1 0 none fun i => [.str false ((fun _ => []) i)]) u) (h2 : ∀ β, VR β u v) :
    Calls Tryz.prog 5 #[.string s, v] w fun e w' => e = .returned (.bool true) ∧ Below w.heap.size w w' := by
  have H := laid_hr (w := w) prog_globals hL
  rw [hgs] at H
  exact says H gs_ro2 room0 (Se.Fz.le.refl _) (fun g hg => if_pos hg) (h1 _) (h2 _)
theorem cells_hr {w : World} {ps : List MemPlace} {laidE : List (String × DataW Unit)} (hgs : laidGs Tryz.prog laidE = gs) (hL : DataW.LaidVars Tryz.prog w laidE ps) {i : Info} {cs : List Value} {cc : Array Value} {t : TypeId} {fr : Nat × Nat}
    (hw : w.heap[i.blk]? = some (.cells cc t fr)) (hsz : i.off + cs.length ≤ cc.size) (hv : ∀ (k : Nat) (x y : Value), cs[k]? = some x → cc[i.off + k]? = some y → VR (fun _ => none) x y) :
    HR Tryz.prog (argB Tryz.prog.globals.size i) ⟨Tryz.prog.globals.size + 1, (gsTr gs).set 24 Tryz.prog.globals.size (.cells cs 0 false true)⟩ w := by
  have H := arg_hr glob_lt hL hw hsz hv
  rw [hgs] at H
  exact H
theorem argF {P : Program} (h : P.globals.size < 8388608) {cs : List Value} (hone : ones_ cs = true) (t : Tr Blk) : allF ⟨P.globals.size + 1, t.set 24 P.globals.size (.cells cs 0 false true)⟩ P.globals.size = some (cs, 0) := allF_of (e := 0) (x := false) (ro := true) (by
      unfold Hp.get
      simp only
      rw [Tr.get_set _ _ _ _ _ (by omega), if_pos rfl]) hone
theorem argB_at (n : Nat) (i : Info) : argB n i n = some i := if_pos rfl
theorem argB_lt (n : Nat) (i : Info) (g : Nat) (hg : g < n) : argB n i g = some ⟨g, 0, 0⟩ := by
  unfold argB; rw [if_neg (by omega)]; exact if_pos hg
theorem slice_vr (n0 : Nat) (b o n cap : Nat) (hcap : n ≤ cap) : VR (argB n0 ⟨b, o, cap - n⟩) (.slice (some ⟨n0, 0, none⟩) n n) (.slice (some ⟨b, o, none⟩) n cap) := by
  have := VR.slice (β := argB n0 ⟨b, o, cap - n⟩) (b := n0) (i := ⟨b, o, cap - n⟩) 0 n n (argB_at _ _)
  simp only [Nat.add_zero] at this
  rw [show n + (cap - n) = cap by omega] at this
  exact this
theorem walk {w : World} {ps : List MemPlace} {laidE : List (String × DataW Unit)} (hgs : laidGs Tryz.prog laidE = gs) (hL : DataW.LaidVars Tryz.prog w laidE ps) (s : ByteArray) {v : Value} (hv : Strs w v) :
    Calls Tryz.prog 5 #[.string s, v] w fun e w' => e = .returned (.bool true) ∧ Below w.heap.size w w' := by
  rcases hv with rfl | ⟨a, cap, rfl⟩ | ⟨b, o, n, cap, ss, cc, t, fr, rfl, h0, hcap, hw, hsz, hlen, hat⟩
  · exact walk_none hgs hL s (.slice none 0 0) _ (fun F => .fslN _ _ _ _ _ (.inl rfl)) (fun β => .nilSlice 0 0)
  · exact walk_none hgs hL s (.chan none) _ (fun F => .fslE ..) (fun β => .noneLeft a cap)
  · let cs : List Value := (List.range n).map fun i => .string (ss.getD i ByteArray.empty)
    have hcl : cs.length = n := by simp [cs]
    have hcg : ∀ k, k < n → cs[k]? = some (.string (ss.getD k ByteArray.empty)) := fun k hk => by simp [cs, hk]
    have H := cells_hr (cs := cs) (i := ⟨b, o, cap - n⟩) hgs hL hw (by rw [hcl]; exact hsz) (fun k x y hx hy => by
      have hk : k < n := by have := (List.getElem?_eq_some_iff.1 hx).1; omega
      rw [hcg k hk] at hx
      simp only at hy
      rw [hat k hk] at hy
      cases hx; cases hy
      exact .string _)
    have hone : ones_ cs = true := ones_mem.2 fun x hx => by
      obtain ⟨i, _, rfl⟩ := List.mem_map.1 hx
      rfl
    refine says H (arg_ro glob_lt gs_lt8) (room1 _) (arg_le glob_lt gs_lt) (argB_lt _ _) (n := n) (g := fun i => (ss.getD i ByteArray.empty).data.toList) ?_ (slice_vr _ b o n cap hcap)
    refine .fsl _ 0 1 n none _ Tryz.prog.globals.size 0 cs 0 n (argF glob_lt hone _) (Nat.le_refl _) (.inl rfl) (Nat.le_refl _) (by omega) (fun i _ => rfl) (fun i j x y hi hx hy => ?_)
    cases j with
    | zero =>
      simp only [List.getElem?_cons_zero, Option.some.injEq] at hx
      subst hx
      rw [show 0 + i * 1 + 0 = i by omega, hcg i hi] at hy
      cases hy
      exact .str _ false (ss.getD i ByteArray.empty).data.toList
    | succ j => simp at hx
end Go.Proofs.YtbhphcgpfjoppaaGreatDoor.suiteNames

