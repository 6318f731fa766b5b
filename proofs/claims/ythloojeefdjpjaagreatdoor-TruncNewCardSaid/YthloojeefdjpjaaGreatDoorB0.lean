/- What is told at first; contents as plain data; loops: where they stand. -/
import Derived.Test.YthloojeefdjpjaaGreatDoorSfX
import Derived.Test.YthloojeefdjpjaaGreatDoorDig
import Derived.KernelRfl
import Derived.WalkKit
import Derived.ProofKit

/- The base of what is told: clean blocks, names, the library's without a body; files' contents as plain data. -/
namespace Go.Proofs.YthloojeefdjpjaaGreatDoor.Se
open Go Go.Proofs.YthloojeefdjpjaaGreatDoor Go.RowKit
set_option linter.unusedVariables false
set_option maxRecDepth 1000000

/-! ### Contents -/
structure Xt where
  no : Int
  b0 : UInt8
  b1 : UInt8
  b2 : UInt8
  b3 : UInt8
  b4 : UInt8
  b5 : UInt8
  b6 : UInt8
  b7 : UInt8
def xt0 : Xt := ⟨0, 0, 0, 0, 0, 0, 0, 0, 0⟩
def by_ (b : UInt8) : SV := .int .u8 false (.ofNat b.toNat)
def xtRow (x : Xt) : List SV := [.int .i64 false x.no, by_ x.b0, by_ x.b1, by_ x.b2, by_ x.b3, by_ x.b4, by_ x.b5, by_ x.b6, by_ x.b7]
def xtE (l : List Xt) (i : Nat) : List SV := xtRow (l.getD i xt0)
def clB (size : Int) (b : UInt8) (at_ : Int) : Bool := cl_ size (.ofNat b.toNat) at_
def cleanX (x : Xt) (size : Int) : Bool :=
  decide (0 ≤ x.no) && (decide (x.no ≤ 1099511627776) && (clB size x.b0 (x.no * 8) && (clB size x.b1 (x.no * 8 + 1) && (clB size x.b2 (x.no * 8 + 2) && (clB size x.b3 (x.no * 8 + 3) && (clB size x.b4 (x.no * 8 + 4) && (clB size x.b5 (x.no * 8 + 5) && (clB size x.b6 (x.no * 8 + 6) && clB size x.b7 (x.no * 8 + 7)))))))))
/-- may these blocks be, behind a block? -/
def mayL (size : Int) : Int → List Xt → Bool
  | _, [] => true
  | last, x :: l => !(decide (x.no ≤ last)) && (!(decide (x.no ≥ 137438953472)) && (cleanX x size && mayL size x.no l))

/-! ### What is told at first -/
noncomputable def spE : Sp := fun f =>
  bif Nat.beq f 37 then some (spRun 37)
  else bif Nat.beq f 41 then some (spRun 41)
  else bif Nat.beq f 25 then some (spRun 25)
  else bif Nat.beq f 3 then some (spRun 3)
  else bif Nat.beq f 18 then some (spRun 18)
  else bif Nat.beq f 331 then some spNd
  else bif Nat.beq f 228 then some spClean
  else bif Nat.beq f 181 then some spName
  else sp0 f
theorem spE_ok : CallOk Tryz.prog (spCall spE) Tryz.prog.globals.size := by
  unfold spE
  with_reducible exact (told_cons (t_run (enters_of Tryz.func37 (by kernel_rfl) rfl)) (told_cons (t_run (enters_of Tryz.func41 (by kernel_rfl) rfl)) (told_cons (t_run (enters_of Tryz.func25 (by kernel_rfl) rfl)) (told_cons (t_run (enters_of Tryz.func3 (by kernel_rfl) rfl)) (told_cons (t_run (enters_of Tryz.func18 (by kernel_rfl) rfl)) (told_cons t_nd (told_cons t_clean (told_cons t_name sp0_ok))))))))
theorem plain_sp {E : Env} {F0 : Fz} {sp : Sp} {f : FuncId} {q : List Value → Hp → Option (Value × Hp)} (hq : sp f = some q) {g : List SV → RT SV}
    (hg : ∀ F args args' v h, LRs F Im0 args args' → (g args).sel = some v → ∃ v', q args' h = some (v', h) ∧ VRs (fun _ => none) Im0 v v') : PlainFn F0 E sp f 0 g :=
  fun F k h args args' v h0 H hl hs hp => by
    obtain ⟨v', e1, e2⟩ := hg F args args' v h hl hs
    exact ⟨0, v', h, fun n _ => by rw [hq]; exact e1, e2, Nat.le_refl _, Nat.le_refl _, fun b _ => rfl⟩
/-- Told functions by a list: what is not told elsewhere is told by what stands behind. -/
def gClean (args : List SV) : RT SV :=
  match args with
  | [.agg [.int .i64 _ no, .int .u8 _ b0, .int .u8 _ b1, .int .u8 _ b2, .int .u8 _ b3, .int .u8 _ b4, .int .u8 _ b5, .int .u8 _ b6, .int .u8 _ b7], .int .i64 _ size] =>
    .br (decide (0 ≤ no) && (decide (no ≤ 1099511627776) && (cl_ size b0 (no * 8) && (cl_ size b1 (no * 8 + 1) && (cl_ size b2 (no * 8 + 2) && (cl_ size b3 (no * 8 + 3) && (cl_ size b4 (no * 8 + 4) && (cl_ size b5 (no * 8 + 5) && (cl_ size b6 (no * 8 + 6) && cl_ size b7 (no * 8 + 7)))))))))) (.ret (.bool true true)) .bad
  | _ => .bad
def gName (args : List SV) : RT SV :=
  match args with
  | [.str _ s] => .br (nameOk_ s) (.ret (.bool true true)) (.br (Nat.blt 20 s.length) (.ret (.bool true false)) .bad)
  | _ => .bad
def gCompare (args : List SV) : RT SV :=
  match args with
  | [.str c s, .str c' t] => .ret (mkI .i64 (c && c') (Lib.compareBytes s t))
  | _ => .bad
def gIndex (args : List SV) : RT SV :=
  match args with
  | [.str c s, .int .u8 c' b] => .ret (mkI .i64 (c && c') (Lib.indexByte s b.toNat.toUInt8))
  | _ => .bad
def gCount (args : List SV) : RT SV :=
  match args with
  | [.str c s, .int .u8 c' b] => .ret (mkI .i64 (c && c') (.ofNat (Lib.countByte s b.toNat.toUInt8)))
  | _ => .bad
theorem br_bad {α : Type} {b : Bool} {t : RT α} {x : α} (h : (RT.br b t .bad).sel = some x) : b = true ∧ t.sel = some x := by
  cases b with
  | true => exact ⟨rfl, h⟩
  | false => cases h
theorem clean_told {F0 : Fz} {E : Env} : PlainFn F0 E spE 228 0 gClean := plain_sp (q := spClean) (by unfold spE; rfl) fun F args args' v h hl hs => by
  unfold gClean at hs
  split at hs
  · rename_i c0 no c1 b0 c2 b1 c3 b2 c4 b3 c5 b4 c6 b5 c7 b6 c8 b7 c9 size
    obtain ⟨hb, hs⟩ := br_bad hs
    simp only [RT.sel, Option.some.injEq] at hs
    subst hs
    obtain ⟨y1, l1, rfl, h1, h2⟩ := hl.cons_inv
    obtain ⟨y2, l2, rfl, h3, h4⟩ := h2.cons_inv
    rw [h4.nil_inv, h3.int_inv]
    obtain ⟨l', rfl, L⟩ := h1.agg_inv
    obtain ⟨x0, m0, rfl, e0, L⟩ := L.cons_inv
    obtain ⟨x1, m1, rfl, e1, L⟩ := L.cons_inv
    obtain ⟨x2, m2, rfl, e2, L⟩ := L.cons_inv
    obtain ⟨x3, m3, rfl, e3, L⟩ := L.cons_inv
    obtain ⟨x4, m4, rfl, e4, L⟩ := L.cons_inv
    obtain ⟨x5, m5, rfl, e5, L⟩ := L.cons_inv
    obtain ⟨x6, m6, rfl, e6, L⟩ := L.cons_inv
    obtain ⟨x7, m7, rfl, e7, L⟩ := L.cons_inv
    obtain ⟨x8, m8, rfl, e8, L⟩ := L.cons_inv
    rw [L.nil_inv, e0.int_inv, e1.int_inv, e2.int_inv, e3.int_inv, e4.int_inv, e5.int_inv, e6.int_inv, e7.int_inv, e8.int_inv]
    refine ⟨.bool true, ?_, .bool ..⟩
    unfold spClean
    simp only [hb, cond_true]
  · cases hs
theorem name_told {F0 : Fz} {E : Env} : PlainFn F0 E spE 181 0 gName := plain_sp (q := spName) (by unfold spE; rfl) fun F args args' v h hl hs => by
  unfold gName at hs
  split at hs
  · rename_i c s
    obtain ⟨y1, l1, rfl, h1, h2⟩ := hl.cons_inv
    rw [h2.nil_inv, h1.str_inv]
    rcases cond_sel (c := false) hs with ⟨hb, hs⟩ | ⟨hb, hs⟩
    · simp only [RT.sel, Option.some.injEq] at hs
      subst hs
      refine ⟨.bool true, ?_, .bool ..⟩
      unfold spName
      simp only [hb, cond_true]
    · obtain ⟨hb2, hs⟩ := br_bad hs
      simp only [RT.sel, Option.some.injEq] at hs
      subst hs
      refine ⟨.bool false, ?_, .bool ..⟩
      unfold spName
      simp only [hb, hb2, cond_true, cond_false]
  · cases hs
theorem compare_plain {F0 : Fz} {E : Env} : PlainFn F0 E spE 335 0 gCompare := plain_sp (q := spCompare) (by unfold spE; rfl) fun F args args' v h hl hs => by
  unfold gCompare at hs
  split at hs
  · rename_i c s c' t
    simp only [RT.sel, Option.some.injEq] at hs
    subst hs
    obtain ⟨y1, l1, rfl, h1, h2⟩ := hl.cons_inv
    obtain ⟨y2, l2, rfl, h3, h4⟩ := h2.cons_inv
    rw [h4.nil_inv, h3.str_inv, h1.str_inv]
    refine ⟨_, rfl, ?_⟩
    rw [mkI_eq, vint_eq]
    exact .int ..
  · cases hs
theorem index_plain {F0 : Fz} {E : Env} : PlainFn F0 E spE 377 0 gIndex := plain_sp (q := spIndexByte) (by unfold spE; rfl) fun F args args' v h hl hs => by
  unfold gIndex at hs
  split at hs
  · rename_i c s c' t
    simp only [RT.sel, Option.some.injEq] at hs
    subst hs
    obtain ⟨y1, l1, rfl, h1, h2⟩ := hl.cons_inv
    obtain ⟨y2, l2, rfl, h3, h4⟩ := h2.cons_inv
    rw [h4.nil_inv, h3.int_inv, h1.str_inv]
    refine ⟨_, rfl, ?_⟩
    rw [mkI_eq, vint_eq]
    exact .int ..
  · cases hs
theorem count_plain {F0 : Fz} {E : Env} : PlainFn F0 E spE 403 0 gCount := plain_sp (q := spCount) (by unfold spE; rfl) fun F args args' v h hl hs => by
  unfold gCount at hs
  split at hs
  · rename_i c s c' t
    simp only [RT.sel, Option.some.injEq] at hs
    subst hs
    obtain ⟨y1, l1, rfl, h1, h2⟩ := hl.cons_inv
    obtain ⟨y2, l2, rfl, h3, h4⟩ := h2.cons_inv
    rw [h4.nil_inv, h3.int_inv, h1.str_inv]
    refine ⟨_, rfl, ?_⟩
    rw [mkI_eq]
    exact .int ..
  · cases hs
/-- told functions and loops, laid over others -/
def Told.withF (T : Told) (f : FuncId) (q : List SV → SH → RT (SV × SH)) : Told := ⟨fun f' => bif Nat.beq f' f then some q else T.pf f', T.lp⟩
def Told.withL (T : Told) (f p : Nat) (q : Fs → SH → RT (Ex × Fs × SH)) : Told := ⟨T.pf, fun f' p' => bif Nat.beq f' f && Nat.beq p' p then some q else T.lp f' p'⟩
theorem withF_ok {F0 : Fz} {E : Env} {sp : Sp} {T : Told} (hT : ToldOk F0 E sp T) {f : FuncId} {q : List SV → SH → RT (SV × SH)}
    (hq : ∀ args sh v sh' F ι h args' b, F0.le F → HRs F ι sh h → LRs F ι args args' → (q args sh).sel = some (v, sh') → Out F ι sh h v sh' fun n => callH_ E sp b n f args' h) : ToldOk F0 E sp (T.withF f q) where
  run := fun f' h => by
    unfold Told.withF at h
    simp only at h
    cases hb : Nat.beq f' f with
    | true => rw [hb] at h; cases h
    | false => rw [hb] at h; exact hT.run f' h
  pf := fun f' q' h => by
    unfold Told.withF at h
    simp only at h
    cases hb : Nat.beq f' f with
    | true =>
      rw [hb] at h
      simp only [cond_true, Option.some.injEq] at h
      subst h
      rw [Nat.eq_of_beq_eq_true hb]
      exact hq
    | false => rw [hb] at h; exact hT.pf f' q' h
  lp := fun f' p q' h => hT.lp f' p q' h
theorem withL_ok {F0 : Fz} {E : Env} {sp : Sp} {T : Told} (hT : ToldOk F0 E sp T) {f p : Nat} {q : Fs → SH → RT (Ex × Fs × SH)}
    (hq : ∀ x n, InCode E f p (.loop x) n → ∀ a sh r F ι b h, F0.le F → HRs F ι sh h → FRs F ι a b → a.n = n → (q a sh).sel = some r → RunR F ι sh h r fun m => runCode E sp m (.inl (.loop x)) b h) : ToldOk F0 E sp (T.withL f p q) where
  run := fun f' h => hT.run f' h
  pf := fun f' q' h => hT.pf f' q' h
  lp := fun f' p' q' h => by
    unfold Told.withL at h
    simp only at h
    cases hb : (Nat.beq f' f && Nat.beq p' p) with
    | true =>
      rw [hb] at h
      simp only [cond_true, Option.some.injEq] at h
      subst h
      rw [Bool.and_eq_true] at hb
      rw [Nat.eq_of_beq_eq_true hb.1, Nat.eq_of_beq_eq_true hb.2]
      exact hq
    | false => rw [hb] at h; exact hT.lp f' p' q' h
def bad_ : List SV → SH → RT (SV × SH) := fun _ _ => .bad
noncomputable def TB : Told :=
  ((((((((((((⟨fun _ => none, fun _ _ => none⟩ : Told).withF 101 bad_).withF 228 (toldCall 0 gClean)).withF 181 (toldCall 0 gName)).withF 335 (toldCall 0 gCompare)).withF 377 (toldCall 0 gIndex)).withF 403 (toldCall 0 gCount)).withF 331 bad_).withF 18 bad_).withF 3 bad_).withF 25 bad_).withF 41 bad_).withF 37 bad_
theorem TB_ok {F0 : Fz} : ToldOk F0 env spE TB := by
  have plain : ∀ {f : FuncId} {g : List SV → RT SV} {c : Nat}, PlainFn F0 env spE f c g → ∀ args sh v sh' F ι h args' b, F0.le F → HRs F ι sh h → LRs F ι args args' → (toldCall c g args sh).sel = some (v, sh') → Out F ι sh h v sh' fun n => callH_ env spE b n f args' h :=
    fun hg args sh v sh' F ι h args' b h0 H hl hs => told_rel hg h0 H hl hs
  have hrun : ∀ f, TB.pf f = none → spE f = none := fun f h => by
    unfold TB Told.withF at h
    simp only at h
    unfold spE sp0
    cases h0 : Nat.beq f 37 with
    | true => rw [h0] at h; cases h
    | false =>
    cases h1 : Nat.beq f 41 with
    | true => rw [h0, h1] at h; cases h
    | false =>
    cases h2 : Nat.beq f 25 with
    | true => rw [h0, h1, h2] at h; cases h
    | false =>
    cases h3 : Nat.beq f 3 with
    | true => rw [h0, h1, h2, h3] at h; cases h
    | false =>
    cases h4 : Nat.beq f 18 with
    | true => rw [h0, h1, h2, h3, h4] at h; cases h
    | false =>
    cases h5 : Nat.beq f 331 with
    | true => rw [h0, h1, h2, h3, h4, h5] at h; cases h
    | false =>
    cases h6 : Nat.beq f 403 with
    | true => rw [h0, h1, h2, h3, h4, h5, h6] at h; cases h
    | false =>
    cases h7 : Nat.beq f 377 with
    | true => rw [h0, h1, h2, h3, h4, h5, h6, h7] at h; cases h
    | false =>
    cases h8 : Nat.beq f 335 with
    | true => rw [h0, h1, h2, h3, h4, h5, h6, h7, h8] at h; cases h
    | false =>
    cases h9 : Nat.beq f 181 with
    | true => rw [h0, h1, h2, h3, h4, h5, h6, h7, h8, h9] at h; cases h
    | false =>
    cases h10 : Nat.beq f 228 with
    | true => rw [h0, h1, h2, h3, h4, h5, h6, h7, h8, h9, h10] at h; cases h
    | false =>
    cases h11 : Nat.beq f 101 with
    | true => rw [h0, h1, h2, h3, h4, h5, h6, h7, h8, h9, h10, h11] at h; cases h
    | false =>
    rfl
  have pf : ∀ f q, TB.pf f = some q → ∀ args sh v sh' F ι h args' b, F0.le F → HRs F ι sh h → LRs F ι args args' → (q args sh).sel = some (v, sh') → Out F ι sh h v sh' fun n => callH_ env spE b n f args' h := fun f q h => by
    unfold TB Told.withF at h
    simp only at h
    cases h0 : Nat.beq f 37 with
    | true => rw [h0] at h; simp only [cond_true, Option.some.injEq] at h; subst h; intro args sh v sh' F ι h args' b _ _ _ hs; cases hs
    | false =>
    cases h1 : Nat.beq f 41 with
    | true => rw [h0, h1] at h; simp only [cond_true, cond_false, Option.some.injEq] at h; subst h; intro args sh v sh' F ι h args' b _ _ _ hs; cases hs
    | false =>
    cases h2 : Nat.beq f 25 with
    | true => rw [h0, h1, h2] at h; simp only [cond_true, cond_false, Option.some.injEq] at h; subst h; intro args sh v sh' F ι h args' b _ _ _ hs; cases hs
    | false =>
    cases h3 : Nat.beq f 3 with
    | true => rw [h0, h1, h2, h3] at h; simp only [cond_true, cond_false, Option.some.injEq] at h; subst h; intro args sh v sh' F ι h args' b _ _ _ hs; cases hs
    | false =>
    cases h4 : Nat.beq f 18 with
    | true => rw [h0, h1, h2, h3, h4] at h; simp only [cond_true, cond_false, Option.some.injEq] at h; subst h; intro args sh v sh' F ι h args' b _ _ _ hs; cases hs
    | false =>
    cases h5 : Nat.beq f 331 with
    | true => rw [h0, h1, h2, h3, h4, h5] at h; simp only [cond_true, cond_false, Option.some.injEq] at h; subst h; intro args sh v sh' F ι h args' b _ _ _ hs; cases hs
    | false =>
    cases h6 : Nat.beq f 403 with
    | true => rw [h0, h1, h2, h3, h4, h5, h6] at h; simp only [cond_true, cond_false, Option.some.injEq] at h; subst h; rw [Nat.eq_of_beq_eq_true h6]; exact plain count_plain
    | false =>
    cases h7 : Nat.beq f 377 with
    | true => rw [h0, h1, h2, h3, h4, h5, h6, h7] at h; simp only [cond_true, cond_false, Option.some.injEq] at h; subst h; rw [Nat.eq_of_beq_eq_true h7]; exact plain index_plain
    | false =>
    cases h8 : Nat.beq f 335 with
    | true => rw [h0, h1, h2, h3, h4, h5, h6, h7, h8] at h; simp only [cond_true, cond_false, Option.some.injEq] at h; subst h; rw [Nat.eq_of_beq_eq_true h8]; exact plain compare_plain
    | false =>
    cases h9 : Nat.beq f 181 with
    | true => rw [h0, h1, h2, h3, h4, h5, h6, h7, h8, h9] at h; simp only [cond_true, cond_false, Option.some.injEq] at h; subst h; rw [Nat.eq_of_beq_eq_true h9]; exact plain name_told
    | false =>
    cases h10 : Nat.beq f 228 with
    | true => rw [h0, h1, h2, h3, h4, h5, h6, h7, h8, h9, h10] at h; simp only [cond_true, cond_false, Option.some.injEq] at h; subst h; rw [Nat.eq_of_beq_eq_true h10]; exact plain clean_told
    | false =>
    cases h11 : Nat.beq f 101 with
    | true => rw [h0, h1, h2, h3, h4, h5, h6, h7, h8, h9, h10, h11] at h; simp only [cond_true, cond_false, Option.some.injEq] at h; subst h; intro args sh v sh' F ι h args' b _ _ _ hs; cases hs
    | false =>
    rw [h0, h1, h2, h3, h4, h5, h6, h7, h8, h9, h10, h11] at h; cases h
  exact ⟨hrun, pf, fun f p q h => by cases h⟩
end Go.Proofs.YthloojeefdjpjaaGreatDoor.Se

/- Loops: where they stand. -/
namespace Go.Proofs.YthloojeefdjpjaaGreatDoor.Se
open Go Go.Proofs.YthloojeefdjpjaaGreatDoor Go.RowKit
set_option linter.unusedVariables false
set_option maxRecDepth 1000000
noncomputable def fnBody (f : FuncId) : Code := match env.funcs.get f with | some fn => (match fn.body with | some c => c | none => .skip) | none => .skip
noncomputable def loopBody (f p : Nat) : Code := match codeAt (fnBody f) 24 (2 * p) with | some c => c | none => .skip
noncomputable def fnOk (f n : Nat) : Bool := match env.funcs.get f with | some fn => fn.body.isSome && Nat.beq n fn.ntmps | none => false
noncomputable def atOk (f p : Nat) : Bool := (codeAt (fnBody f) 24 (2 * p)).isSome && Nat.blt (2 * p) 16777216
theorem in_code {f p n : Nat} (h1 : fnOk f n = true) (h2 : atOk f p = true) : InCode env f (2 * p) (loopBody f p) n := by
  unfold fnOk at h1
  unfold atOk at h2
  rw [Bool.and_eq_true] at h2
  obtain ⟨h2, h3⟩ := h2
  cases hf : env.funcs.get f with
  | none => rw [hf] at h1; cases h1
  | some fn =>
    rw [hf] at h1
    simp only [Bool.and_eq_true] at h1
    have hn := Nat.eq_of_beq_eq_true h1.2
    cases hb : fn.body with
    | none => rw [hb] at h1; cases h1.1
    | some root =>
      have e : fnBody f = root := by unfold fnBody; rw [hf]; simp only [hb]
      refine ⟨fn, root, hf, hb, ?_⟩
      obtain ⟨c, hc⟩ := Option.isSome_iff_exists.1 h2
      have : loopBody f p = c := by unfold loopBody; rw [hc]
      rw [this]
      rw [e] at hc
      exact ⟨code_sits hc, hn⟩
theorem loop_is {f p n : Nat} (h1 : fnOk f n = true) (h2 : atOk f p = true) {x : Code} {n' : Nat} (h : InCode env f p (.loop x) n') : x = loopBody f p ∧ n' = n := by
  obtain ⟨fn, root, i1, i2, i3, i4⟩ := h
  obtain ⟨fn2, root2, j1, j2, j3, j4⟩ := in_code h1 h2
  rw [i1] at j1
  injection j1 with j1
  subst j1
  rw [i2] at j2
  injection j2 with j2
  subst j2
  unfold atOk at h2
  rw [Bool.and_eq_true] at h2
  have hlt : 2 * p < 2 ^ 24 := by
    have := h2.2
    simpa [Nat.blt_eq] using this
  have a := (at_code (Sits.loop i3)).2 24 hlt
  have b := (at_code j3).2 24 hlt
  rw [a] at b
  injection b with b
  exact ⟨b, i4.trans j4.symm⟩
noncomputable def wsOk (f p : Nat) (ws : List Tmp) : Bool := (wr (loopBody f p)).all (fun t => ws.any (Nat.beq t))
theorem ws_ok {f p : Nat} {ws : List Tmp} (h : wsOk f p ws = true) : ∀ t, t ∈ wr (loopBody f p) → t ∈ ws := by
  intro t ht
  have := List.all_eq_true.1 h t ht
  obtain ⟨u, h1, h2⟩ := List.any_eq_true.1 this
  rw [Nat.eq_of_beq_eq_true h2]
  exact h1
/-- A loop, told. -/
theorem lp_told {F0 : Fz} {sp : Sp} {T : Told} (hT : ToldOk F0 env sp T) {f p n c : Nat} {live ws : List Tmp} {g : Nat → List SV → List SB → RT (Left (Ex × List (Tmp × SV)))} (h1 : fnOk f n = true) (h2 : atOk f p = true)
    (hg : SubLp F0 env sp (loopBody f p) n c live ws g) : ToldOk F0 env sp (T.withL f p (subLoop c live ws g)) :=
  withL_ok hT fun x n' hx a sh r F ι b h h0 H hf han hs => by
    obtain ⟨rfl, rfl⟩ := loop_is h1 h2 hx
    exact subLp_rel hg h0 H hf han hs
/-- A function that only looks, told. -/
theorem fn_told {F0 : Fz} {sp : Sp} {T : Told} (hT : ToldOk F0 env sp T) {f c : Nat} {g : List SV → RT SV} (hg : PlainFn F0 env sp f c g) : ToldOk F0 env sp (T.withF f (toldCall c g)) :=
  withF_ok hT fun args sh v sh' F ι h args' b h0 H hl hs => told_rel hg h0 H hl hs
/-- A function of a part of a heap, told. -/
theorem sub_told {F0 : Fz} {sp : Sp} {T : Told} (hT : ToldOk F0 env sp T) {f c : Nat} {ms : List Bool} {g : Nat → List SV → List SB → RT (Left SV)} (hg : SubOk F0 env sp f c g) : ToldOk F0 env sp (T.withF f (subCall c ms g)) :=
  withF_ok hT fun args sh v sh' F ι h args' b h0 H hl hs => sub_rel hg h0 H hl hs

/-! ### Rows that are contents -/
def u8Of (x : SV) : Option UInt8 := match x with | .int .u8 _ (.ofNat n) => (match Nat.blt n 256 with | true => some (UInt8.ofNat n) | false => none) | _ => none
def xtOf (r : List SV) : Option Xt :=
  match r with
  | [.int .i64 _ no, c0, c1, c2, c3, c4, c5, c6, c7] => (match u8Of c0, u8Of c1, u8Of c2, u8Of c3, u8Of c4, u8Of c5, u8Of c6, u8Of c7 with
    | some b0, some b1, some b2, some b3, some b4, some b5, some b6, some b7 => some ⟨no, b0, b1, b2, b3, b4, b5, b6, b7⟩
    | _, _, _, _, _, _, _, _ => none)
  | _ => none
theorem u8_wk {K : Nat} {x : SV} {b : UInt8} (h : u8Of x = some b) : Wk K x (by_ b) := by
  unfold u8Of at h
  split at h
  · rename_i c n
    split at h
    · rename_i hb
      injection h with h; subst h
      have hn : n < 256 := by simpa [Nat.blt_eq] using hb
      have : (UInt8.ofNat n).toNat = n := by simp [UInt8.toNat_ofNat', Nat.mod_eq_of_lt hn]
      unfold by_
      rw [this]
      exact Wk.int
    · cases h
  · cases h
theorem u8_by (b : UInt8) : u8Of (by_ b) = some b := by
  unfold u8Of by_
  have h := b.toNat_lt
  have : Nat.blt b.toNat 256 = true := by simp [Nat.blt_eq]; exact h
  simp only [this]
  simp
theorem xt_wk {K : Nat} {r : List SV} {x : Xt} (h : xtOf r = some x) : WkL K r (xtRow x) := by
  unfold xtOf at h
  split at h
  · rename_i c no c0 c1 c2 c3 c4 c5 c6 c7
    split at h
    · rename_i b0 b1 b2 b3 b4 b5 b6 b7 e0 e1 e2 e3 e4 e5 e6 e7
      injection h with h; subst h
      exact .cons Wk.int (.cons (u8_wk e0) (.cons (u8_wk e1) (.cons (u8_wk e2) (.cons (u8_wk e3) (.cons (u8_wk e4) (.cons (u8_wk e5) (.cons (u8_wk e6) (.cons (u8_wk e7) .nil))))))))
    · cases h
  · cases h
theorem xt_row (x : Xt) : xtOf (xtRow x) = some x := by
  unfold xtRow xtOf
  simp only [u8_by]
/-- are rows of a form? -/
def wfR {α : Type} (q : List SV → Option α) (n : Nat) (e : Nat → List SV) : Bool := (List.range n).all fun i => (q (e i)).isSome
/-- the rows' values -/
def lsR {α : Type} (q : List SV → Option α) (d : α) (n : Nat) (e : Nat → List SV) : List α := (List.range n).map fun i => (match q (e i) with | some x => x | none => d)
theorem lsR_len {α : Type} {q : List SV → Option α} {d : α} {n : Nat} {e : Nat → List SV} : (lsR q d n e).length = n := by simp [lsR]
theorem wfR_wk {α : Type} {q : List SV → Option α} {row : α → List SV} {d : α} {K k n : Nat} {e : Nat → List SV} (hq : ∀ r x, q r = some x → WkL K r (row x)) (h : wfR q n e = true) : WkR K k n e fun i => row ((lsR q d n e).getD i d) := by
  intro i hi hk
  unfold wfR at h
  have h1 := List.all_eq_true.1 h i (by simpa using hi)
  obtain ⟨x, hx⟩ := Option.isSome_iff_exists.1 h1
  have : (lsR q d n e).getD i d = x := by
    unfold lsR
    simp [List.getD, hi, hx]
  have W := hq _ _ hx
  show (row ((lsR q d n e).getD i d)).length = k ∧ WkL K (e i) (row ((lsR q d n e).getD i d))
  rw [this]
  exact ⟨by rw [← W.len]; exact hk, W⟩
theorem wfR_of {α : Type} {q : List SV → Option α} {row : α → List SV} {d : α} (hq : ∀ x, q (row x) = some x) {l : List α} : wfR q l.length (fun i => row (l.getD i d)) = true := by
  unfold wfR
  rw [List.all_eq_true]
  intro i _
  rw [hq]
  rfl
theorem lsR_of {α : Type} {q : List SV → Option α} {row : α → List SV} {d : α} (hq : ∀ x, q (row x) = some x) {l : List α} : lsR q d l.length (fun i => row (l.getD i d)) = l := by
  unfold lsR
  apply List.ext_getElem?
  intro i
  by_cases hi : i < l.length
  · simp [hi, hq]
  · simp [hi]
theorem wf_xt {l : List Xt} : wfR xtOf l.length (xtE l) = true := wfR_of (row := xtRow) (d := xt0) xt_row
theorem ls_xt {l : List Xt} : lsR xtOf xt0 l.length (xtE l) = l := lsR_of (row := xtRow) (d := xt0) xt_row
/-- a slice that is looked at: how many rows, which; is it nil? -/
def slR (k : Nat) (x : SV) : Option (Nat × Option Bool × (Nat → List SV)) :=
  match x with
  | .fsl _ k' n nl e => (match Nat.beq k' k with | true => some (n, nl, e) | false => none)
  | .raw (.slice none 0 0) => some (0, some true, fun _ => [])
  | _ => none
theorem slR_wk {α : Type} {q : List SV → Option α} {row : α → List SV} {d : α} {K k : Nat} {x : SV} {n : Nat} {nl : Option Bool} {e : Nat → List SV} (hq : ∀ r x, q r = some x → WkL K r (row x)) (h : slR k x = some (n, nl, e)) (hw : wfR q n e = true) {st : Nat} (hs : K ≤ st) :
    Wk K x (.fsl st k n nl fun i => row ((lsR q d n e).getD i d)) := by
  unfold slR at h
  split at h
  · rename_i k' n' nl' e'
    split at h
    · rename_i hk
      simp only [Option.some.injEq, Prod.mk.injEq] at h
      obtain ⟨rfl, rfl, rfl⟩ := h
      have := Nat.eq_of_beq_eq_true hk
      subst this
      exact .fsl hs (.inr rfl) (wfR_wk hq hw)
    · cases h
  · simp only [Option.some.injEq, Prod.mk.injEq] at h
    obtain ⟨rfl, rfl, rfl⟩ := h
    exact .nil_fsl (.inr rfl)
  · cases h
/-! ### Ways -/
theorem way_sel {α : Type} {t : RT α} {l : List Bool} {cs : List (Bool × Bool)} {x : α} (h : t.follow l = some (cs, x)) (hc : (cs.all fun p => p.1 == p.2) = true) : t.sel = some x :=
  follow_sel h fun p hp => by simpa using List.all_eq_true.1 hc p hp
theorem Wk.int_eq {K : Nat} {k : IntKind} {c c2 : Bool} {x y : Int} (h : x = y) : Wk K (.int k c x) (.int k c2 y) := h ▸ Wk.int
theorem xt_refl {K : Nat} {x : Xt} : WkL K (xtRow x) (xtRow x) := .cons Wk.int (.cons Wk.int (.cons Wk.int (.cons Wk.int (.cons Wk.int (.cons Wk.int (.cons Wk.int (.cons Wk.int (.cons Wk.int .nil))))))))
theorem xtE_refl {K n : Nat} {l : List Xt} : WkR K 9 n (xtE l) (xtE l) := fun i _ _ => ⟨rfl, xt_refl⟩
theorem wrap_succ {i : Nat} (h : i < 1099511627776) : IntKind.i64.wrap (Int.ofNat i + Int.ofNat 1) = Int.ofNat (i + 1) := by
  show IntKind.i64.wrap (Int.ofNat (i + 1)) = _
  exact IntWalk.i64_in _ (by simp only [Int.ofNat_eq_natCast]; omega)
theorem lt_nat (a b : Nat) : decide (Int.ofNat a < Int.ofNat b) = Nat.blt a b := by
  cases h : Nat.blt a b with
  | true => have : a < b := by simpa [Nat.blt_eq] using h
            simp only [decide_eq_true_eq, Int.ofNat_eq_natCast]; omega
  | false =>
    have : ¬ a < b := fun q => by have : Nat.blt a b = true := by simpa [Nat.blt_eq] using q
                                  rw [h] at this; cases this
    simp only [decide_eq_false_iff_not, Int.ofNat_eq_natCast]; omega
theorem nn_nat (a : Nat) : decide (0 ≤ Int.ofNat a) = true := by simp
theorem WkL.lost {K : Nat} : ∀ {l : List SV}, WkL K l (List.replicate l.length .lost)
  | [] => .nil
  | _ :: l => .cons Wk.lost (WkL.lost (l := l))
/-! ### Rows that are bytes -/
def byE (bs : List UInt8) (i : Nat) : List SV := [by_ (bs.getD i 0)]
def byOf (r : List SV) : Option UInt8 := match r with | [x] => u8Of x | _ => none
def byRow (b : UInt8) : List SV := [by_ b]
theorem by_wk {K : Nat} {r : List SV} {b : UInt8} (h : byOf r = some b) : WkL K r (byRow b) := by
  unfold byOf at h
  split at h
  · exact .cons (u8_wk h) .nil
  · cases h
theorem by_row (b : UInt8) : byOf (byRow b) = some b := u8_by b
theorem wf_by {l : List UInt8} : wfR byOf l.length (byE l) = true := wfR_of (row := byRow) (d := 0) by_row
theorem ls_by {l : List UInt8} : lsR byOf 0 l.length (byE l) = l := lsR_of (row := byRow) (d := 0) by_row
theorem by_refl {K : Nat} {b : UInt8} : WkL K (byRow b) (byRow b) := .cons Wk.int .nil
theorem byE_refl {K n : Nat} {l : List UInt8} : WkR K 1 n (byE l) (byE l) := fun i _ _ => ⟨rfl, by_refl⟩
end Go.Proofs.YthloojeefdjpjaaGreatDoor.Se

