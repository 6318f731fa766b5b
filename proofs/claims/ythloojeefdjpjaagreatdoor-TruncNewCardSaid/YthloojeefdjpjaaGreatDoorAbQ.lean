/- The evaluator's answers are the machine's. -/
import Derived.Test.YthloojeefdjpjaaGreatDoorAbP
import Derived.LoopN
namespace Go.Proofs.YthloojeefdjpjaaGreatDoor
open Go Go.RowKit
set_option linter.unusedVariables false
set_option linter.unusedSimpArgs false

def toExit : Ex → Exit
  | .normal => .normal
  | .exit id => .exit id
  | .ret => .ret
def spCall (sp : Sp) : FuncId → List Value → Hp → Option (Value × Hp) := fun f args h => match sp f with | some g => g args h | none => none
theorem draws1_normal {E : Env} {call : FuncId → List Value → Hp → Option (Value × Hp)} {m : Bool} {all : List Oper} {an : List Nat} {a : Fr} {h : Hp} {e : Ex} {a2 : Fr} {h2 : Hp} (hr : draws1_ E call m all an a h = .ok e a2 h2) : e = .normal := by
  unfold draws1_ at hr
  cases ht : trace_ E call all all a h with
  | none => rw [ht] at hr; cases hr
  | some q =>
    obtain ⟨tr, aN, hN⟩ := q
    rw [ht] at hr
    simp only at hr
    cases hrd : (readsOk_ E m all an tr hN && (bif m then ups_ tr hN else true)) with
    | false => rw [hrd] at hr; cases hr
    | true =>
      rw [hrd, cond_true] at hr
      simp only [Rs.ok.injEq] at hr
      exact hr.1.symm
theorem draws_normal {E : Env} {call : FuncId → List Value → Hp → Option (Value × Hp)} {all : List Oper} {a : Fr} {h : Hp} {e : Ex} {a2 : Fr} {h2 : Hp} (hr : draws_ E call all a h = .ok e a2 h2) : e = .normal := by
  unfold draws_ at hr
  simp only at hr
  cases hd : drawOk_ E false all (anc_ all []) with
  | true => rw [hd, cond_true] at hr; exact draws1_normal hr
  | false =>
    rw [hd, cond_false] at hr
    cases hdt : drawOk_ E true all (anc_ all []) && lateOk_ E all (anc_ all []) with
    | true => rw [hdt, cond_true] at hr; exact draws1_normal hr
    | false =>
    rw [hdt, cond_false] at hr
    generalize late_ all all.zipIdx [] = ord at hr
    cases ho : ordOk_ all ord with
    | false => rw [ho] at hr; cases hr
    | true =>
      rw [ho, cond_true] at hr
      unfold draws2_ at hr
      cases hdl : drawOk_ E true (other_ all ord) (anc_ (other_ all ord) []) && lateOk_ E (other_ all ord) (anc_ (other_ all ord) []) with
      | false => rw [hdl] at hr; cases hr
      | true => rw [hdl, cond_true] at hr; exact draws1_normal hr
theorem ofArgs_get : ∀ (l : List Value) (k : Nat) (t : Tr Value) (j : Nat), k + l.length < 2 ^ 64 → (Fr.ofArgs l k t).get j = if k ≤ j ∧ j < k + l.length then l[j - k]? else t.get j := by
  intro l
  induction l with
  | nil => intro k t j _; simp only [Fr.ofArgs, List.length_nil]; rw [if_neg (by omega)]
  | cons x l ih =>
    intro k t j h
    simp only [List.length_cons] at h
    simp only [Fr.ofArgs]
    rw [ih (k + 1) _ j (by omega), Tr.get_set _ _ _ _ _ (by omega)]
    simp only [List.length_cons]
    by_cases h1 : k + 1 ≤ j ∧ j < k + 1 + l.length
    · rw [if_pos h1, if_pos (by omega)]
      obtain ⟨d, rfl⟩ : ∃ d, j = k + 1 + d := ⟨j - (k + 1), by omega⟩
      rw [show k + 1 + d - (k + 1) = d from by omega, show k + 1 + d - k = d + 1 from by omega]
      rfl
    · rw [if_neg h1]
      by_cases h2 : j = k
      · subst h2; rw [if_pos rfl, if_pos (by omega)]; simp
      · rw [if_neg h2, if_neg (by omega)]
theorem enter_fr {β : Bt} {args args' : List Value} {n gl : Nat} (hl : LR β args args') (hn : args.length ≤ n) (hm : n ≤ 100000) (hgl : ∀ g, g < gl → β g = some ⟨g, 0, 0⟩) :
    FR β ⟨n, gl, Fr.ofArgs args 0 .nil⟩ { tmps := args'.toArray ++ Array.replicate (n - args'.toArray.size) undef, defers := [] } := by
  refine ⟨rfl, ?_, hm, hgl, fun t => ?_⟩
  · have := hl.1
    simp
    omega
  · have hlen := hl.1
    show VR β (match (Fr.ofArgs args 0 .nil).get t with | some v => v | none => undef) _
    rw [ofArgs_get _ _ _ _ (by omega)]
    simp only [Nat.zero_le, true_and, Nat.zero_add, Nat.sub_zero, Array.getD_eq_getD_getElem?]
    by_cases ht : t < args.length
    · rw [if_pos ht, Array.getElem?_append_left (by simpa using hlen ▸ ht)]
      have h1 := List.getElem?_eq_getElem ht
      obtain ⟨y, hy, hR⟩ := hl.get h1
      have : args'.toArray[t]? = some y := by simpa using hy
      rw [h1, this]
      exact hR
    · rw [if_neg ht, Array.getElem?_append_right (by simp; omega)]
      simp only [Tr.get_nil]
      have : ((Array.replicate (n - args'.toArray.size) undef)[t - args'.toArray.size]?).getD undef = undef := by
        rw [Array.getElem?_replicate]
        split <;> rfl
      rw [this]
      exact .undef β
section
variable {P : Program} {eqs : List TypeId} (hp : P.types.size < 4000) (hs : ∀ t ∈ eqs, P.stoodInHeld t = false) (hg : ∀ t ∈ eqs, P.eqGuardType P.depth t = false) (hmix : P.follows .mixedOrders = true)
include hp
theorem results_run {β : Bt} {a : Fr} {a' : Act} {h : Hp} {w : World} (hF : FR β a a') (H : HR P β h w) : ∀ {l : List ResultVar} {r : List Value}, resultOf (Env.of P eqs) a h l = some r →
    ∃ r' : List Value, (l.mapM (fun (q : ResultVar) => (match q with | .tmp t => pure (a'.tmps.getD t undef) | .cell x t => do loadVar t (← asAddr (a'.tmps.getD x undef)) : Sem Value))).run P w = .ok r' w ∧ LR β r r' := by
  intro l
  induction l with
  | nil => intro r hr; simp only [resultOf, Option.some.injEq] at hr; subst hr; exact ⟨[], rfl, LR.nil β⟩
  | cons x l ih =>
    intro r hr
    cases x with
    | tmp t =>
      simp only [resultOf] at hr
      cases hq : resultOf (Env.of P eqs) a h l with
      | none => rw [hq] at hr; cases hr
      | some r2 =>
        rw [hq] at hr
        simp only [Option.some.injEq] at hr
        subst hr
        obtain ⟨r', h1, h2⟩ := ih hq
        refine ⟨a'.tmps.getD t undef :: r', ?_, LR.cons (hF.tmps t) h2⟩
        rw [List.mapM_cons]
        simp only [Sem.run_bind, Sem.run_pure, Result.andThen_ok, h1]
    | cell x t =>
      simp only [resultOf] at hr
      cases ha : addr_ (a.eval (.tmp x)) with
      | none => rw [ha] at hr; cases hr
      | some ad =>
        rw [ha] at hr
        simp only at hr
        cases hv : loadVar_ (Env.of P eqs) h t ad with
        | none => rw [hv] at hr; cases hr
        | some v =>
          cases hq : resultOf (Env.of P eqs) a h l with
          | none => rw [hv, hq] at hr; cases hr
          | some r2 =>
            rw [hv, hq] at hr
            simp only [Option.some.injEq] at hr
            subst hr
            obtain ⟨r', h1, h2⟩ := ih hq
            obtain ⟨i, _, hi, he⟩ := VR.of_addr ha (hF.eval (.tmp x))
            obtain ⟨v', h3, h4⟩ := loadVar_run hp H hv hi
            refine ⟨v' :: r', ?_, LR.cons h4 h2⟩
            rw [List.mapM_cons]
            have he' : a'.tmps.getD x undef = .pointer (some ⟨i.blk, i.off + ad.off, none⟩) := he
            have h7 : (asAddr (a'.tmps.getD x undef)).run P w = .ok ⟨i.blk, i.off + ad.off, none⟩ w := by rw [he']; rfl
            simp only [Sem.run_bind, h7, Sem.run_pure, Result.andThen_ok, h3, h1]
theorem result_run {β : Bt} {a : Fr} {a' : Act} {h : Hp} {w : World} (hF : FR β a a') (H : HR P β h w) {fn : Func} {v : Value} (hr : results_ (Env.of P eqs) a h fn.results.toList = some v) :
    ∃ v', (results fn a'.tmps).run P w = .ok v' w ∧ VR β v v' := by
  unfold results_ at hr
  cases hq : resultOf (Env.of P eqs) a h fn.results.toList with
  | none => rw [hq] at hr; cases hr
  | some r =>
    obtain ⟨r', h1, h2⟩ := results_run hp hF H hq
    rw [hq] at hr
    unfold results
    simp only [Array.mapM_eq_mapM_toList, Sem.run_bind, Sem.run_map]
    erw [h1]
    simp only [Result.andThen_ok, Sem.run_pure]
    have hlen := h2.1
    split at hr
    · rename_i x heq
      injection heq with heq
      subst heq
      injection hr with hr
      subst hr
      match r', h2, hlen with
      | [y], h2, _ => exact ⟨y, rfl, h2.head⟩
    · rename_i vs hne heq
      injection heq with heq
      subst heq
      injection hr with hr
      subst hr
      refine ⟨.tuple r'.toArray, ?_, VR.of_tuple h2⟩
      have : r'.toArray.size ≠ 1 := by
        intro h1
        have h3 : r'.length = 1 := by simpa using h1
        have h4 : r.length = 1 := by omega
        match r, h4, hne with
        | [x], _, hne => exact hne x rfl
      rw [dif_neg this]
    · rename_i heq; cases heq
include hs hg hmix
theorem run_sound (hf : P.funcs.size < 4000) (hname : ∀ (f : FuncId) (fn : Func), P.funcs[f]? = some fn → (fn.name == "runtime.NumGoroutine") = false) {sp : Sp} (hsp : CallOk P (spCall sp) P.globals.size) : ∀ n,
    (∀ c a h e a2 h2, runCode (Env.of P eqs) sp n (.inl c) a h = .ok e a2 h2 → ∀ β a' w Q, FR β a a' → a.gl = P.globals.size → HR P β h w →
      (∀ β2 a2' w2, HR P β2 h2 w2 → St β h w β2 h2 w2 → FR β2 a2 a2' → a2.gl = P.globals.size → Q (toExit e) a2' w2) → c.wp P Q a' w) ∧
    (∀ x a h e a2 h2, runCode (Env.of P eqs) sp n (.inl (.loop x)) a h = .ok e a2 h2 → ∀ β a' w Q, FR β a a' → a.gl = P.globals.size → HR P β h w →
      (∀ β2 a2' w2, HR P β2 h2 w2 → St β h w β2 h2 w2 → FR β2 a2 a2' → a2.gl = P.globals.size → Q (toExit e) a2' w2) → Code.rounds P x Q n a' w) ∧
    (∀ f args a h e r h2, runCode (Env.of P eqs) sp n (.inr (f, args)) a h = .ok e r h2 → ∀ β args' w, LR β args args' → HR P β h w → (∀ g, g < P.globals.size → β g = some ⟨g, 0, 0⟩) →
      (∃ fn c, P.funcs[f]? = some fn ∧ fn.body = some c) ∧ Calls P f args'.toArray w fun en w2 => ∃ v' β2, en = .returned v' ∧ HR P β2 h2 w2 ∧ St β h w β2 h2 w2 ∧ VR β2 (r.eval (.tmp 0)) v') := by
  intro n
  induction n with
  | zero => exact ⟨fun c a h e a2 h2 hr => by simp [runCode] at hr, fun x a h e a2 h2 hr => by simp [runCode] at hr, fun f args a h e r h2 hr => by simp [runCode] at hr⟩
  | succ n ih =>
    obtain ⟨ihc, ihl, ihf⟩ := ih
    -- a loop's rounds
    have loop : ∀ x a h e a2 h2, runCode (Env.of P eqs) sp (n + 1) (.inl (.loop x)) a h = .ok e a2 h2 → ∀ β a' w Q, FR β a a' → a.gl = P.globals.size → HR P β h w →
        (∀ β2 a2' w2, HR P β2 h2 w2 → St β h w β2 h2 w2 → FR β2 a2 a2' → a2.gl = P.globals.size → Q (toExit e) a2' w2) → Code.rounds P x Q (n + 1) a' w := by
      intro x a h e a2 h2 hr β a' w Q hF hgl H hq
      simp only [runCode] at hr
      rw [rounds_succ]
      cases h1 : runCode (Env.of P eqs) sp n (.inl x) a h with
      | bad => rw [h1] at hr; cases hr
      | ok e1 a1 h3 =>
        rw [h1] at hr
        cases e1 with
        | normal =>
          simp only at hr
          exact ihc x a h _ a1 h3 h1 β a' w _ hF hgl H fun β1 a1' w1 H1 S1 F1 g1 => ihl x a1 h3 e a2 h2 hr β1 a1' w1 Q F1 g1 H1 fun β2 a2' w2 H2 S2 F2 g2 => hq β2 a2' w2 H2 (S1.trans S2) F2 g2
        | exit id =>
          simp only [Rs.ok.injEq] at hr
          obtain ⟨rfl, rfl, rfl⟩ := hr
          exact ihc x a h _ a1 h3 h1 β a' w _ hF hgl H hq
        | ret =>
          simp only [Rs.ok.injEq] at hr
          obtain ⟨rfl, rfl, rfl⟩ := hr
          exact ihc x a h _ a1 h3 h1 β a' w _ hF hgl H hq
    have callOk : CallOk P (fun f args h => match sp f with | some g => g args h | none => match runCode (Env.of P eqs) sp n (.inr (f, args)) ⟨0, 0, .nil⟩ h with | .ok _ r h => some (r.eval (.tmp 0), h) | .bad => none) P.globals.size := by
      intro f args args' h h2 v β w hc hl H hgb
      cases hsf : sp f with
      | some g =>
        simp only [hsf] at hc
        exact hsp f args args' h h2 v β w (by unfold spCall; rw [hsf]; exact hc) hl H hgb
      | none =>
        simp only [hsf] at hc
        cases hr : runCode (Env.of P eqs) sp n (.inr (f, args)) ⟨0, 0, .nil⟩ h with
        | bad => rw [hr] at hc; cases hc
        | ok e r h3 =>
          rw [hr] at hc
          simp only [Option.some.injEq, Prod.mk.injEq] at hc
          obtain ⟨rfl, rfl⟩ := hc
          obtain ⟨⟨fn, c, hfn, hb⟩, hcalls⟩ := ihf f args _ h e r h3 hr β args' w hl H hgb
          have hrun : (callFunc f args'.toArray).run P w = .ok (.enter f args'.toArray) w := by
            have hnm := hname f fn hfn
            simp only [callFunc, Sem.run_bind, run_program, Result.andThen_ok, hfn, hnm, Bool.false_eq_true, if_false, hb, Option.isNone_some, Sem.run_pure]
          exact .inr ⟨f, args'.toArray, hrun, hcalls⟩
    refine ⟨?_, loop, ?_⟩
    · intro c a h e a2 h2 hr β a' w Q hF hgl H hq
      cases c with
      | skip =>
        simp only [runCode, Rs.ok.injEq] at hr
        obtain ⟨rfl, rfl, rfl⟩ := hr
        exact wp_skip (hq β a' w H (.refl _ _ _) hF hgl)
      | label l =>
        simp only [runCode, Rs.ok.injEq] at hr
        obtain ⟨rfl, rfl, rfl⟩ := hr
        exact wp_label (hq β a' w H (.refl _ _ _) hF hgl)
      | exit id =>
        simp only [runCode, Rs.ok.injEq] at hr
        obtain ⟨rfl, rfl, rfl⟩ := hr
        exact wp_exit (hq β a' w H (.refl _ _ _) hF hgl)
      | ret =>
        simp only [runCode, Rs.ok.injEq] at hr
        obtain ⟨rfl, rfl, rfl⟩ := hr
        exact wp_ret (hq β a' w H (.refl _ _ _) hF hgl)
      | seq x y =>
        simp only [runCode] at hr
        refine wp_seq ?_
        cases h1 : runCode (Env.of P eqs) sp n (.inl x) a h with
        | bad => rw [h1] at hr; cases hr
        | ok e1 a1 h3 =>
          rw [h1] at hr
          cases e1 with
          | normal =>
            simp only at hr
            exact ihc x a h _ a1 h3 h1 β a' w _ hF hgl H fun β1 a1' w1 H1 S1 F1 g1 => ihc y a1 h3 e a2 h2 hr β1 a1' w1 Q F1 g1 H1 fun β2 a2' w2 H2 S2 F2 g2 => hq β2 a2' w2 H2 (S1.trans S2) F2 g2
          | exit id =>
            simp only [Rs.ok.injEq] at hr
            obtain ⟨rfl, rfl, rfl⟩ := hr
            exact ihc x a h _ a1 h3 h1 β a' w _ hF hgl H hq
          | ret =>
            simp only [Rs.ok.injEq] at hr
            obtain ⟨rfl, rfl, rfl⟩ := hr
            exact ihc x a h _ a1 h3 h1 β a' w _ hF hgl H hq
      | cond x y z =>
        simp only [runCode] at hr
        split at hr
        · rename_i hx
          have := hF.eval x
          rw [hx] at this
          exact wp_cond_true this.bool_inv (ihc y a h e a2 h2 hr β a' w Q hF hgl H hq)
        · rename_i hx
          have := hF.eval x
          rw [hx] at this
          exact wp_cond_false this.bool_inv (ihc z a h e a2 h2 hr β a' w Q hF hgl H hq)
        · cases hr
      | block id x =>
        simp only [runCode] at hr
        refine wp_block ?_
        cases h1 : runCode (Env.of P eqs) sp n (.inl x) a h with
        | bad => rw [h1] at hr; cases hr
        | ok e1 a1 h3 =>
          rw [h1] at hr
          cases e1 with
          | normal =>
            simp only [Rs.ok.injEq] at hr
            obtain ⟨rfl, rfl, rfl⟩ := hr
            exact ihc x a h _ a1 h3 h1 β a' w _ hF hgl H hq
          | ret =>
            simp only [Rs.ok.injEq] at hr
            obtain ⟨rfl, rfl, rfl⟩ := hr
            exact ihc x a h _ a1 h3 h1 β a' w _ hF hgl H hq
          | exit id' =>
            simp only at hr
            refine ihc x a h _ a1 h3 h1 β a' w _ hF hgl H fun β2 a2' w2 H2 S2 F2 g2 => ?_
            cases hb : Nat.beq id' id with
            | true =>
              rw [hb, cond_true] at hr
              simp only [Rs.ok.injEq] at hr
              obtain ⟨rfl, rfl, rfl⟩ := hr
              have := Nat.eq_of_beq_eq_true hb
              simp only [toExit, Exit.inBlock, this, if_true]
              exact hq β2 a2' w2 H2 S2 F2 g2
            | false =>
              rw [hb, cond_false] at hr
              simp only [Rs.ok.injEq] at hr
              obtain ⟨rfl, rfl, rfl⟩ := hr
              have hne : ¬ id' = id := fun e => by subst e; rw [Nat.beq_refl] at hb; cases hb
              simp only [toExit, Exit.inBlock, hne, if_false]
              exact hq β2 a2' w2 H2 S2 F2 g2
      | loop x => exact wp_loop_rounds (n + 1) (loop x a h e a2 h2 hr β a' w Q hF hgl H hq)
      | region id ops draw =>
        simp only [runCode] at hr
        have hgn : ∀ a3 : Fr, runCode (Env.of P eqs) sp n = runCode (Env.of P eqs) sp n := fun _ => rfl
        have callOk' : CallOk P (fun f args h => match sp f with | some g => g args h | none => match runCode (Env.of P eqs) sp n (.inr (f, args)) a h with | .ok _ r h => some (r.eval (.tmp 0), h) | .bad => none) P.globals.size := by
          have hsame : ∀ f args h, runCode (Env.of P eqs) sp n (.inr (f, args)) a h = runCode (Env.of P eqs) sp n (.inr (f, args)) ⟨0, 0, .nil⟩ h := by
            intro f args h
            cases n <;> rfl
          have : (fun f args h => match sp f with | some g => g args h | none => match runCode (Env.of P eqs) sp n (.inr (f, args)) a h with | .ok _ r h => some (r.eval (.tmp 0), h) | .bad => none) =
              (fun f args h => match sp f with | some g => g args h | none => match runCode (Env.of P eqs) sp n (.inr (f, args)) ⟨0, 0, .nil⟩ h with | .ok _ r h => some (r.eval (.tmp 0), h) | .bad => none) := by
            funext f args h
            rw [hsame]
          rw [this]
          exact callOk
        cases draw with
        | false =>
          simp only at hr
          obtain ⟨he, hw⟩ := ops_wp (r := none) (n := 3) hp hs hg callOk' ops (Q := Q) ops.toList 0 (fun j => by simp) hF hgl H hr (fun β2 a2' w2 H2 S2 F2 g2 => by
            have he : e = .normal := by
              have := ops_wp (r := none) (n := 3) hp hs hg callOk' ops (Q := fun _ _ _ => True) ops.toList 0 (fun j => by simp) hF hgl H hr (fun _ _ _ _ _ _ _ => trivial)
              exact this.1
            have := hq β2 a2' w2 H2 S2 F2 g2
            rw [he] at this
            exact this)
          refine wpIn_wide.1 (wpIn_region (n := 3) ?_)
          show wpOpsIn (Fz none) 3 P ops Q (List.range ops.size) a' w
          rw [List.range_eq_range']
          simpa using hw
        | true =>
          simp only at hr
          have he : e = .normal := by
            exact draws_normal hr
          subst he
          exact wpIn_wide.1 (draws_wp (r := none) (n := 3) hp hs hg hmix callOk' ops hF hgl H hr hq id)
      | _ => simp [runCode] at hr
    · intro f args a h e r h2 hr β args' w hl H hgb
      simp only [runCode] at hr
      cases hfn : (Env.of P eqs).funcs.get f with
      | none => rw [hfn] at hr; cases hr
      | some fn =>
        rw [hfn] at hr
        simp only at hr
        have hfn' := env_func hf hfn
        cases hb : fn.body with
        | none => rw [hb] at hr; cases hr
        | some c =>
          cases hle : (Nat.ble args.length fn.ntmps && Nat.ble fn.ntmps 100000) with
          | false => rw [hb, hle] at hr; cases hr
          | true =>
            rw [hb, hle] at hr
            simp only at hr
            obtain ⟨hle1, hle2⟩ := Bool.and_eq_true_iff.1 hle
            refine ⟨⟨fn, c, hfn', hb⟩, calls_of_wp hfn' hb ?_⟩
            have hF := enter_fr hl (Nat.le_of_ble_eq_true hle1) (Nat.le_of_ble_eq_true hle2) hgb
            cases h1 : runCode (Env.of P eqs) sp n (.inl c) ⟨fn.ntmps, (Env.of P eqs).gl, Fr.ofArgs args 0 .nil⟩ h with
            | bad => rw [h1] at hr; cases hr
            | ok e1 a1 h3 =>
              rw [h1] at hr
              have fin : ∀ ex : Exit, (ex = .normal ∨ ex = .ret) → (match results_ (Env.of P eqs) a1 h3 fn.results.toList with | some v => Rs.ok .ret ⟨1, 0, .node (some v) .nil .nil⟩ h3 | none => .bad) = .ok e r h2 →
                  ∀ β2 a2' w2, HR P β2 h3 w2 → St β h w β2 h3 w2 → FR β2 a1 a2' → bodyPost P fn (fun en w2 => ∃ v' β2, en = .returned v' ∧ HR P β2 h2 w2 ∧ St β h w β2 h2 w2 ∧ VR β2 (r.eval (.tmp 0)) v') ex a2' w2 := by
                intro ex hex hr2 β2 a2' w2 H2 S2 F2
                cases hv : results_ (Env.of P eqs) a1 h3 fn.results.toList with
                | none => rw [hv] at hr2; cases hr2
                | some v =>
                  rw [hv] at hr2
                  simp only [Rs.ok.injEq] at hr2
                  obtain ⟨rfl, rfl, rfl⟩ := hr2
                  obtain ⟨v', h5, h6⟩ := result_run hp F2 H2 hv
                  rcases hex with rfl | rfl
                  · exact ⟨F2.defers, v', h5, v', β2, rfl, H2, S2, h6⟩
                  · exact ⟨F2.defers, v', h5, v', β2, rfl, H2, S2, h6⟩
              cases e1 with
              | exit id => cases hr
              | normal => exact ihc c _ h _ a1 h3 h1 β _ w _ hF rfl H fun β2 a2' w2 H2 S2 F2 _ => fin .normal (.inl rfl) hr β2 a2' w2 H2 S2 F2
              | ret => exact ihc c _ h _ a1 h3 h1 β _ w _ hF rfl H fun β2 a2' w2 H2 S2 F2 _ => fin .ret (.inr rfl) hr β2 a2' w2 H2 S2 F2
end
end Go.Proofs.YthloojeefdjpjaaGreatDoor
