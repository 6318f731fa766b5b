/- Frames; one operation, calls among them; regions in their order. -/
import Derived.Test.YthloojeefdjpjaaGreatDoorAbJ
import Derived.OrdersIn
import Derived.RangeFuncCalls
namespace Go.Proofs.YthloojeefdjpjaaGreatDoor
open Go Go.RowKit
set_option linter.unusedVariables false
set_option linter.unusedSimpArgs false

def Fr.get (a : Fr) (t : Nat) : Value := match a.t.get t with | some v => v | none => undef
structure FR (β : Bt) (a : Fr) (a' : Act) : Prop where
  defers : a'.defers = []
  size : a'.tmps.size = a.n
  most : a.n ≤ 100000
  glob : ∀ g, g < a.gl → β g = some ⟨g, 0, 0⟩
  tmps : ∀ t, VR β (a.get t) (a'.tmps.getD t undef)
theorem FR.mono {β β' : Bt} (hb : β.le β') {a : Fr} {a' : Act} (h : FR β a a') : FR β' a a' := ⟨h.defers, h.size, h.most, fun g hg => hb _ _ (h.glob g hg), fun t => (h.tmps t).mono hb⟩
theorem FR.put {β : Bt} {a a2 : Fr} {a' : Act} (h : FR β a a') {d : Option Tmp} {v v' : Value} (hp : a.put d v = some a2) (hv : VR β v v') : FR β a2 (a'.put d v') := by
  rw [Fr.put_eq] at hp
  cases d with
  | none => simp only [Option.some.injEq] at hp; subst hp; exact h
  | some d =>
    simp only at hp
    cases hb : Nat.blt d a.n with
    | false => rw [hb] at hp; cases hp
    | true =>
      rw [hb, cond_true, Tr.force_eq] at hp
      injection hp with hp
      subst hp
      have hlt : @LT.lt Nat _ d a.n := Nat.lt_of_lt_of_le (Nat.lt_succ_self _) (Nat.le_of_ble_eq_true hb)
      have hm := h.most
      refine ⟨h.defers, by simp [Act.put, h.size], h.most, h.glob, fun t => ?_⟩
      show VR β (match (a.t.set 24 d v).get t with | some v => v | none => undef) _
      rw [Tr.get_set 24 _ _ _ _ (by omega)]
      simp only [Act.put, Array.getD_eq_getD_getElem?, Array.getElem?_setIfInBounds]
      by_cases ht : d = t
      · subst ht
        rw [if_pos rfl, if_pos rfl, if_pos (by rw [h.size]; exact hlt)]
        exact hv
      · rw [if_neg (Ne.symm ht), if_neg ht]
        have := h.tmps t
        rw [Array.getD_eq_getD_getElem?] at this
        exact this
theorem FR.eval {β : Bt} {a : Fr} {a' : Act} (h : FR β a a') (x : Operand) : VR β (a.eval x) (a'.eval x) := by
  cases x with
  | tmp t => exact h.tmps t
  | const v =>
    show VR β (const_ v) v
    unfold const_
    split
    · rename_i cs
      cases hb : bares_ cs.toList with
      | true =>
        have hl := bares_ok (β := β) hb
        exact .agg rfl (fun i x y hx hy => hl.2 i x y (by simpa using hx) (by simpa using hy))
      | false => exact .any _
    · cases hb : bare_ v with
      | true => exact bare_ok hb
      | false => exact .any _
  | func f => exact .func _ rfl (fun i x y hx => by simp at hx) rfl (fun i x y hx => by simp at hx)
  | global g =>
    show VR β (bif Nat.blt g a.gl then .pointer (some ⟨g, 0, none⟩) else lost) (.pointer (some ⟨g, 0, none⟩))
    cases hb : Nat.blt g a.gl with
    | false => exact .lost _ rfl
    | true =>
      have hlt : g < a.gl := Nat.lt_of_lt_of_le (Nat.lt_succ_self _) (Nat.le_of_ble_eq_true hb)
      have := VR.ptr 0 (h.glob g hlt)
      exact this
theorem wanted_run {β : Bt} {a : Fr} {a' : Act} {ops : Array Oper} {o : Oper} {b : Bool} (hT : ∀ j w d, o.guard = some (j, w) → (ops.toList[j]?).bind (·.dst) = some d → VR β (a.get d) (a'.tmps.getD d undef)) (hw : wanted_ a ops.toList o = some b) : Region.wanted o (yielded ops a'.tmps) = b := by
  unfold wanted_ at hw
  unfold Region.wanted
  cases hg : o.guard with
  | none => rw [hg] at hw; simpa using hw
  | some g =>
    obtain ⟨j, w⟩ := g
    rw [hg] at hw
    simp only at hw ⊢
    cases hj : ops.toList[j]? with
    | none => rw [hj] at hw; cases hw
    | some oj =>
      rw [hj] at hw
      obtain ⟨dst, op, type, pos, after, guard⟩ := oj
      have hj2 : ops[j]? = some ⟨dst, op, type, pos, after, guard⟩ := by simpa using hj
      cases dst with
      | none => cases hw
      | some d =>
        simp only at hw
        have ht := hT j w d hg (by rw [hj]; rfl)
        unfold yielded
        rw [hj2]
        simp only [Option.bind_some]
        cases hv : a.t.get d with
        | none =>
          rw [hv] at hw
          simp only [Option.some.injEq] at hw
          subst hw
          have : a.get d = undef := by unfold Fr.get; rw [hv]
          rw [this] at ht
          obtain ⟨ys, hy, _⟩ := ht.tuple_inv
          rw [Array.getD_eq_getD_getElem?] at hy
          cases hq : a'.tmps[d]? with
          | none => simp
          | some u =>
            rw [hq] at hy
            simp only [Option.getD_some] at hy
            subst hy
            simp
        | some u =>
          rw [hv] at hw
          have hget : a.get d = u := by unfold Fr.get; rw [hv]
          rw [hget] at ht
          cases u with
          | bool c =>
            simp only [Option.some.injEq] at hw
            subst hw
            have := ht.bool_inv
            rw [Array.getD_eq_getD_getElem?] at this
            cases hq : a'.tmps[d]? with
            | none => rw [hq] at this; cases this
            | some x =>
              rw [hq] at this
              simp only [Option.getD_some] at this
              subst this
              cases c <;> cases w <;> rfl
          | tuple vs =>
            simp only [Option.some.injEq] at hw
            subst hw
            obtain ⟨ys, hy, _⟩ := ht.tuple_inv
            rw [Array.getD_eq_getD_getElem?] at hy
            cases hq : a'.tmps[d]? with
            | none => simp
            | some x =>
              rw [hq] at hy
              simp only [Option.getD_some] at hy
              subst hy
              simp
          | _ => cases hw

theorem FR.wanted {β : Bt} {a : Fr} {a' : Act} (h : FR β a a') {ops : Array Oper} {o : Oper} {b : Bool} (hw : wanted_ a ops.toList o = some b) : Region.wanted o (yielded ops a'.tmps) = b :=
  wanted_run (fun _ _ d _ _ => h.tmps d) hw
/-- The widest fence, in a round of a range over a function or in none. -/
abbrev Fz (r : Option Nat) : Fence := { Fence.wide with round := r }
theorem calls_fz {r : Option Nat} {n : Nat} {P : Program} {f : FuncId} {args : Array Value} {w : World} {R : Ending → World → Prop} (h : Calls P f args w R) : CallsIn (Fz r) n P f args w R := by
  cases r with
  | none => exact callsIn_wide.2 h
  | some l => exact CallsIn.inRound l (callsIn_wide.2 h)
/-- What a function's call comes to. -/
def Answers (P : Program) (β : Bt) (h : Hp) (w : World) (h2 : Hp) (v : Value) (r : Result Next) : Prop :=
  (∃ β2 w2 v', r = .ok (.value v') w2 ∧ HR P β2 h2 w2 ∧ St β h w β2 h2 w2 ∧ VR β2 v v') ∨
  (∃ f args, r = .ok (.enter f args) w ∧ Calls P f args w fun en w2 => ∃ v' β2, en = .returned v' ∧ HR P β2 h2 w2 ∧ St β h w β2 h2 w2 ∧ VR β2 v v')
def CallOk (P : Program) (call : FuncId → List Value → Hp → Option (Value × Hp)) (gl : Nat) : Prop :=
  ∀ (f : FuncId) (args args' : List Value) (h h2 : Hp) (v : Value) (β : Bt) (w : World), call f args h = some (v, h2) → LR β args args' → HR P β h w → (∀ g, g < gl → β g = some ⟨g, 0, 0⟩) →
    Answers P β h w h2 v ((callFunc f args'.toArray).run P w)
section
variable {P : Program} {eqs : List TypeId} (hp : P.types.size < 4000) (hs : ∀ t ∈ eqs, P.stoodInHeld t = false) (hg : ∀ t ∈ eqs, P.eqGuardType P.depth t = false)
include hp hs hg
omit hs hg in
theorem meth_run {t : TypeId} {name : String} {f : FuncId} (hm : (Env.of P eqs).meth t name = some f) (v : Value) (k : Nat) (w : World) : (method (k + 1) t v name).run P w = .ok (f, v) w := by
  unfold Env.meth at hm
  split at hm
  · rename_i i d hi hd
    have hinfo := run_typeInfo w (env_type hp hi)
    have hund := run_under hp hd w
    split at hm
    · rename_i m hfind
      rw [Array.find?_toList] at hfind
      unfold method
      simp only [Sem.run_bind, hinfo, Result.andThen_ok, hfind]
      split at hm
      · rename_i f2 pr hpath hfunc
        split at hm
        · rename_i hb
          injection hm with hm; subst hm
          have hpr : pr = isPtr_ d := by simpa using hb
          subst hpr
          simp only [hpath, follow, Sem.run_bind, Sem.run_pure, Result.andThen_ok, hfunc, receiverAt, hund]
          cases d <;> simp [isPtr_, Place.get]
        · cases hm
      · cases hm
    · cases hm
  · cases hm
theorem one_wp {call : FuncId → List Value → Hp → Option (Value × Hp)} (hcall : CallOk P call P.globals.size) {β : Bt} {ρ : Operand → Value} {a' : Act} {h h2 : Hp} {w : World} {o : Oper} {v : Value} (hρ : ∀ x, VR β (ρ x) (a'.eval x)) (hgl : ∀ g, g < P.globals.size → β g = some ⟨g, 0, 0⟩) (H : HR P β h w)
    (h1 : oneOp (Env.of P eqs) call ρ o.op h = some (v, h2)) {r : Option Nat} {n : Nat} {next : Act → World → Prop} {Q : Exit → Act → World → Prop}
    (hn : ∀ β2 w2 v', HR P β2 h2 w2 → St β h w β2 h2 w2 → VR β2 v v' → next (a'.put o.dst v') w2) : o.wpIn (Fz r) n P a' w next Q := by
  have plain : aop (Env.of P eqs) ρ o.op h = some (v, h2) → o.wpIn (Fz r) n P a' w next Q := by
    intro ha
    obtain ⟨n, v', w', β', hr, hnn, H', S', hR⟩ := aop_does hp hs hg H hρ ha
    refine ⟨fun _ _ => trivial, ?_⟩
    rw [Oper.semAt_eq _ _ _ (fun c hc => by rw [hc] at ha; simp [aop] at ha), hr]
    have := hn β' w' v' H' S' hR
    rcases hnn with rfl | ⟨rfl, rfl⟩ <;> exact this
  unfold oneOp at h1
  split at h1
  · rename_i c hop
    split at h1
    · rename_i f hcal
      cases hc : callee_ (Env.of P eqs) ρ c with
      | none => rw [hc] at h1; cases h1
      | some q =>
        obtain ⟨fn, args⟩ := q
        rw [hc] at h1
        simp only at h1
        unfold callee_ at hc
        rw [hcal] at hc
        simp only at hc
        split at hc
        · rename_i g first captured hf
          simp only [Option.some.injEq, Prod.mk.injEq] at hc
          obtain ⟨rfl, rfl⟩ := hc
          have hv := hρ f
          rw [hf] at hv
          obtain ⟨first', captured', hf', hl1, hl2⟩ : ∃ first' captured', a'.eval f = .func (.func g) first' captured' ∧ LR β first.toList first'.toList ∧ LR β captured.toList captured'.toList := by
            revert hv
            generalize a'.eval f = u
            intro hv
            cases hv with
            | func fn h1 h2 h3 h4 => exact ⟨_, _, rfl, ⟨by simpa using h1, fun i x y hx hy => h2 i x y (by simpa using hx) (by simpa using hy)⟩, ⟨by simpa using h3, fun i x y hx hy => h4 i x y (by simpa using hx) (by simpa using hy)⟩⟩
          have hargs : LR β (c.args.toList.map ρ) (c.args.map a'.eval).toList := by
            refine ⟨by simp, fun i x y hx hy => ?_⟩
            rw [List.getElem?_map] at hx
            rw [Array.toList_map, List.getElem?_map] at hy
            cases hq : c.args.toList[i]? with
            | none => rw [hq] at hx; cases hx
            | some u => rw [hq] at hx hy; injection hx with hx; injection hy with hy; subst hx hy; exact hρ u
          have hall := (hl1.append hargs).append hl2
          have hans := hcall g _ _ h h2 v β w h1 hall H hgl
          refine ⟨fun _ _ => trivial, ?_⟩
          rw [Oper.semAt_eq _ _ _ (fun c hc => by rw [hop] at hc; cases hc)]
          have e : execOp a'.eval o = callFunc g (first'.toList ++ (c.args.map a'.eval).toList ++ captured'.toList).toArray := by
            obtain ⟨callee, cargs, ctys⟩ := c
            simp only at hcal
            subst hcal
            unfold execOp
            rw [hop]
            have e2 : (first' ++ cargs.map a'.eval ++ captured') = (first'.toList ++ (cargs.map a'.eval).toList ++ captured'.toList).toArray := by
              apply Array.ext'
              simp
            simp only [resolve, hf', Deferred.ofValue]
            show callFunc g (first' ++ cargs.map a'.eval ++ captured') = _
            rw [e2]
          rw [e]
          rcases hans with ⟨β2, w2, v', hr, H2, S2, hv⟩ | ⟨f2, args2, hr, hcl⟩
          · rw [hr]
            exact hn β2 w2 v' H2 S2 hv
          · rw [hr]
            refine ⟨(fun h => by cases h), calls_fz (hcl.mono ?_)⟩
            rintro en w2 ⟨v', β2, rfl, H2, S2, hv⟩
            exact hn β2 w2 v' H2 S2 hv
        · cases hc
    · rename_i x name hcal
      cases hc : callee_ (Env.of P eqs) ρ c with
      | none => rw [hc] at h1; cases h1
      | some q =>
        obtain ⟨fn, args⟩ := q
        rw [hc] at h1
        simp only at h1
        unfold callee_ at hc
        rw [hcal] at hc
        simp only at hc
        split at hc
        · rename_i t v0 hx
          split at hc
          · rename_i g hm
            simp only [Option.some.injEq, Prod.mk.injEq] at hc
            obtain ⟨rfl, rfl⟩ := hc
            have hv := hρ x
            rw [hx] at hv
            obtain ⟨v1, hx', hv1⟩ : ∃ v1, a'.eval x = .iface t v1 ∧ VR β v0 v1 := by
              revert hv
              generalize a'.eval x = u
              intro hv
              cases hv with
              | iface t h => exact ⟨_, rfl, h⟩
            have hargs : LR β (c.args.toList.map ρ) (c.args.map a'.eval).toList := by
              refine ⟨by simp, fun i x y hx hy => ?_⟩
              rw [List.getElem?_map] at hx
              rw [Array.toList_map, List.getElem?_map] at hy
              cases hq : c.args.toList[i]? with
              | none => rw [hq] at hx; cases hx
              | some u => rw [hq] at hx hy; injection hx with hx; injection hy with hy; subst hx hy; exact hρ u
            have hans := hcall g _ (v1 :: (c.args.map a'.eval).toList) h h2 v β w h1 (LR.cons hv1 hargs) H hgl
            refine ⟨fun _ _ => trivial, ?_⟩
            rw [Oper.semAt_eq _ _ _ (fun c hc => by rw [hop] at hc; cases hc)]
            have e : (execOp a'.eval o).run P w = (callFunc g (v1 :: (c.args.map a'.eval).toList).toArray).run P w := by
              obtain ⟨callee, cargs, ctys⟩ := c
              simp only at hcal
              subst hcal
              unfold execOp
              rw [hop]
              have e2 : (#[v1] ++ cargs.map a'.eval) = (v1 :: (cargs.map a'.eval).toList).toArray := Array.ext' (by simp)
              have e3 : (#[Value.iface t v1] ++ cargs.map a'.eval)[0]? = some (.iface t v1) := by rw [Array.getElem?_append_left (show 0 < 1 from Nat.one_pos)]; rfl
              have e4 : (#[Value.iface t v1] ++ cargs.map a'.eval).extract 1 (#[Value.iface t v1] ++ cargs.map a'.eval).size = cargs.map a'.eval := by
                apply Array.ext'
                simp [List.take_of_length_le]
              have e5 : P.types.size + Made.depth = (P.types.size + 99) + 1 := rfl
              simp only [resolve, hx', Sem.run_bind, Sem.run_pure, Result.andThen_ok, invoke, e3, callMethod, run_program, e4, e5, meth_run hp hm, e2]
            rw [e]
            rcases hans with ⟨β2, w2, v', hr, H2, S2, hv⟩ | ⟨f2, args2, hr, hcl⟩
            · rw [hr]
              exact hn β2 w2 v' H2 S2 hv
            · rw [hr]
              refine ⟨(fun h => by cases h), calls_fz (hcl.mono ?_)⟩
              rintro en w2 ⟨v', β2, rfl, H2, S2, hv⟩
              exact hn β2 w2 v' H2 S2 hv
          · cases hc
        · cases hc
    · exact plain h1
  · exact plain h1
theorem ops_wp {call : FuncId → List Value → Hp → Option (Value × Hp)} (hcall : CallOk P call P.globals.size) (ops : Array Oper) {r : Option Nat} {n : Nat} {Q : Exit → Act → World → Prop} : ∀ (l : List Oper) (k : Nat), (∀ j, l[j]? = ops.toList[k + j]?) → ∀ {β : Bt} {a : Fr} {a' : Act} {h : Hp} {w : World} {e : Ex} {a2 : Fr} {h2 : Hp},
    FR β a a' → a.gl = P.globals.size → HR P β h w → ops_ (Env.of P eqs) call ops.toList l a h = .ok e a2 h2 →
    (∀ β2 a2' w2, HR P β2 h2 w2 → St β h w β2 h2 w2 → FR β2 a2 a2' → a2.gl = P.globals.size → Q .normal a2' w2) → e = .normal ∧ wpOpsIn (Fz r) n P ops Q (List.range' k l.length) a' w := by
  intro l
  induction l with
  | nil =>
    intro k hk β a a' h w e a2 h2 hF hgl H hr hq
    simp only [ops_, Rs.ok.injEq] at hr
    obtain ⟨rfl, rfl, rfl⟩ := hr
    exact ⟨rfl, hq β a' w H (.refl _ _ _) hF hgl⟩
  | cons o l ih =>
    intro k hk β a a' h w e a2 h2 hF hgl H hr hq
    have ho : ops[k]? = some o := by
      have := hk 0
      simpa using this.symm
    have hk2 : ∀ j, l[j]? = ops.toList[k + 1 + j]? := fun j => by
      have := hk (j + 1)
      rw [List.getElem?_cons_succ] at this
      rw [this]
      congr 1
      omega
    simp only [List.length_cons, List.range'_succ]
    simp only [ops_] at hr
    cases hw : wanted_ a ops.toList o with
    | none => rw [hw] at hr; cases hr
    | some b =>
      rw [hw] at hr
      have hwt := hF.wanted hw
      have putgl : ∀ {d : Option Tmp} {v : Value} {a3 : Fr}, a.put d v = some a3 → a3.gl = a.gl := by
        intro d v a3 hp
        rw [Fr.put_eq] at hp
        cases d with
        | none => injection hp with hp; rw [← hp]
        | some d =>
          simp only at hp
          cases hb : Nat.blt d a.n with
          | false => rw [hb] at hp; cases hp
          | true => rw [hb, cond_true, Tr.force_eq] at hp; injection hp with hp; rw [← hp]
      cases b with
      | true =>
        simp only at hr
        cases h1 : oneOp (Env.of P eqs) call a.eval o.op h with
        | none => rw [h1] at hr; cases hr
        | some q =>
          obtain ⟨v, h3⟩ := q
          rw [h1] at hr
          simp only at hr
          cases hput : a.put o.dst v with
          | none => rw [hput] at hr; cases hr
          | some a3 =>
            rw [hput] at hr
            simp only at hr
            have e0 : e = .normal := by
              have : ∀ (l : List Oper) (a : Fr) (h : Hp), ops_ (Env.of P eqs) call ops.toList l a h = .ok e a2 h2 → e = .normal := by
                intro l
                induction l with
                | nil => intro a h hr; simp only [ops_, Rs.ok.injEq] at hr; exact hr.1.symm
                | cons o l ih =>
                  intro a h hr
                  simp only [ops_] at hr
                  split at hr
                  · split at hr
                    · split at hr
                      · exact ih _ _ hr
                      · cases hr
                    · cases hr
                  · split at hr
                    · exact ih _ _ hr
                    · cases hr
                  · cases hr
              exact this _ _ _ hr
            refine ⟨e0, ?_⟩
            simp only [wpOpsIn, ho, hwt, if_true]
            refine one_wp hp hs hg hcall hF.eval (fun q hq => hF.glob q (by rw [hgl]; exact hq)) H h1 fun β2 w2 v' H2 S2 hv => ?_
            exact (ih (k + 1) hk2 ((hF.mono S2.le).put hput hv) ((putgl hput).trans hgl) H2 hr (fun β3 a3' w3 H3 S3 hF3 hgl3 => hq β3 a3' w3 H3 (S2.trans S3) hF3 hgl3)).2
      | false =>
        simp only at hr
        cases hput : a.put o.dst undef with
        | none => rw [hput] at hr; cases hr
        | some a3 =>
          rw [hput] at hr
          simp only at hr
          have := ih (k + 1) hk2 (hF.put hput (.undef β)) ((putgl hput).trans hgl) H hr (fun β3 a3' w3 H3 S3 hF3 hgl3 => hq β3 a3' w3 H3 S3 hF3 hgl3)
          refine ⟨this.1, ?_⟩
          simp only [wpOpsIn, ho, hwt, Bool.false_eq_true, if_false]
          exact ⟨fun _ _ => trivial, this.2⟩
end
end Go.Proofs.YthloojeefdjpjaaGreatDoor
