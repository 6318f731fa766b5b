/- Regions whose order is open: the machine's answer is the evaluator's, whatever is drawn. -/
import Derived.Test.YtmefkfilclkgeaaAbN
namespace Go.Proofs.Ytmefkfilclkgeaa
open Go Go.RowKit
set_option linter.unusedVariables false
set_option linter.unusedSimpArgs false

theorem kinds {E : Env} (op : Op) : kind_ E op = 0 ∨ kind_ E op = 1 ∨ kind_ E op = 2 := by
  unfold kind_
  split
  · split <;> simp
  all_goals simp
theorem oneOp_aop {E : Env} {call : FuncId → List Value → Hp → Option (Value × Hp)} {ρ : Operand → Value} {op : Op} {h : Hp} (hk : kind_ E op ≠ 2) : oneOp E call ρ op h = aop E ρ op h := by
  unfold oneOp
  split
  · rename_i c
    split
    · rename_i f hc
      exfalso
      apply hk
      obtain ⟨callee, args, tys⟩ := c
      simp only at hc
      subst hc
      rfl
    · rfl
  · rfl
theorem ready_mem {ops : Array Oper} {listed : Array Bool} {i : Nat} : i ∈ Region.ready .any ops listed ↔ i < ops.size ∧ listed.getD i true = false ∧ ∃ o, ops[i]? = some o ∧ ∀ e ∈ o.after.toList, Region.binds .any e = true → lst listed e.on = true := by
  unfold Region.ready lst
  rw [List.mem_filter, List.mem_range, Bool.and_eq_true, Bool.not_eq_true']
  constructor
  · rintro ⟨h1, h2, h3⟩
    refine ⟨h1, h2, ?_⟩
    cases ho : ops[i]? with
    | none => rw [ho] at h3; cases h3
    | some o =>
      rw [ho] at h3
      simp only [Option.map_some, Option.getD_some] at h3
      refine ⟨o, rfl, fun e he hb => ?_⟩
      rw [← Array.all_toList] at h3
      have := List.all_eq_true.1 h3 e he
      rw [hb] at this
      simpa using this
  · rintro ⟨h1, h2, o, ho, h3⟩
    refine ⟨h1, h2, ?_⟩
    rw [ho]
    simp only [Option.map_some, Option.getD_some]
    rw [← Array.all_toList, List.all_eq_true]
    intro e he
    cases hb : Region.binds .any e with
    | false => rfl
    | true => rw [h3 e he hb]; rfl
theorem lst_of_getD {listed : Array Bool} {i : Nat} (hi : i < listed.size) : (listed.getD i true = false) ↔ lst listed i = false := by
  unfold lst
  simp [Array.getD_eq_getD_getElem?, hi]
section
variable {E : Env} {call : FuncId → List Value → Hp → Option (Value × Hp)} {ops : Array Oper} {a aN : Fr} {h hN : Hp} {tr : List Tc}
theorem Run.frames (R : Run E call ops.toList ops.toList a h tr aN hN) (hm : a.n ≤ 100000) (t : Tmp) : ∀ i, i ≤ ops.size → (frAt tr aN i).get t = cur (dstOf ops) (valOf tr) a.get (fun _ => true) t i ∧ (frAt tr aN i).n = a.n ∧ (frAt tr aN i).gl = a.gl := by
  intro i
  induction i with
  | zero => intro _; rw [R.a0]; exact ⟨rfl, rfl, rfl⟩
  | succ i ih =>
    intro hi
    obtain ⟨h1, h2, h3⟩ := ih (by omega)
    have ho : ops.toList[i]? = some ops[i] := by simp
    obtain ⟨u, hu, _, _, _, hput⟩ := R.step i _ ho
    have hfr : frAt tr aN i = u.a := by unfold frAt; rw [hu]
    rw [hfr] at h1 h2 h3
    obtain ⟨p1, p2, p3⟩ := put_get hput (by rw [h2]; exact hm) t
    refine ⟨?_, p2.trans h2, p3.trans h3⟩
    rw [p1]
    have hd : dstOf ops i = ops[i].dst := by simp [dstOf, show i < ops.size from hi]
    have hv : valOf tr i = u.v := by unfold valOf; rw [hu]
    simp only [cur, hd, hv, true_and]
    by_cases hc : ops[i].dst = some t
    · rw [if_pos hc, if_pos hc]
    · rw [if_neg hc, if_neg hc, h1]
/-- An operation that is no effect leaves the heap. -/
theorem Run.quiet (R : Run E call ops.toList ops.toList a h tr aN hN) {an : List Nat} (hrd : readsOk_ E ops.toList an tr hN = true) {i : Nat} (hi : i < ops.size) (hne : ¬ effOf E ops tr i) : hpAt tr hN (i + 1) = hpAt tr hN i := by
  have ho : ops.toList[i]? = some ops[i] := by simp
  have ho' : ops[i]? = some ops[i] := by simp
  obtain ⟨u, hu, _, hdo, hno, _⟩ := R.step i _ ho
  have hh : hpAt tr hN i = u.h := by unfold hpAt; rw [hu]
  rw [hh]
  cases hd : u.did with
  | false => exact (hno hd).2
  | true =>
    have h1 := hdo hd
    rcases kinds (E := E) ops[i].op with hk | hk | hk
    · rw [oneOp_aop (by rw [hk]; decide)] at h1
      exact (kind0 hk h1).1
    · rw [oneOp_aop (by rw [hk]; decide)] at h1
      have h2 := (reads_of hrd ho' hu hd hk).1
      unfold again_ at h2
      rw [h1] at h2
      simp only [Bool.and_eq_true] at h2
      exact kind1 hk h1 (Nat.eq_of_beq_eq_true h2.2)
    · exact absurd ⟨_, u, ho', hu, hd, hk⟩ hne
theorem Run.still (R : Run E call ops.toList ops.toList a h tr aN hN) {an : List Nat} (hrd : readsOk_ E ops.toList an tr hN = true) {i : Nat} : ∀ {k : Nat}, i ≤ k → k ≤ ops.size → (∀ e, i ≤ e → e < k → ¬ effOf E ops tr e) → hpAt tr hN k = hpAt tr hN i := by
  intro k
  induction k with
  | zero => intro h1 _ _; have : i = 0 := by omega
            subst this; rfl
  | succ k ih =>
    intro h1 h2 h3
    by_cases he : i = k + 1
    · subst he; rfl
    · rw [R.quiet hrd (by omega) (h3 k (by omega) (by omega))]
      exact ih (by omega) (by omega) (fun e q1 q2 => h3 e q1 (by omega))
end
theorem least_eff {E : Env} {ops : Array Oper} {tr : List Tc} (m : Nat) : ∀ d, (∀ e, m ≤ e → e < m + d → ¬ effOf E ops tr e) ∨ ∃ e, m ≤ e ∧ e < m + d ∧ effOf E ops tr e ∧ ∀ e', m ≤ e' → e' < e → ¬ effOf E ops tr e' := by
  intro d
  induction d with
  | zero => exact .inl fun e h1 h2 => by omega
  | succ d ih =>
    rcases ih with h | ⟨e, h1, h2, h3, h4⟩
    · by_cases he : effOf E ops tr (m + d)
      · exact .inr ⟨m + d, by omega, by omega, he, fun e' q1 q2 => h e' q1 q2⟩
      · refine .inl fun e q1 q2 => ?_
        by_cases hh : e = m + d
        · subst hh; exact he
        · exact h e q1 (by omega)
    · exact .inr ⟨e, h1, by omega, h3, h4⟩
theorem last_eff {E : Env} {ops : Array Oper} {tr : List Tc} (i : Nat) : ∀ d, (∀ e, i ≤ e → e < i + d → ¬ effOf E ops tr e) ∨ ∃ e, i ≤ e ∧ e < i + d ∧ effOf E ops tr e ∧ ∀ e', e < e' → e' < i + d → ¬ effOf E ops tr e' := by
  intro d
  induction d with
  | zero => exact .inl fun e h1 h2 => by omega
  | succ d ih =>
    by_cases he : effOf E ops tr (i + d)
    · exact .inr ⟨i + d, by omega, by omega, he, fun e' q1 q2 => by omega⟩
    · rcases ih with h | ⟨e, h1, h2, h3, h4⟩
      · refine .inl fun e q1 q2 => ?_
        by_cases hh : e = i + d
        · subst hh; exact he
        · exact h e q1 (by omega)
      · refine .inr ⟨e, h1, by omega, h3, fun e' q1 q2 => ?_⟩
        by_cases hh : e' = i + d
        · subst hh; exact he
        · exact h4 e' q1 (by omega)
section
variable {P : Program} {eqs : List TypeId} (hp : P.types.size < 4000) (hs : ∀ t ∈ eqs, P.stoodInHeld t = false) (hg : ∀ t ∈ eqs, P.eqGuardType P.depth t = false) (hmix : P.follows .mixedOrders = true)
include hp hs hg hmix
theorem draws_wp {call : FuncId → List Value → Hp → Option (Value × Hp)} (hcall : CallOk P call P.globals.size) (ops : Array Oper) {Q : Exit → Act → World → Prop} {β : Bt} {a : Fr} {a' : Act} {h : Hp} {w : World} {e : Ex} {a2 : Fr} {h2 : Hp}
    (hF : FR β a a') (hgl : a.gl = P.globals.size) (H : HR P β h w) (hr : draws_ (Env.of P eqs) call ops.toList a h = .ok e a2 h2)
    (hq : ∀ β2 a2' w2, HR P β2 h2 w2 → St β h w β2 h2 w2 → FR β2 a2 a2' → a2.gl = P.globals.size → Q .normal a2' w2) (id : Nat) : (Code.region id ops true).wp P Q a' w := by
  unfold draws_ at hr
  simp only at hr
  generalize han : anc_ ops.toList [] = an at hr
  cases hd : drawOk_ (Env.of P eqs) ops.toList an with
  | false => rw [hd] at hr; cases hr
  | true =>
    rw [hd, cond_true] at hr
    cases ht : trace_ (Env.of P eqs) call ops.toList ops.toList a h with
    | none => rw [ht] at hr; cases hr
    | some q =>
      obtain ⟨tr, aN, hN⟩ := q
      rw [ht] at hr
      simp only at hr
      cases hrd : readsOk_ (Env.of P eqs) ops.toList an tr hN with
      | false => rw [hrd] at hr; cases hr
      | true =>
        rw [hrd, cond_true] at hr
        simp only [Rs.ok.injEq] at hr
        obtain ⟨rfl, rfl, rfl⟩ := hr
        have R := trace_run ht
        have F := fixed_of hd
        have A := (anc_spec ops.toList []).2.2
        rw [han] at A
        have hlen : tr.length = ops.size := by rw [R.len]; simp
        have hEnd : hpAt tr hN ops.size = hN := by unfold hpAt; rw [List.getElem?_eq_none (by omega)]
        have aEnd : frAt tr aN ops.size = aN := by unfold frAt; rw [List.getElem?_eq_none (by omega)]
        let Inv : Array Bool → Act → World → Prop := fun listed a1 w1 => ∃ β1 m, listed.size = ops.size ∧ m ≤ ops.size ∧ (∀ e, effOf (Env.of P eqs) ops tr e → (lst listed e = true ↔ e < m)) ∧
          (∀ i j, i < ops.size → lst listed i = true → ancB an i j = true → lst listed j = true) ∧ HR P β1 (hpAt tr hN m) w1 ∧ St β h w β1 (hpAt tr hN m) w1 ∧ a1.defers = [] ∧ a1.tmps.size = a.n ∧
          ∀ t, VR β1 (cur (dstOf ops) (valOf tr) a.get (lst listed) t ops.size) (a1.tmps.getD t undef)
        have fin : ∀ listed a1 w1, Inv listed a1 w1 → (∀ j, j < ops.size → lst listed j = true) → Q .normal a1 w1 := by
          rintro listed a1 w1 ⟨β1, m, i0, i1, i2, i3, H1, S1, d1, s1, t1⟩ hall
          have hm : hpAt tr hN m = hN := by
            refine Eq.trans ?_ hEnd
            refine (R.still hrd i1 (Nat.le_refl _) (fun e q1 q2 he => ?_)).symm
            have := (i2 e he).1 (hall e q2)
            omega
          rw [hm] at H1 S1
          have hfr := R.frames hF.most
          refine hq β1 a1 w1 H1 S1 ⟨d1, ?_, ?_, fun g hgg => ?_, fun t => ?_⟩ ?_
          · rw [s1, ← aEnd]; exact ((hfr 0 _ (Nat.le_refl _)).2.1).symm
          · rw [← aEnd, (hfr 0 _ (Nat.le_refl _)).2.1]; exact hF.most
          · rw [← aEnd, (hfr 0 _ (Nat.le_refl _)).2.2] at hgg
            exact S1.le _ _ (hF.glob g hgg)
          · have e1 : aN.get t = cur (dstOf ops) (valOf tr) a.get (lst listed) t ops.size := by
              rw [← aEnd, (hfr t _ (Nat.le_refl _)).1]
              exact cur_congr fun k hk _ => (hall k hk).symm
            rw [e1]
            exact t1 t
          · rw [← aEnd, (hfr 0 _ (Nat.le_refl _)).2.2]; exact hgl
        have full : ∀ listed : Array Bool, listed.size = ops.size → Region.ready .any ops listed = [] → ∀ j, j < ops.size → lst listed j = true := by
          intro listed hsz hrd0 j
          induction j using Nat.strongRecOn with
          | _ j ih =>
            intro hj
            cases hl : lst listed j with
            | true => rfl
            | false =>
              exfalso
              have : j ∈ Region.ready .any ops listed := ready_mem.2 ⟨hj, (lst_of_getD (by omega)).2 hl, ops[j], by simp, fun e he hb => by
                have := F.edge j ops[j] (by simp) e he hb
                exact ih e.on this (by omega)⟩
              rw [hrd0] at this
              cases this
        refine wp_region_any hmix ?_
        have key : ∀ (fuel : Nat) (listed : Array Bool) (a1 : Act) (w1 : World), Inv listed a1 w1 → todo listed ops.size = fuel → wpAny P .any ops Q fuel listed a1 w1 := by
          intro fuel
          induction fuel with
          | zero =>
            intro listed a1 w1 hI htd
            have hall := todo_zero htd
            refine ⟨?_, fin listed a1 w1 hI hall⟩
            obtain ⟨β1, m, i0, _⟩ := hI
            apply List.eq_nil_iff_forall_not_mem.2
            intro i hi
            obtain ⟨h1, h2, _⟩ := ready_mem.1 hi
            rw [lst_of_getD (by omega), hall i h1] at h2
            cases h2
          | succ fuel ih =>
            intro listed a1 w1 hI htd
            refine ⟨fun hr0 => fin listed a1 w1 hI (full listed hI.choose_spec.choose_spec.1 hr0), fun i hi => ?_⟩
            have hI0 := hI
            obtain ⟨β1, m, i0, i1, i2, i3, H1, S1, d1, s1, t1⟩ := hI
            obtain ⟨hin, hil, o, ho, hedge⟩ := ready_mem.1 hi
            rw [lst_of_getD (by omega)] at hil
            have ho2 : ops.toList[i]? = some o := by simpa using ho
            obtain ⟨u, hu, hw, hdo, hno, hput⟩ := R.step i o ho2
            have huf : frAt tr aN i = u.a := by unfold frAt; rw [hu]
            have huh : hpAt tr hN i = u.h := by unfold hpAt; rw [hu]
            -- all that must be ahead has been done
            have anc : ∀ j, ancB an i j = true → lst listed j = true := by
              intro j hj
              have h0 : ([] : List Nat).length + i = i := by simp
              obtain ⟨e, he, hb, h5⟩ := A i o ho2 j (by rw [h0]; exact hj)
              have hon := hedge e he hb
              rcases h5 with rfl | h5
              · exact hon
              · have hlt := F.edge i o ho e he hb
                exact i3 e.on j (by omega) hon h5
            have behind : ∀ k, i < k → k < ops.size → lst listed k = true → ancB an k i = false := by
              intro k hk hkn hkl
              cases hb : ancB an k i with
              | false => rfl
              | true => rw [i3 k i hkn hkl hb] at hil; cases hil
            -- what it looks at holds what it held for the evaluator
            have looks : ∀ t, t ∈ looks_ ops.toList o → cur (dstOf ops) (valOf tr) a.get (lst listed) t ops.size = u.a.get t := by
              intro t htl
              have hlt : ∀ k, k < ops.size → dstOf ops k = some t → (lst listed k = true ↔ k < i) := by
                intro k hk hdk
                have hk1 : ops[k]? = some ops[k] := by simp
                have hdk' : ops[k].dst = some t := by simpa [dstOf, hk] using hdk
                rcases Nat.lt_trichotomy k i with hki | hki | hki
                · refine ⟨fun _ => hki, fun _ => ?_⟩
                  rcases F.pair k i _ o hk1 ho hki with hp1 | ⟨hp1, _⟩
                  · exact anc k hp1
                  · exact absurd htl (clash_left hp1 hdk').1
                · subst hki
                  exact ⟨(fun h => by rw [hil] at h; cases h), (fun h => by omega)⟩
                · refine ⟨fun h => ?_, fun h => by omega⟩
                  exfalso
                  rcases F.pair i k o _ ho hk1 hki with hp1 | ⟨hp1, _⟩
                  · rw [behind k hki hk h] at hp1; cases hp1
                  · exact absurd htl (clash_right hp1 hdk')
              have e1 := cur_stop (val := valOf tr) (t0 := a.get) (S := lst listed) (Nat.le_of_lt hin) (fun k q1 q2 q3 => by
                cases hb : lst listed k with
                | false => rfl
                | true => have := (hlt k q2 q3).1 hb; omega)
              rw [e1, ← huf, (R.frames hF.most t i (Nat.le_of_lt hin)).1]
              exact cur_congr fun k hk hdk => (hlt k (by omega) hdk).2 hk
            -- its operands' values
            let ρ : Operand → Value := fun x => match x with
              | .tmp t => cur (dstOf ops) (valOf tr) a.get (lst listed) t ops.size
              | .const v => const_ v
              | .func f => .func (.func f) #[] #[]
              | .global g => bif Nat.blt g a.gl then .pointer (some ⟨g, 0, none⟩) else lost
            have hρ : ∀ x, VR β1 (ρ x) (a1.eval x) := by
              intro x
              cases x with
              | tmp t => exact t1 t
              | const v => exact (hF.mono S1.le).eval (.const v)
              | func f => exact (hF.mono S1.le).eval (.func f)
              | global g => exact (hF.mono S1.le).eval (.global g)
            have hρu : ∀ x ∈ o.op.operands, ρ x = u.a.eval x := by
              intro x hx
              cases x with
              | tmp t =>
                exact looks t (List.mem_append_left _ (List.mem_filterMap.2 ⟨.tmp t, by simpa using hx, rfl⟩))
              | const v => rfl
              | func f => rfl
              | global g =>
                have := (R.frames hF.most 0 i (Nat.le_of_lt hin)).2.2
                rw [huf] at this
                show (bif Nat.blt g a.gl then _ else _) = (bif Nat.blt g u.a.gl then _ else _)
                rw [this]
            have hwt : Region.wanted o (yielded ops a1.tmps) = u.did := by
              refine wanted_run (a := u.a) (β := β1) (fun j ww d hgj hdj => ?_) hw
              have : d ∈ looks_ ops.toList o := by
                unfold looks_
                refine List.mem_append_right _ ?_
                rw [hgj]
                simp only
                cases hj : ops.toList[j]? with
                | none => rw [hj] at hdj; cases hdj
                | some oj =>
                  rw [hj] at hdj
                  obtain ⟨dst, op, type, pos, after, guard⟩ := oj
                  simp only [Option.bind_some] at hdj
                  subst hdj
                  simp
              rw [← looks d this]
              exact t1 d
            -- what is known behind it
            have next : ∀ (β2 : Bt) (w2 : World) (v' : Value) (m2 : Nat), m2 ≤ ops.size → (∀ e, effOf (Env.of P eqs) ops tr e → (lst (listed.setIfInBounds i true) e = true ↔ e < m2)) → HR P β2 (hpAt tr hN m2) w2 → St β h w β2 (hpAt tr hN m2) w2 → β1.le β2 → VR β2 u.v v' →
                wpAny P .any ops Q fuel (listed.setIfInBounds i true) (a1.put o.dst v') w2 := by
              intro β2 w2 v' m2 hm2 he2 H2 S2 hle hv
              refine ih _ _ _ ⟨β2, m2, by simp [i0], hm2, he2, ?_, H2, S2, ?_, ?_, ?_⟩ ?_
              · intro k j hk hkl hkj
                rw [lst_set _ _ _ (by omega)] at hkl ⊢
                by_cases hki : k = i
                · subst hki
                  by_cases hji : j = k
                  · rw [if_pos hji]
                  · rw [if_neg hji]; exact anc j hkj
                · rw [if_neg hki] at hkl
                  by_cases hji : j = i
                  · rw [if_pos hji]
                  · rw [if_neg hji]; exact i3 k j hk hkl hkj
              · cases hdd : o.dst <;> exact d1
              · cases hdd : o.dst with
                | none => exact s1
                | some d => simp [Act.put, s1]
              · intro t
                have hdi : dstOf ops i = o.dst := by simp [dstOf, ho]
                have hvi : valOf tr i = u.v := by unfold valOf; rw [hu]
                by_cases hdt : o.dst = some t
                · have e1 : cur (dstOf ops) (valOf tr) a.get (lst (listed.setIfInBounds i true)) t ops.size = u.v := by
                    rw [cur_stop (i := i + 1) hin (fun k q1 q2 q3 => ?_)]
                    · simp only [cur, lst_set _ _ _ (show i < listed.size by omega), hdi, hdt, if_true, and_self, hvi]
                    · have hk1 : ops[k]? = some ops[k] := by simp
                      have hdk' : ops[k].dst = some t := by simpa [dstOf, q2] using q3
                      rw [lst_set _ _ _ (by omega), if_neg (by omega)]
                      cases hb : lst listed k with
                      | false => rfl
                      | true =>
                        exfalso
                        rcases F.pair i k o _ ho hk1 (by omega) with hp1 | ⟨hp1, _⟩
                        · rw [behind k (by omega) q2 hb] at hp1; cases hp1
                        · exact (clash_left hp1 hdt).2 hdk'
                  rw [e1]
                  have hput2 := put_get hput (by have := (R.frames hF.most 0 i (Nat.le_of_lt hin)).2.1; rw [huf] at this; rw [this]; exact hF.most) t
                  have hlt : t < a1.tmps.size := by
                    unfold Fr.put at hput
                    rw [hdt] at hput
                    simp only at hput
                    cases hb : Nat.blt t u.a.n with
                    | false => rw [hb] at hput; cases hput
                    | true =>
                      have h1 : @LT.lt Nat _ t u.a.n := Nat.lt_of_lt_of_le (Nat.lt_succ_self _) (Nat.le_of_ble_eq_true hb)
                      have h2 := (R.frames hF.most 0 i (Nat.le_of_lt hin)).2.1
                      rw [huf] at h2
                      rw [s1, ← h2]
                      exact h1
                  rw [hdt]
                  simp only [Act.put, Array.getD_eq_getD_getElem?, Array.getElem?_setIfInBounds, if_true, hlt, Option.getD_some]
                  exact hv
                · have e1 : cur (dstOf ops) (valOf tr) a.get (lst (listed.setIfInBounds i true)) t ops.size = cur (dstOf ops) (valOf tr) a.get (lst listed) t ops.size := by
                    refine cur_congr fun k hk hdk => ?_
                    rw [lst_set _ _ _ (by omega), if_neg]
                    rintro rfl
                    rw [hdi] at hdk
                    exact hdt hdk
                  rw [e1]
                  have e2 : (a1.put o.dst v').tmps.getD t undef = a1.tmps.getD t undef := by
                    cases hdd : o.dst with
                    | none => rfl
                    | some d =>
                      have hne : d ≠ t := fun e => hdt (by rw [hdd, e])
                      simp [Act.put, Array.getElem?_setIfInBounds_ne hne]
                  rw [e2]
                  exact (t1 t).mono hle
              · have := todo_set listed i (by omega) hil ops.size
                rw [if_pos hin] at this
                omega
            have effSame : ¬ effOf (Env.of P eqs) ops tr i → ∀ e, effOf (Env.of P eqs) ops tr e → (lst (listed.setIfInBounds i true) e = true ↔ e < m) := by
              intro hne e he
              rw [lst_set _ _ _ (by omega), if_neg (by rintro rfl; exact hne he)]
              exact i2 e he
            unfold wpOp
            rw [ho]
            simp only
            rw [hwt]
            cases hdid : u.did with
            | false =>
              simp only [Bool.false_eq_true, if_false]
              have hv := (hno hdid).1
              refine next β1 w1 undef m i1 (effSame ?_) H1 S1 (.refl _) (by rw [hv]; exact .undef β1)
              rintro ⟨o', u', ho', hu', hd', _⟩
              rw [hu] at hu'
              injection hu' with hu'
              rw [← hu', hdid] at hd'
              cases hd'
            | true =>
              simp only [if_true]
              refine .inl ?_
              have h1 := hdo hdid
              rw [← huh] at h1
              have hglob : ∀ g, g < P.globals.size → β1 g = some ⟨g, 0, 0⟩ := fun g hgg => S1.le _ _ (hF.glob g (by rw [hgl]; exact hgg))
              rcases kinds (E := Env.of P eqs) o.op with hk | hk | hk
              · -- it hangs on its operands alone
                have hne : ¬ effOf (Env.of P eqs) ops tr i := by
                  rintro ⟨o', u', ho', _, _, hk'⟩
                  rw [ho] at ho'
                  injection ho' with ho'
                  rw [← ho', hk] at hk'
                  cases hk'
                rw [oneOp_aop (by rw [hk]; decide)] at h1
                have h3 := (kind0 hk h1).2 (hpAt tr hN m)
                rw [← aop_congr (ρ := ρ) hρu] at h3
                refine one_wp hp hs hg hcall hρ hglob H1 (by rw [oneOp_aop (by rw [hk]; decide)]; exact h3) (fun β2 w2 v' H2 S2 hv => next β2 w2 v' m i1 (effSame hne) H2 (S1.trans S2) S2.le hv)
              · -- it reads
                have hne : ¬ effOf (Env.of P eqs) ops tr i := by
                  rintro ⟨o', u', ho', _, _, hk'⟩
                  rw [ho] at ho'
                  injection ho' with ho'
                  rw [← ho', hk] at hk'
                  cases hk'
                obtain ⟨_, hreads⟩ := reads_of hrd ho hu hdid hk
                have from_again : ∀ q, again_ (Env.of P eqs) u o.op (hpAt tr hN q) = true → aop (Env.of P eqs) u.a.eval o.op (hpAt tr hN q) = some (u.v, hpAt tr hN q) := by
                  intro q hq2
                  unfold again_ at hq2
                  cases hq3 : aop (Env.of P eqs) u.a.eval o.op (hpAt tr hN q) with
                  | none => rw [hq3] at hq2; cases hq2
                  | some r =>
                    obtain ⟨v2, h4⟩ := r
                    rw [hq3] at hq2
                    simp only [Bool.and_eq_true] at hq2
                    rw [veq_eq hq2.1, kind1 hk hq3 (Nat.eq_of_beq_eq_true hq2.2)]
                have h3 : aop (Env.of P eqs) u.a.eval o.op (hpAt tr hN m) = some (u.v, hpAt tr hN m) := by
                  have hself : aop (Env.of P eqs) u.a.eval o.op (hpAt tr hN i) = some (u.v, hpAt tr hN i) := by
                    rw [oneOp_aop (by rw [hk]; decide)] at h1
                    rw [h1, R.quiet hrd hin hne]
                  rcases Nat.lt_or_ge i m with him | him
                  · rcases last_eff (E := Env.of P eqs) (ops := ops) (tr := tr) i (m - i) with hno2 | ⟨e, q1, q2, q3, q4⟩
                    · rw [R.still hrd (Nat.le_of_lt him) i1 (fun e q1 q2 => hno2 e q1 (by omega))]
                      exact hself
                    · have hie : i < e := by
                        rcases Nat.lt_or_ge i e with h | h
                        · exact h
                        · have : e = i := by omega
                          subst this
                          exact absurd q3 hne
                      have hel := (i2 e q3).2 (by omega)
                      have hen : e < ops.size := by omega
                      rcases (hreads e q3).2 hie with h5 | h5
                      · rw [behind e hie hen hel] at h5; cases h5
                      · rw [R.still hrd (show e + 1 ≤ m by omega) i1 (fun e' r1 r2 => q4 e' (by omega) (by omega))]
                        exact from_again _ h5
                  · rcases least_eff (E := Env.of P eqs) (ops := ops) (tr := tr) m (i - m) with hno2 | ⟨e, q1, q2, q3, q4⟩
                    · rw [← R.still hrd him (Nat.le_of_lt hin) (fun e q1 q2 => hno2 e q1 (by omega))]
                      exact hself
                    · have hei : e < i := by omega
                      have hel : ¬ lst listed e = true := fun hh => by have := (i2 e q3).1 hh; omega
                      rcases (hreads e q3).1 hei with h5 | h5
                      · exact absurd (anc e h5) hel
                      · rw [← R.still hrd q1 (show e ≤ ops.size by omega) (fun e' r1 r2 => q4 e' r1 r2)]
                        exact from_again _ h5
                rw [← aop_congr (ρ := ρ) hρu] at h3
                refine one_wp hp hs hg hcall hρ hglob H1 (by rw [oneOp_aop (by rw [hk]; decide)]; exact h3) (fun β2 w2 v' H2 S2 hv => next β2 w2 v' m i1 (effSame hne) H2 (S1.trans S2) S2.le hv)
              · -- it does more: all such ahead of it have been done, none behind it
                have heff : effOf (Env.of P eqs) ops tr i := ⟨o, u, ho, hu, hdid, hk⟩
                have him : m ≤ i := by
                  rcases Nat.lt_or_ge i m with hh | hh
                  · rw [(i2 i heff).2 hh] at hil; cases hil
                  · exact hh
                have hheap : hpAt tr hN i = hpAt tr hN m := by
                  refine R.still hrd him (Nat.le_of_lt hin) (fun e q1 q2 he => ?_)
                  obtain ⟨o', u', ho', _, _, hk'⟩ := he
                  have hel : lst listed e = true := by
                    rcases F.pair e i o' o ho' ho q2 with hp1 | ⟨_, hp1⟩
                    · exact anc e hp1
                    · exact absurd ⟨hk', hk⟩ hp1
                  have := (i2 e ⟨o', u', ho', ‹_›, ‹_›, hk'⟩).1 hel
                  omega
                rw [hheap] at h1
                rw [← oneOp_congr (ρ := ρ) hρu] at h1
                refine one_wp hp hs hg hcall hρ hglob H1 h1 (fun β2 w2 v' H2 S2 hv => next β2 w2 v' (i + 1) hin ?_ H2 (S1.trans S2) S2.le hv)
                intro e he
                rw [lst_set _ _ _ (by omega)]
                by_cases hei : e = i
                · rw [if_pos hei]; exact ⟨fun _ => by omega, fun _ => rfl⟩
                · rw [if_neg hei]
                  have he0 := he
                  obtain ⟨o', u', ho', _, _, hk'⟩ := he
                  have hen : e < ops.size := (Array.getElem?_eq_some_iff.1 ho').1
                  rcases Nat.lt_or_ge e i with hlt | hge
                  · refine ⟨fun _ => by omega, fun _ => ?_⟩
                    rcases F.pair e i o' o ho' ho hlt with hp1 | ⟨_, hp1⟩
                    · exact anc e hp1
                    · exact absurd ⟨hk', hk⟩ hp1
                  · refine ⟨fun hh => ?_, fun hh => by omega⟩
                    exfalso
                    rcases F.pair i e o o' ho ho' (by omega) with hp1 | ⟨_, hp1⟩
                    · rw [behind e (by omega) hen hh] at hp1; cases hp1
                    · exact hp1 ⟨hk, hk'⟩
        refine key ops.size (Array.replicate ops.size false) a' { w with drawn := w.drawn + 1 } ⟨β, 0, by simp, Nat.zero_le _, ?_, ?_, ?_, ?_, hF.defers, hF.size, ?_⟩ ?_
        · intro e he
          have : lst (Array.replicate ops.size false) e = false := by unfold lst; simp [Array.getD_eq_getD_getElem?, Array.getElem?_replicate]; split <;> rfl
          rw [this]
          exact ⟨(fun h => by cases h), (fun h => by omega)⟩
        · intro i j _ hl
          have : lst (Array.replicate ops.size false) i = false := by unfold lst; simp [Array.getD_eq_getD_getElem?, Array.getElem?_replicate]; split <;> rfl
          rw [this] at hl
          cases hl
        · rw [R.h0]; exact H.drawn rfl
        · rw [R.h0]; exact St.drawn rfl rfl rfl rfl
        · intro t
          have : cur (dstOf ops) (valOf tr) a.get (lst (Array.replicate ops.size false)) t ops.size = a.get t := by
            rw [cur_stop (i := 0) (Nat.zero_le _) (fun k _ _ _ => by unfold lst; simp [Array.getD_eq_getD_getElem?, Array.getElem?_replicate]; split <;> rfl)]
            rfl
          rw [this]
          exact hF.tmps t
        · have : ∀ k, k ≤ ops.size → todo (Array.replicate ops.size false) k = k := by
            intro k
            induction k with
            | zero => intro _; rfl
            | succ k ih =>
              intro hk
              have : lst (Array.replicate ops.size false) k = false := by unfold lst; simp [Array.getD_eq_getD_getElem?, Array.getElem?_replicate]; split <;> rfl
              simp only [todo, this, ih (by omega)]
              simp
          exact this _ (Nat.le_refl _)
end
end Go.Proofs.Ytmefkfilclkgeaa
