/- Calls told by what the evaluator answered to them, each by itself, over the blocks that it reaches. -/
import Derived.Test.YthloojeefdjpjaaGreatDoorSp
namespace Go.Proofs.YthloojeefdjpjaaGreatDoor
open Go Go.RowKit
set_option linter.unusedVariables false
set_option linter.unusedSimpArgs false

/-! ### The same values, the same blocks -/
def vq1_ : Value → Value → Bool
  | .iface s (.agg a), .iface t (.agg b) => Nat.beq s t && leq_ veq1_ a.toList b.toList
  | .iface s x, .iface t y => Nat.beq s t && veq1_ x y
  | .func (.func f) a b, .func (.func g) c d => Nat.beq f g && (leq_ veq1_ a.toList c.toList && leq_ veq1_ b.toList d.toList)
  | a, b => veq1_ a b
theorem vq1_eq : ∀ (a b : Value), vq1_ a b = true → a = b := by
  intro a b h
  unfold vq1_ at h
  split at h
  · simp only [Bool.and_eq_true] at h
    rw [Nat.eq_of_beq_eq_true h.1, Array.ext' (leq_eq veq1_eq h.2)]
  · simp only [Bool.and_eq_true] at h
    rw [Nat.eq_of_beq_eq_true h.1, veq1_eq _ _ h.2]
  · simp only [Bool.and_eq_true] at h
    rw [Nat.eq_of_beq_eq_true h.1, Array.ext' (leq_eq veq1_eq h.2.1), Array.ext' (leq_eq veq1_eq h.2.2)]
  · exact veq1_eq _ _ h
def vq2_ : Value → Value → Bool
  | .agg a, .agg b => leq_ vq1_ a.toList b.toList
  | a, b => vq1_ a b
theorem vq2_eq : ∀ (a b : Value), vq2_ a b = true → a = b := by
  intro a b h
  unfold vq2_ at h
  split at h
  · rw [Array.ext' (leq_eq vq1_eq h)]
  · exact vq1_eq _ _ h
def vq_ : Value → Value → Bool
  | .agg a, .agg b => leq_ vq1_ a.toList b.toList
  | .tuple a, .tuple b => leq_ vq2_ a.toList b.toList
  | .iface s x, .iface t y => Nat.beq s t && veq_ x y
  | a, b => vq1_ a b
theorem vq_eq : ∀ (a b : Value), vq_ a b = true → a = b := by
  intro a b h
  unfold vq_ at h
  split at h
  · rw [Array.ext' (leq_eq vq1_eq h)]
  · rw [Array.ext' (leq_eq vq2_eq h)]
  · simp only [Bool.and_eq_true] at h
    rw [Nat.eq_of_beq_eq_true h.1, veq_eq h.2]
  · exact vq1_eq _ _ h
def boq_ : Bool → Bool → Bool
  | true, true => true
  | false, false => true
  | _, _ => false
theorem boq_eq {a b : Bool} (h : boq_ a b = true) : a = b := by cases a <;> cases b <;> first | rfl | cases h
def mq_ (a b : MapEntry) : Bool := vq1_ a.key b.key && (vq1_ a.val b.val && Nat.beq a.born b.born)
theorem mq_eq (a b : MapEntry) (h : mq_ a b = true) : a = b := by
  obtain ⟨k, v, n⟩ := a
  obtain ⟨k', v', n'⟩ := b
  simp only [mq_, Bool.and_eq_true] at h
  rw [vq1_eq _ _ h.1, vq1_eq _ _ h.2.1, Nat.eq_of_beq_eq_true h.2.2]
def bq_ : Blk → Blk → Bool
  | .cells c e x r, .cells c' e' x' r' => leq_ vq1_ c c' && (Nat.beq e e' && (boq_ x x' && boq_ r r'))
  | .map es k, .map es' k' => leq_ mq_ es es' && Nat.beq k k'
  | .dead, .dead => true
  | .view a, .view b => Nat.beq a b
  | _, _ => false
theorem bq_eq {a b : Blk} (h : bq_ a b = true) : a = b := by
  unfold bq_ at h
  split at h
  · simp only [Bool.and_eq_true] at h
    rw [leq_eq vq1_eq h.1, Nat.eq_of_beq_eq_true h.2.1, boq_eq h.2.2.1, boq_eq h.2.2.2]
  · simp only [Bool.and_eq_true] at h
    rw [leq_eq mq_eq h.1, Nat.eq_of_beq_eq_true h.2]
  · rfl
  · rw [Nat.eq_of_beq_eq_true h]
  · cases h

/-! ### The frame: blocks that a call does not reach -/
theorem HR.frame {P : Program} {β β2 : Bt} {h h0 h2 h3 : Hp} {w w2 : World} (H : HR P β h w) (hsub : ∀ b x, h0.get b = some x → h.get b = some x) (H2 : HR P β2 h2 w2) (S : St β h0 w β2 h2 w2) (hn : h3.next = h2.next)
    (hcase : ∀ b x, h3.get b = some x → h2.get b = some x ∨ (h.get b = some x ∧ h0.get b = none)) : HR P β2 h3 w2 ∧ St β h w β2 h3 w2 := by
  -- what stands outside is not what the call may write, and stays
  have out : ∀ b x i, h.get b = some x → h0.get b = none → β b = some i → ¬ x.empty → ¬ Own β h0 i.blk ∧ i.blk < w.heap.size := by
    intro b x i hx h0x hi he
    refine ⟨?_, blk_lt (H.ok b x i hx hi) he⟩
    rintro ⟨b', i', x', h1, h2', h3', h4⟩
    have hne : b' ≠ b := by rintro rfl; rw [h0x] at h1; cases h1
    exact H.apart b' b i' i x' x (hsub _ _ h1) hx hne h3' hi h2' he h4
  have outHeld : ∀ b x i, h.get b = some x → h0.get b = none → β b = some i → x.mine → ¬ Held β h0 i.blk := by
    rintro b x i hx h0x hi hm ⟨b', i', x', h1, h2', h3', h4⟩
    have hne : b ≠ b' := by rintro rfl; rw [h0x] at h1; cases h1
    exact H.apart b b' i i' x x' hx (hsub _ _ h1) hne hi h3' hm h2' h4.symm
  have info : ∀ b x i, h.get b = some x → β2 b = some i → β b = some i := by
    intro b x i hx hi
    obtain ⟨j, hj⟩ := H.has b x hx
    have := S.le _ _ hj
    rw [hi] at this
    rw [hj, this]
  refine ⟨⟨by rw [hn]; exact H2.most, fun b i hb => by rw [hn]; exact H2.dom b i hb, fun b x hx => ?_, fun b x i hx hi => ?_, fun b b' i i' x y hx hy hne hi hi' hm he => ?_⟩,
    ⟨S.le, S.os, S.tape, S.output, S.size, fun k hk hno => S.keep k hk ?_, fun k hk => ?_, fun k hk => ?_⟩⟩
  · rcases hcase b x hx with h1 | ⟨h1, _⟩
    · exact H2.has b x h1
    · obtain ⟨j, hj⟩ := H.has b x h1
      exact ⟨j, S.le _ _ hj⟩
  · rcases hcase b x hx with h1 | ⟨h1, h1'⟩
    · exact H2.ok b x i h1 hi
    · have hi0 := info b x i h1 hi
      exact blkOk_mono S.le (blkOk_of_block (H.ok b x i h1 hi0) (fun he => by
        obtain ⟨o1, o2⟩ := out b x i h1 h1' hi0 he
        exact S.keep _ o2 o1))
  · rcases hcase b x hx with h1 | ⟨h1, h1'⟩ <;> rcases hcase b' y hy with q1 | ⟨q1, q1'⟩
    · exact H2.apart b b' i i' x y h1 q1 hne hi hi' hm he
    · have hi0 := info b' y i' q1 hi'
      obtain ⟨o1, o2⟩ := out b' y i' q1 q1' hi0 he
      intro e
      rcases S.own i.blk ⟨b, i, x, h1, hm, hi, rfl⟩ with r | r
      · exact o1 (e ▸ r)
      · omega
    · have hi0 := info b x i h1 hi
      intro e
      rcases S.held i'.blk ⟨b', i', y, q1, he, hi', rfl⟩ with r | r
      · exact outHeld b x i h1 h1' hi0 hm (e ▸ r)
      · have := (out b x i h1 h1' hi0 (mine_not_empty hm)).2
        omega
    · exact H.apart b b' i i' x y h1 q1 hne (info b x i h1 hi) (info b' y i' q1 hi') hm he
  · rintro ⟨b, i, x, h1, h2', h3', h4⟩
    exact hno ⟨b, i, x, hsub _ _ h1, h2', h3', h4⟩
  · obtain ⟨b, i, x, h1, h2', h3', h4⟩ := hk
    rcases hcase b x h1 with q | ⟨q, _⟩
    · rcases S.own k ⟨b, i, x, q, h2', h3', h4⟩ with ⟨b', i', x', r1, r2, r3, r4⟩ | r
      · exact .inl ⟨b', i', x', hsub _ _ r1, r2, r3, r4⟩
      · exact .inr r
    · exact .inl ⟨b, i, x, q, h2', info b x i q h3', h4⟩
  · obtain ⟨b, i, x, h1, h2', h3', h4⟩ := hk
    rcases hcase b x h1 with q | ⟨q, _⟩
    · rcases S.held k ⟨b, i, x, q, h2', h3', h4⟩ with ⟨b', i', x', r1, r2, r3, r4⟩ | r
      · exact .inl ⟨b', i', x', hsub _ _ r1, r2, r3, r4⟩
      · exact .inr r
    · exact .inl ⟨b, i, x, q, h2', info b x i q h3', h4⟩
theorem HR.sub {P : Program} {β : Bt} {h h0 : Hp} {w : World} (H : HR P β h w) (hsub : ∀ b x, h0.get b = some x → h.get b = some x) (hn : h0.next = h.next) : HR P β h0 w :=
  ⟨by rw [hn]; exact H.most, fun b i hb => by rw [hn]; exact H.dom b i hb, fun b x hx => H.has b x (hsub _ _ hx), fun b x i hx hi => H.ok b x i (hsub _ _ hx) hi,
   fun b b' i i' x y hx hy => H.apart b b' i i' x y (hsub _ _ hx) (hsub _ _ hy)⟩

/-! ### What is told of a call -/
structure Me where
  f : Nat
  args : List Value
  next : Nat
  ins : List (Nat × Blk)
  v : Value
  next2 : Nat
  outs : List (Nat × Blk)
def puts_ : List (Nat × Blk) → Tr Blk → Tr Blk
  | [], t => t
  | p :: l, t => puts_ l (t.set 24 p.1 p.2)
theorem puts_get : ∀ {l : List (Nat × Blk)} {t : Tr Blk} {b : Nat} {x : Blk}, (∀ p ∈ l, p.1 < 9223372036854775808) → (puts_ l t).get b = some x → (b, x) ∈ l ∨ (t.get b = some x ∧ ∀ p ∈ l, p.1 ≠ b) := by
  intro l
  induction l with
  | nil => intro t b x _ h; exact .inr ⟨h, fun p hp => by cases hp⟩
  | cons p l ih =>
    intro t b x hl h
    simp only [puts_] at h
    rcases ih (fun q hq => hl q (List.mem_cons_of_mem _ hq)) h with h1 | ⟨h1, h2⟩
    · exact .inl (List.mem_cons_of_mem _ h1)
    · rw [Tr.get_set 24 _ _ _ _ (by have := hl p (List.mem_cons_self ..); omega)] at h1
      by_cases hb : b = p.1
      · rw [if_pos hb] at h1
        injection h1 with h1
        exact .inl (by rw [hb, ← h1]; exact List.mem_cons_self ..)
      · rw [if_neg hb] at h1
        refine .inr ⟨h1, fun q hq => ?_⟩
        rcases List.mem_cons.1 hq with rfl | hq
        · exact fun e => hb e.symm
        · exact h2 q hq
def Me.start (e : Me) : Hp := ⟨e.next, puts_ e.ins .nil⟩
def Me.after (e : Me) (h : Hp) : Hp := (puts_ e.outs h.t).force fun t => ⟨e.next2, t⟩
theorem Me.after_eq (e : Me) (h : Hp) : e.after h = ⟨e.next2, puts_ e.outs h.t⟩ := by unfold Me.after; rw [Tr.force_eq]
def has_ : List (Nat × Blk) → Hp → Bool
  | [], _ => true
  | p :: l, h => match h.get p.1 with
    | some y => (match bq_ y p.2 with | true => has_ l h | false => false)
    | none => false
theorem has_all : ∀ {l : List (Nat × Blk)} {h : Hp}, has_ l h = true → ∀ p ∈ l, h.get p.1 = some p.2 := by
  intro l
  induction l with
  | nil => intro h _ p hp; cases hp
  | cons q l ih =>
    intro h hh p hp
    simp only [has_] at hh
    split at hh
    · rename_i y hy
      split at hh
      · rename_i hb
        rcases List.mem_cons.1 hp with rfl | hp
        · rw [hy, bq_eq hb]
        · exact ih hh p hp
      · cases hh
    · cases hh
def stays_ (outs : List (Nat × Blk)) : List (Nat × Blk) → Hp → Bool
  | [], _ => true
  | p :: l, h => match outs.any (fun q => Nat.beq q.1 p.1) with
    | true => stays_ outs l h
    | false => match h.get p.1 with
      | some y => (match bq_ y p.2 with | true => stays_ outs l h | false => false)
      | none => false
theorem stays_all {outs : List (Nat × Blk)} : ∀ {l : List (Nat × Blk)} {h : Hp}, stays_ outs l h = true → ∀ p ∈ l, (∃ q ∈ outs, q.1 = p.1) ∨ h.get p.1 = some p.2 := by
  intro l
  induction l with
  | nil => intro h _ p hp; cases hp
  | cons q l ih =>
    intro h hh p hp
    simp only [stays_] at hh
    split at hh
    · rename_i ho
      rcases List.mem_cons.1 hp with rfl | hp
      · obtain ⟨r, hr, hb⟩ := List.any_eq_true.1 ho
        exact .inl ⟨r, hr, Nat.eq_of_beq_eq_true hb⟩
      · exact ih hh p hp
    · split at hh
      · rename_i y hy
        split at hh
        · rename_i hb
          rcases List.mem_cons.1 hp with rfl | hp
          · exact .inr (by rw [hy, bq_eq hb])
          · exact ih hh p hp
        · cases hh
      · cases hh
def Me.check (E : Env) (sp : Sp) (n : Nat) (e : Me) : Bool :=
  match answer E sp n e.f e.args e.start with
  | some (v, h2) => vq_ v e.v && (Nat.beq h2.next e.next2 && (has_ e.outs h2 && stays_ e.outs e.ins h2))
  | none => false
def MeOk (P : Program) (gl : Nat) (e : Me) : Prop := ∀ (args' : List Value) (h : Hp) (β : Bt) (w : World), LR β e.args args' → HR P β h w → (∀ g, g < gl → β g = some ⟨g, 0, 0⟩) → h.next = e.next → (∀ p ∈ e.ins, h.get p.1 = some p.2) →
  Answers P β h w (e.after h) e.v ((callFunc e.f args'.toArray).run P w)
section
variable {P : Program} {eqs : List TypeId} (hp : P.types.size < 4000) (hs : ∀ t ∈ eqs, P.stoodInHeld t = false) (hg : ∀ t ∈ eqs, P.eqGuardType P.depth t = false) (hmix : P.follows .mixedOrders = true)
  (hf : P.funcs.size < 4000) (hname : ∀ (f : FuncId) (fn : Func), P.funcs[f]? = some fn → (fn.name == "runtime.NumGoroutine") = false) {sp : Sp} (hsp : CallOk P (spCall sp) P.globals.size)
include hp hs hg hmix hf hname hsp
theorem memo_ok {n : Nat} {e : Me} (hc : e.check (Env.of P eqs) sp n = true) : MeOk P P.globals.size e := by
  intro args' h β w hl H hgb hn hi
  unfold Me.check at hc
  cases ha : answer (Env.of P eqs) sp n e.f e.args e.start with
  | none => rw [ha] at hc; cases hc
  | some q =>
    obtain ⟨v, h2⟩ := q
    rw [ha] at hc
    simp only [Bool.and_eq_true] at hc
    obtain ⟨c1, c2, c3, c4⟩ := hc
    have hv := vq_eq _ _ c1
    subst hv
    have hn2 := Nat.eq_of_beq_eq_true c2
    have small : ∀ b x, h.get b = some x → b < 9223372036854775808 := fun b x hb => by
      obtain ⟨i, hbi⟩ := H.has b x hb
      exact Nat.lt_of_lt_of_le (H.dom b i hbi) H.most
    have insSmall : ∀ p ∈ e.ins, p.1 < 9223372036854775808 := fun p hp => small _ _ (hi p hp)
    have startIn : ∀ b x, e.start.get b = some x → (b, x) ∈ e.ins := fun b x hb => by
      rcases puts_get insSmall (show (puts_ e.ins .nil).get b = some x from hb) with h1 | ⟨h1, _⟩
      · exact h1
      · rw [Tr.get_nil] at h1; cases h1
    have hsub : ∀ b x, e.start.get b = some x → h.get b = some x := fun b x hb => hi (b, x) (startIn b x hb)
    have H0 : HR P β e.start w := H.sub hsub hn.symm
    unfold answer at ha
    cases h1 : runCode (Env.of P eqs) sp n (.inr (e.f, e.args)) ⟨0, 0, .nil⟩ e.start with
    | bad => rw [h1] at ha; cases ha
    | ok ex r h3 =>
      rw [h1] at ha
      simp only [Option.some.injEq, Prod.mk.injEq] at ha
      obtain ⟨hrv, rfl⟩ := ha
      obtain ⟨⟨fn, c, hfn, hb⟩, hcalls⟩ := (run_sound hp hs hg hmix hf hname hsp n).2.2 e.f e.args _ e.start ex r h3 h1 β args' w hl H0 hgb
      have hrun : (callFunc e.f args'.toArray).run P w = .ok (.enter e.f args'.toArray) w := by
        have hnm := hname e.f fn hfn
        simp only [callFunc, Sem.run_bind, run_program, Result.andThen_ok, hfn, hnm, Bool.false_eq_true, if_false, hb, Option.isNone_some, Sem.run_pure]
      refine .inr ⟨e.f, args'.toArray, hrun, hcalls.mono ?_⟩
      rintro en w2 ⟨v', β2, rfl, H2, S, hR⟩
      have outSmall : ∀ p ∈ e.outs, p.1 < 9223372036854775808 := fun p hp => by
        obtain ⟨i, hbi⟩ := H2.has _ _ (has_all c3 p hp)
        exact Nat.lt_of_lt_of_le (H2.dom _ i hbi) H2.most
      have key := H.frame (h3 := e.after h) hsub H2 S (by rw [Me.after_eq]; exact hn2.symm) (fun b x hb => by
        rw [Me.after_eq] at hb
        rcases puts_get outSmall (show (puts_ e.outs h.t).get b = some x from hb) with q | ⟨q, qn⟩
        · exact .inl (has_all c3 (b, x) q)
        · cases hst : e.start.get b with
          | none => exact .inr ⟨q, rfl⟩
          | some y =>
            have hy := hsub _ _ hst
            have q' : h.get b = some x := q
            rw [q'] at hy
            injection hy with hy
            subst hy
            rcases stays_all c4 (b, x) (startIn b x hst) with ⟨p, hp, hpb⟩ | h5
            · exact absurd hpb (qn p hp)
            · exact .inl h5)
      exact ⟨v', β2, rfl, key.1, key.2, hrv ▸ hR⟩
end
def Me.fits (e : Me) (args : List Value) (h : Hp) : Bool :=
  match Nat.beq h.next e.next with
  | true => (match leq_ vq_ args e.args with | true => has_ e.ins h | false => false)
  | false => false
def memo_ : List Me → List Value → Hp → Option (Value × Hp)
  | [], _, _ => none
  | e :: l, args, h => match e.fits args h with
    | true => some (e.v, e.after h)
    | false => memo_ l args h
theorem memo_some : ∀ {l : List Me} {args : List Value} {h h2 : Hp} {v : Value}, memo_ l args h = some (v, h2) → ∃ e ∈ l, h.next = e.next ∧ args = e.args ∧ (∀ p ∈ e.ins, h.get p.1 = some p.2) ∧ v = e.v ∧ h2 = e.after h := by
  intro l
  induction l with
  | nil => intro args h h2 v hm; cases hm
  | cons e l ih =>
    intro args h h2 v hm
    simp only [memo_] at hm
    split at hm
    · rename_i hfit
      simp only [Option.some.injEq, Prod.mk.injEq] at hm
      unfold Me.fits at hfit
      split at hfit
      · rename_i hn
        split at hfit
        · rename_i ha
          exact ⟨e, List.mem_cons_self .., Nat.eq_of_beq_eq_true hn, leq_eq vq_eq ha, has_all hfit, hm.1.symm, hm.2.symm⟩
        · cases hfit
      · cases hfit
    · obtain ⟨e', h1, h2⟩ := ih hm
      exact ⟨e', List.mem_cons_of_mem _ h1, h2⟩
theorem memo_told {P : Program} {gl : Nat} {f : FuncId} {l : List Me} (h1 : ∀ e ∈ l, e.f = f ∧ MeOk P gl e) : ToldOk P gl f (memo_ l) :=
  told_of fun args args' h h2 v β w hq hl H hgb => by
    obtain ⟨e, he, hn, ha, hi, rfl, rfl⟩ := memo_some hq
    obtain ⟨rfl, hok⟩ := h1 e he
    subst ha
    exact hok args' h β w hl H hgb hn hi
theorem memo_nil {P : Program} {gl : Nat} {f : FuncId} : ∀ e ∈ ([] : List Me), e.f = f ∧ MeOk P gl e := fun e he => by cases he
theorem memo_cons {P : Program} {gl : Nat} {f : FuncId} {e : Me} {l : List Me} (h0 : e.f = f) (h1 : MeOk P gl e) (h2 : ∀ e ∈ l, e.f = f ∧ MeOk P gl e) : ∀ x ∈ e :: l, x.f = f ∧ MeOk P gl x := fun x hx => by
  rcases List.mem_cons.1 hx with rfl | hx
  · exact ⟨h0, h1⟩
  · exact h2 x hx
/-- At this seat's program. -/
theorem memo_env {sp : Sp} (hsp : CallOk Tryz.prog (spCall sp) Tryz.prog.globals.size) {n : Nat} {e : Me} (hc : e.check env sp n = true) : MeOk Tryz.prog Tryz.prog.globals.size e := by
  unfold env at hc
  exact memo_ok (P := Tryz.prog) (eqs := eqList) prog_types prog_eqs prog_guards prog_mix prog_funcs prog_names (by with_reducible exact hsp) hc
/-! ### Words for what is told -/
def u8_ (n : Nat) : Value := .int .u8 (.ofNat n)
def i64_ (n : Nat) : Value := .int .i64 (.ofNat n)
def p_ (b o : Nat) : Value := .pointer (some ⟨b, o, none⟩)
def s_ (b o n c : Nat) : Value := .slice (some ⟨b, o, none⟩) n c
def str_ (l : List Nat) : Value := .string ⟨⟨l.map UInt8.ofNat⟩⟩
end Go.Proofs.YthloojeefdjpjaaGreatDoor
