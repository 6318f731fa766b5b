/- Regions whose order is open, continued: the invariant of whatever order. -/
import Derived.Test.YthloojeefdjpjaaGreatDoorAbL
namespace Go.Proofs.YthloojeefdjpjaaGreatDoor
open Go Go.RowKit
set_option linter.unusedVariables false
set_option linter.unusedSimpArgs false

theorem kind1 {E : Env} {ρ : Operand → Value} {op : Op} {v : Value} {h h' : Hp} (hk : kind_ E op = 1) (ha : aop E ρ op h = some (v, h')) (hn : h'.next = h.next) : h' = h := by
  have plain : ∀ {x : Option Value} {h2 : Hp} {u : Value} {h : Hp}, (match x with | some x => some (x, h) | none => none) = some (u, h2) → x = some u ∧ h2 = h := by
    intro x h2 u h e
    cases x with
    | none => cases e
    | some x => simp only [Option.some.injEq, Prod.mk.injEq] at e; exact ⟨by rw [e.1], e.2.symm⟩
  cases op <;> simp only [kind_] at hk <;> try (exact absurd hk (by decide))
  case load t a =>
    simp only [aop] at ha
    split at ha
    · exact (plain ha).2
    · cases ha
  case lookup t x k ok => simp only [aop] at ha; exact (plain ha).2
  case convert s d x =>
    simp only [aop] at ha
    split at hk
    · exact absurd hk (by decide)
    · rename_i hd
      unfold conv_ at ha
      simp only [hd] at ha
      split at ha
      · exact absurd ‹some TypeDesc.string = some (TypeDesc.int _)› (by simp)
      · exact absurd ‹some TypeDesc.string = some (TypeDesc.int _)› (by simp)
      · simp only [Option.some.injEq, Prod.mk.injEq] at ha; exact ha.2.symm
      · simp only [Option.some.injEq, Prod.mk.injEq] at ha; exact ha.2.symm
      · split at ha
        · split at ha
          · split at ha
            · simp only [Option.some.injEq, Prod.mk.injEq] at ha; exact ha.2.symm
            · cases ha
          · cases ha
        · cases ha
      · split at ha
        · simp only [Option.some.injEq, Prod.mk.injEq] at ha; exact ha.2.symm
        · cases ha
      · exact absurd ‹some TypeDesc.string = some (TypeDesc.slice _)› (by simp)
      · exact absurd ‹some TypeDesc.string = some (TypeDesc.slice _)› (by simp)
      · cases ha
    · exact absurd hk (by decide)
  case slice t x lo hi mx =>
    simp only [aop] at ha
    unfold slice_ at ha
    split at ha
    · split at ha
      · split at ha
        · simp only [Option.some.injEq, Prod.mk.injEq] at ha; exact ha.2.symm
        · cases ha
      · cases ha
    · split at ha
      · simp only [Option.some.injEq, Prod.mk.injEq] at ha; exact ha.2.symm
      · cases ha
    · split at ha
      · split at ha
        · simp only [Option.some.injEq, Prod.mk.injEq] at ha; exact ha.2.symm
        · cases ha
      · split at ha
        · rename_i l hv q hmx hb
          cases h1 : Nat.ble hv _ with
          | false => rw [h1] at ha; cases ha
          | true =>
            rw [h1, cond_true] at ha
            cases h2 : Nat.blt l _ with
            | true => rw [h2, cond_true] at ha; simp only [Option.some.injEq, Prod.mk.injEq] at ha; exact ha.2.symm
            | false =>
              rw [h2, cond_false] at ha; simp only [Option.some.injEq, Prod.mk.injEq] at ha; exact ha.2.symm
        · split at ha
          · rename_i v2 l hv m hq hb
            cases hb2 : Nat.beq v2 _ with
            | false => rw [hb2] at ha; cases ha
            | true => rw [hb2, cond_true] at ha; simp only [Option.some.injEq, Prod.mk.injEq] at ha; exact ha.2.symm
          · cases ha
        · cases ha
      · cases ha
    · split at ha
      · split at ha
        · simp only [Option.some.injEq, Prod.mk.injEq] at ha; exact ha.2.symm
        · split at ha
          · rename_i v2 hq
            cases hb2 : Nat.beq v2 _ with
            | false => rw [hb2] at ha; cases ha
            | true => rw [hb2, cond_true] at ha; simp only [Option.some.injEq, Prod.mk.injEq] at ha; exact ha.2.symm
          · cases ha
        · cases ha
      · cases ha
    · cases ha
  case call c =>
    obtain ⟨callee, args, tys⟩ := c
    cases callee with
    | value f => cases hk
    | invoke r m => cases hk
    | builtin b =>
      cases b <;> first | (cases hk; done) | skip
      all_goals
        simp only [aop] at ha
        split at ha <;> first
          | (rename_i he; cases he; done)
          | (rename_i he _; cases he; done)
          | (rename_i he _ _; cases he; done)
          | exact (plain ha).2
          | (cases ha; done)

/-! ### Values that are the same -/
theorem leq_eq {α : Type} {q : α → α → Bool} (hq : ∀ a b, q a b = true → a = b) : ∀ {l m : List α}, leq_ q l m = true → l = m := by
  intro l
  induction l with
  | nil => intro m h; cases m with | nil => rfl | cons y m => cases h
  | cons x l ih =>
    intro m h
    cases m with
    | nil => cases h
    | cons y m =>
      simp only [leq_] at h
      cases hx : q x y with
      | false => rw [hx] at h; cases h
      | true => rw [hx] at h; rw [hq _ _ hx, ih h]
theorem aeq_eq {a b : Option Addr} (h : aeq_ a b = true) : a = b := by
  unfold aeq_ at h
  split at h
  · rfl
  · rename_i a b
    obtain ⟨a1, a2, a3⟩ := a
    obtain ⟨b1, b2, b3⟩ := b
    simp only [Bool.and_eq_true] at h
    obtain ⟨⟨h1, h2⟩, h3⟩ := h
    have e1 := Nat.eq_of_beq_eq_true h1
    have e2 := Nat.eq_of_beq_eq_true h2
    subst e1 e2
    cases a3 with
    | some s => cases h3
    | none => cases b3 with
      | none => rfl
      | some s => cases h3
  · cases h
theorem veq1_eq : ∀ (a b : Value), veq1_ a b = true → a = b := by
  intro a b h
  unfold veq1_ at h
  split at h
  · rw [eq_of_beq h]
  · simp only [Bool.and_eq_true, decide_eq_true_eq] at h; rw [h.1, eq_of_beq h.2]
  · have := eq_of_beq h
    congr 1
    apply ByteArray.ext
    apply Array.ext'
    exact this
  · rw [aeq_eq h]
  · simp only [Bool.and_eq_true] at h
    rw [aeq_eq h.1.1, Nat.eq_of_beq_eq_true h.1.2, Nat.eq_of_beq_eq_true h.2]
  · rw [Nat.eq_of_beq_eq_true h]
  · rfl
  · rfl
  · rfl
  · rfl
  · rfl
  · cases h
theorem veq_eq {a b : Value} (h : veq_ a b = true) : a = b := by
  unfold veq_ at h
  split at h
  · have := leq_eq veq1_eq h
    congr 1
    exact Array.ext' this
  · have := leq_eq veq1_eq h
    congr 1
    exact Array.ext' this
  · simp only [Bool.and_eq_true] at h
    rw [Nat.eq_of_beq_eq_true h.1.1, Array.ext' (leq_eq veq1_eq h.1.2), Array.ext' (leq_eq veq1_eq h.2)]
  · simp only [Bool.and_eq_true] at h
    rw [Nat.eq_of_beq_eq_true h.1, Array.ext' (leq_eq veq1_eq h.2)]
  · simp only [Bool.and_eq_true] at h
    rw [Nat.eq_of_beq_eq_true h.1, veq1_eq _ _ h.2]
  · exact veq1_eq _ _ h

/-! ### Who must be ahead of whom -/
def ancB (an : List Nat) (i j : Nat) : Bool := Nat.testBit (match an[i]? with | some k => k | none => 0) j
theorem fold_bits (acc : List Nat) : ∀ (es : List Edge) (m j : Nat), Nat.testBit (es.foldl (fun m e => bif Region.binds .any e then m ||| 2 ^ e.on ||| (match acc[e.on]? with | some k => k | none => 0) else m) m) j = true →
    Nat.testBit m j = true ∨ ∃ e ∈ es, Region.binds .any e = true ∧ (j = e.on ∨ ∃ k, acc[e.on]? = some k ∧ Nat.testBit k j = true) := by
  intro es
  induction es with
  | nil => intro m j h; exact .inl h
  | cons e es ih =>
    intro m j h
    rw [List.foldl_cons] at h
    rcases ih _ _ h with h1 | ⟨e', h1, h2, h3⟩
    · cases hb : Region.binds .any e with
      | false => rw [hb, cond_false] at h1; exact .inl h1
      | true =>
        rw [hb, cond_true, Nat.testBit_or, Nat.testBit_or, Bool.or_eq_true, Bool.or_eq_true] at h1
        rcases h1 with (h1 | h1) | h1
        · exact .inl h1
        · rw [Nat.testBit_two_pow] at h1
          exact .inr ⟨e, List.mem_cons_self .., hb, .inl (by simpa using (of_decide_eq_true h1).symm)⟩
        · cases hk : acc[e.on]? with
          | none => rw [hk] at h1; simp at h1
          | some k => rw [hk] at h1; exact .inr ⟨e, List.mem_cons_self .., hb, .inr ⟨k, hk, h1⟩⟩
    · exact .inr ⟨e', List.mem_cons_of_mem _ h1, h2, h3⟩
theorem anc_spec : ∀ (l : List Oper) (acc : List Nat), (anc_ l acc).length = acc.length + l.length ∧ (∀ i, i < acc.length → (anc_ l acc)[i]? = acc[i]?) ∧
    ∀ p o, l[p]? = some o → ∀ j, ancB (anc_ l acc) (acc.length + p) j = true → ∃ e ∈ o.after.toList, Region.binds .any e = true ∧ (j = e.on ∨ ancB (anc_ l acc) e.on j = true) := by
  intro l
  induction l with
  | nil => intro acc; exact ⟨rfl, fun i _ => rfl, fun p o h => by simp at h⟩
  | cons o l ih =>
    intro acc
    simp only [anc_]
    generalize hm : (o.after.toList.foldl (fun m e => bif Region.binds .any e then m ||| 2 ^ e.on ||| (match acc[e.on]? with | some k => k | none => 0) else m) 0) = m
    obtain ⟨h1, h2, h3⟩ := ih (acc ++ [m])
    refine ⟨by rw [h1]; simp; omega, fun i hi => by rw [h2 i (by simp; omega), List.getElem?_append_left hi], fun p o' ho j hj => ?_⟩
    cases p with
    | zero =>
      simp only [List.getElem?_cons_zero, Option.some.injEq] at ho
      subst ho
      unfold ancB at hj
      rw [Nat.add_zero, h2 _ (by simp), List.getElem?_append_right (Nat.le_refl _)] at hj
      simp only [Nat.sub_self, List.getElem?_cons_zero] at hj
      rw [← hm] at hj
      rcases fold_bits acc _ _ _ hj with h | ⟨e, h4, h5, h6⟩
      · simp at h
      · refine ⟨e, h4, h5, ?_⟩
        rcases h6 with h6 | ⟨k, h6, h7⟩
        · exact .inl h6
        · refine .inr ?_
          have hlt : e.on < acc.length := (List.getElem?_eq_some_iff.1 h6).1
          unfold ancB
          rw [h2 _ (by simp; omega), List.getElem?_append_left hlt, h6]
          exact h7
    | succ p =>
      have := h3 p o' (by simpa using ho) j (by rw [show (acc ++ [m]).length + p = acc.length + (p + 1) from by simp; omega]; exact hj)
      exact this
theorem fold_mono (acc : List Nat) : ∀ (es : List Edge) (m j : Nat), Nat.testBit m j = true → Nat.testBit (es.foldl (fun m e => bif Region.binds .any e then m ||| 2 ^ e.on ||| (match acc[e.on]? with | some k => k | none => 0) else m) m) j = true := by
  intro es
  induction es with
  | nil => intro m j h; exact h
  | cons e es ih =>
    intro m j h
    rw [List.foldl_cons]
    refine ih _ _ ?_
    cases hb : Region.binds .any e with
    | false => exact h
    | true => rw [cond_true, Nat.testBit_or, Nat.testBit_or, h]; rfl
theorem fold_has (acc : List Nat) : ∀ (es : List Edge) (m j : Nat) (e : Edge), e ∈ es → Region.binds .any e = true → (j = e.on ∨ ∃ k, acc[e.on]? = some k ∧ Nat.testBit k j = true) → Nat.testBit (es.foldl (fun m e => bif Region.binds .any e then m ||| 2 ^ e.on ||| (match acc[e.on]? with | some k => k | none => 0) else m) m) j = true := by
  intro es
  induction es with
  | nil => intro m j e h; cases h
  | cons e0 es ih =>
    intro m j e he hb hj
    rw [List.foldl_cons]
    rcases List.mem_cons.1 he with rfl | he
    · refine fold_mono acc es _ j ?_
      rw [hb, cond_true, Nat.testBit_or, Nat.testBit_or]
      rcases hj with rfl | ⟨k, hk, hkj⟩
      · simp [Nat.testBit_two_pow]
      · rw [hk]; simp [hkj]
    · exact ih _ j e he hb hj
theorem anc_back : ∀ (l : List Oper) (acc : List Nat) (p : Nat) (o : Oper), l[p]? = some o → ∀ e ∈ o.after.toList, Region.binds .any e = true → e.on < acc.length + p → ∀ j, (j = e.on ∨ ancB (anc_ l acc) e.on j = true) → ancB (anc_ l acc) (acc.length + p) j = true := by
  intro l
  induction l with
  | nil => intro acc p o h; simp at h
  | cons o l ih =>
    intro acc p o' ho e he hb hlt j hj
    have hspec := (anc_spec (o :: l) acc).2.1
    simp only [anc_] at hj hspec ⊢
    generalize hm : (o.after.toList.foldl (fun m e => bif Region.binds .any e then m ||| 2 ^ e.on ||| (match acc[e.on]? with | some k => k | none => 0) else m) 0) = m at hj hspec ⊢
    obtain ⟨h1, h2, h3⟩ := anc_spec l (acc ++ [m])
    cases p with
    | zero =>
      simp only [List.getElem?_cons_zero, Option.some.injEq] at ho
      subst ho
      unfold ancB
      rw [Nat.add_zero, h2 _ (by simp), List.getElem?_append_right (Nat.le_refl _)]
      simp only [Nat.sub_self, List.getElem?_cons_zero]
      rw [← hm]
      refine fold_has acc _ 0 j e he hb ?_
      rcases hj with hj | hj
      · exact .inl hj
      · unfold ancB at hj
        rw [hspec e.on (by omega)] at hj
        cases hk : acc[e.on]? with
        | none => rw [hk] at hj; simp at hj
        | some k => rw [hk] at hj; exact .inr ⟨k, rfl, hj⟩
    | succ p =>
      have := ih (acc ++ [m]) p o' (by simpa using ho) e he hb (by simp; omega) j hj
      rw [show (acc ++ [m]).length + p = acc.length + (p + 1) from by simp; omega] at this
      exact this
end Go.Proofs.YthloojeefdjpjaaGreatDoor
