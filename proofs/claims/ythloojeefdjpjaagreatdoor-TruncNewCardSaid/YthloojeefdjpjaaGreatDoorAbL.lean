/- Regions whose order is open: in whatever order, as the evaluator says. -/
import Derived.Test.YthloojeefdjpjaaGreatDoorAbK
namespace Go.Proofs.YthloojeefdjpjaaGreatDoor
open Go Go.RowKit
set_option linter.unusedVariables false
set_option linter.unusedSimpArgs false

/-! ### What an operation looks at -/
theorem bounds_map {x : Option Operand} {ρ ρ2 : Operand → Value} (h : ∀ y ∈ x.toArray, ρ y = ρ2 y) : x.map ρ = x.map ρ2 := by
  cases x with
  | none => rfl
  | some x => simp only [Option.map_some]; rw [h x (by simp)]
theorem aop_congr {E : Env} {ρ ρ2 : Operand → Value} {op : Op} {h : Hp} (hc : ∀ x ∈ op.operands, ρ x = ρ2 x) : aop E ρ op h = aop E ρ2 op h := by
  have pairs : ∀ ps : Array (Nat × Operand), (∀ x ∈ (ps.toList.map (·.2)).toArray, ρ x = ρ2 x) → (ps.toList.map fun p => (p.1, ρ p.2)) = (ps.toList.map fun p => (p.1, ρ2 p.2)) := fun ps hp =>
    List.map_congr_left fun p hm => by rw [hp p.2 (by simpa using ⟨p.1, by simpa using hm⟩)]
  cases op <;> simp only [Op.operands] at hc <;> simp only [aop]
  case build t ps => rw [pairs ps hc]
  case buildSlice t n ps => rw [pairs ps hc]
  case makeFunc fn first captured =>
    rw [Array.map_congr_left (xs := first) fun x hx => hc x (by simp [hx]), Array.map_congr_left (xs := captured) fun x hx => hc x (by simp [hx])]
  case slice t x lo hi mx =>
    rw [hc x (by simp), bounds_map (x := lo) fun y hy => hc y (by simp only [Array.mem_append]; exact .inl (.inl (.inr hy))), bounds_map (x := hi) fun y hy => hc y (by simp only [Array.mem_append]; exact .inl (.inr hy)), bounds_map (x := mx) fun y hy => hc y (by simp only [Array.mem_append]; exact .inr hy)]
  case makeMap t r => cases r <;> rfl
  case call c =>
    obtain ⟨callee, args, argTypes⟩ := c
    cases callee with
    | value f => rfl
    | invoke r m => rfl
    | builtin b =>
      have ha : ∀ x ∈ args.toList, ρ x = ρ2 x := fun x hx => hc x (by simp [Call.operands]; simpa using hx)
      simp only
      split
      · rename_i x t hargs _; rw [ha x (by rw [hargs]; simp)]
      · rename_i s x t u hargs _; rw [ha s (by rw [hargs]; simp), ha x (by rw [hargs]; simp)]
      · rename_i d s t r hargs _; rw [ha d (by rw [hargs]; simp), ha s (by rw [hargs]; simp)]
      · rename_i x t r hargs _; rw [ha x (by rw [hargs]; simp)]
      · rename_i x hargs; rw [ha x (by rw [hargs]; simp)]
      · rename_i x n t u hargs _; rw [ha x (by rw [hargs]; simp), ha n (by rw [hargs]; simp)]
      · rename_i x l hargs; rw [ha x (by rw [hargs]; simp), List.map_congr_left (l := l) fun y hy => ha y (by rw [hargs]; simp [hy])]
      · rename_i x l hargs; rw [ha x (by rw [hargs]; simp), List.map_congr_left (l := l) fun y hy => ha y (by rw [hargs]; simp [hy])]
      · rfl
  all_goals (first | rfl | (simp at hc; simp only [hc]; done) | (simp at hc; simp [hc]; done))
theorem oneOp_congr {E : Env} {call : FuncId → List Value → Hp → Option (Value × Hp)} {ρ ρ2 : Operand → Value} {op : Op} {h : Hp} (hc : ∀ x ∈ op.operands, ρ x = ρ2 x) : oneOp E call ρ op h = oneOp E call ρ2 op h := by
  unfold oneOp
  split
  · rename_i c
    obtain ⟨callee, args, argTypes⟩ := c
    cases callee with
    | value f =>
      have h1 : ρ f = ρ2 f := hc f (by simp [Op.operands, Call.operands])
      have h2 : args.toList.map ρ = args.toList.map ρ2 := List.map_congr_left fun x hx => hc x (by simp [Op.operands, Call.operands]; right; simpa using hx)
      simp only [callee_, h1, h2]
    | invoke r m =>
      have h1 : ρ r = ρ2 r := hc r (by simp [Op.operands, Call.operands])
      have h2 : args.toList.map ρ = args.toList.map ρ2 := List.map_congr_left fun x hx => hc x (by simp [Op.operands, Call.operands]; right; simpa using hx)
      simp only [callee_, h1, h2]
    | builtin b => exact aop_congr hc
  · exact aop_congr hc

/-! ### Kinds -/
theorem conv_pure {E : Env} {s d : TypeId} {x v : Value} {h h' : Hp} {k : IntKind} (hd : E.under d = some (.int k)) (hc : conv_ E s d x h = some (v, h')) : h' = h ∧ ∀ h2, conv_ E s d x h2 = some (v, h2) := by
  unfold conv_ at hc
  simp only [hd] at hc
  split at hc
  · rename_i ds q k' n hs hd2
    injection hd2 with hd2
    injection hd2 with hd2
    subst hd2
    simp only [Option.some.injEq, Prod.mk.injEq] at hc
    obtain ⟨rfl, rfl⟩ := hc
    refine ⟨rfl, fun h2 => ?_⟩
    unfold conv_
    rw [hs, hd]
  · rename_i ds q n hs hd2
    injection hd2 with hd2
    injection hd2 with hd2
    subst hd2
    simp only [Option.some.injEq, Prod.mk.injEq] at hc
    obtain ⟨rfl, rfl⟩ := hc
    refine ⟨rfl, fun h2 => ?_⟩
    unfold conv_
    rw [hs, hd]
    rfl
  all_goals (first | (cases hc; done) | (rename_i hd2; cases hd2; done) | (rename_i hs hd2; cases hd2; done))
/-- What hangs on its operands alone is the same in every heap. -/
theorem kind0 {E : Env} {ρ : Operand → Value} {op : Op} {v : Value} {h h' : Hp} (hk : kind_ E op = 0) (ha : aop E ρ op h = some (v, h')) : h' = h ∧ ∀ h2, aop E ρ op h2 = some (v, h2) := by
  have plain : ∀ {x : Option Value} {h2 : Hp} {u : Value} {h : Hp}, (match x with | some x => some (x, h) | none => none) = some (u, h2) → x = some u ∧ h2 = h := by
    intro x h2 u h e
    cases x with
    | none => cases e
    | some x => simp only [Option.some.injEq, Prod.mk.injEq] at e; exact ⟨by rw [e.1], e.2.symm⟩
  cases op <;> simp only [kind_] at hk <;> try (exact absurd hk (by decide))
  case move x => simp only [aop, Option.some.injEq, Prod.mk.injEq] at ha ⊢; exact ⟨ha.2.symm, fun h2 => ⟨ha.1, by trivial⟩⟩
  case assign x => simp only [aop, Option.some.injEq, Prod.mk.injEq] at ha ⊢; exact ⟨ha.2.symm, fun h2 => ⟨ha.1, by trivial⟩⟩
  case makeFunc fn a b => simp only [aop, Option.some.injEq, Prod.mk.injEq] at ha ⊢; exact ⟨ha.2.symm, fun h2 => ⟨ha.1, by trivial⟩⟩
  case pick c a b =>
    simp only [aop] at ha ⊢
    split at ha <;> first | (cases ha; done) | (simp only [Option.some.injEq, Prod.mk.injEq] at ha ⊢; exact ⟨ha.2.symm, fun h2 => ⟨ha.1, by trivial⟩⟩) | (simp only [Option.some.injEq, Prod.mk.injEq] at ha ⊢; exact ⟨ha.2.symm, fun h2 => ⟨ha.1, by trivial⟩⟩)
  case nilCheck x =>
    simp only [aop] at ha ⊢
    split at ha <;> first | (cases ha; done) | (simp only [Option.some.injEq, Prod.mk.injEq] at ha ⊢; exact ⟨ha.2.symm, fun h2 => ⟨ha.1, by trivial⟩⟩) | (simp only [Option.some.injEq, Prod.mk.injEq] at ha ⊢; exact ⟨ha.2.symm, fun h2 => ⟨ha.1, by trivial⟩⟩)
  case binOp op t x y yt =>
    simp only [aop] at ha ⊢
    cases hb : bin_ op (ρ x) (ρ y) with
    | some z => rw [hb] at ha; simp only [Option.some.injEq, Prod.mk.injEq] at ha ⊢; exact ⟨ha.2.symm, fun h2 => ⟨ha.1, by trivial⟩⟩
    | none =>
      rw [hb] at ha
      simp only at ha ⊢
      cases hni : nils_ E t x y (ρ x) (ρ y) <;> cases op <;> simp only [hni] at ha ⊢ <;> first
        | (injection ha with ha; injection ha with e1 e2; subst e1 e2; exact ⟨rfl, fun _ => rfl⟩)
        | (cases ha; done)
        | (split at ha <;> first | (cases ha; done) | (simp only [Option.some.injEq, Prod.mk.injEq] at ha ⊢; exact ⟨ha.2.symm, fun h2 => ⟨ha.1, by trivial⟩⟩) | (simp only [Option.some.injEq, Prod.mk.injEq] at ha ⊢; exact ⟨ha.2.symm, fun h2 => ⟨ha.1, by trivial⟩⟩))
  case makeInterface t x =>
    simp only [aop] at ha ⊢
    split at ha <;> first | (cases ha; done) | (simp only [Option.some.injEq, Prod.mk.injEq] at ha ⊢; exact ⟨ha.2.symm, fun h2 => ⟨ha.1, by trivial⟩⟩) | (simp only [Option.some.injEq, Prod.mk.injEq] at ha ⊢; exact ⟨ha.2.symm, fun h2 => ⟨ha.1, by trivial⟩⟩)
  case convert s d x =>
    simp only [aop] at ha ⊢
    split at hk
    · rename_i k hd; exact conv_pure hd ha
    · exact absurd hk (by decide)
    · exact absurd hk (by decide)
  case extract t i =>
    simp only [aop] at ha ⊢
    split at ha
    · split at ha
      · simp only [Option.some.injEq, Prod.mk.injEq] at ha ⊢; exact ⟨ha.2.symm, fun h2 => ⟨ha.1, by trivial⟩⟩
      · cases ha
    · cases ha
  case call c =>
    exfalso
    obtain ⟨callee, args, tys⟩ := c
    cases callee with
    | value f => cases hk
    | invoke r m => cases hk
    | builtin b => cases b <;> cases hk
  all_goals (simp only [aop] at ha ⊢; obtain ⟨h1, rfl⟩ := plain ha; refine ⟨rfl, fun h2 => ?_⟩; rw [h1])
end Go.Proofs.YthloojeefdjpjaaGreatDoor
