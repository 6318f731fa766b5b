/- All of the evaluator's operations, but calls of functions, beside the machine's. -/
import Derived.Test.YthloojeefdjpjaaGreatDoorAbI
namespace Go.Proofs.YthloojeefdjpjaaGreatDoor
open Go Go.RowKit
set_option linter.unusedVariables false
set_option linter.unusedSimpArgs false

/-- An operation is done as the evaluator says. -/
def DoesOp (P : Program) (β : Bt) (h : Hp) (w : World) (s : Sem Next) (v : Value) (h' : Hp) : Prop :=
  ∃ n v' w' β', s.run P w = .ok n w' ∧ (n = .value v' ∨ (n = .skip ∧ v' = undef)) ∧ HR P β' h' w' ∧ St β h w β' h' w' ∧ VR β' v v'
theorem Does.op {P : Program} {β : Bt} {h : Hp} {w : World} {s : Sem Value} {v : Value} {h' : Hp} (hd : Does P β h w s v h') : DoesOp P β h w (do pure (.value (← s))) v h' := by
  obtain ⟨v', w', β', hr, H', S', hR⟩ := hd
  exact ⟨.value v', v', w', β', by simp only [Sem.run_bind, hr, Result.andThen_ok, Sem.run_pure], .inl rfl, H', S', hR⟩
theorem DoesOp.unit {P : Program} {β : Bt} {h : Hp} {w : World} {s : Sem Unit} {h' : Hp} (hd : ∃ w', s.run P w = .ok () w' ∧ HR P β h' w' ∧ St β h w β h' w') : DoesOp P β h w (do s; pure .skip) undef h' := by
  obtain ⟨w', hr, H', S'⟩ := hd
  exact ⟨.skip, undef, w', β, by simp only [Sem.run_bind, hr, Result.andThen_ok, Sem.run_pure], .inr ⟨rfl, rfl⟩, H', S', .undef β⟩
theorem parts_pr {β : Bt} {ρ ρ' : Operand → Value} (hρ : ∀ x, VR β (ρ x) (ρ' x)) (parts : Array (Nat × Operand)) : PR β (parts.toList.map fun p => (p.1, ρ p.2)) (parts.map fun (i, x) => (i, ρ' x)).toList := by
  refine ⟨by simp, fun i p q hp hq => ?_⟩
  rw [List.getElem?_map] at hp
  rw [Array.toList_map, List.getElem?_map] at hq
  cases hx : parts.toList[i]? with
  | none => rw [hx] at hp; cases hp
  | some u =>
    rw [hx] at hp hq
    simp only [Option.map_some, Option.some.injEq] at hp hq
    subst hp hq
    exact ⟨rfl, hρ _⟩
theorem args_of {args : Array Operand} {l : List Operand} (h : args.toList = l) : args = l.toArray := by
  rw [← h]
theorem nils_inv {E : Env} {t : TypeId} {x y : Operand} {a b : Value} (h : nils_ E t x y a b = true) : a = .nilIface ∧ b = .nilIface ∧ (∃ ms, E.under t = some (.interface ms)) ∧ (isConst_ x || isConst_ y) = true := by
  unfold nils_ at h
  split at h
  · exact ⟨rfl, rfl, ⟨_, ‹_›⟩, h⟩
  · cases h
section
variable {P : Program} {eqs : List TypeId} (hp : P.types.size < 4000) (hs : ∀ t ∈ eqs, P.stoodInHeld t = false) (hg : ∀ t ∈ eqs, P.eqGuardType P.depth t = false)
include hp
theorem clear_does {β : Bt} {h h' : Hp} {w : World} (H : HR P β h w) {t : TypeId} {x x' v : Value} (hc : clear_ (Env.of P eqs) t x h = some (v, h')) (hx : VR β x x') (ts : Array TypeId) (ht : ts[0]? = some t) (ty : TypeId) : Does P β h w (Builtin.clear_ ts ty #[x']) v h' := by
  unfold clear_ at hc
  split at hc
  · rename_i a n c
    obtain ⟨i, _, hi, rfl⟩ := hx.slice_inv
    split at hc
    · rename_i e hu
      split at hc
      · simp only [Option.some.injEq, Prod.mk.injEq] at hc
        obtain ⟨rfl, rfl⟩ := hc
        exact .same H (by simp [Builtin.clear_, ht, run_under hp hu]; rfl) (.undef β)
      · rename_i m z hz
        cases hst : storeCells_ h a (rep_ z.cells.toList (m + 1)) with
        | none => rw [hst] at hc; cases hc
        | some h2 =>
          rw [hst] at hc
          simp only [Option.some.injEq, Prod.mk.injEq] at hc
          obtain ⟨rfl, rfl⟩ := hc
          have hzc := ((env_zero hp hz).2 β).cells (env_zero_any hz)
          have harr : (Builtin.zeroCells z.cells (m + 1)).toList = rep_ z.cells.toList (m + 1) := rep_array z.cells (m + 1) _ rfl
          obtain ⟨w', hr, H', S'⟩ := storeCells_run H hst hi (l' := (Builtin.zeroCells z.cells (m + 1)).toList) (by rw [harr]; exact hzc.rep _)
          refine ⟨undef, w', β, ?_, H', S', .undef β⟩
          simp only [Builtin.clear_, Sem.run_bind, ht, List.getElem?_toArray, List.getElem?_cons_zero, run_under hp hu, Result.andThen_ok, run_zero hp hz, hr, Sem.run_pure]
          rfl
      · cases hc
    · cases hc
  · rename_i n c
    rw [hx.nilSlice_inv]
    split at hc
    · rename_i d hu
      simp only [Option.some.injEq, Prod.mk.injEq] at hc
      obtain ⟨rfl, rfl⟩ := hc
      exact .same H (by simp [Builtin.clear_, ht, run_under hp hu]; rfl) (.undef β)
    · cases hc
  · cases hc
include hs hg
theorem binOp_does {β : Bt} {h : Hp} {w : World} (H : HR P β h w) {ρ ρ' : Operand → Value} (hρ : ∀ x, VR β (ρ x) (ρ' x)) {op : BinOp} {t : TypeId} {x y : Operand} {yt : TypeId} {v : Value} {h' : Hp} (ha : aop (Env.of P eqs) ρ (.binOp op t x y yt) h = some (v, h')) :
    Does P β h w (do eqGuard op t x y (ρ' x) (ρ' y); binOp op t (ρ' x) (ρ' y)) v h' := by
  simp only [aop] at ha
  cases hb : bin_ op (ρ x) (ρ y) with
  | some z =>
    rw [hb] at ha
    simp only [Option.some.injEq, Prod.mk.injEq] at ha
    obtain ⟨rfl, rfl⟩ := ha
    obtain ⟨hr, hB⟩ := bin_run (P := P) hb (hρ x) (hρ y) t x y w
    exact .same H hr (.bare hB)
  | none =>
    rw [hb] at ha
    simp only at ha
    cases hni : nils_ (Env.of P eqs) t x y (ρ x) (ρ y) with
    | true =>
      rw [hni] at ha
      simp only at ha
      obtain ⟨h1, h2, ⟨ms, hu⟩, hc⟩ := nils_inv hni
      have hx' : ρ' x = .nilIface := by
        have := hρ x
        rw [h1] at this
        revert this
        generalize ρ' x = u
        intro this
        cases this
        rfl
      have hy' : ρ' y = .nilIface := by
        have := hρ y
        rw [h2] at this
        revert this
        generalize ρ' y = u
        intro this
        cases this
        rfl
      have hgd : ∀ op, (eqGuard op t x y .nilIface .nilIface).run P w = .ok () w := by
        intro op
        unfold eqGuard
        cases x <;> cases y <;> first | (cases hc; done) | (cases op <;> simp)
      have h5 : (Op.equal t .nilIface .nilIface).run P w = .ok true w := by
        have h6 : ∀ D, (Op.equalIn (D + 1) t .nilIface .nilIface).run P w = .ok true w := fun D => by simp [Op.equalIn, run_under hp hu]
        exact h6 9999
      have e1 : binOp .eql t .nilIface .nilIface = (do pure (.bool (← Op.equal t .nilIface .nilIface))) := rfl
      have e2 : binOp .neq t .nilIface .nilIface = (do pure (.bool (!(← Op.equal t .nilIface .nilIface)))) := rfl
      rw [hx', hy']
      cases op <;> simp only at ha <;> try (cases ha; done)
      case eql =>
        simp only [Option.some.injEq, Prod.mk.injEq] at ha
        obtain ⟨rfl, rfl⟩ := ha
        refine .same H (v' := .bool true) ?_ (.bool _)
        rw [e1]
        simp only [Sem.run_bind, hgd, Result.andThen_ok, h5, Sem.run_pure]
      case neq =>
        simp only [Option.some.injEq, Prod.mk.injEq] at ha
        obtain ⟨rfl, rfl⟩ := ha
        refine .same H (v' := .bool false) ?_ (.bool _)
        rw [e2]
        simp only [Sem.run_bind, hgd, Result.andThen_ok, h5, Sem.run_pure, Bool.not_true]
    | false =>
    rw [hni] at ha
    simp only at ha
    have noInt : ∀ (b : Bool) {a c : Value}, (op = .eql ∨ op = .neq) → eq_ (Env.of P eqs) 20 t (ρ x) (ρ y) = some b → ∀ t, (op = .eql → binOp op t (ρ' x) (ρ' y) = (do pure (.bool (← Op.equal t (ρ' x) (ρ' y))))) ∧ (op = .neq → binOp op t (ρ' x) (ρ' y) = (do pure (.bool (!(← Op.equal t (ρ' x) (ρ' y)))))) := by
      intro b a c hop he
      rcases eq_form he (hρ x) (hρ y) with ⟨k, a, k', c, h1, h2, rfl⟩ | ⟨a, c, h1, h2⟩ | h3
      · rw [h1, h2] at hb
        rcases hop with rfl | rfl <;> simp [bin_] at hb
      · rw [h1, h2] at hb
        rcases hop with rfl | rfl <;> simp [bin_] at hb
      · intro t
        exact ⟨fun h => by subst h; exact (h3 t).1, fun h => by subst h; exact (h3 t).2⟩
    cases op <;> simp only at ha <;> try (cases ha; done)
    case eql =>
      cases hgd : guard_ (Env.of P eqs) t (ρ x) with
      | false => rw [hgd] at ha; cases ha
      | true =>
        cases he : eq_ (Env.of P eqs) 20 t (ρ x) (ρ y) with
        | none => rw [hgd, he] at ha; cases ha
        | some b =>
          rw [hgd, he] at ha
          simp only [Option.some.injEq, Prod.mk.injEq] at ha
          obtain ⟨rfl, rfl⟩ := ha
          have h1 := (noInt b (a := undef) (c := undef) (.inl rfl) he t).1 rfl
          have h2 := eqGuard_run (op := .eql) (X := x) (Y := y) hg he hgd (hρ x) (hρ y) w
          have h3 := eq_run hp (w := w) hs 20 10000 (by omega) t _ _ _ _ b he (hρ x) (hρ y)
          refine .same H (v' := .bool b) ?_ (.bool b)
          rw [h1]
          simp only [Sem.run_bind, h2, Result.andThen_ok, Op.equal, Op.maxDepth, h3, Sem.run_pure]
    case neq =>
      cases hgd : guard_ (Env.of P eqs) t (ρ x) with
      | false => rw [hgd] at ha; cases ha
      | true =>
        cases he : eq_ (Env.of P eqs) 20 t (ρ x) (ρ y) with
        | none => rw [hgd, he] at ha; cases ha
        | some b =>
          rw [hgd, he] at ha
          simp only [Option.some.injEq, Prod.mk.injEq] at ha
          obtain ⟨rfl, rfl⟩ := ha
          have h1 := (noInt b (a := undef) (c := undef) (.inr rfl) he t).2 rfl
          have h2 := eqGuard_run (op := .neq) (X := x) (Y := y) hg he hgd (hρ x) (hρ y) w
          have h3 := eq_run hp (w := w) hs 20 10000 (by omega) t _ _ _ _ b he (hρ x) (hρ y)
          refine .same H (v' := .bool !b) ?_ (.bool _)
          rw [h1]
          simp only [Sem.run_bind, h2, Result.andThen_ok, Op.equal, Op.maxDepth, h3, Sem.run_pure]
theorem aop_does {β : Bt} {h : Hp} {w : World} (H : HR P β h w) {ρ ρ' : Operand → Value} (hρ : ∀ x, VR β (ρ x) (ρ' x)) {o : Oper} {v : Value} {h' : Hp} (ha : aop (Env.of P eqs) ρ o.op h = some (v, h')) :
    DoesOp P β h w (execOp ρ' o) v h' := by
  obtain ⟨dst, op, type, pos, after, guard⟩ := o
  simp only at ha
  have plain : ∀ {x : Option Value} {h2 : Hp} {u : Value}, (match x with | some x => some (x, h) | none => none) = some (u, h2) → x = some u ∧ h2 = h := by
    intro x h2 u e
    cases x with
    | none => cases e
    | some x => simp only [Option.some.injEq, Prod.mk.injEq] at e; exact ⟨by rw [e.1], e.2.symm⟩
  cases op
  case move x =>
    simp only [aop, Option.some.injEq, Prod.mk.injEq] at ha
    obtain ⟨rfl, rfl⟩ := ha
    exact ⟨_, ρ' x, w, β, rfl, .inl rfl, H, .refl _ _ _, hρ x⟩
  case assign x =>
    simp only [aop, Option.some.injEq, Prod.mk.injEq] at ha
    obtain ⟨rfl, rfl⟩ := ha
    exact ⟨_, ρ' x, w, β, rfl, .inl rfl, H, .refl _ _ _, hρ x⟩
  case pick c a b =>
    simp only [aop] at ha
    split at ha
    · rename_i hc
      simp only [Option.some.injEq, Prod.mk.injEq] at ha
      obtain ⟨rfl, rfl⟩ := ha
      have := hρ c
      rw [hc] at this
      exact ⟨_, ρ' a, w, β, by simp [execOp, this.bool_inv, asBool], .inl rfl, H, .refl _ _ _, hρ a⟩
    · rename_i hc
      simp only [Option.some.injEq, Prod.mk.injEq] at ha
      obtain ⟨rfl, rfl⟩ := ha
      have := hρ c
      rw [hc] at this
      exact ⟨_, ρ' b, w, β, by simp [execOp, this.bool_inv, asBool], .inl rfl, H, .refl _ _ _, hρ b⟩
    · cases ha
  case alloc e =>
    simp only [aop] at ha
    cases hz : (Env.of P eqs).zero e with
    | none => rw [hz] at ha; cases ha
    | some z =>
      rw [hz] at ha
      simp only at ha
      cases hn : newRow_ h e z.cells.toList true with
      | none => rw [hn] at ha; cases ha
      | some q =>
        obtain ⟨a, h2⟩ := q
        rw [hn] at ha
        simp only [Option.some.injEq, Prod.mk.injEq] at ha
        obtain ⟨rfl, rfl⟩ := ha
        exact (alloc_does hp H hz hn).op
  case box e x =>
    simp only [aop] at ha
    cases hna : isAny (ρ x) with
    | true => rw [hna] at ha; cases ha
    | false =>
      cases hn : newRow_ h e (ρ x).cells.toList true with
      | none => rw [hna, hn] at ha; cases ha
      | some q =>
        obtain ⟨a, h2⟩ := q
        rw [hna, hn] at ha
        simp only [Option.some.injEq, Prod.mk.injEq] at ha
        obtain ⟨rfl, rfl⟩ := ha
        exact (box_does H hn (hρ x) hna).op
  case build t parts =>
    simp only [aop] at ha
    obtain ⟨hb, rfl⟩ := plain ha
    exact (build_does hp H hb (parts_pr hρ parts)).op
  case buildSlice t len parts =>
    simp only [aop] at ha
    exact (buildSlice_does hp H ha (parts_pr hρ parts)).op
  case load t a =>
    simp only [aop] at ha
    cases hadr : addr_ (ρ a) with
    | none => rw [hadr] at ha; cases ha
    | some ad =>
      rw [hadr] at ha
      obtain ⟨hl, rfl⟩ := plain ha
      exact (load_does hp H hadr hl (hρ a)).op
  case store t a x =>
    simp only [aop] at ha
    cases hadr : addr_ (ρ a) with
    | none => rw [hadr] at ha; cases ha
    | some ad =>
      cases hsz : (Env.of P eqs).size t with
      | none => rw [hadr, hsz] at ha; cases ha
      | some n =>
        rw [hadr, hsz] at ha
        simp only at ha
        cases hb : (Nat.beq (ρ x).cells.toList.length n && !isAny (ρ x)) with
        | false => rw [hb] at ha; cases ha
        | true =>
          rw [hb, cond_true] at ha
          obtain ⟨hb1, hb2⟩ := Bool.and_eq_true_iff.1 hb
          cases hst : storeCells_ h ad (ρ x).cells.toList with
          | none => rw [hst] at ha; cases ha
          | some h2 =>
            rw [hst] at ha
            simp only [Option.some.injEq, Prod.mk.injEq] at ha
            obtain ⟨rfl, rfl⟩ := ha
            exact .unit (store_run hp H hadr hsz (Nat.eq_of_beq_eq_true hb1) hst (hρ a) (hρ x) (by simpa using hb2))
  case nilCheck x =>
    simp only [aop] at ha
    split at ha
    · rename_i ad hx
      simp only [Option.some.injEq, Prod.mk.injEq] at ha
      obtain ⟨rfl, rfl⟩ := ha
      have := hρ x
      rw [hx] at this
      obtain ⟨a', ha'⟩ : ∃ a', ρ' x = .pointer (some a') := by
        revert this
        generalize ρ' x = u
        intro this
        cases this with
        | ptr o h => exact ⟨_, rfl⟩
      exact ⟨.value (ρ' x), ρ' x, w, β, by simp only [execOp, ha']; rfl, .inl rfl, H, .refl _ _ _, this⟩
    · rename_i f a b hx
      simp only [Option.some.injEq, Prod.mk.injEq] at ha
      obtain ⟨rfl, rfl⟩ := ha
      have := hρ x
      rw [hx] at this
      obtain ⟨a', b', ha'⟩ : ∃ a' b', ρ' x = .func (.func f) a' b' := by
        revert this
        generalize ρ' x = u
        intro this
        cases this with
        | func fn h1 h2 h3 h4 => exact ⟨_, _, rfl⟩
      exact ⟨.value (ρ' x), ρ' x, w, β, by simp only [execOp, ha']; rfl, .inl rfl, H, .refl _ _ _, this⟩
    · rename_i t v0 hx
      simp only [Option.some.injEq, Prod.mk.injEq] at ha
      obtain ⟨rfl, rfl⟩ := ha
      have := hρ x
      rw [hx] at this
      obtain ⟨v1, ha'⟩ : ∃ v1, ρ' x = .iface t v1 := by
        revert this
        generalize ρ' x = u
        intro this
        cases this with
        | iface t h => exact ⟨_, rfl⟩
      exact ⟨.value (ρ' x), ρ' x, w, β, by simp only [execOp, ha']; rfl, .inl rfl, H, .refl _ _ _, this⟩
    · cases ha
  case binOp op t x y yt =>
    exact (binOp_does hp hs hg H hρ ha).op
  case unOp op t x =>
    simp only [aop] at ha
    obtain ⟨hu, rfl⟩ := plain ha
    obtain ⟨hr, hB⟩ := un_run (P := P) hu (hρ x) w
    exact (Does.same H hr (.bare hB)).op
  case convert s d x =>
    simp only [aop] at ha
    exact (conv_does hp H ha (hρ x)).op
  case makeInterface t x =>
    simp only [aop] at ha
    split at ha
    · cases ha
    · rename_i d hnd hd
      simp only [Option.some.injEq, Prod.mk.injEq] at ha
      obtain ⟨rfl, rfl⟩ := ha
      refine (Does.same H (v' := .iface t (ρ' x)) ?_ (.iface t (hρ x))).op
      simp only [Instr.makeInterface, Sem.run_bind, run_under hp hd, Result.andThen_ok]
      cases d <;> first | rfl | exact absurd rfl (hnd _)
    · cases ha
  case makeFunc fn first captured =>
    simp only [aop, Option.some.injEq, Prod.mk.injEq] at ha
    obtain ⟨rfl, rfl⟩ := ha
    refine (Does.same H (v' := .func fn (first.map ρ') (captured.map ρ')) rfl (.func fn (by simp) (fun i x y hx hy => ?_) (by simp) (fun i x y hx hy => ?_))).op
    · rw [Array.getElem?_map] at hx hy
      cases hq : first[i]? with
      | none => rw [hq] at hx; cases hx
      | some u => rw [hq] at hx hy; injection hx with hx; injection hy with hy; subst hx hy; exact hρ u
    · rw [Array.getElem?_map] at hx hy
      cases hq : captured[i]? with
      | none => rw [hq] at hx; cases hx
      | some u => rw [hq] at hx hy; injection hx with hx; injection hy with hy; subst hx hy; exact hρ u
  case makeMap t r =>
    cases r with
    | some r => simp [aop] at ha
    | none =>
      simp only [aop] at ha
      cases hn : h.new (.map [] 0) with
      | none => rw [hn] at ha; cases ha
      | some q =>
        obtain ⟨b, h2⟩ := q
        rw [hn] at ha
        simp only [Option.some.injEq, Prod.mk.injEq] at ha
        obtain ⟨rfl, rfl⟩ := ha
        exact (makeMap_does H hn).op
  case makeSlice t l c =>
    simp only [aop] at ha
    exact (makeSlice_does hp H ha (hρ l) (hρ c)).op
  case slice t x lo hi mx =>
    simp only [aop] at ha
    exact (slice_does hp H ha (hρ x) (.map hρ lo) (.map hρ hi) (.map hρ mx)).op
  case fieldAddr s x f =>
    simp only [aop] at ha
    obtain ⟨hf, rfl⟩ := plain ha
    obtain ⟨v', hr, hR⟩ := fieldAddr_run hp hf (hρ x) w
    exact (Does.same H hr hR).op
  case field s x f =>
    simp only [aop] at ha
    obtain ⟨hf, rfl⟩ := plain ha
    obtain ⟨v', hr, hR⟩ := field_run hp hf (hρ x) w
    exact (Does.same H hr hR).op
  case indexAddr t x i =>
    simp only [aop] at ha
    obtain ⟨hf, rfl⟩ := plain ha
    obtain ⟨v', hr, hR⟩ := indexAddr_run hp hf (hρ x) (hρ i) w
    exact (Does.same H hr hR).op
  case index t x i =>
    simp only [aop] at ha
    obtain ⟨hf, rfl⟩ := plain ha
    obtain ⟨v', hr, hR⟩ := index_run hp hf (hρ x) (hρ i) w
    exact (Does.same H hr hR).op
  case lookup t x k ok =>
    simp only [aop] at ha
    obtain ⟨hf, rfl⟩ := plain ha
    obtain ⟨hr, hR⟩ := lookup_run hp H hf (hρ x) (hρ k)
    exact (Does.same H hr hR).op
  case mapUpdate t m k x =>
    simp only [aop] at ha
    cases hm : mapUpdate_ (Env.of P eqs) t (ρ m) (ρ k) (ρ x) h with
    | none => rw [hm] at ha; cases ha
    | some h2 =>
      rw [hm] at ha
      simp only [Option.some.injEq, Prod.mk.injEq] at ha
      obtain ⟨rfl, rfl⟩ := ha
      exact .unit (mapUpdate_does hp H hm (hρ m) (hρ k) (hρ x))
  case extract t i =>
    simp only [aop] at ha
    split at ha
    · rename_i vs ht
      cases hv : vs.toList[i]? with
      | none => rw [hv] at ha; cases ha
      | some u =>
        rw [hv] at ha
        simp only [Option.some.injEq, Prod.mk.injEq] at ha
        obtain ⟨rfl, rfl⟩ := ha
        have := hρ t
        rw [ht] at this
        obtain ⟨ys, hy, hl⟩ := this.tuple_inv
        obtain ⟨u', hu', hR⟩ := hl.get hv
        have h2 : ys[i]? = some u' := by simpa using hu'
        exact (Does.same H (v' := u') (by simp [hy, Instr.extract, h2]) hR).op
    · cases ha
  case call c =>
    obtain ⟨callee, args, argTypes⟩ := c
    cases callee with
    | value f => simp [aop] at ha
    | invoke r m => simp [aop] at ha
    | builtin b =>
      simp only [aop] at ha
      have shape : ∀ (s : Sem Value), (∀ (cs : Array Bool), builtin b argTypes type cs (args.map ρ') = (do pure (.value (← s)))) → Does P β h w s v h' → DoesOp P β h w (execOp ρ' ⟨dst, .call ⟨.builtin b, args, argTypes⟩, type, pos, after, guard⟩) v h' := by
        intro s hb hd
        obtain ⟨n, v', w', β', hr, hn, H', S', hR⟩ := hd.op
        refine ⟨n, v', w', β', ?_, hn, H', S', hR⟩
        simp only [execOp, resolve, Sem.run_bind, Sem.run_pure, Result.andThen_ok, invoke, hb]
        simpa only [Sem.run_bind, Sem.run_pure] using hr
      split at ha
      · rename_i x t hargs htys
        obtain ⟨hl, rfl⟩ := plain ha
        have e1 := args_of hargs
        subst e1
        have ht : argTypes[0]? = some t := by
          have : argTypes.toList[0]? = some t := by rw [htys]; rfl
          simpa using this
        obtain ⟨hr, hR⟩ := len_run hp H hl (hρ x) argTypes ht type
        exact shape (Builtin.len_ argTypes type #[ρ' x]) (fun cs => by simp [builtin]) (.same H hr hR)
      · rename_i s x t u hargs htys
        have e1 := args_of hargs
        subst e1
        have e2 : argTypes = #[t, u] := by
          apply Array.ext'
          rw [htys]
        subst e2
        exact shape (Builtin.append_ #[t, u] type #[ρ' s, ρ' x]) (fun cs => by simp [builtin]) (append_does hp H ha (hρ s) (hρ x) type)
      · rename_i d s t r hargs htys
        have e1 := args_of hargs
        subst e1
        have ht : argTypes[0]? = some t := by
          have : argTypes.toList[0]? = some t := by rw [htys]; rfl
          simpa using this
        exact shape (Builtin.copy_ argTypes type #[ρ' d, ρ' s]) (fun cs => by simp [builtin]) (copy_does hp H ha (hρ d) (hρ s) argTypes type ht)
      · rename_i x t r hargs htys
        have e1 := args_of hargs
        subst e1
        have ht : argTypes[0]? = some t := by
          have : argTypes.toList[0]? = some t := by rw [htys]; rfl
          simpa using this
        exact shape (Builtin.clear_ argTypes type #[ρ' x]) (fun cs => by simp [builtin]) (clear_does hp H ha (hρ x) argTypes ht type)
      · rename_i x hargs
        obtain ⟨hm, rfl⟩ := plain ha
        have e1 := args_of hargs
        subst e1
        obtain ⟨v', hr, hR⟩ := sliceData_run (P := P) (w := w) hm (hρ x) argTypes type
        exact shape (Builtin.unsafeSliceData_ argTypes type #[ρ' x]) (fun cs => by simp [builtin]) (.same H hr hR)
      · rename_i x n t u hargs htys
        have e1 := args_of hargs
        subst e1
        have e2 : argTypes = #[t, u] := by
          apply Array.ext'
          rw [htys]
        subst e2
        exact shape (Builtin.unsafeString_ #[t, u] type #[ρ' x, ρ' n]) (fun cs => by simp [builtin]) (unsafeStr_does hp H ha (hρ x) (hρ n) u type)
      · rename_i x l hargs
        obtain ⟨hm, rfl⟩ := plain ha
        have e1 := args_of hargs
        subst e1
        obtain ⟨v', hr, hR⟩ := min_run (P := P) (w := w) hm (hρ x) (l' := l.map ρ') ⟨by simp, fun i a b hx hy => by
          rw [List.getElem?_map] at hx hy
          cases hq : l[i]? with
          | none => rw [hq] at hx; cases hx
          | some q => rw [hq] at hx hy; injection hx with hx; injection hy with hy; subst hx hy; exact hρ q⟩
        refine shape (Builtin.min_ argTypes type ((x :: l).toArray.map ρ')) (fun cs => by simp [builtin]) (.same H ?_ hR)
        simpa [Builtin.min_] using hr
      · rename_i x l hargs
        obtain ⟨hm, rfl⟩ := plain ha
        have e1 := args_of hargs
        subst e1
        obtain ⟨v', hr, hR⟩ := max_run (P := P) (w := w) hm (hρ x) (l' := l.map ρ') ⟨by simp, fun i a b hx hy => by
          rw [List.getElem?_map] at hx hy
          cases hq : l[i]? with
          | none => rw [hq] at hx; cases hx
          | some q => rw [hq] at hx hy; injection hx with hx; injection hy with hy; subst hx hy; exact hρ q⟩
        refine shape (Builtin.max_ argTypes type ((x :: l).toArray.map ρ')) (fun cs => by simp [builtin]) (.same H ?_ hR)
        simpa [Builtin.max_] using hr
      · cases ha
  all_goals (simp [aop] at ha)
end
end Go.Proofs.YthloojeefdjpjaaGreatDoor
