/- The evaluator's appends and copies beside the machine's. -/
import Derived.Test.YthloojeefdjpjaaGreatDoorAbE
namespace Go.Proofs.YthloojeefdjpjaaGreatDoor
open Go Go.RowKit
set_option linter.unusedVariables false
set_option linter.unusedSimpArgs false

theorem bytes_length (b : ByteArray) : b.data.toList.length = b.size := by rw [Array.length_toList]; rfl
/-- What the machine finds where the evaluator found so many elements. -/
theorem news_run {P : Program} {β : Bt} {h : Hp} {w : World} (H : HR P β h w) {sz most n : Nat} {x x' : Value} {c : List Value} (hn : news_ h sz most x = some (n, c)) (hx : VR β x x') :
    (∀ W, (Builtin.lenOf x').run P W = .ok (lenV_ x) W) ∧ n = Nat.min (lenV_ x) most ∧ c.length = n * sz ∧ ∃ c' : Array Value, LR β c c'.toList ∧ ∀ W : World, W.heap = w.heap → (Builtin.firstCells sz n x').run P W = .ok c' W := by
  unfold news_ at hn
  split at hn
  · rename_i m k
    rw [hx.nilSlice_inv]
    cases m with
    | succ m => cases hn
    | zero =>
      simp only [Option.some.injEq, Prod.mk.injEq] at hn
      obtain ⟨rfl, rfl⟩ := hn
      exact ⟨fun W => rfl, (Nat.zero_min _).symm, by simp, #[], LR.nil β, fun W _ => rfl⟩
  · rename_i a m k
    obtain ⟨i, ha, hi, rfl⟩ := hx.slice_inv
    cases hl : loadCells_ h a (Nat.min m most * sz) with
    | none => rw [hl] at hn; cases hn
    | some l =>
      rw [hl] at hn
      simp only [Option.some.injEq, Prod.mk.injEq] at hn
      obtain ⟨rfl, rfl⟩ := hn
      obtain ⟨l', hr, hR, hlen⟩ := loadCells_run H hl hi
      exact ⟨fun W => rfl, rfl, hlen, l'.toArray, by simpa using hR, fun W hW => hr W hW⟩
  · simp only [Option.some.injEq, Prod.mk.injEq] at hn
    obtain ⟨rfl, rfl⟩ := hn
    cases hx with
    | noneLeft a k => exact ⟨fun W => rfl, (Nat.zero_min _).symm, by simp, #[], LR.nil β, fun W _ => by simp [Builtin.firstCells, loadCells]; rfl⟩
  · rename_i b
    rw [hx.string_inv]
    split at hn
    · rename_i l hl
      simp only [Option.some.injEq, Prod.mk.injEq] at hn
      obtain ⟨rfl, rfl⟩ := hn
      obtain ⟨h1, rfl⟩ := ltake_some hl
      refine ⟨fun W => ?_, rfl, ?_, _, LR.refl_bare ?_, fun W _ => ?_⟩
      · simp only [Builtin.lenOf, Sem.run_pure, lenV_, bytes_length]
      · simp only [List.length_map, List.length_take]; omega
      · intro v hv
        obtain ⟨u, _, rfl⟩ := List.mem_map.1 hv
        exact .int _ _
      · simp only [Builtin.firstCells, Sem.run_pure]
        congr 1
        apply Array.ext'
        simp [List.extract_eq_take_drop]
    · cases hn
  · cases hn
theorem ones_run {β : Bt} {l l' : List Value} (h : ones_ l = true) (hl : LR β l l') : ∀ v ∈ l', v.oneCell' = true := by
  intro v hv
  obtain ⟨k, hk, rfl⟩ := List.mem_iff_getElem.1 hv
  have hk' : k < l.length := by rw [hl.1]; exact hk
  exact (hl.2 k _ _ (List.getElem?_eq_getElem hk') (List.getElem?_eq_getElem hk)).one (ones_all h _ (List.getElem_mem hk'))
section
variable {P : Program} {eqs : List TypeId} (hp : P.types.size < 4000)
include hp
/-- The machine makes a new row: old elements and new ones. -/
theorem append_grows {β : Bt} {h h0 h' : Hp} {w : World} (H : HR P β h w) (H0 : HR P β h0 w) (S0 : St β h w β h0 w) {t1 t2 e : TypeId} {d2 : TypeDesc} {sz by_ n len cap' : Nat} {z : Value} {base : Option Addr} {x x' : Value} {c l : List Value} {l' : Array Value} {a : Addr}
    (hu1 : (Env.of P eqs).under t1 = some (.slice e)) (hu2 : (Env.of P eqs).under t2 = some d2) (hd2 : ∀ k, d2 ≠ .int k) (hsz : (Env.of P eqs).size e = some sz) (hby : (Env.of P eqs).bytes e = some by_) (hz : (Env.of P eqs).zero e = some z) (hzs : z.cells.toList.length = sz)
    (hn : news_ h sz (lenV_ x) x = some (n, c)) (hx : VR β x x') (hold : ∀ W : World, W.heap = w.heap → (Builtin.firstCells sz len (.slice base len cap')).run P W = .ok l' W) (hl : LR β l l'.toList) (hll : l.length = len * sz)
    (hg : cap' < len + n) (hb1 : (len + n) * by_ ≤ 140737488355328) (hb2 : len + n ≤ 9223372036854775807) (hnew : newRow_ h0 e (l ++ c) false = some (a, h')) (ty : TypeId) :
    Does P β h w (Builtin.append_ #[t1, t2] ty #[.slice base len cap', x']) (.slice (some a) (len + n) (len + n)) h' := by
  obtain ⟨hlen, hmin, hcl, c', hcR, hcr⟩ := news_run H hn hx
  have hnn : lenV_ x = n := by rw [hmin]; exact (Nat.min_self _).symm
  obtain ⟨i, hi, hib⟩ := env_bytes hp hby
  obtain ⟨i2, hi2, hisz, hcell⟩ := env_size hp hsz
  rw [hi] at hi2
  injection hi2 with hi2
  subst hi2
  let nc := grownCap w (len + n) cap' e
  have hnc : len + n ≤ nc := by show len + n ≤ grownCap w (len + n) cap' e; unfold grownCap Question.cut; exact Nat.le_add_right _ _
  have hrow : ∀ (W : World), W.heap = w.heap → HR P β h0 W := fun W hW => H0.drawn hW
  obtain ⟨β', H', S', b, rfl, hb⟩ := (hrow { w with drawn := w.drawn + 1 } rfl).row (l' := l' ++ c' ++ Builtin.zeroCells z.cells (nc - (len + n))) hnew
    (fun k u v hu hv => by
      have hLR := hl.append hcR
      refine hLR.2 k u v hu ?_
      have hk : k < (l ++ c).length := (List.getElem?_eq_some_iff.1 hu).1
      have h1 := hl.1
      have h2 := hcR.1
      simp only [Array.length_toList] at h1 h2
      rw [← Array.toList_append, Array.getElem?_toList]
      rw [List.length_append] at hk
      rw [Array.getElem?_append_left (by rw [Array.size_append]; omega)] at hv
      exact hv) (0, 0) (.inl rfl) (nc - (len + n)) (fun h => by cases h)
    (by
      have h1 := hl.1
      have h2 := hcR.1
      simp only [Array.length_toList] at h1 h2
      have h3 : z.cells.size = sz := by simpa using hzs
      simp only [List.length_append, Array.size_append, Builtin.zeroCells, Array.size_map, Array.size_range, hcell, h3]
      omega) e rfl (fun h => by cases h)
  refine ⟨.slice (some ⟨w.heap.size, 0, none⟩) (len + n) nc, _, β', ?_, H', S0.trans ((St.drawn (w := w) (w' := { w with drawn := w.drawn + 1 }) rfl rfl rfl rfl).trans S'), ?_⟩
  · have hfit := growslice_fits (old := cap') (bytes := by_) hg hb1
    have t1 : ¬ (len + n ≤ cap') := by omega
    have t2 : ¬ (((len + n : Nat) : Int) > IntKind.i64.max ∧ i.bytes = 0) := by
      rintro ⟨h1, _⟩
      simp only [IntKind.max, IntKind.signed, IntKind.bits] at h1
      simp at h1
      omega
    have t3 : ¬ (Builtin.nextslicecap (len + n) cap' * i.bytes > 2 ^ 48) := by rw [hib]; omega
    have hq := hcr { w with drawn := w.drawn + 1 } rfl
    have ho := hold { w with drawn := w.drawn + 1 } rfl
    have hz3 := run_zero hp hz
    have hu3 := run_under hp hu2 w
    cases d2 <;> first | exact absurd rfl (hd2 _) | (
      unfold Builtin.append_
      simp only [List.getElem?_toArray, List.getElem?_cons_zero, List.getElem?_cons_succ, Sem.run_bind, Sem.run_pure, run_under hp hu1, hu3, Result.andThen_ok, run_size hp hsz, Bool.false_eq_true, if_false, hlen, hnn, t1, run_typeInfo w hi, run_typeInfo { w with drawn := w.drawn + 1 } hi, t2, t3, run_choose, Question.forced, run_askRoom, ho, Bool.not_false, if_true, hq, hz3, false_or]
      rfl)
  · have := VR.slice 0 (len + n) (len + n) hb
    rw [Nat.zero_add, show (len + n) + (nc - (len + n)) = nc from by omega] at this
    exact this
/-- What is put behind the last element lies in the same row. -/
theorem append_here {β : Bt} {h h' : Hp} {w w' : World} (H : HR P β h w) {t1 t2 e : TypeId} {d2 : TypeDesc} {sz n len cap' : Nat} {ad : Addr} {x x' : Value} {c : List Value}
    (hu1 : (Env.of P eqs).under t1 = some (.slice e)) (hu2 : (Env.of P eqs).under t2 = some d2) (hd2 : ∀ k, d2 ≠ .int k) (hsz : (Env.of P eqs).size e = some sz)
    (hn : news_ h sz (lenV_ x) x = some (n, c)) (hx : VR β x x') (hg : len + n ≤ cap') (ty : TypeId)
    (hst : ∀ c' : Array Value, LR β c c'.toList → (∀ W : World, W.heap = w.heap → (Builtin.firstCells sz n x').run P W = .ok c' W) → (storeCells (ad.add (len * sz)) c'.toList).run P w = .ok () w') :
    (Builtin.append_ #[t1, t2] ty #[.slice (some ad) len cap', x']).run P w = .ok (.slice (some ad) (len + n) cap') w' := by
  obtain ⟨hlen, hmin, hcl, c', hcR, hcr⟩ := news_run H hn hx
  have hnn : lenV_ x = n := by rw [hmin]; exact (Nat.min_self _).symm
  have hs := hst c' hcR hcr
  have hq := hcr w rfl
  have hu3 := run_under hp hu2 w
  cases d2 <;> first | exact absurd rfl (hd2 _) | (
    unfold Builtin.append_
    simp only [List.getElem?_toArray, List.getElem?_cons_zero, List.getElem?_cons_succ, Sem.run_bind, Sem.run_pure, run_under hp hu1, hu3, Result.andThen_ok, run_size hp hsz, Bool.false_eq_true, if_false, hlen, hnn, hg, Bool.not_false, if_true, hq, hs])
theorem copy_does {β : Bt} {h h' : Hp} {w : World} (H : HR P β h w) {t : TypeId} {d s d' s' v : Value} (hc : copy_ (Env.of P eqs) t d s h = some (v, h')) (hd : VR β d d') (hs : VR β s s') (ts : Array TypeId) (ty : TypeId) (ht : ts[0]? = some t) : Does P β h w (Builtin.copy_ ts ty #[d', s']) v h' := by
  unfold copy_ at hc
  split at hc
  · rename_i e base len cap hu
    cases hsz : (Env.of P eqs).size e with
    | none => rw [hsz] at hc; cases hc
    | some sz =>
      rw [hsz] at hc
      simp only at hc
      have hd1 : ∃ base' cap', d' = .slice base' len cap' ∧ ((base = none ∧ base' = none) ∨ ∃ a i, base = some a ∧ β a.block = some i ∧ base' = some ⟨i.blk, i.off + a.off, none⟩) := by
        cases base with
        | none => exact ⟨none, cap, hd.nilSlice_inv, .inl ⟨rfl, rfl⟩⟩
        | some a => obtain ⟨i, _, hi, rfl⟩ := hd.slice_inv; exact ⟨_, _, rfl, .inr ⟨a, i, rfl, hi, rfl⟩⟩
      obtain ⟨base', cap', rfl, hbase⟩ := hd1
      split at hc
      · rename_i c _ _ hn
        simp only [Option.some.injEq, Prod.mk.injEq] at hc
        obtain ⟨rfl, rfl⟩ := hc
        obtain ⟨hlen, hmin, hcl, c', hcR, hcr⟩ := news_run H hn hs
        have hq := hcr w rfl
        have h0 : c'.toList = [] := by
          have h1 := hcR.1
          rw [hcl, Nat.zero_mul] at h1
          exact List.eq_nil_of_length_eq_zero h1.symm
        refine .same H (v' := goNat 0) ?_ (.int _ _)
        unfold Builtin.copy_
        simp only [ht, List.getElem?_toArray, List.getElem?_cons_zero, List.getElem?_cons_succ, Sem.run_bind, run_under hp hu, Result.andThen_ok, hlen, run_size hp hsz, ← hmin, hq, h0]
        cases base' <;> simp [storeCells, goInt, goNat]
      · rename_i n c a hn
        rcases hbase with ⟨h1, _⟩ | ⟨a2, i, h1, hi, rfl⟩
        · cases h1
        · injection h1 with h1
          subst h1
          cases hst : storeCells_ h a c with
          | none => rw [hst] at hc; cases hc
          | some h2 =>
            rw [hst] at hc
            simp only [Option.some.injEq, Prod.mk.injEq] at hc
            obtain ⟨rfl, rfl⟩ := hc
            obtain ⟨hlen, hmin, hcl, c', hcR, hcr⟩ := news_run H hn hs
            have hq := hcr w rfl
            obtain ⟨w', hr, H', S'⟩ := storeCells_run H hst hi hcR
            refine ⟨goNat (n + 1), w', β, ?_, H', S', .int _ _⟩
            unfold Builtin.copy_
            simp only [ht, List.getElem?_toArray, List.getElem?_cons_zero, List.getElem?_cons_succ, Sem.run_bind, run_under hp hu, Result.andThen_ok, hlen, run_size hp hsz, ← hmin, hq, hr, Sem.run_pure]
            rfl
      · cases hc
  · cases hc
end
end Go.Proofs.YthloojeefdjpjaaGreatDoor
