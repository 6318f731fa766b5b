/- The package-level variables that are laid, in the evaluator's first heap. -/
import Derived.Test.YthloojeefdjpjaaGreatDoorAbProg
import Derived.OpenShut
namespace Go.Proofs.YthloojeefdjpjaaGreatDoor
open Go Go.RowKit
set_option linter.unusedVariables false
set_option linter.unusedSimpArgs false
/-- the one cell that a datum is; of an interface value and of a pointer nothing is said -/
def litV : DataW Unit → Option Value
  | .lit (.int k n) => some (.int k n)
  | .lit (.bool b) => some (.bool b)
  | .lit (.string s) => some (.string ⟨⟨s⟩⟩)
  | .iface _ _ => some lost
  | .ptr _ => some lost
  | _ => none
def litVs : List (DataW Unit) → Option (List Value)
  | [] => some []
  | d :: l => match litV d, litVs l with
    | some v, some r => some (v :: r)
    | _, _ => none
def laidCells (P : Program) (t : Option TypeId) (d : DataW Unit) : Option (List Value) :=
  match d with
  | .agg ds => match t with
    | some t => match P.underlying t with
      | some (.array _ e) => bif Nat.beq (P.cellsOf e) 1 then litVs ds else none
      | _ => none
    | none => none
  | d => match litV d with | some v => some [v] | none => none
section
variable {P : Program} {w : World} {base : Nat} {spare : Nat → Bool} {β : Bt}
theorem lit_trod {fuel : Nat} {t : TypeId} {cs : List Value} {d : DataW Unit} {p : List MemPlace} (h : DataW.trod (fun _ => ()) P w base spare false fuel t cs = some (d, p)) {v : Value} (hv : litV d = some v) : ∃ u, cs = [u] ∧ VR β v u := by
  cases fuel with
  | zero => simp [DataW.trod] at h
  | succ m =>
    unfold DataW.trod at h
    split at h
    all_goals try (simp at h; done)
    · simp only [Option.some.injEq, Prod.mk.injEq] at h; obtain ⟨rfl, _⟩ := h
      cases hv; exact ⟨_, rfl, .bool _⟩
    · split at h
      · rename_i hk; obtain ⟨rfl, _⟩ := hk
        simp only [Option.some.injEq, Prod.mk.injEq] at h; obtain ⟨rfl, _⟩ := h
        cases hv; exact ⟨_, rfl, .int _ _⟩
      · cases h
    · split at h
      · simp only [Option.some.injEq, Prod.mk.injEq] at h; obtain ⟨rfl, _⟩ := h
        cases hv
      · cases h
    · split at h
      · simp only [Option.some.injEq, Prod.mk.injEq] at h; obtain ⟨rfl, _⟩ := h
        cases hv; exact ⟨_, rfl, .string _⟩
      · cases h
    · simp only [Option.some.injEq, Prod.mk.injEq] at h; obtain ⟨rfl, _⟩ := h
      cases hv
    · obtain ⟨x, _, hx⟩ := Option.map_eq_some_iff.1 h
      simp only [Prod.mk.injEq] at hx; obtain ⟨rfl, _⟩ := hx
      cases hv; exact ⟨_, rfl, .lost _ rfl⟩
    · simp only [Option.some.injEq, Prod.mk.injEq] at h; obtain ⟨rfl, _⟩ := h
      cases hv
    · dsimp only at h
      split at h
      · obtain ⟨x, _, hx⟩ := Option.bind_eq_some_iff.1 h
        obtain ⟨y, _, hy⟩ := Option.map_eq_some_iff.1 hx
        simp only [Prod.mk.injEq] at hy; obtain ⟨rfl, _⟩ := hy
        cases hv
      · cases h
    · split at h
      · obtain ⟨x, _, hx⟩ := Option.map_eq_some_iff.1 h
        simp only [Prod.mk.injEq] at hx; obtain ⟨rfl, _⟩ := hx
        cases hv
      · cases h
    · split at h
      · obtain ⟨x, _, hx⟩ := Option.map_eq_some_iff.1 h
        simp only [Prod.mk.injEq] at hx; obtain ⟨rfl, _⟩ := hx
        cases hv
      · cases h
    · simp only [Option.some.injEq, Prod.mk.injEq] at h; obtain ⟨rfl, _⟩ := h
      cases hv
    · split at h
      · rename_i hh; cases hh
      · obtain ⟨x, _, hx⟩ := Option.map_eq_some_iff.1 h
        simp only [Prod.mk.injEq] at hx; obtain ⟨rfl, _⟩ := hx
        cases hv; exact ⟨_, rfl, .lost _ rfl⟩
      · cases h
    · simp only [Option.some.injEq, Prod.mk.injEq] at h; obtain ⟨rfl, _⟩ := h
      cases hv
    · split at h
      · split at h
        · obtain ⟨x, _, hx⟩ := Option.bind_eq_some_iff.1 h
          dsimp only at hx
          split at hx
          · simp only [Option.some.injEq, Prod.mk.injEq] at hx; obtain ⟨rfl, _⟩ := hx
            cases hv
          · cases hx
        · cases h
      · cases h
    all_goals (simp only [Option.some.injEq, Prod.mk.injEq] at h; obtain ⟨rfl, _⟩ := h; cases hv)
theorem litVs_at : ∀ {ds : List (DataW Unit)} {c : List Value}, litVs ds = some c → c.length = ds.length ∧ ∀ (k : Nat) (d : DataW Unit), ds[k]? = some d → ∃ v, c[k]? = some v ∧ litV d = some v := by
  intro ds
  induction ds with
  | nil => intro c h; cases h; exact ⟨rfl, fun k d h => by simp at h⟩
  | cons d l ih =>
    intro c h
    simp only [litVs] at h
    split at h
    · rename_i v r hv hr
      cases h
      obtain ⟨h1, h2⟩ := ih hr
      refine ⟨by simp [h1], fun k e hk => ?_⟩
      cases k with
      | zero => simp only [List.getElem?_cons_zero, Option.some.injEq] at hk; subst hk; exact ⟨v, rfl, hv⟩
      | succ k => exact h2 k e (by simpa using hk)
    · cases h
theorem one_cut {cs : List Value} {i : Nat} {u : Value} (h : (cs.drop i).take 1 = [u]) : cs[i]? = some u := by
  have : ((cs.drop i).take 1)[0]? = some u := by rw [h]; rfl
  simpa [List.getElem?_take, List.getElem?_drop] using this
theorem cells_trod {fuel : Nat} {t : TypeId} {cs : List Value} {d : DataW Unit} {p : List MemPlace} (h : DataW.trod (fun _ => ()) P w base spare false fuel t cs = some (d, p)) {c : List Value} (hc : laidCells P (some t) d = some c) :
    c.length ≤ cs.length ∧ ∀ (k : Nat) (x y : Value), c[k]? = some x → cs[k]? = some y → VR β x y := by
  have one : ∀ v, litV d = some v → c = [v] → c.length ≤ cs.length ∧ ∀ (k : Nat) (x y : Value), c[k]? = some x → cs[k]? = some y → VR β x y := by
    rintro v hv rfl
    obtain ⟨u, rfl, hu⟩ := lit_trod (β := β) h hv
    refine ⟨Nat.le_refl _, fun k x y hx hy => ?_⟩
    cases k with
    | zero => simp only [List.getElem?_cons_zero, Option.some.injEq] at hx hy; subst hx hy; exact hu
    | succ k => simp at hx
  unfold laidCells at hc
  split at hc
  · rename_i ds
    split at hc
    · rename_i t' ht
      cases ht
      split at hc
      · rename_i n e hu
        cases he : Nat.beq (P.cellsOf e) 1 with
        | false => rw [he] at hc; cases hc
        | true =>
          rw [he, cond_true] at hc
          have he1 := Nat.eq_of_beq_eq_true he
          obtain ⟨xs, m, _, hx, _, hn, hi⟩ := DataW.trod_array hu h
          simp only [Prod.mk.injEq, DataW.agg.injEq] at hx
          obtain ⟨rfl, _⟩ := hx
          obtain ⟨hl, hat⟩ := litVs_at hc
          have key : ∀ k, k < n → ∃ v u, c[k]? = some v ∧ cs[k]? = some u ∧ VR β v u := fun k hk => by
            have h1 := hi k hk
            have hxk : xs[k]? = some (xs[k]'(by omega)) := List.getElem?_eq_getElem (by omega)
            obtain ⟨v, hv, hv2⟩ := hat k (xs[k]'(by omega)).1 (by simp [hxk])
            rw [hxk, he1, Nat.mul_one] at h1
            obtain ⟨u, hu1, hu2⟩ := lit_trod (β := β) h1 hv2
            exact ⟨v, u, hv, one_cut hu1, hu2⟩
          have hcn : c.length = n := by rw [hl, List.length_map]; exact hn
          refine ⟨?_, fun k x y hx hy => ?_⟩
          · rcases Nat.eq_zero_or_pos n with h0 | h0
            · omega
            · obtain ⟨v, u, _, hu2, _⟩ := key (n - 1) (by omega)
              have := (List.getElem?_eq_some_iff.1 hu2).1
              omega
          · have hk : k < n := by have := (List.getElem?_eq_some_iff.1 hx).1; omega
            obtain ⟨v, u, h1, h2, h3⟩ := key k hk
            rw [h1] at hx; rw [h2] at hy; cases hx; cases hy; exact h3
      · cases hc
    · cases hc
  · split at hc
    · rename_i v hv
      cases hc
      exact one v hv rfl
    · cases hc
end
def laidGs (P : Program) : List (String × DataW Unit) → List (Nat × List Value)
  | [] => []
  | (n, d) :: l => match P.globalNamed n with
    | some g => match laidCells P ((P.globals[g]?).map (·.type)) d with
      | some c => (g, c) :: laidGs P l
      | none => laidGs P l
    | none => laidGs P l
def gsTr : List (Nat × List Value) → Tr Blk
  | [] => .nil
  | (g, c) :: l => (gsTr l).set 24 g (.cells c 0 false true)
theorem laidGs_ok {P : Program} {w : World} {β : Bt} : ∀ {laid : List (String × DataW Unit)} {ps : List MemPlace}, DataW.LaidVars P w laid ps → ∀ {g : Nat} {c : List Value}, (g, c) ∈ laidGs P laid →
    g < P.globals.size ∧ ∃ cc t fr, w.heap[g]? = some (.cells cc t fr) ∧ c.length ≤ cc.size ∧ ∀ (k : Nat) (x y : Value), c[k]? = some x → cc[k]? = some y → VR β x y := by
  intro laid
  induction laid with
  | nil => intro ps _ g c h; cases h
  | cons nd l ih =>
    obtain ⟨n, d⟩ := nd
    intro ps h g c hm
    obtain ⟨g', t, cs, fuel, p, q, hg, ht, hv, htr, hr, _⟩ := h
    simp only [laidGs, hg, ht] at hm
    split at hm
    · rename_i c' hc
      rcases List.mem_cons.1 hm with he | hm
      · cases he
        obtain ⟨h1, h2⟩ := cells_trod (β := β) htr hc
        have hlt : g < P.globals.size := by
          cases hq : P.globals[g]? with
          | none => rw [hq] at ht; cases ht
          | some _ => exact (Array.getElem?_eq_some_iff.1 hq).1
        refine ⟨hlt, ?_⟩
        unfold World.var? at hv
        rw [hg] at hv
        simp only [Option.bind_some] at hv
        split at hv
        · rename_i cc t fr hh
          cases hv
          exact ⟨cs, t, fr, hh, by simpa using h1, fun k x y a b => h2 k x y a (by simpa using b)⟩
        · cases hv
      · exact ih hr hm
    · exact ih hr hm
theorem gsTr_get : ∀ {l : List (Nat × List Value)}, (∀ g c, (g, c) ∈ l → g < 9223372036854775808) → ∀ {b : Nat} {x : Blk}, (gsTr l).get b = some x → ∃ c, (b, c) ∈ l ∧ x = .cells c 0 false true := by
  intro l
  induction l with
  | nil => intro _ b x h; cases h
  | cons gc l ih =>
    obtain ⟨g, c⟩ := gc
    intro hl b x h
    have hg := hl g c (by simp)
    simp only [gsTr] at h
    rw [Tr.get_set _ _ _ _ _ (by omega)] at h
    split at h
    · rename_i e; subst e; cases h; exact ⟨c, by simp, rfl⟩
    · obtain ⟨c', h1, h2⟩ := ih (fun g c hm => hl g c (by simp [hm])) h
      exact ⟨c', by simp [h1], h2⟩
theorem laid_hr {P : Program} {w : World} {laid : List (String × DataW Unit)} {ps : List MemPlace} (hn : P.globals.size ≤ 9223372036854775808) (h : DataW.LaidVars P w laid ps) : HR P (globB P.globals.size) ⟨P.globals.size, gsTr (laidGs P laid)⟩ w := by
  have hsm : ∀ g c, (g, c) ∈ laidGs P laid → g < 9223372036854775808 := fun g c hm => by
    have := (laidGs_ok (β := globB P.globals.size) h hm).1
    omega
  refine ⟨hn, fun b i h => ?_, fun b x hx => ?_, fun b x i hx hi => ?_, fun b b' i i' x y hx _ _ _ _ hm => ?_⟩
  · unfold globB at h
    split at h
    · assumption
    · cases h
  · obtain ⟨c, hm, rfl⟩ := gsTr_get hsm hx
    exact ⟨⟨b, 0, 0⟩, if_pos (laidGs_ok (β := globB P.globals.size) h hm).1⟩
  · obtain ⟨c, hm, rfl⟩ := gsTr_get hsm hx
    obtain ⟨hlt, cc, t, fr, h1, h2, h3⟩ := laidGs_ok (β := globB P.globals.size) h hm
    obtain rfl : i = ⟨b, 0, 0⟩ := by
      have : globB P.globals.size b = some ⟨b, 0, 0⟩ := if_pos hlt
      rw [this] at hi; cases hi; rfl
    exact .inr ⟨cc, t, fr, h1, by simpa using h2, fun k x y a b => h3 k x y a (by simpa using b), fun e => (by cases e), fun e => by cases e⟩
  · obtain ⟨c, _, rfl⟩ := gsTr_get hsm hx
    cases hm
theorem laid_st {P : Program} {w w' : World} {laid : List (String × DataW Unit)} {ps : List MemPlace} {n : Nat} {β : Bt} {h : Hp} (hn : P.globals.size ≤ 9223372036854775808) (hl : DataW.LaidVars P w laid ps) (s : St (globB n) ⟨n, gsTr (laidGs P laid)⟩ w β h w') : Below w.heap.size w w' :=
  ⟨s.os, s.tape, s.output, s.size, fun k hk => s.keep k hk (by
    rintro ⟨b, i, x, hx, hm, _⟩
    obtain ⟨c, _, rfl⟩ := gsTr_get (fun g c hm => by have := (laidGs_ok (β := globB P.globals.size) hl hm).1; omega) hx
    cases hm)⟩
/-- Some of the variables alone. -/
theorem laidVars_some {P : Program} {w : World} (q : String × DataW Unit → Bool) : ∀ {laid : List (String × DataW Unit)} {ps : List MemPlace}, DataW.LaidVars P w laid ps → ∃ ps', DataW.LaidVars P w (laid.filter q) ps' := by
  intro laid
  induction laid with
  | nil => intro ps h; exact ⟨ps, h⟩
  | cons nd l ih =>
    obtain ⟨n, d⟩ := nd
    intro ps h
    obtain ⟨g, t, cs, fuel, p, r, h1, h2, h3, h4, h5, h6⟩ := h
    obtain ⟨ps', h7⟩ := ih h5
    cases hq : q (n, d) with
    | true =>
      rw [List.filter_cons_of_pos hq]
      exact ⟨_, g, t, cs, fuel, p, ps', h1, h2, h3, h4, h7, rfl⟩
    | false =>
      rw [List.filter_cons_of_neg (by simp [hq])]
      exact ⟨ps', h7⟩
/-- Where the evaluator, over the laid variables, answers true, the machine does. -/
theorem laid_true {sp : Sp} (hsp : CallOk Tryz.prog (spCall sp) Tryz.prog.globals.size) {laid : List (String × DataW Unit)} {gs : List (Nat × List Value)} (hgs : laidGs Tryz.prog laid = gs) {n : Nat} {f : FuncId} {args args' : List Value}
    (hr : saysTrue (answer env sp n f args ⟨Tryz.prog.globals.size, gsTr gs⟩) = true) (hl : LR (globB Tryz.prog.globals.size) args args') (w : World) (hL : ∃ ps, DataW.LaidVars Tryz.prog w laid ps) :
    Calls Tryz.prog f args'.toArray w fun e w' => e = .returned (.bool true) ∧ Below w.heap.size w w' := by
  subst hgs
  obtain ⟨ps, hps⟩ := hL
  unfold env at hr
  obtain ⟨h2, h⟩ := saysTrue_some hr
  refine (answer_calls (P := Tryz.prog) (eqs := eqList) (sp := sp) (f := f) (n := n) (h2 := h2) prog_types prog_eqs prog_guards prog_mix prog_funcs prog_names (by with_reducible exact hsp) h hl (laid_hr prog_globals hps) (fun g hg => if_pos hg)).mono ?_
  rintro en w2 ⟨v', β2, rfl, _, S, hR⟩
  exact ⟨by rw [hR.bool_inv], laid_st prog_globals hps S⟩
end Go.Proofs.YthloojeefdjpjaaGreatDoor
