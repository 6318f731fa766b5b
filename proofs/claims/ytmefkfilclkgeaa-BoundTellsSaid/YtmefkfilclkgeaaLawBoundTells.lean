/- Of any options, any map and any size, the sectors, the acts and the steps are the document's: the call returns true at every input. -/
import Derived.Test.YtmefkfilclkgeaaBndI
import Derived.Test.YtmefkfilclkgeaaBndJ
import Derived.Test.YtmefkfilclkgeaaLawBoundRuns
import Derived.Deep.Slices
import Derived.Deep.Fields
import Derived.ChangeSame
import Derived.Carry
import Derived.Lib.SmallJoins
import Derived.OpenShut
namespace Go.Proofs.Ytmefkfilclkgeaa.boundTells
open Go.ChangeShapes Go.WideShapes Go.ChangeAt Go.RowKit Go.Deep Go.Joins
open Go.Proofs.Ytmefkfilclkgeaa.bound
set_option linter.unusedVariables false
section
variable {H : Type} {enc : TypeId × Value → H} {P : Program} {w : World} {base : Nat} {spare : Nat → Bool} {held : Bool}
theorem open_slice_fields {t e : TypeId} {fs : Array Field} {fuel : Nat} {cs : List Value} {x : DataW H × List MemPlace} (ht : P.underlying t = some (.slice e)) (he : P.underlying e = some (.struct fs))
    (hone : oneCellFields P fs = true) (hC : P.cellsOf e = fs.size) (h : DataW.trod enc P w base spare held fuel t cs = some x) :
    (cs = [.slice none 0 0] ∧ x = (.nil, [])) ∨
    ∃ (a : Addr) (len cap m : Nat) (D : Nat → DataW H) (Pl : Nat → List MemPlace), cs = [.slice (some a) len cap] ∧ base ≤ a.block ∧ len ≤ cap ∧ cap ≤ maxLen ∧ m = (if spare a.block then cap else len) ∧
      x = (.slice ((List.range len).map D) ((List.range (m - len)).map fun j => D (len + j)), MemPlace.row a (m * fs.size) ++ (List.range m).flatMap Pl) ∧
      ∀ i, i < m → ∃ (ys : List (DataW H × List MemPlace)) (n : Nat), D i = .agg (ys.map (·.1)) ∧ Pl i = ys.flatMap (·.2) ∧ ys.length = fs.size ∧
        ∀ (j : Nat) (f : Field), fs[j]? = some f → ∃ (v : Value) (y : DataW H × List MemPlace), w.cell? (a.add (i * fs.size + j)) = some v ∧ ys[j]? = some y ∧ DataW.trod enc P w base spare held n f.type [v] = some y := by
  rcases open_slice ht h with h0 | ⟨a, len, cap, m, n, D, Pl, hcs, hb, hl, hm, hmm, hx, hi⟩
  · exact .inl h0
  · refine .inr ⟨a, len, cap, m, D, Pl, hcs, hb, hl, hm, hmm, by rw [hC] at hx; exact hx, fun i him => ?_⟩
    obtain ⟨cs', hc, ht'⟩ := hi i him
    rw [hC] at hc
    obtain ⟨ys, n', hn', hy, hlen, hyl, hf⟩ := DataW.trod_struct he ht'
    obtain ⟨_, hcl, hat⟩ := World.cells?_some hc
    simp only [Prod.mk.injEq] at hy
    refine ⟨ys, n', hy.1, hy.2, hyl, fun j f hj => ?_⟩
    obtain ⟨ho, hk⟩ := hone_of hone j f hj
    have hjl : j < fs.size := (Array.getElem?_eq_some_iff.1 hj).1
    have hcell := hat j hjl
    have hv : cs'[j]? = some (cs'[j]'(by omega)) := List.getElem?_eq_getElem (by omega)
    have h1 := hf j f hj
    rw [ho, hk] at h1
    have hone' : (cs'.drop j).take 1 = [cs'[j]'(by omega)] := by
      rw [List.drop_eq_getElem_cons (by omega)]
      rfl
    rw [hone'] at h1
    have hys : ys[j]? = some (ys[j]'(by omega)) := List.getElem?_eq_getElem (by omega)
    refine ⟨_, _, ?_, hys, h1.trans hys⟩
    rw [← Go.Deep.add_add, hcell, hv]
end

/-- one region's three cells -/
def At3 (w : World) (b o k : Nat) (r : Rg) : Prop :=
  (w.cell? ⟨b, o + k * 3, none⟩ = some (.int .i64 r.1) ∧ w.cell? ⟨b, o + k * 3 + 1, none⟩ = some (.int .i64 r.2.1) ∧ w.cell? ⟨b, o + k * 3 + 2, none⟩ = some (.int .u8 r.2.2)) ∧
  ((-9223372036854775808 ≤ r.1 ∧ r.1 ≤ 9223372036854775807) ∧ (-9223372036854775808 ≤ r.2.1 ∧ r.2.1 ≤ 9223372036854775807) ∧ 0 ≤ r.2.2 ∧ r.2.2 ≤ 255)
theorem cells_of {w : World} {b o len : Nat} (h : ∀ k, k < len → ∃ r : Rg, At3 w b o k r) : ∃ l : List Rg, l.length = len ∧ Cells w b o l := by
  have h' : ∀ k, ∃ r : Rg, k < len → At3 w b o k r := fun k => by
    by_cases hk : k < len
    · obtain ⟨r, hr⟩ := h k hk
      exact ⟨r, fun _ => hr⟩
    · exact ⟨(0, 0, 0), fun hk' => absurd hk' hk⟩
  obtain ⟨g, hg⟩ := Classical.axiomOfChoice h'
  have hl : ((List.range len).map g).length = len := by simp
  have hgd : ∀ k, k < len → ((List.range len).map g).getD k (0, 0, 0) = g k := fun k hk => by
    simp [List.getD_eq_getElem?_getD, hk]
  refine ⟨(List.range len).map g, hl, ?_, ?_⟩
  · intro k hk
    rw [hl] at hk
    unfold posI sizeI statI
    rw [hgd k hk]
    exact (hg k hk).1
  · intro k hk
    rw [hl] at hk
    unfold posI sizeI statI
    rw [hgd k hk]
    exact (hg k hk).2
theorem cell_at {w : World} {a : Addr} {v : Value} (h : w.cell? a = some v) : a.block < w.heap.size ∧ a.spot = none := by
  unfold World.cell? at h
  split at h
  · rename_i c e1 e2 he
    have hb := (Array.getElem?_eq_some_iff.1 he).1
    refine ⟨hb, ?_⟩
    cases hs : a.spot with
    | none => rfl
    | some x => simp [hs] at h
  · simp at h
theorem wf_in64 {n : Int} (h : (Lit.int .i64 n).wf = true) : -9223372036854775808 ≤ n ∧ n ≤ 9223372036854775807 := by
  simp [Lit.wf, IntKind.min, IntKind.max, IntKind.signed, IntKind.bits] at h
  omega
theorem wf_in8 {n : Int} (h : (Lit.int .u8 n).wf = true) : 0 ≤ n ∧ n ≤ 255 := by
  simp [Lit.wf, IntKind.min, IntKind.max, IntKind.signed, IntKind.bits] at h
  omega

/-- the slice that comes in, opened -/
theorem open_regs {H : Type} {enc : TypeId × Value → H} {w : World} {base : Nat} {spare : Nat → Bool} {held : Bool} {fuel : Nat} {v : Value} {x : DataW H × List MemPlace} (h : DataW.trod enc Try.prog w base spare held fuel 35 [v] = some x) :
    ∃ (a : Option Addr) (len cap : Nat), v = .slice a len cap ∧ ∃ l : List Rg, l.length = len ∧ Regs w a l := by
  rcases open_slice_fields Try.underlying35 Try.underlying70 (by kernel_rfl) (by kernel_rfl) h with ⟨hcs, _⟩ | ⟨a, len, cap, m, D, Pl, hcs, _, hle, _, hm, _, hi⟩
  · obtain rfl : v = .slice none 0 0 := by simpa using hcs
    exact ⟨none, 0, 0, rfl, [], rfl, .inl rfl⟩
  · obtain rfl : v = .slice (some a) len cap := by simpa using hcs
    refine ⟨some a, len, cap, rfl, ?_⟩
    have hlm : len ≤ m := by rw [hm]; split <;> omega
    have hcell : ∀ k, k < len → ∃ r : Rg, (w.cell? (a.add (k * 3)) = some (.int .i64 r.1) ∧ w.cell? (a.add (k * 3 + 1)) = some (.int .i64 r.2.1) ∧ w.cell? (a.add (k * 3 + 2)) = some (.int .u8 r.2.2)) ∧
        ((-9223372036854775808 ≤ r.1 ∧ r.1 ≤ 9223372036854775807) ∧ (-9223372036854775808 ≤ r.2.1 ∧ r.2.1 ≤ 9223372036854775807) ∧ 0 ≤ r.2.2 ∧ r.2.2 ≤ 255) := fun k hk => by
      obtain ⟨ys, n, _, _, _, hf⟩ := hi k (by omega)
      obtain ⟨v0, y0, c0, _, t0⟩ := hf 0 _ rfl
      obtain ⟨v1, y1, c1, _, t1⟩ := hf 1 _ rfl
      obtain ⟨v2, y2, c2, _, t2⟩ := hf 2 _ rfl
      obtain ⟨z0, e0, _, w0⟩ := DataW.trod_int Try.underlying3 t0
      obtain ⟨z1, e1, _, w1⟩ := DataW.trod_int Try.underlying3 t1
      obtain ⟨z2, e2, _, w2⟩ := DataW.trod_int Try.underlying5 t2
      obtain rfl : v0 = .int .i64 z0 := by simpa using e0
      obtain rfl : v1 = .int .i64 z1 := by simpa using e1
      obtain rfl : v2 = .int .u8 z2 := by simpa using e2
      exact ⟨(z0, z1, z2), ⟨c0, c1, c2⟩, wf_in64 w0, wf_in64 w1, wf_in8 w2⟩
    by_cases h0 : len = 0
    · subst h0
      exact ⟨[], rfl, .inl rfl⟩
    · obtain ⟨r, ⟨hc, _⟩, _⟩ := hcell 0 (by omega)
      obtain ⟨hb, hs⟩ := cell_at hc
      obtain ⟨b, o, s⟩ := a
      obtain rfl : s = none := hs
      obtain ⟨l, hl, hC⟩ := cells_of (w := w) (b := b) (o := o) (len := len) (fun k hk => by
        obtain ⟨r, ⟨h1, h2, h3⟩, h4⟩ := hcell k hk
        rw [add_plain] at h1 h2 h3
        exact ⟨r, ⟨h1, h2, h3⟩, h4⟩)
      exact ⟨l, hl, .inr ⟨b, o, rfl, hb, hC⟩⟩

theorem walk (c r pos pass st size : Int) (bk : Bool) (a : Option Addr) (cap : Nat) (l : List Rg) (w : World) (h : Regs w a l) :
    Calls Try.prog 8 #[.agg #[.int .i64 c, .int .i64 r, .bool bk], .agg #[.int .i64 pos, .int .i64 pass, .int .u8 st, .slice a l.length cap], .int .i64 size] w fun e w' => e = .returned (.bool true) ∧ Below w.heap.size w w' := by
  by_cases hn : l.length ≤ 80
  · exact tells_few c r pos pass st size (sectorsI size) (actsI c r pos pass st l) (stepsI c r pos pass st l) bk a l.length cap l (fun w => few_yes a l.length cap hn w)
      (fun w => sectors_walk size w) (fun w => rsectors_walk size w) (fun w h => acts_walk c r pos pass st bk a cap l hn w h) (fun w h => racts_walk c r pos pass st bk a cap l hn w h)
      (fun w h => steps_walk c r pos pass st bk a cap l hn w h) (fun w h => rsteps_walk c r pos pass st bk a cap l hn w h) (fun w => boundRuns.walk w) w h
  · exact tells_many c r pos pass st size bk a l.length cap l (fun w => few_no a l.length cap (by omega) w) (fun w => boundRuns.walk w) w h

theorem laidOut : laidOutB Try.prog = true := by kernel_rfl
set_option maxRecDepth 100000 in
theorem lifted (os : Os) (started : os.Started) (H : Type) (enc : TypeId × Value → H) :
    ReturnsInHanded {} Try.checked os 8 .any (Rows.boundTellsSpec.pre6 enc Try.prog Try.f8 Rows.boundTellsRow.domain false) (Rows.boundTellsSpec.post enc Try.prog Try.f8 false true false false) := by
  refine returnsInHanded_of_change (C := Try.checked) boundRuns.own started (by kernel_rfl) Try.func8
    (ChangeSpec.witness6 (enc := enc) (C := Try.checked) false ⟨#[], #[.agg #[.int .i64 0, .int .i64 0, .bool false], .agg #[.int .i64 0, .int .i64 0, .int .u8 0, .slice none 0 0], .int .i64 0], []⟩ 8 (by kernel_rfl) (by kernel_rfl) (by kernel_rfl) (by kernel_rfl)) ?_
  intro W base args ds gs before hval0 hW hcnd _
  have hval : ∀ (j : Nat) t v, Try.f8.params[j]? = some t → args[j]? = some v → Value.okWide Try.prog W .any base t v := hval0
  have hW' := hW
  obtain ⟨p, q, hA0, hV, rfl, hfz, hnd⟩ := hW
  have hA : DataW.TrodAll enc Try.prog W 0 (fun _ => true) true Try.f8.params.toList args.toList ds p := hA0
  rw [Try.params8] at hA hval
  obtain ⟨v0, vs0, d0, ds0, p0, q0, hargs, rfl, rfl, h0, r0⟩ := trodAll_cons hA
  obtain ⟨v1, vs1, d1, ds1, p1, q1, rfl, rfl, rfl, h1, r1⟩ := trodAll_cons r0
  obtain ⟨v2, vs2, d2, ds2, p2, q2, rfl, rfl, rfl, h2, r2⟩ := trodAll_cons r1
  obtain ⟨rfl, rfl, rfl⟩ := trodAll_nil r2
  obtain rfl : args = #[v0, v1, v2] := by cases args; simp_all
  obtain ⟨rfl, rfl⟩ := trodVars_none hV
  have h0k := h0
  have h1k := h1
  obtain ⟨a2, rfl, rfl, rfl, w2⟩ := open_int Try.underlying3 (hval 2 3 v2 rfl rfl) h2
  obtain ⟨c0, c1, c2, x0, x1, x2, n0, rfl, rfl, rfl, t0, t1, t2⟩ := open_agg3 Try.underlying34 (by kernel_rfl) (by kernel_rfl) (hval 0 34 v0 rfl rfl) h0
  obtain ⟨m0, m1, m2, m3, y0, y1, y2, y3, n1, rfl, rfl, rfl, s0, s1, s2, s3⟩ := open_agg4 Try.underlying37 (by kernel_rfl) (by kernel_rfl) (hval 1 37 v1 rfl rfl) h1
  obtain ⟨z0, e0, _, _⟩ := DataW.trod_int Try.underlying3 t0
  obtain ⟨z1, e1, _, _⟩ := DataW.trod_int Try.underlying3 t1
  obtain ⟨z2, e2, _⟩ := DataW.trod_bool Try.underlying4 t2
  obtain ⟨u0, f0, _, _⟩ := DataW.trod_int Try.underlying3 s0
  obtain ⟨u1, f1, _, _⟩ := DataW.trod_int Try.underlying3 s1
  obtain ⟨u2, f2, _, _⟩ := DataW.trod_int Try.underlying5 s2
  obtain rfl : c0 = .int .i64 z0 := by simpa using e0
  obtain rfl : c1 = .int .i64 z1 := by simpa using e1
  obtain rfl : c2 = .bool z2 := by simpa using e2
  obtain rfl : m0 = .int .i64 u0 := by simpa using f0
  obtain rfl : m1 = .int .i64 u1 := by simpa using f1
  obtain rfl : m2 = .int .u8 u2 := by simpa using f2
  obtain ⟨a, len, cap, rfl, l, hl, hR⟩ := open_regs s3
  subst hl
  clear hA0 hval0
  simp only [List.append_nil] at hW'
  have hlt := hW'.lt
  refine (walk z0 z1 u0 u1 u2 a2 z2 a cap l W hR).mono fun e W' ⟨he, hg⟩ => ?_
  subst he
  refine ⟨_, rfl, _, _, _, [], _, [], hW', trodAll_mk1 (shut_bool Try.underlying4 _), (trodAll_cons_mk (Below.trod laidOut (by kernel_rfl) (of_decide_eq_true (by kernel_rfl)) h0k hg (fun x hx => hlt x ?_)) (trodAll_cons_mk (Below.trod laidOut (by kernel_rfl) (of_decide_eq_true (by kernel_rfl)) h1k hg (fun x hx => hlt x ?_)) (trodAll_cons_mk (shut_int Try.underlying3 w2) trodAll_mk0))), rfl, hg.frame _, fun h => by cases h⟩
  · simp only [List.mem_append] at hx ⊢; simp [hx]
  · simp only [List.mem_append] at hx ⊢; simp [hx]

theorem over : Rows.boundTellsRow.holds Try.pinned (OpenSpec.ofChange Rows.boundTellsSpec) :=
  OpenClaim.holds_of_wide 8 Try.f8 rfl rfl rfl rfl rfl rfl rfl ⟨rfl, rfl, rfl, rfl, rfl⟩ rfl rfl rfl rfl rfl (by kernel_rfl) Try.func8 (by kernel_rfl)
    (of_decide_eq_true (by kernel_rfl)) (by unfold Func.isWrapper; first | (rw [if_pos (by decide +kernel)]; kernel_rfl) | (rw [if_neg (by decide +kernel)]; exact ⟨rfl, rfl⟩))
    (fun os started H enc _ => lifted os started H enc)

/-- THE STATEMENT -/
theorem proved : Rows.BoundTellsSaid :=
  over
#print axioms proved
end Go.Proofs.Ytmefkfilclkgeaa.boundTells
