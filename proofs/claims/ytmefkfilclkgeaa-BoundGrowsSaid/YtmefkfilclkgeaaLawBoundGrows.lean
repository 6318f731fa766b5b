/- More retries are never told to take less, and without retries it is three acts for each sector and region, whatever parts a map is made of: the call returns true at every input. -/
import Derived.Test.YtmefkfilclkgeaaGrowE
import Derived.Test.YtmefkfilclkgeaaLawBoundRuns
import Derived.Deep.Slices
import Derived.Deep.Fields
import Derived.ChangeSame
import Derived.Carry
import Derived.Lib.SmallJoins
import Derived.OpenShut
namespace Go.Proofs.Ytmefkfilclkgeaa.boundGrows
open Go.ChangeShapes Go.WideShapes Go.ChangeAt Go.RowKit Go.Deep Go.Joins
open Go.Proofs.Ytmefkfilclkgeaa.bound
set_option linter.unusedVariables false
section
variable {H : Type} {enc : TypeId × Value → H} {P : Program} {w : World} {base : Nat} {spare : Nat → Bool} {held : Bool}
theorem open_slice_fields {t e : TypeId} {fs : Array Field} {fuel : Nat} {cs : List Value} {x : DataW H × List MemPlace} (ht : P.underlying t = some (.slice e)) (he : P.underlying e = some (.struct fs))
    (hone : oneCellFields P fs = true) (hC : P.cellsOf e = fs.size) (h : DataW.trod enc P w base spare held fuel t cs = some x) :
    (cs = [.slice none 0 0] ∧ x = (.nil, [])) ∨
    ∃ (a : Addr) (len cap m : Nat) (D : Nat → DataW H) (Pl : Nat → List MemPlace), cs = [.slice (some a) len cap] ∧ base ≤ a.block ∧ len ≤ cap ∧ cap ≤ maxLen ∧ m = (if spare a.block then cap else len) ∧
      x = (.slice ((List.range len).map D) ((List.range (m - len)).map fun j => D (len + j)), MemPlace.row a (m * fs.size) ++ (List.range m).flatMap Pl) ∧
      ∀ i, i < m → ∃ (ys : List (DataW H × List MemPlace)) (n : Nat), D i = .agg (ys.map (·.1)) ∧ Pl i = ys.flatMap (·.2) ∧ ys.length = fs.size ∧
        ∀ (j : Nat) (f : Field), fs[j]? = some f → ∃ (v : Value) (y : DataW H × List MemPlace), w.cell? (a.add (i * fs.size + j)) = some v ∧ ys[j]? = some y ∧ DataW.trod enc P w base spare held n f.type [v] = some y := by
  rcases open_slice ht h with h0 | ⟨a, len, cap, m, n, D, Pl, hcs, hb, hl, hm, hmm, hx, hi⟩
  · exact .inl h0
  · refine .inr ⟨a, len, cap, m, D, Pl, hcs, hb, hl, hm, hmm, by rw [hC] at hx; exact hx, fun i him => ?_⟩
    obtain ⟨cs', hc, ht'⟩ := hi i him
    rw [hC] at hc
    obtain ⟨ys, n', hn', hy, hlen, hyl, hf⟩ := DataW.trod_struct he ht'
    obtain ⟨_, hcl, hat⟩ := World.cells?_some hc
    simp only [Prod.mk.injEq] at hy
    refine ⟨ys, n', hy.1, hy.2, hyl, fun j f hj => ?_⟩
    obtain ⟨ho, hk⟩ := hone_of hone j f hj
    have hjl : j < fs.size := (Array.getElem?_eq_some_iff.1 hj).1
    have hcell := hat j hjl
    have hv : cs'[j]? = some (cs'[j]'(by omega)) := List.getElem?_eq_getElem (by omega)
    have h1 := hf j f hj
    rw [ho, hk] at h1
    have hone' : (cs'.drop j).take 1 = [cs'[j]'(by omega)] := by
      rw [List.drop_eq_getElem_cons (by omega)]
      rfl
    rw [hone'] at h1
    have hys : ys[j]? = some (ys[j]'(by omega)) := List.getElem?_eq_getElem (by omega)
    refine ⟨_, _, ?_, hys, h1.trans hys⟩
    rw [← Go.Deep.add_add, hcell, hv]
end

/-- one part's three cells -/
def At3 (w : World) (b o k : Nat) (r : Int × Int × Int) : Prop :=
  (w.cell? ⟨b, o + k * 3, none⟩ = some (.int .u8 r.1) ∧ w.cell? ⟨b, o + k * 3 + 1, none⟩ = some (.int .u8 r.2.1) ∧ w.cell? ⟨b, o + k * 3 + 2, none⟩ = some (.int .u8 r.2.2)) ∧
  (0 ≤ r.1 ∧ r.1 ≤ 255) ∧ (0 ≤ r.2.1 ∧ r.2.1 ≤ 255) ∧ 0 ≤ r.2.2 ∧ r.2.2 ≤ 255
theorem cuts_of {w : World} {b o len : Nat} (h : ∀ k, k < len → ∃ r, At3 w b o k r) : ∃ c : Nat → Int × Int × Int, ∀ k, k < len → At3 w b o k (c k) := by
  have h' : ∀ k, ∃ r : Int × Int × Int, k < len → At3 w b o k r := fun k => by
    by_cases hk : k < len
    · obtain ⟨r, hr⟩ := h k hk
      exact ⟨r, fun _ => hr⟩
    · exact ⟨(0, 0, 0), fun hk' => absurd hk' hk⟩
  obtain ⟨g, hg⟩ := Classical.axiomOfChoice h'
  exact ⟨g, hg⟩
theorem cell_at {w : World} {a : Addr} {v : Value} (h : w.cell? a = some v) : a.block < w.heap.size ∧ a.spot = none := by
  unfold World.cell? at h
  split at h
  · rename_i c e1 e2 he
    have hb := (Array.getElem?_eq_some_iff.1 he).1
    refine ⟨hb, ?_⟩
    cases hs : a.spot with
    | none => rfl
    | some x => simp [hs] at h
  · simp at h
theorem wf_in64 {n : Int} (h : (Lit.int .i64 n).wf = true) : -9223372036854775808 ≤ n ∧ n ≤ 9223372036854775807 := by
  simp [Lit.wf, IntKind.min, IntKind.max, IntKind.signed, IntKind.bits] at h
  omega
theorem wf_in8 {n : Int} (h : (Lit.int .u8 n).wf = true) : 0 ≤ n ∧ n ≤ 255 := by
  simp [Lit.wf, IntKind.min, IntKind.max, IntKind.signed, IntKind.bits] at h
  omega

/-- the slice that comes in, opened -/
theorem open_cuts {H : Type} {enc : TypeId × Value → H} {w : World} {base : Nat} {spare : Nat → Bool} {held : Bool} {fuel : Nat} {v : Value} {x : DataW H × List MemPlace} (h : DataW.trod enc Try.prog w base spare held fuel 43 [v] = some x) :
    ∃ (a : Option Addr) (len cap : Nat) (c : Nat → Int × Int × Int), v = .slice a len cap ∧ Cuts w a len c := by
  rcases open_slice_fields Try.underlying43 Try.underlying67 (by kernel_rfl) (by kernel_rfl) h with ⟨hcs, _⟩ | ⟨a, len, cap, m, D, Pl, hcs, _, hle, _, hm, _, hi⟩
  · obtain rfl : v = .slice none 0 0 := by simpa using hcs
    exact ⟨none, 0, 0, fun _ => (0, 0, 0), rfl, .inl rfl⟩
  · obtain rfl : v = .slice (some a) len cap := by simpa using hcs
    have hlm : len ≤ m := by rw [hm]; split <;> omega
    have hcell : ∀ k, k < len → ∃ r : Int × Int × Int, (w.cell? (a.add (k * 3)) = some (.int .u8 r.1) ∧ w.cell? (a.add (k * 3 + 1)) = some (.int .u8 r.2.1) ∧ w.cell? (a.add (k * 3 + 2)) = some (.int .u8 r.2.2)) ∧
        (0 ≤ r.1 ∧ r.1 ≤ 255) ∧ (0 ≤ r.2.1 ∧ r.2.1 ≤ 255) ∧ 0 ≤ r.2.2 ∧ r.2.2 ≤ 255 := fun k hk => by
      obtain ⟨ys, n, _, _, _, hf⟩ := hi k (by omega)
      obtain ⟨v0, y0, c0, _, t0⟩ := hf 0 _ rfl
      obtain ⟨v1, y1, c1, _, t1⟩ := hf 1 _ rfl
      obtain ⟨v2, y2, c2, _, t2⟩ := hf 2 _ rfl
      obtain ⟨z0, e0, _, w0⟩ := DataW.trod_int Try.underlying5 t0
      obtain ⟨z1, e1, _, w1⟩ := DataW.trod_int Try.underlying5 t1
      obtain ⟨z2, e2, _, w2⟩ := DataW.trod_int Try.underlying5 t2
      obtain rfl : v0 = .int .u8 z0 := by simpa using e0
      obtain rfl : v1 = .int .u8 z1 := by simpa using e1
      obtain rfl : v2 = .int .u8 z2 := by simpa using e2
      exact ⟨(z0, z1, z2), ⟨c0, c1, c2⟩, wf_in8 w0, wf_in8 w1, wf_in8 w2⟩
    by_cases h0 : len = 0
    · exact ⟨some a, len, cap, fun _ => (0, 0, 0), rfl, .inl h0⟩
    · obtain ⟨r, ⟨hc, _⟩, _⟩ := hcell 0 (by omega)
      obtain ⟨hb, hs⟩ := cell_at hc
      obtain ⟨b, o, s⟩ := a
      obtain rfl : s = none := hs
      obtain ⟨c, hC⟩ := cuts_of (w := w) (b := b) (o := o) (len := len) (fun k hk => by
        obtain ⟨r, ⟨h1, h2, h3⟩, h4⟩ := hcell k hk
        rw [add_plain] at h1 h2 h3
        exact ⟨r, ⟨h1, h2, h3⟩, h4⟩)
      exact ⟨_, len, cap, c, rfl, .inr ⟨b, o, rfl, hb, hC⟩⟩
theorem grows_many (size a b : Int) (n cap : Nat) (sl : Option Addr) (hn : 10 < n) (w : World) :
    Calls Try.prog 9 #[.int .u8 size, .slice sl n cap, .int .u8 a, .int .u8 b] w fun e w' => e = .returned (.bool true) ∧ Below w.heap.size w w' := by
  have c1 : ((n : Int) > 10) := by omega
  go_enter Try.func9, Try.ntmps9
  go_wp2_with (go_at_call 7; refine (boundRuns.walk _).mono ?_; rintro e w1 ⟨rfl, hb⟩)
  go_ret
  exact ⟨rfl, hb⟩
theorem walk (size a b : Int) (n cap : Nat) (sl : Option Addr) (c : Nat → Int × Int × Int) (hs : 0 ≤ size ∧ size ≤ 255) (ha : 0 ≤ a ∧ a ≤ 255) (hb : 0 ≤ b ∧ b ≤ 255) (w : World) (hc : Cuts w sl n c) :
    Calls Try.prog 9 #[.int .u8 size, .slice sl n cap, .int .u8 a, .int .u8 b] w fun e w' => e = .returned (.bool true) ∧ Below w.heap.size w w' := by
  by_cases hn : n ≤ 10
  · exact grows_few size a b n cap sl c hs.1 hs.2 ha hb hn w hc
  · exact grows_many size a b n cap sl (by omega) w

theorem laidOut : laidOutB Try.prog = true := by kernel_rfl
set_option maxRecDepth 100000 in
theorem lifted (os : Os) (started : os.Started) (H : Type) (enc : TypeId × Value → H) :
    ReturnsInHanded {} Try.checked os 9 .any (Rows.boundGrowsSpec.pre6 enc Try.prog Try.f9 Rows.boundGrowsRow.domain false) (Rows.boundGrowsSpec.post enc Try.prog Try.f9 false true false false) := by
  refine returnsInHanded_of_change (C := Try.checked) boundRuns.own started (by kernel_rfl) Try.func9
    (ChangeSpec.witness6 (enc := enc) (C := Try.checked) false ⟨#[], #[.int .u8 0, .slice none 0 0, .int .u8 0, .int .u8 0], []⟩ 8 (by kernel_rfl) (by kernel_rfl) (by kernel_rfl) (by kernel_rfl)) ?_
  intro W base args ds gs before hval0 hW hcnd _
  have hval : ∀ (j : Nat) t v, Try.f9.params[j]? = some t → args[j]? = some v → Value.okWide Try.prog W .any base t v := hval0
  have hW' := hW
  obtain ⟨p, q, hA0, hV, rfl, hfz, hnd⟩ := hW
  have hA : DataW.TrodAll enc Try.prog W 0 (fun _ => true) true Try.f9.params.toList args.toList ds p := hA0
  rw [Try.params9] at hA hval
  obtain ⟨v0, vs0, d0, ds0, p0, q0, hargs, rfl, rfl, h0, r0⟩ := trodAll_cons hA
  obtain ⟨v1, vs1, d1, ds1, p1, q1, rfl, rfl, rfl, h1, r1⟩ := trodAll_cons r0
  obtain ⟨v2, vs2, d2, ds2, p2, q2, rfl, rfl, rfl, h2, r2⟩ := trodAll_cons r1
  obtain ⟨v3, vs3, d3, ds3, p3, q3, rfl, rfl, rfl, h3, r3⟩ := trodAll_cons r2
  obtain ⟨rfl, rfl, rfl⟩ := trodAll_nil r3
  obtain rfl : args = #[v0, v1, v2, v3] := by cases args; simp_all
  obtain ⟨rfl, rfl⟩ := trodVars_none hV
  have h1k := h1
  obtain ⟨a0, rfl, rfl, rfl, w0⟩ := open_int Try.underlying5 (hval 0 5 v0 rfl rfl) h0
  obtain ⟨a2, rfl, rfl, rfl, w2⟩ := open_int Try.underlying5 (hval 2 5 v2 rfl rfl) h2
  obtain ⟨a3, rfl, rfl, rfl, w3⟩ := open_int Try.underlying5 (hval 3 5 v3 rfl rfl) h3
  obtain ⟨sl0, len0, cap0, rfl⟩ := okWide_slice Try.underlying43 (hval 1 43 v1 rfl rfl)
  obtain ⟨fu1, h1'⟩ := h1
  obtain ⟨sl, len, cap, c, hv, hR⟩ := open_cuts h1'
  cases hv
  clear hA0 hval0
  simp only [List.append_nil] at hW'
  have hlt := hW'.lt
  refine (walk a0 a2 a3 len0 cap0 sl0 c (wf_in8 w0) (wf_in8 w2) (wf_in8 w3) W hR).mono fun e W' ⟨he, hg⟩ => ?_
  subst he
  refine ⟨_, rfl, _, _, _, [], _, [], hW', trodAll_mk1 (shut_bool Try.underlying4 _), (trodAll_cons_mk (shut_int Try.underlying5 w0) (trodAll_cons_mk (Below.trod laidOut (by kernel_rfl) (of_decide_eq_true (by kernel_rfl)) h1k hg (fun x hx => hlt x ?_)) (trodAll_cons_mk (shut_int Try.underlying5 w2) (trodAll_cons_mk (shut_int Try.underlying5 w3) trodAll_mk0)))), rfl, hg.frame _, fun h => by cases h⟩
  simp only [List.mem_append] at hx ⊢; simp [hx]

theorem over : Rows.boundGrowsRow.holds Try.pinned (OpenSpec.ofChange Rows.boundGrowsSpec) :=
  OpenClaim.holds_of_wide 9 Try.f9 rfl rfl rfl rfl rfl rfl rfl ⟨rfl, rfl, rfl, rfl, rfl⟩ rfl rfl rfl rfl rfl (by kernel_rfl) Try.func9 (by kernel_rfl)
    (of_decide_eq_true (by kernel_rfl)) (by unfold Func.isWrapper; first | (rw [if_pos (by decide +kernel)]; kernel_rfl) | (rw [if_neg (by decide +kernel)]; exact ⟨rfl, rfl⟩))
    (fun os started H enc _ => lifted os started H enc)

/-- THE STATEMENT -/
theorem proved : Rows.BoundGrowsSaid :=
  over
#print axioms proved
end Go.Proofs.Ytmefkfilclkgeaa.boundGrows
