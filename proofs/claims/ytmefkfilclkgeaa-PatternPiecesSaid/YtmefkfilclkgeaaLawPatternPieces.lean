import Derived.Test.YtmefkfilclkgeaaPatC
import Derived.Test.YtmefkfilclkgeaaLawPatternRuns
import Derived.Laws.BytesString
import Derived.Deep.QuietTactic
import Derived.BigQuiet
import Derived.WalkSmall
import Derived.OpenShut
import Derived.ShutString
namespace Go.Proofs.Ytmefkfilclkgeaa.pattern
open Go.ChangeShapes Go.WideShapes Go.ChangeAt Go.RowKit
set_option linter.unusedVariables false
/-- bytes came back in a block of their own -/
def GotE (w : World) (n : Nat) (l : List Int) (e : Ending) (w' : World) : Prop :=
  e = .returned (.slice (some ⟨w.heap.size, 0, none⟩) n n) ∧ w'.ownsRow w.heap.size 5 1 (.slice (some ⟨w.heap.size, 0, none⟩) n n) n (l.map (Value.int .u8)) ∧ Below w.heap.size w w'
theorem bytesE_walk (s p q pos : Int) (n : Nat) (hn : n ≤ 4096) (h0 : 0 ≤ pos) (h1 : pos ≤ 1099511627776) (hq : q ≤ 9223372036854775807) (w : World) :
    Calls Try.prog 11 #[.int .u64 s, .int .i64 p, .int .i64 q, .int .i64 pos, .int .i64 n] w (GotE w n (bytesI s p q pos n)) := by
  obtain ⟨i0, hi, hz0, hz1, hz2⟩ := info_parts info5
  have a1 : ¬ pos < 0 := by omega
  have a2 : ¬ ((n : Int) < 0) := by omega
  have a3 : ¬ ((n : Int) > 4096) := by omega
  have a4 : ¬ (pos > 1099511627776) := by omega
  go_enter Try.func11, Try.ntmps11
  go_wp2_with (at_make; refine wpList_make_full _ rfl _ _ 22 rfl w.heap.size 5 i0 (.int .u8 0) 1 Try.underlying22 hi hz0 hz1 _ _ _ _ n rfl rfl rfl rfl (by rw [hz2]; omega) (by unfold maxLen; omega) (Nat.le_refl _) ?_; intro w1 hown hgrow)
  have hB : Below w.heap.size w w1 := (Below.refl _ w).grown hgrow (Nat.le_refl _) (fun k h => by cases h)
  have hrow : w1.ownsRow w.heap.size 5 1 (.slice (some ⟨w.heap.size, 0, none⟩) n n) n (partI s p q pos n 0) := by
    have e : (madeCells (Value.int IntKind.u8 0).cells (n * 1)).toList = partI s p q pos n 0 := by
      rw [Nat.mul_one, partI_zero]; exact toList_madeCells_one _ _
    rw [← e]; exact hown
  clear hown hgrow
  go_loopw [31] (fun i wr => Part w s p q pos n i wr) (fun i _ => n - (intOf i).toNat)
  case atStart => exact ⟨0, by omega, rfl, hrow, hB⟩
  case round =>
    clear hB hrow
    obtain ⟨k, hk, rfl, hrow, hB⟩ := hrel
    by_cases hlt : k < n
    · obtain ⟨u, hu⟩ : ∃ u, wr.cell? ⟨w.heap.size, k, none⟩ = some u := by
        rw [hrow.cellAt k (by omega)]
        exact ⟨_, List.getElem?_eq_getElem (by rw [partI_length]; exact hlt)⟩
      have hf : wr.frozen? ⟨w.heap.size, k, none⟩ = false := hrow.frozenAt k
      go_wp2_with (go_at_call 12; refine (byteS_walk _ _ _ _ hq _).mono ?_; rintro e w' ⟨rfl, rfl⟩)
      have h2 := (hrow.stored k (.int .u8 (byteI s p q (pos + (k : Int))))).1
      rw [partI_set _ _ _ _ _ _ hlt] at h2
      exact ⟨⟨k + 1, by omega, by simp, h2, hB.setCell (p := ⟨w.heap.size, k, none⟩) (Nat.le_refl _) _⟩, by simp [intOf]; omega⟩
    · obtain rfl : k = n := by omega
      rw [partI_full] at hrow
      go_wp2
      go_ret
      exact ⟨rfl, hrow, hB⟩
def strI (l : List Int) : ByteArray := l.foldl (fun r n => r.push (UInt8.ofNat n.toNat)) ByteArray.empty
theorem conv_own {w : World} {B : Nat} {v : Value} {n : Nat} {l : List Int} (h : w.ownsRow B 5 1 v n (l.map (Value.int .u8))) :
    Sem.run Try.prog (Go.convert 22 9 v) w = .ok (Value.string (strI l)) w := by
  have hl := h.1
  simp only [List.length_map, Nat.mul_one] at hl
  have hh := h
  obtain ⟨_, ⟨rfl, rfl⟩ | ⟨g, cap, cur, rfl, _, hc, _, _, _, ht⟩⟩ := h
  · obtain rfl : l = [] := List.eq_nil_of_length_eq_zero hl
    have k : Sem.run Try.prog (Go.convert 22 9 (Value.slice none 0 0)) w = .ok (Value.string (strI [])) w := by kernel_rfl
    exact k
  · refine (run_convert_bytes_string w 22 9 5 _ _ _ Try.underlying22 Try.underlying5 Try.underlying9).trans ?_
    refine run_bytesToString w _ _ _ l ?_
    have := run_loadCells_list (P := Try.prog) w ⟨g, 0, none⟩ (l.map (Value.int .u8)) (fun j u hu => hh.cells rfl j u hu)
    rwa [List.length_map, hl] at this
theorem own_below {w w' : World} {B e sz : Nat} {v : Value} {n : Nat} {xs : List Value} (h : w.ownsRow B e sz v n xs) (k : Below w.heap.size w w') : w'.ownsRow B e sz v n xs := by
  obtain ⟨hl, h | ⟨g, cap, cur, hv, hb, hc, r⟩⟩ := h
  · exact ⟨hl, .inl h⟩
  · refine ⟨hl, .inr ⟨g, cap, cur, hv, hb, ?_, r⟩⟩
    rw [k.block g (by by_cases q : g < w.heap.size; exact q; rw [Array.getElem?_eq_none (by omega)] at hc; cases hc)]
    exact hc
theorem own_drewN {w : World} {B e sz : Nat} {v : Value} {n : Nat} {xs : List Value} (k : Nat) (h : w.ownsRow B e sz v n xs) : (w.drewN k).ownsRow B e sz v n xs := by
  induction k generalizing w with
  | zero => exact h
  | succ k ih => exact ih h.drew
end Go.Proofs.Ytmefkfilclkgeaa.pattern
namespace Go.Proofs.Ytmefkfilclkgeaa.patternPieces
open Go.ChangeShapes Go.WideShapes Go.ChangeAt Go.RowKit
open Go.Proofs.Ytmefkfilclkgeaa.pattern
set_option linter.unusedVariables false
/-- since a world, nothing that was there has turned -/
def Since (w w' : World) : Prop := Below w.heap.size w w'
theorem Since.refl (w : World) : Since w w := Below.refl _ _
theorem Since.on {w w1 w2 : World} (h : Since w w1) (k : Below w1.heap.size w1 w2) : Since w w2 := Below.trans h (k.mono h.size)
/-- a row of bytes is there -/
def Own (w : World) (g n : Nat) (l : List Int) : Prop := w.ownsRow g 5 1 (.slice (some ⟨g, 0, none⟩) n n) n (l.map (Value.int .u8))
theorem strI_size (l : List Int) : (strI l).size = l.length := by
  have : ∀ (l : List Int) (r : ByteArray), (l.foldl (fun r n => r.push (UInt8.ofNat n.toNat)) r).size = r.size + l.length := by
    intro l
    induction l with
    | nil => intro r; rfl
    | cons x l ih => intro r; simp only [List.foldl_cons, ih, List.length_cons]; simp [ByteArray.size_push]; omega
  have h := this l ByteArray.empty
  simpa [strI] using h
theorem strI_append (l m : List Int) : strI l ++ strI m = strI (l ++ m) := by
  have : ∀ (m : List Int) (r t : ByteArray), r ++ m.foldl (fun r n => r.push (UInt8.ofNat n.toNat)) t = m.foldl (fun r n => r.push (UInt8.ofNat n.toNat)) (r ++ t) := by
    intro m
    induction m with
    | nil => intro r t; rfl
    | cons x m ih =>
      intro r t
      simp only [List.foldl_cons, ih]
      congr 1
      apply ByteArray.ext
      simp
  unfold strI
  rw [List.foldl_append, this]
  congr 1
  apply ByteArray.ext
  simp
theorem bytesI_append (s p q pos : Int) (a b : Nat) : bytesI s p q pos a ++ bytesI s p q (pos + (a : Int)) b = bytesI s p q pos (a + b) := by
  unfold bytesI
  rw [List.range_add, List.map_append, List.map_map]
  congr 1
  apply List.map_congr_left
  intro i _
  simp only [Function.comp]
  congr 1
  omega
/-- the relation of the loop -/
def Seen (w : World) (g : Nat) (l : List Int) (n : Nat) (i : Value) (wr : World) : Prop :=
  ∃ k : Nat, k ≤ n ∧ i = .int .i64 k ∧ wr.ownsRow g 5 1 (.slice (some ⟨g, 0, none⟩) n n) n (l.map (Value.int .u8)) ∧ Since w wr
theorem any (s p q pos : Int) (a b : Nat) (hp : 0 ≤ p ∧ p ≤ 255) (hq : 0 ≤ q ∧ q ≤ 255) (hpos : 0 ≤ pos ∧ pos ≤ 4294967295) (ha : a ≤ 255) (hb : b ≤ 255) (w : World) :
    Calls Try.prog 5 #[.int .u64 s, .int .u8 p, .int .u8 q, .int .u32 pos, .int .u8 a, .int .u8 b] w fun e w' => e = .returned (.bool true) ∧ Since w w' := by
  obtain ⟨hp, hp2⟩ := hp
  obtain ⟨hq, hq2⟩ := hq
  obtain ⟨h0, h1⟩ := hpos
  have hS : Since w w := .refl w
  have x1 := fun w => bytesE_walk s p q pos a (by omega) h0 (by omega) (by omega) w
  have x2 := fun w => bytesE_walk s p q (pos + (a : Int)) b (by omega) (by omega) (by omega) (by omega) w
  have x3 := fun w => bytesE_walk s p q pos (a + b) (by omega) h0 (by omega) (by omega) w
  rw [Int.natCast_add] at x3
  have hsz : (strI (bytesI s p q pos a)).size + (strI (bytesI s p q (pos + (a : Int)) b)).size ≤ 9223372036854775807 := by
    rw [strI_size, strI_size]; simp [bytesI]; omega
  have hE : strI (bytesI s p q pos a) ++ strI (bytesI s p q (pos + (a : Int)) b) = strI (bytesI s p q pos (a + b)) := by
    rw [strI_append, bytesI_append]
  go_enter Try.func5, Try.ntmps5
  go_wp2_with (first
    | (go_at_call 11; refine (x1 _).mono ?_; clear x1; rintro e w1 ⟨rfl, o1, b1⟩; replace hS := hS.on b1)
    | (go_at_call 11; refine (x2 _).mono ?_; clear x2; rintro e w2 ⟨rfl, o2, b2⟩; replace hS := hS.on b2)
    | (go_at_call 11; refine (x3 _).mono ?_; clear x3; rintro e w3 ⟨rfl, o3, b3⟩; have c1 := conv_own (own_below (own_below o1 b2) b3); have c2 := conv_own (own_below o2 b3); have c3 := conv_own o3; replace hS := hS.on b3; clear o1 o2 b1 b2 b3))
  clear c1 c2 c3 hsz hE
  obtain ⟨g, hg⟩ : ∃ g, w2.heap.size = g := ⟨_, rfl⟩
  rw [hg] at o3 ⊢
  clear hg
  go_loopw [19] (fun i wr => Seen w g (bytesI s p q pos (a + b)) (a + b) i wr) (fun i _ => a + b - (intOf i).toNat)
  case atStart => exact ⟨0, by omega, rfl, o3, hS⟩
  case round =>
    clear o3 hS
    obtain ⟨k, hk, rfl, hrow, hS⟩ := hrel
    by_cases hlt : k < a + b
    · have hu : wr.cell? ⟨g, k, none⟩ = some (.int .u8 (byteI s p q (pos + (k : Int)))) := by
        rw [hrow.cellAt k (by omega)]
        simp [bytesI, hlt]
      have hlt2 : (k : Int) < (a : Int) + (b : Int) := by omega
      go_wp2
      go_quiet ((go_at_call 12; exact Calls.quiet_of_same (byteS_walk _ _ _ _ (by omega) _)))
      go_wp2
      exact ⟨⟨k + 1, by omega, by simp, own_drewN nq hrow, Go.below_drewN hS nq⟩, by simp [intOf]; omega⟩
    · have hlt2 : ¬ (k : Int) < (a : Int) + (b : Int) := by omega
      go_wp2_with (go_at_call 3; refine (patternRuns.walk _).mono ?_; rintro e w' ⟨rfl, hb⟩; replace hS := hS.on hb; clear hb)
      go_ret
      exact ⟨rfl, hS⟩
theorem own : ownKnob Try.prog.godebug = none := by kernel_rfl
theorem walk (a0 : Int) (a1 : Int) (a2 : Int) (a3 : Int) (a4 : Int) (a5 : Int) (w0 : (Lit.int .u64 a0).wf = true) (w1 : (Lit.int .u8 a1).wf = true) (w2 : (Lit.int .u8 a2).wf = true) (w3 : (Lit.int .u32 a3).wf = true) (w4 : (Lit.int .u8 a4).wf = true) (w5 : (Lit.int .u8 a5).wf = true) (w : World) :
    Calls Try.prog 5 #[.int .u64 a0, .int .u8 a1, .int .u8 a2, .int .u32 a3, .int .u8 a4, .int .u8 a5] w fun e w' => e = .returned (.bool true) ∧ Below w.heap.size w w' := by
  simp only [Lit.wf, Bool.and_eq_true, decide_eq_true_eq, show IntKind.u8.min = 0 from rfl, show IntKind.u8.max = 255 from rfl, show IntKind.u32.min = 0 from rfl, show IntKind.u32.max = 4294967295 from rfl] at w1 w2 w3 w4 w5
  obtain ⟨a, rfl⟩ : ∃ a : Nat, a4 = a := ⟨a4.toNat, by omega⟩
  obtain ⟨b, rfl⟩ : ∃ b : Nat, a5 = b := ⟨a5.toNat, by omega⟩
  exact any _ _ _ _ _ _ w1 w2 w3 (by omega) (by omega) w
/-! ### THE ROW's STEP: WRITTEN OUT: LEAVE IT -/
set_option maxRecDepth 100000 in
theorem lifted (os : Os) (started : os.Started) (H : Type) (enc : TypeId × Value → H) :
    ReturnsInHanded {} Try.checked os 5 .any (Rows.patternPiecesSpec.pre6 enc Try.prog Try.f5 Rows.patternPiecesRow.domain false) (Rows.patternPiecesSpec.post enc Try.prog Try.f5 false true false false) := by
  refine returnsInHanded_of_change (C := Try.checked) own started (by kernel_rfl) Try.func5
    (ChangeSpec.witness6 (enc := enc) (C := Try.checked) false ⟨#[], #[.int .u64 0, .int .u8 0, .int .u8 0, .int .u32 0, .int .u8 0, .int .u8 0], []⟩ 8 (by kernel_rfl) (by kernel_rfl) (by kernel_rfl) (by kernel_rfl)) ?_
  intro W base args ds gs before hval0 hW hcnd _
  have hval : ∀ (j : Nat) t v, Try.f5.params[j]? = some t → args[j]? = some v → Value.okWide Try.prog W .any base t v := hval0
  have hW' := hW
  obtain ⟨p, q, hA0, hV, rfl, hfz, hnd⟩ := hW
  have hA : DataW.TrodAll enc Try.prog W 0 (fun _ => true) true Try.f5.params.toList args.toList ds p := hA0
  rw [Try.params5] at hA hval
  obtain ⟨v0, vs0, d0, ds0, p0, q0, hargs, rfl, rfl, h0, r0⟩ := trodAll_cons hA
  obtain ⟨v1, vs1, d1, ds1, p1, q1, rfl, rfl, rfl, h1, r1⟩ := trodAll_cons r0
  obtain ⟨v2, vs2, d2, ds2, p2, q2, rfl, rfl, rfl, h2, r2⟩ := trodAll_cons r1
  obtain ⟨v3, vs3, d3, ds3, p3, q3, rfl, rfl, rfl, h3, r3⟩ := trodAll_cons r2
  obtain ⟨v4, vs4, d4, ds4, p4, q4, rfl, rfl, rfl, h4, r4⟩ := trodAll_cons r3
  obtain ⟨v5, vs5, d5, ds5, p5, q5, rfl, rfl, rfl, h5, r5⟩ := trodAll_cons r4
  obtain ⟨rfl, rfl, rfl⟩ := trodAll_nil r5
  obtain rfl : args = #[v0, v1, v2, v3, v4, v5] := by cases args; simp_all
  obtain ⟨rfl, rfl⟩ := trodVars_none hV
  obtain ⟨a0, rfl, rfl, rfl, w0⟩ := open_int Try.underlying24 (hval 0 24 v0 rfl rfl) h0
  obtain ⟨a1, rfl, rfl, rfl, w1⟩ := open_int Try.underlying5 (hval 1 5 v1 rfl rfl) h1
  obtain ⟨a2, rfl, rfl, rfl, w2⟩ := open_int Try.underlying5 (hval 2 5 v2 rfl rfl) h2
  obtain ⟨a3, rfl, rfl, rfl, w3⟩ := open_int Try.underlying29 (hval 3 29 v3 rfl rfl) h3
  obtain ⟨a4, rfl, rfl, rfl, w4⟩ := open_int Try.underlying5 (hval 4 5 v4 rfl rfl) h4
  obtain ⟨a5, rfl, rfl, rfl, w5⟩ := open_int Try.underlying5 (hval 5 5 v5 rfl rfl) h5
  clear hA0 hval0
  simp only [List.append_nil] at hW'
  refine (walk a0 a1 a2 a3 a4 a5 w0 w1 w2 w3 w4 w5 W).mono fun e W' ⟨he, hg⟩ => ?_
  subst he
  exact ⟨_, rfl, _, _, _, [], _, [], hW', trodAll_mk1 (shut_bool Try.underlying4 _), (trodAll_cons_mk (shut_int Try.underlying24 w0) (trodAll_cons_mk (shut_int Try.underlying5 w1) (trodAll_cons_mk (shut_int Try.underlying5 w2) (trodAll_cons_mk (shut_int Try.underlying29 w3) (trodAll_cons_mk (shut_int Try.underlying5 w4) (trodAll_cons_mk (shut_int Try.underlying5 w5) trodAll_mk0)))))), rfl, hg.frame _, fun h => by cases h⟩

theorem over : Rows.patternPiecesRow.holds Try.pinned (OpenSpec.ofChange Rows.patternPiecesSpec) :=
  OpenClaim.holds_of_wide 5 Try.f5 rfl rfl rfl rfl rfl rfl rfl ⟨rfl, rfl, rfl, rfl, rfl⟩ rfl rfl rfl rfl rfl (by kernel_rfl) Try.func5 (by kernel_rfl)
    (of_decide_eq_true (by kernel_rfl)) (by unfold Func.isWrapper; first | (rw [if_pos (by decide +kernel)]; kernel_rfl) | (rw [if_neg (by decide +kernel)]; exact ⟨rfl, rfl⟩))
    (fun os started H enc _ => lifted os started H enc)

/-- ████ THE STATEMENT ████ -/
theorem proved : Rows.PatternPiecesSaid :=
  over
#print axioms proved
end Go.Proofs.Ytmefkfilclkgeaa.patternPieces
