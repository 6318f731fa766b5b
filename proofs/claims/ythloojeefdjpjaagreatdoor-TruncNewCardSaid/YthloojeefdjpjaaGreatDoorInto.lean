/- loop.Into, one list of one piece. -/
import Derived.Test.YthloojeefdjpjaaGreatDoorChunk
import Derived.Test.YthloojeefdjpjaaGreatDoorCalm
namespace Go.Proofs.YthloojeefdjpjaaGreatDoor.into
open Go Go.RowKit Go.Shelf
attribute [local go_sem] Oper.semAt_some
set_option linter.unusedVariables false

/-- what stands between two rounds -/
def Pre (s B : Nat) (w : World) (β : Bt) (h0 h2 : Hp) (pre : List Unit) (W : World) : Prop :=
  (pre = [] ∧ Below w.heap.size w W ∧ B ≤ W.heap.size) ∨ (pre ≠ [] ∧ ∃ β2, HR Tryz.prog β2 h2.calm W ∧ St β h0 w β2 h2.calm W ∧ ∀ k, Held β2 h2.calm k → k < s ∨ B ≤ k)
theorem pre_own {s B : Nat} {w : World} {β : Bt} {h0 h2 : Hp} (hB : w.heap.size ≤ B) : OwnFrom B (Pre s B w β h0 h2) := by
  intro pre W W' row hI hg hr
  rcases hI with ⟨h1, h3, h4⟩ | ⟨h1, β2, H2, S2, hK⟩
  · exact .inl ⟨h1, ownFrom_below (β := Unit) (Nat.le_refl _) hB () W W' row h3 hg hr, Nat.le_trans h4 hg.size⟩
  · refine .inr ⟨h1, β2, H2.turn hg (fun r e => (hr r e).2), ⟨S2.le, hg.os.trans S2.os, hg.tape.trans S2.tape, hg.output.trans S2.output, Nat.le_trans S2.size hg.size, fun k hk hn => ?_, S2.own, S2.held⟩, hK⟩
    rw [hg.block k (Nat.lt_of_lt_of_le hk S2.size) (fun e => by have := (hr k e.symm).1; omega)]
    exact S2.keep k hk hn
set_option maxRecDepth 100000 in
set_option maxHeartbeats 4000000 in
theorem into_in (st : Option Addr) (ino : Int) (bl ol cl bp op m km : Nat) (n : Int) (β : Bt) (h0 h2 : Hp) (h1 : 1 ≤ m) (hm : m < 4096) (hcap : m ≤ km) (w : World) (hlt : bl < w.heap.size) (hl : w.cell? ⟨bl, ol, none⟩ = some (.slice (some ⟨bp, op, none⟩) m km)) (H : HR Tryz.prog β h0.calm w)
    (hW : ∀ W, HR Tryz.prog β h0.calm W → Calls Tryz.prog 50 #[.pointer st, .int .i64 ino, .int .i64 0, .slice (some ⟨bp, op, none⟩) m m] W fun e W2 => ∃ β2, e = .returned (.tuple #[.int .i64 n, .int .i64 0]) ∧ HR Tryz.prog β2 h2 W2 ∧ St β h0.calm W β2 h2 W2) :
    CallsIn Fence.wide 3 Tryz.prog 76 #[.pointer st, .int .i64 ino, .slice (some ⟨bl, ol, none⟩) 1 cl] w fun e W' => e = .returned (.int .i64 0) ∧ ∃ β2, HR Tryz.prog β2 h2.calm W' ∧ St β h0.calm w β2 h2.calm W' := by
  refine callsIn_of_wp_marks Tryz.func76 rfl trivial ?_ rfl
  simp only [Tryz.ntmps76, List.size_toArray, List.length_cons, List.length_nil, Nat.reduceAdd, Nat.reduceSub, Array.replicate_succ, Array.replicate_zero, List.push_toArray, List.append_toArray, List.nil_append, List.cons_append]
  gi_wp2
  have b3 := (((Boxed.new w 22 (.pointer st)).alloc (.cells #[.int .i64 ino] 3)).alloc (.cells #[.int .i64 0] 31)).alloc (.cells #[.int .i64 0] 3)
  have b4 := ((Boxed.new (w.alloc (.cells #[.pointer st] 22)) 3 (.int .i64 ino)).alloc (.cells #[.int .i64 0] 31)).alloc (.cells #[.int .i64 0] 3)
  have b6 := (Boxed.new ((w.alloc (.cells #[.pointer st] 22)).alloc (.cells #[.int .i64 ino] 3)) 31 (.int .i64 0)).alloc (.cells #[.int .i64 0] 3)
  have b7 := Boxed.new (((w.alloc (.cells #[.pointer st] 22)).alloc (.cells #[.int .i64 ino] 3)).alloc (.cells #[.int .i64 0] 31)) 3 (.int .i64 0)
  simp only [World.size_alloc] at b4 b6 b7
  have hB1 : Below w.heap.size w ((((w.alloc (.cells #[.pointer st] 22)).alloc (.cells #[.int .i64 ino] 3)).alloc (.cells #[.int .i64 0] 31)).alloc (.cells #[.int .i64 0] 3)) := ((((Below.refl _ w).alloc (Nat.le_refl _) _).alloc (by simp) _).alloc (by simp; omega) _).alloc (by simp; omega) _
  have hs1 : ((((w.alloc (.cells #[.pointer st] 22)).alloc (.cells #[.int .i64 ino] 3)).alloc (.cells #[.int .i64 0] 31)).alloc (.cells #[.int .i64 0] 3)).heap.size = w.heap.size + 4 := by simp
  obtain ⟨W1, hW1⟩ : ∃ W1, ((((w.alloc (.cells #[.pointer st] 22)).alloc (.cells #[.int .i64 ino] 3)).alloc (.cells #[.int .i64 0] 31)).alloc (.cells #[.int .i64 0] 3)) = W1 := ⟨_, rfl⟩
  rw [hW1] at b3 b4 b6 b7 hB1 hs1 ⊢
  clear hW1
  have hl1 := (hB1.cell (p := ⟨bl, ol, none⟩) hlt).trans hl
  have HH : Hid (HR Tryz.prog β h0.calm w) := H
  clear H hl
  refine wpIn_loop_rounds 2 ?_
  rw [roundsIn_succ]
  gi_wp2_with (refine ⟨trivial, ?_⟩; gi_at_call 167; refine (chunk.chunk_in Fence.wide 2 trivial rfl _ _ _ _).mono ?_; rintro e w' ⟨rfl, rfl⟩)
  have c3 := (b3.alloc (.cells #[.slice (some ⟨bp, op, none⟩) m km] 26)).alloc (.cells #[.int .i64 4096] 3)
  have c4 := (b4.alloc (.cells #[.slice (some ⟨bp, op, none⟩) m km] 26)).alloc (.cells #[.int .i64 4096] 3)
  have c6 := (b6.alloc (.cells #[.slice (some ⟨bp, op, none⟩) m km] 26)).alloc (.cells #[.int .i64 4096] 3)
  have c7 := (b7.alloc (.cells #[.slice (some ⟨bp, op, none⟩) m km] 26)).alloc (.cells #[.int .i64 4096] 3)
  have cS := (Boxed.new W1 26 (.slice (some ⟨bp, op, none⟩) m km)).alloc (.cells #[.int .i64 4096] 3)
  have cN := Boxed.new (W1.alloc (.cells #[.slice (some ⟨bp, op, none⟩) m km] 26)) 3 (.int .i64 4096)
  simp only [World.size_alloc] at cN
  have hB0 : Below w.heap.size w ((W1.alloc (.cells #[.slice (some ⟨bp, op, none⟩) m km] 26)).alloc (.cells #[.int .i64 4096] 3)) := (hB1.alloc (by omega) _).alloc (by simp; omega) _
  have hs0 : ((W1.alloc (.cells #[.slice (some ⟨bp, op, none⟩) m km] 26)).alloc (.cells #[.int .i64 4096] 3)).heap.size = w.heap.size + 6 := by simp [hs1]
  obtain ⟨W0, hW0⟩ : ∃ W0, ((W1.alloc (.cells #[.slice (some ⟨bp, op, none⟩) m km] 26)).alloc (.cells #[.int .i64 4096] 3)) = W0 := ⟨_, rfl⟩
  rw [hs1] at cS cN
  rw [hW0] at c3 c4 c6 c7 cS cN hB0 hs0
  rw [hW0]
  clear hW0 hl1
  refine wpIn_rangeFunc_ownG rfl (by decide) (gf := 271) (lb := #[.pointer (some ⟨w.heap.size + 4, 0, none⟩), .pointer (some ⟨w.heap.size + 4 + 1, 0, none⟩)]) rfl trivial (enters_of Tryz.func271 (by kernel_rfl) rfl)
    (chunk.chunk_stops Fence.wide (3 - 1) trivial rfl (by decide) (w.heap.size + 4) (w.heap.size + 4 + 1) bp op m km h1 hm hcap W0 (by omega) (by omega) cS.cell cN.cell) (fun h k => h.trans k) (fun W l o o' h3 _ _ _ => ⟨World.putObj_heap_other (by omega), World.putObj_heap_other (by omega)⟩) (Below.refl _ _) (fun _ => rfl)
    (fun pre W => (((Boxed W w.heap.size 22 (.pointer st) ∧ Boxed W (w.heap.size + 1) 3 (.int .i64 ino)) ∧ Boxed W (w.heap.size + 1 + 1) 31 (.int .i64 0)) ∧ (pre = [] → Boxed W (w.heap.size + 1 + 1 + 1) 3 (.int .i64 0))) ∧ Pre w.heap.size W0.heap.size w β h0.calm h2 pre W)
    (fun _ _ _ => False)
    (OwnFrom.and (OwnFrom.and (OwnFrom.and (OwnFrom.and (Own.from (boxed_own _ _ _) _) (Own.from (boxed_own _ _ _) _)) (Own.from (boxed_own _ _ _) _)) (show OwnFrom W0.heap.size (fun (pre : List Unit) W => pre = [] → Boxed W (w.heap.size + 1 + 1 + 1) 3 (.int .i64 0)) from fun pre A B row hs hg hr e => boxed_own (w.heap.size + 1 + 1 + 1) 3 (fun (_ : Unit) => Value.int .i64 0) () A B row (hs e) hg (fun r q => (hr r q).2))) (pre_own (by omega)))
    (fun _ _ _ _ _ hs _ _ => hs)
    ⟨⟨⟨⟨c3, c4⟩, c6⟩, fun _ => c7⟩, .inl ⟨rfl, hB0, Nat.le_refl _⟩⟩
    (fun x => { tmps := #[.pointer st, .int .i64 ino, .slice (some ⟨bl, ol, none⟩) 1 cl, .pointer (some ⟨w.heap.size, 0, none⟩), .pointer (some ⟨w.heap.size + 1, 0, none⟩), undef, .pointer (some ⟨w.heap.size + 1 + 1, 0, none⟩), .pointer (some ⟨w.heap.size + 1 + 1 + 1, 0, none⟩), undef, .slice (some ⟨bp, op, none⟩) m km, .slice (some ⟨bp, op, none⟩) m m, undef, undef, .slice (some ⟨bl, ol, none⟩) 1 cl, .int .i64 1, .int .i64 0, .bool true, .pointer (some ⟨bl, ol, none⟩), .slice (some ⟨bp, op, none⟩) m km, .slice (some ⟨bp, op, none⟩) m km,
      .func (.func 271) #[] #[.pointer (some ⟨w.heap.size + 4, 0, none⟩), .pointer (some ⟨w.heap.size + 4 + 1, 0, none⟩)], .slice (some ⟨bp, op, none⟩) m m, undef, undef, undef, undef, undef, undef, undef, undef, undef, undef, undef, undef, undef, undef, undef], defers := [] }) ?assign ?body ?done ?stop
  case assign =>
    intro l x W K hK
    gi_wp2
    exact hK
  case body =>
    rintro l pre x W ⟨⟨⟨⟨e3, e4⟩, e6⟩, e7⟩, hP⟩ hlen
    obtain rfl : pre = [] := List.eq_nil_of_length_eq_zero (by omega)
    have e7 := e7 rfl
    rcases hP with ⟨_, hB, hsz⟩ | ⟨hne, _⟩
    · have k3 := e3.cell
      have k4 := e4.cell
      have k7 := e7.cell
      have hcall := hW W (HH.out.below hB)
      gi_wp2_with (refine ⟨trivial, ?_⟩; gi_at_call 50; refine (CallsIn.inRound l (callsIn_wide.2 hcall)).mono ?_; clear hcall; rintro e W2 ⟨β2, rfl, H2, S2⟩; have nk : ∀ k, w.heap.size ≤ k → k < W.heap.size → W2.heap[k]? = W.heap[k]? := (fun k q1 q2 => S2.keep k q2 (fun ho => by have := held_lt HH.out ho.held; omega)); have g7 : Boxed W2 (w.heap.size + 1 + 1 + 1) 3 (.int .i64 0) := (nk _ (by omega) e7.lt).trans e7; have j7 := g7.cell; have f7 := g7.frozen)
      have sc : ∀ k, k ≠ w.heap.size + 1 + 1 + 1 → k < W2.heap.size → (W2.setCell ⟨w.heap.size + 1 + 1 + 1, 0, none⟩ (.int .i64 (wrap64 n))).heap[k]? = W2.heap[k]? := fun k q1 q2 => (grownBy_setCell' W2 (w.heap.size + 1 + 1 + 1) (.int .i64 (wrap64 n))).block k q2 (fun e => q1 (Option.some.inj e))
      have lt2 := S2.size
      refine ⟨⟨?_, fun k o q1 q2 q3 => ?_⟩, ⟨?_, ?_⟩, ⟨⟨⟨?_, ?_⟩, ?_⟩, fun e => by cases e⟩, .inr ⟨(fun e => by cases e), β2, ?_, ⟨S2.le, ?_, ?_, ?_, ?_, fun k q1 q2 => ?_, fun k q1 => ?_, fun k q1 => ?_⟩, fun k q1 => ?_⟩⟩
      · exact Nat.le_trans lt2 (grownBy_setCell' W2 (w.heap.size + 1 + 1 + 1) (.int .i64 (wrap64 n))).size
      · have q4 := (Array.getElem?_eq_some_iff.1 q2).1
        have q5 : W2.heap[k]? = some o := (nk k (by omega) q4).trans q2
        exact (KeepsOthers.setCell W2 _ _).same k o q5 q3
      · rw [sc _ (by omega) (by omega)]
        exact nk _ (by omega) (by omega)
      · rw [sc _ (by omega) (by omega)]
        exact nk _ (by omega) (by omega)
      · exact Eq.trans (sc _ (by omega) (by omega)) ((nk _ (by omega) e3.lt).trans e3)
      · exact Eq.trans (sc _ (by omega) (by omega)) ((nk _ (by omega) e4.lt).trans e4)
      · exact Eq.trans (sc _ (by omega) (by omega)) ((nk _ (by omega) e6.lt).trans e6)
      · refine H2.calm.other fun k q1 => sc k (fun e => ?_) (held_lt H2.calm q1)
        rcases S2.held k (held_calm q1) with q2 | q2
        · have := held_lt HH.out q2; omega
        · omega
      · exact S2.os.trans hB.os
      · exact S2.tape.trans hB.tape
      · exact S2.output.trans hB.output
      · exact Nat.le_trans hB.size (Nat.le_trans lt2 (grownBy_setCell' W2 (w.heap.size + 1 + 1 + 1) (.int .i64 (wrap64 n))).size)
      · rw [sc k (by omega) (by omega), S2.keep k (by omega) q2, hB.block k q1]
      · rcases S2.own k (own_calm q1) with q2 | q2
        · exact .inl q2
        · exact .inr (by omega)
      · rcases S2.held k (held_calm q1) with q2 | q2
        · exact .inl q2
        · exact .inr (by omega)
      · rcases S2.held k (held_calm q1) with q2 | q2
        · exact .inl (held_lt HH.out q2)
        · exact .inr (by omega)
    · exact absurd rfl hne
  case done =>
    rintro D ys W hD rfl ⟨⟨⟨⟨e3, e4⟩, e6⟩, e7⟩, hP⟩ hK
    have k6 := e6.cell
    have f6 := e6.frozen
    gi_wp2
    rw [roundsIn_succ]
    gi_wp2
    rcases hP with ⟨hne, _⟩ | ⟨_, β2, H2, S2, hKK⟩
    · cases hne
    have sc : ∀ k, k ≠ w.heap.size + 1 + 1 → k < W.heap.size → (W.setCell ⟨w.heap.size + 1 + 1, 0, none⟩ (.int .i64 0)).heap[k]? = W.heap[k]? := fun k q1 q2 => (grownBy_setCell' W (w.heap.size + 1 + 1) (.int .i64 0)).block k q2 (fun e => q1 (Option.some.inj e))
    have hK' := (KeepsOthers.setCell W ⟨w.heap.size + 1 + 1, 0, none⟩ (.int .i64 0)).same D _ hK rfl
    have c6' := (e6.set (.int .i64 0)).cell
    have d6 := cell_kept c6' (grownBy_putObj' _ D (.deferred none)) (fun r e => by cases e; exact ⟨_, hK', rfl⟩)
    have hgp := grownBy_putObj' (W.setCell ⟨w.heap.size + 1 + 1, 0, none⟩ (.int .i64 0)) D (.deferred none)
    have hgs := grownBy_setCell' W (w.heap.size + 1 + 1) (.int .i64 0)
    refine ⟨by simp, .inl ⟨_, _, rfl, run_takeDeferred hK', ?_⟩⟩
    refine ⟨.int .i64 0, ?_, rfl, β2, ?_, ⟨S2.le, (hgp.os.trans hgs.os).trans S2.os, (hgp.tape.trans hgs.tape).trans S2.tape, (hgp.output.trans hgs.output).trans S2.output, Nat.le_trans S2.size (Nat.le_trans hgs.size hgp.size), fun k q1 q2 => ?_, S2.own, S2.held⟩⟩
    · simp [results, Tryz.f76, go_sem, d6]
    · refine H2.other fun k q1 => ?_
      have q2 := held_lt H2 q1
      have q3 : k ≠ D := fun e => by
        obtain ⟨o, ho, hc⟩ := held_cells H2 q1
        rw [e, hK] at ho
        injection ho with ho
        rw [← ho] at hc
        cases hc
      rw [hgp.block k (Nat.lt_of_lt_of_le q2 hgs.size) (fun e => q3 (Option.some.inj e)), sc k (by have := hKK k q1; omega) q2]
    · have q3 : k < W.heap.size := Nat.lt_of_lt_of_le q1 S2.size
      rw [hgp.block k (Nat.lt_of_lt_of_le q3 hgs.size) (fun e => by have := Option.some.inj e; omega), sc k (by omega) q3]
      exact S2.keep k q1 q2
  case stop =>
    rintro D c pre W hD _ h _
    exact h.elim
theorem into_calls (st : Option Addr) (ino : Int) (bl ol cl bp op m km : Nat) (n : Int) (β : Bt) (h0 h2 : Hp) (h1 : 1 ≤ m) (hm : m < 4096) (hcap : m ≤ km) (w : World) (hlt : bl < w.heap.size) (hl : w.cell? ⟨bl, ol, none⟩ = some (.slice (some ⟨bp, op, none⟩) m km)) (H : HR Tryz.prog β h0.calm w)
    (hW : ∀ W, HR Tryz.prog β h0.calm W → Calls Tryz.prog 50 #[.pointer st, .int .i64 ino, .int .i64 0, .slice (some ⟨bp, op, none⟩) m m] W fun e W2 => ∃ β2, e = .returned (.tuple #[.int .i64 n, .int .i64 0]) ∧ HR Tryz.prog β2 h2 W2 ∧ St β h0.calm W β2 h2 W2) :
    Calls Tryz.prog 76 #[.pointer st, .int .i64 ino, .slice (some ⟨bl, ol, none⟩) 1 cl] w fun e W' => e = .returned (.int .i64 0) ∧ ∃ β2, HR Tryz.prog β2 h2.calm W' ∧ St β h0.calm w β2 h2.calm W' :=
  callsIn_wide.1 (into_in st ino bl ol cl bp op m km n β h0 h2 h1 hm hcap w hlt hl H hW)
end Go.Proofs.YthloojeefdjpjaaGreatDoor.into
