import Derived.Test.YtmefkfilclkgeaaGrowA
import Derived.Deep.QuietTactic
import Derived.BigQuiet
namespace Go.Proofs.Ytmefkfilclkgeaa.bound
open Go.ChangeShapes Go.WideShapes Go.ChangeAt Go.RowKit
set_option linter.unusedVariables false
/-- the regions up to the k-th one's place, set -/
def SetTo (w : World) (n : Nat) (p : Nat → Int) (E : Int) (k : Nat) (v : Value) (wr : World) : Prop :=
  ∃ n' p' s' t', Own3 wr w.heap.size v n' p' s' t' ∧ Good n' p' s' t' (if k < n then p k else E) ∧ Below w.heap.size w wr
theorem setTo_none {w w1 : World} {n : Nat} {p s t : Nat → Int} {E : Int} (h : Good n p s t E) (hB : Below w.heap.size w w1) : SetTo w n p E 0 (.slice none 0 0) w1 := by
  refine ⟨0, p, s, t, ⟨fun _ => rfl, [], World.ownsRow_nil _ _ _ _, fun k hk => by omega⟩, ⟨fun h => by omega, fun _ => ?_, fun k hk => by omega, fun k hk => by omega, fun k hk => by omega, ?_, fun k hk => by omega, fun k hk => by omega⟩, hB⟩
  · by_cases hn : 0 < n
    · rw [if_pos hn]; exact h.start hn
    · rw [if_neg hn]; exact h.none (by omega)
  · by_cases hn : 0 < n
    · rw [if_pos hn]; have := h.low 0 hn; have := h.top; omega
    · rw [if_neg hn]; exact h.top
theorem Good.cast {n : Nat} {p s t : Nat → Int} {e e' : Int} (h : Good n p s t e) (he : e = e') : Good n p s t e' := he ▸ h
theorem Own3.lt {w : World} {B n k : Nat} {v : Value} {p s t : Nat → Int} (h : Own3 w B v n p s t) (e : v.ownBlock = some k) : k < w.heap.size := by
  obtain ⟨_, xs, h1, _⟩ := h
  exact (h1.lt k e).2
theorem Good.after {n : Nat} {p s t : Nat → Int} {e : Int} (h : Good n p s t e) {k : Nat} (hk : k < n) : (if k + 1 < n then p (k + 1) else e) = p k + s k := by
  by_cases hn : k + 1 < n
  · rw [if_pos hn]; exact h.next k hn
  · rw [if_neg hn]; exact (h.last k (by omega)).symm
theorem set_cells {w wr : World} {B n cap : Nat} {a : Option Addr} {p s t : Nat → Int} {k : Nat} (h : Own3 w B (.slice a n cap) n p s t) (hk : k < n) (hB : Below w.heap.size w wr) :
    ∃ g, a = some ⟨g, 0, none⟩ ∧ wr.cell? ⟨g, k * 3, none⟩ = some (.int .i64 (p k)) ∧ wr.cell? ⟨g, k * 3 + 1, none⟩ = some (.int .i64 (s k)) ∧ wr.cell? ⟨g, k * 3 + 2, none⟩ = some (.int .u8 (t k)) := by
  obtain ⟨_, xs, hown, hx⟩ := h
  obtain ⟨y0, y1, y2⟩ := hx k hk
  rcases hown.2 with ⟨h1, h2⟩ | ⟨g, cap', cur, h1, hb, hgc, hc, hm, hcs, ht⟩
  · omega
  · cases h1
    have hg := (hown.lt g rfl).2
    have hlen : xs.length = n * 3 := hown.1
    exact ⟨g, rfl, (hB.cell hg).trans ((hown.cellAt _ (by omega)).trans y0), (hB.cell hg).trans ((hown.cellAt _ (by omega)).trans y1), (hB.cell hg).trans ((hown.cellAt _ (by omega)).trans y2)⟩
set_option maxHeartbeats 4000000 in
theorem set_walk (B n cap : Nat) (a : Option Addr) (pos cnt st E : Int) (p s t : Nat → Int) (hE : E ≤ 255) (w : World) (hB : B ≤ w.heap.size) (h : Own3 w B (.slice a n cap) n p s t) (hg : Good n p s t E)
    (h0 : 0 ≤ pos) (h1 : pos ≤ 255) (h2 : 0 ≤ cnt) (h3 : cnt ≤ 255) (hst : statusB st = true) :
    Calls Try.prog 43 #[.slice a n cap, .int .i64 pos, .int .i64 cnt, .int .u8 st] w fun e w' => ∃ v n' p' s' t', e = .returned v ∧ Own3 w' w.heap.size v n' p' s' t' ∧ Good n' p' s' t' E ∧ Below w.heap.size w w' := by
  have hn : (n : Int) ≤ E := hg.count
  have kM := good_may h hg (by omega)
  have kE := good_end h hg (by omega)
  have kI := fun w => is_walk st w
  rw [hst] at kI
  have HO : Hid (Own3 w B (.slice a n cap) n p s t) := h
  have HG : Hid (Good n p s t E) := hg
  have HS : Hid (statusB st = true) := hst
  have e0 := hg.top.1
  have e1 := hg.top.2
  have HB : Below w.heap.size w w := Below.refl _ _
  have c1 : ¬ pos < 0 := by omega
  have c2 : ¬ cnt < 0 := by omega
  clear h hg hst
  go_enter Try.func43, Try.ntmps43
  go_wp2_with (first
    | (go_at_call 36; refine (kM _ HB).mono ?_; rintro e w1 ⟨rfl, hb⟩; replace HB := HB.trans (hb.mono HB.size); clear hb)
    | (go_at_call 37; refine (kI _).mono ?_; rintro e w1 ⟨rfl, rfl⟩)
    | (go_at_call 45; refine (kE _ HB).mono ?_; rintro e w1 ⟨rfl, hb⟩; replace HB := HB.trans (hb.mono HB.size); clear hb))
  · have q0 : 0 ≤ (E : Int) := by omega
    have q1 : (E : Int) ≤ E := by omega
    have q2 : (E : Int) ≤ E := by omega
    go_loopw [11, 48] (fun v i wr => ∃ k : Nat, k ≤ n ∧ i = .int .i64 k ∧ SetTo w n p E k v wr) (fun _ i _ => n - (intOf i).toNat)
    case atStart => exact ⟨0, by omega, rfl, setTo_none HG.out HB⟩
    case round =>
      clear HB
      obtain ⟨k, hk, rfl, hset⟩ := hrel
      by_cases hlt : k < n
      · obtain ⟨n1, p1, s1, t1, o1, g1, HB⟩ := hset
        rw [if_pos hlt] at g1
        obtain ⟨g, rfl, x0, x1, x2⟩ := set_cells HO.out hlt HB
        have b1 := HG.out.low k hlt
        have b2 := HG.out.stat k hlt
        have HO1 : Hid (Own3 wr w.heap.size u11 n1 p1 s1 t1) := o1
        have HG1 : Hid (Good n1 p1 s1 t1 (p k)) := g1
        have HX : Hid (statusB (t k) = true) := b2
        have b3 := status_in b2
        clear b2 o1 g1
        go_upto_region 9 with (fail)
        refine wp_region_held_drew (S := fun W => W = (wr.alloc (Obj.cells #[Value.int IntKind.i64 (p k), Value.int IntKind.i64 (s k), Value.int IntKind.u8 (t k)] 70)).drew) (by kernel_rfl) rfl (fun hS => ?_)
        refine wpAnyH_take (i := 0) (v := Value.int .i64 (E)) rfl (by kernel_rfl) (by kernel_rfl) (by kernel_rfl) (fun _ _ _ h => h) (Or.inl ⟨by kernel_rfl, fun W hW => by kernel_rfl⟩) hS ?_
        refine wpAnyH_take (i := 1) (v := Value.pointer (some ⟨wr.heap.size, 0, none⟩)) rfl (by kernel_rfl) (by kernel_rfl) (by kernel_rfl) (fun _ _ _ h => h) (Or.inl ⟨by kernel_rfl, fun W hW => by kernel_rfl⟩) hS ?_
        refine wpAnyH_take (i := 2) (v := Value.int .i64 (p k)) rfl (by kernel_rfl) (by kernel_rfl) (by kernel_rfl) (fun _ _ _ h => h) (Or.inl ⟨by kernel_rfl, fun W hW => by obtain rfl := hW; go_simp⟩) hS ?_
        refine wpAnyH_take (i := 3) (v := Value.int .i64 (max (E) (p k))) rfl (by kernel_rfl) (by kernel_rfl) (by kernel_rfl) (fun _ _ _ h => h) (Or.inl ⟨by kernel_rfl, fun W hW => by go_simp; (try split) <;> omega⟩) hS ?_
        refine wpAnyH_take (i := 4) (v := Value.pointer (some ⟨wr.heap.size, 0, none⟩)) rfl (by kernel_rfl) (by kernel_rfl) (by kernel_rfl) (fun _ _ _ h => h) (Or.inl ⟨by kernel_rfl, fun W hW => by kernel_rfl⟩) hS ?_
        refine wpAnyH_take (i := 5) (v := Value.int .i64 (p k)) rfl (by kernel_rfl) (by kernel_rfl) (by kernel_rfl) (fun _ _ _ h => h) (Or.inl ⟨by kernel_rfl, fun W hW => by obtain rfl := hW; go_simp⟩) hS ?_
        refine wpAnyH_take (i := 6) (v := Value.pointer (some ⟨wr.heap.size, 1, none⟩)) rfl (by kernel_rfl) (by kernel_rfl) (by kernel_rfl) (fun _ _ _ h => h) (Or.inl ⟨by kernel_rfl, fun W hW => by kernel_rfl⟩) hS ?_
        refine wpAnyH_take (i := 7) (v := Value.int .i64 (s k)) rfl (by kernel_rfl) (by kernel_rfl) (by kernel_rfl) (fun _ _ _ h => h) (Or.inl ⟨by kernel_rfl, fun W hW => by obtain rfl := hW; go_simp⟩) hS ?_
        refine wpAnyH_take (i := 8) (v := Value.int .i64 (p k + s k)) rfl (by kernel_rfl) (by kernel_rfl) (by kernel_rfl) (fun _ _ _ h => h) (Or.inl ⟨by kernel_rfl, fun W hW => by go_simp; exact IntWalk.i64_in _ (by omega)⟩) hS ?_
        refine wpAnyH_take (i := 9) (v := Value.int .i64 (min (max (E) (p k)) (p k + s k))) rfl (by kernel_rfl) (by kernel_rfl) (by kernel_rfl) (fun _ _ _ h => h) (Or.inl ⟨by kernel_rfl, fun W hW => by go_simp; (try split) <;> omega⟩) hS ?_
        refine wpAnyH_take (i := 10) (v := Value.int .i64 (E)) rfl (by kernel_rfl) (by kernel_rfl) (by kernel_rfl) (fun _ _ _ h => h) (Or.inl ⟨by kernel_rfl, fun W hW => by kernel_rfl⟩) hS ?_
        refine wpAnyH_take (i := 11) (v := Value.pointer (some ⟨wr.heap.size, 0, none⟩)) rfl (by kernel_rfl) (by kernel_rfl) (by kernel_rfl) (fun _ _ _ h => h) (Or.inl ⟨by kernel_rfl, fun W hW => by kernel_rfl⟩) hS ?_
        refine wpAnyH_take (i := 12) (v := Value.int .i64 (p k)) rfl (by kernel_rfl) (by kernel_rfl) (by kernel_rfl) (fun _ _ _ h => h) (Or.inl ⟨by kernel_rfl, fun W hW => by obtain rfl := hW; go_simp⟩) hS ?_
        refine wpAnyH_take (i := 13) (v := Value.int .i64 (max (E) (p k))) rfl (by kernel_rfl) (by kernel_rfl) (by kernel_rfl) (fun _ _ _ h => h) (Or.inl ⟨by kernel_rfl, fun W hW => by go_simp; (try split) <;> omega⟩) hS ?_
        refine wpAnyH_take (i := 14) (v := Value.pointer (some ⟨wr.heap.size, 0, none⟩)) rfl (by kernel_rfl) (by kernel_rfl) (by kernel_rfl) (fun _ _ _ h => h) (Or.inl ⟨by kernel_rfl, fun W hW => by kernel_rfl⟩) hS ?_
        refine wpAnyH_take (i := 15) (v := Value.int .i64 (p k)) rfl (by kernel_rfl) (by kernel_rfl) (by kernel_rfl) (fun _ _ _ h => h) (Or.inl ⟨by kernel_rfl, fun W hW => by obtain rfl := hW; go_simp⟩) hS ?_
        refine wpAnyH_take (i := 16) (v := Value.pointer (some ⟨wr.heap.size, 1, none⟩)) rfl (by kernel_rfl) (by kernel_rfl) (by kernel_rfl) (fun _ _ _ h => h) (Or.inl ⟨by kernel_rfl, fun W hW => by kernel_rfl⟩) hS ?_
        refine wpAnyH_take (i := 17) (v := Value.int .i64 (s k)) rfl (by kernel_rfl) (by kernel_rfl) (by kernel_rfl) (fun _ _ _ h => h) (Or.inl ⟨by kernel_rfl, fun W hW => by obtain rfl := hW; go_simp⟩) hS ?_
        refine wpAnyH_take (i := 18) (v := Value.int .i64 (p k + s k)) rfl (by kernel_rfl) (by kernel_rfl) (by kernel_rfl) (fun _ _ _ h => h) (Or.inl ⟨by kernel_rfl, fun W hW => by go_simp; exact IntWalk.i64_in _ (by omega)⟩) hS ?_
        refine wpAnyH_take (i := 19) (v := Value.int .i64 (min (max (E) (p k)) (p k + s k))) rfl (by kernel_rfl) (by kernel_rfl) (by kernel_rfl) (fun _ _ _ h => h) (Or.inl ⟨by kernel_rfl, fun W hW => by go_simp; (try split) <;> omega⟩) hS ?_
        refine wpAnyH_take (i := 20) (v := Value.int .i64 (min (max (E) (p k)) (p k + s k))) rfl (by kernel_rfl) (by kernel_rfl) (by kernel_rfl) (fun _ _ _ h => h) (Or.inl ⟨by kernel_rfl, fun W hW => by kernel_rfl⟩) hS ?_
        refine wpAnyH_take (i := 21) (v := Value.int .i64 (min (max (E) (p k)) (p k + s k))) rfl (by kernel_rfl) (by kernel_rfl) (by kernel_rfl) (fun _ _ _ h => h) (Or.inl ⟨by kernel_rfl, fun W hW => by kernel_rfl⟩) hS ?_
        refine wpAnyH_done (by kernel_rfl) ?_ _
        clear hS
        generalize hA : min (max (E) (p k)) (p k + s k) = A
        have r1 : p k ≤ A ∧ A ≤ A ∧ A ≤ p k + s k := by omega
        clear hA q0 q1 q2
        have hb0 : Below wr.heap.size wr (wr.alloc (Obj.cells #[Value.int IntKind.i64 (p k), Value.int IntKind.i64 (s k), Value.int IntKind.u8 (t k)] 70)).drew := ((Below.refl _ wr).alloc (Nat.le_refl _) _).drew
        have hsz := hb0.size
        have hsz2 := HB.size
        have ne1 : ¬ u11.ownBlock = some wr.heap.size := fun e => by have := HO1.out.lt e; omega
        have z0 : ((wr.alloc (Obj.cells #[Value.int IntKind.i64 (p k), Value.int IntKind.i64 (s k), Value.int IntKind.u8 (t k)] 70)).drew).heap[wr.heap.size]? = some (.cells #[Value.int IntKind.i64 (p k), Value.int IntKind.i64 (s k), Value.int IntKind.u8 (t k)] 70 (0, 0)) := heap_alloc_new wr _
        have hlt0 := (Array.getElem?_eq_some_iff.1 z0).1
        go_wp2_with (go_at_call 54; fail)
        refine (push_walk w.heap.size n1 _ p1 s1 t1 _ _ (p k) (by have := HG1.out.count; omega) _ (by omega) (HO1.out.below hb0) HG1.out HX.out (by omega) (by omega)).mono ?_
        rintro en w2 ⟨v2, n2, p2, s2, t2, rfl, hK1, hA1, o2, g2, _, _, hb1⟩
        have HO2 : Hid (Own3 w2 w.heap.size v2 n2 p2 s2 t2) := o2
        have HG2 : Hid (Good n2 p2 s2 t2 A) := g2.cast (by omega)
        have z1 := (hK1 _ hlt0 ne1).trans z0
        have ne2 : ¬ v2.ownBlock = some wr.heap.size := fun e => ne1 (hA1 _ _ _ _ z0 (by simp) e)
        have hB1 := (HB.trans (hb0.mono HB.size)).trans hb1
        clear hK1 hA1 o2 g2 z0 ne1 hb1 hb0 hsz hlt0 HO1 HG1 x0 x1 x2
        have hsz := hB1.size
        have hlt1 := (Array.getElem?_eq_some_iff.1 z1).1
        go_wp2_with (go_at_call 54; fail)
        refine (push_walk w.heap.size n2 _ p2 s2 t2 _ _ A (by have := HG2.out.count; omega) _ (by omega) HO2.out HG2.out HS.out (by omega) (by omega)).mono ?_
        rintro en w3 ⟨v3, n3, p3, s3, t3, rfl, hK2, hA2, o3, g3, _, _, hb2⟩
        have HO3 : Hid (Own3 w3 w.heap.size v3 n3 p3 s3 t3) := o3
        have HG3 : Hid (Good n3 p3 s3 t3 A) := g3.cast (by omega)
        have z2 := (hK2 _ hlt1 ne2).trans z1
        have hB2 := hB1.trans hb2
        clear hK2 hA2 o3 g3 z1 ne2 hb2 HO2 HG2 hB1 hsz hlt1
        have hsz := hB2.size
        have y0 : w3.cell? ⟨wr.heap.size, 0, none⟩ = some (.int .i64 (p k)) := cell_of_row _ _ 0 _ _ _ z2
        have y1 : w3.cell? ⟨wr.heap.size, 1, none⟩ = some (.int .i64 (s k)) := cell_of_row _ _ 1 _ _ _ z2
        have y2 : w3.cell? ⟨wr.heap.size, 2, none⟩ = some (.int .u8 (t k)) := cell_of_row _ _ 2 _ _ _ z2
        clear z2
        go_wp2_with (go_at_call 54; fail)
        refine (push_walk w.heap.size n3 _ p3 s3 t3 _ _ A (by have := HG3.out.count; omega) _ (by omega) HO3.out HG3.out HX.out (by omega) (by omega)).mono ?_
        rintro en w4 ⟨v4, n4, p4, s4, t4, rfl, _, _, o4, g4, _, _, hb3⟩
        have hR : SetTo w n p E (k + 1) v4 w4 := by
          refine ⟨n4, p4, s4, t4, o4, ?_, hB2.trans hb3⟩
          rw [HG.out.after hlt]
          exact g4.cast (by omega)
        clear o4 g4 hb3 HO3 HG3 y0 y1 y2 hB2 HB
        go_wp2
        exact ⟨⟨k + 1, by omega, by simp, hR⟩, by simp [intOf]; omega⟩
      · obtain rfl : k = n := by omega
        obtain ⟨n1, p1, s1, t1, o1, g1, HB⟩ := hset
        rw [if_neg (by omega)] at g1
        go_wp2
        go_ret
        exact ⟨_, _, _, _, _, rfl, o1, g1, HB⟩
  · have q0 : 0 ≤ (E : Int) := by omega
    have q1 : (E : Int) ≤ E + cnt := by omega
    have q2 : (E + cnt : Int) ≤ E := by omega
    go_loopw [11, 48] (fun v i wr => ∃ k : Nat, k ≤ n ∧ i = .int .i64 k ∧ SetTo w n p E k v wr) (fun _ i _ => n - (intOf i).toNat)
    case atStart => exact ⟨0, by omega, rfl, setTo_none HG.out HB⟩
    case round =>
      clear HB
      obtain ⟨k, hk, rfl, hset⟩ := hrel
      by_cases hlt : k < n
      · obtain ⟨n1, p1, s1, t1, o1, g1, HB⟩ := hset
        rw [if_pos hlt] at g1
        obtain ⟨g, rfl, x0, x1, x2⟩ := set_cells HO.out hlt HB
        have b1 := HG.out.low k hlt
        have b2 := HG.out.stat k hlt
        have HO1 : Hid (Own3 wr w.heap.size u11 n1 p1 s1 t1) := o1
        have HG1 : Hid (Good n1 p1 s1 t1 (p k)) := g1
        have HX : Hid (statusB (t k) = true) := b2
        have b3 := status_in b2
        clear b2 o1 g1
        go_upto_region 9 with (fail)
        refine wp_region_held_drew (S := fun W => W = (wr.alloc (Obj.cells #[Value.int IntKind.i64 (p k), Value.int IntKind.i64 (s k), Value.int IntKind.u8 (t k)] 70)).drew) (by kernel_rfl) rfl (fun hS => ?_)
        refine wpAnyH_take (i := 0) (v := Value.int .i64 (E)) rfl (by kernel_rfl) (by kernel_rfl) (by kernel_rfl) (fun _ _ _ h => h) (Or.inl ⟨by kernel_rfl, fun W hW => by kernel_rfl⟩) hS ?_
        refine wpAnyH_take (i := 1) (v := Value.pointer (some ⟨wr.heap.size, 0, none⟩)) rfl (by kernel_rfl) (by kernel_rfl) (by kernel_rfl) (fun _ _ _ h => h) (Or.inl ⟨by kernel_rfl, fun W hW => by kernel_rfl⟩) hS ?_
        refine wpAnyH_take (i := 2) (v := Value.int .i64 (p k)) rfl (by kernel_rfl) (by kernel_rfl) (by kernel_rfl) (fun _ _ _ h => h) (Or.inl ⟨by kernel_rfl, fun W hW => by obtain rfl := hW; go_simp⟩) hS ?_
        refine wpAnyH_take (i := 3) (v := Value.int .i64 (max (E) (p k))) rfl (by kernel_rfl) (by kernel_rfl) (by kernel_rfl) (fun _ _ _ h => h) (Or.inl ⟨by kernel_rfl, fun W hW => by go_simp; (try split) <;> omega⟩) hS ?_
        refine wpAnyH_take (i := 4) (v := Value.pointer (some ⟨wr.heap.size, 0, none⟩)) rfl (by kernel_rfl) (by kernel_rfl) (by kernel_rfl) (fun _ _ _ h => h) (Or.inl ⟨by kernel_rfl, fun W hW => by kernel_rfl⟩) hS ?_
        refine wpAnyH_take (i := 5) (v := Value.int .i64 (p k)) rfl (by kernel_rfl) (by kernel_rfl) (by kernel_rfl) (fun _ _ _ h => h) (Or.inl ⟨by kernel_rfl, fun W hW => by obtain rfl := hW; go_simp⟩) hS ?_
        refine wpAnyH_take (i := 6) (v := Value.pointer (some ⟨wr.heap.size, 1, none⟩)) rfl (by kernel_rfl) (by kernel_rfl) (by kernel_rfl) (fun _ _ _ h => h) (Or.inl ⟨by kernel_rfl, fun W hW => by kernel_rfl⟩) hS ?_
        refine wpAnyH_take (i := 7) (v := Value.int .i64 (s k)) rfl (by kernel_rfl) (by kernel_rfl) (by kernel_rfl) (fun _ _ _ h => h) (Or.inl ⟨by kernel_rfl, fun W hW => by obtain rfl := hW; go_simp⟩) hS ?_
        refine wpAnyH_take (i := 8) (v := Value.int .i64 (p k + s k)) rfl (by kernel_rfl) (by kernel_rfl) (by kernel_rfl) (fun _ _ _ h => h) (Or.inl ⟨by kernel_rfl, fun W hW => by go_simp; exact IntWalk.i64_in _ (by omega)⟩) hS ?_
        refine wpAnyH_take (i := 9) (v := Value.int .i64 (min (max (E) (p k)) (p k + s k))) rfl (by kernel_rfl) (by kernel_rfl) (by kernel_rfl) (fun _ _ _ h => h) (Or.inl ⟨by kernel_rfl, fun W hW => by go_simp; (try split) <;> omega⟩) hS ?_
        refine wpAnyH_take (i := 10) (v := Value.int .i64 (E + cnt)) rfl (by kernel_rfl) (by kernel_rfl) (by kernel_rfl) (fun _ _ _ h => h) (Or.inl ⟨by kernel_rfl, fun W hW => by kernel_rfl⟩) hS ?_
        refine wpAnyH_take (i := 11) (v := Value.pointer (some ⟨wr.heap.size, 0, none⟩)) rfl (by kernel_rfl) (by kernel_rfl) (by kernel_rfl) (fun _ _ _ h => h) (Or.inl ⟨by kernel_rfl, fun W hW => by kernel_rfl⟩) hS ?_
        refine wpAnyH_take (i := 12) (v := Value.int .i64 (p k)) rfl (by kernel_rfl) (by kernel_rfl) (by kernel_rfl) (fun _ _ _ h => h) (Or.inl ⟨by kernel_rfl, fun W hW => by obtain rfl := hW; go_simp⟩) hS ?_
        refine wpAnyH_take (i := 13) (v := Value.int .i64 (max (E + cnt) (p k))) rfl (by kernel_rfl) (by kernel_rfl) (by kernel_rfl) (fun _ _ _ h => h) (Or.inl ⟨by kernel_rfl, fun W hW => by go_simp; (try split) <;> omega⟩) hS ?_
        refine wpAnyH_take (i := 14) (v := Value.pointer (some ⟨wr.heap.size, 0, none⟩)) rfl (by kernel_rfl) (by kernel_rfl) (by kernel_rfl) (fun _ _ _ h => h) (Or.inl ⟨by kernel_rfl, fun W hW => by kernel_rfl⟩) hS ?_
        refine wpAnyH_take (i := 15) (v := Value.int .i64 (p k)) rfl (by kernel_rfl) (by kernel_rfl) (by kernel_rfl) (fun _ _ _ h => h) (Or.inl ⟨by kernel_rfl, fun W hW => by obtain rfl := hW; go_simp⟩) hS ?_
        refine wpAnyH_take (i := 16) (v := Value.pointer (some ⟨wr.heap.size, 1, none⟩)) rfl (by kernel_rfl) (by kernel_rfl) (by kernel_rfl) (fun _ _ _ h => h) (Or.inl ⟨by kernel_rfl, fun W hW => by kernel_rfl⟩) hS ?_
        refine wpAnyH_take (i := 17) (v := Value.int .i64 (s k)) rfl (by kernel_rfl) (by kernel_rfl) (by kernel_rfl) (fun _ _ _ h => h) (Or.inl ⟨by kernel_rfl, fun W hW => by obtain rfl := hW; go_simp⟩) hS ?_
        refine wpAnyH_take (i := 18) (v := Value.int .i64 (p k + s k)) rfl (by kernel_rfl) (by kernel_rfl) (by kernel_rfl) (fun _ _ _ h => h) (Or.inl ⟨by kernel_rfl, fun W hW => by go_simp; exact IntWalk.i64_in _ (by omega)⟩) hS ?_
        refine wpAnyH_take (i := 19) (v := Value.int .i64 (min (max (E + cnt) (p k)) (p k + s k))) rfl (by kernel_rfl) (by kernel_rfl) (by kernel_rfl) (fun _ _ _ h => h) (Or.inl ⟨by kernel_rfl, fun W hW => by go_simp; (try split) <;> omega⟩) hS ?_
        refine wpAnyH_take (i := 20) (v := Value.int .i64 (min (max (E) (p k)) (p k + s k))) rfl (by kernel_rfl) (by kernel_rfl) (by kernel_rfl) (fun _ _ _ h => h) (Or.inl ⟨by kernel_rfl, fun W hW => by kernel_rfl⟩) hS ?_
        refine wpAnyH_take (i := 21) (v := Value.int .i64 (min (max (E + cnt) (p k)) (p k + s k))) rfl (by kernel_rfl) (by kernel_rfl) (by kernel_rfl) (fun _ _ _ h => h) (Or.inl ⟨by kernel_rfl, fun W hW => by kernel_rfl⟩) hS ?_
        refine wpAnyH_done (by kernel_rfl) ?_ _
        clear hS
        generalize hA : min (max (E) (p k)) (p k + s k) = A
        generalize hBv : min (max (E + cnt) (p k)) (p k + s k) = Bv
        have r1 : p k ≤ A ∧ A ≤ Bv ∧ Bv ≤ p k + s k := by omega
        clear hA hBv q0 q1 q2
        have hb0 : Below wr.heap.size wr (wr.alloc (Obj.cells #[Value.int IntKind.i64 (p k), Value.int IntKind.i64 (s k), Value.int IntKind.u8 (t k)] 70)).drew := ((Below.refl _ wr).alloc (Nat.le_refl _) _).drew
        have hsz := hb0.size
        have hsz2 := HB.size
        have ne1 : ¬ u11.ownBlock = some wr.heap.size := fun e => by have := HO1.out.lt e; omega
        have z0 : ((wr.alloc (Obj.cells #[Value.int IntKind.i64 (p k), Value.int IntKind.i64 (s k), Value.int IntKind.u8 (t k)] 70)).drew).heap[wr.heap.size]? = some (.cells #[Value.int IntKind.i64 (p k), Value.int IntKind.i64 (s k), Value.int IntKind.u8 (t k)] 70 (0, 0)) := heap_alloc_new wr _
        have hlt0 := (Array.getElem?_eq_some_iff.1 z0).1
        go_wp2_with (go_at_call 54; fail)
        refine (push_walk w.heap.size n1 _ p1 s1 t1 _ _ (p k) (by have := HG1.out.count; omega) _ (by omega) (HO1.out.below hb0) HG1.out HX.out (by omega) (by omega)).mono ?_
        rintro en w2 ⟨v2, n2, p2, s2, t2, rfl, hK1, hA1, o2, g2, _, _, hb1⟩
        have HO2 : Hid (Own3 w2 w.heap.size v2 n2 p2 s2 t2) := o2
        have HG2 : Hid (Good n2 p2 s2 t2 A) := g2.cast (by omega)
        have z1 := (hK1 _ hlt0 ne1).trans z0
        have ne2 : ¬ v2.ownBlock = some wr.heap.size := fun e => ne1 (hA1 _ _ _ _ z0 (by simp) e)
        have hB1 := (HB.trans (hb0.mono HB.size)).trans hb1
        clear hK1 hA1 o2 g2 z0 ne1 hb1 hb0 hsz hlt0 HO1 HG1 x0 x1 x2
        have hsz := hB1.size
        have hlt1 := (Array.getElem?_eq_some_iff.1 z1).1
        go_wp2_with (go_at_call 54; fail)
        refine (push_walk w.heap.size n2 _ p2 s2 t2 _ _ A (by have := HG2.out.count; omega) _ (by omega) HO2.out HG2.out HS.out (by omega) (by omega)).mono ?_
        rintro en w3 ⟨v3, n3, p3, s3, t3, rfl, hK2, hA2, o3, g3, _, _, hb2⟩
        have HO3 : Hid (Own3 w3 w.heap.size v3 n3 p3 s3 t3) := o3
        have HG3 : Hid (Good n3 p3 s3 t3 Bv) := g3.cast (by omega)
        have z2 := (hK2 _ hlt1 ne2).trans z1
        have hB2 := hB1.trans hb2
        clear hK2 hA2 o3 g3 z1 ne2 hb2 HO2 HG2 hB1 hsz hlt1
        have hsz := hB2.size
        have y0 : w3.cell? ⟨wr.heap.size, 0, none⟩ = some (.int .i64 (p k)) := cell_of_row _ _ 0 _ _ _ z2
        have y1 : w3.cell? ⟨wr.heap.size, 1, none⟩ = some (.int .i64 (s k)) := cell_of_row _ _ 1 _ _ _ z2
        have y2 : w3.cell? ⟨wr.heap.size, 2, none⟩ = some (.int .u8 (t k)) := cell_of_row _ _ 2 _ _ _ z2
        clear z2
        go_wp2_with (go_at_call 54; fail)
        refine (push_walk w.heap.size n3 _ p3 s3 t3 _ _ Bv (by have := HG3.out.count; omega) _ (by omega) HO3.out HG3.out HX.out (by omega) (by omega)).mono ?_
        rintro en w4 ⟨v4, n4, p4, s4, t4, rfl, _, _, o4, g4, _, _, hb3⟩
        have hR : SetTo w n p E (k + 1) v4 w4 := by
          refine ⟨n4, p4, s4, t4, o4, ?_, hB2.trans hb3⟩
          rw [HG.out.after hlt]
          exact g4.cast (by omega)
        clear o4 g4 hb3 HO3 HG3 y0 y1 y2 hB2 HB
        go_wp2
        exact ⟨⟨k + 1, by omega, by simp, hR⟩, by simp [intOf]; omega⟩
      · obtain rfl : k = n := by omega
        obtain ⟨n1, p1, s1, t1, o1, g1, HB⟩ := hset
        rw [if_neg (by omega)] at g1
        go_wp2
        go_ret
        exact ⟨_, _, _, _, _, rfl, o1, g1, HB⟩
  · have q0 : 0 ≤ (pos : Int) := by omega
    have q1 : (pos : Int) ≤ pos + (E - pos) := by omega
    have q2 : (pos + (E - pos) : Int) ≤ E := by omega
    go_loopw [11, 48] (fun v i wr => ∃ k : Nat, k ≤ n ∧ i = .int .i64 k ∧ SetTo w n p E k v wr) (fun _ i _ => n - (intOf i).toNat)
    case atStart => exact ⟨0, by omega, rfl, setTo_none HG.out HB⟩
    case round =>
      clear HB
      obtain ⟨k, hk, rfl, hset⟩ := hrel
      by_cases hlt : k < n
      · obtain ⟨n1, p1, s1, t1, o1, g1, HB⟩ := hset
        rw [if_pos hlt] at g1
        obtain ⟨g, rfl, x0, x1, x2⟩ := set_cells HO.out hlt HB
        have b1 := HG.out.low k hlt
        have b2 := HG.out.stat k hlt
        have HO1 : Hid (Own3 wr w.heap.size u11 n1 p1 s1 t1) := o1
        have HG1 : Hid (Good n1 p1 s1 t1 (p k)) := g1
        have HX : Hid (statusB (t k) = true) := b2
        have b3 := status_in b2
        clear b2 o1 g1
        go_upto_region 9 with (fail)
        refine wp_region_held_drew (S := fun W => W = (wr.alloc (Obj.cells #[Value.int IntKind.i64 (p k), Value.int IntKind.i64 (s k), Value.int IntKind.u8 (t k)] 70)).drew) (by kernel_rfl) rfl (fun hS => ?_)
        refine wpAnyH_take (i := 0) (v := Value.int .i64 (pos)) rfl (by kernel_rfl) (by kernel_rfl) (by kernel_rfl) (fun _ _ _ h => h) (Or.inl ⟨by kernel_rfl, fun W hW => by kernel_rfl⟩) hS ?_
        refine wpAnyH_take (i := 1) (v := Value.pointer (some ⟨wr.heap.size, 0, none⟩)) rfl (by kernel_rfl) (by kernel_rfl) (by kernel_rfl) (fun _ _ _ h => h) (Or.inl ⟨by kernel_rfl, fun W hW => by kernel_rfl⟩) hS ?_
        refine wpAnyH_take (i := 2) (v := Value.int .i64 (p k)) rfl (by kernel_rfl) (by kernel_rfl) (by kernel_rfl) (fun _ _ _ h => h) (Or.inl ⟨by kernel_rfl, fun W hW => by obtain rfl := hW; go_simp⟩) hS ?_
        refine wpAnyH_take (i := 3) (v := Value.int .i64 (max (pos) (p k))) rfl (by kernel_rfl) (by kernel_rfl) (by kernel_rfl) (fun _ _ _ h => h) (Or.inl ⟨by kernel_rfl, fun W hW => by go_simp; (try split) <;> omega⟩) hS ?_
        refine wpAnyH_take (i := 4) (v := Value.pointer (some ⟨wr.heap.size, 0, none⟩)) rfl (by kernel_rfl) (by kernel_rfl) (by kernel_rfl) (fun _ _ _ h => h) (Or.inl ⟨by kernel_rfl, fun W hW => by kernel_rfl⟩) hS ?_
        refine wpAnyH_take (i := 5) (v := Value.int .i64 (p k)) rfl (by kernel_rfl) (by kernel_rfl) (by kernel_rfl) (fun _ _ _ h => h) (Or.inl ⟨by kernel_rfl, fun W hW => by obtain rfl := hW; go_simp⟩) hS ?_
        refine wpAnyH_take (i := 6) (v := Value.pointer (some ⟨wr.heap.size, 1, none⟩)) rfl (by kernel_rfl) (by kernel_rfl) (by kernel_rfl) (fun _ _ _ h => h) (Or.inl ⟨by kernel_rfl, fun W hW => by kernel_rfl⟩) hS ?_
        refine wpAnyH_take (i := 7) (v := Value.int .i64 (s k)) rfl (by kernel_rfl) (by kernel_rfl) (by kernel_rfl) (fun _ _ _ h => h) (Or.inl ⟨by kernel_rfl, fun W hW => by obtain rfl := hW; go_simp⟩) hS ?_
        refine wpAnyH_take (i := 8) (v := Value.int .i64 (p k + s k)) rfl (by kernel_rfl) (by kernel_rfl) (by kernel_rfl) (fun _ _ _ h => h) (Or.inl ⟨by kernel_rfl, fun W hW => by go_simp; exact IntWalk.i64_in _ (by omega)⟩) hS ?_
        refine wpAnyH_take (i := 9) (v := Value.int .i64 (min (max (pos) (p k)) (p k + s k))) rfl (by kernel_rfl) (by kernel_rfl) (by kernel_rfl) (fun _ _ _ h => h) (Or.inl ⟨by kernel_rfl, fun W hW => by go_simp; (try split) <;> omega⟩) hS ?_
        refine wpAnyH_take (i := 10) (v := Value.int .i64 (pos + (E - pos))) rfl (by kernel_rfl) (by kernel_rfl) (by kernel_rfl) (fun _ _ _ h => h) (Or.inl ⟨by kernel_rfl, fun W hW => by kernel_rfl⟩) hS ?_
        refine wpAnyH_take (i := 11) (v := Value.pointer (some ⟨wr.heap.size, 0, none⟩)) rfl (by kernel_rfl) (by kernel_rfl) (by kernel_rfl) (fun _ _ _ h => h) (Or.inl ⟨by kernel_rfl, fun W hW => by kernel_rfl⟩) hS ?_
        refine wpAnyH_take (i := 12) (v := Value.int .i64 (p k)) rfl (by kernel_rfl) (by kernel_rfl) (by kernel_rfl) (fun _ _ _ h => h) (Or.inl ⟨by kernel_rfl, fun W hW => by obtain rfl := hW; go_simp⟩) hS ?_
        refine wpAnyH_take (i := 13) (v := Value.int .i64 (max (pos + (E - pos)) (p k))) rfl (by kernel_rfl) (by kernel_rfl) (by kernel_rfl) (fun _ _ _ h => h) (Or.inl ⟨by kernel_rfl, fun W hW => by go_simp; (try split) <;> omega⟩) hS ?_
        refine wpAnyH_take (i := 14) (v := Value.pointer (some ⟨wr.heap.size, 0, none⟩)) rfl (by kernel_rfl) (by kernel_rfl) (by kernel_rfl) (fun _ _ _ h => h) (Or.inl ⟨by kernel_rfl, fun W hW => by kernel_rfl⟩) hS ?_
        refine wpAnyH_take (i := 15) (v := Value.int .i64 (p k)) rfl (by kernel_rfl) (by kernel_rfl) (by kernel_rfl) (fun _ _ _ h => h) (Or.inl ⟨by kernel_rfl, fun W hW => by obtain rfl := hW; go_simp⟩) hS ?_
        refine wpAnyH_take (i := 16) (v := Value.pointer (some ⟨wr.heap.size, 1, none⟩)) rfl (by kernel_rfl) (by kernel_rfl) (by kernel_rfl) (fun _ _ _ h => h) (Or.inl ⟨by kernel_rfl, fun W hW => by kernel_rfl⟩) hS ?_
        refine wpAnyH_take (i := 17) (v := Value.int .i64 (s k)) rfl (by kernel_rfl) (by kernel_rfl) (by kernel_rfl) (fun _ _ _ h => h) (Or.inl ⟨by kernel_rfl, fun W hW => by obtain rfl := hW; go_simp⟩) hS ?_
        refine wpAnyH_take (i := 18) (v := Value.int .i64 (p k + s k)) rfl (by kernel_rfl) (by kernel_rfl) (by kernel_rfl) (fun _ _ _ h => h) (Or.inl ⟨by kernel_rfl, fun W hW => by go_simp; exact IntWalk.i64_in _ (by omega)⟩) hS ?_
        refine wpAnyH_take (i := 19) (v := Value.int .i64 (min (max (pos + (E - pos)) (p k)) (p k + s k))) rfl (by kernel_rfl) (by kernel_rfl) (by kernel_rfl) (fun _ _ _ h => h) (Or.inl ⟨by kernel_rfl, fun W hW => by go_simp; (try split) <;> omega⟩) hS ?_
        refine wpAnyH_take (i := 20) (v := Value.int .i64 (min (max (pos) (p k)) (p k + s k))) rfl (by kernel_rfl) (by kernel_rfl) (by kernel_rfl) (fun _ _ _ h => h) (Or.inl ⟨by kernel_rfl, fun W hW => by kernel_rfl⟩) hS ?_
        refine wpAnyH_take (i := 21) (v := Value.int .i64 (min (max (pos + (E - pos)) (p k)) (p k + s k))) rfl (by kernel_rfl) (by kernel_rfl) (by kernel_rfl) (fun _ _ _ h => h) (Or.inl ⟨by kernel_rfl, fun W hW => by kernel_rfl⟩) hS ?_
        refine wpAnyH_done (by kernel_rfl) ?_ _
        clear hS
        generalize hA : min (max (pos) (p k)) (p k + s k) = A
        generalize hBv : min (max (pos + (E - pos)) (p k)) (p k + s k) = Bv
        have r1 : p k ≤ A ∧ A ≤ Bv ∧ Bv ≤ p k + s k := by omega
        clear hA hBv q0 q1 q2
        have hb0 : Below wr.heap.size wr (wr.alloc (Obj.cells #[Value.int IntKind.i64 (p k), Value.int IntKind.i64 (s k), Value.int IntKind.u8 (t k)] 70)).drew := ((Below.refl _ wr).alloc (Nat.le_refl _) _).drew
        have hsz := hb0.size
        have hsz2 := HB.size
        have ne1 : ¬ u11.ownBlock = some wr.heap.size := fun e => by have := HO1.out.lt e; omega
        have z0 : ((wr.alloc (Obj.cells #[Value.int IntKind.i64 (p k), Value.int IntKind.i64 (s k), Value.int IntKind.u8 (t k)] 70)).drew).heap[wr.heap.size]? = some (.cells #[Value.int IntKind.i64 (p k), Value.int IntKind.i64 (s k), Value.int IntKind.u8 (t k)] 70 (0, 0)) := heap_alloc_new wr _
        have hlt0 := (Array.getElem?_eq_some_iff.1 z0).1
        go_wp2_with (go_at_call 54; fail)
        refine (push_walk w.heap.size n1 _ p1 s1 t1 _ _ (p k) (by have := HG1.out.count; omega) _ (by omega) (HO1.out.below hb0) HG1.out HX.out (by omega) (by omega)).mono ?_
        rintro en w2 ⟨v2, n2, p2, s2, t2, rfl, hK1, hA1, o2, g2, _, _, hb1⟩
        have HO2 : Hid (Own3 w2 w.heap.size v2 n2 p2 s2 t2) := o2
        have HG2 : Hid (Good n2 p2 s2 t2 A) := g2.cast (by omega)
        have z1 := (hK1 _ hlt0 ne1).trans z0
        have ne2 : ¬ v2.ownBlock = some wr.heap.size := fun e => ne1 (hA1 _ _ _ _ z0 (by simp) e)
        have hB1 := (HB.trans (hb0.mono HB.size)).trans hb1
        clear hK1 hA1 o2 g2 z0 ne1 hb1 hb0 hsz hlt0 HO1 HG1 x0 x1 x2
        have hsz := hB1.size
        have hlt1 := (Array.getElem?_eq_some_iff.1 z1).1
        go_wp2_with (go_at_call 54; fail)
        refine (push_walk w.heap.size n2 _ p2 s2 t2 _ _ A (by have := HG2.out.count; omega) _ (by omega) HO2.out HG2.out HS.out (by omega) (by omega)).mono ?_
        rintro en w3 ⟨v3, n3, p3, s3, t3, rfl, hK2, hA2, o3, g3, _, _, hb2⟩
        have HO3 : Hid (Own3 w3 w.heap.size v3 n3 p3 s3 t3) := o3
        have HG3 : Hid (Good n3 p3 s3 t3 Bv) := g3.cast (by omega)
        have z2 := (hK2 _ hlt1 ne2).trans z1
        have hB2 := hB1.trans hb2
        clear hK2 hA2 o3 g3 z1 ne2 hb2 HO2 HG2 hB1 hsz hlt1
        have hsz := hB2.size
        have y0 : w3.cell? ⟨wr.heap.size, 0, none⟩ = some (.int .i64 (p k)) := cell_of_row _ _ 0 _ _ _ z2
        have y1 : w3.cell? ⟨wr.heap.size, 1, none⟩ = some (.int .i64 (s k)) := cell_of_row _ _ 1 _ _ _ z2
        have y2 : w3.cell? ⟨wr.heap.size, 2, none⟩ = some (.int .u8 (t k)) := cell_of_row _ _ 2 _ _ _ z2
        clear z2
        go_wp2_with (go_at_call 54; fail)
        refine (push_walk w.heap.size n3 _ p3 s3 t3 _ _ Bv (by have := HG3.out.count; omega) _ (by omega) HO3.out HG3.out HX.out (by omega) (by omega)).mono ?_
        rintro en w4 ⟨v4, n4, p4, s4, t4, rfl, _, _, o4, g4, _, _, hb3⟩
        have hR : SetTo w n p E (k + 1) v4 w4 := by
          refine ⟨n4, p4, s4, t4, o4, ?_, hB2.trans hb3⟩
          rw [HG.out.after hlt]
          exact g4.cast (by omega)
        clear o4 g4 hb3 HO3 HG3 y0 y1 y2 hB2 HB
        go_wp2
        exact ⟨⟨k + 1, by omega, by simp, hR⟩, by simp [intOf]; omega⟩
      · obtain rfl : k = n := by omega
        obtain ⟨n1, p1, s1, t1, o1, g1, HB⟩ := hset
        rw [if_neg (by omega)] at g1
        go_wp2
        go_ret
        exact ⟨_, _, _, _, _, rfl, o1, g1, HB⟩
  · have q0 : 0 ≤ (pos : Int) := by omega
    have q1 : (pos : Int) ≤ pos + cnt := by omega
    have q2 : (pos + cnt : Int) ≤ E := by omega
    go_loopw [11, 48] (fun v i wr => ∃ k : Nat, k ≤ n ∧ i = .int .i64 k ∧ SetTo w n p E k v wr) (fun _ i _ => n - (intOf i).toNat)
    case atStart => exact ⟨0, by omega, rfl, setTo_none HG.out HB⟩
    case round =>
      clear HB
      obtain ⟨k, hk, rfl, hset⟩ := hrel
      by_cases hlt : k < n
      · obtain ⟨n1, p1, s1, t1, o1, g1, HB⟩ := hset
        rw [if_pos hlt] at g1
        obtain ⟨g, rfl, x0, x1, x2⟩ := set_cells HO.out hlt HB
        have b1 := HG.out.low k hlt
        have b2 := HG.out.stat k hlt
        have HO1 : Hid (Own3 wr w.heap.size u11 n1 p1 s1 t1) := o1
        have HG1 : Hid (Good n1 p1 s1 t1 (p k)) := g1
        have HX : Hid (statusB (t k) = true) := b2
        have b3 := status_in b2
        clear b2 o1 g1
        go_upto_region 9 with (fail)
        refine wp_region_held_drew (S := fun W => W = (wr.alloc (Obj.cells #[Value.int IntKind.i64 (p k), Value.int IntKind.i64 (s k), Value.int IntKind.u8 (t k)] 70)).drew) (by kernel_rfl) rfl (fun hS => ?_)
        refine wpAnyH_take (i := 0) (v := Value.int .i64 (pos)) rfl (by kernel_rfl) (by kernel_rfl) (by kernel_rfl) (fun _ _ _ h => h) (Or.inl ⟨by kernel_rfl, fun W hW => by kernel_rfl⟩) hS ?_
        refine wpAnyH_take (i := 1) (v := Value.pointer (some ⟨wr.heap.size, 0, none⟩)) rfl (by kernel_rfl) (by kernel_rfl) (by kernel_rfl) (fun _ _ _ h => h) (Or.inl ⟨by kernel_rfl, fun W hW => by kernel_rfl⟩) hS ?_
        refine wpAnyH_take (i := 2) (v := Value.int .i64 (p k)) rfl (by kernel_rfl) (by kernel_rfl) (by kernel_rfl) (fun _ _ _ h => h) (Or.inl ⟨by kernel_rfl, fun W hW => by obtain rfl := hW; go_simp⟩) hS ?_
        refine wpAnyH_take (i := 3) (v := Value.int .i64 (max (pos) (p k))) rfl (by kernel_rfl) (by kernel_rfl) (by kernel_rfl) (fun _ _ _ h => h) (Or.inl ⟨by kernel_rfl, fun W hW => by go_simp; (try split) <;> omega⟩) hS ?_
        refine wpAnyH_take (i := 4) (v := Value.pointer (some ⟨wr.heap.size, 0, none⟩)) rfl (by kernel_rfl) (by kernel_rfl) (by kernel_rfl) (fun _ _ _ h => h) (Or.inl ⟨by kernel_rfl, fun W hW => by kernel_rfl⟩) hS ?_
        refine wpAnyH_take (i := 5) (v := Value.int .i64 (p k)) rfl (by kernel_rfl) (by kernel_rfl) (by kernel_rfl) (fun _ _ _ h => h) (Or.inl ⟨by kernel_rfl, fun W hW => by obtain rfl := hW; go_simp⟩) hS ?_
        refine wpAnyH_take (i := 6) (v := Value.pointer (some ⟨wr.heap.size, 1, none⟩)) rfl (by kernel_rfl) (by kernel_rfl) (by kernel_rfl) (fun _ _ _ h => h) (Or.inl ⟨by kernel_rfl, fun W hW => by kernel_rfl⟩) hS ?_
        refine wpAnyH_take (i := 7) (v := Value.int .i64 (s k)) rfl (by kernel_rfl) (by kernel_rfl) (by kernel_rfl) (fun _ _ _ h => h) (Or.inl ⟨by kernel_rfl, fun W hW => by obtain rfl := hW; go_simp⟩) hS ?_
        refine wpAnyH_take (i := 8) (v := Value.int .i64 (p k + s k)) rfl (by kernel_rfl) (by kernel_rfl) (by kernel_rfl) (fun _ _ _ h => h) (Or.inl ⟨by kernel_rfl, fun W hW => by go_simp; exact IntWalk.i64_in _ (by omega)⟩) hS ?_
        refine wpAnyH_take (i := 9) (v := Value.int .i64 (min (max (pos) (p k)) (p k + s k))) rfl (by kernel_rfl) (by kernel_rfl) (by kernel_rfl) (fun _ _ _ h => h) (Or.inl ⟨by kernel_rfl, fun W hW => by go_simp; (try split) <;> omega⟩) hS ?_
        refine wpAnyH_take (i := 10) (v := Value.int .i64 (pos + cnt)) rfl (by kernel_rfl) (by kernel_rfl) (by kernel_rfl) (fun _ _ _ h => h) (Or.inl ⟨by kernel_rfl, fun W hW => by kernel_rfl⟩) hS ?_
        refine wpAnyH_take (i := 11) (v := Value.pointer (some ⟨wr.heap.size, 0, none⟩)) rfl (by kernel_rfl) (by kernel_rfl) (by kernel_rfl) (fun _ _ _ h => h) (Or.inl ⟨by kernel_rfl, fun W hW => by kernel_rfl⟩) hS ?_
        refine wpAnyH_take (i := 12) (v := Value.int .i64 (p k)) rfl (by kernel_rfl) (by kernel_rfl) (by kernel_rfl) (fun _ _ _ h => h) (Or.inl ⟨by kernel_rfl, fun W hW => by obtain rfl := hW; go_simp⟩) hS ?_
        refine wpAnyH_take (i := 13) (v := Value.int .i64 (max (pos + cnt) (p k))) rfl (by kernel_rfl) (by kernel_rfl) (by kernel_rfl) (fun _ _ _ h => h) (Or.inl ⟨by kernel_rfl, fun W hW => by go_simp; (try split) <;> omega⟩) hS ?_
        refine wpAnyH_take (i := 14) (v := Value.pointer (some ⟨wr.heap.size, 0, none⟩)) rfl (by kernel_rfl) (by kernel_rfl) (by kernel_rfl) (fun _ _ _ h => h) (Or.inl ⟨by kernel_rfl, fun W hW => by kernel_rfl⟩) hS ?_
        refine wpAnyH_take (i := 15) (v := Value.int .i64 (p k)) rfl (by kernel_rfl) (by kernel_rfl) (by kernel_rfl) (fun _ _ _ h => h) (Or.inl ⟨by kernel_rfl, fun W hW => by obtain rfl := hW; go_simp⟩) hS ?_
        refine wpAnyH_take (i := 16) (v := Value.pointer (some ⟨wr.heap.size, 1, none⟩)) rfl (by kernel_rfl) (by kernel_rfl) (by kernel_rfl) (fun _ _ _ h => h) (Or.inl ⟨by kernel_rfl, fun W hW => by kernel_rfl⟩) hS ?_
        refine wpAnyH_take (i := 17) (v := Value.int .i64 (s k)) rfl (by kernel_rfl) (by kernel_rfl) (by kernel_rfl) (fun _ _ _ h => h) (Or.inl ⟨by kernel_rfl, fun W hW => by obtain rfl := hW; go_simp⟩) hS ?_
        refine wpAnyH_take (i := 18) (v := Value.int .i64 (p k + s k)) rfl (by kernel_rfl) (by kernel_rfl) (by kernel_rfl) (fun _ _ _ h => h) (Or.inl ⟨by kernel_rfl, fun W hW => by go_simp; exact IntWalk.i64_in _ (by omega)⟩) hS ?_
        refine wpAnyH_take (i := 19) (v := Value.int .i64 (min (max (pos + cnt) (p k)) (p k + s k))) rfl (by kernel_rfl) (by kernel_rfl) (by kernel_rfl) (fun _ _ _ h => h) (Or.inl ⟨by kernel_rfl, fun W hW => by go_simp; (try split) <;> omega⟩) hS ?_
        refine wpAnyH_take (i := 20) (v := Value.int .i64 (min (max (pos) (p k)) (p k + s k))) rfl (by kernel_rfl) (by kernel_rfl) (by kernel_rfl) (fun _ _ _ h => h) (Or.inl ⟨by kernel_rfl, fun W hW => by kernel_rfl⟩) hS ?_
        refine wpAnyH_take (i := 21) (v := Value.int .i64 (min (max (pos + cnt) (p k)) (p k + s k))) rfl (by kernel_rfl) (by kernel_rfl) (by kernel_rfl) (fun _ _ _ h => h) (Or.inl ⟨by kernel_rfl, fun W hW => by kernel_rfl⟩) hS ?_
        refine wpAnyH_done (by kernel_rfl) ?_ _
        clear hS
        generalize hA : min (max (pos) (p k)) (p k + s k) = A
        generalize hBv : min (max (pos + cnt) (p k)) (p k + s k) = Bv
        have r1 : p k ≤ A ∧ A ≤ Bv ∧ Bv ≤ p k + s k := by omega
        clear hA hBv q0 q1 q2
        have hb0 : Below wr.heap.size wr (wr.alloc (Obj.cells #[Value.int IntKind.i64 (p k), Value.int IntKind.i64 (s k), Value.int IntKind.u8 (t k)] 70)).drew := ((Below.refl _ wr).alloc (Nat.le_refl _) _).drew
        have hsz := hb0.size
        have hsz2 := HB.size
        have ne1 : ¬ u11.ownBlock = some wr.heap.size := fun e => by have := HO1.out.lt e; omega
        have z0 : ((wr.alloc (Obj.cells #[Value.int IntKind.i64 (p k), Value.int IntKind.i64 (s k), Value.int IntKind.u8 (t k)] 70)).drew).heap[wr.heap.size]? = some (.cells #[Value.int IntKind.i64 (p k), Value.int IntKind.i64 (s k), Value.int IntKind.u8 (t k)] 70 (0, 0)) := heap_alloc_new wr _
        have hlt0 := (Array.getElem?_eq_some_iff.1 z0).1
        go_wp2_with (go_at_call 54; fail)
        refine (push_walk w.heap.size n1 _ p1 s1 t1 _ _ (p k) (by have := HG1.out.count; omega) _ (by omega) (HO1.out.below hb0) HG1.out HX.out (by omega) (by omega)).mono ?_
        rintro en w2 ⟨v2, n2, p2, s2, t2, rfl, hK1, hA1, o2, g2, _, _, hb1⟩
        have HO2 : Hid (Own3 w2 w.heap.size v2 n2 p2 s2 t2) := o2
        have HG2 : Hid (Good n2 p2 s2 t2 A) := g2.cast (by omega)
        have z1 := (hK1 _ hlt0 ne1).trans z0
        have ne2 : ¬ v2.ownBlock = some wr.heap.size := fun e => ne1 (hA1 _ _ _ _ z0 (by simp) e)
        have hB1 := (HB.trans (hb0.mono HB.size)).trans hb1
        clear hK1 hA1 o2 g2 z0 ne1 hb1 hb0 hsz hlt0 HO1 HG1 x0 x1 x2
        have hsz := hB1.size
        have hlt1 := (Array.getElem?_eq_some_iff.1 z1).1
        go_wp2_with (go_at_call 54; fail)
        refine (push_walk w.heap.size n2 _ p2 s2 t2 _ _ A (by have := HG2.out.count; omega) _ (by omega) HO2.out HG2.out HS.out (by omega) (by omega)).mono ?_
        rintro en w3 ⟨v3, n3, p3, s3, t3, rfl, hK2, hA2, o3, g3, _, _, hb2⟩
        have HO3 : Hid (Own3 w3 w.heap.size v3 n3 p3 s3 t3) := o3
        have HG3 : Hid (Good n3 p3 s3 t3 Bv) := g3.cast (by omega)
        have z2 := (hK2 _ hlt1 ne2).trans z1
        have hB2 := hB1.trans hb2
        clear hK2 hA2 o3 g3 z1 ne2 hb2 HO2 HG2 hB1 hsz hlt1
        have hsz := hB2.size
        have y0 : w3.cell? ⟨wr.heap.size, 0, none⟩ = some (.int .i64 (p k)) := cell_of_row _ _ 0 _ _ _ z2
        have y1 : w3.cell? ⟨wr.heap.size, 1, none⟩ = some (.int .i64 (s k)) := cell_of_row _ _ 1 _ _ _ z2
        have y2 : w3.cell? ⟨wr.heap.size, 2, none⟩ = some (.int .u8 (t k)) := cell_of_row _ _ 2 _ _ _ z2
        clear z2
        go_wp2_with (go_at_call 54; fail)
        refine (push_walk w.heap.size n3 _ p3 s3 t3 _ _ Bv (by have := HG3.out.count; omega) _ (by omega) HO3.out HG3.out HX.out (by omega) (by omega)).mono ?_
        rintro en w4 ⟨v4, n4, p4, s4, t4, rfl, _, _, o4, g4, _, _, hb3⟩
        have hR : SetTo w n p E (k + 1) v4 w4 := by
          refine ⟨n4, p4, s4, t4, o4, ?_, hB2.trans hb3⟩
          rw [HG.out.after hlt]
          exact g4.cast (by omega)
        clear o4 g4 hb3 HO3 HG3 y0 y1 y2 hB2 HB
        go_wp2
        exact ⟨⟨k + 1, by omega, by simp, hR⟩, by simp [intOf]; omega⟩
      · obtain rfl : k = n := by omega
        obtain ⟨n1, p1, s1, t1, o1, g1, HB⟩ := hset
        rw [if_neg (by omega)] at g1
        go_wp2
        go_ret
        exact ⟨_, _, _, _, _, rfl, o1, g1, HB⟩
end Go.Proofs.Ytmefkfilclkgeaa.bound
