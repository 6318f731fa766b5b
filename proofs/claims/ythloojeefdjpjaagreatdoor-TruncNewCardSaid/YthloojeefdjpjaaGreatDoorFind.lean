/- arg.Find: the last value of a key, by the range over slices.Backward. -/
import Derived.Test.YthloojeefdjpjaaGreatDoorRows
import Derived.RangeFuncNested
import Derived.RangeFuncLeaves
import Derived.RangeFuncBox
import Derived.Shelf.Abstract
import Derived.WalkKit
import Derived.OwnWalkIn
import Derived.TacticsInMore
import Derived.LoopNIn
import Derived.LoopIn
import Derived.WalkSmall
namespace Go.Proofs.YthloojeefdjpjaaGreatDoor.find
open Go Go.RowKit Go.Shelf
attribute [local go_sem] Oper.semAt_some
set_option linter.unusedVariables false

/-- a key and its value -/
abbrev Kv := ByteArray × ByteArray
def upto {α : Type} (f : Nat → α) (k : Nat) : List α := (List.range k).map f
theorem upto_succ {α : Type} (f : Nat → α) (k : Nat) : upto f (k + 1) = upto f k ++ [f k] := by simp [upto, List.range_succ]
theorem upto_length {α : Type} (f : Nat → α) (k : Nat) : (upto f k).length = k := by simp [upto]
/-- what comes as round k: from behind -/
def back (zs : Nat → Kv) (len k : Nat) : Nat × Kv := (len - 1 - k, zs (len - 1 - k))
/-- the cells of so many keys and values -/
def Kvs (n₀ : Nat) (W : World) (b off len : Nat) (zs : Nat → Kv) : Prop :=
  (0 < len → b < n₀) ∧ ∀ j, j < len → W.cell? ⟨b, off + j * 2, none⟩ = some (.string (zs j).1) ∧ W.cell? ⟨b, off + j * 2 + 1, none⟩ = some (.string (zs j).2)
theorem Kvs.below {n₀ : Nat} {A B : World} (h : Below n₀ A B) {b off len : Nat} {zs : Nat → Kv} (k : Kvs n₀ A b off len zs) : Kvs n₀ B b off len zs :=
  ⟨k.1, fun j hj => ⟨(h.cell (p := ⟨b, off + j * 2, none⟩) (k.1 (by omega))).trans (k.2 j hj).1, (h.cell (p := ⟨b, off + j * 2 + 1, none⟩) (k.1 (by omega))).trans (k.2 j hj).2⟩⟩

set_option maxRecDepth 100000 in
set_option maxHeartbeats 4000000 in
theorem back1_in (F : Fence) (n : Nat) (h7 : F.fn 294) (hro : F.round = none) (hn : 1 ≤ n) (l Bs n₀ b off len cap : Nat) (zs : Nat → Kv) (hreach : len ≤ 1152921504606846976) (J Jx : List (Nat × Kv) → World → Prop)
    (hY : ∀ pre x W, J pre W → pre.length < len → YieldAt F (n - 1) Tryz.prog l #[.int .i64 (x.1 : Int), .agg #[.string x.2.1, .string x.2.2]] W fun e W' =>
      (e = .returned (.bool true) ∧ J (pre ++ [x]) W' ∧ Below n₀ W W') ∨ (e = .returned (.bool false) ∧ Jx (pre ++ [x]) W'))
    (W : World) (hBs : W.cell? ⟨Bs, 0, none⟩ = some (.slice (some ⟨b, off, none⟩) len cap)) (hBl : Bs < n₀) (hc : Kvs n₀ W b off len zs) (h0 : J [] W) :
    CallsIn F n Tryz.prog 294 #[.func (.yield l) #[] #[], .pointer (some ⟨Bs, 0, none⟩)] W fun e W' => (∃ v, e = .returned v) ∧
      ((∃ ys, ys = upto (back zs len) len ∧ J ys W') ∨ (∃ pre, (∃ k, k ≤ len ∧ pre = upto (back zs len) k) ∧ Jx pre W')) := by
  refine callsIn_of_wp Tryz.func294 rfl h7 ?_ hro
  simp only [Tryz.ntmps294, List.size_toArray, List.length_cons, List.length_nil, Nat.reduceAdd, Nat.reduceSub, Array.replicate_succ, Array.replicate_zero, List.push_toArray, List.append_toArray, List.nil_append, List.cons_append]
  gi_wp2
  gi_loopw [3] (fun i wr => ∃ r : Nat, r ≤ len ∧ (r = 0 ∧ i = .int .i64 (-1) ∨ ∃ s : Nat, r = s + 1 ∧ i = .int .i64 s) ∧ J (upto (back zs len) (len - r)) wr ∧ Below n₀ W wr)
    (fun i _ => (intOf i + 1).toNat)
  case atStart =>
    refine ⟨len, Nat.le_refl _, ?_, by rw [Nat.sub_self]; exact h0, Below.refl _ _⟩
    cases len with
    | zero => exact .inl ⟨rfl, by simp⟩
    | succ s => exact .inr ⟨s, rfl, by congr 1; omega⟩
  case round =>
    obtain ⟨r, hr, hi, hJs, hnx⟩ := hrel
    have hbs := (hnx.cell (p := ⟨Bs, 0, none⟩) hBl).trans hBs
    rcases hi with ⟨rfl, rfl⟩ | ⟨s, rfl, rfl⟩
    · gi_wp2
      go_end0
      exact ⟨⟨_, rfl⟩, .inl ⟨_, rfl, hJs⟩⟩
    · have hc1 := (hc.below hnx).2 s (by omega)
      obtain ⟨c1, c2⟩ := hc1
      have hbk : back zs len (len - (s + 1)) = (s, zs s) := by
        unfold back
        have : len - 1 - (len - (s + 1)) = s := by omega
        rw [this]
      obtain ⟨fn, tmps, assign, body, hy, hR⟩ := hY _ (s, zs s) wr hJs (by rw [upto_length]; omega)
      dsimp only at hy
      have hup : upto (back zs len) (len - (s + 1)) ++ [(s, zs s)] = upto (back zs len) (len - s) := by
        rw [show len - s = (len - (s + 1)) + 1 by omega, upto_succ, hbk]
      rw [hup] at hR
      gi_wp2
      refine hR.mono ?_
      rintro e W3 (⟨rfl, hJ3, hk3⟩ | ⟨rfl, hJx3⟩)
      · gi_wp2
        go_roundw
        case rel =>
          refine ⟨s, by omega, ?_, hJ3, hnx.trans hk3⟩
          cases s with
          | zero => exact .inl ⟨rfl, by simp⟩
          | succ t => exact .inr ⟨t, rfl, by congr 1; omega⟩
        case measure => simp [intOf]
      · gi_wp2
        refine bodyPost_ret (results_none rfl _ _ _) rfl ?_
        exact ⟨⟨_, rfl⟩, .inr ⟨_, ⟨len - s, by omega, rfl⟩, hJx3⟩⟩

set_option maxHeartbeats 1000000 in
theorem back1_nil_in (F : Fence) (n : Nat) (h7 : F.fn 294) (hro : F.round = none) (l Bs : Nat) (J : List (Nat × Kv) → World → Prop) (W : World) (hBs : W.cell? ⟨Bs, 0, none⟩ = some (.slice none 0 0)) (h0 : J [] W) :
    CallsIn F n Tryz.prog 294 #[.func (.yield l) #[] #[], .pointer (some ⟨Bs, 0, none⟩)] W fun e W' => (∃ v, e = .returned v) ∧ J [] W' := by
  refine callsIn_of_wp Tryz.func294 rfl h7 ?_ hro
  simp only [Tryz.ntmps294, List.size_toArray, List.length_cons, List.length_nil, Nat.reduceAdd, Nat.reduceSub, Array.replicate_succ, Array.replicate_zero, List.push_toArray, List.append_toArray, List.nil_append, List.cons_append]
  gi_wp2
  gi_loopw [3] (fun i wr => i = .int .i64 (-1) ∧ J [] wr) (fun _ _ => 0)
  case atStart => exact ⟨by simp, h0⟩
  case round =>
    obtain ⟨rfl, hJs⟩ := hrel
    gi_wp2
    go_end0
    exact ⟨⟨_, rfl⟩, hJs⟩
set_option maxHeartbeats 1000000 in
theorem back_in (F : Fence) (n : Nat) (h5 : F.fn 203) (hro : F.round = none) (a : Option Addr) (len cap : Nat) (w : World) :
    CallsIn F n Tryz.prog 203 #[.slice a len cap] w fun e w' => e = .returned (.func (.func 294) #[] #[.pointer (some ⟨w.heap.size, 0, none⟩)]) ∧ w' = w.alloc (.cells #[.slice a len cap] 163) := by
  refine callsIn_of_wp Tryz.func203 rfl h5 ?_ hro
  simp only [Tryz.ntmps203, List.size_toArray, List.length_cons, List.length_nil, Nat.reduceAdd, Nat.reduceSub, Array.replicate_succ, Array.replicate_zero, List.push_toArray, List.append_toArray, List.nil_append, List.cons_append]
  gi_wp2
  go_ret
  exact ⟨rfl, rfl⟩
/-- a slice's value holds these -/
def Holds (n₀ : Nat) (W : World) (a : Option Addr) (len cap : Nat) (zs : Nat → Kv) : Prop :=
  (a = none ∧ len = 0 ∧ cap = 0) ∨ ∃ b off, a = some ⟨b, off, none⟩ ∧ Kvs n₀ W b off len zs
theorem Holds.below {n₀ : Nat} {A B : World} (h : Below n₀ A B) {a : Option Addr} {len cap : Nat} {zs : Nat → Kv} (k : Holds n₀ A a len cap zs) : Holds n₀ B a len cap zs := by
  rcases k with k | ⟨b, off, h1, h2⟩
  · exact .inl k
  · exact .inr ⟨b, off, h1, h2.below h⟩
theorem Holds.more {n₀ n₁ : Nat} {W : World} {a : Option Addr} {len cap : Nat} {zs : Nat → Kv} (k : Holds n₀ W a len cap zs) (h : n₀ ≤ n₁) : Holds n₁ W a len cap zs := by
  rcases k with k | ⟨b, off, h1, h2, h3⟩
  · exact .inl k
  · exact .inr ⟨b, off, h1, fun h0 => Nat.lt_of_lt_of_le (h2 h0) h, h3⟩
theorem back_stops (F : Fence) (n : Nat) (h7 : F.fn 294) (hro : F.round = none) (hn : 1 ≤ n) (Bs n₀ : Nat) (a : Option Addr) (len cap : Nat) (zs : Nat → Kv) (hreach : len ≤ 1152921504606846976) (w : World) (hBs : Bs < n₀) (hn₀ : n₀ ≤ w.heap.size)
    (hc : w.cell? ⟨Bs, 0, none⟩ = some (.slice a len cap)) (hI : Holds n₀ w a len cap zs) :
    SeqStopsK F n Tryz.prog 294 #[.pointer (some ⟨Bs, 0, none⟩)] (fun x : Nat × Kv => #[Value.int .i64 (x.1 : Int), .agg #[.string x.2.1, .string x.2.2]]) (Below n₀) (fun ys => ys = upto (back zs len) len) (fun pre => ∃ k, k ≤ len ∧ pre = upto (back zs len) k) len w := fun l J Jx W hW _ _ hY h0 => by
  have hc' := (hW.cell (p := ⟨Bs, 0, none⟩) (Nat.lt_of_lt_of_le hBs hn₀)).trans hc
  rcases hI.below (hW.mono hn₀) with ⟨rfl, rfl, rfl⟩ | ⟨b, off, rfl, hcs⟩
  · exact (back1_nil_in F n h7 hro l Bs J W hc' h0).mono fun e W' ⟨he, hj⟩ => ⟨he, .inl ⟨_, rfl, hj⟩⟩
  · exact (back1_in F n h7 hro hn l Bs n₀ b off len cap zs hreach J Jx hY W hc' hBs hcs h0).mono fun e W' ⟨he, hh⟩ => ⟨he, hh.imp id (fun ⟨pre, hk, hj⟩ => ⟨pre, hk, hj⟩)⟩

theorem two_new (W : World) (x y : Value) (t : TypeId) (k : Nat) (hk : k < 2) : (W.alloc (.cells #[x, y] t)).cell? ⟨W.heap.size, k, none⟩ = #[x, y][k]? := by
  have h : (W.alloc (.cells #[x, y] t)).heap[W.heap.size]? = some (.cells #[x, y] t) := World.alloc_heap_new W _
  unfold World.cell?
  rw [h]
  rfl
/-- the last value of a key -/
def findK (zs : Nat → Kv) (key : ByteArray) : Nat → Option ByteArray
  | 0 => none
  | n + 1 => if ((zs n).1.toList == key.toList) = true then some (zs n).2 else findK zs key n
theorem findK_none {zs : Nat → Kv} {key : ByteArray} : ∀ {n : Nat}, (∀ j, j < n → ((zs j).1.toList == key.toList) = false) → findK zs key n = none := by
  intro n
  induction n with
  | zero => intro _; rfl
  | succ n ih =>
    intro h
    unfold findK
    rw [if_neg (by rw [h n (by omega)]; decide)]
    exact ih (fun j hj => h j (by omega))
theorem findK_some {zs : Nat → Kv} {key : ByteArray} {s : Nat} (hs : ((zs s).1.toList == key.toList) = true) : ∀ {n : Nat}, s < n → (∀ j, s < j → j < n → ((zs j).1.toList == key.toList) = false) → findK zs key n = some (zs s).2 := by
  intro n
  induction n with
  | zero => intro h _; omega
  | succ n ih =>
    intro h h2
    unfold findK
    by_cases hn : s = n
    · subst hn; rw [if_pos hs]
    · rw [if_neg (by rw [h2 n (by omega) (by omega)]; decide)]
      exact ih (by omega) (fun j h3 h4 => h2 j h3 (by omega))
theorem back_mem {zs : Nat → Kv} {len k j : Nat} (hj : j < len) (hk : len - 1 - j < k) : (j, zs j) ∈ upto (back zs len) k := by
  simp only [upto, List.mem_map, List.mem_range]
  refine ⟨len - 1 - j, hk, ?_⟩
  unfold back
  rw [show len - 1 - (len - 1 - j) = j by omega]
def findV (o : Option ByteArray) : ByteArray := match o with | some v => v | none => ⟨#[]⟩
set_option maxRecDepth 100000 in
set_option maxHeartbeats 4000000 in
theorem Find_in (F : Fence) (n : Nat) (h60 : F.fn 101) (h106 : F.fn 203) (h151 : F.fn 294) (hro : F.round = none) (hn : 3 ≤ n) (a : Option Addr) (len cap : Nat) (zs : Nat → Kv) (hreach : len ≤ 1152921504606846976) (key : ByteArray) (w : World) (hI : Holds w.heap.size w a len cap zs) :
    CallsIn F n Tryz.prog 101 #[.slice a len cap, .string key] w fun e W' => e = .returned (.tuple #[.string (findV (findK zs key len)), .bool (findK zs key len).isSome]) ∧ Below w.heap.size w W' := by
  have h1 : 1 ≤ n := by omega
  refine callsIn_of_wp_marks Tryz.func101 rfl h60 ?_ hro
  simp only [Tryz.ntmps101, List.size_toArray, List.length_cons, List.length_nil, Nat.reduceAdd, Nat.reduceSub, Array.replicate_succ, Array.replicate_zero, List.push_toArray, List.append_toArray, List.nil_append, List.cons_append]
  gi_wp2_with (gi_at_call 203; refine (back_in F (n - 1) h106 hro _ _ _ _).mono ?_; rintro e w' ⟨rfl, rfl⟩)
  have bK := (((Boxed.new w 9 (.string key)).alloc (.cells #[.string ⟨#[]⟩] 9)).alloc (.cells #[.bool false] 4)).alloc (.cells #[.slice a len cap] 163)
  have bV := ((Boxed.new (w.alloc (.cells #[.string key] 9)) 9 (.string ⟨#[]⟩)).alloc (.cells #[.bool false] 4)).alloc (.cells #[.slice a len cap] 163)
  have bB := (Boxed.new ((w.alloc (.cells #[.string key] 9)).alloc (.cells #[.string ⟨#[]⟩] 9)) 4 (.bool false)).alloc (.cells #[.slice a len cap] 163)
  have bS := Boxed.new (((w.alloc (.cells #[.string key] 9)).alloc (.cells #[.string ⟨#[]⟩] 9)).alloc (.cells #[.bool false] 4)) 163 (.slice a len cap)
  simp only [World.size_alloc] at bV bB bS
  have hB0 : Below w.heap.size w ((((w.alloc (.cells #[.string key] 9)).alloc (.cells #[.string ⟨#[]⟩] 9)).alloc (.cells #[.bool false] 4)).alloc (.cells #[.slice a len cap] 163)) := ((((Below.refl _ w).alloc (Nat.le_refl _) _).alloc (by simp) _).alloc (by simp; omega) _).alloc (by simp; omega) _
  have hsz : ((((w.alloc (.cells #[.string key] 9)).alloc (.cells #[.string ⟨#[]⟩] 9)).alloc (.cells #[.bool false] 4)).alloc (.cells #[.slice a len cap] 163)).heap.size = w.heap.size + 4 := by simp
  obtain ⟨W0, hW0⟩ : ∃ W0, ((((w.alloc (.cells #[.string key] 9)).alloc (.cells #[.string ⟨#[]⟩] 9)).alloc (.cells #[.bool false] 4)).alloc (.cells #[.slice a len cap] 163)) = W0 := ⟨_, rfl⟩
  rw [hW0] at bK bV bB bS hB0 hsz ⊢
  clear hW0
  refine wpIn_rangeFunc_ownH hro h1 (gf := 294) (lb := #[.pointer (some ⟨w.heap.size + 1 + 1 + 1, 0, none⟩)]) rfl h151 (enters_of Tryz.func294 (by kernel_rfl) rfl)
    (back_stops F (n - 1) h151 hro (by omega) (w.heap.size + 1 + 1 + 1) W0.heap.size a len cap zs hreach W0 (by omega) (Nat.le_refl _) bS.cell ((hI.below hB0).more (by omega))) belowK_t (belowK_b (Nat.le_refl _)) (Below.refl _ _) (fun _ => rfl)
    (fun pre W => ((Boxed W w.heap.size 9 (.string key) ∧ Boxed W (w.heap.size + 1) 9 (.string ⟨#[]⟩)) ∧ Boxed W (w.heap.size + 1 + 1) 4 (.bool false)) ∧ ((∀ p ∈ pre, (p.2.1.toList == key.toList) = false) ∧ (Below w.heap.size w W ∧ Below W0.heap.size W0 W)))
    (fun c pre W => (c = .ret ∧ ∃ ini last, pre = ini ++ [last] ∧ (∀ p ∈ ini, (p.2.1.toList == key.toList) = false) ∧ (last.2.1.toList == key.toList) = true ∧ W.cell? ⟨w.heap.size + 1, 0, none⟩ = some (.string last.2.2) ∧ W.cell? ⟨w.heap.size + 1 + 1, 0, none⟩ = some (.bool true)) ∧ Below w.heap.size w W)
    (OwnFrom.and (OwnFrom.and (OwnFrom.and (Own.from (boxed_own _ _ _) _) (Own.from (boxed_own _ _ _) _)) (Own.from (boxed_own _ _ _) _)) (OwnFrom.and (ownFrom_pure _ _) (OwnFrom.and (ownFrom_below (Nat.le_refl _) (by omega)) (ownFrom_below (Nat.le_refl _) (Nat.le_refl _)))))
    (fun c => OwnFrom.and (Own.from (fun s A B row hs hg hr => by obtain ⟨hc, ini, last, e1, e2, e3, e4, e5⟩ := hs; exact ⟨hc, ini, last, e1, e2, e3, cell_kept e4 hg hr, cell_kept e5 hg hr⟩) _) (ownFrom_below (Nat.le_refl _) (by omega)))
    ⟨⟨⟨bK, bV⟩, bB⟩, by simp, hB0, Below.refl _ _⟩
    (fun x a' W => ∃ Bx, W0.heap.size ≤ Bx ∧ W.cell? ⟨Bx, 0, none⟩ = some (.string x.2.1) ∧ W.cell? ⟨Bx, 1, none⟩ = some (.string x.2.2) ∧ a' = { tmps := #[.slice a len cap, .string key, undef, .pointer (some ⟨w.heap.size, 0, none⟩), .pointer (some ⟨w.heap.size + 1, 0, none⟩), .pointer (some ⟨w.heap.size + 1 + 1, 0, none⟩), undef, .pointer (some ⟨Bx, 0, none⟩), .slice a len cap, .func (.func 294) #[] #[.pointer (some ⟨w.heap.size + 1 + 1 + 1, 0, none⟩)], .int .i64 (x.1 : Int), .agg #[.string x.2.1, .string x.2.2], undef, undef, undef, undef, undef, undef], defers := [] })
    (fun x a' _ X Y row hs hg hr => by obtain ⟨Bx, h1, h2, h3, h4⟩ := hs; exact ⟨Bx, h1, cell_kept h2 hg (fun r e => (hr r e).2), cell_kept h3 hg (fun r e => (hr r e).2), h4⟩)
    ?assign ?body ?done ?stop
  case assign =>
    rintro l pre x W K ⟨⟨⟨bK1, bV1⟩, bB1⟩, hp, hB1, hB2⟩ hK
    gi_wp2
    exact hK _ _ ((KeepsOthers.alloc _ _).from _) ((Below.refl _ W).alloc hB2.size _) ⟨⟨⟨bK1.alloc _, bV1.alloc _⟩, bB1.alloc _⟩, hp, hB1.alloc hB1.size _, hB2.alloc hB2.size _⟩
      ⟨W.heap.size, hB2.size, two_new W _ _ _ 0 (by decide), two_new W _ _ _ 1 (by decide), rfl⟩
  case body =>
    rintro l pre x a' W hl ⟨r, hr⟩ ⟨⟨⟨bK1, bV1⟩, bB1⟩, hp, hB1, hB2⟩ ⟨Bx, hBx, c0, c1, rfl⟩ hlt
    have cK := bK1.cell
    have cV := bV1.cell
    have cB := bB1.cell
    have fV := bV1.frozen
    have fB := bB1.frozen
    gi_wp2
    · have hx : (x.2.1.toList == key.toList) = true := by assumption
      exact ⟨((KeepsOthers.setCell _ _ _).from _).trans ((KeepsOthers.setCell _ _ _).from _), ⟨rfl, pre, x, rfl, hp, hx, ((bV1.set (.string x.2.2)).other (by omega) (.bool true)).cell, ((bB1.other (by omega) (.string x.2.2)).set (.bool true)).cell⟩,
        (hB1.setCell (p := ⟨w.heap.size + 1, 0, none⟩) (by simp) _).setCell (p := ⟨w.heap.size + 1 + 1, 0, none⟩) (by simp; omega) _⟩
    · have hx : (x.2.1.toList == key.toList) = false := by first | assumption | (simp only [Bool.not_eq_true] at *; assumption)
      exact ⟨KeepsFrom.refl _ _, Below.refl _ _, ⟨⟨bK1, bV1⟩, bB1⟩, fun p hp' => (List.mem_append.1 hp').elim (hp p) (fun e => by simp at e; subst e; exact hx), hB1, hB2⟩
  case done =>
    rintro D ys W hD rfl ⟨⟨⟨bK1, bV1⟩, bB1⟩, hp, hB1, hB2⟩ hK
    have cV := bV1.cell
    have cB := bB1.cell
    have fV := bV1.frozen
    have fB := bB1.frozen
    gi_wp2
    have hnone : findK zs key len = none := findK_none fun j hj => hp (j, zs j) (back_mem hj (by omega))
    rw [hnone]
    have hK1 := (KeepsOthers.setCell W ⟨w.heap.size + 1, 0, none⟩ (.string ⟨#[]⟩)).same D _ hK rfl
    have hK2 := (KeepsOthers.setCell (W.setCell ⟨w.heap.size + 1, 0, none⟩ (.string ⟨#[]⟩)) ⟨w.heap.size + 1 + 1, 0, none⟩ (.bool false)).same D _ hK1 rfl
    have c4 := ((bV1.set (.string ⟨#[]⟩)).other (B' := w.heap.size + 1 + 1) (by omega) (.bool false)).cell
    have c5 := ((bB1.other (B' := w.heap.size + 1) (by omega) (.string ⟨#[]⟩)).set (.bool false)).cell
    have d4 := cell_kept c4 (grownBy_putObj' _ D (.deferred none)) (fun r e => by cases e; exact ⟨_, hK2, rfl⟩)
    have d5 := cell_kept c5 (grownBy_putObj' _ D (.deferred none)) (fun r e => by cases e; exact ⟨_, hK2, rfl⟩)
    refine ⟨by simp, .inl ⟨_, _, rfl, run_takeDeferred hK2, ?_⟩⟩
    refine ⟨.tuple #[.string ⟨#[]⟩, .bool false], ?_, rfl, ((hB1.setCell (p := ⟨w.heap.size + 1, 0, none⟩) (by simp) _).setCell (p := ⟨w.heap.size + 1 + 1, 0, none⟩) (by simp; omega) _).trans (belowK_b (w := w) (Nat.le_refl _) _ D _ _ (by omega) hK2 rfl rfl)⟩
    simp [results, Tryz.f101, go_sem, d4, d5]
  case stop =>
    rintro D c pre W hD ⟨k, hk, rfl⟩ ⟨⟨rfl, ini, last, e1, e2, e3, e4, e5⟩, hB⟩ hK
    gi_wp2
    obtain ⟨k', rfl⟩ : ∃ k', k = k' + 1 := by
      cases k with
      | zero => simp [upto] at e1
      | succ k' => exact ⟨k', rfl⟩
    rw [upto_succ] at e1
    obtain ⟨rfl, e6⟩ := List.append_inj' e1 rfl
    obtain rfl : back zs len k' = last := by simpa using e6
    have hsome : findK zs key len = some (zs (len - 1 - k')).2 := findK_some e3 (by omega) (fun j h1 h2 => e2 (j, zs j) (back_mem h2 (by omega)))
    rw [hsome]
    have d4 := cell_kept e4 (grownBy_putObj' _ D (.deferred none)) (fun r e => by cases e; exact ⟨_, hK, rfl⟩)
    have d5 := cell_kept e5 (grownBy_putObj' _ D (.deferred none)) (fun r e => by cases e; exact ⟨_, hK, rfl⟩)
    refine ⟨by simp, .inl ⟨_, _, rfl, run_takeDeferred hK, ?_⟩⟩
    refine ⟨.tuple #[.string (zs (len - 1 - k')).2, .bool true], ?_, rfl, hB.trans (belowK_b (w := w) (Nat.le_refl _) W D _ _ (by omega) hK rfl rfl)⟩
    simp [results, Tryz.f101, go_sem, d4, d5, back]
theorem Find_calls (a : Option Addr) (len cap : Nat) (zs : Nat → Kv) (hreach : len ≤ 1152921504606846976) (key : ByteArray) (w : World) (hI : Holds w.heap.size w a len cap zs) :
    Calls Tryz.prog 101 #[.slice a len cap, .string key] w fun e W' => e = .returned (.tuple #[.string (findV (findK zs key len)), .bool (findK zs key len).isSome]) ∧ Below w.heap.size w W' :=
  callsIn_wide.1 (Find_in Fence.wide 3 trivial trivial trivial rfl (Nat.le_refl _) a len cap zs hreach key w hI)
theorem Find_calls' (a : Option Addr) (len cap : Nat) (zs : Nat → Kv) (key : ByteArray) (w : World) (hreach : len ≤ 1152921504606846976) (hI : Holds w.heap.size w a len cap zs) :
    Calls Tryz.prog 101 #[.slice a len cap, .string key] w fun e W' => e = .returned (.tuple #[.string (findV (findK zs key len)), .bool (findK zs key len).isSome]) ∧ Below w.heap.size w W' :=
  Find_calls a len cap zs hreach key w hI
end Go.Proofs.YthloojeefdjpjaaGreatDoor.find
