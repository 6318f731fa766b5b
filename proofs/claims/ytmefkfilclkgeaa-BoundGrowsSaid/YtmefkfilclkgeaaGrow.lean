import Derived.Test.YtmefkfilclkgeaaBndI
import Derived.Maps.AppendAt
namespace Go.Proofs.Ytmefkfilclkgeaa.bound
open Go.ChangeShapes Go.WideShapes Go.ChangeAt Go.RowKit
set_option linter.unusedVariables false
/-- regions that one owns: so many, their places, sizes and statuses -/
def Own3 (w : World) (B : Nat) (v : Value) (n : Nat) (p s t : Nat → Int) : Prop :=
  (n = 0 → v = .slice none 0 0) ∧ ∃ xs, w.ownsRow B 70 3 v n xs ∧ ∀ k, k < n → xs[k * 3]? = some (.int .i64 (p k)) ∧ xs[k * 3 + 1]? = some (.int .i64 (s k)) ∧ xs[k * 3 + 2]? = some (.int .u8 (t k))
/-- they may be, and end there -/
structure Good (n : Nat) (p s t : Nat → Int) (e : Int) : Prop where
  start : 0 < n → p 0 = 0
  none : n = 0 → e = 0
  next : ∀ k, k + 1 < n → p (k + 1) = p k + s k
  last : ∀ k, k + 1 = n → p k + s k = e
  low : ∀ k, k < n → 0 ≤ p k ∧ 1 ≤ s k ∧ p k + s k ≤ e
  top : 0 ≤ e ∧ e ≤ 1099511627776
  stat : ∀ k, k < n → statusB (t k) = true
  apart : ∀ k, k + 1 < n → ¬ t k = t (k + 1)
/-- but for one block, what was there is as it was -/
def Kept3 (w w' : World) (o : Option Nat) : Prop := ∀ b, b < w.heap.size → ¬ o = some b → w'.heap[b]? = w.heap[b]?
theorem Kept3.refl (w : World) (o : Option Nat) : Kept3 w w o := fun _ _ _ => rfl
theorem kept_grown {w w1 w2 : World} {o row : Option Nat} (hB : Below w.heap.size w w1) (O : Obj) (hg : (w1.alloc O).grownBy w2 row) (ho : row = o) : Kept3 w w2 o := fun b hb hne => by
  have h1 := hB.size
  rw [hg.block b (by simp; omega) (fun e => hne (by rw [← ho]; exact e.symm)), heap_alloc_old w1 _ (by omega)]
  exact hB.block b hb
theorem push_none (v : Value) (n cap : Nat) (a : Option Addr) (size st : Int) (hs : size < 1) (w : World) :
    Calls Try.prog 54 #[.slice a n cap, .int .i64 size, .int .u8 st] w fun e w' => e = .returned (.slice a n cap) ∧ w' = w := by
  go_enter Try.func54, Try.ntmps54
  go_wp2
  go_ret
  exact ⟨rfl, rfl⟩
theorem push_join (B cap g m : Nat) (xs : List Value) (s0 size st : Int) (hm : m < 1152921504606846976) (hs : 1 ≤ size) (hs0 : 0 ≤ s0) (hs1 : s0 + size ≤ 1099511627776) (w : World) (h : w.ownsRow B 70 3 (.slice (some ⟨g, 0, none⟩) (m + 1) cap) (m + 1) xs)
    (h1 : xs[m * 3 + 1]? = some (.int .i64 s0)) (h2 : xs[m * 3 + 2]? = some (.int .u8 st)) :
    Calls Try.prog 54 #[.slice (some ⟨g, 0, none⟩) (m + 1) cap, .int .i64 size, .int .u8 st] w fun e w' => e = .returned (.slice (some ⟨g, 0, none⟩) (m + 1) cap) ∧ w' = w.setCell ⟨g, m * 3 + 1, none⟩ (.int .i64 (s0 + size)) := by
  have c1 : w.cell? ⟨g, m * 3 + 1, none⟩ = some (.int .i64 s0) := (h.cellAt _ (by omega)).trans h1
  have c2 : w.cell? ⟨g, m * 3 + 2, none⟩ = some (.int .u8 st) := (h.cellAt _ (by omega)).trans h2
  have c3 : w.frozen? ⟨g, m * 3 + 1, none⟩ = false := h.frozenAt _
  clear h h1 h2
  go_enter Try.func54, Try.ntmps54
  go_wp2
  go_ret
  exact ⟨rfl, rfl⟩
theorem owns_below {w w' : World} {B e size n : Nat} {v : Value} {xs : List Value} (h : w.ownsRow B e size v n xs) (k : Below w.heap.size w w') : w'.ownsRow B e size v n xs := by
  refine ⟨h.1, ?_⟩
  rcases h.2 with h2 | ⟨g, cap, cur, h1, h2, h3, h4⟩
  · exact .inl h2
  · refine .inr ⟨g, cap, cur, h1, h2, ?_, h4⟩
    rw [k.block g ?_]
    · exact h3
    · rcases Nat.lt_or_ge g w.heap.size with q | q
      · exact q
      · rw [Array.getElem?_eq_none q] at h3; cases h3
theorem info70 : (Try.prog.info? 70).map (fun i => (i.zero, i.size, i.bytes)) = some (some (.agg #[.int .i64 0, .int .i64 0, .int .u8 0]), 3, 24) := by kernel_rfl
theorem three_new (w : World) (x y z : Value) (t : TypeId) : ∀ j u, [x, y, z][j]? = some u → (w.alloc (Obj.cells #[x, y, z] t)).cell? ((⟨w.heap.size, 0, none⟩ : Addr).add j) = some u := by
  intro j u h
  have hb : (w.alloc (Obj.cells #[x, y, z] t)).heap[w.heap.size]? = some (.cells #[x, y, z] t (0, 0)) := heap_alloc_new w _
  match j, h with
  | 0, h => rw [show (⟨w.heap.size, 0, none⟩ : Addr).add 0 = ⟨w.heap.size, 0, none⟩ from rfl, cell_of_row _ _ 0 _ _ _ hb]; exact h
  | 1, h => rw [show (⟨w.heap.size, 0, none⟩ : Addr).add 1 = ⟨w.heap.size, 1, none⟩ from rfl, cell_of_row _ _ 1 _ _ _ hb]; exact h
  | 2, h => rw [show (⟨w.heap.size, 0, none⟩ : Addr).add 2 = ⟨w.heap.size, 2, none⟩ from rfl, cell_of_row _ _ 2 _ _ _ hb]; exact h
  | j + 3, h => simp at h
theorem push_more (B cap g m : Nat) (xs : List Value) (s1 size st e0 : Int) (hm : m < 1000) (hs : 1 ≤ size) (hne : ¬ s1 = st) (w : World) (hB : B ≤ w.heap.size) (h : w.ownsRow B 70 3 (.slice (some ⟨g, 0, none⟩) (m + 1) cap) (m + 1) xs)
    (h2 : xs[m * 3 + 2]? = some (.int .u8 s1)) (k : ∀ w', Below w.heap.size w w' → Calls Try.prog 45 #[.slice (some ⟨g, 0, none⟩) (m + 1) cap] w' fun e w2 => e = .returned (.int .i64 e0) ∧ Below w'.heap.size w' w2) :
    Calls Try.prog 54 #[.slice (some ⟨g, 0, none⟩) (m + 1) cap, .int .i64 size, .int .u8 st] w fun e w' => ∃ v, e = .returned v ∧ w'.ownsRow B 70 3 v (m + 1 + 1) (xs ++ [.int .i64 e0, .int .i64 size, .int .u8 st]) ∧ Below B w w' ∧ Kept3 w w' (some g) := by
  obtain ⟨i0, hi, hz0, hz1, hz2⟩ := info_parts info70
  have c2 : w.cell? ⟨g, m * 3 + 2, none⟩ = some (.int .u8 s1) := (h.cellAt _ (by omega)).trans h2
  have d1 : (s1 == st) = false := by simpa using hne
  have HH : Hid (w.ownsRow B 70 3 (.slice (some ⟨g, 0, none⟩) (m + 1) cap) (m + 1) xs) := h
  have HG : Hid (g < w.heap.size ∧ B ≤ g) := ⟨(h.lt g rfl).2, (h.lt g rfl).1⟩
  clear h h2
  go_enter Try.func54, Try.ntmps54
  go_wp2_with (first
    | (go_at_call 45; refine (k _ (Below.refl _ _)).mono ?_; rintro e w1 ⟨rfl, hb⟩; have H1 := owns_below HH.out hb; have HB := hb; clear hb)
    | (at_builtin; refine wpList_append_own _ rfl _ _ 35 rfl B 70 i0 (.agg #[.int .i64 0, .int .i64 0, .int .u8 0]) 3 24 Try.underlying35 hi hz0 hz1 hz2 rfl (by decide) _ _ _ rfl (H1.alloc _) ⟨w1.heap.size, 0, none⟩ 1 1 [.int .i64 e0, .int .i64 size, .int .u8 st] rfl rfl (three_new _ _ _ _ _) (by simp [Value.oneCell']) (by unfold maxLen; omega) (by omega) (by have := HB.size; simp; omega) ?_; intro v' w2 hown' hgrow _))
  go_ret
  exact ⟨_, rfl, hown', ((HB.mono hB).alloc (by have := HB.size; omega) _).grown hgrow (by have := HB.size; simp; omega) (fun k e => by
    obtain rfl : g = k := Option.some.inj (show some g = some k from e)
    exact HG.out.2), kept_grown HB _ hgrow rfl⟩
theorem end_none (a : Option Addr) (cap : Nat) (w : World) : Calls Try.prog 45 #[.slice a 0 cap] w fun e w' => e = .returned (.int .i64 0) ∧ Below w.heap.size w w' := by
  go_enter Try.func45, Try.ntmps45
  go_wp2
  go_ret
  exact ⟨rfl, Below.refl _ _⟩
theorem push_first (size st : Int) (hs : 1 ≤ size) (hm : size ≤ 1099511627776) (w : World) :
    Calls Try.prog 54 #[.slice none 0 0, .int .i64 size, .int .u8 st] w fun e w' => ∃ v, e = .returned v ∧ w'.ownsRow w.heap.size 70 3 v (0 + 1) ([] ++ [.int .i64 0, .int .i64 size, .int .u8 st]) ∧ Below w.heap.size w w' ∧ Kept3 w w' none := by
  obtain ⟨i0, hi, hz0, hz1, hz2⟩ := info_parts info70
  have HH : Hid (w.ownsRow w.heap.size 70 3 (.slice none 0 0) 0 []) := World.ownsRow_nil _ _ _ _
  go_enter Try.func54, Try.ntmps54
  go_wp2_with (first
    | (go_at_call 45; refine (end_none _ _ _).mono ?_; rintro e w1 ⟨rfl, hb⟩; have H1 := owns_below HH.out hb; have HB := hb; clear hb)
    | (at_builtin; refine wpList_append_own _ rfl _ _ 35 rfl w.heap.size 70 i0 (.agg #[.int .i64 0, .int .i64 0, .int .u8 0]) 3 24 Try.underlying35 hi hz0 hz1 hz2 rfl (by decide) _ _ _ rfl (H1.alloc _) ⟨w1.heap.size, 0, none⟩ 1 1 [.int .i64 0, .int .i64 size, .int .u8 st] rfl rfl (three_new _ _ _ _ _) (by simp [Value.oneCell']) (by unfold maxLen; omega) (by omega) (by have := HB.size; simp; omega) ?_; intro v' w2 hown' hgrow _))
  go_ret
  exact ⟨_, rfl, hown', ((HB.mono (Nat.le_refl _)).alloc (by have := HB.size; omega) _).grown hgrow (by have := HB.size; simp; omega) (fun k e => by cases e), kept_grown HB _ hgrow rfl⟩
theorem one_row {w : World} {B : Nat} {v : Value} {size st : Int} (h : w.ownsRow B 70 3 v (0 + 1) ([] ++ [.int .i64 0, .int .i64 size, .int .u8 st])) : Own3 w B v 1 (fun _ => 0) (fun _ => size) (fun _ => st) := by
  refine ⟨fun h => by omega, _, h, fun k hk => ?_⟩
  obtain rfl : k = 0 := by omega
  exact ⟨rfl, rfl, rfl⟩
theorem one_good {size st : Int} (hs : 1 ≤ size) (hm : size ≤ 1099511627776) (hst : statusB st = true) : Good 1 (fun _ => 0) (fun _ => size) (fun _ => st) (0 + max size 0) where
  start := fun _ => rfl
  none := fun h => by omega
  next := fun k hk => by omega
  last := fun k hk => by omega
  low := fun k hk => by omega
  top := by omega
  stat := fun _ _ => hst
  apart := fun k hk => by omega
theorem end_at (g m cap : Nat) (p s t : Int) (hm : m < 1000) (hp : 0 ≤ p) (hs : 0 ≤ s) (he : p + s ≤ 1099511627776) (w : World) (c1 : w.cell? ⟨g, m * 3, none⟩ = some (.int .i64 p)) (c2 : w.cell? ⟨g, m * 3 + 1, none⟩ = some (.int .i64 s)) (c3 : w.cell? ⟨g, m * 3 + 2, none⟩ = some (.int .u8 t)) :
    Calls Try.prog 45 #[.slice (some ⟨g, 0, none⟩) (m + 1) cap] w fun e w' => e = .returned (.int .i64 (p + s)) ∧ Below w.heap.size w w' := by
  go_enter Try.func45, Try.ntmps45
  go_wp2
  refine bodyPost_ret (results_tmp rfl _ _ _) rfl ?_
  exact ⟨by first | rfl | simp, (Below.refl _ w).alloc (Nat.le_refl _) _⟩
theorem status_in {c : Int} (h : statusB c = true) : 0 ≤ c ∧ c ≤ 255 := by
  simp only [statusB, Bool.or_eq_true, beq_iff_eq] at h
  omega
def upd (f : Nat → Int) (k : Nat) (v : Int) : Nat → Int := fun j => if j = k then v else f j
theorem upd_at (f : Nat → Int) (k : Nat) (v : Int) : upd f k v k = v := if_pos rfl
theorem upd_ne (f : Nat → Int) {k j : Nat} (v : Int) (h : ¬ j = k) : upd f k v j = f j := if_neg h
/-- a small block is none of its own, if it was none -/
def Apart3 (w : World) (v : Value) (o : Option Nat) : Prop := ∀ k c t fr, w.heap[k]? = some (.cells c t fr) → c.size < 4 → v.ownBlock = some k → o = some k
theorem own_mono {w : World} {B B' size e n : Nat} {v : Value} {xs : List Value} (h : w.ownsRow B e size v n xs) (hB : B' ≤ B) : w.ownsRow B' e size v n xs := by
  refine ⟨h.1, ?_⟩
  rcases h.2 with h2 | ⟨g, cap, cur, h1, h2, h3, h4⟩
  · exact .inl h2
  · exact .inr ⟨g, cap, cur, h1, Nat.le_trans hB h2, h3, h4⟩
/-- what a Push leaves -/
def Pushed (B : Nat) (o : Option Nat) (n : Nat) (size e : Int) (w : World) (en : Ending) (w' : World) : Prop :=
  ∃ v n' p s t, en = .returned v ∧ Kept3 w w' o ∧ Apart3 w v o ∧ Own3 w' B v n' p s t ∧ Good n' p s t (e + max size 0) ∧ n ≤ n' ∧ (n' : Int) ≤ n + (if size < 1 then 0 else 1) ∧ Below B w w'
theorem more_apart {w w' : World} {B g m : Nat} {v : Value} {xs : List Value} (ho : w'.ownsRow B 70 3 v (m + 1 + 1) xs) (hk : Kept3 w w' (some g)) : Apart3 w v (some g) := fun k c t fr h1 h2 h3 => by
  by_cases hg : g = k
  · rw [hg]
  · have hlt := (Array.getElem?_eq_some_iff.1 h1).1
    have h4 := hk k hlt (fun e => hg (Option.some.inj e))
    rcases ho.2 with ⟨rfl, h⟩ | ⟨g', cap, cur, rfl, hb, hgc, hc, hm, hcs, ht⟩
    · cases h3
    · cases h3
      rw [h4, h1] at hgc
      cases hgc
      omega
theorem push_walk (B n : Nat) (v : Value) (p s t : Nat → Int) (size st e : Int) (hn : n < 999) (w : World) (hB : B ≤ w.heap.size) (h : Own3 w B v n p s t) (hg : Good n p s t e) (hst : statusB st = true) (hsz : size ≤ 1099511627776 - e) (hsz0 : -1099511627776 ≤ size) :
    Calls Try.prog 54 #[v, .int .i64 size, .int .u8 st] w (Pushed B v.ownBlock n size e w) := by
  obtain ⟨hnil, xs, hown, hx⟩ := h
  by_cases hs : size < 1
  · obtain ⟨a, cap, rfl⟩ : ∃ a cap, v = .slice a n cap := by
      rcases hown.2 with ⟨h1, h2⟩ | ⟨g, cap, cur, h1, _⟩
      · exact ⟨none, 0, by rw [h1, h2]⟩
      · exact ⟨_, _, h1⟩
    refine (push_none (.slice a n cap) n cap a size st hs w).mono ?_
    rintro en w' ⟨rfl, rfl⟩
    exact ⟨_, n, p, s, t, rfl, Kept3.refl _ _, fun _ _ _ _ _ _ e => e, ⟨hnil, xs, hown, hx⟩, by rw [show max size 0 = 0 by omega, Int.add_zero]; exact hg, Nat.le_refl _, by rw [if_pos hs]; omega, Below.refl _ _⟩
  have hs1 : 1 ≤ size := by omega
  have fin0 : size ≤ 1099511627776 → Calls Try.prog 54 #[.slice none 0 0, .int .i64 size, .int .u8 st] w (Pushed B none 0 size 0 w) := fun hsz => by
    refine (push_first size st hs1 hsz w).mono ?_
    rintro en w' ⟨v, rfl, ho, hb', hk'⟩
    refine ⟨v, 1, fun _ => 0, fun _ => size, fun _ => st, rfl, hk', fun k c t fr h1 _ h3 => ?_, one_row (own_mono ho hB), one_good hs1 (by omega) hst, by omega, by rw [if_neg hs]; omega, hb'.mono hB⟩
    have h4 := (ho.lt k h3).1
    have h5 := (Array.getElem?_eq_some_iff.1 h1).1
    omega
  rcases hown.2 with ⟨rfl, rfl⟩ | ⟨g, cap, cur, rfl, hb, hgc, hc, hm, hcs, ht⟩
  · have he := hg.none rfl
    subst he
    have hx0 : xs = [] := List.length_eq_zero_iff.1 (by have := hown.1; omega)
    subst hx0
    exact fin0 (by omega)
  · rcases Nat.eq_zero_or_pos n with h0 | h0
    · subst h0
      have := hnil rfl
      cases this
    obtain ⟨m, rfl⟩ : ∃ m, n = m + 1 := ⟨n - 1, by omega⟩
    obtain ⟨x0, x1, x2⟩ := hx m (by omega)
    obtain ⟨q0, q1, q2⟩ := hg.low m (by omega)
    have q3 := hg.last m rfl
    by_cases hj : t m = st
    · subst hj
      refine (push_join B cap g m xs (s m) size (t m) (by omega) hs1 (by omega) (by have := hg.top; omega) w hown x1 x2).mono ?_
      rintro en w' ⟨rfl, rfl⟩
      obtain ⟨o1, o2⟩ := hown.stored (m * 3 + 1) (.int .i64 (s m + size))
      refine ⟨_, m + 1, p, upd s m (s m + size), t, rfl, fun b _ hne => Below.heap_setCell _ _ _ _ (fun e => hne (congrArg some (Eq.symm e))), fun _ _ _ _ _ _ e => e, ⟨fun h => by omega, _, o1, fun k hk => ?_⟩, ?_, Nat.le_refl _, by rw [if_neg hs]; omega, (Below.refl B w).grown o2 hB (fun k e => by cases e; exact hb)⟩
      · obtain ⟨y0, y1, y2⟩ := hx k hk
        have hlen : xs.length = (m + 1) * 3 := hown.1
        refine ⟨?_, ?_, ?_⟩
        · rw [List.getElem?_set_ne (by omega)]; exact y0
        · by_cases e : k = m
          · subst e; rw [List.getElem?_set_self (by omega), upd_at]
          · rw [List.getElem?_set_ne (by omega), upd_ne _ _ e]; exact y1
        · rw [List.getElem?_set_ne (by omega)]; exact y2
      · rw [show max size 0 = size by omega]
        refine ⟨hg.start, fun h => by omega, fun k hk => ?_, fun k hk => ?_, fun k hk => ?_, ?_, hg.stat, hg.apart⟩
        · rw [upd_ne _ _ (by omega)]; exact hg.next k hk
        · obtain rfl : k = m := by omega
          rw [upd_at]; omega
        · have := hg.low k hk
          by_cases e : k = m
          · subst e; rw [upd_at]; omega
          · rw [upd_ne _ _ e]; omega
        · have := hg.top; omega
    · refine (push_more B cap g m xs (t m) size st e (by omega) hs1 hj w hB hown x2 (fun w' hb' => ?_)).mono ?_
      · rw [← q3]
        have o := owns_below hown hb'
        exact end_at g m cap (p m) (s m) (t m) (by omega) q0 (by omega) (by have := hg.top; omega) w' ((o.cellAt _ (by omega)).trans x0) ((o.cellAt _ (by omega)).trans x1) ((o.cellAt _ (by omega)).trans x2)
      · rintro en w' ⟨v, rfl, ho, hb', hk'⟩
        have hlen : xs.length = (m + 1) * 3 := hown.1
        refine ⟨v, m + 1 + 1, upd p (m + 1) e, upd s (m + 1) size, upd t (m + 1) st, rfl, hk', more_apart ho hk', ⟨fun h => by omega, _, ho, fun k hk => ?_⟩, ?_, by omega, by rw [if_neg hs]; omega, hb'⟩
        · by_cases e0 : k = m + 1
          · subst e0
            rw [upd_at, upd_at, upd_at]
            refine ⟨?_, ?_, ?_⟩ <;> rw [List.getElem?_append_right (by omega)]
            · rw [show (m + 1) * 3 - xs.length = 0 by omega]; rfl
            · rw [show (m + 1) * 3 + 1 - xs.length = 1 by omega]; rfl
            · rw [show (m + 1) * 3 + 2 - xs.length = 2 by omega]; rfl
          · rw [upd_ne _ _ e0, upd_ne _ _ e0, upd_ne _ _ e0]
            obtain ⟨y0, y1, y2⟩ := hx k (by omega)
            refine ⟨?_, ?_, ?_⟩ <;> rw [List.getElem?_append_left (by omega)] <;> assumption
        · rw [show max size 0 = size by omega]
          refine ⟨fun h => ?_, fun h => by omega, fun k hk => ?_, fun k hk => ?_, fun k hk => ?_, ?_, fun k hk => ?_, fun k hk => ?_⟩
          · rw [upd_ne _ _ (by omega)]; exact hg.start (by omega)
          · by_cases e0 : k = m
            · subst e0; rw [upd_at, upd_ne _ _ (by omega), upd_ne _ _ (by omega)]; omega
            · rw [upd_ne _ _ (by omega), upd_ne _ _ (by omega), upd_ne _ _ (by omega)]; exact hg.next k (by omega)
          · obtain rfl : k = m + 1 := by omega
            rw [upd_at, upd_at]
          · by_cases e0 : k = m + 1
            · subst e0; rw [upd_at, upd_at]; have := hg.top; omega
            · rw [upd_ne _ _ e0, upd_ne _ _ e0]; have := hg.low k (by omega); omega
          · have := hg.top; omega
          · by_cases e0 : k = m + 1
            · subst e0; rw [upd_at]; exact hst
            · rw [upd_ne _ _ e0]; exact hg.stat k (by omega)
          · by_cases e0 : k = m
            · subst e0; rw [upd_at, upd_ne _ _ (by omega)]; exact hj
            · rw [upd_ne _ _ (by omega), upd_ne _ _ (by omega)]; exact hg.apart k (by omega)
end Go.Proofs.Ytmefkfilclkgeaa.bound
