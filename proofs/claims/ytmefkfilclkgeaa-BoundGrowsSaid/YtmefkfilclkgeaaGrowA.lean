import Derived.Test.YtmefkfilclkgeaaGrow
namespace Go.Proofs.Ytmefkfilclkgeaa.bound
open Go.ChangeShapes Go.WideShapes Go.ChangeAt Go.RowKit
set_option linter.unusedVariables false
section
variable {n : Nat} {p s t : Nat → Int} {e : Int}
theorem Good.count (h : Good n p s t e) : (n : Int) ≤ e := by
  have key : ∀ k, k < n → (k : Int) ≤ p k := by
    intro k
    induction k with
    | zero => intro hk; rw [h.start hk]; simp
    | succ k ih =>
      intro hk
      have h1 := ih (by omega)
      have h2 := h.next k hk
      have h3 := h.low k (by omega)
      rw [h2]
      omega
  cases n with
  | zero => rw [h.none rfl]; simp
  | succ m =>
    have h1 := key m (by omega)
    have h2 := h.last m rfl
    have h3 := h.low m (by omega)
    omega
def regsL (n : Nat) (p s t : Nat → Int) : List Rg := (List.range n).map fun k => (p k, s k, t k)
theorem regsL_length : (regsL n p s t).length = n := by simp [regsL]
theorem regsL_at {k : Nat} (h : k < n) : (regsL n p s t).getD k (0, 0, 0) = (p k, s k, t k) := by
  simp [regsL, List.getD_eq_getElem?_getD, h]
theorem Good.ends (h : Good n p s t e) {k : Nat} (hk : k < n) : p k = if k = 0 then 0 else p (k - 1) + s (k - 1) := by
  cases k with
  | zero => exact h.start hk
  | succ k => exact h.next k hk
theorem Good.mayK (h : Good n p s t e) : ∀ (m k : Nat), k + m = n → Go.Proofs.Ytmefkfilclkgeaa.bound.mayK (regsL n p s t) m k (if k = 0 then 0 else p (k - 1) + s (k - 1)) = true := by
  intro m
  induction m with
  | zero => intro k _; rfl
  | succ m ih =>
    intro k hk
    have hlt : k < n := by omega
    have h1 := h.ends hlt
    have h2 := h.low k hlt
    have h3 := h.top
    have h4 := ih (k + 1) (by omega)
    rw [if_neg (by omega), show k + 1 - 1 = k from rfl] at h4
    have ep : posI (regsL n p s t) k = p k := by unfold posI; rw [regsL_at hlt]
    have es : sizeI (regsL n p s t) k = s k := by unfold sizeI; rw [regsL_at hlt]
    have et : statI (regsL n p s t) k = t k := by unfold statI; rw [regsL_at hlt]
    rw [← h1]
    show (okB (regsL n p s t) k (p k) && Go.Proofs.Ytmefkfilclkgeaa.bound.mayK (regsL n p s t) m (k + 1) (p k + sizeI (regsL n p s t) k)) = true
    rw [es, h4, Bool.and_true]
    unfold okB
    rw [ep, es, et, h.stat k hlt, decide_eq_true h2.2.1, decide_eq_true (by omega : s k ≤ 1099511627776 - p k)]
    cases k with
    | zero => simp
    | succ k =>
      have e2 : statI (regsL n p s t) (k + 1 - 1) = t k := by unfold statI; rw [show k + 1 - 1 = k from rfl, regsL_at (by omega)]
      rw [e2]
      have := h.apart k hlt
      simp [this]
theorem Good.mayB (h : Good n p s t e) : Go.Proofs.Ytmefkfilclkgeaa.bound.mayB (regsL n p s t) = true := by
  unfold Go.Proofs.Ytmefkfilclkgeaa.bound.mayB
  rw [regsL_length]
  exact h.mayK n 0 (by omega)
theorem Good.endI (h : Good n p s t e) : Go.Proofs.Ytmefkfilclkgeaa.bound.endI (regsL n p s t) = e := by
  unfold Go.Proofs.Ytmefkfilclkgeaa.bound.endI
  rw [regsL_length]
  cases n with
  | zero => rw [if_pos rfl, h.none rfl]
  | succ m =>
    rw [if_neg (by omega), show m + 1 - 1 = m from rfl]
    have ep : posI (regsL (m + 1) p s t) m = p m := by unfold posI; rw [regsL_at (by omega)]
    have es : sizeI (regsL (m + 1) p s t) m = s m := by unfold sizeI; rw [regsL_at (by omega)]
    rw [ep, es, h.last m rfl]
    have := h.top
    exact IntWalk.wrap64_in _ (by omega)
theorem Good.endG (h : Good n p s t e) : Go.Proofs.Ytmefkfilclkgeaa.bound.endG (regsL n p s t) = e := by
  unfold Go.Proofs.Ytmefkfilclkgeaa.bound.endG
  rw [if_pos h.mayB, h.endI]
theorem Own3.regs {w : World} {B : Nat} {v : Value} (o : Own3 w B v n p s t) (h : Good n p s t e) : ∃ a cap, v = .slice a n cap ∧ Regs w a (regsL n p s t) := by
  obtain ⟨_, xs, hown, hx⟩ := o
  rcases hown.2 with ⟨rfl, rfl⟩ | ⟨g, cap, cur, rfl, hb, hgc, hc, hm, hcs, ht⟩
  · exact ⟨none, 0, rfl, .inl rfl⟩
  · refine ⟨_, _, rfl, .inr ⟨g, 0, rfl, (hown.lt g rfl).2, fun k hk => ?_, fun k hk => ?_⟩⟩
    · rw [regsL_length] at hk
      obtain ⟨y0, y1, y2⟩ := hx k hk
      have hlen : xs.length = n * 3 := hown.1
      unfold posI sizeI statI
      rw [regsL_at hk, Nat.zero_add]
      exact ⟨(hown.cellAt _ (by omega)).trans y0, (hown.cellAt _ (by omega)).trans y1, (hown.cellAt _ (by omega)).trans y2⟩
    · rw [regsL_length] at hk
      unfold posI sizeI statI
      rw [regsL_at hk]
      have h1 := h.low k hk
      have h2 := h.top
      have h3 := status_in (h.stat k hk)
      dsimp only
      omega
theorem good_may {w : World} {B : Nat} {a : Option Addr} {cap : Nat} (o : Own3 w B (.slice a n cap) n p s t) (h : Good n p s t e) (hn : n < 1000) (w' : World) (hb : Below w.heap.size w w') :
    Calls Try.prog 36 #[.slice a n cap] w' fun e w2 => e = .returned (.bool true) ∧ Below w'.heap.size w' w2 := by
  obtain ⟨a', cap', hv, hR⟩ := o.regs h
  cases hv
  have := may_walk a cap (regsL n p s t) (by rw [regsL_length]; omega) w' (hR.on hb)
  rw [regsL_length, h.mayB] at this
  exact this
theorem good_end {w : World} {B : Nat} {a : Option Addr} {cap : Nat} (o : Own3 w B (.slice a n cap) n p s t) (h : Good n p s t e) (hn : n < 1000) (w' : World) (hb : Below w.heap.size w w') :
    Calls Try.prog 45 #[.slice a n cap] w' fun x w2 => x = .returned (.int .i64 e) ∧ Below w'.heap.size w' w2 := by
  obtain ⟨a', cap', hv, hR⟩ := o.regs h
  cases hv
  have := end_walk a cap (regsL n p s t) (by rw [regsL_length]; omega) w' (hR.on hb)
  rw [regsL_length, h.endI] at this
  exact this
end
theorem Own3.below {w w' : World} {B n : Nat} {v : Value} {p s t : Nat → Int} (h : Own3 w B v n p s t) (k : Below w.heap.size w w') : Own3 w' B v n p s t := by
  obtain ⟨h0, xs, h1, h2⟩ := h
  exact ⟨h0, xs, owns_below h1 k, h2⟩
end Go.Proofs.Ytmefkfilclkgeaa.bound
