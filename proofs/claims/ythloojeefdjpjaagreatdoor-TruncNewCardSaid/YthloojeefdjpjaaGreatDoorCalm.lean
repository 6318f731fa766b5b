/- Heaps of which the maps are forgotten; worlds that differ in blocks for which nothing stands. -/
import Derived.Test.YthloojeefdjpjaaGreatDoorAbR
import Derived.RangeFuncNested
namespace Go.Proofs.YthloojeefdjpjaaGreatDoor
open Go Go.RowKit
set_option linter.unusedVariables false

theorem HR.below {P : Program} {β : Bt} {h : Hp} {w w' : World} (H : HR P β h w) (B : Below w.heap.size w w') : HR P β h w' :=
  ⟨H.most, H.dom, H.has, fun b x i a c => blkOk_of_block (H.ok b x i a c) (fun he => B.block _ (blk_lt (H.ok b x i a c) he)), H.apart⟩
theorem St.below {β : Bt} {h : Hp} {w w' : World} (B : Below w.heap.size w w') : St β h w β h w' :=
  ⟨.refl _, B.os, B.tape, B.output, B.size, fun k hk _ => B.block k hk, fun _ h => .inl h, fun _ h => .inl h⟩

def Tr.mapv {α : Type} (f : α → α) : Tr α → Tr α
  | .nil => .nil
  | .node v l r => .node (match v with | some x => some (f x) | none => none) (l.mapv f) (r.mapv f)
theorem Tr.getN_mapv {α : Type} (f : α → α) : ∀ (n : Nat) (t : Tr α) (k : Nat), Tr.getN n (t.mapv f) k = (Tr.getN n t k).map f := by
  intro n
  induction n with
  | zero => intro t k; rfl
  | succ n ih =>
    intro t k
    cases t with
    | nil => rfl
    | node v l r =>
      rw [Tr.getN_node, show (Tr.node v l r).mapv f = .node (match v with | some x => some (f x) | none => none) (l.mapv f) (r.mapv f) from rfl, Tr.getN_node]
      by_cases h : k = 0
      · rw [if_pos h, if_pos h]; cases v <;> rfl
      · rw [if_neg h, if_neg h]
        by_cases h2 : k % 2 = 1
        · rw [if_pos h2, if_pos h2]; exact ih _ _
        · rw [if_neg h2, if_neg h2]; exact ih _ _
theorem Tr.get_mapv {α : Type} (f : α → α) (t : Tr α) (k : Nat) : (t.mapv f).get k = (t.get k).map f := by rw [Tr.get_eqN, Tr.get_eqN]; exact Tr.getN_mapv f 64 t k
def calmB : Blk → Blk
  | .map _ _ => .dead
  | x => x
def Hp.calm (h : Hp) : Hp := ⟨h.next, h.t.mapv calmB⟩
theorem Hp.get_calm (h : Hp) (b : Nat) : h.calm.get b = (h.get b).map calmB := Tr.get_mapv _ _ _
theorem get_calm_some {h : Hp} {b : Nat} {x : Blk} (hx : h.calm.get b = some x) : ∃ y, h.get b = some y ∧ x = calmB y := by
  rw [Hp.get_calm] at hx
  cases hy : h.get b with
  | none => rw [hy] at hx; cases hx
  | some y => rw [hy] at hx; injection hx with hx; exact ⟨y, rfl, hx.symm⟩
theorem calm_full {y : Blk} (h : ¬ (calmB y).empty) : calmB y = y ∧ ¬ y.empty := by
  cases y with
  | map es c => exact absurd trivial h
  | cells c e x r => exact ⟨rfl, h⟩
  | dead => exact ⟨rfl, h⟩
  | view b => exact ⟨rfl, h⟩
theorem HR.calm {P : Program} {β : Bt} {h : Hp} {w : World} (H : HR P β h w) : HR P β h.calm w where
  most := H.most
  dom := H.dom
  has := fun b x hx => by obtain ⟨y, hy, _⟩ := get_calm_some hx; exact H.has b y hy
  ok := fun b x i hx hi => by
    obtain ⟨y, hy, rfl⟩ := get_calm_some hx
    have := H.ok b y i hy hi
    cases y with
    | map es c => trivial
    | cells c e x r => exact this
    | dead => trivial
    | view v => exact this
  apart := fun b b' i i' x y hx hy hne hi hi' hm he => by
    obtain ⟨x', hx', rfl⟩ := get_calm_some hx
    obtain ⟨y', hy', rfl⟩ := get_calm_some hy
    have hm' := calm_full (mine_not_empty hm)
    have he' := calm_full he
    exact H.apart b b' i i' x' y' hx' hy' hne hi hi' (by rw [← hm'.1]; exact hm) he'.2
theorem held_calm {β : Bt} {h : Hp} {k : Nat} (hk : Held β h.calm k) : Held β h k := by
  obtain ⟨b, i, x, hx, hne, hi, e⟩ := hk
  obtain ⟨y, hy, rfl⟩ := get_calm_some hx
  exact ⟨b, i, y, hy, (calm_full hne).2, hi, e⟩
theorem own_calm {β : Bt} {h : Hp} {k : Nat} (hk : Own β h.calm k) : Own β h k := by
  obtain ⟨b, i, x, hx, hm, hi, e⟩ := hk
  obtain ⟨y, hy, rfl⟩ := get_calm_some hx
  have := calm_full (mine_not_empty hm)
  exact ⟨b, i, y, hy, by rw [← this.1]; exact hm, hi, e⟩
/-- Only the blocks for which something stands count. -/
theorem HR.other {P : Program} {β : Bt} {h : Hp} {w w' : World} (H : HR P β h w) (hk : ∀ k, Held β h k → w'.heap[k]? = w.heap[k]?) : HR P β h w' :=
  ⟨H.most, H.dom, H.has, fun b x i a c => blkOk_of_block (H.ok b x i a c) (fun he => hk _ ⟨b, i, x, a, he, c, rfl⟩), H.apart⟩
/-- What stands for something holds cells, where there are no maps. -/
theorem held_cells {P : Program} {β : Bt} {h : Hp} {w : World} (H : HR P β h.calm w) {k : Nat} (hk : Held β h.calm k) : ∃ o : Obj, w.heap[k]? = some o ∧ o.isCells = true := by
  obtain ⟨b, i, x, hx, hne, hi, rfl⟩ := hk
  obtain ⟨y, hy, rfl⟩ := get_calm_some hx
  have ok := H.ok b _ i hx hi
  cases y with
  | map es c => exact absurd trivial hne
  | dead => exact absurd trivial hne
  | view v => exact absurd trivial hne
  | cells c e x r =>
    rcases ok with ⟨rfl, rfl, rfl⟩ | ⟨cc, e', fr, hb, _⟩
    · exact absurd trivial hne
    · exact ⟨_, hb, rfl⟩
theorem held_lt {P : Program} {β : Bt} {h : Hp} {w : World} (H : HR P β h w) {k : Nat} (hk : Held β h k) : k < w.heap.size := by
  obtain ⟨b, i, x, hx, hne, hi, rfl⟩ := hk
  exact blk_lt (H.ok _ _ _ hx hi) hne
/-- A turn of a block that holds no cells. -/
theorem HR.turn {P : Program} {β : Bt} {h : Hp} {w w' : World} {row : Option Nat} (H : HR P β h.calm w) (hg : w.grownBy w' row) (hr : ∀ r, row = some r → ∃ o : Obj, w.heap[r]? = some o ∧ o.isCells = false) : HR P β h.calm w' :=
  H.other fun k hk => hg.block k (held_lt H hk) (fun e => by
    obtain ⟨o, ho, hc⟩ := hr k e.symm
    obtain ⟨o', ho', hc'⟩ := held_cells H hk
    rw [ho] at ho'
    injection ho' with ho'
    rw [ho', hc'] at hc
    cases hc)
end Go.Proofs.YthloojeefdjpjaaGreatDoor
