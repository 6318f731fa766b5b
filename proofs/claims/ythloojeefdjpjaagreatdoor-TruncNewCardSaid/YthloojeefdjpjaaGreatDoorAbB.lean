/- The evaluator's heaps beside the machine's: what is read, written and made. -/
import Derived.Test.YthloojeefdjpjaaGreatDoorAbA
namespace Go.Proofs.YthloojeefdjpjaaGreatDoor
open Go Go.RowKit
set_option linter.unusedVariables false
set_option linter.unusedSimpArgs false

def Blk.empty : Blk → Prop
  | .cells [] _ false true => True
  | .dead => True
  | .view _ => True
  | _ => False
def Blk.mine : Blk → Prop
  | .cells _ _ _ false => True
  | .map _ _ => True
  | _ => False
/-- No cell of so many is frozen. -/
def Fine (fr : Nat × Nat) (n : Nat) : Prop := fr.1 = fr.2 ∨ n ≤ fr.1
theorem Fine.out {fr : Nat × Nat} {n : Nat} (h : Fine fr n) : ∀ o, o < n → ¬ (fr.1 ≤ o ∧ o < fr.2) := fun o ho => by
  rcases h with h | h <;> omega
def BlkOk (P : Program) (β : Bt) (w : World) (i : Info) : Blk → Prop
  | .cells c e exact ro => (c = [] ∧ ro = true ∧ exact = false) ∨ ∃ cc e' fr, w.heap[i.blk]? = some (.cells cc e' fr) ∧ i.off + c.length ≤ cc.size ∧
      (∀ (k : Nat) (x y : Value), c[k]? = some x → cc[i.off + k]? = some y → VR β x y) ∧ (exact = true → i.ex = 0 ∧ i.off = 0 ∧ cc.size = c.length) ∧
      (ro = false → e' = e ∧ Fine fr cc.size ∧ i.off + c.length + i.ex * P.cellsOf e ≤ cc.size)
  | .map es clock => w.heap[i.blk]? = some (.map es.toArray clock) ∧ ∀ e ∈ es, plain_ e.key = true ∧ plain_ e.val = true
  | .dead => True
  | .view b => i.ex = 0 ∧ ∃ j, β b = some j ∧ j.blk = i.blk ∧ j.off = i.off
structure HR (P : Program) (β : Bt) (h : Hp) (w : World) : Prop where
  most : h.next ≤ 9223372036854775808
  dom : ∀ b i, β b = some i → b < h.next
  has : ∀ b x, h.get b = some x → ∃ i, β b = some i
  ok : ∀ b x i, h.get b = some x → β b = some i → BlkOk P β w i x
  apart : ∀ b b' i i' x y, h.get b = some x → h.get b' = some y → b ≠ b' → β b = some i → β b' = some i' → x.mine → ¬ y.empty → i.blk ≠ i'.blk

theorem blkOk_mono {P : Program} {β β' : Bt} (hb : β.le β') {w : World} {i : Info} {x : Blk} (h : BlkOk P β w i x) : BlkOk P β' w i x := by
  cases x with
  | cells c e ex ro =>
    rcases h with h | ⟨cc, e', fr, h1, h2, h3, h4, h5⟩
    · exact .inl h
    · exact .inr ⟨cc, e', fr, h1, h2, fun k x y a b => (h3 k x y a b).mono hb, h4, h5⟩
  | map es clock => exact h
  | dead => trivial
  | view b => exact ⟨h.1, h.2.choose, hb _ _ h.2.choose_spec.1, h.2.choose_spec.2⟩
/-- What a block says hangs on the machine's block alone. -/
theorem blkOk_of_block {P : Program} {β : Bt} {w w' : World} {i : Info} {x : Blk} (h : BlkOk P β w i x) (hw : ¬ x.empty → w'.heap[i.blk]? = w.heap[i.blk]?) : BlkOk P β w' i x := by
  cases x with
  | cells c e ex ro =>
    rcases h with h | ⟨cc, e', fr, h1, h2, h3, h4, h5⟩
    · exact .inl h
    · by_cases he : c = [] ∧ ro = true ∧ ex = false
      · exact .inl he
      · refine .inr ⟨cc, e', fr, ?_, h2, h3, h4, h5⟩
        rw [hw ?_]
        · exact h1
        · intro hx
          cases c with
          | nil => cases ro with
            | true => cases ex with
              | true => exact hx
              | false => exact he ⟨rfl, rfl, rfl⟩
            | false => cases ex <;> exact hx
          | cons a l => cases ex <;> cases ro <;> exact hx
  | map es clock => exact ⟨by rw [hw (fun hx => hx)]; exact h.1, h.2⟩
  | dead => trivial
  | view b => exact h
theorem blk_lt {P : Program} {β : Bt} {w : World} {i : Info} {x : Blk} (h : BlkOk P β w i x) (he : ¬ x.empty) : i.blk < w.heap.size := by
  cases x with
  | cells c e ex ro =>
    rcases h with ⟨rfl, rfl, rfl⟩ | ⟨cc, e', fr, h1, _⟩
    · exact absurd trivial he
    · exact (Array.getElem?_eq_some_iff.1 h1).1
  | map es clock => exact (Array.getElem?_eq_some_iff.1 h.1).1
  | dead => exact absurd trivial he
  | view b => exact absurd trivial he
theorem mine_not_empty {x : Blk} (h : x.mine) : ¬ x.empty := by
  intro he
  cases x with
  | cells c e ex ro =>
    cases ro with
    | true => exact h
    | false => cases c <;> cases ex <;> exact he
  | map es clock => exact he
  | dead => exact h
  | view b => exact h

/-- The machine's blocks that may be written. -/
def Own (β : Bt) (h : Hp) (k : Nat) : Prop := ∃ b i x, h.get b = some x ∧ x.mine ∧ β b = some i ∧ i.blk = k
/-- The machine's blocks that something stands for. -/
def Held (β : Bt) (h : Hp) (k : Nat) : Prop := ∃ b i x, h.get b = some x ∧ ¬ x.empty ∧ β b = some i ∧ i.blk = k
theorem Own.held {β : Bt} {h : Hp} {k : Nat} (o : Own β h k) : Held β h k := by
  obtain ⟨b, i, x, h1, h2, h3, h4⟩ := o
  exact ⟨b, i, x, h1, mine_not_empty h2, h3, h4⟩
/-- From one heap and world to a later one: what isn't one's own stays. -/
structure St (β : Bt) (h : Hp) (w : World) (β' : Bt) (h' : Hp) (w' : World) : Prop where
  le : β.le β'
  os : w'.os = w.os
  tape : w'.tape = w.tape
  output : w'.output = w.output
  size : w.heap.size ≤ w'.heap.size
  keep : ∀ k, k < w.heap.size → ¬ Own β h k → w'.heap[k]? = w.heap[k]?
  own : ∀ k, Own β' h' k → Own β h k ∨ w.heap.size ≤ k
  held : ∀ k, Held β' h' k → Held β h k ∨ w.heap.size ≤ k
theorem St.refl (β : Bt) (h : Hp) (w : World) : St β h w β h w := ⟨.refl _, rfl, rfl, rfl, Nat.le_refl _, fun _ _ _ => rfl, fun _ h => .inl h, fun _ h => .inl h⟩
theorem St.trans {a b c : Bt} {h1 h2 h3 : Hp} {w1 w2 w3 : World} (s : St a h1 w1 b h2 w2) (t : St b h2 w2 c h3 w3) : St a h1 w1 c h3 w3 where
  le := s.le.trans t.le
  os := t.os.trans s.os
  tape := t.tape.trans s.tape
  output := t.output.trans s.output
  size := Nat.le_trans s.size t.size
  keep := fun k hk hn => by
    rw [t.keep k (Nat.lt_of_lt_of_le hk s.size) (fun ho => by
      rcases s.own k ho with h | h
      · exact hn h
      · omega), s.keep k hk hn]
  own := fun k hk => by
    rcases t.own k hk with h | h
    · exact s.own k h
    · exact .inr (Nat.le_trans s.size h)
  held := fun k hk => by
    rcases t.held k hk with h | h
    · exact s.held k h
    · exact .inr (Nat.le_trans s.size h)
/-! ### Draws, and worlds that are alike -/
/-- A world of the same memory: only what was drawn may differ. -/
theorem HR.drawn {P : Program} {β : Bt} {h : Hp} {w w' : World} (H : HR P β h w) (hw : w'.heap = w.heap) : HR P β h w' where
  most := H.most
  dom := H.dom
  has := H.has
  ok := fun b x i a c => blkOk_of_block (H.ok b x i a c) (fun _ => by rw [hw])
  apart := H.apart
theorem St.drawn {β : Bt} {h : Hp} {w w' : World} (hw : w'.heap = w.heap) (h1 : w'.os = w.os) (h2 : w'.tape = w.tape) (h3 : w'.output = w.output) : St β h w β h w' :=
  ⟨.refl _, h1, h2, h3, by rw [hw]; exact Nat.le_refl _, fun k _ _ => by rw [hw], fun _ h => .inl h, fun _ h => .inl h⟩

/-! ### Reading -/
theorem cell_heap {w : World} {b o : Nat} {cc : Array Value} {e : TypeId} {fr : Nat × Nat} (h : w.heap[b]? = some (.cells cc e fr)) : w.cell? ⟨b, o, none⟩ = cc[o]? := by
  simp [World.cell?, h]
theorem add_none (b o n : Nat) : (⟨b, o, none⟩ : Addr).add n = ⟨b, o + n, none⟩ := by
  unfold Addr.add
  split <;> simp_all
theorem loadCells_plain {P : Program} {β : Bt} {h : Hp} {w : World} (H : HR P β h w) {b : Nat} {c : List Value} {e : TypeId} {ex ro : Bool} (hg : h.get b = some (.cells c e ex ro)) {o n : Nat} {l : List Value} (hl : lcut c o n = some l) {i : Info} (hi : β b = some i) :
    ∃ l' : List Value, (∀ W : World, W.heap = w.heap → (loadCells ⟨i.blk, i.off + o, none⟩ n).run P W = .ok l'.toArray W) ∧ LR β l l' ∧ l.length = n := by
  obtain ⟨h1, _, h2⟩ := lcut_some hl
  have hget := lcut_get hl
  rcases H.ok _ _ _ hg hi with ⟨rfl, _⟩ | ⟨cc, e', fr, hb, hs, hv, _⟩
  · have h0 : n = 0 := by simp at h1; omega
    subst h0
    have : l = [] := List.eq_nil_of_length_eq_zero h2
    subst this
    exact ⟨[], fun W _ => rfl, LR.nil β, rfl⟩
  · have hc : ∀ j, j < n → ∃ y, cc[i.off + (o + j)]? = some y ∧ ∀ x, l[j]? = some x → VR β x y := by
      intro j hj
      have hlt : i.off + (o + j) < cc.size := by omega
      refine ⟨cc[i.off + (o + j)], Array.getElem?_eq_getElem hlt, fun x hx => ?_⟩
      rw [hget j hj] at hx
      exact hv _ _ _ hx (Array.getElem?_eq_getElem hlt)
    refine ⟨(List.range n).map (fun j => cc.getD (i.off + (o + j)) undef), ?_, ⟨by simp [h2], fun j x y hx hy => ?_⟩, h2⟩
    · intro W hW
      refine run_loadCells _ _ _ _ (fun j hj => ?_)
      obtain ⟨y, hy, _⟩ := hc j hj
      rw [add_none, cell_heap (hW ▸ hb), Nat.add_assoc, hy]
      simp [Array.getD_eq_getD_getElem?, hy]
    · have hj : j < n := by rw [← h2]; exact (List.getElem?_eq_some_iff.1 hx).1
      obtain ⟨z, hz, hR⟩ := hc j hj
      have : y = z := by
        rw [List.getElem?_map, List.getElem?_range hj] at hy
        simp [Array.getD_eq_getD_getElem?, hz] at hy
        exact hy.symm
      subst this
      exact hR x hx
/-- the block whose cells are read -/
theorem seen_at {P : Program} {β : Bt} {h : Hp} {w : World} (H : HR P β h w) {b v : Nat} {i : Info} (hv : h.get v = some (.view b)) (hi : β v = some i) : i.ex = 0 ∧ ∃ j, β b = some j ∧ j.blk = i.blk ∧ j.off = i.off := H.ok _ _ _ hv hi
theorem loadCells_run {P : Program} {β : Bt} {h : Hp} {w : World} (H : HR P β h w) {a : Addr} {n : Nat} {l : List Value} (hl : loadCells_ h a n = some l) {i : Info} (hi : β a.block = some i) :
    ∃ l' : List Value, (∀ W : World, W.heap = w.heap → (loadCells ⟨i.blk, i.off + a.off, none⟩ n).run P W = .ok l'.toArray W) ∧ LR β l l' ∧ l.length = n := by
  unfold loadCells_ at hl
  cases hg : h.get a.block with
  | none => rw [hg] at hl; cases hl
  | some x =>
    rw [hg] at hl
    cases x with
    | map es c => cases hl
    | dead => cases hl
    | cells c e ex ro => exact loadCells_plain H hg hl hi
    | view b =>
      simp only at hl
      obtain ⟨_, j, hj, e1, e2⟩ := seen_at H hg hi
      cases hg2 : h.get b with
      | none => rw [hg2] at hl; cases hl
      | some x =>
        rw [hg2] at hl
        cases x with
        | map es c => cases hl
        | dead => cases hl
        | view b => cases hl
        | cells c e ex ro => rw [← e1, ← e2]; exact loadCells_plain H hg2 hl hj
theorem env_type {P : Program} {eqs : List TypeId} (hp : P.types.size < 4000) {t : TypeId} {i : TypeInfo} (h : (Env.of P eqs).types.get t = some i) : P.info? t = some i := by
  unfold Env.of at h
  simp only at h
  rw [Tr.get_ofList _ _ _ _ (by simp; omega)] at h
  split at h
  · rename_i hc
    simp only [Nat.sub_zero, Nat.zero_add, Array.length_toList] at h hc
    unfold Tables.info?
    rw [if_pos hc.2]
    simpa using h
  · cases h
theorem env_func {P : Program} {eqs : List TypeId} (hp : P.funcs.size < 4000) {f : FuncId} {fn : Func} (h : (Env.of P eqs).funcs.get f = some fn) : P.funcs[f]? = some fn := by
  unfold Env.of at h
  simp only at h
  rw [Tr.get_ofList _ _ _ _ (by simp; omega)] at h
  split at h
  · simpa using h
  · cases h
section
variable {P : Program} {eqs : List TypeId} (hp : P.types.size < 4000)
include hp
theorem env_under {t : TypeId} {d : TypeDesc} (h : (Env.of P eqs).under t = some d) : P.underlying t = some d := by
  unfold Env.under at h
  cases hg : (Env.of P eqs).types.get t with
  | none => rw [hg] at h; cases h
  | some i =>
    rw [hg] at h
    have hi := env_type hp hg
    unfold Program.underlying
    rw [hi]
    obtain ⟨desc, str, size, bytes, a1, a2, a3, zero, a4, a5⟩ := i
    cases desc with
    | named n u =>
      simp only at h ⊢
      cases hu : (Env.of P eqs).types.get u with
      | none => rw [hu] at h; cases h
      | some j => rw [hu] at h; rw [env_type hp hu]; exact h
    | _ => simpa using h
theorem env_size {t : TypeId} {n : Nat} (h : (Env.of P eqs).size t = some n) : ∃ i, P.info? t = some i ∧ i.size = n ∧ P.cellsOf t = n := by
  unfold Env.size at h
  cases hg : (Env.of P eqs).types.get t with
  | none => rw [hg] at h; cases h
  | some i =>
    rw [hg] at h
    have hi := env_type hp hg
    simp only [Option.map_some, Option.some.injEq] at h
    exact ⟨i, hi, h, by simp [Program.cellsOf, hi, h]⟩
theorem env_cmp {t : TypeId} {n : Bool} (h : (Env.of P eqs).cmp t = some n) : ∃ i, P.info? t = some i ∧ i.comparable = n := by
  unfold Env.cmp at h
  cases hg : (Env.of P eqs).types.get t with
  | none => rw [hg] at h; cases h
  | some i => rw [hg] at h; exact ⟨i, env_type hp hg, by simpa using h⟩
theorem env_bytes {t : TypeId} {n : Nat} (h : (Env.of P eqs).bytes t = some n) : ∃ i, P.info? t = some i ∧ i.bytes = n := by
  unfold Env.bytes at h
  cases hg : (Env.of P eqs).types.get t with
  | none => rw [hg] at h; cases h
  | some i => rw [hg] at h; exact ⟨i, env_type hp hg, by simpa using h⟩
omit hp in
theorem bare_ok {β : Bt} {v : Value} (h : bare_ v = true) : VR β v v := by
  refine VR.bare ?_
  cases v with
  | pointer a => cases a with | none => trivial | some a => cases h
  | slice a n c => cases a with | none => trivial | some a => cases h
  | map r => cases r with | none => trivial | some r => cases h
  | _ => first | trivial | cases h
omit hp in
theorem bares_ok {β : Bt} : ∀ {l : List Value}, bares_ l = true → LR β l l := by
  intro l
  induction l with
  | nil => intro _; exact LR.nil β
  | cons v l ih =>
    intro h
    simp only [bares_] at h
    cases hv : bare_ v with
    | false => rw [hv] at h; cases h
    | true => rw [hv] at h; exact LR.cons (bare_ok hv) (ih h)
theorem env_zero {t : TypeId} {z : Value} (h : (Env.of P eqs).zero t = some z) : (∃ i, P.info? t = some i ∧ i.zero = some z) ∧ ∀ β, VR β z z := by
  unfold Env.zero at h
  cases hg : (Env.of P eqs).types.get t with
  | none => rw [hg] at h; cases h
  | some i =>
    rw [hg] at h
    have hi := env_type hp hg
    simp only at h
    split at h
    · rename_i cs hz
      cases hb : bares_ cs.toList with
      | false => rw [hb] at h; cases h
      | true =>
        rw [hb] at h
        injection h with h
        subst h
        refine ⟨⟨i, hi, hz⟩, fun β => ?_⟩
        have hl := bares_ok (β := β) hb
        exact .agg rfl (fun i x y hx hy => hl.2 i x y (by simpa using hx) (by simpa using hy))
    · rename_i v _ hz
      cases hb : bare_ v with
      | false => rw [hb] at h; cases h
      | true =>
        rw [hb] at h
        injection h with h
        subst h
        exact ⟨⟨i, hi, hz⟩, fun β => bare_ok hb⟩
    · cases h
theorem run_size {t : TypeId} {n : Nat} (h : (Env.of P eqs).size t = some n) (w : World) : (sizeOf t).run P w = .ok n w := by
  obtain ⟨i, h1, _, h2⟩ := env_size hp h
  rw [run_sizeOf w h1, h2]
theorem run_under {t : TypeId} {d : TypeDesc} (h : (Env.of P eqs).under t = some d) (w : World) : (underlying t).run P w = .ok d w := run_underlying (env_under hp h) w
theorem run_zero {t : TypeId} {z : Value} (h : (Env.of P eqs).zero t = some z) (w : World) : (zeroValue t).run P w = .ok z w := by
  obtain ⟨⟨i, h1, h2⟩, _⟩ := env_zero hp h
  simp [zeroValue, run_typeInfo w h1, h2]
theorem run_agg {t : TypeId} {b : Bool} (h : (Env.of P eqs).agg t = some b) (w : World) : (isAgg t).run P w = .ok b w := by
  unfold Env.agg at h
  cases hg : (Env.of P eqs).under t with
  | none => rw [hg] at h; cases h
  | some d =>
    rw [hg] at h
    have := run_under hp hg w
    unfold isAgg
    cases d <;> simp [this] at h ⊢ <;> exact h
theorem loadVar_run {β : Bt} {h : Hp} {w : World} (H : HR P β h w) {t : TypeId} {a : Addr} {v : Value} (hl : loadVar_ (Env.of P eqs) h t a = some v) {i : Info} (hi : β a.block = some i) :
    ∃ v', (loadVar t ⟨i.blk, i.off + a.off, none⟩).run P w = .ok v' w ∧ VR β v v' := by
  unfold loadVar_ at hl
  cases ha : (Env.of P eqs).agg t with
  | none => rw [ha] at hl; cases hl
  | some g =>
    rw [ha] at hl
    cases g with
    | true =>
      cases hs : (Env.of P eqs).size t with
      | none => rw [hs] at hl; cases hl
      | some n =>
        rw [hs] at hl
        simp only at hl
        cases hc : loadCells_ h a n with
        | none => rw [hc] at hl; cases hl
        | some l =>
          rw [hc] at hl
          simp only [Option.some.injEq] at hl
          subst hl
          obtain ⟨l', hr, hR, _⟩ := loadCells_run H hc hi
          refine ⟨.agg l'.toArray, ?_, .agg (by simpa using hR.1) (fun k x y hx hy => hR.2 k x y (by simpa using hx) (by simpa using hy))⟩
          simp [loadVar, run_agg hp ha, run_size hp hs, hr w rfl]
    | false =>
      simp only at hl
      cases hc : loadCells_ h a 1 with
      | none => rw [hc] at hl; cases hl
      | some l =>
        rw [hc] at hl
        obtain ⟨l', hr, hR, hn⟩ := loadCells_run H hc hi
        match l, l', hR, hn, hl with
        | [x], [y], hR, _, hl =>
          simp only [Option.some.injEq] at hl
          subst hl
          refine ⟨y, ?_, hR.head⟩
          have : (load ⟨i.blk, i.off + a.off, none⟩).run P w = .ok y w := by
            have h2 := hr w rfl
            simp only [loadCells, loadCellsFrom, Sem.run_bind] at h2
            have e0 : (⟨i.blk, i.off + a.off, none⟩ : Addr).add 0 = ⟨i.blk, i.off + a.off, none⟩ := by rw [add_none]; rfl
            rw [e0] at h2
            cases hq : (load (⟨i.blk, i.off + a.off, none⟩ : Addr)).run P w with
            | ok z w1 =>
              rw [hq] at h2
              simp at h2
              obtain ⟨rfl, rfl⟩ := h2
              rfl
            | halt e w1 => rw [hq] at h2; simp at h2
          simp only [loadVar, Sem.run_bind, run_agg hp ha, Result.andThen_ok, Bool.false_eq_true, if_false]
          exact this
        | [x], [], hR, _, _ => exact absurd hR.1 (by simp)
        | [x], _ :: _ :: _, hR, _, _ => exact absurd hR.1 (by simp)
end

/-! ### A new block -/
theorem heap_push_old {w : World} {o : Obj} {k : Nat} (h : k < w.heap.size) : ({ w with heap := w.heap.push o } : World).heap[k]? = w.heap[k]? := by
  show (w.heap.push o)[k]? = _
  rw [Array.getElem?_push, if_neg (by omega)]
theorem heap_push_new {w : World} {o : Obj} : ({ w with heap := w.heap.push o } : World).heap[w.heap.size]? = some o := by
  show (w.heap.push o)[w.heap.size]? = _
  rw [Array.getElem?_push, if_pos rfl]
def Bt.put (β : Bt) (b : Nat) (i : Info) : Bt := fun k => if k = b then some i else β k
theorem Bt.put_same (β : Bt) (b : Nat) (i : Info) : β.put b i b = some i := if_pos rfl
theorem Bt.put_other (β : Bt) {b k : Nat} (i : Info) (h : k ≠ b) : β.put b i k = β k := if_neg h
theorem HR.new_id {P : Program} {β : Bt} {h : Hp} {w : World} (H : HR P β h w) : β h.next = none := by
  cases e : β h.next with
  | none => rfl
  | some i => exact absurd (H.dom _ _ e) (by omega)
theorem HR.le_put {P : Program} {β : Bt} {h : Hp} {w : World} (H : HR P β h w) (i : Info) : β.le (β.put h.next i) := by
  intro b j e
  rw [Bt.put_other]
  · exact e
  · rintro rfl
    rw [H.new_id] at e
    cases e
/-- A new block of the evaluator over a block of the machine that nothing else stands for: the machine's world is another one, as far as blocks that nothing stands for go. -/
theorem HR.grow {P : Program} {β : Bt} {h h' : Hp} {w w' : World} (H : HR P β h w) {b : Nat} {x : Blk} (hn : h.new x = some (b, h')) (i : Info)
    (hold : ∀ b y j, h.get b = some y → β b = some j → ¬ y.empty → w'.heap[j.blk]? = w.heap[j.blk]?)
    (hx : BlkOk P (β.put h.next i) w' i x) (hfar : ¬ x.empty → ∀ b y j, h.get b = some y → β b = some j → ¬ y.empty → j.blk ≠ i.blk) :
    HR P (β.put h.next i) h' w' := by
  obtain ⟨_, h1, h2, h3⟩ := Hp.new_some hn
  have hle := H.le_put i
  have old : ∀ b y, h.get b = some y → b ≠ h.next := by
    rintro b y e rfl
    obtain ⟨j, hj⟩ := H.has _ _ e
    rw [H.new_id] at hj
    cases hj
  refine ⟨by omega, ?_, ?_, ?_, ?_⟩
  · intro b j e
    by_cases hbn : b = h.next
    · omega
    · rw [Bt.put_other _ _ hbn] at e
      have := H.dom _ _ e
      omega
  · intro b y e
    rw [h3] at e
    by_cases hbn : b = h.next
    · subst hbn; exact ⟨i, Bt.put_same _ _ _⟩
    · rw [if_neg hbn] at e
      obtain ⟨j, hj⟩ := H.has _ _ e
      exact ⟨j, hle _ _ hj⟩
  · intro b y j e ej
    rw [h3] at e
    by_cases hbn : b = h.next
    · subst hbn
      rw [if_pos rfl] at e
      rw [Bt.put_same] at ej
      injection e with e
      injection ej with ej
      subst e ej
      exact hx
    · rw [if_neg hbn] at e
      rw [Bt.put_other _ _ hbn] at ej
      exact blkOk_mono hle (blkOk_of_block (H.ok _ _ _ e ej) (fun he => hold _ _ _ e ej he))
  · intro b b' j j' y z e e' hne ej ej' hm hz
    rw [h3] at e e'
    by_cases hbn : b = h.next
    · subst hbn
      rw [if_pos rfl] at e
      rw [if_neg (Ne.symm hne)] at e'
      rw [Bt.put_same] at ej
      rw [Bt.put_other _ _ (Ne.symm hne)] at ej'
      injection e with e
      injection ej with ej
      subst e ej
      exact Ne.symm (hfar (mine_not_empty hm) _ _ _ e' ej' hz)
    · rw [if_neg hbn] at e
      rw [Bt.put_other _ _ hbn] at ej
      by_cases hbn' : b' = h.next
      · subst hbn'
        rw [if_pos rfl] at e'
        rw [Bt.put_same] at ej'
        injection e' with e'
        injection ej' with ej'
        subst e' ej'
        exact hfar hz _ _ _ e ej (mine_not_empty hm)
      · rw [if_neg hbn'] at e'
        rw [Bt.put_other _ _ hbn'] at ej'
        exact H.apart _ _ _ _ _ _ e e' hne ej ej' hm hz
theorem own_grow {P : Program} {β : Bt} {h h' : Hp} {w : World} (H : HR P β h w) {b : Nat} {x : Blk} (hn : h.new x = some (b, h')) (i : Info) {k : Nat} (hk : Own (β.put h.next i) h' k) : Own β h k ∨ (x.mine ∧ i.blk = k) := by
  obtain ⟨_, h1, h2, h3⟩ := Hp.new_some hn
  obtain ⟨c, j, y, e, hm, ej, rfl⟩ := hk
  rw [h3] at e
  by_cases hc : c = h.next
  · subst hc
    rw [if_pos rfl] at e
    rw [Bt.put_same] at ej
    injection e with e
    injection ej with ej
    subst e ej
    exact .inr ⟨hm, rfl⟩
  · rw [if_neg hc] at e
    rw [Bt.put_other _ _ hc] at ej
    exact .inl ⟨c, j, y, e, hm, ej, rfl⟩
theorem held_grow {P : Program} {β : Bt} {h h' : Hp} {w : World} (H : HR P β h w) {b : Nat} {x : Blk} (hn : h.new x = some (b, h')) (i : Info) {k : Nat} (hk : Held (β.put h.next i) h' k) : Held β h k ∨ (¬ x.empty ∧ i.blk = k) := by
  obtain ⟨_, h1, h2, h3⟩ := Hp.new_some hn
  obtain ⟨c, j, y, e, hm, ej, rfl⟩ := hk
  rw [h3] at e
  by_cases hc : c = h.next
  · subst hc
    rw [if_pos rfl] at e
    rw [Bt.put_same] at ej
    injection e with e
    injection ej with ej
    subst e ej
    exact .inr ⟨hm, rfl⟩
  · rw [if_neg hc] at e
    rw [Bt.put_other _ _ hc] at ej
    exact .inl ⟨c, j, y, e, hm, ej, rfl⟩
/-- The machine's new block. -/
theorem HR.fresh {P : Program} {β : Bt} {h h' : Hp} {w : World} (H : HR P β h w) {b : Nat} {x : Blk} (hn : h.new x = some (b, h')) (o : Obj) (ex : Nat)
    (hx : ∀ β' : Bt, β.le β' → BlkOk P β' { w with heap := w.heap.push o } ⟨w.heap.size, 0, ex⟩ x) :
    HR P (β.put h.next ⟨w.heap.size, 0, ex⟩) h' { w with heap := w.heap.push o } ∧ St β h w (β.put h.next ⟨w.heap.size, 0, ex⟩) h' { w with heap := w.heap.push o } ∧ b = h.next := by
  refine ⟨H.grow hn _ ?_ (hx _ (H.le_put _)) ?_, ⟨H.le_put _, rfl, rfl, rfl, by simp, fun k hk _ => heap_push_old hk, fun k hk => ?_, fun k hk => ?_⟩, (Hp.new_some hn).1⟩
  · intro b y j e ej he
    exact heap_push_old (blk_lt (H.ok _ _ _ e ej) he)
  · intro _ b y j e ej he
    have := blk_lt (H.ok _ _ _ e ej) he
    show j.blk ≠ w.heap.size
    omega
  · rcases own_grow H hn _ hk with h | ⟨_, h⟩
    · exact .inl h
    · exact .inr (Nat.le_of_eq h)
  · rcases held_grow H hn _ hk with h | ⟨_, h⟩
    · exact .inl h
    · exact .inr (Nat.le_of_eq h)
/-- A row of cells of its own. -/
theorem HR.row {P : Program} {β : Bt} {h h' : Hp} {w : World} (H : HR P β h w) {e : TypeId} {l : List Value} {l' : Array Value} {exact_ : Bool} {a : Addr}
    (hn : newRow_ h e l exact_ = some (a, h')) (hl : ∀ (i : Nat) (x y : Value), l[i]? = some x → l'[i]? = some y → VR β x y) (fr : Nat × Nat) (hfr : Fine fr l'.size) (ex : Nat) (hex : exact_ = true → ex = 0) (hsz : l.length + ex * P.cellsOf e ≤ l'.size) (e' : TypeId) (he : e' = e) (hsx : exact_ = true → l'.size = l.length) :
    ∃ β', HR P β' h' { w with heap := w.heap.push (.cells l' e' fr) } ∧ St β h w β' h' { w with heap := w.heap.push (.cells l' e' fr) } ∧ ∃ b, a = ⟨b, 0, none⟩ ∧ β' b = some ⟨w.heap.size, 0, ex⟩ := by
  unfold newRow_ at hn
  cases hq : h.new (.cells l e exact_ false) with
  | none => rw [hq] at hn; cases hn
  | some r =>
    obtain ⟨b, h2⟩ := r
    rw [hq] at hn
    simp only [Option.some.injEq, Prod.mk.injEq] at hn
    obtain ⟨rfl, rfl⟩ := hn
    obtain ⟨H', S', rfl⟩ := H.fresh hq (.cells l' e' fr) ex (fun β' hb => by
      refine .inr ⟨l', e', fr, heap_push_new, by show 0 + l.length ≤ l'.size; omega, fun k x y hx hy => ?_, fun h => ⟨hex h, rfl, hsx h⟩, fun _ => ⟨he, hfr, by show 0 + l.length + ex * P.cellsOf e ≤ l'.size; omega⟩⟩
      rw [Nat.zero_add] at hy
      exact (hl k x y hx hy).mono hb)
    exact ⟨_, H', S', _, rfl, Bt.put_same _ _ _⟩

/-! ### Writing -/
theorem setCells_heap (b : Nat) : ∀ (vs : List Value) (o : Nat) (w : World) (cc : Array Value) (e : TypeId) (fr : Nat × Nat), w.heap[b]? = some (.cells cc e fr) →
    ∃ cc', (w.setCells b o vs).heap[b]? = some (.cells cc' e fr) ∧ cc'.size = cc.size ∧ ∀ j, cc'[j]? = if o ≤ j ∧ j < o + vs.length ∧ j < cc.size then vs[j - o]? else cc[j]? := by
  intro vs
  induction vs with
  | nil => intro o w cc e fr h; exact ⟨cc, h, rfl, fun j => by rw [if_neg (by simp only [List.length_nil]; omega)]⟩
  | cons v vs ih =>
    intro o w cc e fr h
    have h1 : (w.setCell ⟨b, o, none⟩ v).heap[b]? = some (.cells (cc.setIfInBounds o v) e fr) := by
      simp [World.setCell, Array.getElem?_modify, h]
    obtain ⟨cc', h2, h3, h4⟩ := ih (o + 1) _ _ _ _ h1
    refine ⟨cc', h2, by rw [h3]; simp, fun j => ?_⟩
    rw [h4]
    simp only [Array.size_setIfInBounds, List.length_cons]
    by_cases hj : o + 1 ≤ j ∧ j < o + 1 + vs.length ∧ j < cc.size
    · rw [if_pos hj, if_pos (by omega)]
      obtain ⟨d, rfl⟩ : ∃ d, j = o + 1 + d := ⟨j - (o + 1), by omega⟩
      rw [show o + 1 + d - (o + 1) = d from by omega, show o + 1 + d - o = d + 1 from by omega]
      rfl
    · rw [if_neg hj]
      by_cases hj2 : j = o
      · subst hj2
        by_cases hj3 : j < cc.size
        · rw [if_pos (by omega)]; simp [hj3]
        · rw [if_neg (by omega)]; simp [hj3]
      · rw [if_neg (by omega)]
        exact Array.getElem?_setIfInBounds_ne (Ne.symm hj2)
theorem setCells_other (b : Nat) : ∀ (vs : List Value) (o : Nat) (w : World) (k : Nat), k ≠ b → (w.setCells b o vs).heap[k]? = w.heap[k]? := by
  intro vs
  induction vs with
  | nil => intro o w k h; rfl
  | cons v vs ih =>
    intro o w k h
    rw [World.setCells, ih _ _ _ h]
    exact Below.heap_setCell _ _ _ _ h
theorem setCells_rest (b : Nat) : ∀ (vs : List Value) (o : Nat) (w : World), (w.setCells b o vs).os = w.os ∧ (w.setCells b o vs).tape = w.tape ∧ (w.setCells b o vs).output = w.output ∧ (w.setCells b o vs).heap.size = w.heap.size := by
  intro vs
  induction vs with
  | nil => intro o w; exact ⟨rfl, rfl, rfl, rfl⟩
  | cons v vs ih =>
    intro o w
    rw [World.setCells]
    obtain ⟨h1, h2, h3, h4⟩ := ih (o + 1) (w.setCell ⟨b, o, none⟩ v)
    exact ⟨h1, h2, h3, h4.trans (by simp [World.setCell])⟩
/-- A block of the evaluator is another one, and the machine's with it. -/
theorem HR.change {P : Program} {β : Bt} {h : Hp} {w w' : World} (H : HR P β h w) {b : Nat} {x y : Blk} {i : Info} (hx : h.get b = some x) (hi : β b = some i) (hm : x.mine)
    (hold : ∀ k, k ≠ i.blk → k < w.heap.size → w'.heap[k]? = w.heap[k]?) (hy : BlkOk P β w' i y) : HR P β (h.put b y) w' := by
  have hlt := H.dom _ _ hi
  have hmost := H.most
  have hgp : ∀ j, (h.put b y).get j = if j = b then some y else h.get j := fun j => Hp.get_put (by omega)
  refine ⟨by rw [Hp.put_next]; exact H.most, fun c j e => by rw [Hp.put_next]; exact H.dom _ _ e, ?_, ?_, ?_⟩
  · intro c z e
    rw [hgp] at e
    by_cases hc : c = b
    · subst hc; exact ⟨i, hi⟩
    · rw [if_neg hc] at e; exact H.has _ _ e
  · intro c z j e ej
    rw [hgp] at e
    by_cases hc : c = b
    · subst hc
      rw [if_pos rfl] at e
      injection e with e
      subst e
      rw [hi] at ej
      injection ej with ej
      subst ej
      exact hy
    · rw [if_neg hc] at e
      refine blkOk_of_block (H.ok _ _ _ e ej) (fun he => hold _ ?_ (blk_lt (H.ok _ _ _ e ej) he))
      exact Ne.symm (H.apart _ _ _ _ _ _ hx e (Ne.symm hc) hi ej hm he)
  · intro c c' j j' z z' e e' hne ej ej' hz hz'
    rw [hgp] at e e'
    by_cases hc : c = b
    · subst hc
      rw [if_neg (Ne.symm hne)] at e'
      rw [hi] at ej
      injection ej with ej
      subst ej
      exact H.apart _ _ _ _ _ _ hx e' hne hi ej' hm hz'
    · rw [if_neg hc] at e
      by_cases hc' : c' = b
      · subst hc'
        rw [if_pos rfl] at e'
        injection e' with e'
        subst e'
        exact H.apart _ _ _ _ _ _ e hx hne ej ej' hz (mine_not_empty hm)
      · rw [if_neg hc'] at e'
        exact H.apart _ _ _ _ _ _ e e' hne ej ej' hz hz'
/-- A block of one's own that says the same in another world. -/
theorem HR.touch {P : Program} {β : Bt} {h : Hp} {w w' : World} (H : HR P β h w) {b : Nat} {x : Blk} {i : Info} (hx : h.get b = some x) (hi : β b = some i) (hm : x.mine)
    (hold : ∀ k, k ≠ i.blk → k < w.heap.size → w'.heap[k]? = w.heap[k]?) (hy : BlkOk P β w' i x) : HR P β h w' := by
  refine ⟨H.most, H.dom, H.has, fun c z j e ej => ?_, H.apart⟩
  by_cases hc : c = b
  · subst hc
    rw [hx] at e
    rw [hi] at ej
    injection e with e
    injection ej with ej
    subst e ej
    exact hy
  · refine blkOk_of_block (H.ok _ _ _ e ej) (fun he => hold _ ?_ (blk_lt (H.ok _ _ _ e ej) he))
    exact Ne.symm (H.apart _ _ _ _ _ _ hx e (Ne.symm hc) hi ej hm he)
theorem own_put {P : Program} {β : Bt} {h : Hp} {w : World} (H : HR P β h w) {b : Nat} {x y : Blk} (hx : h.get b = some x) (hm : x.mine) {k : Nat} (hk : Own β (h.put b y) k) : Own β h k := by
  obtain ⟨i, hi⟩ := H.has _ _ hx
  have hlt := H.dom _ _ hi
  have hmost := H.most
  obtain ⟨c, j, z, e, hz, ej, rfl⟩ := hk
  rw [Hp.get_put (by omega)] at e
  by_cases hc : c = b
  · subst hc
    exact ⟨c, j, x, hx, hm, ej, rfl⟩
  · rw [if_neg hc] at e
    exact ⟨c, j, z, e, hz, ej, rfl⟩
theorem held_put {P : Program} {β : Bt} {h : Hp} {w : World} (H : HR P β h w) {b : Nat} {x y : Blk} (hx : h.get b = some x) (hm : x.mine) {k : Nat} (hk : Held β (h.put b y) k) : Held β h k := by
  obtain ⟨i, hi⟩ := H.has _ _ hx
  have hlt := H.dom _ _ hi
  have hmost := H.most
  obtain ⟨c, j, z, e, hz, ej, rfl⟩ := hk
  rw [Hp.get_put (by omega)] at e
  by_cases hc : c = b
  · subst hc
    exact ⟨c, j, x, hx, mine_not_empty hm, ej, rfl⟩
  · rw [if_neg hc] at e
    exact ⟨c, j, z, e, hz, ej, rfl⟩
theorem ones_all : ∀ {l : List Value}, ones_ l = true → ∀ v ∈ l, one_ v = true := by
  intro l
  induction l with
  | nil => intro _ v h; cases h
  | cons x l ih =>
    intro h v hv
    simp only [ones_] at h
    cases hx : one_ x with
    | false => rw [hx] at h; cases h
    | true =>
      rw [hx] at h
      rcases List.mem_cons.1 hv with rfl | hv
      · exact hx
      · exact ih h v hv
theorem storeCells_plain {P : Program} {β : Bt} {h h' : Hp} {w : World} (H : HR P β h w) {b : Nat} {c : List Value} {e : TypeId} {ex : Bool} (hg : h.get b = some (.cells c e ex false)) {o : Nat} {l l' : List Value} (ho : ones_ l = true) (hs : (match lputAt c l o with | some c => some (h.put b (.cells c e ex false)) | none => none) = some h') {i : Info} (hi : β b = some i) (hl : LR β l l') :
    ∃ w', (storeCells ⟨i.blk, i.off + o, none⟩ l').run P w = .ok () w' ∧ HR P β h' w' ∧ St β h w β h' w' := by
  cases hp : lputAt c l o with
  | none => rw [hp] at hs; cases hs
  | some c' =>
    rw [hp] at hs
    simp only [Option.some.injEq] at hs
    subst hs
    have hlen := lputAt_len hp
    have hget := lputAt_get hp
    have hfit := (lputAt_some hp).1
    rcases H.ok _ _ _ hg hi with ⟨_, hf, _⟩ | ⟨cc, e', fr, hb, hsz, hv, hex, hmine⟩
    · cases hf
    · obtain ⟨hee, hfr, hroom⟩ := hmine rfl
      have hone : ∀ v ∈ l', v.oneCell' = true := by
        intro v hv'
        obtain ⟨k, hk, rfl⟩ := List.mem_iff_getElem.1 hv'
        have hk' : k < l.length := by rw [hl.1]; exact hk
        exact (hl.2 k _ _ (List.getElem?_eq_getElem hk') (List.getElem?_eq_getElem hk)).one (ones_all ho _ (List.getElem_mem hk'))
      have hrun := run_storeCells_cells (P := P) i.blk (i.off + o) l' 0 w (fun j hj => by
          rw [Nat.add_zero, cell_heap hb, Array.getElem?_eq_getElem (by rw [← hl.1] at hj; omega)]; rfl)
        (fun j hj => by
          rw [← hl.1] at hj
          have h3 := hfr.out (i.off + o + 0 + j) (by omega)
          simp only [World.frozen?, hb]
          simpa using h3) hone
      obtain ⟨cc', hb', hsz', hget'⟩ := setCells_heap i.blk l' (i.off + o + 0) w cc e' fr hb
      obtain ⟨r1, r2, r3, r4⟩ := setCells_rest i.blk l' (i.off + o + 0) w
      refine ⟨_, hrun, H.change (y := .cells c' e ex false) hg hi trivial (fun k hk _ => setCells_other _ _ _ _ _ hk) ?_,
        ⟨.refl _, r1, r2, r3, by omega, fun k hk hn => setCells_other _ _ _ _ _ (fun e => hn ⟨_, _, _, hg, trivial, hi, e.symm⟩), fun k hk => .inl (own_put H hg trivial hk), fun k hk => .inl (held_put H hg trivial hk)⟩⟩
      refine .inr ⟨cc', e', fr, hb', by omega, fun k x y hx hy => ?_, fun h => ⟨(hex h).1, (hex h).2.1, by have := (hex h).2.2; omega⟩, fun _ => ⟨hee, by rw [hsz']; exact hfr, by omega⟩⟩
      rw [hget'] at hy
      rw [hget] at hx
      by_cases hk : o ≤ k ∧ k < o + l.length
      · rw [if_pos hk] at hx
        rw [if_pos (by rw [← hl.1]; omega), show i.off + k - (i.off + o + 0) = k - o from by omega] at hy
        exact hl.2 _ _ _ hx hy
      · rw [if_neg hk] at hx
        rw [if_neg (by rw [← hl.1]; omega)] at hy
        exact hv _ _ _ hx hy
theorem storeCells_run {P : Program} {β : Bt} {h h' : Hp} {w : World} (H : HR P β h w) {a : Addr} {l l' : List Value} (hs : storeCells_ h a l = some h') {i : Info} (hi : β a.block = some i) (hl : LR β l l') :
    ∃ w', (storeCells ⟨i.blk, i.off + a.off, none⟩ l').run P w = .ok () w' ∧ HR P β h' w' ∧ St β h w β h' w' := by
  unfold storeCells_ at hs
  cases hg : h.get a.block with
  | none => rw [hg] at hs; cases hs
  | some x =>
    rw [hg] at hs
    cases ho : ones_ l with
    | false => rw [ho] at hs; cases x <;> first | cases hs | (rename_i c e ex ro; cases ro <;> cases hs)
    | true =>
      rw [ho] at hs
      cases x with
      | map es c => cases hs
      | dead => cases hs
      | cells c e ex ro =>
        cases ro with
        | true => cases hs
        | false => exact storeCells_plain H hg ho hs hi hl
      | view b =>
        simp only at hs
        obtain ⟨_, j, hj, e1, e2⟩ := seen_at H hg hi
        cases hg2 : h.get b with
        | none => rw [hg2] at hs; cases hs
        | some x =>
          rw [hg2] at hs
          cases x with
          | map es c => cases hs
          | dead => cases hs
          | view b => cases hs
          | cells c e ex ro =>
            cases ro with
            | true => cases hs
            | false => rw [← e1, ← e2]; exact storeCells_plain H hg2 ho hs hj hl
end Go.Proofs.YthloojeefdjpjaaGreatDoor
