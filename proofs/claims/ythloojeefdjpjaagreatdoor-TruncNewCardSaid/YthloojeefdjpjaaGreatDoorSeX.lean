/- The symbolic evaluator's relation to the evaluator: values, heaps, operations. -/
import Derived.Test.YthloojeefdjpjaaGreatDoorSe

/- The symbolic evaluator's values beside the evaluator's. -/
namespace Go.Proofs.YthloojeefdjpjaaGreatDoor.Se
open Go Go.Proofs.YthloojeefdjpjaaGreatDoor
set_option linter.unusedVariables false
set_option maxRecDepth 20000
set_option linter.unusedSimpArgs false

/-! ### Trees -/
theorem sel_bind {α β : Type} (t : RT α) (k : α → RT β) : (t.bind k).sel = t.sel.bind fun x => (k x).sel := by
  induction t with
  | bad => rfl
  | ret x => rfl
  | br b t f iht ihf => cases b <;> simpa [RT.bind, RT.sel] using by assumption
theorem sel_bind_some {α β : Type} {t : RT α} {k : α → RT β} {y : β} (h : (t.bind k).sel = some y) : ∃ x, t.sel = some x ∧ (k x).sel = some y := by
  rw [sel_bind] at h
  cases ht : t.sel with
  | none => rw [ht] at h; cases h
  | some x => rw [ht] at h; exact ⟨x, rfl, h⟩
theorem sel_test {α : Type} {c b : Bool} {t f : RT α} : (test_ c b t f).sel = bif b then t.sel else f.sel := by
  cases c <;> cases b <;> rfl
theorem sel_chk {α : Type} {c b : Bool} {r : RT α} {x : α} (h : (chk c b r).sel = some x) : b = true ∧ r.sel = some x := by
  rw [chk, sel_test] at h
  cases b with
  | true => exact ⟨rfl, h⟩
  | false => cases h
theorem sel_lift {α : Type} {o : Option α} {x : α} (h : (lift o).sel = some x) : o = some x := by
  cases o with
  | none => cases h
  | some y => exact h
theorem sel_asNat {α : Type} {v : SV} {f : Bool → Nat → RT α} {x : α} (h : (asNat v f).sel = some x) : ∃ k c c' n, v = .int k c (.ofNat n) ∧ (f c' n).sel = some x := by
  cases v with
  | int k c n =>
    cases c with
    | true =>
      cases n with
      | ofNat n => exact ⟨k, true, true, n, rfl, h⟩
      | negSucc n => cases h
    | false =>
      cases n with
      | ofNat n => exact ⟨k, false, false, n, rfl, h⟩
      | negSucc n => cases h
  | _ => cases h
theorem mkI_eq (k : IntKind) (c : Bool) (x : Int) : mkI k c x = .int k c x := by cases c <;> cases x <;> rfl
theorem mkB_eq (c b : Bool) : mkB c b = .bool c b := by cases c <;> cases b <;> rfl

/-! ### Values -/
/-- Where a block stands: the evaluator's block, where its rows begin there, how many, of how many cells, how many cells the block has; is its capacity known? -/
structure Bl where
  b : Nat
  o : Nat
  m : Nat
  k : Nat
  T : Nat
  x : Bool
abbrev Im := Nat → Option Bl
def Im0 : Im := fun _ => none
/-- blocks that nobody changes, what they hold, since when -/
abbrev Fz := Nat → Option (List Value × Nat)
def Im.le (ι ι' : Im) : Prop := ∀ id B, ι id = some B → ι' id = some B
def Fz.le (F F' : Fz) : Prop := ∀ b x, F b = some x → F' b = some x
theorem Im.le.refl (ι : Im) : ι.le ι := fun _ _ h => h
theorem Im.le.trans {a b c : Im} (h : a.le b) (k : b.le c) : a.le c := fun x i e => k x i (h x i e)
theorem Fz.le.refl (F : Fz) : F.le F := fun _ _ h => h
theorem Fz.le.trans {a b c : Fz} (h : a.le b) (k : b.le c) : a.le c := fun x i e => k x i (h x i e)
theorem Im0.le (ι : Im) : Im0.le ι := fun _ _ h => by cases h
/-- an address in a block, or in what views it -/
def Bl.at (B : Bl) (a : Nat) : Prop := a = B.b ∨ (B.x = false ∧ a = B.b + 1)
def Bl.sure (B : Bl) (a : Nat) : Prop := (B.x = true ∧ a = B.b) ∨ (B.x = false ∧ a = B.b + 1)

inductive VRs (F : Fz) : Im → SV → Value → Prop
  | lost (ι v) : VRs F ι .lost v
  | int (ι k c x) : VRs F ι (.int k c x) (.int k x)
  | bool (ι c b) : VRs F ι (.bool c b) (.bool b)
  | str (ι c s) : VRs F ι (.str c s) (.string ⟨⟨s⟩⟩)
  | raw (ι v) : bare_ v = true → VRs F ι (.raw v) v
  | agg (ι l l') : l.length = l'.length → (∀ (i : Nat) (x : SV) (y : Value), l[i]? = some x → l'[i]? = some y → VRs F ι x y) → VRs F ι (.agg l) (.agg ⟨l'⟩)
  | tup (ι l l') : l.length = l'.length → (∀ (i : Nat) (x : SV) (y : Value), l[i]? = some x → l'[i]? = some y → VRs F ι x y) → VRs F ι (.tup l) (.tuple ⟨l'⟩)
  | ptr (ι id k c i o B a) : ι id = some B → B.k = k → i < B.m → B.at a → VRs F ι (.ptr id k c i o) (.pointer (some ⟨a, B.o + i * k + o, none⟩))
  | aptr (ι id k c i o N j B a) : ι id = some B → B.k = k → i < B.m → j < N → B.at a → VRs F ι (.aptr id k c i o N j) (.pointer (some ⟨a, B.o + i * k + o + j, none⟩))
  | nsl (ι id k c s n z B off cap) : ι id = some B → B.k = k → s + n ≤ B.m → n ≤ cap → (n = 0 ∨ off = B.o + s * k) → off + cap * k ≤ B.T → (B.x = true ∨ 1 ≤ cap ∨ 2 ≤ z) →
      VRs F ι (.nsl id k c s n z) (.slice (some ⟨B.b, off, none⟩) n cap)
  | nslN (ι id k c s z) : 1 ≤ z → VRs F ι (.nsl id k c s 0 z) (.slice none 0 0)
  | nslE (ι id k c s z) : 2 ≤ z → VRs F ι (.nsl id k c s 0 z) (.chan none)
  | asl (ι id k c i o N cj j n B a off cap) : ι id = some B → B.k = k → i < B.m → o + N ≤ k → j + n ≤ N → n ≤ cap ∧ off + cap ≤ B.T → (n = 0 ∨ off = B.o + i * k + o + j) → B.sure a →
      VRs F ι (.asl id k c i o N cj j n) (.slice (some ⟨a, off, none⟩) n cap)
  | fsl (ι st k n nl e b o cs t cap) : F b = some (cs, t) → t ≤ st → (nl = none ∨ nl = some false) → n ≤ cap → o + cap * k ≤ cs.length → (∀ i, i < n → (e i).length = k) →
      (∀ (i j : Nat) (x : SV) (y : Value), i < n → (e i)[j]? = some x → cs[o + i * k + j]? = some y → VRs F Im0 x y) →
      VRs F ι (.fsl st k n nl e) (.slice (some ⟨b, o, none⟩) n cap)
  | fslN (ι st k nl e) : (nl = none ∨ nl = some true) → VRs F ι (.fsl st k 0 nl e) (.slice none 0 0)
  | fslE (ι st k e) : VRs F ι (.fsl st k 0 none e) (.chan none)
  | fptr (ι st k n e i o b q cs t) : F b = some (cs, t) → t ≤ st → i < n → q + n * k ≤ cs.length → (∀ i, i < n → (e i).length = k) →
      (∀ (i j : Nat) (x : SV) (y : Value), i < n → (e i)[j]? = some x → cs[q + i * k + j]? = some y → VRs F Im0 x y) →
      VRs F ι (.fptr st k n e i o) (.pointer (some ⟨b, q + i * k + o, none⟩))
  | mp (ι id B) : ι id = some B → VRs F ι (.mp id) (.map (some B.b))
  | fn (ι f a b a' b') : a.length = a'.length → (∀ (i : Nat) (x : SV) (y : Value), a[i]? = some x → a'[i]? = some y → VRs F ι x y) →
      b.length = b'.length → (∀ (i : Nat) (x : SV) (y : Value), b[i]? = some x → b'[i]? = some y → VRs F ι x y) → VRs F ι (.fn f a b) (.func (.func f) ⟨a'⟩ ⟨b'⟩)

theorem VRs.mono {F F' : Fz} (hF : F.le F') {ι : Im} {s : SV} {v : Value} (h : VRs F ι s v) : ∀ {ι' : Im}, ι.le ι' → VRs F' ι' s v := by
  induction h with
  | lost ι v => intro ι' _; exact .lost ..
  | int => intro ι' _; exact .int ..
  | bool => intro ι' _; exact .bool ..
  | str => intro ι' _; exact .str ..
  | raw ι v h => intro ι' _; exact .raw _ _ h
  | agg ι l l' h1 h2 ih => intro ι' hi; exact .agg _ _ _ h1 fun i x y hx hy => ih i x y hx hy hi
  | tup ι l l' h1 h2 ih => intro ι' hi; exact .tup _ _ _ h1 fun i x y hx hy => ih i x y hx hy hi
  | ptr ι id k c i o B a h1 h2 h3 h4 => intro ι' hi; exact .ptr _ _ _ _ _ _ B _ (hi _ _ h1) h2 h3 h4
  | aptr ι id k c i o N j B a h1 h2 h3 h4 h5 => intro ι' hi; exact .aptr _ _ _ _ _ _ _ _ B _ (hi _ _ h1) h2 h3 h4 h5
  | nsl ι id k c s n z B off cap h1 h2 h3 h4 h5 h6 h7 => intro ι' hi; exact .nsl _ _ _ _ _ _ _ B _ _ (hi _ _ h1) h2 h3 h4 h5 h6 h7
  | nslN ι id k c s z h => intro ι' _; exact .nslN _ _ _ _ _ _ h
  | nslE ι id k c s z h => intro ι' _; exact .nslE _ _ _ _ _ _ h
  | asl ι id k c i o N cj j n B a off cap h1 h2 h3 h4 h5 h6 h7 h8 => intro ι' hi; exact .asl _ _ _ _ _ _ _ _ _ _ B _ _ _ (hi _ _ h1) h2 h3 h4 h5 h6 h7 h8
  | fsl ι st k n nl e b o cs t cap h1 h2 h3 h4 h5 h6 h7 ih => intro ι' hi; exact .fsl _ _ _ _ _ _ b o cs t cap (hF _ _ h1) h2 h3 h4 h5 h6 fun i j x y a b c => ih i j x y a b c (Im.le.refl _)
  | fslN ι st k nl e h => intro ι' _; exact .fslN _ _ _ _ _ h
  | fslE => intro ι' _; exact .fslE ..
  | fptr ι st k n e i o b q cs t h1 h2 h3 h4 h5 h6 ih => intro ι' hi; exact .fptr _ _ _ _ _ _ _ b q cs t (hF _ _ h1) h2 h3 h4 h5 fun i j x y a b c => ih i j x y a b c (Im.le.refl _)
  | mp ι id B h => intro ι' hi; exact .mp _ _ B (hi _ _ h)
  | fn ι f a b a' b' h1 h2 h3 h4 iha ihb => intro ι' hi; exact .fn _ _ _ _ _ _ h1 (fun i x y hx hy => iha i x y hx hy hi) h3 fun i x y hx hy => ihb i x y hx hy hi
theorem VRs.up {F : Fz} {ι ι' : Im} {s : SV} {v : Value} (h : VRs F ι s v) (k : ι.le ι') : VRs F ι' s v := h.mono (Fz.le.refl _) k
/-- It leads to no block that may change. -/
theorem VRs.free {F : Fz} {ι ι' : Im} {s : SV} {v : Value} (h : VRs F ι s v) (k : free_ s = true) : VRs F ι' s v := by
  cases h with
  | int => exact .int ..
  | bool => exact .bool ..
  | str => exact .str ..
  | raw _ _ h => exact .raw _ _ h
  | fsl _ st k n nl e b o cs t cap h1 h2 h3 h4 h5 h6 h7 => exact .fsl _ _ _ _ _ _ b o cs t cap h1 h2 h3 h4 h5 h6 h7
  | fslN _ st k nl e h => exact .fslN _ _ _ _ _ h
  | fslE => exact .fslE ..
  | _ => cases k

def LRs (F : Fz) (ι : Im) (l : List SV) (l' : List Value) : Prop := l.length = l'.length ∧ ∀ (i : Nat) (x : SV) (y : Value), l[i]? = some x → l'[i]? = some y → VRs F ι x y
theorem LRs.mono {F F' : Fz} (hF : F.le F') {ι ι' : Im} (hi : ι.le ι') {l : List SV} {l' : List Value} (h : LRs F ι l l') : LRs F' ι' l l' := ⟨h.1, fun i x y a b => (h.2 i x y a b).mono hF hi⟩
theorem LRs.nil (F : Fz) (ι : Im) : LRs F ι [] [] := ⟨rfl, fun i x y h => by simp at h⟩
theorem LRs.cons {F : Fz} {ι : Im} {x : SV} {y : Value} {l : List SV} {l' : List Value} (h : VRs F ι x y) (k : LRs F ι l l') : LRs F ι (x :: l) (y :: l') := by
  refine ⟨by simp [k.1], fun i a b ha hb => ?_⟩
  cases i with
  | zero => simp at ha hb; subst ha; subst hb; exact h
  | succ i => simp at ha hb; exact k.2 i a b ha hb
theorem LRs.head {F : Fz} {ι : Im} {x : SV} {y : Value} {l : List SV} {l' : List Value} (h : LRs F ι (x :: l) (y :: l')) : VRs F ι x y := h.2 0 x y rfl rfl
theorem LRs.tail {F : Fz} {ι : Im} {x : SV} {y : Value} {l : List SV} {l' : List Value} (h : LRs F ι (x :: l) (y :: l')) : LRs F ι l l' :=
  ⟨by have := h.1; simpa using this, fun i a b ha hb => h.2 (i + 1) a b (by simpa using ha) (by simpa using hb)⟩
theorem LRs.get {F : Fz} {ι : Im} {a : List SV} {b : List Value} (h : LRs F ι a b) {i : Nat} {x : SV} (hx : a[i]? = some x) : ∃ y, b[i]? = some y ∧ VRs F ι x y := by
  have hl : i < b.length := by rw [← h.1]; exact (List.getElem?_eq_some_iff.1 hx).1
  exact ⟨b[i], by simp [hl], h.2 i x _ hx (by simp [hl])⟩
theorem LRs.nil_inv {F : Fz} {ι : Im} {b : List Value} (h : LRs F ι [] b) : b = [] := List.eq_nil_of_length_eq_zero h.1.symm
theorem LRs.cons_inv {F : Fz} {ι : Im} {x : SV} {l : List SV} {b : List Value} (h : LRs F ι (x :: l) b) : ∃ y l', b = y :: l' ∧ VRs F ι x y ∧ LRs F ι l l' := by
  cases b with
  | nil => have := h.1; simp at this
  | cons y l' => exact ⟨y, l', rfl, h.head, h.tail⟩
theorem LRs.append {F : Fz} {ι : Im} {a c : List SV} {b d : List Value} (h : LRs F ι a b) (k : LRs F ι c d) : LRs F ι (a ++ c) (b ++ d) := by
  induction a generalizing b with
  | nil => rw [h.nil_inv]; exact k
  | cons x a ih => obtain ⟨y, l', rfl, h1, h2⟩ := h.cons_inv; exact .cons h1 (ih h2)
theorem LRs.take {F : Fz} {ι : Im} {a : List SV} {b : List Value} (h : LRs F ι a b) (n : Nat) : LRs F ι (a.take n) (b.take n) :=
  ⟨by simp [h.1], fun i x y hx hy => by
    simp only [List.getElem?_take] at hx hy
    split at hx
    · rename_i hlt; rw [if_pos hlt] at hy; exact h.2 i x y hx hy
    · cases hx⟩
theorem LRs.drop {F : Fz} {ι : Im} {a : List SV} {b : List Value} (h : LRs F ι a b) (n : Nat) : LRs F ι (a.drop n) (b.drop n) :=
  ⟨by simp [h.1], fun i x y hx hy => h.2 (n + i) x y (by simpa using hx) (by simpa using hy)⟩
theorem VRs.agg_of {F : Fz} {ι : Im} {l : List SV} {l' : List Value} (h : LRs F ι l l') : VRs F ι (.agg l) (.agg ⟨l'⟩) := .agg _ _ _ h.1 h.2
theorem VRs.tup_of {F : Fz} {ι : Im} {l : List SV} {l' : List Value} (h : LRs F ι l l') : VRs F ι (.tup l) (.tuple ⟨l'⟩) := .tup _ _ _ h.1 h.2
theorem VRs.agg_inv {F : Fz} {ι : Im} {l : List SV} {v : Value} (h : VRs F ι (.agg l) v) : ∃ l', v = .agg ⟨l'⟩ ∧ LRs F ι l l' := by
  cases h with | agg _ _ l' h1 h2 => exact ⟨l', rfl, h1, h2⟩
theorem VRs.tup_inv {F : Fz} {ι : Im} {l : List SV} {v : Value} (h : VRs F ι (.tup l) v) : ∃ l', v = .tuple ⟨l'⟩ ∧ LRs F ι l l' := by
  cases h with | tup _ _ l' h1 h2 => exact ⟨l', rfl, h1, h2⟩
theorem VRs.int_inv {F : Fz} {ι : Im} {k : IntKind} {c : Bool} {x : Int} {v : Value} (h : VRs F ι (.int k c x) v) : v = .int k x := by cases h; rfl
theorem VRs.bool_inv {F : Fz} {ι : Im} {c b : Bool} {v : Value} (h : VRs F ι (.bool c b) v) : v = .bool b := by cases h; rfl
theorem VRs.str_inv {F : Fz} {ι : Im} {c : Bool} {s : List UInt8} {v : Value} (h : VRs F ι (.str c s) v) : v = .string ⟨⟨s⟩⟩ := by cases h; rfl
theorem VRs.raw_inv {F : Fz} {ι : Im} {r v : Value} (h : VRs F ι (.raw r) v) : v = r ∧ bare_ r = true := by cases h with | raw _ _ h => exact ⟨rfl, h⟩

theorem ofV_rel {F : Fz} {ι : Im} {v : Value} {s : SV} (h : ofV v = some s) : VRs F ι s v := by
  unfold ofV at h
  split at h <;> first | cases h | skip
  all_goals first | (injection h with h; subst h) | skip
  all_goals first | exact .int .. | exact .bool .. | exact .raw _ _ rfl | skip
  · rename_i s
    have : Value.string s = .string ⟨⟨s.data.toList⟩⟩ := by simp
    rw [this]; exact .str ..
theorem ofVs_rel {F : Fz} {ι : Im} : ∀ {l : List Value} {s : List SV}, ofVs l = some s → LRs F ι s l
  | [], s, h => by injection h with h; subst h; exact .nil ..
  | v :: l, s, h => by
    unfold ofVs at h
    cases hv : ofV v with
    | none => rw [hv] at h; cases h
    | some x =>
      cases hl : ofVs l with
      | none => rw [hv, hl] at h; cases h
      | some r =>
        rw [hv, hl] at h
        injection h with h
        subst h
        exact .cons (ofV_rel hv) (ofVs_rel hl)
theorem ofC_rel {F : Fz} {ι : Im} {v : Value} : VRs F ι (ofC v) v := by
  unfold ofC
  split
  · rename_i cs
    split
    · rename_i l hl
      exact .agg_of (l' := cs.toList) (ofVs_rel hl)
    · exact .lost ..
  · split
    · rename_i x hx; exact ofV_rel hx
    · exact .lost ..
theorem val_rel {F : Fz} {ι : Im} {s : SV} {v w : Value} (h : VRs F ι s v) (k : val? s = some w) : v = w := by
  unfold val? at k
  split at k <;> first | cases k | skip
  · exact h.int_inv
  · exact h.bool_inv
  · exact h.str_inv
  · exact h.raw_inv.1
theorem cells_rel {F : Fz} {ι : Im} {s : SV} {v : Value} (h : VRs F ι s v) (k : ones1_ s.cells = true) : LRs F ι s.cells v.cells.toList ∧ ones_ v.cells.toList = true ∧ isAny v = false := by
  have one : ∀ {s : SV} {v : Value}, VRs F ι s v → one1_ s = true → one_ v = true ∧ (∀ a, v ≠ .agg a) ∧ isAny v = false := by
    intro s v h k
    cases h with
    | raw _ _ hb => cases v <;> simp_all [bare_, one_, isAny]
    | lost => cases k
    | agg => cases k
    | tup => cases k
    | _ => exact ⟨rfl, fun a e => (by cases e), rfl⟩
  have ones : ∀ {l : List SV} {l' : List Value}, LRs F ι l l' → ones1_ l = true → ones_ l' = true := by
    intro l
    induction l with
    | nil => intro l' h _; rw [h.nil_inv]; rfl
    | cons x l ih =>
      intro l' h k
      obtain ⟨y, l', rfl, h1, h2⟩ := h.cons_inv
      unfold ones1_ at k
      split at k
      · rename_i hx
        unfold ones_
        rw [(one h1 hx).1]
        exact ih h2 k
      · cases k
  by_cases ha : ∃ l, s = .agg l
  · obtain ⟨l, rfl⟩ := ha
    obtain ⟨l', rfl, hl⟩ := h.agg_inv
    exact ⟨by simpa [SV.cells, Value.cells] using hl, by simpa [Value.cells] using ones hl k, rfl⟩
  · have hsc : s.cells = [s] := by cases s <;> first | rfl | exact absurd ⟨_, rfl⟩ ha
    rw [hsc] at k ⊢
    unfold ones1_ at k
    cases hk : one1_ s with
    | false => rw [hk] at k; cases k
    | true =>
      obtain ⟨o1, o2, o3⟩ := one h hk
      have hc : v.cells.toList = [v] := by
        cases v <;> first | rfl | (exfalso; exact o2 _ rfl)
      rw [hc]
      refine ⟨.cons h (.nil ..), ?_, o3⟩
      unfold ones_; rw [o1]; rfl
end Go.Proofs.YthloojeefdjpjaaGreatDoor.Se

/- The symbolic evaluator's heaps beside the evaluator's. -/
namespace Go.Proofs.YthloojeefdjpjaaGreatDoor.Se
open Go Go.Proofs.YthloojeefdjpjaaGreatDoor
set_option linter.unusedVariables false
set_option maxRecDepth 20000
set_option linter.unusedSimpArgs false

/-- A row, and the cells from a place on. -/
def RowR (F : Fz) (ι : Im) (cs : List Value) (p k : Nat) (r : List SV) : Prop := r.length = k ∧ ∀ (j : Nat) (x : SV) (y : Value), r[j]? = some x → cs[p + j]? = some y → VRs F ι x y
theorem RowR.mono {F F' : Fz} (hF : F.le F') {ι ι' : Im} (hi : ι.le ι') {cs : List Value} {p k : Nat} {r : List SV} (h : RowR F ι cs p k r) : RowR F' ι' cs p k r := ⟨h.1, fun j x y a b => (h.2 j x y a b).mono hF hi⟩
theorem RowR.of_lrs {F : Fz} {ι : Im} {r : List SV} {vs : List Value} (h : LRs F ι r vs) {k : Nat} (hk : r.length = k) {cs : List Value} {p : Nat} (hc : ∀ j, j < k → cs[p + j]? = vs[j]?) : RowR F ι cs p k r := by
  refine ⟨hk, fun j x y hx hy => h.2 j x y hx ?_⟩
  have : j < r.length := (List.getElem?_eq_some_iff.1 hx).1
  rw [← hc j (by omega)]; exact hy
theorem RowR.lrs {F : Fz} {ι : Im} {cs : List Value} {p k : Nat} {r : List SV} (h : RowR F ι cs p k r) (hl : p + k ≤ cs.length) : LRs F ι r ((cs.drop p).take k) := by
  refine ⟨by simp [h.1]; omega, fun j x y hx hy => h.2 j x y hx ?_⟩
  have : j < r.length := (List.getElem?_eq_some_iff.1 hx).1
  simp only [List.getElem?_take, List.getElem?_drop] at hy
  split at hy
  · exact hy
  · cases hy
/-- part of a row -/
theorem RowR.cut {F : Fz} {ι : Im} {cs : List Value} {p k : Nat} {r : List SV} (h : RowR F ι cs p k r) {o n : Nat} {l : List SV} (hc : lcut r o n = some l) (hl : p + k ≤ cs.length) : ∃ vs, lcut cs (p + o) n = some vs ∧ LRs F ι l vs := by
  obtain ⟨h1, h2, h3⟩ := lcut_some hc
  rw [h.1] at h1
  have hex : ∃ vs, lcut cs (p + o) n = some vs := by
    have hd : ∀ {α : Type} (l : List α) (n : Nat), n ≤ l.length → ldrop n l = some (l.drop n) := by
      intro α l n
      induction n generalizing l with
      | zero => intro _; rfl
      | succ n ih => intro hn; cases l with | nil => simp at hn | cons x l => simp at hn; simpa [ldrop] using ih l hn
    have ht : ∀ {α : Type} (l : List α) (n : Nat), n ≤ l.length → ltake n l = some (l.take n) := by
      intro α l n
      induction n generalizing l with
      | zero => intro _; simp [ltake]
      | succ n ih => intro hn; cases l with | nil => simp at hn | cons x l => simp at hn; simp [ltake, ih l hn]
    refine ⟨(cs.drop (p + o)).take n, ?_⟩
    unfold lcut
    rw [hd cs (p + o) (by omega)]
    exact ht _ _ (by simp; omega)
  obtain ⟨vs, hvs⟩ := hex
  obtain ⟨g1, g2, g3⟩ := lcut_some hvs
  refine ⟨vs, hvs, by rw [h3, g3], fun i x y hx hy => ?_⟩
  have hi : i < n := by have := (List.getElem?_eq_some_iff.1 hx).1; omega
  rw [lcut_get hc i hi] at hx
  rw [lcut_get hvs i hi] at hy
  exact h.2 (o + i) x y hx (by rw [← Nat.add_assoc]; exact hy)
/-- a row changed as its cells are -/
theorem RowR.put {F : Fz} {ι : Im} {cs cs' : List Value} {p k : Nat} {r r' : List SV} (h : RowR F ι cs p k r) {o : Nat} {xs : List SV} {vs : List Value} (hx : LRs F ι xs vs) (hr : lputAt r xs o = some r') (hc : lputAt cs vs (p + o) = some cs') : RowR F ι cs' p k r' := by
  refine ⟨by rw [lputAt_len hr, h.1], fun j x y hxj hyj => ?_⟩
  rw [lputAt_get hr j] at hxj
  rw [lputAt_get hc (p + j)] at hyj
  by_cases hj : o ≤ j ∧ j < o + xs.length
  · rw [if_pos hj] at hxj
    rw [if_pos (by rw [← hx.1]; omega)] at hyj
    exact hx.2 (j - o) x y hxj (by rw [show p + j - (p + o) = j - o by omega] at hyj; exact hyj)
  · rw [if_neg hj] at hxj
    rw [if_neg (by rw [← hx.1]; omega)] at hyj
    exact h.2 j x y hxj hyj

/-! ### One value or another -/
theorem zips_at {F : Fz} {ι : Im} {q : SV → SV → SV} : ∀ {x y : List SV} (j : Nat) (z : SV), (mux.zips q x y)[j]? = some z → ∃ a b, x[j]? = some a ∧ y[j]? = some b ∧ z = q a b
  | [], _, j, z, h => by simp [mux.zips] at h
  | a :: x, [], j, z, h => by simp [mux.zips] at h
  | a :: x, b :: y, 0, z, h => by simp [mux.zips] at h; exact ⟨a, b, rfl, rfl, h.symm⟩
  | a :: x, b :: y, j + 1, z, h => by
    simp [mux.zips] at h
    simpa using zips_at (F := F) (ι := ι) j z h
theorem zips_len {q : SV → SV → SV} : ∀ {x y : List SV}, (mux.zips q x y).length = min x.length y.length
  | [], _ => by simp [mux.zips]
  | a :: x, [] => by simp [mux.zips]
  | a :: x, b :: y => by simp only [mux.zips, List.length_cons, zips_len (x := x) (y := y)]; omega
theorem muxs_len {k : Nat} {q : SV → SV → SV} {x y : List SV} : (mux.muxs k q x y).length = k := by
  unfold mux.muxs
  split
  · rename_i h1 h2; rw [zips_len, Nat.eq_of_beq_eq_true h1, Nat.eq_of_beq_eq_true h2]; omega
  · rename_i h1 h2; exact Nat.eq_of_beq_eq_true h1
  · rename_i h1 h2; exact Nat.eq_of_beq_eq_true h2
  · simp
theorem RowR.mux1 {F : Fz} {ι : Im} {cs : List Value} {p k : Nat} {x y : List SV} {q : SV → SV → SV} (h : RowR F ι cs p k x) (hq : ∀ a b v, VRs F ι a v → VRs F ι (q a b) v) : RowR F ι cs p k (mux.muxs k q x y) := by
  refine ⟨muxs_len, fun j z v hz hv => ?_⟩
  unfold mux.muxs at hz
  have hk : Nat.beq x.length k = true := by rw [h.1]; simp
  rw [hk] at hz
  split at hz
  · obtain ⟨a, b, ha, hb, rfl⟩ := zips_at (F := F) (ι := ι) j z hz
    exact hq _ _ _ (h.2 j a v ha hv)
  · exact h.2 j z v hz hv
  · rename_i e _; cases e
  · rename_i e _; cases e
theorem RowR.mux2 {F : Fz} {ι : Im} {cs : List Value} {p k : Nat} {x y : List SV} {q : SV → SV → SV} (h : RowR F ι cs p k y) (hq : ∀ a b v, VRs F ι b v → VRs F ι (q a b) v) : RowR F ι cs p k (mux.muxs k q x y) := by
  refine ⟨muxs_len, fun j z v hz hv => ?_⟩
  unfold mux.muxs at hz
  have hk : Nat.beq y.length k = true := by rw [h.1]; simp
  rw [hk] at hz
  split at hz
  · obtain ⟨a, b, ha, hb, rfl⟩ := zips_at (F := F) (ι := ι) j z hz
    exact hq _ _ _ (h.2 j b v hb hv)
  · rename_i e; cases e
  · exact h.2 j z v hz hv
  · rename_i e; cases e
theorem mux_t {F : Fz} : ∀ (d : Nat) {ι : Im} {x y : SV} {v : Value}, VRs F ι x v → VRs F ι (mux true x y d) v
  | 0, ι, x, y, v, h => by unfold mux; exact .lost ..
  | d + 1, ι, x, y, v, h => by
    unfold mux
    split
    · split
      · rw [h.int_inv]; exact .int ..
      · exact .lost ..
    · rw [h.bool_inv]; exact .bool ..
    · rw [h.str_inv]; exact .str ..
    · split
      · rename_i st k n nl e st' k' n' nl' e' _ hk
        cases h with
        | fsl _ _ _ _ _ _ b o cs t cap h1 h2 h3 h4 h5 h6 h7 =>
          refine .fsl _ _ _ _ _ _ b o cs t cap h1 (Nat.le_trans h2 (Nat.le_max_left ..)) ?_ h4 h5 (fun i hi => muxs_len) fun i j x y hi hx hy => ?_
          · rcases h3 with rfl | rfl
            · left; rfl
            · cases nl' <;> simp
          · exact (RowR.mux1 (cs := cs) (p := o + i * k) (k := k) (x := e i) ⟨h6 i hi, fun j x y a b => h7 i j x y hi a b⟩ (fun a b v hv => mux_t d hv)).2 j x y hx hy
        | fslN _ _ _ _ _ h3 =>
          refine .fslN _ _ _ _ _ ?_
          rcases h3 with rfl | rfl
          · left; rfl
          · cases nl' <;> simp
        | fslE => exact .fslE ..
      · exact .lost ..
    · exact h
    · rename_i st k n nl e
      obtain ⟨rfl, _⟩ := h.raw_inv
      refine .fslN _ _ _ _ _ ?_
      cases nl <;> simp
    · rename_i st k n nl e
      cases h with
      | fsl _ _ _ _ _ _ b o cs t cap h1 h2 h3 h4 h5 h6 h7 =>
        refine .fsl _ _ _ _ _ _ b o cs t cap h1 h2 ?_ h4 h5 h6 h7
        rcases h3 with rfl | rfl <;> simp
      | fslN _ _ _ _ _ h3 =>
        refine .fslN _ _ _ _ _ ?_
        rcases h3 with rfl | rfl <;> simp
      | fslE => exact .fslE ..
    · exact .lost ..
theorem mux_f {F : Fz} : ∀ (d : Nat) {ι : Im} {x y : SV} {v : Value}, VRs F ι y v → VRs F ι (mux false x y d) v
  | 0, ι, x, y, v, h => by unfold mux; exact .lost ..
  | d + 1, ι, x, y, v, h => by
    unfold mux
    split
    · split
      · rename_i hk; rw [h.int_inv, ← of_decide_eq_true hk]; exact .int ..
      · exact .lost ..
    · rw [h.bool_inv]; exact .bool ..
    · rw [h.str_inv]; exact .str ..
    · split
      · rename_i st k n nl e st' k' n' nl' e' _ hk
        obtain rfl := Nat.eq_of_beq_eq_true hk
        cases h with
        | fsl _ _ _ _ _ _ b o cs t cap h1 h2 h3 h4 h5 h6 h7 =>
          refine .fsl _ _ _ _ _ _ b o cs t cap h1 (Nat.le_trans h2 (Nat.le_max_right ..)) ?_ h4 h5 (fun i hi => muxs_len) fun i j x y hi hx hy => ?_
          · rcases h3 with rfl | rfl
            · left; cases nl <;> rfl
            · cases nl <;> simp
          · exact (RowR.mux2 (cs := cs) (p := o + i * k) (k := k) (y := e' i) ⟨h6 i hi, fun j x y a b => h7 i j x y hi a b⟩ (fun a b v hv => mux_f d hv)).2 j x y hx hy
        | fslN _ _ _ _ _ h3 =>
          refine .fslN _ _ _ _ _ ?_
          rcases h3 with rfl | rfl
          · left; cases nl <;> rfl
          · cases nl <;> simp
        | fslE =>
          cases nl <;> exact .fslE ..
      · exact .lost ..
    · exact h
    · rename_i st k n nl e
      cases h with
      | fsl _ _ _ _ _ _ b o cs t cap h1 h2 h3 h4 h5 h6 h7 =>
        refine .fsl _ _ _ _ _ _ b o cs t cap h1 h2 ?_ h4 h5 h6 h7
        rcases h3 with rfl | rfl <;> simp
      | fslN _ _ _ _ _ h3 =>
        refine .fslN _ _ _ _ _ ?_
        rcases h3 with rfl | rfl <;> simp
      | fslE => exact .fslE ..
    · rename_i st k n nl e
      obtain ⟨rfl, _⟩ := h.raw_inv
      refine .fslN _ _ _ _ _ ?_
      cases nl <;> simp
    · exact .lost ..
theorem mux_rel {F : Fz} {ι : Im} {b : Bool} {x y : SV} {v : Value} {d : Nat} (ht : b = true → VRs F ι x v) (hf : b = false → VRs F ι y v) : VRs F ι (mux b x y d) v := by
  cases b with
  | true => exact mux_t d (ht rfl)
  | false => exact mux_f d (hf rfl)
theorem RowR.mux {F : Fz} {ι : Im} {cs : List Value} {p k : Nat} {b : Bool} {x y : List SV} (ht : b = true → RowR F ι cs p k x) (hf : b = false → RowR F ι cs p k y) : RowR F ι cs p k (muxR k b x y) := by
  cases b with
  | true => exact (ht rfl).mux1 fun a b v h => mux_t 3 h
  | false => exact (hf rfl).mux2 fun a b v h => mux_f 3 h
theorem pick_rel {F : Fz} {ι : Im} : ∀ {l : List SV} {vs : List Value} {j : Nat} {v : Value}, LRs F ι l vs → vs[j]? = some v → VRs F ι (pick_ l j) v
  | [], vs, j, v, h, hv => by rw [h.nil_inv] at hv; simp at hv
  | [x], vs, j, v, h, hv => by
    obtain ⟨y, l', rfl, h1, h2⟩ := h.cons_inv
    rw [h2.nil_inv] at hv
    cases j with
    | zero => simp at hv; subst hv; exact h1
    | succ j => simp at hv
  | x :: x2 :: l, vs, j, v, h, hv => by
    obtain ⟨y, l', rfl, h1, h2⟩ := h.cons_inv
    unfold pick_
    refine mux_rel (fun e => ?_) (fun e => ?_)
    · obtain rfl := Nat.eq_of_beq_eq_true e
      simp at hv; subst hv; exact h1
    · cases j with
      | zero => cases e
      | succ j => simp at hv; exact pick_rel h2 hv
theorem poke_len : ∀ {l : List SV} {q j : Nat} {y : SV}, (poke_ l q j y).length = l.length
  | [], q, j, y => rfl
  | x :: l, q, j, y => by simp [poke_, poke_len]
theorem poke_at : ∀ {l : List SV} {q j : Nat} {y : SV} (i : Nat), (poke_ l q j y)[i]? = (l[i]?).map fun x => mux (Nat.beq j (q + i)) y x 3
  | [], q, j, y, i => by simp [poke_]
  | x :: l, q, j, y, 0 => by simp [poke_]
  | x :: l, q, j, y, i + 1 => by
    simp only [poke_, List.getElem?_cons_succ]
    rw [poke_at i, show q + 1 + i = q + (i + 1) by omega]
theorem poke_rel {F : Fz} {ι : Im} {l : List SV} {vs : List Value} {j : Nat} {y : SV} {v : Value} (h : LRs F ι l vs) (hy : VRs F ι y v) : LRs F ι (poke_ l 0 j y) (vs.set j v) := by
  refine ⟨by rw [poke_len, List.length_set]; exact h.1, fun i a b ha hb => ?_⟩
  rw [poke_at] at ha
  cases hl : l[i]? with
  | none => rw [hl] at ha; cases ha
  | some x =>
    rw [hl] at ha
    simp only [Option.map_some, Option.some.injEq, Nat.zero_add] at ha
    subst ha
    rw [List.getElem?_set] at hb
    refine mux_rel (fun e => ?_) (fun e => ?_)
    · obtain rfl := Nat.eq_of_beq_eq_true e
      rw [if_pos rfl] at hb
      split at hb
      · injection hb with hb; subst hb; exact hy
      · cases hb
    · have hne : ¬ j = i := fun e2 => by rw [e2] at e; simp at e
      rw [if_neg hne] at hb
      exact h.2 i x b hl hb
end Go.Proofs.YthloojeefdjpjaaGreatDoor.Se

/- The symbolic evaluator's heaps beside the evaluator's; what a step keeps. -/
namespace Go.Proofs.YthloojeefdjpjaaGreatDoor.Se
open Go Go.Proofs.YthloojeefdjpjaaGreatDoor
set_option linter.unusedVariables false
set_option maxRecDepth 20000
set_option linter.unusedSimpArgs false

structure Stands (h : Hp) (B : Bl) (cs : List Value) (t : TypeId) : Prop where
  got : h.get B.b = some (.cells cs t B.x false)
  len : cs.length = B.T
  one : ones_ cs = true
  fit : B.o + B.m * B.k ≤ B.T
  view : B.x = false → h.get (B.b + 1) = some (.view B.b)
  lt : B.b < h.next
  vlt : B.x = false → B.b + 1 < h.next
def SbOk (F : Fz) (ι : Im) (h : Hp) (id : Nat) : SB → Prop
  | .lst k rows t => ∃ B cs, ι id = some B ∧ B.k = k ∧ B.m = rows.length ∧ Stands h B cs t ∧ ∀ i r, rows[i]? = some r → RowR F ι cs (B.o + i * k) k r
  | .row k n e t => (n = 0 ∧ ι id = none) ∨ ∃ B cs, ι id = some B ∧ B.k = k ∧ B.m = n ∧ Stands h B cs t ∧ ∀ i, i < n → RowR F Im0 cs (B.o + i * k) k (e i)
  | .mp es c => ∃ B, ι id = some B ∧ h.get B.b = some (.map es c) ∧ B.b < h.next
  | .gone => True
def Live (sh : SH) (id : Nat) : Prop := ∃ sb, sh.get id = some sb ∧ sb ≠ .gone
structure HRs (F : Fz) (ι : Im) (sh : SH) (h : Hp) : Prop where
  most : h.next + sh.room ≤ 9223372036854775808
  smost : sh.next ≤ 9223372036854775808
  sdom : ∀ id, sh.next ≤ id → sh.get id = none ∧ ι id = none
  ok : ∀ id sb, sh.get id = some sb → SbOk F ι h id sb
  apart : ∀ id id' B B', id ≠ id' → Live sh id → Live sh id' → ι id = some B → ι id' = some B' → B.b ≠ B'.b
  frz : ∀ b cs t, F b = some (cs, t) → t ≤ sh.clk ∧ b < h.next ∧ ones_ cs = true ∧ ∃ e x ro, h.get b = some (.cells cs e x ro)
  fap : ∀ b x id B, F b = some x → Live sh id → ι id = some B → B.b ≠ b
theorem HRs.id_lt {F : Fz} {ι : Im} {sh : SH} {h : Hp} (H : HRs F ι sh h) {id : Nat} {B : Bl} (e : ι id = some B) : id < sh.next := by
  by_cases hlt : id < sh.next
  · exact hlt
  · rw [(H.sdom id (by omega)).2] at e; cases e
theorem HRs.get_lt {F : Fz} {ι : Im} {sh : SH} {h : Hp} (H : HRs F ι sh h) {id : Nat} {sb : SB} (e : sh.get id = some sb) : id < sh.next := by
  by_cases hlt : id < sh.next
  · exact hlt
  · rw [(H.sdom id (by omega)).1] at e; cases e

/-- What a step keeps. -/
structure Stp (F : Fz) (ι : Im) (sh : SH) (h : Hp) (F' : Fz) (ι' : Im) (sh' : SH) (h' : Hp) : Prop where
  im : ∀ id, id < sh.next → ι' id = ι id
  fm : F.le F'
  fnew : ∀ b cs t, F' b = some (cs, t) → F b = some (cs, t) ∨ (sh.clk < t ∧ (h.next ≤ b ∨ ∃ id B, id < sh.next ∧ Live sh id ∧ ι id = some B ∧ B.b = b))
  next : sh.next ≤ sh'.next
  clk : sh.clk ≤ sh'.clk
  hnext : h.next ≤ h'.next
  room : h'.next + sh'.room ≤ h.next + sh.room
  log : ∃ nw, sh'.log = nw ++ sh.log ∧ (∀ id, id < sh.next → id ∉ nw → sh'.get id = sh.get id) ∧ (∀ id, id ∈ nw → id < sh.next → Live sh id) ∧
    (∀ b, b < h.next → (∀ id B, id ∈ nw → id < sh.next → ι id = some B → B.b ≠ b) → h'.get b = h.get b) ∧
    (∀ id B, sh.next ≤ id → ι' id = some B → h.next ≤ B.b ∨ ∃ id0 B0, id0 ∈ nw ∧ id0 < sh.next ∧ ι id0 = some B0 ∧ B0.b = B.b)
theorem Stp.refl (F : Fz) {ι : Im} {sh : SH} {h : Hp} (H : HRs F ι sh h) : Stp F ι sh h F ι sh h :=
  ⟨fun _ _ => rfl, Fz.le.refl _, fun _ _ _ e => .inl e, Nat.le_refl _, Nat.le_refl _, Nat.le_refl _, Nat.le_refl _,
    [], rfl, fun _ _ _ => rfl, fun id e => by simp at e, fun _ _ _ => rfl, fun id B e1 e2 => by rw [(H.sdom id e1).2] at e2; cases e2⟩
theorem Stp.le {F : Fz} {ι : Im} {sh : SH} {h : Hp} {F' : Fz} {ι' : Im} {sh' : SH} {h' : Hp} (S : Stp F ι sh h F' ι' sh' h') (H : HRs F ι sh h) : ι.le ι' := fun id B e => by rw [S.im id (H.id_lt e)]; exact e
theorem Stp.trans {F : Fz} {ι : Im} {sh : SH} {h : Hp} {F1 : Fz} {ι1 : Im} {sh1 : SH} {h1 : Hp} {F2 : Fz} {ι2 : Im} {sh2 : SH} {h2 : Hp} (S : Stp F ι sh h F1 ι1 sh1 h1) (T : Stp F1 ι1 sh1 h1 F2 ι2 sh2 h2) : Stp F ι sh h F2 ι2 sh2 h2 := by
  obtain ⟨nw, l1, l2, l3, l4, l5⟩ := S.log
  obtain ⟨nw2, m1, m2, m3, m4, m5⟩ := T.log
  refine ⟨fun id hid => by rw [T.im id (by have := S.next; omega), S.im id hid], S.fm.trans T.fm, fun b cs t e => ?_, Nat.le_trans S.next T.next, Nat.le_trans S.clk T.clk, Nat.le_trans S.hnext T.hnext, Nat.le_trans T.room S.room,
    nw2 ++ nw, by rw [m1, l1, List.append_assoc], fun id hid hno => ?_, fun id hid hlt => ?_, fun b hb hno => ?_, fun id B hid e => ?_⟩
  · rcases T.fnew b cs t e with e | ⟨e, q⟩
    · exact S.fnew b cs t e
    · right
      refine ⟨by have := S.clk; omega, ?_⟩
      rcases q with q | ⟨id, B, q1, q2, q3, q4⟩
      · left; have := S.hnext; omega
      · by_cases hl : id < sh.next
        · right
          rw [S.im id hl] at q3
          refine ⟨id, B, hl, ?_, q3, q4⟩
          by_cases hn : id ∈ nw
          · exact l3 id hn hl
          · obtain ⟨sb, r1, r2⟩ := q2
            rw [l2 id hl hn] at r1; exact ⟨sb, r1, r2⟩
        · rcases l5 id B (by omega) q3 with r | ⟨id0, B0, r1, r2, r3, r4⟩
          · left; omega
          · right; exact ⟨id0, B0, r2, l3 id0 r1 r2, r3, r4.trans q4⟩
  · rw [List.mem_append, not_or] at hno
    rw [m2 id (by have := S.next; omega) hno.1, l2 id hid hno.2]
  · rcases List.mem_append.1 hid with e | e
    · obtain ⟨sb, q1, q2⟩ := m3 id e (by have := S.next; omega)
      by_cases hn : id ∈ nw
      · exact l3 id hn hlt
      · rw [l2 id hlt hn] at q1; exact ⟨sb, q1, q2⟩
    · exact l3 id e hlt
  · rw [m4 b (by have := S.hnext; omega) fun id B hid hlt e => ?_, l4 b hb fun id B hid hlt e => hno id B (List.mem_append_right _ hid) hlt e]
    by_cases hl : id < sh.next
    · rw [S.im id hl] at e
      exact hno id B (List.mem_append_left _ hid) hl e
    · rcases l5 id B (by omega) e with q | ⟨id0, B0, q1, q2, q3, q4⟩
      · omega
      · rw [← q4]; exact hno id0 B0 (List.mem_append_right _ q1) q2 q3
  · by_cases hl : id < sh1.next
    · rw [T.im id hl] at e
      rcases l5 id B hid e with q | ⟨id0, B0, q1, q2, q3, q4⟩
      · exact .inl q
      · exact .inr ⟨id0, B0, List.mem_append_right _ q1, q2, q3, q4⟩
    · rcases m5 id B (by omega) e with q | ⟨id0, B0, q1, q2, q3, q4⟩
      · left; have := S.hnext; omega
      · by_cases hl0 : id0 < sh.next
        · rw [S.im id0 hl0] at q3
          exact .inr ⟨id0, B0, List.mem_append_left _ q1, hl0, q3, q4⟩
        · rcases l5 id0 B0 (by omega) q3 with r | ⟨id1, B1, r1, r2, r3, r4⟩
          · left; omega
          · exact .inr ⟨id1, B1, List.mem_append_right _ r1, r2, r3, by rw [r4, q4]⟩

/-- The evaluator's heap may be another, of the same blocks. -/
theorem Stands.same {h h' : Hp} {B : Bl} {cs : List Value} {t : TypeId} (S : Stands h B cs t) (hn : h.next = h'.next) (hg : ∀ j, h.get j = h'.get j) : Stands h' B cs t :=
  ⟨by rw [← hg]; exact S.got, S.len, S.one, S.fit, fun e => by rw [← hg]; exact S.view e, by rw [← hn]; exact S.lt, fun e => by rw [← hn]; exact S.vlt e⟩
theorem HRs.same {F : Fz} {ι : Im} {sh : SH} {h h' : Hp} (H : HRs F ι sh h) (hn : h.next = h'.next) (hg : ∀ j, h.get j = h'.get j) : HRs F ι sh h' where
  most := by rw [← hn]; exact H.most
  smost := H.smost
  sdom := H.sdom
  ok := fun id sb e => by
    have := H.ok id sb e
    cases sb with
    | lst k rows t => obtain ⟨B, cs, h1, h2, h3, h4, h5⟩ := this; exact ⟨B, cs, h1, h2, h3, h4.same hn hg, h5⟩
    | row k n e t =>
      rcases this with q | ⟨B, cs, h1, h2, h3, h4, h5⟩
      · exact .inl q
      · exact .inr ⟨B, cs, h1, h2, h3, h4.same hn hg, h5⟩
    | mp es c => obtain ⟨B, h1, h2, h3⟩ := this; exact ⟨B, h1, by rw [← hg]; exact h2, by rw [← hn]; exact h3⟩
    | gone => trivial
  apart := H.apart
  frz := fun b cs t e => by obtain ⟨f1, f2, f3, f4⟩ := H.frz b cs t e; exact ⟨f1, by rw [← hn]; exact f2, f3, by rw [← hg]; exact f4⟩
  fap := H.fap
theorem Stp.same {F : Fz} {ι : Im} {sh : SH} {h : Hp} {F' : Fz} {ι' : Im} {sh' : SH} {h1 h2 : Hp} (S : Stp F ι sh h F' ι' sh' h1) (hn : h1.next = h2.next) (hg : ∀ j, h1.get j = h2.get j) : Stp F ι sh h F' ι' sh' h2 :=
  ⟨S.im, S.fm, S.fnew, S.next, S.clk, by rw [← hn]; exact S.hnext, by rw [← hn]; exact S.room, by
    obtain ⟨nw, l1, l2, l3, l4, l5⟩ := S.log
    exact ⟨nw, l1, l2, l3, fun b hb hno => by rw [← hg]; exact l4 b hb hno, l5⟩⟩

/-! ### Writing -/
theorem SH.get_put {h : SH} {id j : Nat} {b : SB} (hid : id < 9223372036854775808) : (h.put id b).get j = if j = id then some b else h.get j := by
  unfold SH.put SH.get
  rw [Tr.force_eq]
  exact Tr.get_set 24 _ _ _ _ (by omega)
theorem SH.put_next {h : SH} {id : Nat} {b : SB} : (h.put id b).next = h.next := by unfold SH.put; rw [Tr.force_eq]
theorem SH.put_clk {h : SH} {id : Nat} {b : SB} : (h.put id b).clk = h.clk := by unfold SH.put; rw [Tr.force_eq]
theorem SH.put_room {h : SH} {id : Nat} {b : SB} : (h.put id b).room = h.room := by unfold SH.put; rw [Tr.force_eq]
theorem SH.put_log {h : SH} {id : Nat} {b : SB} : (h.put id b).log = id :: h.log := by unfold SH.put; rw [Tr.force_eq]
theorem SH.new_some {h h' : SH} {id : Nat} {b : SB} (e : h.new b = some (id, h')) : id = h.next ∧ h'.next = h.next + 1 ∧ h'.clk = h.clk ∧ h'.log = h.log ∧ h.next < 9223372036854775808 ∧ h'.room + 2 = h.room ∧ ∀ j, h'.get j = if j = h.next then some b else h.get j := by
  unfold SH.new at e
  cases hb : (Nat.blt h.next 9223372036854775808 && Nat.ble 2 h.room) with
  | false => rw [hb] at e; cases e
  | true =>
    rw [hb] at e
    simp only [cond_true, Tr.force_eq, Option.some.injEq, Prod.mk.injEq] at e
    obtain ⟨rfl, rfl⟩ := e
    rw [Bool.and_eq_true] at hb
    have hlt : h.next < 9223372036854775808 := by simpa [Nat.blt_eq] using hb.1
    have h2 : 2 ≤ h.room := Nat.le_of_ble_eq_true hb.2
    exact ⟨rfl, rfl, rfl, rfl, hlt, by show h.room - 2 + 2 = h.room; omega, fun j => Tr.get_set 24 _ _ _ _ (by omega)⟩
theorem Stands.keep {h h' : Hp} {B : Bl} {cs : List Value} {t : TypeId} (S : Stands h B cs t) (hb : h'.get B.b = h.get B.b) (hv : B.x = false → h'.get (B.b + 1) = h.get (B.b + 1)) (hn : h.next ≤ h'.next) : Stands h' B cs t :=
  ⟨by rw [hb]; exact S.got, S.len, S.one, S.fit, fun e => by rw [hv e]; exact S.view e, by have := S.lt; omega, fun e => by have := S.vlt e; omega⟩
/-- The other blocks stay right where theirs stay. -/
theorem SbOk.keep {F F' : Fz} {ι ι' : Im} {h h' : Hp} {id : Nat} {sb : SB} (S : SbOk F ι h id sb) (hF : F.le F') (hi : ι.le ι') (hid : ι' id = ι id) (hn : h.next ≤ h'.next)
    (hk : ∀ B, ι id = some B → h'.get B.b = h.get B.b ∧ (B.x = false → B.b + 1 < h.next → h.get (B.b + 1) = some (.view B.b) → h'.get (B.b + 1) = h.get (B.b + 1))) : SbOk F' ι' h' id sb := by
  cases sb with
  | lst k rows t =>
    obtain ⟨B, cs, h1, h2, h3, h4, h5⟩ := S
    obtain ⟨k1, k2⟩ := hk B h1
    exact ⟨B, cs, hi _ _ h1, h2, h3, h4.keep k1 (fun e => k2 e (h4.vlt e) (h4.view e)) hn, fun i r hr => (h5 i r hr).mono hF hi⟩
  | row k n e t =>
    rcases S with ⟨h1, h2⟩ | ⟨B, cs, h1, h2, h3, h4, h5⟩
    · exact .inl ⟨h1, by rw [hid]; exact h2⟩
    · obtain ⟨k1, k2⟩ := hk B h1
      exact .inr ⟨B, cs, hi _ _ h1, h2, h3, h4.keep k1 (fun e => k2 e (h4.vlt e) (h4.view e)) hn, fun i hr => (h5 i hr).mono hF (Im.le.refl _)⟩
  | mp es c =>
    obtain ⟨B, h1, h2, h3⟩ := S
    exact ⟨B, hi _ _ h1, by rw [(hk B h1).1]; exact h2, by omega⟩
  | gone => trivial
/-- A block is made anew where it stands: of rows or of a map. -/
theorem HRs.putH {F : Fz} {ι : Im} {sh : SH} {h h' : Hp} (H : HRs F ι sh h) {id : Nat} {B : Bl} (hl : Live sh id) (hi : ι id = some B) (hlt : B.b < h.next) (hnv : ∀ v, h.get B.b ≠ some (.view v)) (hn : h'.next = h.next) (hg : ∀ j, j ≠ B.b → h'.get j = h.get j) {sb : SB}
    (hs : SbOk F ι h' id sb) : HRs F ι (sh.put id sb) h' ∧ Stp F ι sh h F ι (sh.put id sb) h' := by
  have hid : id < sh.next := H.id_lt hi
  have h8 : id < 9223372036854775808 := by have := H.smost; omega
  have hsg : ∀ j, (sh.put id sb).get j = if j = id then some sb else sh.get j := fun j => SH.get_put h8
  have live : ∀ j, Live (sh.put id sb) j → Live sh j := by
    rintro j ⟨s, hs1, hs2⟩
    rw [hsg] at hs1
    split at hs1
    · rename_i e; subst e; exact hl
    · exact ⟨s, hs1, hs2⟩
  refine ⟨⟨by rw [hn, SH.put_room]; exact H.most, by rw [SH.put_next]; exact H.smost, fun j hj => ?_, fun j s hj => ?_, fun j j' C C' hne l1 l2 e1 e2 => H.apart j j' C C' hne (live j l1) (live j' l2) e1 e2, fun b cs t e => ?_, fun b y j C e l e2 => H.fap b y j C e (live j l) e2⟩,
    ⟨fun _ _ => rfl, Fz.le.refl _, fun _ _ _ e => .inl e, by rw [SH.put_next]; exact Nat.le_refl _, by rw [SH.put_clk]; exact Nat.le_refl _, by rw [hn]; exact Nat.le_refl _, by rw [hn, SH.put_room]; exact Nat.le_refl _, [id], by rw [SH.put_log]; rfl, fun j hj hno => ?_, fun j hj hlt => ?_, fun b hb hno => ?_, fun j C hj e => ?_⟩⟩
  · rw [SH.put_next] at hj
    rw [hsg, if_neg (by omega)]
    exact H.sdom j hj
  · rw [hsg] at hj
    split at hj
    · rename_i e; subst e; injection hj with hj; subst hj; exact hs
    · rename_i hne
      by_cases hg' : s = .gone
      · subst hg'; trivial
      refine (H.ok j s hj).keep (Fz.le.refl _) (Im.le.refl _) rfl (by rw [hn]; exact Nat.le_refl _) fun C hC => ?_
      have hne2 : C.b ≠ B.b := H.apart j id C B hne ⟨s, hj, hg'⟩ hl hC hi
      refine ⟨hg _ hne2, fun _ _ hv => hg _ fun e => ?_⟩
      rw [e] at hv
      exact hnv _ hv
  · obtain ⟨f1, f2, f4, e', x', ro, f3⟩ := H.frz b cs t e
    rw [SH.put_clk, hn]
    refine ⟨f1, f2, f4, e', x', ro, ?_⟩
    rw [hg b (fun e2 => H.fap b _ id B e hl hi e2.symm)]
    exact f3
  · rw [hsg, if_neg (by simpa using hno)]
  · simp at hj; subst hj; exact hl
  · refine hg b fun e => ?_
    exact hno id B (by simp) hid hi e.symm
  · rw [(H.sdom j hj).2] at e; cases e
theorem HRs.put {F : Fz} {ι : Im} {sh : SH} {h : Hp} (H : HRs F ι sh h) {id : Nat} {B : Bl} (hl : Live sh id) (hi : ι id = some B) (hlt : B.b < h.next) (hnv : ∀ v, h.get B.b ≠ some (.view v)) {x : Blk} {sb : SB}
    (hs : SbOk F ι (h.put B.b x) id sb) : HRs F ι (sh.put id sb) (h.put B.b x) ∧ Stp F ι sh h F ι (sh.put id sb) (h.put B.b x) :=
  H.putH hl hi hlt hnv Hp.put_next (fun j hj => by rw [Hp.get_put (by have := H.most; omega), if_neg hj]) hs
/-- A new block. -/
theorem HRs.new {F : Fz} {ι : Im} {sh sh' : SH} {h h' : Hp} (H : HRs F ι sh h) {sb : SB} {id : Nat} (hs : sh.new sb = some (id, sh')) {B : Bl} (hb : h.next ≤ B.b) (hblt : B.b < h'.next) (hn : h.next ≤ h'.next) (hm : h'.next ≤ h.next + 2)
    (hg : ∀ j, j < h.next → h'.get j = h.get j)
    (hok : ∀ ι' : Im, ι.le ι' → ι' id = some B → SbOk F ι' h' id sb) : ∃ ι', ι' id = some B ∧ HRs F ι' sh' h' ∧ Stp F ι sh h F ι' sh' h' := by
  obtain ⟨rfl, n1, n2, n3, n4, n6, n5⟩ := SH.new_some hs
  have hmost := H.most
  let ι' : Im := fun j => if j = sh.next then some B else ι j
  have hi : ι' sh.next = some B := if_pos rfl
  have hle : ι.le ι' := fun j C e => by
    have : j < sh.next := H.id_lt e
    show (if j = sh.next then _ else _) = _
    rw [if_neg (by omega)]; exact e
  have hold : ∀ j, j < sh.next → ι' j = ι j := fun j hj => if_neg (by omega)
  have hblk : ∀ j C, j < sh.next → Live sh j → ι j = some C → C.b < h.next := by
    rintro j C hj ⟨s, hs1, hs2⟩ e
    have := H.ok j s hs1
    cases s with
    | lst k rows t => obtain ⟨D, cs, q1, _, _, q2, _⟩ := this; rw [q1] at e; injection e with e; subst e; exact q2.lt
    | row k n f t =>
      rcases this with ⟨_, q⟩ | ⟨D, cs, q1, _, _, q2, _⟩
      · rw [q] at e; cases e
      · rw [q1] at e; injection e with e; subst e; exact q2.lt
    | mp es c => obtain ⟨D, q1, _, q2⟩ := this; rw [q1] at e; injection e with e; subst e; exact q2
    | gone => exact absurd rfl hs2
  have live : ∀ j, j ≠ sh.next → Live sh' j → Live sh j := by
    rintro j hj ⟨s, hs1, hs2⟩
    rw [n5, if_neg hj] at hs1
    exact ⟨s, hs1, hs2⟩
  refine ⟨ι', hi, ⟨by omega, by rw [n1]; omega, fun j hj => ?_, fun j s hj => ?_, fun j j' C C' hne l1 l2 e1 e2 => ?_, fun b cs t e => ?_, fun b y j C e l e2 => ?_⟩,
    ⟨hold, Fz.le.refl _, fun _ _ _ e => .inl e, by rw [n1]; omega, by rw [n2]; exact Nat.le_refl _, hn, by omega, [], by rw [n3]; rfl, fun j hj _ => ?_, fun j hj => by simp at hj, fun b hb _ => hg b hb, fun j C hj e => ?_⟩⟩
  · rw [n1] at hj
    rw [n5, if_neg (by omega)]
    refine ⟨(H.sdom j (by omega)).1, ?_⟩
    show (if j = sh.next then _ else _) = _
    rw [if_neg (by omega)]; exact (H.sdom j (by omega)).2
  · rw [n5] at hj
    split at hj
    · rename_i e; subst e; injection hj with hj; subst hj; exact hok ι' hle hi
    · rename_i hne
      by_cases hg' : s = .gone
      · subst hg'; trivial
      have hlt := H.get_lt hj
      refine (H.ok j s hj).keep (Fz.le.refl _) hle (hold j hlt) hn fun C hC => ?_
      have hc := hblk j C hlt ⟨s, hj, hg'⟩ hC
      exact ⟨hg _ hc, fun _ hv _ => hg _ hv⟩
  · by_cases q1 : j = sh.next
    · have q2 : j' ≠ sh.next := fun e => hne (by rw [q1, e])
      rw [q1, hi] at e1
      injection e1 with e1; subst e1
      have hj' : ι j' = some C' := by
        have : ι' j' = ι j' := if_neg q2
        rw [← this]; exact e2
      have := hblk j' C' (H.id_lt hj') (live j' q2 l2) hj'
      omega
    · have hj : ι j = some C := by
        have : ι' j = ι j := if_neg q1
        rw [← this]; exact e1
      by_cases q2 : j' = sh.next
      · rw [q2, hi] at e2
        injection e2 with e2; subst e2
        have := hblk j C (H.id_lt hj) (live j q1 l1) hj
        omega
      · have hj' : ι j' = some C' := by
          have : ι' j' = ι j' := if_neg q2
          rw [← this]; exact e2
        exact H.apart j j' C C' hne (live j q1 l1) (live j' q2 l2) hj hj'
  · obtain ⟨f1, f2, f4, f3⟩ := H.frz b cs t e
    rw [n2]
    exact ⟨f1, by omega, f4, by rw [hg b f2]; exact f3⟩
  · by_cases q : j = sh.next
    · rw [q, hi] at e2
      injection e2 with e2; subst e2
      have := (H.frz b y.1 y.2 e).2.1
      omega
    · have hj : ι j = some C := by
        have : ι' j = ι j := if_neg q
        rw [← this]; exact e2
      exact H.fap b y j C e (live j q l) hj
  · rw [n5, if_neg (by omega)]
  · left
    by_cases q : j = sh.next
    · rw [q, hi] at e; injection e with e; subst e; exact hb
    · have : ι' j = ι j := if_neg q
      rw [this, (H.sdom j hj).2] at e; cases e
end Go.Proofs.YthloojeefdjpjaaGreatDoor.Se

/- The symbolic evaluator's operations on values, beside the evaluator's. -/
namespace Go.Proofs.YthloojeefdjpjaaGreatDoor.Se
open Go Go.Proofs.YthloojeefdjpjaaGreatDoor
set_option linter.unusedVariables false
set_option maxRecDepth 20000
set_option linter.unusedSimpArgs false
section
variable {F : Fz} {ι : Im}

theorem bin_rel {op : BinOp} {x y z : SV} {x' y' : Value} (hx : VRs F ι x x') (hy : VRs F ι y y') (h : (bin1_ op x y).sel = some z) : ∃ z', bin_ op x' y' = some z' ∧ VRs F ι z z' := by
  unfold bin1_ at h
  split at h
  · rename_i k c a k' c' b
    obtain rfl := hx.int_inv
    obtain rfl := hy.int_inv
    cases op
    case shl =>
      obtain ⟨k2, c2, c3, n, e, h2⟩ := sel_asNat h
      injection e with e1 e2 e3; subst e1; subst e3
      simp only [RT.sel, mkI_eq, Option.some.injEq] at h2; subst h2
      exact ⟨_, rfl, .int ..⟩
    case shr =>
      obtain ⟨k2, c2, c3, n, e, h2⟩ := sel_asNat h
      injection e with e1 e2 e3; subst e1; subst e3
      simp only [RT.sel, mkI_eq, Option.some.injEq] at h2; subst h2
      exact ⟨_, rfl, .int ..⟩
    all_goals
      simp only at h
      split at h
      · cases h
      · rename_i hk
        unfold bin_
        simp only [hk]
        first
          | (simp only [RT.sel, mkI_eq, mkB_eq, Option.some.injEq] at h; subst h; exact ⟨_, rfl, by first | exact .int .. | exact .bool ..⟩)
          | (obtain ⟨hz, h⟩ := sel_chk h
             simp only [RT.sel, mkI_eq, Option.some.injEq] at h; subst h
             rw [Bool.not_eq_true'] at hz
             simp only [hz]
             exact ⟨_, rfl, .int ..⟩)
          | cases h
  · rename_i c a c' b
    obtain rfl := hx.str_inv
    obtain rfl := hy.str_inv
    cases op
    case add =>
      simp only at h
      obtain ⟨hz, h⟩ := sel_chk h
      simp only [RT.sel, Option.some.injEq] at h; subst h
      unfold bin_
      have : decide ((⟨⟨a⟩⟩ : ByteArray).size + (⟨⟨b⟩⟩ : ByteArray).size ≤ 9223372036854775807) = true := hz
      simp only [this]
      exact ⟨_, rfl, .str ..⟩
    all_goals
      simp only at h
      first
        | (simp only [RT.sel, mkB_eq, Option.some.injEq] at h; subst h; exact ⟨_, rfl, .bool ..⟩)
        | cases h
  · cases h

theorem cut_rel {l r : List SV} {cs : List Value} {o n : Nat} (h : LRs F ι r cs) (hc : lcut r o n = some l) : ∃ vs, lcut cs o n = some vs ∧ LRs F ι l vs := by
  obtain ⟨h1, h2, h3⟩ := lcut_some hc
  have hr : RowR F ι cs 0 r.length r := ⟨rfl, fun j x y hx hy => h.2 j x y hx (by simpa using hy)⟩
  obtain ⟨vs, q1, q2⟩ := hr.cut hc (by rw [h.1]; omega)
  exact ⟨vs, by simpa using q1, q2⟩
theorem part_rel {E : Env} {t : TypeId} {r : List SV} {cs : List Value} {o : Nat} {v : SV} (h : LRs F ι r cs) (hp : part1_ E t r o = some v) : ∃ v', part_ E t cs o = some v' ∧ VRs F ι v v' := by
  unfold part1_ at hp
  unfold part_
  split at hp
  · rename_i n ha hs
    rw [ha, hs]
    split at hp
    · rename_i c hc
      injection hp with hp; subst hp
      obtain ⟨vs, q1, q2⟩ := cut_rel h hc
      simp only [q1]
      exact ⟨_, rfl, .agg_of q2⟩
    · cases hp
  · rename_i x hs ha
    rw [ha]
    split at hp
    · rename_i c hc
      injection hp with hp; subst hp
      obtain ⟨vs, q1, q2⟩ := cut_rel h hc
      obtain ⟨y, l', rfl, q3, q4⟩ := q2.cons_inv
      rw [q4.nil_inv] at q1
      simp only [q1]
      exact ⟨_, rfl, q3⟩
    · cases hp
  · cases hp
theorem part_row {E : Env} {t : TypeId} {r : List SV} {cs : List Value} {p k o : Nat} {v : SV} (h : RowR F ι cs p k r) (hl : p + k ≤ cs.length) (hp : part1_ E t r o = some v) : ∃ v', part_ E t cs (p + o) = some v' ∧ VRs F ι v v' := by
  unfold part1_ at hp
  unfold part_
  split at hp
  · rename_i n ha hs
    rw [ha, hs]
    split at hp
    · rename_i c hc
      injection hp with hp; subst hp
      obtain ⟨vs, q1, q2⟩ := h.cut hc hl
      simp only [q1]
      exact ⟨_, rfl, .agg_of q2⟩
    · cases hp
  · rename_i x hs ha
    rw [ha]
    split at hp
    · rename_i c hc
      injection hp with hp; subst hp
      obtain ⟨vs, q1, q2⟩ := h.cut hc hl
      obtain ⟨y, l', rfl, q3, q4⟩ := q2.cons_inv
      rw [q4.nil_inv] at q1
      simp only [q1]
      exact ⟨_, rfl, q3⟩
    · cases hp
  · cases hp

theorem eqs_rel {α : Type} {f g : α → Option SV} {f' g' : α → Option Value} {q : α → SV → SV → Option (Bool × Bool)} {q' : α → Value → Value → Option Bool} {skip : α → Bool}
    (hf : ∀ i a, f i = some a → ∃ a', f' i = some a' ∧ VRs F ι a a') (hg : ∀ i a, g i = some a → ∃ a', g' i = some a' ∧ VRs F ι a a')
    (hq : ∀ i a b a' b' r, VRs F ι a a' → VRs F ι b b' → q i a b = some r → q' i a' b' = some r.2) :
    ∀ {l : List α} {r : Bool × Bool}, eqs1_ f g q skip l = some r → eqs_ f' g' q' skip l = some r.2
  | [], r, h => by injection h with h; subst h; rfl
  | i :: l, r, h => by
    unfold eqs1_ at h
    unfold eqs_
    split at h
    · rename_i hs; rw [hs]; exact eqs_rel hf hg hq h
    · rename_i hs
      rw [hs]
      split at h
      · rename_i a b ha hb
        obtain ⟨a', ha', ra⟩ := hf i a ha
        obtain ⟨b', hb', rb⟩ := hg i b hb
        simp only [ha', hb']
        split at h
        · rename_i c x c' y e1 e2
          injection h with h; subst h
          rw [hq i a b a' b' _ ra rb e1]
          cases x with
          | true => simpa using eqs_rel hf hg hq e2
          | false => rfl
        · cases h
      · cases h
theorem eq_rel {E : Env} : ∀ {d : Nat} {t : TypeId} {x y : SV} {x' y' : Value} {r : Bool × Bool}, VRs F ι x x' → VRs F ι y y' → eq1_ E d t x y = some r → eq_ E d t x' y' = some r.2
  | 0, t, x, y, x', y', r, hx, hy, h => by cases h
  | d + 1, t, x, y, x', y', r, hx, hy, h => by
    unfold eq1_ at h
    split at h
    · rename_i ht; injection h with h; subst h; obtain rfl := hx.bool_inv; obtain rfl := hy.bool_inv; unfold eq_; simp only [ht]
    · rename_i ht
      obtain rfl := hx.int_inv; obtain rfl := hy.int_inv
      split at h
      · rename_i hk; injection h with h; subst h; unfold eq_; simp only [ht, hk]
      · cases h
    · rename_i ht; injection h with h; subst h; obtain rfl := hx.str_inv; obtain rfl := hy.str_inv; unfold eq_; simp only [ht]
    · rename_i ht; injection h with h; subst h; obtain ⟨rfl, _⟩ := hx.raw_inv; obtain ⟨rfl, _⟩ := hy.raw_inv; unfold eq_; simp only [ht]; rfl
    · rename_i ht; injection h with h; subst h; obtain ⟨rfl, _⟩ := hy.raw_inv; cases hx; unfold eq_; simp only [ht]
    · rename_i ht; injection h with h; subst h; obtain ⟨rfl, _⟩ := hx.raw_inv; cases hy; unfold eq_; simp only [ht]; rfl
    · rename_i ht; injection h with h; subst h; obtain ⟨rfl, _⟩ := hx.raw_inv; obtain ⟨rfl, _⟩ := hy.raw_inv; unfold eq_; simp only [ht]; rfl
    · rename_i ht; injection h with h; subst h; obtain ⟨rfl, _⟩ := hy.raw_inv
      cases hx with
      | nsl => unfold eq_; simp only [ht]
      | nslN _ _ _ _ _ _ hz => omega
      | nslE _ _ _ _ _ _ hz => omega
    · rename_i ht; injection h with h; subst h; obtain ⟨rfl, _⟩ := hy.raw_inv; cases hx; unfold eq_; simp only [ht]
    · rename_i ht; injection h with h; subst h; obtain ⟨rfl, _⟩ := hy.raw_inv
      cases hx with
      | fsl _ _ _ _ _ _ b o cs t cap h1 h2 h3 h4 h5 h6 h7 =>
        rcases h3 with h3 | h3 <;> cases h3
        unfold eq_; simp only [ht]
      | fslN _ _ _ _ _ h3 =>
        rcases h3 with h3 | h3 <;> cases h3
        unfold eq_; simp only [ht]; rfl
    · rename_i ht; injection h with h; subst h; obtain ⟨rfl, _⟩ := hy.raw_inv; cases hx; unfold eq_; simp only [ht]
    · rename_i ht; injection h with h; subst h; obtain ⟨rfl, _⟩ := hx.raw_inv; obtain ⟨rfl, _⟩ := hy.raw_inv; unfold eq_; simp only [ht]; rfl
    · rename_i ht; injection h with h; subst h; obtain ⟨rfl, _⟩ := hx.raw_inv; obtain ⟨rfl, _⟩ := hy.raw_inv; unfold eq_; simp only [ht]
    · rename_i ht; injection h with h; subst h; obtain ⟨rfl, _⟩ := hx.raw_inv; cases hy; unfold eq_; simp only [ht]
    · rename_i ht; injection h with h; subst h; obtain ⟨rfl, _⟩ := hy.raw_inv; cases hx; unfold eq_; simp only [ht]
    · rename_i fs xs ys ht
      obtain ⟨xs', rfl, lx⟩ := hx.agg_inv
      obtain ⟨ys', rfl, ly⟩ := hy.agg_inv
      unfold eq_
      simp only [ht]
      cases hk : E.eqOk t with
      | false => rw [hk] at h; cases h
      | true =>
        rw [hk] at h
        simp only [cond_true] at h ⊢
        refine eqs_rel (F := F) (ι := ι) ?_ ?_ ?_ h
        · exact fun i a e => part_rel lx e
        · exact fun i a e => part_rel ly e
        · exact fun i a b a' b' r ra rb e => eq_rel ra rb e
    · rename_i n e xs ys ht
      obtain ⟨xs', rfl, lx⟩ := hx.agg_inv
      obtain ⟨ys', rfl, ly⟩ := hy.agg_inv
      unfold eq_
      simp only [ht]
      split at h
      · rename_i s hs
        simp only [hs]
        refine eqs_rel (F := F) (ι := ι) ?_ ?_ ?_ h
        · exact fun i a e => part_rel lx e
        · exact fun i a e => part_rel ly e
        · exact fun i a b a' b' r ra rb e => eq_rel ra rb e
      · cases h
    · cases h
theorem guard_rel {E : Env} {t : TypeId} {x : SV} {x' : Value} {d : Nat} {y : SV} {r : Bool × Bool} (hx : VRs F ι x x') (h : guard1_ E t x = true) (hq : eq1_ E d t x y = some r) : guard_ E t x' = true := by
  cases hx with
  | agg => exact h
  | lost => exfalso; cases d with | zero => cases hq | succ d => unfold eq1_ at hq; split at hq <;> first | contradiction | cases hq
  | raw _ _ hb => cases x' <;> first | rfl | cases hb
  | _ => rfl
theorem un_rel {op : UnOp} {x z : SV} {x' : Value} (hx : VRs F ι x x') (h : (un1_ op x).sel = some z) : ∃ z', un_ op x' = some z' ∧ VRs F ι z z' := by
  unfold un1_ at h
  split at h
  · obtain rfl := hx.int_inv; simp only [RT.sel, mkI_eq, Option.some.injEq] at h; subst h; exact ⟨_, rfl, .int ..⟩
  · obtain rfl := hx.bool_inv; simp only [RT.sel, mkB_eq, Option.some.injEq] at h; subst h; exact ⟨_, rfl, .bool ..⟩
  · obtain rfl := hx.int_inv; simp only [RT.sel, mkI_eq, Option.some.injEq] at h; subst h; exact ⟨_, rfl, .int ..⟩
  · cases h
theorem field_rel {E : Env} {s : TypeId} {x v : SV} {x' : Value} {f : Nat} (hx : VRs F ι x x') (h : field1_ E s x f = some v) : ∃ v', field_ E s x' f = some v' ∧ VRs F ι v v' := by
  unfold field1_ at h
  split at h
  · rename_i fs cs hu
    obtain ⟨cs', rfl, hl⟩ := hx.agg_inv
    unfold field_
    rw [hu]
    split at h
    · rename_i fd hf
      simp only [hf]
      exact part_rel hl h
    · cases h
  · cases h
theorem fieldAddr_rel {E : Env} {s : TypeId} {x v : SV} {x' : Value} {f : Nat} (hx : VRs F ι x x') (h : fieldAddr1_ E s x f = some v) : ∃ v', fieldAddr_ E s x' f = some v' ∧ VRs F ι v v' := by
  unfold fieldAddr1_ at h
  split at h
  · rename_i fs hu
    split at h
    · rename_i fd hf
      split at h
      · rename_i n hs
        unfold fieldAddr_
        rw [hu]
        split at h
        · rename_i id k c i o
          injection h with h; subst h
          cases hx with
          | ptr _ _ _ _ _ _ B a h1 h2 h3 h4 =>
            simp only [hf, hs]
            exact ⟨_, rfl, by rw [Nat.add_assoc]; exact .ptr _ _ _ _ _ _ B a h1 h2 h3 h4⟩
        · rename_i st k n e i o
          injection h with h; subst h
          cases hx with
          | fptr _ _ _ _ _ _ _ b q cs t h1 h2 h3 h4 h5 h6 =>
            simp only [hf, hs]
            exact ⟨_, rfl, by rw [Nat.add_assoc]; exact .fptr _ _ _ _ _ _ _ b q cs t h1 h2 h3 h4 h5 h6⟩
        · cases h
      · cases h
    · cases h
  · cases h
theorem getD_of_lcut {l : List UInt8} {q : Nat} (h : q < l.length) : lcut l q 1 = some [l.getD q 0] := by
  have h1 : ∀ (l : List UInt8) (q : Nat), q < l.length → ldrop q l = some (l.getD q 0 :: l.drop (q + 1)) := by
    intro l q
    induction q generalizing l with
    | zero => intro hl; cases l with | nil => simp at hl | cons x l => rfl
    | succ q ih => intro hl; cases l with | nil => simp at hl | cons x l => simpa [ldrop] using ih l (by simpa using hl)
  unfold lcut
  rw [h1 l q h]
  rfl
theorem index_rel {E : Env} {t : TypeId} {x i v : SV} {x' i' : Value} (hx : VRs F ι x x') (hi : VRs F ι i i') (h : (index1_ E t x i).sel = some v) : ∃ v', index_ E t x' i' = some v' ∧ VRs F ι v v' := by
  unfold index1_ at h
  split at h
  · rename_i N e cs hu
    obtain ⟨cs', rfl, hl⟩ := hx.agg_inv
    split at h
    · rename_i s hs
      obtain ⟨k2, c2, c3, q, rfl, h2⟩ := sel_asNat h
      obtain rfl := hi.int_inv
      unfold index_
      simp only [hu, hs]
      cases c3 with
      | true =>
        obtain ⟨hq, h3⟩ := sel_chk h2
        rw [hq]
        exact part_rel hl (sel_lift h3)
      | false =>
        simp only at h2
        split at h2
        · rename_i ha
          obtain ⟨hq, h3⟩ := sel_chk h2
          split at h3
          · rename_i l hc
            simp only [RT.sel, Option.some.injEq] at h3; subst h3
            obtain ⟨vs, q1, q2⟩ := cut_rel hl hc
            obtain ⟨g1, g2, g3⟩ := lcut_some q1
            have hlt : q < N := by simpa [Nat.blt_eq] using hq
            have hex : ∃ y, vs[q]? = some y := ⟨vs[q]'(by omega), List.getElem?_eq_getElem _⟩
            obtain ⟨y, hy⟩ := hex
            rw [hq]
            unfold part_
            rw [ha, hs]
            have hcut : lcut cs'.toArray.toList (q * 1) 1 = some [y] := by
              have hy2 : cs'[q]? = some y := by rw [lcut_get q1 q hlt] at hy; simpa using hy
              have hd : ∀ (l : List Value) (q : Nat) (y : Value), l[q]? = some y → lcut l q 1 = some [y] := by
                intro l q y
                induction q generalizing l with
                | zero => intro hl; cases l with | nil => simp at hl | cons x l => simp at hl; subst hl; rfl
                | succ q ih => intro hl; cases l with | nil => simp at hl | cons x l => simpa [lcut, ldrop] using ih l (by simpa using hl)
              simpa using hd cs' q y hy2
            simp only [cond_true]
            rw [hcut]
            exact ⟨y, rfl, pick_rel q2 hy⟩
          · cases h3
        · cases h2
    · cases h
  · rename_i c s hu
    obtain rfl := hx.str_inv
    obtain ⟨k2, c2, c3, q, rfl, h2⟩ := sel_asNat h
    obtain rfl := hi.int_inv
    obtain ⟨hq, h3⟩ := sel_chk h2
    simp only [RT.sel, mkI_eq, Option.some.injEq] at h3; subst h3
    unfold index_
    simp only [hu]
    have hlt : q < s.length := by simpa [Nat.blt_eq] using hq
    have : lcut (⟨⟨s⟩⟩ : ByteArray).data.toList q 1 = some [s.getD q 0] := getD_of_lcut hlt
    rw [this]
    exact ⟨_, rfl, .int ..⟩
  · cases h
theorem mm_rel {big : Bool} : ∀ {l : List SV} {l' : List Value} {x v : SV} {x' : Value}, VRs F ι x x' → LRs F ι l l' → mm1_ big x l = some v → ∃ v', mm_ big x' l' = some v' ∧ VRs F ι v v'
  | [], l', x, v, x', hx, hl, h => by
    rw [hl.nil_inv]; unfold mm1_ at h; injection h with h; subst h; exact ⟨x', by cases x' <;> rfl, hx⟩
  | y :: l, l', x, v, x', hx, hl, h => by
    obtain ⟨y', l', rfl, hy, hl2⟩ := hl.cons_inv
    unfold mm1_ at h
    split at h
    · cases ‹_ :: _ = []›
    · rename_i k c a k' c' b l2 heq
      injection heq with e1 e2; subst e1; subst e2
      obtain rfl := hx.int_inv
      obtain rfl := hy.int_inv
      rw [mkI_eq] at h
      unfold mm_
      refine mm_rel (?_ : VRs F ι _ _) hl2 h
      cases big <;> exact .int ..
    · cases h
theorem indexAddr_rel {E : Env} {t : TypeId} {x i v : SV} {x' i' : Value} (hx : VRs F ι x x') (hi : VRs F ι i i') (h : (indexAddr1_ E t x i).sel = some v) : ∃ v', indexAddr_ E t x' i' = some v' ∧ VRs F ι v v' := by
  unfold indexAddr1_ at h
  split at h
  · rename_i N e id k c r o hu
    split at h
    · rename_i s hs
      obtain ⟨k2, c2, c3, q, rfl, h2⟩ := sel_asNat h
      obtain rfl := hi.int_inv
      cases hx with
      | ptr _ _ _ _ _ _ B a h1 h2' h3 h4 =>
        unfold indexAddr_
        simp only [hu, hs]
        cases c3 with
        | true =>
          obtain ⟨hq, h5⟩ := sel_chk h2
          simp only [RT.sel, Option.some.injEq] at h5; subst h5
          rw [hq]
          exact ⟨_, rfl, by rw [Nat.add_assoc]; exact .ptr _ _ _ _ _ _ B a h1 h2' h3 h4⟩
        | false =>
          simp only at h2
          split at h2
          · obtain ⟨hq, h5⟩ := sel_chk h2
            simp only [RT.sel, Option.some.injEq] at h5; subst h5
            rw [hq]
            refine ⟨_, rfl, ?_⟩
            rw [Nat.mul_one]
            exact .aptr _ _ _ _ _ _ _ _ B a h1 h2' h3 (by simpa [Nat.blt_eq] using hq) h4
          · cases h2
    · cases h
  · rename_i e id k c s n z hu
    split at h
    · rename_i zz hs
      cases hk : Nat.beq zz k with
      | false => rw [hk] at h; cases h
      | true =>
        rw [hk] at h
        simp only [cond_true] at h
        obtain rfl := Nat.eq_of_beq_eq_true hk
        obtain ⟨k2, c2, c3, q, rfl, h2⟩ := sel_asNat h
        obtain rfl := hi.int_inv
        obtain ⟨hq, h5⟩ := sel_chk h2
        simp only [RT.sel, Option.some.injEq] at h5; subst h5
        have hlt : q < n := by simpa [Nat.blt_eq] using hq
        cases hx with
        | nsl _ _ _ _ _ _ _ B off cap h1 h2' h3 h4 h5 h6 h7 =>
          unfold indexAddr_
          simp only [hu, hs]
          rw [hq]
          refine ⟨_, rfl, ?_⟩
          have ho : off = B.o + s * zz := by rcases h5 with h5 | h5; omega; exact h5
          subst ho
          have hh : B.o + s * zz + q * zz = B.o + (s + q) * zz + 0 := by rw [Nat.add_mul]; omega
          unfold add_
          simp only
          rw [hh]
          exact .ptr _ _ _ _ _ _ B _ h1 h2' (by omega) (.inl rfl)
        | nslN => omega
        | nslE => omega
    · cases h
  · rename_i e id k c r o N cj j n hu
    split at h
    · rename_i hs
      obtain ⟨k2, c2, c3, q, rfl, h2⟩ := sel_asNat h
      obtain rfl := hi.int_inv
      obtain ⟨hq, h5⟩ := sel_chk h2
      have hlt : q < n := by simpa [Nat.blt_eq] using hq
      cases hx with
      | asl _ _ _ _ _ _ _ _ _ _ B a off cap h1 h2' h3 h4 h5' h6 h7 h8 =>
        unfold indexAddr_
        simp only [hu, hs]
        rw [hq]
        refine ⟨_, rfl, ?_⟩
        have ho : off = B.o + r * k + o + j := by rcases h7 with h7 | h7; omega; exact h7
        subst ho
        have hat : B.at a := by
          rcases h8 with ⟨_, h8⟩ | ⟨h8, h9⟩
          · exact .inl h8
          · exact .inr ⟨h8, h9⟩
        unfold add_
        simp only [Nat.mul_one]
        split at h5
        · simp only [RT.sel, Option.some.injEq] at h5; subst h5
          have hh : B.o + r * k + o + j + q = B.o + r * k + (o + (j + q)) := by omega
          rw [hh]
          exact .ptr _ _ _ _ _ _ B _ h1 h2' h3 hat
        · simp only [RT.sel, Option.some.injEq] at h5; subst h5
          rw [Nat.add_assoc _ j q]
          exact .aptr _ _ _ _ _ _ _ _ B _ h1 h2' h3 (by omega) hat
    · cases h
  · rename_i e' st k n nl e hu
    split at h
    · rename_i zz hs
      cases hk : Nat.beq zz k with
      | false => rw [hk] at h; cases h
      | true =>
        rw [hk] at h
        simp only [cond_true] at h
        obtain rfl := Nat.eq_of_beq_eq_true hk
        obtain ⟨k2, c2, c3, q, rfl, h2⟩ := sel_asNat h
        obtain rfl := hi.int_inv
        obtain ⟨hq, h5⟩ := sel_chk h2
        simp only [RT.sel, Option.some.injEq] at h5; subst h5
        have hlt : q < n := by simpa [Nat.blt_eq] using hq
        cases hx with
        | fsl _ _ _ _ _ _ b o cs t cap h1 h2' h3 h4 h5 h6 h7 =>
          unfold indexAddr_
          simp only [hu, hs]
          rw [hq]
          refine ⟨_, rfl, ?_⟩
          unfold add_
          have hm : n * zz ≤ cap * zz := Nat.mul_le_mul_right _ h4
          have := VRs.fptr (F := F) ι st zz n e q 0 b o cs t h1 h2' hlt (by omega) h6 h7
          simpa using this
        | fslN => omega
        | fslE => omega
    · cases h
  · cases h
end
end Go.Proofs.YthloojeefdjpjaaGreatDoor.Se

/- The symbolic evaluator's memory, beside the evaluator's: loads, stores, new blocks. -/
namespace Go.Proofs.YthloojeefdjpjaaGreatDoor.Se
open Go Go.Proofs.YthloojeefdjpjaaGreatDoor
set_option linter.unusedVariables false
set_option maxRecDepth 20000
set_option linter.unusedSimpArgs false
section
variable {F : Fz} {ι : Im} {sh sh' : SH} {h : Hp}

theorem loadCells_at {B : Bl} {cs : List Value} {t : TypeId} (S : Stands h B cs t) {a : Nat} (ha : B.at a) (off n : Nat) : loadCells_ h ⟨a, off, none⟩ n = lcut cs off n := by
  unfold loadCells_
  rcases ha with rfl | ⟨hx, rfl⟩
  · simp only [S.got]
  · simp only [S.view hx, S.got]
theorem loadVar_at {E : Env} {t' : TypeId} {cs : List Value} {a off : Nat} (hl : ∀ n, loadCells_ h ⟨a, off, none⟩ n = lcut cs off n) : loadVar_ E h t' ⟨a, off, none⟩ = part_ E t' cs off := by
  unfold loadVar_ part_
  split <;> simp only [hl]
theorem storeCells_at {B : Bl} {cs cs' : List Value} {t : TypeId} (S : Stands h B cs t) {a : Nat} (ha : B.at a) {off : Nat} {xs : List Value} (h1 : ones_ xs = true) (hp : lputAt cs xs off = some cs') :
    storeCells_ h ⟨a, off, none⟩ xs = some (h.put B.b (.cells cs' t B.x false)) := by
  unfold storeCells_
  rcases ha with rfl | ⟨hx, rfl⟩
  · simp only [S.got, h1, hp]
  · simp only [S.view hx, h1, S.got, hp]
theorem lputAt_ex {α : Type} : ∀ (n : Nat) (l xs : List α), n + xs.length ≤ l.length → ∃ r, lputAt l xs n = some r
  | 0, l, xs, h => by
    have hd : ∀ (l : List α) (n : Nat), n ≤ l.length → ldrop n l = some (l.drop n) := by
      intro l n
      induction n generalizing l with
      | zero => intro _; rfl
      | succ n ih => intro hn; cases l with | nil => simp at hn | cons x l => simp at hn; simpa [ldrop] using ih l hn
    exact ⟨_, by simp only [lputAt, hd l xs.length (by omega)]; rfl⟩
  | n + 1, [], xs, h => by simp at h
  | n + 1, x :: l, xs, h => by
    obtain ⟨r, hr⟩ := lputAt_ex n l xs (by simp at h; omega)
    exact ⟨x :: r, by simp only [lputAt, hr]⟩
theorem ones_append : ∀ {a b : List Value}, ones_ a = true → ones_ b = true → ones_ (a ++ b) = true
  | [], b, _, h => h
  | x :: a, b, h, k => by
    unfold ones_ at h
    split at h
    · rename_i hx; simp only [List.cons_append]; unfold ones_; rw [hx]; exact ones_append h k
    · cases h
theorem ones_mem {l : List Value} : ones_ l = true ↔ ∀ v ∈ l, one_ v = true := by
  induction l with
  | nil => simp [ones_]
  | cons x l ih =>
    unfold ones_
    cases hx : one_ x <;> simp [hx, ih]
theorem ones_sub {l r : List Value} (h : ones_ l = true) (hs : ∀ v ∈ r, v ∈ l) : ones_ r = true := ones_mem.2 fun v hv => ones_mem.1 h v (hs v hv)
theorem ones_cut {l r : List Value} {a n : Nat} (h : ones_ l = true) (hc : lcut l a n = some r) : ones_ r = true := by
  obtain ⟨_, rfl, _⟩ := lcut_some hc
  exact ones_sub h fun v hv => List.mem_of_mem_drop (List.mem_of_mem_take hv)
theorem ones_putAt {l xs r : List Value} {n : Nat} (h : ones_ l = true) (hx : ones_ xs = true) (hp : lputAt l xs n = some r) : ones_ r = true := by
  obtain ⟨_, rfl⟩ := lputAt_some hp
  exact ones_append (ones_append (ones_sub h fun v hv => List.mem_of_mem_take hv) hx) (ones_sub h fun v hv => List.mem_of_mem_drop hv)

/-- A row of a block, in both. -/
theorem block_row (H : HRs F ι sh h) {id k i : Nat} {c : Bool} {B : Bl} {b : SB} {r : List SV} (hi : ι id = some B) (hk : B.k = k) (hm : i < B.m) (hb : sh.get id = some b) (hr : rowAt b c i = some r) :
    ∃ cs t, Stands h B cs t ∧ RowR F ι cs (B.o + i * k) k r := by
  have := H.ok id b hb
  unfold rowAt at hr
  split at hr
  · split at hr
    · obtain ⟨B', cs, q1, q2, q3, q4, q5⟩ := this
      rw [hi] at q1; injection q1 with q1; subst q1
      subst hk; rw [← q2] at q5
      exact ⟨cs, _, q4, q5 i r hr⟩
    · cases hr
  · injection hr with hr; subst hr
    rcases this with ⟨_, q⟩ | ⟨B', cs, q1, q2, q3, q4, q5⟩
    · rw [hi] at q; cases q
    · rw [hi] at q1; injection q1 with q1; subst q1
      subst hk; rw [← q2] at q5
      exact ⟨cs, _, q4, (q5 i (by omega)).mono (Fz.le.refl _) (Im0.le _)⟩
  · cases hr
theorem Bl.row_in {B : Bl} {cs : List Value} {t : TypeId} (S : Stands h B cs t) {i : Nat} (hm : i < B.m) : B.o + i * B.k + B.k ≤ cs.length := by
  have h1 : (i + 1) * B.k ≤ B.m * B.k := Nat.mul_le_mul_right _ hm
  rw [Nat.add_mul] at h1
  have := S.fit
  rw [S.len]; omega
theorem load_rel {E : Env} {t : TypeId} {p v : SV} {p' : Value} (H : HRs F ι sh h) (hp : VRs F ι p p') (hl : load1_ E sh t p = some v) :
    ∃ a v', addr_ p' = some a ∧ loadVar_ E h t a = some v' ∧ VRs F ι v v' := by
  unfold load1_ at hl
  split at hl
  · rename_i id k c i o
    split at hl
    · rename_i b hb
      split at hl
      · rename_i r hr
        cases hp with
        | ptr _ _ _ _ _ _ B a h1 h2 h3 h4 =>
          obtain ⟨cs, t', S, R⟩ := block_row H h1 h2 h3 hb hr
          subst h2
          obtain ⟨v', q1, q2⟩ := part_row R (Bl.row_in S h3) hl
          exact ⟨_, v', rfl, by rw [loadVar_at (loadCells_at S h4 _)]; exact q1, q2⟩
      · cases hl
    · cases hl
  · rename_i st k n e i o
    cases hp with
    | fptr _ _ _ _ _ _ _ b q cs t' h1 h2 h3 h4 h5 h6 =>
      obtain ⟨f1, f2, f3, e', x', ro, f4⟩ := H.frz b cs t' h1
      have hlen : q + i * k + k ≤ cs.length := by
        have : (i + 1) * k ≤ n * k := Nat.mul_le_mul_right _ h3
        rw [Nat.add_mul] at this; omega
      obtain ⟨v', q1, q2⟩ := part_row (ι := Im0) (p := q + i * k) (k := k) ⟨h5 i h3, fun j x y a b => h6 i j x y h3 a b⟩ hlen hl
      refine ⟨_, v', rfl, ?_, q2.up (Im0.le _)⟩
      rw [loadVar_at (cs := cs) fun n => by unfold loadCells_; simp only [f4]]
      exact q1
  · rename_i id k c i o N j
    split at hl
    · rename_i b hb ha
      split at hl
      · rename_i r hr
        split at hl
        · rename_i l hc
          injection hl with hl; subst hl
          cases hp with
          | aptr _ _ _ _ _ _ _ _ B a h1 h2 h3 h4 h5 =>
            obtain ⟨cs, t', S, R⟩ := block_row H h1 h2 h3 hb hr
            subst h2
            obtain ⟨vs, q1, q2⟩ := R.cut hc (Bl.row_in S h3)
            obtain ⟨g1, g2, g3⟩ := lcut_some q1
            have hy : vs[j]? = some (vs[j]'(by omega)) := List.getElem?_eq_getElem _
            refine ⟨_, _, rfl, ?_, pick_rel q2 hy⟩
            rw [loadVar_at (loadCells_at S h5 _)]
            unfold part_
            rw [ha]
            have hy2 : cs[B.o + i * B.k + o + j]? = some (vs[j]'(by omega)) := by rw [← lcut_get q1 j h4]; exact hy
            have hd : ∀ (l : List Value) (q : Nat) (y : Value), l[q]? = some y → lcut l q 1 = some [y] := by
              intro l q y
              induction q generalizing l with
              | zero => intro hl; cases l with | nil => simp at hl | cons x l => simp at hl; subst hl; rfl
              | succ q ih => intro hl; cases l with | nil => simp at hl | cons x l => simpa [lcut, ldrop] using ih l (by simpa using hl)
            rw [hd _ _ _ hy2]
        · cases hl
      · cases hl
    · cases hl
  · cases hl

/-- A row made anew, in both. -/
theorem setRow_rel (H : HRs F ι sh h) {id k i : Nat} {c : Bool} {f : List SV → Option (List SV)} (hs : setRow sh id k c i f = some sh') {B : Bl} (hi : ι id = some B) (hk : B.k = k) (hm : i < B.m) {cs cs' : List Value} {t : TypeId} (S : Stands h B cs t)
    (h1 : ones_ cs' = true) (hlen : cs'.length = cs.length) (hout : ∀ q, q < B.o + i * k ∨ B.o + i * k + k ≤ q → cs'[q]? = cs[q]?)
    (hf : ∀ r, r.length = k → (∃ k' n e t', sh.get id = some (.row k' n e t')) → ∃ r', f r = some r')
    (hrow : ∀ r r', RowR F ι cs (B.o + i * k) k r → f r = some r' → RowR F ι cs' (B.o + i * k) k r')
    (hrow0 : (∃ k' n e t', sh.get id = some (.row k' n e t')) → ∀ r r', RowR F Im0 cs (B.o + i * k) k r → f r = some r' → RowR F Im0 cs' (B.o + i * k) k r') :
    HRs F ι sh' (h.put B.b (.cells cs' t B.x false)) ∧ Stp F ι sh h F ι sh' (h.put B.b (.cells cs' t B.x false)) := by
  have hb8 : B.b < 9223372036854775808 := by have := H.most; have := S.lt; omega
  have hg : ∀ j, (h.put B.b (.cells cs' t B.x false)).get j = if j = B.b then some (.cells cs' t B.x false) else h.get j := fun j => Hp.get_put hb8
  have S' : Stands (h.put B.b (.cells cs' t B.x false)) B cs' t := by
    refine ⟨by rw [hg, if_pos rfl], by rw [hlen]; exact S.len, h1, S.fit, fun e => ?_, by rw [Hp.put_next]; exact S.lt, fun e => by rw [Hp.put_next]; exact S.vlt e⟩
    rw [hg, if_neg (by omega)]; exact S.view e
  have hother : ∀ {ι0 : Im} {j : Nat} {r : List SV}, j ≠ i → RowR F ι0 cs (B.o + j * k) k r → RowR F ι0 cs' (B.o + j * k) k r := by
    intro ι0 j r hne R
    refine ⟨R.1, fun q x y hx hy => R.2 q x y hx ?_⟩
    have hq : q < k := by have := (List.getElem?_eq_some_iff.1 hx).1; rw [R.1] at this; exact this
    rw [← hout _ ?_]; exact hy
    rcases Nat.lt_or_gt_of_ne hne with hlt | hgt
    · left
      have : (j + 1) * k ≤ i * k := Nat.mul_le_mul_right _ hlt
      rw [Nat.add_mul] at this; omega
    · right
      have : (i + 1) * k ≤ j * k := Nat.mul_le_mul_right _ hgt
      rw [Nat.add_mul] at this; omega
  unfold setRow at hs
  split at hs
  · rename_i k' rows t' hget
    split at hs
    · rename_i r hr hkk
      obtain rfl := Nat.eq_of_beq_eq_true hkk
      split at hs
      · rename_i r' hr'
        split at hs
        · rename_i rows' hrows
          injection hs with hs; subst hs
          obtain ⟨e1, e2⟩ := lset_some hrows
          obtain ⟨B', cs2, q1, q2, q3, q4, q5⟩ := H.ok id _ hget
          rw [hi] at q1; injection q1 with q1; subst q1
          have hcs := S.got; rw [q4.got] at hcs; injection hcs with hcs; injection hcs with c1 c2; subst c1; subst c2
          refine HRs.put H ⟨_, hget, by intro e; cases e⟩ hi S.lt (fun v e => by rw [S.got] at e; cases e) ?_
          refine ⟨B, cs', hi, hk, by rw [q3, e2, List.length_set], S', fun j rr hj => ?_⟩
          rw [e2, List.getElem?_set] at hj
          split at hj
          · rename_i e; subst e
            injection hj with hj; subst hj
            exact hrow r r' (q5 _ r hr) hr'
          · rename_i e
            exact hother (fun e2 => e e2.symm) (q5 j rr hj)
        · cases hs
      · cases hs
    · cases hs
  · rename_i k' n e t' hget
    split at hs
    · rename_i hkk
      obtain rfl := Nat.eq_of_beq_eq_true hkk
      injection hs with hs; subst hs
      rcases H.ok id _ hget with ⟨_, q⟩ | ⟨B', cs2, q1, q2, q3, q4, q5⟩
      · rw [hi] at q; cases q
      · rw [hi] at q1; injection q1 with q1; subst q1
        have hcs := S.got; rw [q4.got] at hcs; injection hcs with hcs; injection hcs with c1 c2; subst c1; subst c2
        refine HRs.put H ⟨_, hget, by intro e; cases e⟩ hi S.lt (fun v e => by rw [S.got] at e; cases e) ?_
        refine .inr ⟨B, cs', hi, hk, q3, S', fun j hj => ?_⟩
        have Rj := q5 j hj
        obtain ⟨r', hr'⟩ := hf (e j) Rj.1 ⟨_, _, _, _, hget⟩
        simp only [hr']
        refine RowR.mux (fun e2 => ?_) (fun e2 => ?_)
        · obtain rfl := Nat.eq_of_beq_eq_true e2
          exact hrow0 ⟨_, _, _, _, hget⟩ _ _ Rj hr'
        · exact hother (fun e3 => by rw [e3] at e2; simp at e2) Rj
    · cases hs
  · cases hs
theorem frees_rel {l : List SV} {vs : List Value} {ι' : Im} (hx : LRs F ι l vs) (hf : frees_ l = true) : LRs F ι' l vs := by
  refine ⟨hx.1, fun i x y a b => (hx.2 i x y a b).free ?_⟩
  have : ∀ {l : List SV}, frees_ l = true → ∀ x ∈ l, free_ x = true := by
    intro l
    induction l with
    | nil => intro _ x hx; simp at hx
    | cons z l ih =>
      intro h x hx
      unfold frees_ at h
      split at h
      · rename_i hz
        rcases List.mem_cons.1 hx with rfl | hx
        · exact hz
        · exact ih h x hx
      · cases h
  exact this hf x (List.mem_of_getElem? a)
theorem store_rel {E : Env} {t : TypeId} {p x : SV} {p' x' : Value} (H : HRs F ι sh h) (hp : VRs F ι p p') (hx : VRs F ι x x') (hs : store1_ E sh t p x = some sh') :
    ∃ a n h', addr_ p' = some a ∧ E.size t = some n ∧ Nat.beq x'.cells.toList.length n = true ∧ isAny x' = false ∧ storeCells_ h a x'.cells.toList = some h' ∧ HRs F ι sh' h' ∧ Stp F ι sh h F ι sh' h' := by
  unfold store1_ at hs
  simp only at hs
  split at hs
  · rename_i n hn
    cases hc : (Nat.beq x.cells.length n && ones1_ x.cells) with
    | false => rw [hc] at hs; cases hs
    | true =>
      rw [hc] at hs
      simp only [cond_true] at hs
      rw [Bool.and_eq_true] at hc
      obtain ⟨L, o1, o2⟩ := cells_rel hx hc.2
      have hlen := Nat.eq_of_beq_eq_true hc.1
      have hbl : Nat.beq x'.cells.toList.length n = true := by rw [← L.1, hlen]; simp
      split at hs
      · rename_i id k c i o
        cases hp with
        | ptr _ _ _ _ _ _ B a h1 h2 h3 h4 =>
          have key : ∀ cs t', Stands h B cs t' → o + x.cells.length ≤ k → (∀ r, r.length = k → (∃ k' n e t', sh.get id = some (.row k' n e t')) → ∃ r', lputAt r x.cells o = some r') →
              ((∃ k' n e t', sh.get id = some (.row k' n e t')) → frees_ x.cells = true) → setRow sh id k c i (fun r => lputAt r x.cells o) = some sh' →
              ∃ h', storeCells_ h ⟨a, B.o + i * k + o, none⟩ x'.cells.toList = some h' ∧ HRs F ι sh' h' ∧ Stp F ι sh h F ι sh' h' := by
            intro cs t' S hle hf hfr hset
            have hin := Bl.row_in S h3
            rw [h2] at hin
            obtain ⟨cs', hcs'⟩ := lputAt_ex (B.o + i * k + o) cs x'.cells.toList (by rw [← L.1]; omega)
            refine ⟨_, storeCells_at S h4 o1 hcs', ?_⟩
            refine setRow_rel H hset h1 h2 h3 S (ones_putAt S.one o1 hcs') (lputAt_len hcs') (fun q hq => ?_) hf (fun r r' R e => R.put L e hcs') (fun hex r r' R e => R.put (frees_rel L (hfr hex)) e hcs')
            rw [lputAt_get hcs' q, if_neg (by rw [← L.1]; omega)]
          split at hs
          · rename_i k' rows t' hget
            obtain ⟨B', cs, q1, q2, q3, q4, q5⟩ := H.ok id _ hget
            rw [h1] at q1; injection q1 with q1; subst q1
            have hle : o + x.cells.length ≤ k := by
              have hs2 := hs
              unfold setRow at hs2
              rw [hget] at hs2
              simp only at hs2
              split at hs2
              · rename_i r hr hkk
                split at hs2
                · rename_i r' hr'
                  have := (lputAt_some hr').1
                  rw [(q5 i r hr).1, ← Nat.eq_of_beq_eq_true hkk] at this
                  exact this
                · cases hs2
              · cases hs2
            obtain ⟨h', g1, g2⟩ := key cs t' q4 hle (fun r hr hex => lputAt_ex _ _ _ (by omega)) (fun hex => by obtain ⟨_, _, _, _, e⟩ := hex; rw [hget] at e; cases e) hs
            exact ⟨_, n, h', rfl, hn, hbl, o2, g1, g2⟩
          · rename_i k' m e t' hget
            cases hq : (Nat.ble (o + x.cells.length) k && frees_ x.cells) with
            | false => rw [hq] at hs; cases hs
            | true =>
              rw [hq] at hs
              simp only [cond_true] at hs
              rw [Bool.and_eq_true] at hq
              have hle : o + x.cells.length ≤ k := Nat.le_of_ble_eq_true hq.1
              rcases H.ok id _ hget with ⟨_, q⟩ | ⟨B', cs, q1, q2, q3, q4, q5⟩
              · rw [h1] at q; cases q
              · rw [h1] at q1; injection q1 with q1; subst q1
                obtain ⟨h', g1, g2⟩ := key cs t' q4 hle (fun r hr hex => lputAt_ex _ _ _ (by omega)) (fun _ => hq.2) hs
                exact ⟨_, n, h', rfl, hn, hbl, o2, g1, g2⟩
          · cases hs
      · rename_i id k c i o N j
        cases hp with
        | aptr _ _ _ _ _ _ _ _ B a h1 h2 h3 h4 h5 =>
          have key : ∀ (y : SV) (cs : List Value) (t' : TypeId), x.cells = [y] → Stands h B cs t' → o + N ≤ k → ((∃ k' n e t', sh.get id = some (.row k' n e t')) → free_ y = true) →
              setRow sh id k c i (fun r => match lcut r o N with | some l => lputAt r (poke_ l 0 j y) o | none => none) = some sh' →
              ∃ h', storeCells_ h ⟨a, B.o + i * k + o + j, none⟩ x'.cells.toList = some h' ∧ HRs F ι sh' h' ∧ Stp F ι sh h F ι sh' h' := by
            intro y cs t' hy S hle hfr hset
            rw [hy] at L
            obtain ⟨v, l', hv, hv1, hv2⟩ := L.cons_inv
            rw [hv2.nil_inv] at hv
            have hin := Bl.row_in S h3
            rw [h2] at hin
            obtain ⟨cs', hcs'⟩ := lputAt_ex (B.o + i * k + o + j) cs x'.cells.toList (by rw [hv]; simp; omega)
            have hcs2 := hcs'
            rw [hv] at hcs2
            refine ⟨_, storeCells_at S h5 o1 hcs', ?_⟩
            have hrow : ∀ {ι0 : Im}, VRs F ι0 y v → ∀ r r', RowR F ι0 cs (B.o + i * k) k r → (match lcut r o N with | some l => lputAt r (poke_ l 0 j y) o | none => none) = some r' → RowR F ι0 cs' (B.o + i * k) k r' := by
              intro ι0 hv0 r r' R e
              split at e
              · rename_i l hl
                obtain ⟨vs, q1, q2⟩ := R.cut hl (by omega)
                obtain ⟨g1, g2, g3⟩ := lcut_some q1
                have hpk := poke_rel (j := j) q2 hv0
                refine R.put hpk e ?_
                obtain ⟨r2, hr2⟩ := lputAt_ex (B.o + i * k + o) cs (vs.set j v) (by rw [List.length_set]; omega)
                rw [hr2]
                congr 1
                apply List.ext_getElem?
                intro q
                rw [lputAt_get hr2 q, lputAt_get hcs2 q]
                simp only [List.length_set, List.length_cons, List.length_nil]
                by_cases hq : B.o + i * k + o ≤ q ∧ q < B.o + i * k + o + vs.length
                · rw [if_pos hq, List.getElem?_set]
                  by_cases hj : j = q - (B.o + i * k + o)
                  · rw [if_pos hj, if_pos (by omega), if_pos (by omega)]
                    rw [show q - (B.o + i * k + o + j) = 0 by omega]; rfl
                  · rw [if_neg hj, if_neg (by omega), lcut_get q1 _ (by omega)]
                    congr 1; omega
                · rw [if_neg hq, if_neg (by omega)]
              · cases e
            refine setRow_rel H hset h1 h2 h3 S (ones_putAt S.one o1 hcs') (lputAt_len hcs') (fun q hq => ?_) (fun r hr _ => ?_) (hrow hv1) (fun hex => hrow (hv1.free (hfr hex)))
            · rw [lputAt_get hcs' q, if_neg (by rw [hv]; simp; omega)]
            · have hlc : ∃ l, lcut r o N = some l := by
                have hd : ∀ (l : List SV) (n : Nat), n ≤ l.length → ldrop n l = some (l.drop n) := by
                  intro l n
                  induction n generalizing l with
                  | zero => intro _; rfl
                  | succ n ih => intro hn; cases l with | nil => simp at hn | cons x l => simp at hn; simpa [ldrop] using ih l hn
                have ht : ∀ (l : List SV) (n : Nat), n ≤ l.length → ltake n l = some (l.take n) := by
                  intro l n
                  induction n generalizing l with
                  | zero => intro _; simp [ltake]
                  | succ n ih => intro hn; cases l with | nil => simp at hn | cons x l => simp at hn; simp [ltake, ih l hn]
                exact ⟨(r.drop o).take N, by unfold lcut; rw [hd r o (by omega)]; exact ht _ _ (by simp; omega)⟩
              obtain ⟨l, hl⟩ := hlc
              simp only [hl]
              exact lputAt_ex _ _ _ (by rw [poke_len, (lcut_some hl).2.2]; omega)
          split at hs
          · rename_i y k' rows t' hy hget
            cases hq : Nat.ble (o + N) k with
            | false => rw [hq] at hs; cases hs
            | true =>
              rw [hq] at hs
              simp only [cond_true] at hs
              obtain ⟨B', cs, q1, q2, q3, q4, q5⟩ := H.ok id _ hget
              rw [h1] at q1; injection q1 with q1; subst q1
              obtain ⟨h', g1, g2⟩ := key y cs t' hy q4 (Nat.le_of_ble_eq_true hq) (fun hex => by obtain ⟨_, _, _, _, e⟩ := hex; rw [hget] at e; cases e) hs
              exact ⟨_, n, h', rfl, hn, hbl, o2, g1, g2⟩
          · rename_i y k' m e t' hy hget
            cases hq : (Nat.ble (o + N) k && free_ y) with
            | false => rw [hq] at hs; cases hs
            | true =>
              rw [hq] at hs
              simp only [cond_true] at hs
              rw [Bool.and_eq_true] at hq
              rcases H.ok id _ hget with ⟨_, q⟩ | ⟨B', cs, q1, q2, q3, q4, q5⟩
              · rw [h1] at q; cases q
              · rw [h1] at q1; injection q1 with q1; subst q1
                obtain ⟨h', g1, g2⟩ := key y cs t' hy q4 (Nat.le_of_ble_eq_true hq.1) (fun _ => hq.2) hs
                exact ⟨_, n, h', rfl, hn, hbl, o2, g1, g2⟩
          · cases hs
      · cases hs
  · cases hs
end
end Go.Proofs.YthloojeefdjpjaaGreatDoor.Se

/- The symbolic evaluator's new blocks, beside the evaluator's; what is built of values. -/
namespace Go.Proofs.YthloojeefdjpjaaGreatDoor.Se
open Go Go.Proofs.YthloojeefdjpjaaGreatDoor
set_option linter.unusedVariables false
set_option linter.unusedSimpArgs false
set_option maxRecDepth 20000
section
variable {F : Fz} {ι : Im} {sh sh' : SH} {h : Hp}

theorem Hp.new_ok {h : Hp} {x : Blk} (hlt : h.next < 9223372036854775808) : ∃ h', h.new x = some (h.next, h') ∧ h'.next = h.next + 1 ∧ ∀ j, h'.get j = if j = h.next then some x else h.get j := by
  have : h.new x = some (h.next, (h.t.set 24 h.next x).force fun t => (⟨h.next + 1, t⟩ : Hp)) := by
    rw [Hp.new_eq]
    have : Nat.blt h.next 9223372036854775808 = true := by simpa [Nat.blt_eq] using hlt
    rw [this]
    simp only [cond_true, Tr.force_eq]
  refine ⟨_, this, ?_⟩
  obtain ⟨_, h2, _, h3⟩ := Hp.new_some this
  exact ⟨h2, h3⟩
/-- A new block whose capacity is known. -/
theorem new_exact (H : HRs F ι sh h) {sb : SB} {id : Nat} (hs : sh.new sb = some (id, sh')) {cs : List Value} {t : TypeId} (h1 : ones_ cs = true) {m k : Nat} (hmk : m * k ≤ cs.length)
    (hok : ∀ ι' : Im, ι.le ι' → ι' id = some ⟨h.next, 0, m, k, cs.length, true⟩ → (∀ h', Stands h' ⟨h.next, 0, m, k, cs.length, true⟩ cs t → SbOk F ι' h' id sb)) :
    ∃ h' ι', newRow_ h t cs true = some (⟨h.next, 0, none⟩, h') ∧ ι' id = some ⟨h.next, 0, m, k, cs.length, true⟩ ∧ HRs F ι' sh' h' ∧ Stp F ι sh h F ι' sh' h' := by
  obtain ⟨_, _, _, _, _, n6, _⟩ := SH.new_some hs
  have := H.most
  obtain ⟨h', e1, e2, e3⟩ := Hp.new_ok (h := h) (x := .cells cs t true false) (by omega)
  obtain ⟨ι', q1, q2, q3⟩ := HRs.new H hs (B := ⟨h.next, 0, m, k, cs.length, true⟩) (h' := h') (Nat.le_refl _) (by simp only; omega) (by omega) (by omega) (fun j hj => by rw [e3, if_neg (by omega)])
    (fun ι' hle hi => hok ι' hle hi h' ⟨by simp only; rw [e3, if_pos rfl], rfl, h1, by simp only; omega, (fun e => by cases e), by simp only; omega, (fun e => by cases e)⟩)
  exact ⟨h', ι', by unfold newRow_; rw [e1], q1, q2, q3⟩
/-- A new block whose capacity append draws. -/
theorem new_loose (H : HRs F ι sh h) {sb : SB} {id : Nat} (hs : sh.new sb = some (id, sh')) {cs : List Value} {t : TypeId} (h1 : ones_ cs = true) {m k n c : Nat} (hmk : m * k ≤ cs.length)
    (hok : ∀ ι' : Im, ι.le ι' → ι' id = some ⟨h.next, 0, m, k, cs.length, false⟩ → (∀ h', Stands h' ⟨h.next, 0, m, k, cs.length, false⟩ cs t → SbOk F ι' h' id sb)) :
    ∃ h1 h' ι', newRow_ h t cs false = some (⟨h.next, 0, none⟩, h1) ∧ sight_ (.slice (some ⟨h.next, 0, none⟩) n c) h1 = some (.slice (some ⟨h.next, 0, none⟩) n c, h') ∧ ι' id = some ⟨h.next, 0, m, k, cs.length, false⟩ ∧ HRs F ι' sh' h' ∧ Stp F ι sh h F ι' sh' h' := by
  obtain ⟨_, _, _, _, _, n6, _⟩ := SH.new_some hs
  have := H.most
  obtain ⟨ha, e1, e2, e3⟩ := Hp.new_ok (h := h) (x := .cells cs t false false) (by omega)
  obtain ⟨h', f1, f2, f3⟩ := Hp.new_ok (h := ha) (x := .view h.next) (by omega)
  obtain ⟨ι', q1, q2, q3⟩ := HRs.new H hs (B := ⟨h.next, 0, m, k, cs.length, false⟩) (h' := h') (Nat.le_refl _) (by simp only; omega) (by omega) (by omega) (fun j hj => by rw [f3, if_neg (by omega), e3, if_neg (by omega)])
    (fun ι' hle hi => hok ι' hle hi h' ⟨by simp only; rw [f3, if_neg (by omega), e3, if_pos rfl], rfl, h1, by simp only; omega, fun _ => by simp only; rw [f3, if_pos (by omega)], by simp only; omega, fun _ => by simp only; omega⟩)
  refine ⟨ha, h', ι', by unfold newRow_; rw [e1], ?_, q1, q2, q3⟩
  unfold sight_
  have hx : isExact ha h.next = some false := by unfold isExact; rw [e3, if_pos rfl]
  have hb : Nat.beq (h.next + 1) ha.next = true := by rw [e2]; simp
  simp only [hx, hb, f1]
/-- A block of which nothing is said any more. -/
theorem HRs.gone (H : HRs F ι sh h) {id : Nat} (hl : Live sh id) : HRs F ι (sh.put id .gone) h ∧ Stp F ι sh h F ι (sh.put id .gone) h := by
  have hid : id < sh.next := by obtain ⟨s, q, _⟩ := hl; exact H.get_lt q
  have h8 : id < 9223372036854775808 := by have := H.smost; omega
  have hsg : ∀ j, (sh.put id .gone).get j = if j = id then some .gone else sh.get j := fun j => SH.get_put h8
  have live : ∀ j, Live (sh.put id .gone) j → Live sh j := by
    rintro j ⟨s, hs1, hs2⟩
    rw [hsg] at hs1
    split at hs1
    · injection hs1 with e; exact absurd e.symm hs2
    · exact ⟨s, hs1, hs2⟩
  refine ⟨⟨by rw [SH.put_room]; exact H.most, by rw [SH.put_next]; exact H.smost, fun j hj => ?_, fun j s hj => ?_, fun j j' C C' hne l1 l2 e1 e2 => H.apart j j' C C' hne (live j l1) (live j' l2) e1 e2, fun b cs t e => by rw [SH.put_clk]; exact H.frz b cs t e, fun b y j C e l e2 => H.fap b y j C e (live j l) e2⟩,
    ⟨fun _ _ => rfl, Fz.le.refl _, fun _ _ _ e => .inl e, by rw [SH.put_next]; exact Nat.le_refl _, by rw [SH.put_clk]; exact Nat.le_refl _, Nat.le_refl _, by rw [SH.put_room]; exact Nat.le_refl _, [id], by rw [SH.put_log]; rfl, fun j hj hno => ?_, fun j hj hlt => ?_, fun b hb hno => rfl, fun j C hj e => ?_⟩⟩
  · rw [SH.put_next] at hj
    rw [hsg, if_neg (by omega)]
    exact H.sdom j hj
  · rw [hsg] at hj
    split at hj
    · injection hj with hj; subst hj; trivial
    · exact H.ok j s hj
  · rw [hsg, if_neg (by simpa using hno)]
  · simp at hj; subst hj; exact hl
  · rw [(H.sdom j hj).2] at e; cases e
/-- A block goes on under another name, its cells changed, or not. -/
theorem HRs.moved (H : HRs F ι sh h) {id id' : Nat} {B B' : Bl} {sb : SB} (hl : Live sh id) (hi : ι id = some B) (hlt : B.b < h.next) (hnv : ∀ v, h.get B.b ≠ some (.view v)) (hs : (sh.put id .gone).new sb = some (id', sh')) (hb : B'.b = B.b) {h' : Hp} (hn' : h'.next = h.next) (hg : ∀ j, j ≠ B.b → h'.get j = h.get j)
    (hok : ∀ ι' : Im, ι.le ι' → ι' id' = some B' → SbOk F ι' h' id' sb) : ∃ ι', ι' id' = some B' ∧ HRs F ι' sh' h' ∧ Stp F ι sh h F ι' sh' h' := by
  have hid : id < sh.next := H.id_lt hi
  have h8 : id < 9223372036854775808 := by have := H.smost; omega
  have hb8 : B.b < 9223372036854775808 := by have := H.most; omega
  obtain ⟨e0, n1, n2, n3, n4, n6, n5⟩ := SH.new_some hs
  rw [SH.put_next] at e0 n1
  rw [SH.put_clk] at n2
  rw [SH.put_log] at n3
  rw [SH.put_room] at n6
  subst e0
  have hsg : ∀ j, sh'.get j = if j = sh.next then some sb else if j = id then some .gone else sh.get j := fun j => by
    rw [n5, SH.put_next, SH.get_put h8]
  let ι' : Im := fun j => if j = sh.next then some B' else ι j
  have hi' : ι' sh.next = some B' := if_pos rfl
  have hle : ι.le ι' := fun j C e => by
    have : j < sh.next := H.id_lt e
    show (if j = sh.next then _ else _) = _
    rw [if_neg (by omega)]; exact e
  have hold : ∀ j, j ≠ sh.next → ι' j = ι j := fun j hj => if_neg hj
  have live : ∀ j, j ≠ sh.next → Live sh' j → Live sh j ∧ j ≠ id := by
    rintro j hj ⟨s, hs1, hs2⟩
    rw [hsg, if_neg hj] at hs1
    split at hs1
    · injection hs1 with e; exact absurd e.symm hs2
    · rename_i hne; exact ⟨⟨s, hs1, hs2⟩, hne⟩
  have hmost := H.most
  refine ⟨ι', hi', ⟨by rw [hn']; omega, by rw [n1]; have := SH.put_next (h := sh) (id := id) (b := .gone); omega, fun j hj => ?_, fun j s hj => ?_, fun j j' C C' hne l1 l2 e1 e2 => ?_, fun b cs t e => ?_, fun b y j C e l e2 => ?_⟩,
    ⟨fun j hj => hold j (by omega), Fz.le.refl _, fun _ _ _ e => .inl e, by rw [n1]; omega, by rw [n2]; exact Nat.le_refl _, by rw [hn']; exact Nat.le_refl _, by rw [hn']; omega, [id], by rw [n3]; rfl, fun j hj hno => ?_, fun j hj hlt => ?_, fun b hbb hno => ?_, fun j C hj e => ?_⟩⟩
  · rw [n1] at hj
    rw [hsg, if_neg (by omega), if_neg (by omega), hold j (by omega)]
    exact H.sdom j (by omega)
  · rw [hsg] at hj
    split at hj
    · rename_i e; subst e; injection hj with hj; subst hj; exact hok ι' hle hi'
    · rename_i hne
      split at hj
      · injection hj with hj; subst hj; trivial
      · rename_i hne2
        by_cases hg' : s = .gone
        · subst hg'; trivial
        refine (H.ok j s hj).keep (Fz.le.refl _) hle (hold j hne) (by rw [hn']; exact Nat.le_refl _) fun C hC => ?_
        have hne3 : C.b ≠ B.b := H.apart j id C B hne2 ⟨s, hj, hg'⟩ hl hC hi
        refine ⟨hg _ hne3, fun _ _ hv => hg _ fun e => ?_⟩
        rw [e] at hv
        exact hnv _ hv
  · by_cases q1 : j = sh.next
    · have q2 : j' ≠ sh.next := fun e => hne (by rw [q1, e])
      rw [q1, hi'] at e1
      injection e1 with e1; subst e1
      rw [hold j' q2] at e2
      obtain ⟨r1, r2⟩ := live j' q2 l2
      rw [hb]
      exact H.apart id j' B C' (fun e => r2 e.symm) hl r1 hi e2
    · rw [hold j q1] at e1
      obtain ⟨r1, r2⟩ := live j q1 l1
      by_cases q2 : j' = sh.next
      · rw [q2, hi'] at e2
        injection e2 with e2; subst e2
        rw [hb]
        exact H.apart j id C B r2 r1 hl e1 hi
      · rw [hold j' q2] at e2
        exact H.apart j j' C C' hne r1 (live j' q2 l2).1 e1 e2
  · obtain ⟨f1, f2, f4, e', x', ro, f3⟩ := H.frz b cs t e
    rw [n2, hn']
    refine ⟨f1, f2, f4, e', x', ro, ?_⟩
    rw [hg b (fun e2 => H.fap b _ id B e hl hi e2.symm)]
    exact f3
  · by_cases q : j = sh.next
    · rw [q, hi'] at e2
      injection e2 with e2; subst e2
      rw [hb]
      exact H.fap b y id B e hl hi
    · rw [hold j q] at e2
      exact H.fap b y j C e (live j q l).1 e2
  · rw [hsg, if_neg (by omega), if_neg (by simpa using hno)]
  · simp at hj; subst hj; exact hl
  · refine hg b fun e => ?_
    exact hno id B (by simp) hid hi e.symm
  · by_cases q : j = sh.next
    · rw [q, hi'] at e
      injection e with e; subst e
      exact .inr ⟨id, B, by simp, hid, hi, hb.symm⟩
    · rw [hold j q, (H.sdom j hj).2] at e; cases e

/-! ### What is built -/
theorem zero_rel {E : Env} {t : TypeId} {z : List SV} (hz : zero1_ E t = some z) : ∃ v, E.zero t = some v ∧ LRs F ι z v.cells.toList ∧ ones_ v.cells.toList = true ∧ frees_ z = true := by
  unfold zero1_ at hz
  split at hz
  · rename_i v hv
    have hf : ∀ {l : List Value} {z : List SV}, ofVs l = some z → ones_ l = true ∧ frees_ z = true := by
      intro l
      induction l with
      | nil => intro z h; injection h with h; subst h; exact ⟨rfl, rfl⟩
      | cons x l ih =>
        intro z h
        unfold ofVs at h
        split at h
        · rename_i s r hs hr
          injection h with h; subst h
          obtain ⟨i1, i2⟩ := ih hr
          have h1 : one_ x = true ∧ free_ s = true := by
            unfold ofV at hs
            split at hs <;> first | cases hs | skip
            all_goals first | (injection hs with hs; subst hs; exact ⟨rfl, rfl⟩) | exact ⟨rfl, rfl⟩
          exact ⟨by unfold ones_; rw [h1.1]; exact i1, by unfold frees_; rw [h1.2]; exact i2⟩
        · cases h
    obtain ⟨i1, i2⟩ := hf hz
    exact ⟨v, hv, ofVs_rel hz, i1, i2⟩
  · cases hz
theorem put_rel {l r xs : List SV} {cs vs : List Value} {o : Nat} (h : LRs F ι l cs) (hx : LRs F ι xs vs) (hp : lputAt l xs o = some r) : ∃ cs', lputAt cs vs o = some cs' ∧ LRs F ι r cs' := by
  have h1 := (lputAt_some hp).1
  obtain ⟨cs', hc⟩ := lputAt_ex o cs vs (by rw [← h.1, ← hx.1]; exact h1)
  refine ⟨cs', hc, by rw [lputAt_len hp, lputAt_len hc, h.1], fun i x y hxi hyi => ?_⟩
  rw [lputAt_get hp i] at hxi
  rw [lputAt_get hc i] at hyi
  by_cases hj : o ≤ i ∧ i < o + xs.length
  · rw [if_pos hj] at hxi
    rw [if_pos (by rw [← hx.1]; exact hj)] at hyi
    exact hx.2 _ x y hxi hyi
  · rw [if_neg hj] at hxi
    rw [if_neg (by rw [← hx.1]; exact hj)] at hyi
    exact h.2 _ x y hxi hyi
theorem fill_rel {place : Nat → Option (Nat × Nat)} : ∀ {l : List (Nat × SV)} {l' : List (Nat × Value)} {cells r : List SV} {cs : List Value}, l.length = l'.length → (∀ (i : Nat) (p : Nat × SV) (q : Nat × Value), l[i]? = some p → l'[i]? = some q → p.1 = q.1 ∧ VRs F ι p.2 q.2) →
    LRs F ι cells cs → ones_ cs = true → fill1_ place cells l = some r → ∃ cs', fill_ place cs l' = some cs' ∧ LRs F ι r cs' ∧ ones_ cs' = true
  | [], l', cells, r, cs, hl, hr, hc, h1, h => by
    have : l' = [] := List.eq_nil_of_length_eq_zero hl.symm
    subst this
    injection h with h; subst h
    exact ⟨cs, rfl, hc, h1⟩
  | (i, v) :: l, [], cells, r, cs, hl, hr, hc, h1, h => by simp at hl
  | (i, v) :: l, (i', v') :: l', cells, r, cs, hl, hr, hc, h1, h => by
    obtain ⟨e1, hv⟩ := hr 0 _ _ rfl rfl
    simp only at e1 hv
    subst e1
    unfold fill1_ at h
    unfold fill_
    split at h
    · cases h
    · rename_i off size hp
      rw [hp]
      cases hb : (Nat.beq v.cells.length size && ones1_ v.cells) with
      | false => rw [hb] at h; cases h
      | true =>
        rw [hb] at h
        simp only [cond_true] at h
        rw [Bool.and_eq_true] at hb
        obtain ⟨L, o1, o2⟩ := cells_rel hv hb.2
        have hb2 : (Nat.beq v'.cells.toList.length size && !isAny v') = true := by rw [← L.1, hb.1, o2]; rfl
        simp only [hb2, cond_true]
        split at h
        · rename_i cells' hc'
          obtain ⟨cs', q1, q2⟩ := put_rel hc L hc'
          simp only [q1]
          exact fill_rel (by simpa using hl) (fun j p q a b => hr (j + 1) p q a b) q2 (ones_putAt h1 o1 q1) h
        · cases h
theorem parts_rel {ρs : Operand → SV} {ρ : Operand → Value} (hρ : ∀ x, VRs F ι (ρs x) (ρ x)) (l : List (Nat × Operand)) :
    (l.map fun p => (p.1, ρs p.2)).length = (l.map fun p => (p.1, ρ p.2)).length ∧ ∀ (i : Nat) (p : Nat × SV) (q : Nat × Value), (l.map fun p => (p.1, ρs p.2))[i]? = some p → (l.map fun p => (p.1, ρ p.2))[i]? = some q → p.1 = q.1 ∧ VRs F ι p.2 q.2 := by
  refine ⟨by simp, fun i p q hp hq => ?_⟩
  rw [List.getElem?_map] at hp hq
  cases hl : l[i]? with
  | none => rw [hl] at hp; cases hp
  | some z =>
    rw [hl] at hp hq
    simp at hp hq
    subst hp; subst hq
    exact ⟨rfl, hρ _⟩
theorem build_rel {E : Env} {t : TypeId} {l : List (Nat × SV)} {l' : List (Nat × Value)} {v : SV} (hl : l.length = l'.length) (hr : ∀ (i : Nat) (p : Nat × SV) (q : Nat × Value), l[i]? = some p → l'[i]? = some q → p.1 = q.1 ∧ VRs F ι p.2 q.2) (hb : build1_ E t l = some v) : ∃ v', build_ E t l' = some v' ∧ VRs F ι v v' := by
  unfold build1_ at hb
  split at hb
  · rename_i z fields hz hu
    obtain ⟨zv, hzv, Z, o1, _⟩ := zero_rel (F := F) (ι := ι) hz
    unfold build_
    rw [hzv, hu]
    split at hb
    · rename_i pl hpl
      simp only [hpl]
      split at hb
      · rename_i c hc
        injection hb with hb; subst hb
        obtain ⟨cs', q1, q2, _⟩ := fill_rel hl hr Z o1 hc
        simp only [q1]
        exact ⟨_, rfl, .agg_of q2⟩
      · cases hb
    · cases hb
  · rename_i z n e hz hu
    obtain ⟨zv, hzv, Z, o1, _⟩ := zero_rel (F := F) (ι := ι) hz
    unfold build_
    rw [hzv, hu]
    split at hb
    · rename_i s hs
      simp only [hs]
      split at hb
      · rename_i c hc
        injection hb with hb; subst hb
        obtain ⟨cs', q1, q2, _⟩ := fill_rel hl hr Z o1 hc
        simp only [q1]
        exact ⟨_, rfl, .agg_of q2⟩
      · cases hb
    · cases hb
  · cases hb
theorem rep_rel {z : List SV} {v : List Value} (h : LRs F ι z v) : ∀ n, LRs F ι (rep_ z n) (rep_ v n)
  | 0 => .nil ..
  | n + 1 => by unfold rep_; exact h.append (rep_rel h n)
theorem rep_len {α : Type} (z : List α) : ∀ n, (rep_ z n).length = n * z.length
  | 0 => by simp [rep_]
  | n + 1 => by simp [rep_, rep_len z n, Nat.add_mul]; omega
theorem rep_ones {v : List Value} (h : ones_ v = true) : ∀ n, ones_ (rep_ v n) = true
  | 0 => rfl
  | n + 1 => by unfold rep_; exact ones_append h (rep_ones h n)
/-- rows cut off a list of cells -/
theorem rows_rel {k : Nat} : ∀ {n : Nat} {l : List SV} {cs : List Value}, LRs F ι l cs → l.length = n * k → (rows_ k n l).length = n ∧ ∀ i r, (rows_ k n l)[i]? = some r → RowR F ι cs (i * k) k r
  | 0, l, cs, h, hl => ⟨rfl, fun i r hr => by simp [rows_] at hr⟩
  | n + 1, l, cs, h, hl => by
    rw [Nat.add_mul] at hl
    have hd : ∀ {α : Type} (l : List α) (n : Nat), n ≤ l.length → ldrop n l = some (l.drop n) := by
      intro α l n
      induction n generalizing l with
      | zero => intro _; rfl
      | succ n ih => intro hn; cases l with | nil => simp at hn | cons x l => simp at hn; simpa [ldrop] using ih l hn
    have ht : ∀ {α : Type} (l : List α) (n : Nat), n ≤ l.length → ltake n l = some (l.take n) := by
      intro α l n
      induction n generalizing l with
      | zero => intro _; simp [ltake]
      | succ n ih => intro hn; cases l with | nil => simp at hn | cons x l => simp at hn; simp [ltake, ih l hn]
    have hk : k ≤ l.length := by omega
    unfold rows_
    rw [ht l k hk, hd l k hk]
    simp only
    obtain ⟨i1, i2⟩ := rows_rel (k := k) (n := n) (h.drop k) (by simp; omega)
    refine ⟨by simp [i1], fun i r hr => ?_⟩
    cases i with
    | zero =>
      simp at hr; subst hr
      refine ⟨by simp; omega, fun j x y hx hy => ?_⟩
      rw [List.getElem?_take] at hx
      split at hx
      · exact h.2 j x y hx (by simpa using hy)
      · cases hx
    | succ i =>
      simp at hr
      have := i2 i r hr
      refine ⟨this.1, fun j x y hx hy => this.2 j x y hx ?_⟩
      rw [List.getElem?_drop]
      rw [show k + (i * k + j) = (i + 1) * k + j by rw [Nat.add_mul]; omega]
      exact hy
end
end Go.Proofs.YthloojeefdjpjaaGreatDoor.Se

/- Rows that the symbolic evaluator reads, beside the evaluator's cells; new blocks. -/
namespace Go.Proofs.YthloojeefdjpjaaGreatDoor.Se
open Go Go.Proofs.YthloojeefdjpjaaGreatDoor
set_option linter.unusedVariables false
set_option maxRecDepth 20000
set_option linter.unusedSimpArgs false
section
variable {F : Fz} {ι : Im} {sh sh' : SH} {h : Hp}

theorem ldrop_ok {α : Type} : ∀ (n : Nat) (l : List α), n ≤ l.length → ldrop n l = some (l.drop n)
  | 0, l, _ => rfl
  | n + 1, [], h => by simp at h
  | n + 1, x :: l, h => by simpa [ldrop] using ldrop_ok n l (by simpa using h)
theorem ltake_ok {α : Type} : ∀ (n : Nat) (l : List α), n ≤ l.length → ltake n l = some (l.take n)
  | 0, l, _ => by simp [ltake]
  | n + 1, [], h => by simp at h
  | n + 1, x :: l, h => by simp [ltake, ltake_ok n l (by simpa using h)]
theorem lcut_ok {α : Type} {l : List α} {o n : Nat} (h : o + n ≤ l.length) : lcut l o n = some ((l.drop o).take n) := by
  unfold lcut
  rw [ldrop_ok o l (by omega)]
  exact ltake_ok _ _ (by simp; omega)
theorem RowR.shift {cs : List Value} {off i k n : Nat} {r : List SV} (R : RowR F ι cs (off + i * k) k r) (hi : i < n) : RowR F ι ((cs.drop off).take (n * k)) (i * k) k r := by
  refine ⟨R.1, fun j x y hx hy => R.2 j x y hx ?_⟩
  have hj : j < k := by have := (List.getElem?_eq_some_iff.1 hx).1; rw [R.1] at this; exact this
  rw [List.getElem?_take] at hy
  split at hy
  · rw [List.getElem?_drop] at hy; rw [Nat.add_assoc]; exact hy
  · cases hy
theorem nth_rel {cs : List Value} {k : Nat} : ∀ {l : List (List SV)} {p i : Nat}, (∀ j r, l[j]? = some r → RowR F ι cs (p + j * k) k r) → i < l.length → RowR F ι cs (p + i * k) k (nthRow k l i)
  | [], p, i, h, hi => by simp at hi
  | [r], p, i, h, hi => by
    have : i = 0 := by simpa using hi
    subst this
    exact h 0 r rfl
  | r :: r2 :: l, p, i, h, hi => by
    unfold nthRow
    refine RowR.mux (fun e => ?_) (fun e => ?_)
    · obtain rfl := Nat.eq_of_beq_eq_true e
      exact h 0 r rfl
    · cases i with
      | zero => cases e
      | succ i =>
        have := nth_rel (l := r2 :: l) (p := p + k) (i := i) (fun j r' hj => by
          have := h (j + 1) r' (by simpa using hj)
          rw [Nat.add_mul] at this
          rw [show p + k + j * k = p + (j * k + 1 * k) by omega]; exact this) (by simpa using hi)
        rw [Nat.add_mul, show p + (i * k + 1 * k) = p + k + i * k by omega]
        exact this
theorem ahead_rel {cs : List Value} {k : Nat} {e : Nat → List SV} : ∀ {l : List (List SV)} {p i : Nat}, (∀ j r, l[j]? = some r → RowR F ι cs (p + j * k) k r) → (l.length ≤ i → RowR F ι cs (p + i * k) k (e (i - l.length))) → RowR F ι cs (p + i * k) k (ahead k l e i)
  | [], p, i, h, he => by unfold ahead; exact he (Nat.zero_le _)
  | r :: l, p, i, h, he => by
    unfold ahead
    refine RowR.mux (fun e' => ?_) (fun e' => ?_)
    · obtain rfl := Nat.eq_of_beq_eq_true e'
      exact h 0 r rfl
    · cases i with
      | zero => cases e'
      | succ i =>
        have := ahead_rel (l := l) (p := p + k) (i := i) (fun j r' hj => by
          have := h (j + 1) r' (by simpa using hj)
          rw [Nat.add_mul] at this
          rw [show p + k + j * k = p + (j * k + 1 * k) by omega]; exact this) (fun hl => by
          have := he (by simp; omega)
          rw [Nat.add_mul, show p + (i * k + 1 * k) = p + k + i * k by omega] at this
          simpa using this)
        rw [Nat.add_mul, show p + (i * k + 1 * k) = p + k + i * k by omega]
        exact this
theorem byteLit_len : ∀ (s : List UInt8), (byteLit s).length = s.length
  | [] => rfl
  | b :: s => by simp [byteLit, byteLit_len s]
theorem byteLit_at : ∀ (s : List UInt8) (i : Nat), (byteLit s)[i]? = (s[i]?).map fun b => [SV.int .u8 true (.ofNat b.toNat)]
  | [], i => by simp [byteLit]
  | b :: s, 0 => by simp [byteLit]
  | b :: s, i + 1 => by simpa [byteLit] using byteLit_at s i
def byteCells (s : List UInt8) : List Value := s.map fun b => .int .u8 (.ofNat b.toNat)
theorem byteCells_ones (s : List UInt8) : ones_ (byteCells s) = true := ones_mem.2 fun v hv => by
  obtain ⟨b, _, rfl⟩ := List.mem_map.1 hv; rfl
theorem byteRow_rel (s : List UInt8) {i : Nat} (hi : i < s.length) : RowR F ι (byteCells s) (i * 1) 1 (byteRow s i) := by
  refine ⟨rfl, fun j x y hx hy => ?_⟩
  cases j with
  | zero =>
    simp [byteRow] at hx
    subst hx
    simp [byteCells, hi] at hy
    subst hy
    have : s[i]?.getD 0 = s[i] := by simp [hi]
    rw [this]
    exact .int ..
  | succ j => simp [byteRow] at hx
theorem byteLitRow_rel (s : List UInt8) {i : Nat} {r : List SV} (hr : (byteLit s)[i]? = some r) : RowR F ι (byteCells s) (i * 1) 1 r := by
  rw [byteLit_at] at hr
  cases hs : s[i]? with
  | none => rw [hs] at hr; cases hr
  | some b =>
    rw [hs] at hr
    simp at hr; subst hr
    refine ⟨rfl, fun j x y hx hy => ?_⟩
    cases j with
    | zero =>
      simp at hx; subst hx
      simp [byteCells, hs] at hy
      subst hy
      exact .int ..
    | succ j => simp at hx

structure SrcOk (F : Fz) (ι : Im) (q : Src) (k : Nat) (cs : List Value) : Prop where
  len : cs.length = q.n * k
  one : ones_ cs = true
  rows : ∀ i, i < q.n → RowR F ι cs (i * k) k (q.e i)
  free : q.fr = true → ∀ i, i < q.n → RowR F Im0 cs (i * k) k (q.e i)
  lit : ∀ l, q.l = some l → q.c = true ∧ l.length = q.n ∧ (∀ i r, l[i]? = some r → RowR F ι cs (i * k) k r) ∧ (q.fr = true → ∀ i r, l[i]? = some r → RowR F Im0 cs (i * k) k r)
theorem take_min {α : Type} (l : List α) (n m k : Nat) : (l.take (n * k)).take (Nat.min n m * k) = l.take (Nat.min n m * k) := by
  rw [List.take_take]
  have : Nat.min n m * k ≤ n * k := Nat.mul_le_mul_right _ (Nat.min_le_left ..)
  rw [Nat.min_eq_left this]
theorem free_lrs {l : List SV} {vs : List Value} (h : LRs F ι l vs) (hf : frees_ l = true) : LRs F Im0 l vs := frees_rel h hf
theorem RowR.free {cs : List Value} {p k : Nat} {r : List SV} (h : RowR F ι cs p k r) (hf : frees_ r = true) (hl : p + k ≤ cs.length) : RowR F Im0 cs p k r := by
  have := free_lrs (h.lrs hl) hf
  refine RowR.of_lrs this h.1 fun j hj => ?_
  rw [List.getElem?_take, if_pos hj, List.getElem?_drop]
theorem src_rel {k : Nat} {x : SV} {x' : Value} {q : Src} (H : HRs F ι sh h) (hx : VRs F ι x x') (hs : src_ sh k x = some q) :
    ∃ cs, SrcOk F ι q k cs ∧ (∀ most, news_ h k most x' = some (Nat.min q.n most, cs.take (Nat.min q.n most * k))) ∧ lenV_ x' = q.n := by
  have hz : ∀ m k, Nat.min 0 m * k = 0 := fun m k => by simp
  have empty : ∀ {q : Src}, q.n = 0 → (∀ l, q.l = some l → q.c = true ∧ l.length = 0) → SrcOk F ι q k [] := fun h0 hl =>
    ⟨by rw [h0]; simp, rfl, fun i hi => by omega, fun _ i hi => by omega, fun l e => ⟨(hl l e).1, by rw [h0]; exact (hl l e).2, fun i r hr => by rw [List.eq_nil_of_length_eq_zero (hl l e).2] at hr; simp at hr, fun _ i r hr => by rw [List.eq_nil_of_length_eq_zero (hl l e).2] at hr; simp at hr⟩⟩
  unfold src_ at hs
  split at hs
  · injection hs with hs; subst hs
    obtain ⟨rfl, _⟩ := hx.raw_inv
    exact ⟨[], empty rfl (fun l e => by injection e with e; subst e; exact ⟨rfl, rfl⟩), fun most => by simp [news_], rfl⟩
  · rename_i id k' c s n z
    -- rows of a block
    have main : Nat.beq k' k = true → (∀ B cs t, ι id = some B → Stands h B cs t → B.k = k → s + n ≤ B.m → 0 < n → q.n = n ∧ (∀ off, off = B.o + s * k → SrcOk F ι q k ((cs.drop off).take (n * k)))) → (n = 0 → q.n = 0 ∧ (∀ l, q.l = some l → q.c = true ∧ l.length = 0)) →
        ((∃ sb, sh.get id = some sb ∧ ∀ es c, sb ≠ .mp es c ∧ sb ≠ .gone)) →
        ∃ cs, SrcOk F ι q k cs ∧ (∀ most, news_ h k most x' = some (Nat.min q.n most, cs.take (Nat.min q.n most * k))) ∧ lenV_ x' = q.n := by
      intro hkk hm h0 hex
      obtain rfl := Nat.eq_of_beq_eq_true hkk
      cases hx with
      | nsl _ _ _ _ _ _ _ B off cap h1 h2 h3 h4 h5 h6 h7 =>
        obtain ⟨sb, hsb, hne⟩ := hex
        have hst : ∃ cs t, Stands h B cs t := by
          have := H.ok id sb hsb
          cases sb with
          | lst => obtain ⟨B', cs, q1, _, _, q4, _⟩ := this; rw [h1] at q1; injection q1 with q1; subst q1; exact ⟨_, _, q4⟩
          | row =>
            rcases this with ⟨_, q⟩ | ⟨B', cs, q1, _, _, q4, _⟩
            · rw [h1] at q; cases q
            · rw [h1] at q1; injection q1 with q1; subst q1; exact ⟨_, _, q4⟩
          | mp es c => exact absurd rfl (hne es c).1
          | gone => exact absurd rfl (hne [] 0).2
        obtain ⟨cs, t, S⟩ := hst
        have hoff : off + n * k' ≤ cs.length := by
          have : n * k' ≤ cap * k' := Nat.mul_le_mul_right _ h4
          rw [S.len]; omega
        have hload : ∀ m, m ≤ n → loadCells_ h ⟨B.b, off, none⟩ (m * k') = some ((cs.drop off).take (m * k')) := fun m hm' => by
          rw [loadCells_at S (.inl rfl)]
          have : m * k' ≤ n * k' := Nat.mul_le_mul_right _ hm'
          exact lcut_ok (by omega)
        by_cases hn : n = 0
        · obtain ⟨e1, e2⟩ := h0 hn
          refine ⟨[], empty e1 e2, fun most => ?_, by rw [e1, ← hn]; rfl⟩
          unfold news_
          simp only [hload (Nat.min n most) (Nat.min_le_left ..)]
          rw [e1, hn]; simp
        · obtain ⟨e1, e2⟩ := hm B cs t h1 S h2 h3 (by omega)
          have ho : off = B.o + s * k' := by rcases h5 with h5 | h5; exact absurd h5 hn; exact h5
          refine ⟨_, e2 off ho, fun most => ?_, by rw [e1]; rfl⟩
          unfold news_
          simp only [hload (Nat.min n most) (Nat.min_le_left ..)]
          rw [e1, take_min]
      | nslN _ _ _ _ _ _ _ =>
        obtain ⟨e1, e2⟩ := h0 rfl
        exact ⟨[], empty e1 e2, fun most => by rw [e1]; simp [news_], by rw [e1]; rfl⟩
      | nslE _ _ _ _ _ _ _ =>
        obtain ⟨e1, e2⟩ := h0 rfl
        exact ⟨[], empty e1 e2, fun most => by rw [e1]; simp [news_], by rw [e1]; rfl⟩
    split at hs
    · rename_i k2 rows t hkk hget
      split at hs
      · split at hs
        · rename_i l hl
          injection hs with hs; subst hs
          obtain ⟨g1, g2, g3⟩ := lcut_some hl
          refine main hkk (fun B cs t' h1 S h2 h3 hn => ⟨rfl, fun off ho => ?_⟩) (fun hn => ⟨hn, fun l' e => by injection e with e; subst e; exact ⟨rfl, by rw [g3]; exact hn⟩⟩) ⟨_, hget, fun es c => ⟨(by intro e; cases e), by intro e; cases e⟩⟩
          obtain ⟨B', cs2, q1, q2, q3, q4, q5⟩ := H.ok id _ hget
          rw [h1] at q1; injection q1 with q1; subst q1
          have hcs := S.got; rw [q4.got] at hcs; injection hcs with hcs; injection hcs with c1 c2; subst c1
          have hlen : off + n * k ≤ cs2.length := by
            have : (s + n) * B.k ≤ B.m * B.k := Nat.mul_le_mul_right _ h3
            rw [Nat.add_mul] at this
            have := S.fit
            rw [S.len, ho, ← h2]; omega
          have hrows : ∀ i r, l[i]? = some r → RowR F ι ((cs2.drop off).take (n * k)) (i * k) k r := fun i r hr => by
            have hi : i < n := by have := (List.getElem?_eq_some_iff.1 hr).1; omega
            rw [lcut_get hl i hi] at hr
            have := q5 (s + i) r hr
            rw [← q2, h2] at this
            refine RowR.shift (n := n) ?_ hi
            rw [ho, show B.o + s * k + i * k = B.o + (s + i) * k by rw [Nat.add_mul]; omega]
            exact this
          have hrows0 : l.all frees_ = true → ∀ i r, l[i]? = some r → RowR F Im0 ((cs2.drop off).take (n * k)) (i * k) k r := fun hf i r hr => by
            have hi : i < n := by have := (List.getElem?_eq_some_iff.1 hr).1; omega
            refine (hrows i r hr).free (List.all_eq_true.1 hf r (List.mem_of_getElem? hr)) ?_
            simp
            have : (i + 1) * k ≤ n * k := Nat.mul_le_mul_right _ hi
            rw [Nat.add_mul] at this; omega
          refine ⟨by simp; omega, ones_sub S.one fun v hv => List.mem_of_mem_drop (List.mem_of_mem_take hv), fun i hi => ?_, fun hf i hi => ?_, fun l' e => by injection e with e; subst e; exact ⟨rfl, g3, hrows, hrows0⟩⟩
          · have := nth_rel (p := 0) (i := i) (cs := (cs2.drop off).take (n * k)) (k := k) (l := l) (fun j r hj => by rw [Nat.zero_add]; exact hrows j r hj) (by rw [g3]; exact hi)
            rw [Nat.zero_add] at this; exact this
          · have := nth_rel (F := F) (ι := Im0) (p := 0) (i := i) (cs := (cs2.drop off).take (n * k)) (k := k) (l := l) (fun j r hj => by rw [Nat.zero_add]; exact hrows0 hf j r hj) (by rw [g3]; exact hi)
            rw [Nat.zero_add] at this; exact this
        · cases hs
      · cases hs
    · rename_i k2 n2 e t hkk hget
      injection hs with hs; subst hs
      refine main hkk (fun B cs t' h1 S h2 h3 hn => ⟨rfl, fun off ho => ?_⟩) (fun hn => ⟨hn, fun l' e => by cases e⟩) ⟨_, hget, fun es c => ⟨(by intro e; cases e), by intro e; cases e⟩⟩
      rcases H.ok id _ hget with ⟨_, q⟩ | ⟨B', cs2, q1, q2, q3, q4, q5⟩
      · rw [h1] at q; cases q
      rw [h1] at q1; injection q1 with q1; subst q1
      have hcs := S.got; rw [q4.got] at hcs; injection hcs with hcs; injection hcs with c1 c2; subst c1
      have hlen : off + n * k ≤ cs2.length := by
        have : (s + n) * B.k ≤ B.m * B.k := Nat.mul_le_mul_right _ h3
        rw [Nat.add_mul] at this
        have := S.fit
        rw [S.len, ho, ← h2]; omega
      have hrows : ∀ i, i < n → RowR F Im0 ((cs2.drop off).take (n * k)) (i * k) k (e (s + i)) := fun i hi => by
        have := q5 (s + i) (by omega)
        rw [← q2, h2] at this
        refine RowR.shift (n := n) ?_ hi
        rw [ho, show B.o + s * k + i * k = B.o + (s + i) * k by rw [Nat.add_mul]; omega]
        exact this
      exact ⟨by simp; omega, ones_sub S.one fun v hv => List.mem_of_mem_drop (List.mem_of_mem_take hv), fun i hi => (hrows i hi).mono (Fz.le.refl _) (Im0.le _), fun _ => hrows, fun l' e => by cases e⟩
    · cases hs
  · rename_i id k' c i o N cj j n
    split at hs
    · rename_i b hkk hb
      obtain rfl := Nat.eq_of_beq_eq_true hkk
      split at hs
      · rename_i r hr
        split at hs
        · rename_i l hl
          injection hs with hs; subst hs
          cases hx with
          | asl _ _ _ _ _ _ _ _ _ _ B a off cap h1 h2 h3 h4 h5 h6 h7 h8 =>
            have hat : B.at a := by
              rcases h8 with ⟨_, h8⟩ | ⟨h8, h9⟩
              · exact .inl h8
              · exact .inr ⟨h8, h9⟩
            obtain ⟨cs, t, S, R⟩ := block_row H h1 h2 h3 hb hr
            have hin := Bl.row_in S h3
            rw [h2] at hin
            obtain ⟨vs, q1, q2⟩ := R.cut hl (by omega)
            obtain ⟨g1, g2, g3⟩ := lcut_some q1
            by_cases hn : n = 0
            · subst hn
              refine ⟨[], empty rfl (fun l e => by cases e), fun most => ?_, rfl⟩
              simp only [hz, List.take_nil]
              unfold news_
              have h0 : Nat.min 0 most = 0 := by simp
              have : loadCells_ h ⟨a, off, none⟩ (Nat.min 0 most * 1) = some [] := by
                rw [loadCells_at S hat, h0, lcut_ok (by have := S.len; omega)]; rfl
              simp only [this]
            · have ho : off = B.o + i * k' + o + j := by rcases h7 with h7 | h7; exact absurd h7 hn; exact h7
              have hlen : off + n ≤ cs.length := by omega
              have hrow : ∀ {ι0 : Im}, LRs F ι0 l vs → ∀ q, q < n → RowR F ι0 ((cs.drop off).take (n * 1)) (q * 1) 1 [pick_ l (j + q)] := by
                intro ι0 L q hq
                refine ⟨rfl, fun jj x y hx hy => ?_⟩
                cases jj with
                | zero =>
                  simp at hx; subst hx
                  rw [List.getElem?_take, if_pos (by omega), List.getElem?_drop] at hy
                  refine pick_rel L ?_
                  rw [lcut_get q1 (j + q) (by omega), ← hy]
                  congr 1; omega
                | succ jj => simp at hx
              refine ⟨(cs.drop off).take (n * 1), ⟨by simp; omega, ones_sub S.one fun v hv => List.mem_of_mem_drop (List.mem_of_mem_take hv), hrow q2, fun hf => hrow (free_lrs q2 hf), fun l e => by cases e⟩, fun most => ?_, rfl⟩
              unfold news_
              have hle : Nat.min n most ≤ n := Nat.min_le_left ..
              simp only [loadCells_at S hat, lcut_ok (l := cs) (o := off) (n := Nat.min n most * 1) (by omega)]
              rw [take_min]
        · cases hs
      · cases hs
    · cases hs
  · rename_i st k' n nl e
    split at hs
    · rename_i hkk
      obtain rfl := Nat.eq_of_beq_eq_true hkk
      injection hs with hs; subst hs
      cases hx with
      | fsl _ _ _ _ _ _ b o cs t cap h1 h2 h3 h4 h5 h6 h7 =>
        obtain ⟨f1, f2, f3, e', x', ro, f4⟩ := H.frz b cs t h1
        have hm : n * k' ≤ cap * k' := Nat.mul_le_mul_right _ h4
        have hrows : ∀ i, i < n → RowR F Im0 ((cs.drop o).take (n * k')) (i * k') k' (e i) := fun i hi => RowR.shift (n := n) ⟨h6 i hi, fun j x y a b => h7 i j x y hi a b⟩ hi
        refine ⟨(cs.drop o).take (n * k'), ⟨by simp; omega, ones_sub f3 fun v hv => List.mem_of_mem_drop (List.mem_of_mem_take hv), fun i hi => (hrows i hi).mono (Fz.le.refl _) (Im0.le _), fun _ => hrows, fun l e => by cases e⟩, fun most => ?_, rfl⟩
        unfold news_
        have hle : Nat.min n most * k' ≤ n * k' := Nat.mul_le_mul_right _ (Nat.min_le_left ..)
        have : loadCells_ h ⟨b, o, none⟩ (Nat.min n most * k') = some ((cs.drop o).take (Nat.min n most * k')) := by
          unfold loadCells_; simp only [f4]; exact lcut_ok (by omega)
        simp only [this]
        rw [take_min]
      | fslN => exact ⟨[], empty rfl (fun l e => by cases e), fun most => by simp [news_], rfl⟩
      | fslE => exact ⟨[], empty rfl (fun l e => by cases e), fun most => by simp [news_], rfl⟩
    · cases hs
  · rename_i c s
    obtain rfl := hx.str_inv
    have hnews : ∀ most, news_ h 1 most (.string ⟨⟨s⟩⟩) = some (Nat.min s.length most, (byteCells s).take (Nat.min s.length most * 1)) := fun most => by
      unfold news_
      have hle : Nat.min s.length most ≤ s.length := Nat.min_le_left ..
      have : ltake (Nat.min (⟨⟨s⟩⟩ : ByteArray).data.toList.length most) (⟨⟨s⟩⟩ : ByteArray).data.toList = some (s.take (Nat.min s.length most)) := ltake_ok _ _ hle
      simp only [this]
      simp [byteCells, List.map_take]
    split at hs
    · rename_i hkk
      obtain rfl := Nat.eq_of_beq_eq_true hkk
      injection hs with hs; subst hs
      exact ⟨byteCells s, ⟨by simp [byteCells], byteCells_ones s, fun i hi => byteRow_rel s hi, fun _ i hi => byteRow_rel s hi, fun l e => by injection e with e; subst e; exact ⟨rfl, byteLit_len s, fun i r hr => byteLitRow_rel s hr, fun _ i r hr => byteLitRow_rel s hr⟩⟩, hnews, rfl⟩
    · rename_i hkk
      obtain rfl := Nat.eq_of_beq_eq_true hkk
      injection hs with hs; subst hs
      exact ⟨byteCells s, ⟨by simp [byteCells], byteCells_ones s, fun i hi => byteRow_rel s hi, fun _ i hi => byteRow_rel s hi, fun l e => by cases e⟩, hnews, rfl⟩
    · cases hs
  · cases hs
end
end Go.Proofs.YthloojeefdjpjaaGreatDoor.Se

/- The symbolic evaluator's slices, beside the evaluator's. -/
namespace Go.Proofs.YthloojeefdjpjaaGreatDoor.Se
open Go Go.Proofs.YthloojeefdjpjaaGreatDoor
set_option linter.unusedVariables false
set_option maxRecDepth 20000
set_option linter.unusedSimpArgs false
section
variable {F : Fz} {ι : Im} {sh sh' : SH} {h : Hp}

def ORs (F : Fz) (ι : Im) : Option SV → Option Value → Prop
  | none, none => True
  | some a, some b => VRs F ι a b
  | _, _ => False
theorem ORs.map {ρs : Operand → SV} {ρ : Operand → Value} (hρ : ∀ x, VRs F ι (ρs x) (ρ x)) (o : Option Operand) : ORs F ι (o.map ρs) (o.map ρ) := by
  cases o with
  | none => trivial
  | some x => exact hρ x
theorem bounds_rel {α : Type} {cn : Bool} {n : Nat} {lo hi : Option SV} {lo' hi' : Option Value} {f : Bool → Nat → Bool → Nat → RT α} {x : α} (hlo : ORs F ι lo lo') (hhi : ORs F ι hi hi') (hs : (bounds1_ cn n lo hi f).sel = some x) :
    ∃ cl l ch hv, l ≤ hv ∧ hv ≤ n ∧ (f cl l ch hv).sel = some x ∧ ∀ cap, n ≤ cap → bounds_ n cap lo' hi' none = some (l, hv, cap) := by
  have bhi : ∀ {k : IntKind} {hv cap : Nat}, hv ≤ n → n ≤ cap → bound_ (some (.int k (.ofNat hv))) n cap = some hv := fun h1 h2 => by
    unfold bound_; simp only [Nat.ble_eq_true_of_le (Nat.le_trans h1 h2), cond_true]
  have blo : ∀ {k : IntKind} {l hv : Nat}, l ≤ hv → bound_ (some (.int k (.ofNat l))) 0 hv = some l := fun h1 => by
    unfold bound_; simp only [Nat.ble_eq_true_of_le h1, cond_true]
  unfold bounds1_ at hs
  split at hs
  · cases hi' with
    | some _ => exact hhi.elim
    | none =>
      split at hs
      · cases lo' with
        | some _ => exact hlo.elim
        | none => exact ⟨_, _, _, _, Nat.zero_le _, Nat.le_refl _, hs, fun cap hc => by unfold bounds_; simp [bound_]⟩
      · cases lo' with
        | none => exact hlo.elim
        | some v =>
          obtain ⟨k, c, c', l, rfl, h2⟩ := sel_asNat hs
          obtain rfl := VRs.int_inv hlo
          obtain ⟨hq, h3⟩ := sel_chk h2
          have hle := Nat.le_of_ble_eq_true hq
          refine ⟨_, _, _, _, hle, Nat.le_refl _, h3, fun cap hc => ?_⟩
          unfold bounds_
          simp only [show bound_ none cap cap = some cap from rfl, show bound_ none n cap = some n from rfl, blo hle]
  · cases hi' with
    | none => exact hhi.elim
    | some w =>
      obtain ⟨k, c, ch, hv, rfl, h2⟩ := sel_asNat hs
      obtain rfl := VRs.int_inv hhi
      obtain ⟨hq, h3⟩ := sel_chk h2
      have hle := Nat.le_of_ble_eq_true hq
      split at h3
      · cases lo' with
        | some _ => exact hlo.elim
        | none =>
          refine ⟨_, _, _, _, Nat.zero_le _, hle, h3, fun cap hc => ?_⟩
          unfold bounds_
          simp only [show bound_ none cap cap = some cap from rfl, bhi hle hc]
          rfl
      · cases lo' with
        | none => exact hlo.elim
        | some v =>
          obtain ⟨k2, c2, c3, l, rfl, h4⟩ := sel_asNat h3
          obtain rfl := VRs.int_inv hlo
          obtain ⟨hq2, h5⟩ := sel_chk h4
          have hle2 := Nat.le_of_ble_eq_true hq2
          refine ⟨_, _, _, _, hle2, hle, h5, fun cap hc => ?_⟩
          unfold bounds_
          simp only [show bound_ none cap cap = some cap from rfl, bhi hle hc, blo hle2]
theorem isZero_true {c : Bool} {n : Nat} (h : isZero c n = true) : n = 0 := by
  unfold isZero at h
  split at h
  · exact Nat.eq_of_beq_eq_true h
  · cases h
theorem live_stands (H : HRs F ι sh h) {id : Nat} (hl : live1 sh id = true) {B : Bl} (hi : ι id = some B) : ∃ cs t, Stands h B cs t := by
  unfold live1 at hl
  split at hl
  · rename_i k rows t hg
    obtain ⟨B', cs, q1, _, _, q4, _⟩ := H.ok id _ hg
    rw [hi] at q1; injection q1 with q1; subst q1; exact ⟨_, _, q4⟩
  · rename_i k n e t hg
    rcases H.ok id _ hg with ⟨_, q⟩ | ⟨B', cs, q1, _, _, q4, _⟩
    · rw [hi] at q; cases q
    · rw [hi] at q1; injection q1 with q1; subst q1; exact ⟨_, _, q4⟩
  · cases hl
theorem isExact_at {B : Bl} {cs : List Value} {t : TypeId} (S : Stands h B cs t) : isExact h B.b = some B.x := by unfold isExact; rw [S.got]
theorem isExact_view {B : Bl} {cs : List Value} {t : TypeId} (S : Stands h B cs t) (hx : B.x = false) : isExact h (B.b + 1) = some true := by unfold isExact; rw [S.view hx]
theorem sizeIs_eq {E : Env} {e : TypeId} {k : Nat} (h : sizeIs E e k = true) : E.size e = some k := by
  unfold sizeIs at h
  split at h
  · rename_i q hq; rw [hq, Nat.eq_of_beq_eq_true h]
  · cases h
/-- a slice cut of one whose block is known, or not -/
theorem cut_exact {E : Env} {t e : TypeId} {a off n cap l hv k : Nat} {lo' hi' : Option Value} (hu : E.under t = some (.slice e)) (hs : E.size e = some k) (hx : isExact h a = some true) (hb : bounds_ n cap lo' hi' none = some (l, hv, cap)) :
    slice_ E t (.slice (some ⟨a, off, none⟩) n cap) lo' hi' none h = some (.slice (some (bif Nat.beq cap l then ⟨a, off, none⟩ else ⟨a, off + l * k, none⟩)) (hv - l) (cap - l), h) := by
  unfold slice_
  simp only [hu, hs, hx, hb, add_]
theorem cut_loose {E : Env} {t e : TypeId} {a off n cap l hv k : Nat} {lo' hi' : Option Value} (hu : E.under t = some (.slice e)) (hs : E.size e = some k) (hx : isExact h a = some false) (hb : bounds_ n cap lo' hi' none = some (l, hv, cap)) (hc : hv ≤ cap) :
    slice_ E t (.slice (some ⟨a, off, none⟩) n cap) lo' hi' none h = some (bif Nat.blt l cap then .slice (some ⟨a, off + l * k, none⟩) (hv - l) (cap - l) else noneLeft, h) := by
  unfold slice_
  simp only [hu, hs, hx, hb, add_]
  rw [show Nat.ble hv cap = true from Nat.ble_eq_true_of_le hc]
  cases Nat.blt l cap <;> rfl
theorem slice_rel {E : Env} {t : TypeId} {x v : SV} {x' : Value} {lo hi mx : Option SV} {lo' hi' mx' : Option Value} (H : HRs F ι sh h) (hx : VRs F ι x x') (hlo : ORs F ι lo lo') (hhi : ORs F ι hi hi') (hmx : ORs F ι mx mx')
    (hs : (slice1_ E t x lo hi mx sh).sel = some (v, sh')) : sh' = sh ∧ ∃ v', slice_ E t x' lo' hi' mx' h = some (v', h) ∧ VRs F ι v v' := by
  unfold slice1_ at hs
  split at hs
  · cases hs
  · cases mx' with
    | some _ => exact hmx.elim
    | none =>
    split at hs
    · rename_i c s hu
      obtain rfl := hx.str_inv
      obtain ⟨cl, l, ch, hv, h1, h2, h3, h4⟩ := bounds_rel hlo hhi hs
      simp only [RT.sel, Option.some.injEq, Prod.mk.injEq] at h3
      obtain ⟨rfl, rfl⟩ := h3
      refine ⟨rfl, _, ?_, .str ..⟩
      unfold slice_
      simp only [hu]
      have hb := h4 s.length (Nat.le_refl _)
      have hc : lcut s l (hv - l) = some ((s.drop l).take (hv - l)) := lcut_ok (by omega)
      have hb2 : bounds_ (⟨⟨s⟩⟩ : ByteArray).data.toList.length (⟨⟨s⟩⟩ : ByteArray).data.toList.length lo' hi' none = some (l, hv, s.length) := hb
      have hc2 : lcut (⟨⟨s⟩⟩ : ByteArray).data.toList l (hv - l) = some ((s.drop l).take (hv - l)) := hc
      simp only [hb2, hc2]
    · rename_i e hu
      obtain ⟨rfl, _⟩ := hx.raw_inv
      split at hs
      · rename_i sz hsz
        obtain ⟨cl, l, ch, hv, h1, h2, h3, h4⟩ := bounds_rel hlo hhi hs
        simp only [RT.sel, Option.some.injEq, Prod.mk.injEq] at h3
        obtain ⟨rfl, rfl⟩ := h3
        obtain rfl : hv = 0 := by omega
        obtain rfl : l = 0 := by omega
        refine ⟨rfl, _, ?_, .raw _ _ rfl⟩
        unfold slice_
        simp only [hu, hsz, h4 0 (Nat.le_refl _)]
      · cases hs
    · rename_i e id k c s n z hu
      cases hck : (sizeIs E e k && live1 sh id && Nat.ble z 1) with
      | false => rw [hck] at hs; cases hs
      | true =>
        rw [hck] at hs
        simp only [cond_true] at hs
        rw [Bool.and_eq_true, Bool.and_eq_true] at hck
        have hsz := sizeIs_eq hck.1.1
        have hz1 : z ≤ 1 := Nat.le_of_ble_eq_true hck.2
        obtain ⟨cl, l, ch, hv, h1, h2, h3, h4⟩ := bounds_rel hlo hhi hs
        cases hx with
        | nsl _ _ _ _ _ _ _ B off cap g1 g2 g3 g4 g5 g6 g7 =>
          obtain ⟨cs, t', S⟩ := live_stands H hck.1.2 g1
          have hb := h4 cap g4
          -- what comes of it, the flag left open
          have key : ∀ z', (l = 0 → z' = z ∨ z' = 2 ∨ l < n) → (z' < 2 → l = 0 ∨ l < n) → ∃ v', slice_ E t (.slice (some ⟨B.b, off, none⟩) n cap) lo' hi' none h = some (v', h) ∧ ∀ c', VRs F ι (.nsl id k c' (s + l) (hv - l) z') v' := by
            intro z' _ hz'
            have hmul : l * k + (cap - l) * k = cap * k := by rw [← Nat.add_mul]; congr 1; omega
            have hoff : (hv - l = 0 ∨ off + l * k = B.o + (s + l) * k) := by
              by_cases hn : hv - l = 0
              · exact .inl hn
              · right
                rcases g5 with g5 | g5
                · omega
                · rw [g5, Nat.add_mul]; omega
            cases hx : B.x with
            | true =>
              refine ⟨_, cut_exact hu hsz (by rw [isExact_at S, hx]) hb, fun c' => ?_⟩
              cases hcl : Nat.beq cap l with
              | true =>
                obtain rfl := Nat.eq_of_beq_eq_true hcl
                exact .nsl _ _ _ _ _ _ _ B off _ g1 g2 (by omega) (by omega) (.inl (by omega)) (by have := Nat.zero_le (cap * k); simp; omega) (.inl hx)
              | false => exact .nsl _ _ _ _ _ _ _ B _ _ g1 g2 (by omega) (by omega) hoff (by omega) (.inl hx)
            | false =>
              refine ⟨_, cut_loose hu hsz (by rw [isExact_at S, hx]) hb (by omega), fun c' => ?_⟩
              cases hcl : Nat.blt l cap with
              | true =>
                have : l < cap := by simpa [Nat.blt_eq] using hcl
                exact .nsl _ _ _ _ _ _ _ B _ _ g1 g2 (by omega) (by omega) hoff (by omega) (.inr (.inl (by omega)))
              | false =>
                have hge : cap ≤ l := by
                  by_cases hq : l < cap
                  · have : Nat.blt l cap = true := by simpa [Nat.blt_eq] using hq
                    rw [this] at hcl; cases hcl
                  · omega
                have hz2 : 2 ≤ z' := by
                  by_cases hq : z' < 2
                  · rcases hz' hq with r | r
                    · rcases g7 with g7 | g7
                      · rw [hx] at g7; cases g7
                      · omega
                    · omega
                  · omega
                have : hv - l = 0 := by omega
                rw [this]
                exact .nslE _ _ _ _ _ _ hz2
          split at h3
          · rename_i hzz
            have hl := isZero_true hzz
            simp only [RT.sel, Option.some.injEq, Prod.mk.injEq] at h3
            obtain ⟨rfl, rfl⟩ := h3
            obtain ⟨v', q1, q2⟩ := key z (fun _ => .inl rfl) (fun _ => .inl hl)
            refine ⟨rfl, v', q1, ?_⟩
            have := q2 (c && ch)
            rw [hl] at this
            exact this
          · rw [sel_test] at h3
            cases hlt : Nat.blt l n with
            | true =>
              rw [hlt] at h3
              simp only [cond_true, RT.sel, Option.some.injEq, Prod.mk.injEq] at h3
              obtain ⟨rfl, rfl⟩ := h3
              have : l < n := by simpa [Nat.blt_eq] using hlt
              obtain ⟨v', q1, q2⟩ := key 0 (fun _ => .inr (.inr this)) (fun _ => .inr this)
              exact ⟨rfl, v', q1, q2 _⟩
            | false =>
              rw [hlt] at h3
              simp only [cond_false, RT.sel, Option.some.injEq, Prod.mk.injEq] at h3
              obtain ⟨rfl, rfl⟩ := h3
              obtain ⟨v', q1, q2⟩ := key 2 (fun _ => .inr (.inl rfl)) (fun e => by omega)
              exact ⟨rfl, v', q1, q2 _⟩
        | nslN _ _ _ _ _ _ hz =>
          obtain rfl : hv = 0 := by omega
          obtain rfl : l = 0 := by omega
          have hsl : slice_ E t (.slice none 0 0) lo' hi' none h = some (.slice none 0 0, h) := by
            unfold slice_
            simp only [hu, hsz, h4 0 (Nat.le_refl _)]
          split at h3
          · simp only [RT.sel, Option.some.injEq, Prod.mk.injEq] at h3
            obtain ⟨rfl, rfl⟩ := h3
            exact ⟨rfl, _, hsl, .nslN _ _ _ _ _ _ hz⟩
          · rw [sel_test] at h3
            have : Nat.blt 0 0 = false := rfl
            rw [this] at h3
            simp only [cond_false, RT.sel, Option.some.injEq, Prod.mk.injEq] at h3
            obtain ⟨rfl, rfl⟩ := h3
            exact ⟨rfl, _, hsl, .nslN _ _ _ _ _ _ (by omega)⟩
        | nslE _ _ _ _ _ _ hz => omega
    · rename_i e' st k n nl e hu
      cases hck : sizeIs E e' k with
      | false => rw [hck] at hs; cases hs
      | true =>
        rw [hck] at hs
        simp only [cond_true] at hs
        have hsz := sizeIs_eq hck
        obtain ⟨cl, l, ch, hv, h1, h2, h3, h4⟩ := bounds_rel hlo hhi hs
        cases hx with
        | fsl _ _ _ _ _ _ b o cs t' cap g1 g2 g3 g4 g5 g6 g7 =>
          obtain ⟨f1, f2, f3, e2, x2, ro, f4⟩ := H.frz b cs t' g1
          have hb := h4 cap g4
          have hnl : nl = false := by rcases g3 with g3 | g3 <;> cases g3; rfl
          have hex : isExact h b = some x2 := by unfold isExact; rw [f4]
          have hmul : l * k + (cap - l) * k = cap * k := by rw [← Nat.add_mul]; congr 1; omega
          have key : ∀ (nl' : Option Bool), (nl' = none ∨ nl' = some false ∧ (l = 0 ∧ 0 < cap ∨ l < n ∨ x2 = true)) → ∃ v', slice_ E t (.slice (some ⟨b, o, none⟩) n cap) lo' hi' none h = some (v', h) ∧ VRs F ι (.fsl st k (hv - l) nl' fun i => e (l + i)) v' := by
            intro nl' hnl'
            have mk : ∀ off', (hv - l = 0 ∨ off' = o + l * k) → off' + (cap - l) * k ≤ cs.length → VRs F ι (.fsl st k (hv - l) nl' fun i => e (l + i)) (.slice (some ⟨b, off', none⟩) (hv - l) (cap - l)) := by
              intro off' ho hl
              refine .fsl _ _ _ _ _ _ b off' cs t' (cap - l) g1 g2 (by rcases hnl' with r | r; exact .inl r; exact .inr r.1) (by omega) hl (fun i hi => g6 (l + i) (by omega)) fun i j x y hi hx hy => ?_
              rcases ho with ho | ho
              · omega
              · refine g7 (l + i) j x y (by omega) hx ?_
                rw [ho] at hy
                rw [show o + (l + i) * k + j = o + l * k + i * k + j by rw [Nat.add_mul]; omega]
                exact hy
            cases x2 with
            | true =>
              refine ⟨_, cut_exact hu hsz hex hb, ?_⟩
              cases hcl : Nat.beq cap l with
              | true =>
                obtain rfl := Nat.eq_of_beq_eq_true hcl
                exact mk o (.inl (by omega)) (by have := Nat.zero_le (cap * k); simp; omega)
              | false => exact mk _ (.inr rfl) (by omega)
            | false =>
              refine ⟨_, cut_loose hu hsz hex hb (by omega), ?_⟩
              cases hcl : Nat.blt l cap with
              | true => exact mk _ (.inr rfl) (by omega)
              | false =>
                have hge : cap ≤ l := by
                  by_cases hq : l < cap
                  · have : Nat.blt l cap = true := by simpa [Nat.blt_eq] using hq
                    rw [this] at hcl; cases hcl
                  · omega
                have : hv - l = 0 := by omega
                rw [this]
                rcases hnl' with r | ⟨r, r2⟩
                · rw [r]; exact .fslE ..
                · rcases r2 with r2 | r2 | r2
                  · omega
                  · omega
                  · cases r2
          cases hlt : Nat.blt l n with
          | true =>
            rw [hlt] at h3
            simp only [RT.sel, cond_true, Option.some.injEq, Prod.mk.injEq] at h3
            obtain ⟨rfl, rfl⟩ := h3
            have : l < n := by simpa [Nat.blt_eq] using hlt
            obtain ⟨v', q1, q2⟩ := key (some false) (.inr ⟨rfl, .inr (.inl this)⟩)
            exact ⟨rfl, v', q1, q2⟩
          | false =>
            rw [hlt] at h3
            simp only [RT.sel, cond_false, Option.some.injEq, Prod.mk.injEq] at h3
            obtain ⟨rfl, rfl⟩ := h3
            obtain ⟨v', q1, q2⟩ := key none (.inl rfl)
            exact ⟨rfl, v', q1, q2⟩
        | fslN _ _ _ _ _ hz =>
          obtain rfl : hv = 0 := by omega
          obtain rfl : l = 0 := by omega
          have hsl : slice_ E t (.slice none 0 0) lo' hi' none h = some (.slice none 0 0, h) := by
            unfold slice_
            simp only [hu, hsz, h4 0 (Nat.le_refl _)]
          have : Nat.blt 0 0 = false := rfl
          simp only [RT.sel, this, cond_false, Option.some.injEq, Prod.mk.injEq] at h3
          obtain ⟨rfl, rfl⟩ := h3
          exact ⟨rfl, _, hsl, .fslN _ _ _ _ _ (.inl rfl)⟩
    · rename_i e id k c i o N cj j n hu
      cases hck : (sizeIs E e 1 && live1 sh id) with
      | false => rw [hck] at hs; cases hs
      | true =>
        rw [hck] at hs
        simp only [cond_true] at hs
        rw [Bool.and_eq_true] at hck
        have hsz := sizeIs_eq hck.1
        obtain ⟨cl, l, ch, hv, h1, h2, h3, h4⟩ := bounds_rel hlo hhi hs
        simp only [RT.sel, Option.some.injEq, Prod.mk.injEq] at h3
        obtain ⟨rfl, rfl⟩ := h3
        cases hx with
        | asl _ _ _ _ _ _ _ _ _ _ B a off cap g1 g2 g3 g4 g5 g6 g7 g8 =>
          obtain ⟨cs, t', S⟩ := live_stands H hck.2 g1
          have hex : isExact h a = some true := by
            rcases g8 with ⟨r1, r2⟩ | ⟨r1, r2⟩
            · rw [r2, isExact_at S, r1]
            · rw [r2]; exact isExact_view S r1
          refine ⟨rfl, _, cut_exact hu hsz hex (h4 cap g6.1), ?_⟩
          cases hcl : Nat.beq cap l with
          | true =>
            obtain rfl := Nat.eq_of_beq_eq_true hcl
            exact .asl _ _ _ _ _ _ _ _ _ _ B a off _ g1 g2 g3 g4 (by omega) ⟨by omega, by omega⟩ (.inl (by omega)) g8
          | false =>
            refine .asl _ _ _ _ _ _ _ _ _ _ B a _ _ g1 g2 g3 g4 (by omega) ⟨by omega, by omega⟩ ?_ g8
            by_cases hn : hv - l = 0
            · exact .inl hn
            · right
              rcases g7 with g7 | g7
              · omega
              · rw [g7]; omega
    · rename_i N e id k c i o hu
      cases hck : (sizeIs E e 1 && (live1 sh id && Nat.ble (o + N) k)) with
      | false => rw [hck] at hs; cases hs
      | true =>
        rw [hck] at hs
        simp only [cond_true] at hs
        rw [Bool.and_eq_true, Bool.and_eq_true] at hck
        have hsz := sizeIs_eq hck.1
        have hoN : o + N ≤ k := Nat.le_of_ble_eq_true hck.2.2
        obtain ⟨cl, l, ch, hv, h1, h2, h3, h4⟩ := bounds_rel hlo hhi hs
        simp only [RT.sel, Option.some.injEq, Prod.mk.injEq] at h3
        obtain ⟨rfl, rfl⟩ := h3
        cases hx with
        | ptr _ _ _ _ _ _ B a g1 g2 g3 g4 =>
          obtain ⟨cs, t', S⟩ := live_stands H hck.2.1 g1
          have hin := Bl.row_in S g3
          rw [g2, S.len] at hin
          have hb := h4 N (Nat.le_refl _)
          have mk : ∀ a' off', B.sure a' → (hv - l = 0 ∨ off' = B.o + i * k + o + l) → off' + (N - l) ≤ B.T → VRs F ι (.asl id k c i o N (cl && ch) l (hv - l)) (.slice (some ⟨a', off', none⟩) (hv - l) (N - l)) := fun a' off' r1 r2 r3 =>
            .asl _ _ _ _ _ _ _ _ _ _ B a' off' _ g1 g2 g3 hoN (by omega) ⟨by omega, r3⟩ r2 r1
          refine ⟨rfl, ?_⟩
          unfold slice_
          simp only [hu, hsz, hb]
          rcases g4 with rfl | ⟨r1, rfl⟩
          · rw [isExact_at S]
            cases hx : B.x with
            | true =>
              refine ⟨_, rfl, ?_⟩
              cases hcl : Nat.beq N l with
              | true =>
                have := Nat.eq_of_beq_eq_true hcl
                exact mk _ _ (.inl ⟨hx, rfl⟩) (.inl (by omega)) (by omega)
              | false => exact mk _ _ (.inl ⟨hx, rfl⟩) (.inr (by omega)) (by omega)
            | false =>
              simp only [S.view hx]
              rw [show Nat.beq B.b B.b = true by simp]
              refine ⟨_, rfl, ?_⟩
              cases hcl : Nat.beq N l with
              | true =>
                have := Nat.eq_of_beq_eq_true hcl
                exact mk _ _ (.inr ⟨hx, rfl⟩) (.inl (by omega)) (by omega)
              | false => exact mk _ _ (.inr ⟨hx, rfl⟩) (.inr (by omega)) (by omega)
          · rw [isExact_view S r1]
            refine ⟨_, rfl, ?_⟩
            cases hcl : Nat.beq N l with
            | true =>
              have := Nat.eq_of_beq_eq_true hcl
              exact mk _ _ (.inr ⟨r1, rfl⟩) (.inl (by omega)) (by omega)
            | false => exact mk _ _ (.inr ⟨r1, rfl⟩) (.inr (by omega)) (by omega)
    · cases hs
end
end Go.Proofs.YthloojeefdjpjaaGreatDoor.Se

/- The symbolic evaluator's append, beside the evaluator's. -/
namespace Go.Proofs.YthloojeefdjpjaaGreatDoor.Se
open Go Go.Proofs.YthloojeefdjpjaaGreatDoor
set_option linter.unusedVariables false
set_option linter.unusedSimpArgs false
set_option maxRecDepth 20000
section
variable {F : Fz} {ι : Im} {sh sh' : SH} {h : Hp}

theorem RowR.carry {c C : List Value} {p p' k : Nat} {r : List SV} (R : RowR F ι c p k r) (hc : ∀ q, q < k → C[p' + q]? = c[p + q]?) : RowR F ι C p' k r := by
  refine ⟨R.1, fun j x y hx hy => R.2 j x y hx ?_⟩
  have hj : j < k := by have := (List.getElem?_eq_some_iff.1 hx).1; rw [R.1] at this; exact this
  rw [← hc j hj]; exact hy
theorem joined_rel {p q : Src} {k base : Nat} {C : List Value} (hp : ∀ i, i < p.n → RowR F ι C (base + i * k) k (p.e i)) (hpl : ∀ l, p.l = some l → l.length = p.n ∧ ∀ i r, l[i]? = some r → RowR F ι C (base + i * k) k r)
    (hq : ∀ i, i < q.n → RowR F ι C (base + (p.n + i) * k) k (q.e i)) {i : Nat} (hi : i < p.n + q.n) : RowR F ι C (base + i * k) k (joinedE k p q i) := by
  unfold joinedE
  cases hl : p.l with
  | some l =>
    obtain ⟨h1, h2⟩ := hpl l hl
    simp only
    refine ahead_rel h2 fun hle => ?_
    have := hq (i - l.length) (by omega)
    rw [h1, show p.n + (i - p.n) = i by omega] at this
    rw [h1]; exact this
  | none =>
    simp only
    refine RowR.mux (fun e => ?_) (fun e => ?_)
    · exact hp i (by simpa [Nat.blt_eq] using e)
    · have hge : ¬ i < p.n := fun hlt => by have : Nat.blt i p.n = true := by simpa [Nat.blt_eq] using hlt
                                            rw [this] at e; cases e
      have := hq (i - p.n) (by omega)
      rw [show p.n + (i - p.n) = i by omega] at this
      exact this
theorem sight_same {v : Value} (h1 : ∀ a n c, v = .slice (some a) n c → isExact h a.block = some false → a.block + 1 < h.next) : sight_ v h = some (v, h) := by
  unfold sight_
  split
  · rename_i a n c
    split
    · rename_i hx hb
      have := h1 a n c rfl hx
      have hb2 := Nat.eq_of_beq_eq_true hb
      omega
    · rfl
  · rfl
/-- a row of none, without a block -/
theorem HRs.newNone (H : HRs F ι sh h) {k : Nat} {e : Nat → List SV} {t : TypeId} {id : Nat} (hs : sh.new (.row k 0 e t) = some (id, sh')) : HRs F ι sh' h ∧ Stp F ι sh h F ι sh' h := by
  obtain ⟨rfl, n1, n2, n3, n4, n6, n5⟩ := SH.new_some hs
  have hmost := H.most
  have live : ∀ j, j ≠ sh.next → Live sh' j → Live sh j := by
    rintro j hj ⟨s, hs1, hs2⟩
    rw [n5, if_neg hj] at hs1
    exact ⟨s, hs1, hs2⟩
  have hno : ι sh.next = none := (H.sdom _ (Nat.le_refl _)).2
  have ne : ∀ {j B}, ι j = some B → j ≠ sh.next := fun e e2 => by rw [e2, hno] at e; cases e
  refine ⟨⟨by omega, by rw [n1]; omega, fun j hj => ?_, fun j s hj => ?_, fun j j' C C' hne l1 l2 e1 e2 => H.apart j j' C C' hne (live j (ne e1) l1) (live j' (ne e2) l2) e1 e2, fun b cs t e => by rw [n2]; exact H.frz b cs t e, fun b y j C e l e2 => H.fap b y j C e (live j (ne e2) l) e2⟩,
    ⟨fun _ _ => rfl, Fz.le.refl _, fun _ _ _ e => .inl e, by rw [n1]; omega, by rw [n2]; exact Nat.le_refl _, Nat.le_refl _, by omega, [], by rw [n3]; rfl, fun j hj _ => ?_, fun j hj => by simp at hj, fun b hb _ => rfl, fun j C hj e => ?_⟩⟩
  · rw [n1] at hj
    rw [n5, if_neg (by omega)]
    exact H.sdom j (by omega)
  · rw [n5] at hj
    split at hj
    · rename_i e; subst e; injection hj with hj; subst hj; exact .inl ⟨rfl, hno⟩
    · exact H.ok j s hj
  · rw [n5, if_neg (by omega)]
  · rw [(H.sdom j hj).2] at e; cases e
theorem base_live {e : TypeId} {id k s n z : Nat} {c : Bool} (hb : base_ sh e (.nsl id k c s n z) = true) : z ≤ 1 ∧ live1 sh id = true ∧ Live sh id ∧ ∀ sb, sh.get id = some sb → (∃ k rows, sb = .lst k rows e) ∨ ∃ k n f, sb = .row k n f e := by
  unfold base_ at hb
  rw [Bool.and_eq_true] at hb
  refine ⟨Nat.le_of_ble_eq_true hb.1, ?_⟩
  have h2 := hb.2
  split at h2
  · rename_i k' rows t hg
    refine ⟨by unfold live1; rw [hg], ⟨_, hg, by intro e; cases e⟩, fun sb hsb => ?_⟩
    rw [hg] at hsb; injection hsb with hsb; subst hsb
    exact .inl ⟨_, _, by rw [Nat.eq_of_beq_eq_true h2]⟩
  · rename_i k' n' f t hg
    refine ⟨by unfold live1; rw [hg], ⟨_, hg, by intro e; cases e⟩, fun sb hsb => ?_⟩
    rw [hg] at hsb; injection hsb with hsb; subst hsb
    exact .inr ⟨_, _, _, by rw [Nat.eq_of_beq_eq_true h2]⟩
  · cases h2
theorem stands_type (H : HRs F ι sh h) {id : Nat} {B : Bl} {cs : List Value} {t e : TypeId} (hi : ι id = some B) (S : Stands h B cs t) (hl : Live sh id) (hb : ∀ sb, sh.get id = some sb → (∃ k rows, sb = .lst k rows e) ∨ ∃ k n f, sb = .row k n f e) : t = e := by
  obtain ⟨sb, hg, _⟩ := hl
  rcases hb sb hg with ⟨k, rows, rfl⟩ | ⟨k, n, f, rfl⟩
  · obtain ⟨B', cs', q1, _, _, q4, _⟩ := H.ok id _ hg
    rw [hi] at q1; injection q1 with q1; subst q1
    have := S.got; rw [q4.got] at this; injection this with this; injection this with c1 c2; exact c2.symm
  · rcases H.ok id _ hg with ⟨_, q⟩ | ⟨B', cs', q1, _, _, q4, _⟩
    · rw [hi] at q; cases q
    · rw [hi] at q1; injection q1 with q1; subst q1
      have := S.got; rw [q4.got] at this; injection this with this; injection this with c1 c2; exact c2.symm
section
variable {E : Env} {t1 t2 e : TypeId} {u : TypeDesc} {k b : Nat} {zv x' : Value}
theorem app_nil0 (hu1 : E.under t1 = some (.slice e)) (hu2 : E.under t2 = some u) (hune : ∀ kk, u ≠ .int kk) (hk : E.size e = some k) (hby : E.bytes e = some b) (hz : E.zero e = some zv) (hzl : Nat.beq zv.cells.toList.length k = true)
    {c : List Value} (hn : news_ h k (lenV_ x') x' = some (0, c)) : append0_ E t1 t2 (.slice none 0 0) x' h = some (.slice none 0 0, h) := by
  unfold append0_
  cases u <;> first | exact absurd rfl (hune _) | simp only [hu1, hu2, hk, hby, hz, hn, hzl]
theorem app_nil (hu1 : E.under t1 = some (.slice e)) (hu2 : E.under t2 = some u) (hune : ∀ kk, u ≠ .int kk) (hk : E.size e = some k) (hby : E.bytes e = some b) (hz : E.zero e = some zv) (hzl : Nat.beq zv.cells.toList.length k = true)
    {c : List Value} {n : Nat} (hn : news_ h k (lenV_ x') x' = some (n + 1, c)) (hc : (Nat.ble ((n + 1) * b) 140737488355328 && Nat.ble (n + 1) 9223372036854775807) = true) {a : Addr} {h' : Hp} (hr : newRow_ h e c false = some (a, h')) :
    append0_ E t1 t2 (.slice none 0 0) x' h = some (.slice (some a) (n + 1) (n + 1), h') := by
  unfold append0_
  cases u <;> first | exact absurd rfl (hune _) | simp only [hu1, hu2, hk, hby, hz, hn, hzl, hc, cond_true, hr]
theorem app_fit0 (hu1 : E.under t1 = some (.slice e)) (hu2 : E.under t2 = some u) (hune : ∀ kk, u ≠ .int kk) (hk : E.size e = some k) (hby : E.bytes e = some b) (hz : E.zero e = some zv) (hzl : Nat.beq zv.cells.toList.length k = true)
    {c : List Value} (hn : news_ h k (lenV_ x') x' = some (0, c)) {a : Addr} {len cap : Nat} (hl : len ≤ cap) : append0_ E t1 t2 (.slice (some a) len cap) x' h = some (.slice (some a) len cap, h) := by
  unfold append0_
  cases u <;> first | exact absurd rfl (hune _) | simp only [hu1, hu2, hk, hby, hz, hn, hzl, Nat.add_zero, Nat.ble_eq_true_of_le hl, cond_true]
theorem app_fit (hu1 : E.under t1 = some (.slice e)) (hu2 : E.under t2 = some u) (hune : ∀ kk, u ≠ .int kk) (hk : E.size e = some k) (hby : E.bytes e = some b) (hz : E.zero e = some zv) (hzl : Nat.beq zv.cells.toList.length k = true)
    {c : List Value} {n : Nat} (hn : news_ h k (lenV_ x') x' = some (n + 1, c)) {a : Addr} {len cap : Nat} (hl : len + (n + 1) ≤ cap) {h' : Hp} (hr : storeCells_ h (add_ a (len * k)) c = some h') :
    append0_ E t1 t2 (.slice (some a) len cap) x' h = some (.slice (some a) (len + (n + 1)) cap, h') := by
  unfold append0_
  cases u <;> first | exact absurd rfl (hune _) | simp only [hu1, hu2, hk, hby, hz, hn, hzl, Nat.ble_eq_true_of_le hl, cond_true, hr]
theorem ble_no {a b : Nat} (h : ¬ a ≤ b) : Nat.ble a b = false := by
  cases e : Nat.ble a b with
  | false => rfl
  | true => exact absurd (Nat.le_of_ble_eq_true e) h
theorem app_exact (hu1 : E.under t1 = some (.slice e)) (hu2 : E.under t2 = some u) (hune : ∀ kk, u ≠ .int kk) (hk : E.size e = some k) (hby : E.bytes e = some b) (hz : E.zero e = some zv) (hzl : Nat.beq zv.cells.toList.length k = true)
    {c : List Value} {n : Nat} (hn : news_ h k (lenV_ x') x' = some (n, c)) {a : Addr} {len cap : Nat} (hl : ¬ len + n ≤ cap) {old l : List Value} {e' : TypeId} {ro : Bool} (hg : h.get a.block = some (.cells old e' true ro)) (hcut : lcut old a.off (len * k) = some l)
    (hc : (Nat.ble ((len + n) * b) 140737488355328 && Nat.ble (len + n) 9223372036854775807) = true) {a' : Addr} {h' : Hp} (hr : newRow_ h e (l ++ c) false = some (a', h')) :
    append0_ E t1 t2 (.slice (some a) len cap) x' h = some (.slice (some a') (len + n) (len + n), h') := by
  unfold append0_
  cases u <;> first | exact absurd rfl (hune _) | simp only [hu1, hu2, hk, hby, hz, hn, hzl, ble_no hl, cond_false, hg, hcut, hc, cond_true, hr]
theorem app_loose (hu1 : E.under t1 = some (.slice e)) (hu2 : E.under t2 = some u) (hune : ∀ kk, u ≠ .int kk) (hk : E.size e = some k) (hby : E.bytes e = some b) (hz : E.zero e = some zv) (hzl : Nat.beq zv.cells.toList.length k = true)
    {c : List Value} {n : Nat} (hn : news_ h k (lenV_ x') x' = some (n, c)) {a : Addr} {len cap : Nat} (hl : ¬ len + n ≤ cap) {old l : List Value} (hg : h.get a.block = some (.cells old e false false)) (hcut : lcut old a.off (len * k) = some l)
    (hc : (Nat.ble ((len + n) * b) 140737488355328 && Nat.ble (len + n) 9223372036854775807) = true) (ho : a.off + cap * k ≤ old.length) (h1 : ones_ c = true) {a' : Addr} {h' : Hp} (hr : newRow_ (h.put a.block .dead) e (l ++ c) false = some (a', h')) :
    append0_ E t1 t2 (.slice (some a) len cap) x' h = some (.slice (some a') (len + n) (len + n), h') := by
  unfold append0_
  have hb : (Nat.beq e e && Nat.ble (a.off + cap * k) old.length) = true := by rw [Nat.ble_eq_true_of_le ho]; simp
  cases u <;> first | exact absurd rfl (hune _) | simp only [hu1, hu2, hk, hby, hz, hn, hzl, ble_no hl, cond_false, hg, hcut, hc, cond_true, hb, h1, hr]
end
theorem src_k {k id k' s n z : Nat} {c : Bool} {p : Src} (h : src_ sh k (.nsl id k' c s n z) = some p) : k' = k := by
  simp only [src_] at h
  cases hb : Nat.beq k' k with
  | true => exact Nat.eq_of_beq_eq_true hb
  | false => rw [hb] at h; simp at h
theorem put_at {l xs r : List Value} {n m : Nat} (hp : lputAt l xs n = some r) (hm : xs.length = m) : ∀ j, j < m → r[n + j]? = xs[j]? := fun j hj => by
  rw [lputAt_get hp (n + j), if_pos (by omega), Nat.add_sub_cancel_left]
set_option maxHeartbeats 1000000 in
/-- Appended rows, in both. -/
theorem append_rel {E : Env} {t1 t2 : TypeId} {s x v : SV} {s' x' : Value} (H : HRs F ι sh h) (hs : VRs F ι s s') (hx : VRs F ι x x') (ha : (append1_ E t1 t2 s x sh).sel = some (v, sh')) :
    ∃ v' h' ι', append_ E t1 t2 s' x' h = some (v', h') ∧ VRs F ι' v v' ∧ HRs F ι' sh' h' ∧ Stp F ι sh h F ι' sh' h' := by
  unfold append1_ at ha
  split at ha
  · cases ha
  · rename_i e u hne hu1 hu2
    split at ha
    · rename_i k b z hk hby hz
      split at ha
      · rename_i p q hp hq hb
        rw [Bool.and_eq_true] at hb
        obtain ⟨hb, hzk⟩ := hb
        obtain ⟨zv, hzv, Z, z1, _⟩ := zero_rel (F := F) (ι := ι) hz
        have hzl : Nat.beq zv.cells.toList.length k = true := by rw [← Z.1]; exact hzk
        obtain ⟨cp, P, pn, pl⟩ := src_rel H hs hp
        obtain ⟨cx, Q, qn, ql⟩ := src_rel H hx hq
        have hnx : news_ h k (lenV_ x') x' = some (q.n, cx) := by
          rw [ql, qn q.n]
          have : Nat.min q.n q.n = q.n := Nat.min_self _
          rw [this, List.take_of_length_le (by rw [Q.len]; exact Nat.le_refl _)]
        have hune : ∀ kk, u ≠ .int kk := fun kk e => hne kk e
        -- of a base: nil, or in a block
        have hbase : s' = .slice none 0 0 ∧ p.n = 0 ∨ ∃ id c s0 n z' B off cap cs, s = .nsl id k c s0 n z' ∧ s' = .slice (some ⟨B.b, off, none⟩) n cap ∧ p.n = n ∧ ι id = some B ∧ B.k = k ∧ s0 + n ≤ B.m ∧ n ≤ cap ∧ off + cap * k ≤ B.T ∧ (B.x = true ∨ 1 ≤ cap) ∧ Live sh id ∧ Stands h B cs e ∧ lcut cs off (n * k) = some cp := by
          have hk' : ∀ {id k' c s0 n z'}, s = .nsl id k' c s0 n z' → k' = k := fun e => by
            subst e
            exact src_k hp
          cases hs with
          | nsl _ id k' c s0 n z' B off cap g1 g2 g3 g4 g5 g6 g7 =>
            obtain ⟨b1, b2, b3, b4⟩ := base_live hb
            obtain rfl := hk' rfl
            obtain ⟨cs, t', S⟩ := live_stands H b2 g1
            obtain rfl := stands_type H g1 S b3 b4
            refine .inr ⟨id, c, s0, n, z', B, off, cap, cs, rfl, rfl, pl.symm, g1, g2, g3, g4, g6, (by rcases g7 with g7 | g7 | g7; exact .inl g7; exact .inr g7; omega), b3, S, ?_⟩
            have h2 := pn n
            have hpn : p.n = n := pl.symm
            rw [hpn] at h2
            unfold news_ at h2
            have hmin : Nat.min n n = n := Nat.min_self _
            rw [hmin] at h2
            simp only [loadCells_at S (.inl rfl)] at h2
            rw [List.take_of_length_le (by rw [P.len, hpn]; exact Nat.le_refl _)] at h2
            split at h2
            · rename_i c' hc'; injection h2 with h2; injection h2 with _ h2; rw [hmin] at hc'; rw [hc', h2]
            · cases h2
          | nslN _ id k' c s0 z' hz' => exact .inl ⟨rfl, pl.symm⟩
          | nslE _ id k' c s0 z' hz' => have := (base_live hb).1; omega
          | raw _ _ hr =>
            left
            unfold base_ at hb
            split at hb
            · rename_i e; injection e with e; subst e; exact ⟨rfl, pl.symm⟩
            · rename_i e; cases e
            · cases hb
          | lost => cases hb
          | int => cases hb
          | bool => cases hb
          | str => cases hb
          | agg => cases hb
          | tup => cases hb
          | ptr => cases hb
          | aptr => cases hb
          | asl => cases hb
          | fsl => cases hb
          | fslN => cases hb
          | fslE => cases hb
          | fptr => cases hb
          | mp => cases hb
          | fn => cases hb
        have hsame : sight_ s' h = some (s', h) := by
          rcases hbase with ⟨rfl, _⟩ | ⟨id, c, s0, n, z', B, off, cap, cs, _, rfl, _, _, _, _, _, _, _, _, S, _⟩
          · rfl
          · refine sight_same fun a n' c' e1 e2 => ?_
            injection e1 with e1 e3 e4
            injection e1 with e1
            subst e1
            simp only at e2 ⊢
            rw [isExact_at S] at e2
            injection e2 with e2
            exact S.vlt e2
        cases hz0 : isZero q.c q.n with
        | true =>
          rw [hz0] at ha
          simp only [cond_true, RT.sel, Option.some.injEq, Prod.mk.injEq] at ha
          obtain ⟨rfl, rfl⟩ := ha
          have h0 := isZero_true hz0
          rw [h0] at hnx
          refine ⟨s', h, ι, ?_, hs, H, Stp.refl F H⟩
          unfold append_
          rcases hbase with ⟨rfl, _⟩ | ⟨id, c, s0, n, z', B, off, cap, cs, _, rfl, _, _, _, _, hcap, _⟩
          · rw [app_nil0 hu1 hu2 hune hk hby hzv hzl hnx]; exact hsame
          · rw [app_fit0 hu1 hu2 hune hk hby hzv hzl hnx hcap]; exact hsame
        | false =>
          rw [hz0] at ha
          simp only [cond_false] at ha
          obtain ⟨hchk, ha⟩ := sel_chk ha
          have hdrop : HRs F ι (sh.drop s) h ∧ Stp F ι sh h F ι (sh.drop s) h := by
            cases s with
            | nsl id k' c s0 n z' => exact H.gone (base_live hb).2.2.1
            | raw r => exact ⟨H, Stp.refl F H⟩
            | _ => cases hb
          -- the new block, whatever its kind
          have main : ∀ (id : Nat) (sbn : SB) (c0 : Bool) (z' : Nat), (sh.drop s).new sbn = some (id, sh') → v = .nsl id k c0 0 (p.n + q.n) z' → (p.n + q.n = 0 → z' = 1 ∧ ∃ f, sbn = .row k (p.n + q.n) f e) →
              (∀ (ι' : Im) h' B' C, ι.le ι' → ι' id = some B' → B'.k = k → B'.m = p.n + q.n → Stands h' B' C e → (∀ j, j < p.n * k → C[B'.o + j]? = cp[j]?) → (∀ j, j < q.n * k → C[B'.o + p.n * k + j]? = cx[j]?) → SbOk F ι' h' id sbn) →
              ∃ v' h' ι', append_ E t1 t2 s' x' h = some (v', h') ∧ VRs F ι' v v' ∧ HRs F ι' sh' h' ∧ Stp F ι sh h F ι' sh' h' := by
            intro id sbn c0 z' hnew hv hnone hok
            subst hv
            have fresh : ∀ (ι1 : Im) (sh1 : SH) (h1 : Hp), HRs F ι1 sh1 h1 → ι.le ι1 → sh1.new sbn = some (id, sh') → ∃ ha h' ι', newRow_ h1 e (cp ++ cx) false = some (⟨h1.next, 0, none⟩, ha) ∧ sight_ (.slice (some ⟨h1.next, 0, none⟩) (p.n + q.n) (p.n + q.n)) ha = some (.slice (some ⟨h1.next, 0, none⟩) (p.n + q.n) (p.n + q.n), h') ∧
                VRs F ι' (.nsl id k c0 0 (p.n + q.n) z') (.slice (some ⟨h1.next, 0, none⟩) (p.n + q.n) (p.n + q.n)) ∧ HRs F ι' sh' h' ∧ Stp F ι1 sh1 h1 F ι' sh' h' ∨ p.n + q.n = 0 := by
              intro ι1 sh1 h1 H1 hle hn1
              by_cases hm0 : p.n + q.n = 0
              · exact ⟨h1, h1, ι1, .inr hm0⟩
              have hlen : (cp ++ cx).length = (p.n + q.n) * k := by rw [List.length_append, P.len, Q.len, Nat.add_mul]
              obtain ⟨ha', h', ι', r1, r2, r3, r4, r5⟩ := new_loose H1 hn1 (cs := cp ++ cx) (t := e) (ones_append P.one Q.one) (m := p.n + q.n) (k := k) (n := p.n + q.n) (c := p.n + q.n) (by rw [hlen]; exact Nat.le_refl _)
                (fun ι' hle' hi' h' S => hok ι' h' _ _ (hle.trans hle') hi' rfl rfl S
                  (fun j hj => by simp only [Nat.zero_add]; rw [List.getElem?_append_left (by rw [P.len]; exact hj)])
                  (fun j hj => by simp only [Nat.zero_add]; rw [List.getElem?_append_right (by rw [P.len]; omega), P.len]; congr 1; omega))
              refine ⟨ha', h', ι', .inl ⟨r1, r2, ?_, r4, r5⟩⟩
              refine .nsl _ _ _ _ _ _ _ _ 0 _ r3 rfl (by simp) (Nat.le_refl _) (.inr (by simp)) (by simp only; rw [hlen]; omega) (.inr (.inl (by omega)))
            rcases hbase with ⟨rfl, hp0⟩ | ⟨idb, cb, s0, n, zb, B, off, cap, cs, rfl, rfl, hpn, hi, hBk, hs0, hcap, hT, hx1, hlive, S, hcut⟩
            · -- nil
              by_cases hq0 : q.n = 0
              · obtain ⟨rfl, f, rfl⟩ := hnone (by omega)
                rw [show p.n + q.n = 0 by omega] at hnew ⊢
                obtain ⟨r1, r2⟩ := HRs.newNone hdrop.1 hnew
                rw [hq0] at hnx
                refine ⟨_, h, ι, ?_, .nslN _ _ _ _ _ _ (Nat.le_refl _), r1, hdrop.2.trans r2⟩
                unfold append_
                rw [app_nil0 hu1 hu2 hune hk hby hzv hzl hnx]; exact hsame
              · obtain ⟨n, hn⟩ : ∃ n, q.n = n + 1 := ⟨q.n - 1, by omega⟩
                obtain ⟨ha', h', ι', r⟩ := fresh ι (sh.drop s) h hdrop.1 (Im.le.refl _) hnew
                rcases r with ⟨r1, r2, r3, r4, r5⟩ | r
                · have hcp : cp = [] := List.eq_nil_of_length_eq_zero (by rw [P.len, hp0]; simp)
                  have hm : p.n + q.n = n + 1 := by omega
                  rw [hn] at hnx
                  rw [hcp, List.nil_append] at r1
                  rw [hm] at r2 r3 ⊢
                  refine ⟨_, h', ι', ?_, r3, r4, hdrop.2.trans r5⟩
                  unfold append_
                  rw [hm] at hchk
                  rw [app_nil hu1 hu2 hune hk hby hzv hzl hnx hchk r1]
                  exact r2
                · omega
            · -- in a block
              obtain ⟨g1, g2, g3⟩ := lcut_some hcut
              have hcpat : ∀ j, j < n * k → cs[off + j]? = cp[j]? := fun j hj => (lcut_get hcut j hj).symm
              by_cases hfit : n + q.n ≤ cap
              · -- there is room
                have hT2 : off + (n + q.n) * k ≤ B.T := by
                  have : (n + q.n) * k ≤ cap * k := Nat.mul_le_mul_right _ hfit
                  omega
                obtain ⟨cs', hcs'⟩ := lputAt_ex (off + n * k) cs cx (by rw [Q.len, S.len]; rw [Nat.add_mul] at hT2; omega)
                have hb8 : B.b < 9223372036854775808 := by have := H.most; have := S.lt; omega
                have hg : ∀ j, (h.put B.b (.cells cs' e B.x false)).get j = if j = B.b then some (.cells cs' e B.x false) else h.get j := fun j => Hp.get_put hb8
                -- the block under its new name
                have moved : ∀ (C : List Value) (h' : Hp), h'.next = h.next → (∀ j, j ≠ B.b → h'.get j = h.get j) → h'.get B.b = some (.cells C e B.x false) → C.length = B.T → ones_ C = true → (∀ j, j < n * k → C[off + j]? = cp[j]?) → (∀ j, j < q.n * k → C[off + n * k + j]? = cx[j]?) →
                    ∃ ι', VRs F ι' (.nsl id k c0 0 (p.n + q.n) z') (.slice (some ⟨B.b, off, none⟩) (n + q.n) cap) ∧ HRs F ι' sh' h' ∧ Stp F ι sh h F ι' sh' h' := by
                  intro C h' e1 e2 e3 e4 e5 e6 e7
                  have S' : Stands h' ⟨B.b, off, p.n + q.n, k, B.T, B.x⟩ C e := ⟨e3, e4, e5, by simp only; rw [hpn]; exact hT2, fun hx => by simp only; rw [e2 _ (by omega)]; exact S.view hx, by simp only; rw [e1]; exact S.lt, fun hx => by simp only; rw [e1]; exact S.vlt hx⟩
                  obtain ⟨ι', q1, q2, q3⟩ := HRs.moved H hlive hi S.lt (fun v e => by rw [S.got] at e; cases e) hnew (B' := ⟨B.b, off, p.n + q.n, k, B.T, B.x⟩) rfl e1 e2 (fun ι' hle' hi' => hok ι' h' _ C hle' hi' rfl rfl S' (fun j hj => e6 j (by rw [← hpn]; exact hj)) (fun j hj => by simp only; rw [hpn]; exact e7 j hj))
                  refine ⟨ι', ?_, q2, q3⟩
                  rw [show n + q.n = p.n + q.n by omega]
                  exact .nsl _ _ _ _ _ _ _ ⟨B.b, off, p.n + q.n, k, B.T, B.x⟩ off cap q1 rfl (by simp) (by omega) (.inr (by simp)) hT (by rcases hx1 with r | r; exact .inl r; exact .inr (.inl r))
                cases hqn : q.n with
                | zero =>
                  rw [hqn] at hnx moved
                  obtain ⟨ι', r1, r2, r3⟩ := moved cs h rfl (fun _ _ => rfl) S.got S.len S.one hcpat (fun j hj => by omega)
                  refine ⟨_, h, ι', ?_, by simpa [hqn] using r1, r2, r3⟩
                  unfold append_
                  rw [app_fit0 hu1 hu2 hune hk hby hzv hzl hnx hcap]; exact hsame
                | succ m =>
                  have hput := storeCells_at S (a := B.b) (.inl rfl) Q.one hcs'
                  rw [hqn] at hnx moved hfit
                  obtain ⟨ι', r1, r2, r3⟩ := moved cs' (h.put B.b (.cells cs' e B.x false)) Hp.put_next (fun j hj => by rw [hg, if_neg hj]) (by rw [hg, if_pos rfl]) (by rw [lputAt_len hcs']; exact S.len) (ones_putAt S.one Q.one hcs')
                    (fun j hj => by rw [lputAt_get hcs' (off + j), if_neg (by omega)]; exact hcpat j hj)
                    (put_at hcs' (by rw [Q.len, hqn]))
                  refine ⟨_, _, ι', ?_, r1, r2, r3⟩
                  unfold append_
                  rw [app_fit (a := ⟨B.b, off, none⟩) (len := n) (cap := cap) hu1 hu2 hune hk hby hzv hzl hnx hfit (h' := h.put B.b (.cells cs' e B.x false)) hput]
                  simp only
                  refine sight_same fun a n' c' e1 e2 => ?_
                  injection e1 with e1 e3 e4
                  injection e1 with e1
                  subst e1
                  unfold isExact at e2
                  simp only [hg, if_pos rfl] at e2
                  injection e2 with e2
                  rw [Hp.put_next]
                  exact S.vlt e2
              · -- it grows
                have hchk2 : (Nat.ble ((n + q.n) * b) 140737488355328 && Nat.ble (n + q.n) 9223372036854775807) = true := by rw [← hpn]; exact hchk
                cases hx : B.x with
                | true =>
                  obtain ⟨ha', h', ι', r⟩ := fresh ι _ h hdrop.1 (Im.le.refl _) hnew
                  rcases r with ⟨r1, r2, r3, r4, r5⟩ | r
                  · refine ⟨_, h', ι', ?_, r3, r4, hdrop.2.trans r5⟩
                    unfold append_
                    rw [app_exact hu1 hu2 hune hk hby hzv hzl hnx hfit (a := ⟨B.b, off, none⟩) (by have := S.got; rw [hx] at this; exact this) hcut hchk2 r1]
                    simp only
                    rw [← hpn]; exact r2
                  · omega
                | false =>
                  obtain ⟨d1, d2⟩ := HRs.put H hlive hi S.lt (fun v e => by rw [S.got] at e; cases e) (x := .dead) (sb := .gone) trivial
                  obtain ⟨ha', h', ι', r⟩ := fresh ι _ _ d1 (Im.le.refl _) hnew
                  rcases r with ⟨r1, r2, r3, r4, r5⟩ | r
                  · refine ⟨_, h', ι', ?_, r3, r4, d2.trans r5⟩
                    unfold append_
                    rw [app_loose hu1 hu2 hune hk hby hzv hzl hnx hfit (a := ⟨B.b, off, none⟩) (by have := S.got; rw [hx] at this; exact this) hcut hchk2 (by simp only; rw [S.len]; exact hT) Q.one r1]
                    simp only
                    rw [← hpn]; exact r2
                  · omega
          cases hj : joined p q with
          | some l =>
            rw [hj] at ha
            simp only at ha
            split at ha
            · rename_i id sh2 hnew
              simp only [RT.sel, Option.some.injEq, Prod.mk.injEq] at ha
              obtain ⟨rfl, rfl⟩ := ha
              unfold joined at hj
              split at hj
              · rename_i pl' ql' hpl hql
                injection hj with hj; subst hj
                obtain ⟨pc, pe, pr, _⟩ := P.lit _ hpl
                obtain ⟨qc, qe, qr, _⟩ := Q.lit _ hql
                have hq0 : q.n ≠ 0 := fun e => by rw [qc] at hz0; unfold isZero at hz0; rw [e] at hz0; cases hz0
                refine main id _ true 0 hnew rfl (fun e => by omega) fun ι' h' B' C hle hi' hBk hBm S hc1 hc2 => ?_
                refine ⟨B', C, hi', hBk, by rw [hBm, List.length_append, pe, qe], S, fun i r hr => ?_⟩
                by_cases hlt : i < p.n
                · rw [List.getElem?_append_left (by omega)] at hr
                  refine ((pr i r hr).mono (Fz.le.refl _) hle).carry fun j hj => ?_
                  have : (i + 1) * k ≤ p.n * k := Nat.mul_le_mul_right _ hlt
                  rw [Nat.add_mul] at this
                  rw [Nat.add_assoc]; exact hc1 _ (by omega)
                · rw [List.getElem?_append_right (by omega)] at hr
                  have hi2 : i - pl'.length < q.n := by have := (List.getElem?_eq_some_iff.1 hr).1; omega
                  refine ((qr _ r hr).mono (Fz.le.refl _) hle).carry fun j hj => ?_
                  have : (i - pl'.length + 1) * k ≤ q.n * k := Nat.mul_le_mul_right _ hi2
                  rw [Nat.add_mul] at this
                  have hh : B'.o + i * k + j = B'.o + p.n * k + ((i - pl'.length) * k + j) := by
                    have : i * k = p.n * k + (i - pl'.length) * k := by rw [← Nat.add_mul]; congr 1; omega
                    omega
                  rw [hh]; exact hc2 _ (by omega)
              · cases hj
            · cases ha
          | none =>
            rw [hj] at ha
            simp only at ha
            split at ha
            · rename_i id sh2 hfr hnew
              simp only [RT.sel, Option.some.injEq, Prod.mk.injEq] at ha
              obtain ⟨rfl, rfl⟩ := ha
              rw [Bool.and_eq_true] at hfr
              refine main id _ _ 1 hnew rfl (fun e => ⟨rfl, _, rfl⟩) fun ι' h' B' C hle hi' hBk hBm S hc1 hc2 => ?_
              refine .inr ⟨B', C, hi', hBk, hBm, S, fun i hi => ?_⟩
              refine joined_rel (fun i hi => ?_) (fun l hl => ?_) (fun i hi => ?_) hi
              · refine (P.free hfr.1 i hi).carry fun j hj => ?_
                have : (i + 1) * k ≤ p.n * k := Nat.mul_le_mul_right _ hi
                rw [Nat.add_mul] at this
                rw [Nat.add_assoc]; exact hc1 _ (by omega)
              · obtain ⟨pc, pe, _, pr⟩ := P.lit _ hl
                refine ⟨pe, fun i r hr => (pr hfr.1 i r hr).carry fun j hj => ?_⟩
                have hi2 : i < p.n := by have := (List.getElem?_eq_some_iff.1 hr).1; omega
                have : (i + 1) * k ≤ p.n * k := Nat.mul_le_mul_right _ hi2
                rw [Nat.add_mul] at this
                rw [Nat.add_assoc]; exact hc1 _ (by omega)
              · refine (Q.free hfr.2 i hi).carry fun j hj => ?_
                have : (i + 1) * k ≤ q.n * k := Nat.mul_le_mul_right _ hi
                rw [Nat.add_mul] at this
                have hh : B'.o + (p.n + i) * k + j = B'.o + p.n * k + (i * k + j) := by rw [Nat.add_mul]; omega
                rw [hh]; exact hc2 _ (by omega)
            · cases ha
      · cases ha
    · cases ha
  · cases ha
end
end Go.Proofs.YthloojeefdjpjaaGreatDoor.Se

/- The symbolic evaluator's other operations on memory, beside the evaluator's. -/
namespace Go.Proofs.YthloojeefdjpjaaGreatDoor.Se
open Go Go.Proofs.YthloojeefdjpjaaGreatDoor
set_option linter.unusedVariables false
set_option linter.unusedSimpArgs false
set_option maxRecDepth 20000
section
variable {F : Fz} {ι : Im} {sh sh' : SH} {h : Hp}

/-- one new variable -/
theorem var_rel {e : TypeId} {k : Nat} {z : List SV} {vs : List Value} {id : Nat} (H : HRs F ι sh h) (L : LRs F ι z vs) (hk : z.length = k) (h1 : ones_ vs = true) (hn : sh.new (.lst k [z] e) = some (id, sh')) :
    ∃ h' ι', newRow_ h e vs true = some (⟨h.next, 0, none⟩, h') ∧ VRs F ι' (.ptr id k true 0 0) (.pointer (some ⟨h.next, 0, none⟩)) ∧ HRs F ι' sh' h' ∧ Stp F ι sh h F ι' sh' h' := by
  obtain ⟨h', ι', q1, q2, q3, q4⟩ := new_exact H hn (cs := vs) (t := e) h1 (m := 1) (k := k) (by rw [← L.1]; omega)
    (fun ι' hle hi h' S => ⟨_, vs, hi, rfl, rfl, S, fun i r hr => by
      cases i with
      | zero =>
        simp at hr; subst hr
        refine ⟨hk, fun j x y hx hy => (L.2 j x y hx ?_).up hle⟩
        simpa using hy
      | succ i => simp at hr⟩)
  refine ⟨h', ι', q1, ?_, q3, q4⟩
  have := VRs.ptr (F := F) ι' id k true 0 0 _ h.next q2 rfl (by simp) (.inl rfl)
  simpa using this
theorem buildSlice_rel {E : Env} {t : TypeId} {len : Nat} {l : List (Nat × SV)} {l' : List (Nat × Value)} {v : SV} (H : HRs F ι sh h) (hl : l.length = l'.length)
    (hr : ∀ (i : Nat) (p : Nat × SV) (q : Nat × Value), l[i]? = some p → l'[i]? = some q → p.1 = q.1 ∧ VRs F ι p.2 q.2) (hb : buildSlice1_ E t len l sh = some (v, sh')) :
    ∃ v' h' ι', buildSlice_ E t len l' h = some (v', h') ∧ VRs F ι' v v' ∧ HRs F ι' sh' h' ∧ Stp F ι sh h F ι' sh' h' := by
  unfold buildSlice1_ at hb
  split at hb
  · rename_i e hu
    split at hb
    · rename_i s z hs hz
      cases hc : (Nat.ble (len * s) 16777216 && Nat.beq z.length s) with
      | false => rw [hc] at hb; cases hb
      | true =>
        rw [hc] at hb
        simp only [cond_true] at hb
        obtain ⟨zv, hzv, Z, o1, _⟩ := zero_rel (F := F) (ι := ι) hz
        split at hb
        · rename_i c hcf
          obtain ⟨cs', q1, q2, q3⟩ := fill_rel hl hr (rep_rel Z len) (rep_ones o1 len) hcf
          split at hb
          · rename_i id sh2 hn
            injection hb with hb; injection hb with e1 e2; subst e1; subst e2
            rw [Bool.and_eq_true] at hc
            have hzs := Nat.eq_of_beq_eq_true hc.2
            have hclen : c.length = len * s := by
              have : ∀ {place : Nat → Option (Nat × Nat)} {l : List (Nat × SV)} {cells r : List SV}, fill1_ place cells l = some r → r.length = cells.length := by
                intro place l
                induction l with
                | nil => intro cells r h; injection h with h; rw [h]
                | cons p l ih =>
                  intro cells r h
                  unfold fill1_ at h
                  split at h
                  · cases h
                  · rename_i off size _
                    cases hq : (Nat.beq p.2.cells.length size && ones1_ p.2.cells) with
                    | false => rw [hq] at h; cases h
                    | true =>
                      rw [hq] at h
                      simp only [cond_true] at h
                      split at h
                      · rename_i c2 hc2
                        rw [ih h, lputAt_len hc2]
                      · cases h
              rw [this hcf, rep_len, hzs]
            obtain ⟨r1, r2⟩ := rows_rel (k := s) (n := len) q2 hclen
            obtain ⟨h', ι', g1, g2, g3, g4⟩ := new_exact H hn (cs := cs') (t := e) q3 (m := len) (k := s) (by rw [← q2.1, hclen]; exact Nat.le_refl _)
              (fun ι' hle hi h' S => ⟨_, cs', hi, rfl, by simp only; rw [r1], S, fun i r hr => by simp only [Nat.zero_add]; exact (r2 i r hr).mono (Fz.le.refl _) hle⟩)
            refine ⟨.slice (some ⟨h.next, 0, none⟩) len len, h', ι', ?_, ?_, g3, g4⟩
            · unfold buildSlice_
              rw [hu]
              have hc2 : (Nat.ble (len * s) 16777216 && Nat.beq zv.cells.toList.length s) = true := by rw [hc.1, ← Z.1, hc.2]; rfl
              simp only [hs, hzv, hc2, cond_true, q1, g1]
            · exact .nsl _ _ _ _ _ _ _ _ 0 len g2 rfl (by simp) (Nat.le_refl _) (.inr (by simp)) (by simp only; rw [← q2.1, hclen]; omega) (.inl rfl)
          · cases hb
        · cases hb
    · cases hb
  · cases hb
theorem makeSlice_rel {E : Env} {t : TypeId} {l c v : SV} {l' c' : Value} (H : HRs F ι sh h) (hl : VRs F ι l l') (hc : VRs F ι c c') (hm : (makeSlice1_ E t l c sh).sel = some (v, sh')) :
    ∃ v' h' ι', makeSlice_ E t l' c' h = some (v', h') ∧ VRs F ι' v v' ∧ HRs F ι' sh' h' ∧ Stp F ι sh h F ι' sh' h' := by
  unfold makeSlice1_ at hm
  split at hm
  · rename_i e hu
    split at hm
    · rename_i s b z hs hb hz
      obtain ⟨k1, c1, cl, n, rfl, h2⟩ := sel_asNat hm
      obtain ⟨k2, c2, cc, m, rfl, h3⟩ := sel_asNat h2
      obtain rfl := hl.int_inv
      obtain rfl := hc.int_inv
      obtain ⟨hq, h4⟩ := sel_chk h3
      obtain ⟨zv, hzv, Z, o1, fz⟩ := zero_rel (F := F) (ι := ι) hz
      have hnm : n ≤ m := by
        rw [Bool.and_eq_true, Bool.and_eq_true] at hq
        exact Nat.le_of_ble_eq_true hq.1.1
      split at h4
      · rename_i hzs
        split at h4
        · rename_i id sh2 hn
          simp only [RT.sel, Option.some.injEq, Prod.mk.injEq] at h4
          obtain ⟨rfl, rfl⟩ := h4
          have hzs' := Nat.eq_of_beq_eq_true hzs
          have hlen : (rep_ zv.cells.toList m).length = m * s := by rw [rep_len, ← Z.1, hzs']
          have hrow : ∀ i, i < m → RowR F Im0 (rep_ zv.cells.toList m) (i * s) s z := by
            intro i hi
            have Z0 : LRs F Im0 z zv.cells.toList := free_lrs Z fz
            have : ∀ (m i : Nat), i < m → ∀ j, j < s → (rep_ zv.cells.toList m)[i * s + j]? = zv.cells.toList[j]? := by
              intro m
              induction m with
              | zero => intro i hi; omega
              | succ m ih =>
                intro i hi j hj
                unfold rep_
                have hzl : zv.cells.toList.length = s := by rw [← Z.1, hzs']
                cases i with
                | zero => rw [List.getElem?_append_left (by omega)]; congr 1; omega
                | succ i =>
                  rw [List.getElem?_append_right (by rw [Nat.add_mul]; omega), hzl]
                  rw [show (i + 1) * s + j - s = i * s + j by rw [Nat.add_mul]; omega]
                  exact ih i (by omega) j hj
            exact RowR.of_lrs Z0 hzs' (this m i hi)
          obtain ⟨h', ι', g1, g2, g3, g4⟩ := new_exact H hn (cs := rep_ zv.cells.toList m) (t := e) (rep_ones o1 m) (m := n) (k := s) (by rw [hlen]; exact Nat.mul_le_mul_right _ hnm)
            (fun ι' hle hi h' S => .inr ⟨_, _, hi, rfl, rfl, S, fun i hi => by simp only [Nat.zero_add]; exact hrow i (by omega)⟩)
          refine ⟨.slice (some ⟨h.next, 0, none⟩) n m, h', ι', ?_, ?_, g3, g4⟩
          · unfold makeSlice_
            have hq2 : (Nat.ble n m && Nat.ble (m * b) 140737488355328 && Nat.ble m 9223372036854775807 && Nat.beq zv.cells.toList.length s) = true := by rw [hq, ← Z.1, hzs]; rfl
            simp only [hu, hs, hb, hzv, hq2, cond_true, g1]
          · exact .nsl _ _ _ _ _ _ _ _ 0 m g2 rfl (by simp) hnm (.inr (by simp)) (by simp only; rw [hlen]; omega) (.inl rfl)
        · cases h4
      · cases h4
    · cases hm
  · cases hm
theorem len_rel {E : Env} {t : TypeId} {x v : SV} {x' : Value} (H : HRs F ι sh h) (hx : VRs F ι x x') (hl : len1_ E t x sh = some v) : ∃ v', len_ E t x' h = some v' ∧ VRs F ι v v' := by
  unfold len1_ at hl
  split at hl
  · rename_i c s hu; injection hl with hl; subst hl; obtain rfl := hx.str_inv; unfold len_; rw [hu, mkI_eq]; exact ⟨_, rfl, .int ..⟩
  · rename_i n e _ hu; injection hl with hl; subst hl; unfold len_; rw [hu]
    refine ⟨_, ?_, .int ..⟩
    cases x' <;> rfl
  · rename_i n e _ _ _ _ _ hu; injection hl with hl; subst hl; unfold len_; rw [hu]
    refine ⟨_, ?_, .int ..⟩
    cases x' <;> rfl
  · rename_i e hu; injection hl with hl; subst hl; obtain ⟨rfl, _⟩ := hx.raw_inv; unfold len_; rw [hu]; exact ⟨_, rfl, .int ..⟩
  · rename_i e _ _ c _ n _ hu; injection hl with hl; subst hl
    unfold len_; rw [hu, mkI_eq]
    cases hx <;> exact ⟨_, rfl, .int ..⟩
  · rename_i hu; injection hl with hl; subst hl
    unfold len_; rw [hu, mkI_eq]
    cases hx; exact ⟨_, rfl, .int ..⟩
  · rename_i hu; injection hl with hl; subst hl
    unfold len_; rw [hu]
    cases hx <;> exact ⟨_, rfl, .int ..⟩
  · rename_i hu; injection hl with hl; subst hl; obtain ⟨rfl, _⟩ := hx.raw_inv; unfold len_; rw [hu]; exact ⟨_, rfl, .int ..⟩
  · rename_i r hu
    split at hl
    · rename_i es c hg
      injection hl with hl; subst hl
      cases hx with
      | mp _ _ B hB =>
        obtain ⟨B', q1, q2, q3⟩ := H.ok r _ hg
        rw [hB] at q1; injection q1 with q1; subst q1
        unfold len_; rw [hu]; simp only [q2]
        exact ⟨_, rfl, .int ..⟩
    · cases hl
  · cases hl
theorem entries_rel {m : SV} {m' : Value} {es : List MapEntry} (H : HRs F ι sh h)
    (he : (match m with | .raw (.map none) => some [] | .mp r => (match sh.get r with | some (.mp es _) => some es | _ => none) | _ => none) = some es) (hm : VRs F ι m m') : entries_ h m' = some es := by
  split at he
  · obtain ⟨rfl, _⟩ := hm.raw_inv; injection he with he; subst he; rfl
  · rename_i r
    split at he
    · rename_i es2 c hg
      injection he with he; subst he
      cases hm with
      | mp _ _ B hB =>
        obtain ⟨B', q1, q2, q3⟩ := H.ok r _ hg
        rw [hB] at q1; injection q1 with q1; subst q1
        unfold entries_; simp only [q2]
    · cases he
  · cases he
theorem lookup_rel {E : Env} {t : TypeId} {m k v : SV} {m' k' : Value} {ok : Bool} (H : HRs F ι sh h) (hm : VRs F ι m m') (hk : VRs F ι k k') (hl : lookup1_ E t m k ok sh = some v) : ∃ v', lookup_ E t m' k' ok h = some v' ∧ VRs F ι v v' := by
  unfold lookup1_ at hl
  split at hl
  · rename_i kt et kk hu hkk
    obtain rfl := val_rel hk hkk
    split at hl
    · rename_i d es hd he
      have he' := entries_rel H he hm
      unfold lookup_
      simp only [hu, hd, he']
      cases hkey : isKey_ d k' with
      | false => rw [hkey] at hl; cases hl
      | true =>
        rw [hkey] at hl
        simp only [cond_true] at hl ⊢
        split at hl
        · rename_i i w hf
          simp only [hf]
          split at hl
          · rename_i w' hw
            injection hl with hl; subst hl
            refine ⟨_, rfl, ?_⟩
            cases ok with
            | true => exact .tup_of (.cons (ofV_rel hw) (.cons (.bool ..) (.nil ..)))
            | false => exact ofV_rel hw
          · cases hl
        · rename_i hf
          simp only [hf]
          split at hl
          · rename_i z hz
            simp only [hz]
            split at hl
            · rename_i z' hz'
              injection hl with hl; subst hl
              refine ⟨_, rfl, ?_⟩
              cases ok with
              | true => exact .tup_of (.cons (ofV_rel hz') (.cons (.bool ..) (.nil ..)))
              | false => exact ofV_rel hz'
            · cases hl
          · cases hl
        · cases hl
    · cases hl
  · cases hl
theorem mapUpdate_rel {E : Env} {t : TypeId} {m k v : SV} {m' k' v' : Value} (H : HRs F ι sh h) (hm : VRs F ι m m') (hk : VRs F ι k k') (hv : VRs F ι v v') (hl : mapUpdate1_ E t m k v sh = some sh') :
    ∃ h', mapUpdate_ E t m' k' v' h = some h' ∧ HRs F ι sh' h' ∧ Stp F ι sh h F ι sh' h' := by
  unfold mapUpdate1_ at hl
  split at hl
  · rename_i kt et r kk vv hu hkk hvv
    obtain rfl := val_rel hk hkk
    obtain rfl := val_rel hv hvv
    split at hl
    · rename_i d es clock hd hg
      cases hm with
      | mp _ _ B hB =>
        obtain ⟨B', q1, q2, q3⟩ := H.ok r _ hg
        rw [hB] at q1; injection q1 with q1; subst q1
        have hb8 : B.b < 9223372036854775808 := by have := H.most; omega
        have put : ∀ es' c', HRs F ι (sh.put r (.mp es' c')) (h.put B.b (.map es' c')) ∧ Stp F ι sh h F ι (sh.put r (.mp es' c')) (h.put B.b (.map es' c')) := fun es' c' =>
          HRs.put H ⟨_, hg, by intro e; cases e⟩ hB q3 (fun v e => by rw [q2] at e; cases e) ⟨B, hB, by rw [Hp.get_put hb8, if_pos rfl], by rw [Hp.put_next]; exact q3⟩
        unfold mapUpdate_
        simp only [hu, hd, q2]
        cases hkey : (isKey_ d k' && plain_ v') with
        | false => rw [hkey] at hl; cases hl
        | true =>
          rw [hkey] at hl
          simp only [cond_true] at hl ⊢
          split at hl
          · rename_i hf
            simp only [hf]
            injection hl with hl; subst hl
            exact ⟨_, rfl, put _ _⟩
          · rename_i i w hf
            simp only [hf]
            split at hl
            · rename_i en hen
              simp only [hen]
              split at hl
              · rename_i es' hes
                simp only [hes]
                cases hsame : same1_ en.key k' with
                | false => rw [hsame] at hl; cases hl
                | true =>
                  rw [hsame] at hl
                  simp only [cond_true] at hl ⊢
                  injection hl with hl; subst hl
                  exact ⟨_, rfl, put _ _⟩
              · cases hl
            · cases hl
          · cases hl
    · cases hl
  · cases hl
theorem makeMap_rel {id : Nat} (H : HRs F ι sh h) (hn : sh.new (.mp [] 0) = some (id, sh')) : ∃ b h' ι', h.new (.map [] 0) = some (b, h') ∧ VRs F ι' (.mp id) (.map (some b)) ∧ HRs F ι' sh' h' ∧ Stp F ι sh h F ι' sh' h' := by
  obtain ⟨_, _, _, _, _, n6, _⟩ := SH.new_some hn
  have := H.most
  obtain ⟨h', e1, e2, e3⟩ := Hp.new_ok (h := h) (x := .map [] 0) (by omega)
  obtain ⟨ι', q1, q2, q3⟩ := HRs.new H hn (B := ⟨h.next, 0, 0, 0, 0, true⟩) (h' := h') (Nat.le_refl _) (by simp only; omega) (by omega) (by omega) (fun j hj => by rw [e3, if_neg (by omega)])
    (fun ι' hle hi => ⟨_, hi, by simp only; rw [e3, if_pos rfl], by simp only; omega⟩)
  exact ⟨_, h', ι', e1, .mp _ _ _ q1, q2, q3⟩
theorem bytesL_rel : ∀ {l : List (List SV)} {s : List UInt8} {cs : List Value} {p : Nat}, bytesL l = some s → (∀ i r, l[i]? = some r → RowR F ι cs (p + i * 1) 1 r) → p + l.length ≤ cs.length → bytes_ ((cs.drop p).take l.length) = some s
  | [], s, cs, p, h, hr, hl => by injection h with h; subst h; simp [bytes_]
  | r :: l, s, cs, p, h, hr, hl => by
    unfold bytesL at h
    split at h
    · cases ‹_ :: _ = []›
    · rename_i n l2 heq
      injection heq with e1 e2; subst e1; subst e2
      split at h
      · rename_i s2 hs2
        injection h with h; subst h
        simp only [List.length_cons] at hl ⊢
        have hp : p < cs.length := by omega
        have h0 := hr 0 _ rfl
        have hv : cs[p]? = some cs[p] := List.getElem?_eq_getElem hp
        have := h0.2 0 _ cs[p] rfl (by simp only [Nat.zero_mul, Nat.add_zero]; exact hv)
        have hi := this.int_inv
        rw [List.drop_eq_getElem_cons hp, List.take_succ_cons, hi]
        unfold bytes_
        rw [bytesL_rel (p := p + 1) hs2 (fun i r hi => by
          have := hr (i + 1) r (by simpa using hi)
          rw [show p + 1 + i * 1 = p + (i + 1) * 1 by omega]; exact this) (by omega)]
      · cases h
    · cases h
theorem bytes1_rel {e : Nat → List SV} : ∀ {n : Nat} {cs : List Value} {p : Nat}, (∀ i, i < n → RowR F ι cs (p + i) 1 (e i)) → (∀ i, i < n → isByte (e i) = true) → p + n ≤ cs.length → bytes_ ((cs.drop p).take n) = some ((List.range n).map fun i => byteOf (e i)) := by
  have one : ∀ {cs : List Value} {p i : Nat} {r : List SV}, RowR F ι cs p 1 r → isByte r = true → p < cs.length → ∃ m : Nat, cs[p]? = some (.int .u8 (.ofNat m)) ∧ byteOf r = UInt8.ofNat m := by
    intro cs p i r R hb hp
    unfold isByte at hb
    split at hb
    · rename_i c x
      have hv : cs[p]? = some cs[p] := List.getElem?_eq_getElem hp
      have := (R.2 0 _ cs[p] rfl (by simp only [Nat.add_zero]; exact hv)).int_inv
      have hx : 0 ≤ x := of_decide_eq_true hb
      obtain ⟨m, rfl⟩ := Int.eq_ofNat_of_zero_le hx
      exact ⟨m, by rw [hv, this]; rfl, rfl⟩
    · cases hb
  intro n
  induction n with
  | zero => intro cs p _ _ _; simp [bytes_]
  | succ n ih =>
    intro cs p hr hb hl
    have hsnoc : ∀ (l : List Value) (m : Nat) (s : List UInt8), bytes_ l = some s → bytes_ (l ++ [.int .u8 (.ofNat m)]) = some (s ++ [UInt8.ofNat m]) := by
      intro l m
      induction l with
      | nil => intro s h; injection h with h; subst h; rfl
      | cons x l ih2 =>
        intro s h
        unfold bytes_ at h
        split at h
        · cases ‹_ :: _ = []›
        · rename_i n2 l2 heq
          injection heq with e1 e2; subst e1; subst e2
          split at h
          · rename_i s2 hs2
            injection h with h; subst h
            simp only [List.cons_append]
            unfold bytes_
            rw [ih2 _ hs2]
          · cases h
        · cases h
    obtain ⟨m, q1, q2⟩ := one (i := n) (hr n (by omega)) (hb n (by omega)) (by omega)
    have h1 := ih (fun i hi => hr i (by omega)) (fun i hi => hb i (by omega)) (by omega : p + n ≤ cs.length)
    rw [List.range_succ, List.map_append, List.take_add_one, List.getElem?_drop, q1]
    simp only [Option.toList_some, List.map_cons, List.map_nil]
    rw [q2]
    exact hsnoc _ _ _ h1
end
end Go.Proofs.YthloojeefdjpjaaGreatDoor.Se

