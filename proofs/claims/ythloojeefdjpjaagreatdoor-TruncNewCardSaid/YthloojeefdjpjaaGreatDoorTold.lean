/- Functions of the library whose answers its contracts tell: strings.Repeat, ToUpper, Join, FieldsFunc at a predicate; a Builder's copyCheck. -/
import Derived.Test.YthloojeefdjpjaaGreatDoorSp
import Derived.Lib.Repeat
import Derived.Lib.Case
import Derived.Lib.Join
import Derived.Lib.FieldsP
import Derived.OwnWalk
namespace Go.Proofs.YthloojeefdjpjaaGreatDoor
open Go Go.RowKit
set_option linter.unusedVariables false
set_option linter.unusedSimpArgs false
section
variable {P : Program} {gl : Nat} {f : FuncId}
/-- A contract that tells the value; below the heap's end the world is as it was. -/
theorem told_value (hent : Enters P f) {args' : Array Value} {w : World} {v' : Value} (hc : Calls P f args' w fun e w' => e = .returned v' ∧ Below w.heap.size w w')
    {β : Bt} {h : Hp} {v : Value} (H : HR P β h w) (hv : VR β v v') : Answers P β h w h v ((callFunc f args').run P w) := by
  refine .inr ⟨_, _, hent _ w, hc.mono ?_⟩
  rintro e w2 ⟨rfl, hB⟩
  exact ⟨_, β, rfl, H.below hB, St.below hB, hv⟩
/-- A row of a call's own stands for a new row of the evaluator's. -/
theorem HR.owned {β : Bt} {h h' : Hp} {w w' : World} (H : HR P β h w) {a : Addr} {e : TypeId} {cs cs' : List Value} (hn : newRow_ h e cs true = some (a, h')) (B : Below w.heap.size w w') {A : Nat} (hA : w.heap.size ≤ A) (hb : w'.heap[A]? = some (.cells cs'.toArray e (0, 0))) (hl : LR β cs cs') :
    ∃ β', HR P β' h' w' ∧ St β h w β' h' w' ∧ ∃ b, a = ⟨b, 0, none⟩ ∧ β' b = some ⟨A, 0, 0⟩ := by
  unfold newRow_ at hn
  cases hq : h.new (.cells cs e true false) with
  | none => rw [hq] at hn; cases hn
  | some r =>
    obtain ⟨b, h2⟩ := r
    rw [hq] at hn
    simp only [Option.some.injEq, Prod.mk.injEq] at hn
    obtain ⟨rfl, rfl⟩ := hn
    have hle := H.le_put (⟨A, 0, 0⟩ : Info)
    have hbn := (Hp.new_some hq).1
    have H' := H.grow hq ⟨A, 0, 0⟩ (fun b y j he hj hne => B.block _ (blk_lt (H.ok _ _ _ he hj) hne))
      (.inr ⟨cs'.toArray, e, (0, 0), hb, by have := hl.1; simp; omega, fun k x y hx hy => by
          rw [Nat.zero_add] at hy
          exact (hl.2 k x y hx (by simpa using hy)).mono hle, fun _ => ⟨rfl, rfl, by have := hl.1; simp; omega⟩, fun _ => ⟨rfl, .inl rfl, by have := hl.1; simp; omega⟩⟩)
      (fun _ b y j he hj hne => by have := blk_lt (H.ok _ _ _ he hj) hne; show j.blk ≠ A; omega)
    refine ⟨_, H', ⟨hle, B.os, B.tape, B.output, B.size, fun k hk _ => B.block k hk, fun k hk => ?_, fun k hk => ?_⟩, b, rfl, ?_⟩
    · rcases own_grow H hq _ hk with h1 | ⟨_, h1⟩
      · exact .inl h1
      · exact .inr (by have : A = k := h1; omega)
    · rcases held_grow H hq _ hk with h1 | ⟨_, h1⟩
      · exact .inl h1
      · exact .inr (by have : A = k := h1; omega)
    · rw [hbn]; exact Bt.put_same _ _ _

/-! ### strings.Repeat, strings.ToUpper -/
def spRepeat (args : List Value) (h : Hp) : Option (Value × Hp) :=
  match args with
  | [.string s, .int .i64 (.ofNat c)] => bif Nat.ble c 9223372036854775807 && Nat.ble (s.data.toList.length * c) 140737488355328 then some (.string ⟨⟨Lib.repeatL s.data.toList c⟩⟩, h) else none
  | _ => none
theorem repeat_told (hent : Enters P f)
    (hc : ∀ (s : ByteArray) (c : Nat) (w : World), c ≤ 9223372036854775807 → s.size * c ≤ 140737488355328 → Calls P f #[.string s, .int .i64 c] w fun e w' => e = .returned (.string ⟨(Lib.repeatL s.data.toList c).toArray⟩) ∧ Below w.heap.size w w') : ToldOk P gl f spRepeat :=
  told_of fun args args' h h2 v β w hq hl H hgb => by
    unfold spRepeat at hq
    split at hq
    · rename_i s c
      cases hb : Nat.ble c 9223372036854775807 && Nat.ble (s.data.toList.length * c) 140737488355328 with
      | false => rw [hb] at hq; cases hq
      | true =>
        rw [hb, cond_true] at hq
        simp only [Option.some.injEq, Prod.mk.injEq] at hq
        obtain ⟨rfl, rfl⟩ := hq
        simp only [Bool.and_eq_true] at hb
        obtain ⟨x', y', rfl, hx, hy⟩ := two_args hl
        rw [hx.string_inv, hy.int_inv]
        exact told_value hent (hc s c w (Nat.le_of_ble_eq_true hb.1) (Nat.le_of_ble_eq_true hb.2)) H (.string _)
    · cases hq
def asciis_ : List UInt8 → Bool
  | [] => true
  | b :: l => match Nat.blt b.toNat 128 with | true => asciis_ l | false => false
theorem asciis_all : ∀ {l : List UInt8}, asciis_ l = true → ∀ (j : Nat) (b : UInt8), l[j]? = some b → b.toNat < 128 := by
  intro l
  induction l with
  | nil => intro _ j b h; simp at h
  | cons x l ih =>
    intro h j b hj
    unfold asciis_ at h
    split at h
    · rename_i hx
      cases j with
      | zero => simp only [List.getElem?_cons_zero, Option.some.injEq] at hj; subst hj; exact Nat.le_of_ble_eq_true hx
      | succ j => exact ih h j b (by simpa using hj)
    · cases h
theorem one_arg {β : Bt} {x : Value} {l : List Value} (h : LR β [x] l) : ∃ x', l = [x'] ∧ VR β x x' := by
  obtain ⟨h1, h2⟩ := h
  match l, h1 with
  | [x'], _ => exact ⟨x', rfl, h2 0 x x' rfl rfl⟩
def spUpper (args : List Value) (h : Hp) : Option (Value × Hp) :=
  match args with
  | [.string s] => bif asciis_ s.data.toList && Nat.ble s.data.toList.length 140737488355328 then some (.string ⟨⟨Lib.toUpperA s.data.toList⟩⟩, h) else none
  | _ => none
theorem upper_told (hent : Enters P f)
    (hc : ∀ (s : ByteArray) (w : World), s.size ≤ 140737488355328 → (∀ (j : Nat) (b : UInt8), s.data.toList[j]? = some b → b.toNat < 128) → Calls P f #[.string s] w fun e w' => e = .returned (.string ⟨(Lib.toUpperA s.data.toList).toArray⟩) ∧ Below w.heap.size w w') : ToldOk P gl f spUpper :=
  told_of fun args args' h h2 v β w hq hl H hgb => by
    unfold spUpper at hq
    split at hq
    · rename_i s
      cases hb : asciis_ s.data.toList && Nat.ble s.data.toList.length 140737488355328 with
      | false => rw [hb] at hq; cases hq
      | true =>
        rw [hb, cond_true] at hq
        simp only [Option.some.injEq, Prod.mk.injEq] at hq
        obtain ⟨rfl, rfl⟩ := hq
        simp only [Bool.and_eq_true] at hb
        obtain ⟨x', rfl, hx⟩ := one_arg hl
        rw [hx.string_inv]
        exact told_value hent (hc s w (Nat.le_of_ble_eq_true hb.2) (asciis_all hb.1)) H (.string _)
    · cases hq

/-! ### strings.Join -/
def strs_ : List Value → Option (List ByteArray)
  | [] => some []
  | .string s :: l => match strs_ l with | some r => some (s :: r) | none => none
  | _ => none
theorem strs_eq : ∀ {cs : List Value} {xs : List ByteArray}, strs_ cs = some xs → cs = xs.map Value.string := by
  intro cs
  induction cs with
  | nil => intro xs h; cases h; rfl
  | cons v l ih =>
    intro xs h
    unfold strs_ at h
    split at h
    · rename_i he; cases he
    · rename_i s l' he
      cases he
      cases hr : strs_ l with
      | none => rw [hr] at h; cases h
      | some r => rw [hr] at h; cases h; rw [ih hr]; rfl
    · cases h
def spJoin (args : List Value) (h : Hp) : Option (Value × Hp) :=
  match args with
  | [.slice (some a) n c, .string sep] => match Nat.ble n c && Nat.ble n 140737488355328, loadCells_ h a n with
    | true, some cs => match strs_ cs with
      | some xs => bif Nat.ble (Lib.join (xs.map (·.data.toList)) sep.data.toList).length 140737488355328 then some (.string ⟨⟨Lib.join (xs.map (·.data.toList)) sep.data.toList⟩⟩, h) else none
      | none => none
    | _, _ => none
  | _ => none
theorem join_told (hent : Enters P f)
    (hc : ∀ (bk o c : Nat) (xs : List ByteArray) (sep : ByteArray) (w : World), (∀ (j : Nat) x, xs[j]? = some x → w.cell? ⟨bk, o + j, none⟩ = some (.string x)) → (bk < w.heap.size ∨ xs = []) → xs.length ≤ 140737488355328 → xs.length ≤ c →
      (Lib.join (xs.map (·.data.toList)) sep.data.toList).length ≤ 140737488355328 → Calls P f #[.slice (some ⟨bk, o, none⟩) xs.length c, .string sep] w fun e w' => e = .returned (.string ⟨(Lib.join (xs.map (·.data.toList)) sep.data.toList).toArray⟩) ∧ Below w.heap.size w w') : ToldOk P gl f spJoin :=
  told_of fun args args' h h2 v β w hq hl H hgb => by
    unfold spJoin at hq
    split at hq
    · rename_i a n c sep
      split at hq
      · rename_i cs hb hld
        simp only [Bool.and_eq_true] at hb
        cases hs : strs_ cs with
        | none => rw [hs] at hq; cases hq
        | some xs =>
          rw [hs] at hq
          simp only at hq
          cases hj : Nat.ble (Lib.join (xs.map (·.data.toList)) sep.data.toList).length 140737488355328 with
          | false => rw [hj] at hq; cases hq
          | true =>
            rw [hj, cond_true] at hq
            simp only [Option.some.injEq, Prod.mk.injEq] at hq
            obtain ⟨rfl, rfl⟩ := hq
            obtain ⟨x', y', rfl, hx, hy⟩ := two_args hl
            rw [hy.string_inv]
            obtain ⟨i, hadr, hi, rfl⟩ := hx.slice_inv
            have hcs := strs_eq hs
            subst hcs
            have hlen : xs.length = n := by
              have := (loadCells_run (P := P) H hld hi).choose_spec.2.2
              simpa using this
            have hcell : ∀ (j : Nat) x, xs[j]? = some x → w.cell? ⟨i.blk, i.off + a.off + j, none⟩ = some (.string x) := fun j x hx => by
              obtain ⟨y, hy, hR⟩ := load_cells H hld hi j (.string x) (by simp [hx])
              rw [hy, hR.string_inv]
            have hbk : i.blk < w.heap.size ∨ xs = [] := by
              cases xs with
              | nil => exact .inr rfl
              | cons x l =>
                refine .inl ?_
                have := hcell 0 x rfl
                unfold World.cell? at this
                split at this
                · rename_i he; exact (Array.getElem?_eq_some_iff.1 he).1
                · cases this
            have k := hc i.blk (i.off + a.off) (c + i.ex) xs sep w hcell hbk (by rw [hlen]; exact Nat.le_of_ble_eq_true hb.2) (by have := Nat.le_of_ble_eq_true hb.1; omega) (Nat.le_of_ble_eq_true hj)
            rw [hlen] at k
            exact told_value hent k H (.string _)
      · cases hq
    · cases hq

/-! ### strings.FieldsFunc at a predicate, by whatever function -/
def spFields (e : TypeId) (p : Nat → Bool) (args : List Value) (h : Hp) : Option (Value × Hp) :=
  match args with
  | [.string s] => bif Nat.ble s.data.toList.length 4294967296 then match newRow_ h e ((Lib.goFieldsP p s).map Value.string) true with
      | some (a, h) => some (.slice (some a) (Lib.goFieldsP p s).length (Lib.goFieldsP p s).length, h)
      | none => none
    else none
  | _ => none
theorem fields_told {e : TypeId} {p : Nat → Bool} (hent : Enters P f)
    (hc : ∀ (s : ByteArray) (w : World), s.size ≤ 4294967296 → Calls P f #[.string s] w fun en w' => ∃ A, en = .returned (.slice (some ⟨A, 0, none⟩) (Lib.goFieldsP p s).length (Lib.goFieldsP p s).length) ∧ w.heap.size ≤ A ∧
      w'.ownsRow w.heap.size e 1 (.slice (some ⟨A, 0, none⟩) (Lib.goFieldsP p s).length (Lib.goFieldsP p s).length) (Lib.goFieldsP p s).length ((Lib.goFieldsP p s).map Value.string) ∧ Below w.heap.size w w') : ToldOk P gl f (spFields e p) :=
  told_of fun args args' h h2 v β w hq hl H hgb => by
    unfold spFields at hq
    split at hq
    · rename_i s
      cases hb : Nat.ble s.data.toList.length 4294967296 with
      | false => rw [hb] at hq; cases hq
      | true =>
        rw [hb, cond_true] at hq
        cases hn : newRow_ h e ((Lib.goFieldsP p s).map Value.string) true with
        | none => rw [hn] at hq; cases hq
        | some r =>
          obtain ⟨a, h3⟩ := r
          rw [hn] at hq
          simp only [Option.some.injEq, Prod.mk.injEq] at hq
          obtain ⟨rfl, rfl⟩ := hq
          obtain ⟨x', rfl, hx⟩ := one_arg hl
          rw [hx.string_inv]
          refine .inr ⟨_, _, hent _ w, (hc s w (Nat.le_of_ble_eq_true hb)).mono ?_⟩
          rintro en w2 ⟨A, rfl, hA, ho, hB⟩
          have hblk : w2.heap[A]? = some (.cells ((Lib.goFieldsP p s).map Value.string).toArray e (0, 0)) := by
            rcases ho.2 with ⟨h1, _⟩ | ⟨g, cap, cur, h1, _, h3, h4, _, h5, h6⟩
            · cases h1
            · cases h1
              rw [h3]
              have : cur = ((Lib.goFieldsP p s).map Value.string).toArray := by
                apply Array.ext'
                rw [← h6, Nat.mul_one, List.take_of_length_le (by simp; omega)]
              rw [this]
          have hlr : LR β ((Lib.goFieldsP p s).map Value.string) ((Lib.goFieldsP p s).map Value.string) := ⟨rfl, fun k x y hx hy => by
            rw [hx] at hy
            cases hy
            rw [List.getElem?_map] at hx
            cases hq : (Lib.goFieldsP p s)[k]? with
            | none => rw [hq] at hx; cases hx
            | some z => rw [hq] at hx; cases hx; exact .string _⟩
          obtain ⟨β', H', S', b, rfl, hb'⟩ := H.owned hn hB hA hblk hlr
          have hv := VR.slice (β := β') 0 (Lib.goFieldsP p s).length (Lib.goFieldsP p s).length hb'
          exact ⟨_, β', rfl, H', S', hv⟩
    · cases hq

/-! ### A Builder's copyCheck -/
def spCheck (T : TypeId) (args : List Value) (h : Hp) : Option (Value × Hp) :=
  match args with
  | [.pointer (some ⟨b, 0, none⟩)] => match h.get b with
    | some (.cells [.pointer none, c] e true false) => bif Nat.beq e T then some (.tuple ⟨[]⟩, h.put b (.cells [.pointer (some ⟨b, 0, none⟩), c] e true false)) else none
    | some (.cells [.pointer (some ⟨b', 0, none⟩), c] e true false) => bif Nat.beq b' b then some (.tuple ⟨[]⟩, h) else none
    | _ => none
  | _ => none
theorem check_told {T : TypeId} (hent : Enters P f)
    (hfresh : ∀ (b : Nat) (w : World), w.cell? ⟨b, 0, none⟩ = some (.pointer none) → w.shape? b = some (T, 2) → w.frozen? ⟨b, 0, none⟩ = false →
      Calls P f #[.pointer (some ⟨b, 0, none⟩)] w fun e w' => e = .returned (.tuple #[]) ∧ w' = w.setCell ⟨b, 0, none⟩ (.pointer (some ⟨b, 0, none⟩)))
    (hused : ∀ (b : Nat) (w : World), w.cell? ⟨b, 0, none⟩ = some (.pointer (some ⟨b, 0, none⟩)) → Calls P f #[.pointer (some ⟨b, 0, none⟩)] w fun e w' => e = .returned (.tuple #[]) ∧ w' = w) : ToldOk P gl f (spCheck T) :=
  told_of fun args args' h h2 v β w hq hl H hgb => by
    have hnil : VR β (.tuple ⟨[]⟩) (.tuple #[]) := .tuple rfl fun i x y h1 _ => by simp at h1
    unfold spCheck at hq
    split at hq
    · rename_i b
      split at hq
      · rename_i c e hg
        cases hb : Nat.beq e T with
        | false => rw [hb] at hq; cases hq
        | true =>
          rw [hb, cond_true] at hq
          simp only [Option.some.injEq, Prod.mk.injEq] at hq
          obtain ⟨rfl, rfl⟩ := hq
          obtain rfl := Nat.eq_of_beq_eq_true hb
          obtain ⟨x', rfl, hx⟩ := one_arg hl
          cases hx with
          | @ptr _ i o hi =>
            rcases H.ok _ _ _ hg hi with ⟨hf, _⟩ | ⟨cc, e2, fr, hbk, hsize, hv, hexx, hmine⟩
            · cases hf
            · obtain ⟨hee, hfr, hroom⟩ := hmine rfl
              obtain ⟨hx1, hx2, hx3⟩ := hexx rfl
              subst hee
              rw [hx2]
              have hsz : cc.size = 2 := hx3
              have hc0 : cc[0]? = some (.pointer none) := by
                have h1 : cc[0]? = some (cc[0]'(by omega)) := Array.getElem?_eq_getElem (by omega)
                have h2 := hv 0 (.pointer none) (cc[0]'(by omega)) rfl (by rw [hx2]; exact h1)
                rw [h1]
                generalize cc[0]'(by omega) = u at h2
                cases h2
                rfl
              have hcell : w.cell? ⟨i.blk, 0, none⟩ = some (.pointer none) := (cell_heap hbk).trans hc0
              have hshape : w.shape? i.blk = some (e2, 2) := by unfold World.shape?; rw [hbk]; show some (e2, cc.size) = _; rw [hsz]
              have hfz : w.frozen? ⟨i.blk, 0, none⟩ = false := by
                have := hfr.out 0 (by omega)
                simp only [World.frozen?, hbk]
                simpa using this
              refine .inr ⟨_, _, hent _ w, (hfresh i.blk w hcell hshape hfz).mono ?_⟩
              rintro en w2 ⟨rfl, rfl⟩
              have hblk : (w.setCell ⟨i.blk, 0, none⟩ (.pointer (some ⟨i.blk, 0, none⟩))).heap[i.blk]? = some (.cells (cc.setIfInBounds 0 (.pointer (some ⟨i.blk, 0, none⟩))) e2 fr) := by
                simp [World.setCell, Array.getElem?_modify, hbk]
              have hoth : ∀ j, j ≠ i.blk → (w.setCell ⟨i.blk, 0, none⟩ (.pointer (some ⟨i.blk, 0, none⟩))).heap[j]? = w.heap[j]? := fun j hj => Below.heap_setCell _ _ _ _ hj
              have hsz2 : (w.setCell ⟨i.blk, 0, none⟩ (.pointer (some ⟨i.blk, 0, none⟩))).heap.size = w.heap.size := by simp [World.setCell]
              refine ⟨_, β, rfl, H.change (y := .cells [.pointer (some ⟨b, 0, none⟩), c] e2 true false) hg hi trivial (fun k hk _ => hoth k hk) (.inr ⟨_, e2, fr, hblk, by simp at hsize ⊢; omega, fun k x y h1 h2 => ?_, fun _ => ⟨hx1, hx2, by simp [hsz]⟩, fun _ => ⟨rfl, by simpa using hfr, by simp at hroom ⊢; omega⟩⟩),
                ⟨.refl _, rfl, rfl, rfl, by rw [hsz2]; exact Nat.le_refl _, fun k hk hn => hoth k (fun e => hn ⟨_, _, _, hg, trivial, hi, e.symm⟩), fun k hk => .inl (own_put H hg trivial hk), fun k hk => .inl (held_put H hg trivial hk)⟩, hnil⟩
              rw [hx2, Nat.zero_add] at h2
              cases k with
              | zero =>
                simp only [List.getElem?_cons_zero, Option.some.injEq] at h1
                subst h1
                rw [Array.getElem?_setIfInBounds_self_of_lt (by omega)] at h2
                cases h2
                have := VR.ptr (β := β) 0 hi
                rw [hx2] at this
                exact this
              | succ k =>
                rw [Array.getElem?_setIfInBounds_ne (by omega)] at h2
                exact hv (k + 1) x y h1 (by rw [hx2, Nat.zero_add]; exact h2)
      · rename_i b' c e hg
        cases hb : Nat.beq b' b with
        | false => rw [hb] at hq; cases hq
        | true =>
          rw [hb, cond_true] at hq
          simp only [Option.some.injEq, Prod.mk.injEq] at hq
          obtain ⟨rfl, rfl⟩ := hq
          obtain rfl := Nat.eq_of_beq_eq_true hb
          obtain ⟨x', rfl, hx⟩ := one_arg hl
          cases hx with
          | @ptr _ i o hi =>
            rcases H.ok _ _ _ hg hi with ⟨hf, _⟩ | ⟨cc, e2, fr, hbk, hsize, hv, hexx, hmine⟩
            · cases hf
            · obtain ⟨hx1, hx2, hx3⟩ := hexx rfl
              rw [hx2]
              have hsz : cc.size = 2 := hx3
              have hcell : w.cell? ⟨i.blk, 0, none⟩ = some (.pointer (some ⟨i.blk, 0, none⟩)) := by
                refine (cell_heap hbk).trans ?_
                have h1 : cc[0]? = some (cc[0]'(by omega)) := Array.getElem?_eq_getElem (by omega)
                have h2 := hv 0 _ (cc[0]'(by omega)) rfl (by rw [hx2]; exact h1)
                rw [h1]
                generalize cc[0]'(by omega) = u at h2
                cases h2 with
                | @ptr _ j o hj =>
                  obtain rfl := Option.some.inj (hi.symm.trans hj)
                  rw [hx2]
              refine .inr ⟨_, _, hent _ w, (hused i.blk w hcell).mono ?_⟩
              rintro en w2 ⟨rfl, rfl⟩
              exact ⟨_, β, rfl, H, .refl _ _ _, hnil⟩
      · cases hq
    · cases hq
end
end Go.Proofs.YthloojeefdjpjaaGreatDoor
