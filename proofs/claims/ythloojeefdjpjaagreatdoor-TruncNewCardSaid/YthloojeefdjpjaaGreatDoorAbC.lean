/- The evaluator's operations on values beside the machine's. -/
import Derived.Test.YthloojeefdjpjaaGreatDoorAbB
import Derived.Laws.Strings
import Derived.Laws.BytesArg
namespace Go.Proofs.YthloojeefdjpjaaGreatDoor
open Go Go.RowKit
set_option linter.unusedVariables false
set_option linter.unusedSimpArgs false

theorem bin_form {op : BinOp} {x y z : Value} (h : bin_ op x y = some z) : (∃ k a k' b, x = .int k a ∧ y = .int k' b) ∨ (∃ a b, x = .string a ∧ y = .string b) ∨
    (∃ c m, 0 < m ∧ c / 512 = m ∧ op = .rem ∧ x = .complex .f64 0 c ∧ y = .int .u8 (.ofNat m) ∧ z = .int .u8 (.ofNat (c % 512))) ∨
    (∃ c m, 0 < m ∧ c / 512 = m ∧ op = .rem ∧ x = .complex .f32 0 (c + 1) ∧ y = .int .i64 (.ofNat m) ∧ z = .int .i64 (.ofNat (c % 512))) := by
  have key : ∀ (c m : Nat) {u : Value}, (bif Nat.beq (c / 512) m && Nat.blt 0 m then some u else none) = some z → 0 < m ∧ c / 512 = m ∧ z = u := by
    intro c m u e
    cases hb : (Nat.beq (c / 512) m && Nat.blt 0 m) with
    | false => rw [hb] at e; cases e
    | true =>
      rw [hb] at e
      injection e with e
      simp only [Bool.and_eq_true] at hb
      exact ⟨Nat.le_of_ble_eq_true hb.2, Nat.eq_of_beq_eq_true hb.1, e.symm⟩
  unfold bin_ at h
  split at h
  · exact .inl ⟨_, _, _, _, rfl, rfl⟩
  · exact .inr (.inl ⟨_, _, rfl, rfl⟩)
  · rename_i c m
    split at h
    · obtain ⟨h1, h2, h3⟩ := key c m h
      exact .inr (.inr (.inl ⟨c, m, h1, h2, rfl, rfl, rfl, h3⟩))
    · cases h
  · rename_i c m
    split at h
    · obtain ⟨h1, h2, h3⟩ := key c m h
      exact .inr (.inr (.inr ⟨c, m, h1, h2, rfl, rfl, rfl, h3⟩))
    · cases h
  · cases h
theorem VR.int_inv {β : Bt} {k : IntKind} {n : Int} {v : Value} (h : VR β (.int k n) v) : v = .int k n := by cases h; rfl
theorem VR.string_inv {β : Bt} {s : ByteArray} {v : Value} (h : VR β (.string s) v) : v = .string s := by cases h; rfl
theorem VR.bool_inv {β : Bt} {b : Bool} {v : Value} (h : VR β (.bool b) v) : v = .bool b := by cases h; rfl
theorem VR.agg_inv {β : Bt} {xs : Array Value} {v : Value} (h : VR β (.agg xs) v) : ∃ ys, v = .agg ys ∧ LR β xs.toList ys.toList := by
  cases h with
  | agg h1 h2 => exact ⟨_, rfl, by simpa using h1, fun i x y hx hy => h2 i x y (by simpa using hx) (by simpa using hy)⟩
theorem VR.tuple_inv {β : Bt} {xs : Array Value} {v : Value} (h : VR β (.tuple xs) v) : ∃ ys, v = .tuple ys ∧ LR β xs.toList ys.toList := by
  cases h with
  | tuple h1 h2 => exact ⟨_, rfl, by simpa using h1, fun i x y hx hy => h2 i x y (by simpa using hx) (by simpa using hy)⟩
theorem VR.of_agg {β : Bt} {xs ys : List Value} (h : LR β xs ys) : VR β (.agg ⟨xs⟩) (.agg ⟨ys⟩) := .agg (by simpa using h.1) (fun i x y hx hy => h.2 i x y (by simpa using hx) (by simpa using hy))
theorem VR.of_tuple {β : Bt} {xs ys : List Value} (h : LR β xs ys) : VR β (.tuple ⟨xs⟩) (.tuple ⟨ys⟩) := .tuple (by simpa using h.1) (fun i x y hx hy => h.2 i x y (by simpa using hx) (by simpa using hy))
theorem VR.ptr_inv {β : Bt} {b o : Nat} {v : Value} (h : VR β (.pointer (some ⟨b, o, none⟩)) v) : ∃ i, β b = some i ∧ v = .pointer (some ⟨i.blk, i.off + o, none⟩) := by
  cases h with
  | ptr o h => exact ⟨_, h, rfl⟩
theorem VR.slice_inv {β : Bt} {a : Addr} {n c : Nat} {v : Value} (h : VR β (.slice (some a) n c) v) : ∃ i, a = ⟨a.block, a.off, none⟩ ∧ β a.block = some i ∧ v = .slice (some ⟨i.blk, i.off + a.off, none⟩) n (c + i.ex) := by
  cases h with
  | slice o n c h => exact ⟨_, rfl, h, rfl⟩
theorem VR.nilSlice_inv {β : Bt} {n c : Nat} {v : Value} (h : VR β (.slice none n c) v) : v = .slice none n c := by cases h; rfl

theorem bin_run {P : Program} {β : Bt} {op : BinOp} {x y z x' y' : Value} (h : bin_ op x y = some z) (hx : VR β x x') (hy : VR β y y') (t : TypeId) (X Y : Operand) (w : World) :
    (do eqGuard op t X Y x' y'; binOp op t x' y').run P w = .ok z w ∧ Bare z := by
  rcases bin_form h with ⟨k, a, k', b, rfl, rfl⟩ | ⟨a, b, rfl, rfl⟩ | ⟨c, m, hm, hc, rfl, rfl, rfl, rfl⟩ | ⟨c, m, hm, hc, rfl, rfl, rfl, rfl⟩
  · rw [hx.int_inv, hy.int_inv]
    have hg : (eqGuard op t X Y (.int k a) (.int k' b)).run P w = .ok () w := by
      unfold eqGuard
      split <;> rfl
    simp only [Sem.run_bind, hg, Result.andThen_ok]
    by_cases hs : op = .shl ∨ op = .shr
    · rcases hs with rfl | rfl
      · cases b with
        | ofNat n =>
          simp only [bin_, Option.some.injEq] at h
          subst h
          refine ⟨?_, trivial⟩
          have h0 : ¬ ((Int.ofNat n) < 0) := by simp
          simp only [binOp, Op.shift, h0, if_false, Sem.run_pure]
          rfl
        | negSucc n => simp [bin_] at h
      · cases b with
        | ofNat n =>
          simp only [bin_, Option.some.injEq] at h
          subst h
          refine ⟨?_, trivial⟩
          have h0 : ¬ ((Int.ofNat n) < 0) := by simp
          simp only [binOp, Op.shift, h0, if_false, Sem.run_pure]
          rfl
        | negSucc n => simp [bin_] at h
    · by_cases hk : k = k'
      · subst hk
        cases op <;> simp only [bin_, decide_true, Option.some.injEq, reduceCtorEq, or_self, or_false, false_or, not_false_eq_true, not_true_eq_false] at h hs
        case quo =>
          by_cases hb : b = 0
          · simp [hb] at h
          · simp only [hb, decide_false, Option.some.injEq] at h; subst h; exact ⟨by simp [binOp, Op.intDiv, hb], trivial⟩
        case rem =>
          by_cases hb : b = 0
          · simp [hb] at h
          · simp only [hb, decide_false, Option.some.injEq] at h; subst h; exact ⟨by simp [binOp, Op.intDiv, hb], trivial⟩
        all_goals first
          | (subst h; exact ⟨by simp [binOp, Op.intArith, Op.intBits, Op.intCmp], trivial⟩)
          | (exact absurd h (by simp))
      · exfalso
        have hd : decide (k = k') = false := by simpa using hk
        cases op <;> simp [bin_, hd] at h hs
  · rw [hx.string_inv, hy.string_inv]
    have hg : (eqGuard op t X Y (.string a) (.string b)).run P w = .ok () w := by
      unfold eqGuard
      split <;> rfl
    simp only [Sem.run_bind, hg, Result.andThen_ok]
    cases op <;> simp only [bin_, reduceCtorEq, Option.some.injEq] at h
    case add =>
      by_cases hs : a.size + b.size ≤ 9223372036854775807
      · simp only [hs, decide_true, Option.some.injEq] at h
        subst h
        refine ⟨?_, trivial⟩
        have h0 : ¬ ((9223372036854775807 : Int) < (a.size : Int) + (b.size : Int)) := by omega
        have he : a ++ b = ⟨⟨a.data.toList ++ b.data.toList⟩⟩ := by
          apply ByteArray.ext
          apply Array.ext'
          simp
        simp [binOp, Op.stringOp, h0, he]
      · simp [hs] at h
    all_goals (subst h; exact ⟨by simp [binOp, Op.stringOp, ByteArray.toList_eq], trivial⟩)
  · rw [hy.int_inv]
    cases hx with
    | rest8 c a h1 h2 =>
      have hg : (eqGuard .rem t X Y (.int .u8 a) (.int .u8 (.ofNat m))).run P w = .ok () w := by
        unfold eqGuard
        split <;> rfl
      have hb : ¬ (Int.ofNat m = 0) := by intro e; have : m = 0 := by simpa using e
                                          omega
      refine ⟨?_, trivial⟩
      simp only [Sem.run_bind, hg, Result.andThen_ok]
      have e1 : (a : Int).tmod (Int.ofNat m) = Int.ofNat (c % 512) := by rw [← h1, hc]; rfl
      simp only [binOp, Op.intDiv, hb, if_false, Sem.run_pure, e1]
      rfl
  · rw [hy.int_inv]
    cases hx with
    | rest64 c a h1 h2 =>
      have hg : (eqGuard .rem t X Y (.int .i64 a) (.int .i64 (.ofNat m))).run P w = .ok () w := by
        unfold eqGuard
        split <;> rfl
      have hb : ¬ (Int.ofNat m = 0) := by intro e; have : m = 0 := by simpa using e
                                          omega
      refine ⟨?_, trivial⟩
      simp only [Sem.run_bind, hg, Result.andThen_ok]
      have e1 : (a : Int).tmod (Int.ofNat m) = Int.ofNat (c % 512) := by rw [← h1, hc]; rfl
      simp only [binOp, Op.intDiv, hb, if_false, Sem.run_pure, e1]
      rfl
theorem un_run {P : Program} {β : Bt} {op : UnOp} {x z x' : Value} (h : un_ op x = some z) (hx : VR β x x') (w : World) : (Op.unary op x').run P w = .ok z w ∧ Bare z := by
  unfold un_ at h
  split at h
  · rw [hx.int_inv]; injection h with h; subst h; exact ⟨by simp [Op.unary, Op.intArith], trivial⟩
  · rw [hx.bool_inv]; injection h with h; subst h; exact ⟨by simp [Op.unary], trivial⟩
  · rw [hx.int_inv]; injection h with h; subst h; exact ⟨by simp [Op.unary, Op.intBits], trivial⟩
  · cases h
section
variable {P : Program} {eqs : List TypeId} (hp : P.types.size < 4000)
include hp
theorem part_run {β : Bt} {t : TypeId} {cs cs' : List Value} {off : Nat} {v : Value} (h : part_ (Env.of P eqs) t cs off = some v) (hl : LR β cs cs') (w : World) :
    ∃ v', (part t ⟨cs'⟩ off).run P w = .ok v' w ∧ VR β v v' := by
  unfold part_ at h
  cases ha : (Env.of P eqs).agg t with
  | none => rw [ha] at h; cases h
  | some g =>
    rw [ha] at h
    cases g with
    | true =>
      cases hs : (Env.of P eqs).size t with
      | none => rw [hs] at h; cases h
      | some n =>
        rw [hs] at h
        simp only at h
        cases hc : lcut cs off n with
        | none => rw [hc] at h; cases h
        | some c =>
          rw [hc] at h
          injection h with h
          subst h
          obtain ⟨h1, rfl, h2⟩ := lcut_some hc
          refine ⟨.agg ⟨(cs'.drop off).take n⟩, ?_, .of_agg ((hl.drop off).take n)⟩
          simp only [part, Sem.run_bind, run_agg hp ha, Result.andThen_ok, if_true, run_size hp hs, Sem.run_pure]
          congr 2
          apply Array.ext'
          simp [List.extract_eq_take_drop]
    | false =>
      simp only at h
      cases hc : lcut cs off 1 with
      | none => rw [hc] at h; cases h
      | some c =>
        rw [hc] at h
        have h0 := lcut_get hc 0 (by omega)
        obtain ⟨h1, _, h2⟩ := lcut_some hc
        match c, h2, h, h0 with
        | [x], _, h, h0 =>
          injection h with h
          subst h
          have hx : cs[off]? = some x := by simpa using h0.symm
          obtain ⟨y, hy, hR⟩ := hl.get hx
          refine ⟨y, ?_, hR⟩
          have : (⟨cs'⟩ : Array Value)[off]? = some y := by simpa using hy
          simp [part, run_agg hp ha, this]
theorem index_run {β : Bt} {t : TypeId} {x i v x' i' : Value} (h : index_ (Env.of P eqs) t x i = some v) (hx : VR β x x') (hi : VR β i i') (w : World) :
    ∃ v', (Instr.index t x' i').run P w = .ok v' w ∧ VR β v v' := by
  unfold index_ at h
  split at h
  · rename_i n e cs k q hu
    obtain ⟨ys, rfl, hl⟩ := hx.agg_inv
    rw [hi.int_inv]
    cases hs : (Env.of P eqs).size e with
    | none => rw [hs] at h; cases h
    | some s =>
      rw [hs] at h
      cases hb : Nat.blt q n with
      | false => simp [hb] at h
      | true =>
        simp only [hb, cond_true] at h
        obtain ⟨v', hr, hR⟩ := part_run hp h hl w
        refine ⟨v', ?_, hR⟩
        have hlt : q < n := Nat.lt_of_lt_of_le (Nat.lt_succ_self _) (Nat.le_of_ble_eq_true hb)
        have h1 : 0 ≤ (Int.ofNat q) ∧ (Int.ofNat q) < (n : Int) := ⟨by simp, by simp; omega⟩
        simp only [Instr.index, asIntOf, Sem.run_bind, Sem.run_pure, Result.andThen_ok, run_under hp hu, h1, and_self, if_true, run_size hp hs]
        exact hr
  · rename_i s k q hu
    rw [hx.string_inv, hi.int_inv]
    cases hc : lcut s.data.toList q 1 with
    | none => rw [hc] at h; cases h
    | some c =>
      rw [hc] at h
      have h0 := lcut_get hc 0 (by omega)
      obtain ⟨h1, _, h2⟩ := lcut_some hc
      match c, h2, h, h0 with
      | [b], _, h, h0 =>
        injection h with h
        subst h
        refine ⟨_, ?_, .int _ _⟩
        have hb : s[q]? = some b := by
          have : s.data.toList[q]? = some b := by simpa using h0.symm
          have h5 : s.data[q]? = some b := by simpa using this
          obtain ⟨hlt, he⟩ := Array.getElem?_eq_some_iff.1 h5
          rw [getElem?_pos s q hlt]
          exact congrArg some he
        simp [Instr.index, asIntOf, run_under hp hu, hb]
  · cases h
theorem field_run {β : Bt} {t : TypeId} {x v x' : Value} {f : Nat} (h : field_ (Env.of P eqs) t x f = some v) (hx : VR β x x') (w : World) :
    ∃ v', (Instr.field t x' f).run P w = .ok v' w ∧ VR β v v' := by
  unfold field_ at h
  split at h
  · rename_i fs cs hu
    obtain ⟨ys, rfl, hl⟩ := hx.agg_inv
    cases hf : fs[f]? with
    | none => rw [hf] at h; cases h
    | some fd =>
      rw [hf] at h
      obtain ⟨v', hr, hR⟩ := part_run hp h hl w
      refine ⟨v', ?_, hR⟩
      simp only [Instr.field, Sem.run_bind, run_under hp hu, Result.andThen_ok, hf, asAgg, Sem.run_pure]
      exact hr
  · cases h
theorem fieldAddr_run {β : Bt} {t : TypeId} {x v x' : Value} {f : Nat} (h : fieldAddr_ (Env.of P eqs) t x f = some v) (hx : VR β x x') (w : World) :
    ∃ v', (Instr.fieldAt t x' f).run P w = .ok v' w ∧ VR β v v' := by
  unfold fieldAddr_ at h
  split at h
  · rename_i fs b o hu
    obtain ⟨i, hi, rfl⟩ := hx.ptr_inv
    cases hf : fs[f]? with
    | none => rw [hf] at h; cases h
    | some fd =>
      rw [hf] at h
      simp only at h
      cases hs : (Env.of P eqs).size fd.type with
      | none => rw [hs] at h; cases h
      | some n =>
        rw [hs] at h
        cases n with
        | zero => cases h
        | succ n =>
          injection h with h
          subst h
          refine ⟨.pointer (some ⟨i.blk, i.off + (o + fd.offset), none⟩), ?_, .ptr _ hi⟩
          have : (⟨i.blk, i.off + o, none⟩ : Addr).add fd.offset = ⟨i.blk, i.off + (o + fd.offset), none⟩ := by rw [add_none, Nat.add_assoc]
          simp [Instr.fieldAt, run_under hp hu, hf, Instr.sureAddr, fieldPlace, run_size hp hs, this]
  · cases h
theorem indexAddr_run {β : Bt} {t : TypeId} {x i v x' i' : Value} (h : indexAddr_ (Env.of P eqs) t x i = some v) (hx : VR β x x') (hi : VR β i i') (w : World) :
    ∃ v', (Instr.indexAt t x' i').run P w = .ok v' w ∧ VR β v v' := by
  unfold indexAddr_ at h
  split at h
  · rename_i n e b o k q hu
    obtain ⟨j, hj, rfl⟩ := hx.ptr_inv
    rw [hi.int_inv]
    cases hs : (Env.of P eqs).size e with
    | none => rw [hs] at h; cases h
    | some s =>
      rw [hs] at h
      cases hb : Nat.blt q n with
      | false => simp [hb] at h
      | true =>
        simp only [hb, cond_true, Option.some.injEq] at h
        subst h
        have hlt : q < n := Nat.lt_of_lt_of_le (Nat.lt_succ_self _) (Nat.le_of_ble_eq_true hb)
        refine ⟨.pointer (some ⟨j.blk, j.off + (o + q * s), none⟩), ?_, .ptr _ hj⟩
        have : (⟨j.blk, j.off + o, none⟩ : Addr).add (q * s) = ⟨j.blk, j.off + (o + q * s), none⟩ := by rw [add_none, Nat.add_assoc]
        simp [Instr.indexAt, asIntOf, run_under hp hu, Instr.sureAddr, run_size hp hs, this, hlt]
  · rename_i e a n c k q hu
    obtain ⟨j, ha, hj, rfl⟩ := hx.slice_inv
    rw [hi.int_inv]
    cases hs : (Env.of P eqs).size e with
    | none => rw [hs] at h; cases h
    | some s =>
      rw [hs] at h
      cases hb : Nat.blt q n with
      | false => simp [hb] at h
      | true =>
        simp only [hb, cond_true, Option.some.injEq] at h
        subst h
        have hlt : q < n := Nat.lt_of_lt_of_le (Nat.lt_succ_self _) (Nat.le_of_ble_eq_true hb)
        refine ⟨.pointer (some ⟨j.blk, j.off + (a.off + q * s), none⟩), ?_, .ptr _ hj⟩
        have : (⟨j.blk, j.off + a.off, none⟩ : Addr).add (q * s) = ⟨j.blk, j.off + (a.off + q * s), none⟩ := by rw [add_none, Nat.add_assoc]
        simp [Instr.indexAt, asIntOf, run_under hp hu, run_size hp hs, this, hlt]
  · cases h
end
end Go.Proofs.YthloojeefdjpjaaGreatDoor
