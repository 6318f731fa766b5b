/- Two more told functions: are a block's bytes behind the size noughts? may a text be a name? -/
import Derived.Test.YthloojeefdjpjaaGreatDoorTold
import Derived.Test.YthloojeefdjpjaaGreatDoorClnB
namespace Go.Proofs.YthloojeefdjpjaaGreatDoor
open Go Go.RowKit
set_option linter.unusedVariables false
def cl_ (size b at_ : Int) : Bool := (b == 0) || decide (at_ < size)
theorem cl_below {size b at_ : Int} (h : cl_ size b at_ = true) : below_ size b at_ := by
  simp only [cl_, Bool.or_eq_true, beq_iff_eq, decide_eq_true_eq] at h
  exact h
def spClean (args : List Value) (h : Hp) : Option (Value × Hp) :=
  match args with
  | [.agg cs, .int .i64 size] => match cs.toList with
    | [.int .i64 no, .int .u8 b0, .int .u8 b1, .int .u8 b2, .int .u8 b3, .int .u8 b4, .int .u8 b5, .int .u8 b6, .int .u8 b7] =>
      bif decide (0 ≤ no) && (decide (no ≤ 1099511627776) && (cl_ size b0 (no * 8) && (cl_ size b1 (no * 8 + 1) && (cl_ size b2 (no * 8 + 2) && (cl_ size b3 (no * 8 + 3) && (cl_ size b4 (no * 8 + 4) && (cl_ size b5 (no * 8 + 5) && (cl_ size b6 (no * 8 + 6) && cl_ size b7 (no * 8 + 7)))))))))
      then some (.bool true, h) else none
    | _ => none
  | _ => none
theorem LR.ints {β : Bt} : ∀ {l : List (IntKind × Int)} {l' : List Value}, LR β (l.map fun p => Value.int p.1 p.2) l' → l' = l.map fun p => Value.int p.1 p.2 := by
  intro l
  induction l with
  | nil => intro l' h; exact List.eq_nil_of_length_eq_zero h.1.symm
  | cons p l ih =>
    intro l' h
    match l', h with
    | [], h => simp [LR] at h
    | y :: l', h =>
      have h1 := h.head.int_inv
      rw [h1, ih h.tail]
      rfl
theorem t_clean : ToldOk Tryz.prog Tryz.prog.globals.size 228 spClean :=
  told_of fun args args' h h2 v β w hq hl H hgb => by
    unfold spClean at hq
    split at hq
    · rename_i cs size
      split at hq
      · rename_i no b0 b1 b2 b3 b4 b5 b6 b7 hcs
        cases hb : decide (0 ≤ no) && (decide (no ≤ 1099511627776) && (cl_ size b0 (no * 8) && (cl_ size b1 (no * 8 + 1) && (cl_ size b2 (no * 8 + 2) && (cl_ size b3 (no * 8 + 3) && (cl_ size b4 (no * 8 + 4) && (cl_ size b5 (no * 8 + 5) && (cl_ size b6 (no * 8 + 6) && cl_ size b7 (no * 8 + 7))))))))) with
        | false => rw [hb] at hq; cases hq
        | true =>
          rw [hb, cond_true] at hq
          simp only [Option.some.injEq, Prod.mk.injEq] at hq
          obtain ⟨rfl, rfl⟩ := hq
          simp only [Bool.and_eq_true, decide_eq_true_eq] at hb
          obtain ⟨g0, g1, c0, c1, c2, c3, c4, c5, c6, c7⟩ := hb
          obtain ⟨x', y', rfl, hx, hy⟩ := two_args hl
          rw [hy.int_inv]
          obtain ⟨ys, rfl, hys⟩ := hx.agg_inv
          have hl2 : LR β (([(.i64, no), (.u8, b0), (.u8, b1), (.u8, b2), (.u8, b3), (.u8, b4), (.u8, b5), (.u8, b6), (.u8, b7)] : List (IntKind × Int)).map fun p => Value.int p.1 p.2) ys.toList := by
            rw [hcs] at hys
            exact hys
          have hys2 : ys = #[.int .i64 no, .int .u8 b0, .int .u8 b1, .int .u8 b2, .int .u8 b3, .int .u8 b4, .int .u8 b5, .int .u8 b6, .int .u8 b7] := Array.ext' hl2.ints
          subst hys2
          exact told_value (enters_of Tryz.func228 (by kernel_rfl) rfl) (clean_true no size b0 b1 b2 b3 b4 b5 b6 b7 g0 g1 (cl_below c0) (cl_below c1) (cl_below c2) (cl_below c3) (cl_below c4) (cl_below c5) (cl_below c6) (cl_below c7) w) H (.bool _)
      · cases hq
    · cases hq
def mayN (n : Nat) : Bool := (Nat.ble 97 n && Nat.ble n 122) || ((Nat.ble 48 n && Nat.ble n 57) || (Nat.beq n 46 || (Nat.beq n 95 || Nat.beq n 45)))
theorem mayN_B {n : Nat} (h : mayN n = true) : mayB (n : Int) = true := by
  simp only [mayN, Bool.or_eq_true, Bool.and_eq_true, Nat.ble_eq, Nat.beq_eq] at h
  simp only [mayB, Bool.or_eq_true, Bool.and_eq_true, decide_eq_true_eq, beq_iff_eq]
  omega
def alls_ : List UInt8 → Bool
  | [] => true
  | c :: l => match mayN c.toNat with | true => alls_ l | false => false
theorem alls_at : ∀ {l : List UInt8}, alls_ l = true → ∀ (k : Nat) (h : k < l.length), mayN l[k].toNat = true := by
  intro l
  induction l with
  | nil => intro _ k h; simp at h
  | cons c l ih =>
    intro h k hk
    unfold alls_ at h
    split at h
    · rename_i hc
      cases k with
      | zero => exact hc
      | succ k => exact ih h k (by simpa using hk)
    · cases h
def nameOk_ : List UInt8 → Bool
  | [] => false
  | c :: l => !(Nat.beq c.toNat 45) && (Nat.ble (c :: l).length 20 && alls_ (c :: l))
def spName (args : List Value) (h : Hp) : Option (Value × Hp) :=
  match args with
  | [.string s] => bif nameOk_ s.data.toList then some (.bool true, h) else bif Nat.blt 20 s.data.toList.length then some (.bool false, h) else none
  | _ => none
theorem t_name : ToldOk Tryz.prog Tryz.prog.globals.size 181 spName :=
  told_of fun args args' h h2 v β w hq hl H hgb => by
    unfold spName at hq
    split at hq
    · rename_i s
      obtain ⟨x', rfl, hx⟩ := one_arg hl
      rw [hx.string_inv]
      cases hb : nameOk_ s.data.toList with
      | true =>
        rw [hb, cond_true] at hq
        simp only [Option.some.injEq, Prod.mk.injEq] at hq
        obtain ⟨rfl, rfl⟩ := hq
        have hsz : s.data.toList.length = s.size := rfl
        have key : 0 < s.size ∧ s.size ≤ 20 ∧ (∀ h : 0 < s.data.toList.length, ¬ (s.data.toList[0].toNat = 45)) ∧ alls_ s.data.toList = true := by
          revert hb
          rw [← hsz]
          generalize s.data.toList = l
          intro hb
          cases l with
          | nil => cases hb
          | cons c l =>
            simp only [nameOk_, Bool.and_eq_true, Bool.not_eq_true', Nat.ble_eq] at hb
            obtain ⟨q1, q2, q3⟩ := hb
            exact ⟨by simp, q2, (fun _ e => by rw [show (c :: l)[0].toNat = c.toNat from rfl] at e; rw [e] at q1; cases q1), q3⟩
        obtain ⟨k1, k2, k3, k4⟩ := key
        have hat : ∀ (k : Nat) (h : k < s.size), s[k] = s.data.toList[k]'(by rw [hsz]; exact h) := fun k h => by
          simp only [Array.getElem_toList]; rfl
        exact told_value (enters_of Tryz.func181 (by kernel_rfl) rfl) ((name_true s k1 k2 (by rw [hat 0 k1]; intro e; exact k3 k1 (by omega)) (fun k h => by rw [hat k h]; exact mayN_B (alls_at k4 k _)) w).mono fun e w' ⟨he, hw⟩ => ⟨he, hw ▸ Below.refl _ _⟩) H (.bool _)
      | false =>
        rw [hb, cond_false] at hq
        cases hn : Nat.blt 20 s.data.toList.length with
        | false => rw [hn] at hq; cases hq
        | true =>
          rw [hn, cond_true] at hq
          simp only [Option.some.injEq, Prod.mk.injEq] at hq
          obtain ⟨rfl, rfl⟩ := hq
          exact told_value (enters_of Tryz.func181 (by kernel_rfl) rfl) ((name_long s (Nat.lt_of_lt_of_le (Nat.lt_succ_self _) (Nat.le_of_ble_eq_true hn)) w).mono fun e w' ⟨he, hw⟩ => ⟨he, hw ▸ Below.refl _ _⟩) H (.bool _)
    · cases hq
noncomputable def spD : Sp := fun f =>
  bif Nat.beq f 228 then some spClean
  else bif Nat.beq f 181 then some spName
  else sp f
theorem spD_ok : CallOk Tryz.prog (spCall spD) Tryz.prog.globals.size := by
  unfold spD
  with_reducible exact (told_cons t_clean (told_cons t_name sp_ok))
end Go.Proofs.YthloojeefdjpjaaGreatDoor
