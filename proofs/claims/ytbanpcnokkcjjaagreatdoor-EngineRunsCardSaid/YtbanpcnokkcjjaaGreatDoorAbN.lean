/- Regions whose order is open, the end: whatever order the machine draws. -/
import Derived.Test.YtbanpcnokkcjjaaGreatDoorAbM
namespace Go.Proofs.YtbanpcnokkcjjaaGreatDoor
open Go Go.RowKit
set_option linter.unusedVariables false
set_option linter.unusedSimpArgs false

def frAt (tr : List Tc) (last : Fr) (i : Nat) : Fr := match tr[i]? with | some t => t.a | none => last
def hpAt (tr : List Tc) (last : Hp) (i : Nat) : Hp := match tr[i]? with | some t => t.h | none => last
structure Run (E : Env) (call : FuncId → List Value → Hp → Option (Value × Hp)) (all l : List Oper) (a : Fr) (h : Hp) (tr : List Tc) (aN : Fr) (hN : Hp) : Prop where
  len : tr.length = l.length
  a0 : frAt tr aN 0 = a
  h0 : hpAt tr hN 0 = h
  step : ∀ i o, l[i]? = some o → ∃ t, tr[i]? = some t ∧ wanted_ t.a all o = some t.did ∧ (t.did = true → oneOp E call t.a.eval o.op t.h = some (t.v, hpAt tr hN (i + 1))) ∧
    (t.did = false → t.v = undef ∧ hpAt tr hN (i + 1) = t.h) ∧ t.a.put o.dst t.v = some (frAt tr aN (i + 1))
theorem trace_run {E : Env} {call : FuncId → List Value → Hp → Option (Value × Hp)} {all : List Oper} : ∀ {l : List Oper} {a : Fr} {h : Hp} {tr : List Tc} {aN : Fr} {hN : Hp}, trace_ E call all l a h = some (tr, aN, hN) → Run E call all l a h tr aN hN := by
  intro l
  induction l with
  | nil =>
    intro a h tr aN hN ht
    simp only [trace_, Option.some.injEq, Prod.mk.injEq] at ht
    obtain ⟨rfl, rfl, rfl⟩ := ht
    exact ⟨rfl, rfl, rfl, fun i o h => by simp at h⟩
  | cons o l ih =>
    intro a h tr aN hN ht
    simp only [trace_] at ht
    have mk : ∀ (d : Bool) (v : Value) (a2 : Fr) (h2 : Hp) (tr2 : List Tc), wanted_ a all o = some d → a.put o.dst v = some a2 → trace_ E call all l a2 h2 = some (tr2, aN, hN) → tr = ⟨a, h, d, v⟩ :: tr2 →
        (d = true → oneOp E call a.eval o.op h = some (v, h2)) → (d = false → v = undef ∧ h2 = h) → Run E call all (o :: l) a h tr aN hN := by
      intro d v a2 h2 tr2 hw hput ht2 htr h5 h6
      subst htr
      have R := ih ht2
      have e1 : hpAt (⟨a, h, d, v⟩ :: tr2) hN 1 = h2 := by
        have := R.h0
        unfold hpAt at this ⊢
        simpa using this
      have e2 : frAt (⟨a, h, d, v⟩ :: tr2) aN 1 = a2 := by
        have := R.a0
        unfold frAt at this ⊢
        simpa using this
      refine ⟨by simp [R.len], rfl, rfl, fun i o' ho => ?_⟩
      cases i with
      | zero =>
        simp only [List.getElem?_cons_zero, Option.some.injEq] at ho
        subst ho
        refine ⟨⟨a, h, d, v⟩, rfl, hw, fun hd => ?_, fun hd => ?_, ?_⟩
        · show oneOp E call a.eval o.op h = some (v, hpAt _ hN 1)
          rw [e1]; exact h5 hd
        · show v = undef ∧ hpAt _ hN 1 = h
          rw [e1]; exact h6 hd
        · show a.put o.dst v = some (frAt _ aN 1)
          rw [e2]; exact hput
      | succ i => exact R.step i o' (by simpa using ho)
    cases hw : wanted_ a all o with
    | none => rw [hw] at ht; cases ht
    | some d =>
      rw [hw] at ht
      cases d with
      | true =>
        simp only at ht
        cases h1 : oneOp E call a.eval o.op h with
        | none => rw [h1] at ht; cases ht
        | some q =>
          obtain ⟨v, h2⟩ := q
          rw [h1] at ht
          simp only at ht
          cases hput : a.put o.dst v with
          | none => rw [hput] at ht; cases ht
          | some a2 =>
            rw [hput] at ht
            simp only at ht
            cases ht2 : trace_ E call all l a2 h2 with
            | none => rw [ht2] at ht; cases ht
            | some q =>
              obtain ⟨tr2, aN2, hN2⟩ := q
              rw [ht2] at ht
              simp only [Option.some.injEq, Prod.mk.injEq] at ht
              obtain ⟨rfl, rfl, rfl⟩ := ht
              exact mk true v a2 h2 tr2 hw hput ht2 rfl (fun _ => h1) (fun h => by cases h)
      | false =>
        simp only at ht
        cases hput : a.put o.dst undef with
        | none => rw [hput] at ht; cases ht
        | some a2 =>
          rw [hput] at ht
          simp only at ht
          cases ht2 : trace_ E call all l a2 h with
          | none => rw [ht2] at ht; cases ht
          | some q =>
            obtain ⟨tr2, aN2, hN2⟩ := q
            rw [ht2] at ht
            simp only [Option.some.injEq, Prod.mk.injEq] at ht
            obtain ⟨rfl, rfl, rfl⟩ := ht
            exact mk false undef a2 h tr2 hw hput ht2 rfl (fun h => by cases h) (fun _ => ⟨rfl, rfl⟩)
theorem put_get {a a2 : Fr} {d : Option Tmp} {v : Value} (hp : a.put d v = some a2) (hm : a.n ≤ 100000) (t : Tmp) : a2.get t = (if d = some t then v else a.get t) ∧ a2.n = a.n ∧ a2.gl = a.gl := by
  rw [Fr.put_eq] at hp
  cases d with
  | none => simp only [Option.some.injEq] at hp; subst hp; exact ⟨by rw [if_neg (by simp)], rfl, rfl⟩
  | some d =>
    simp only at hp
    cases hb : Nat.blt d a.n with
    | false => rw [hb] at hp; cases hp
    | true =>
      rw [hb, cond_true, Tr.force_eq] at hp
      injection hp with hp
      subst hp
      have hlt : @LT.lt Nat _ d a.n := Nat.lt_of_lt_of_le (Nat.lt_succ_self _) (Nat.le_of_ble_eq_true hb)
      refine ⟨?_, rfl, rfl⟩
      show (match (a.t.set 24 d v).get t with | some v => v | none => undef) = _
      rw [Tr.get_set 24 _ _ _ _ (by omega)]
      by_cases ht : t = d
      · subst ht; rw [if_pos rfl, if_pos rfl]
      · rw [if_neg ht, if_neg (by intro e; injection e with e; exact ht e.symm)]
        rfl
def cur (dst : Nat → Option Tmp) (val : Nat → Value) (t0 : Tmp → Value) (S : Nat → Bool) (t : Tmp) : Nat → Value
  | 0 => t0 t
  | k + 1 => if S k = true ∧ dst k = some t then val k else cur dst val t0 S t k
theorem cur_congr {dst : Nat → Option Tmp} {val : Nat → Value} {t0 : Tmp → Value} {S S' : Nat → Bool} {t : Tmp} : ∀ {K : Nat}, (∀ k, k < K → dst k = some t → S k = S' k) → cur dst val t0 S t K = cur dst val t0 S' t K := by
  intro K
  induction K with
  | zero => intro _; rfl
  | succ K ih =>
    intro h
    simp only [cur]
    rw [ih fun k hk => h k (by omega)]
    by_cases hd : dst K = some t
    · rw [h K (by omega) hd]
    · rw [if_neg (fun hh => hd hh.2), if_neg (fun hh => hd hh.2)]
theorem cur_stop {dst : Nat → Option Tmp} {val : Nat → Value} {t0 : Tmp → Value} {S : Nat → Bool} {t : Tmp} {i : Nat} : ∀ {K : Nat}, i ≤ K → (∀ k, i ≤ k → k < K → dst k = some t → S k = false) → cur dst val t0 S t K = cur dst val t0 S t i := by
  intro K
  induction K with
  | zero => intro h _; have : i = 0 := by omega
            subst this; rfl
  | succ K ih =>
    intro h hs
    by_cases he : i = K + 1
    · subst he; rfl
    · simp only [cur]
      rw [if_neg, ih (by omega) (fun k h1 h2 => hs k h1 (by omega))]
      rintro ⟨h1, h2⟩
      rw [hs K (by omega) (by omega) h2] at h1
      cases h1
theorem kinds {E : Env} (op : Op) : kind_ E op = 0 ∨ kind_ E op = 1 ∨ kind_ E op = 2 := by
  unfold kind_
  split
  · split <;> simp
  all_goals simp
theorem kds {E : Env} {m : Bool} (op : Op) : (kd_ E m op = 0 ∧ kind_ E op = 0) ∨ (kd_ E m op = 1 ∧ kind_ E op = 1) ∨ kd_ E m op = 2 ∨ (kd_ E m op = 3 ∧ m = true ∧ floats_ op = true) := by
  unfold kd_
  cases hb : m && floats_ op with
  | false =>
    simp only [cond_false]
    cases hb2 : m && builds_ op with
    | true => exact .inr (.inr (.inl rfl))
    | false =>
    simp only [cond_false]
    rcases kinds (E := E) op with h | h | h
    · exact .inl ⟨h, h⟩
    · exact .inr (.inl ⟨h, h⟩)
    · exact .inr (.inr (.inl h))
  | true =>
    simp only [cond_true]
    rw [Bool.and_eq_true] at hb
    exact .inr (.inr (.inr ⟨trivial, hb.1, hb.2⟩))
def dstOf (ops : Array Oper) (k : Nat) : Option Tmp := (ops[k]?).bind (·.dst)
def valOf (tr : List Tc) (k : Nat) : Value := match tr[k]? with | some t => t.v | none => undef
def effOf (E : Env) (m : Bool) (ops : Array Oper) (tr : List Tc) (k : Nat) : Prop := ∃ o t, ops[k]? = some o ∧ tr[k]? = some t ∧ t.did = true ∧ 2 ≤ kd_ E m o.op
/-- an operation that does more, whether it is done or not -/
def eff2 (E : Env) (m : Bool) (ops : Array Oper) (k : Nat) : Prop := ∃ o, ops[k]? = some o ∧ kd_ E m o.op = 2
/-- a new block that was made -/
def eff3 (E : Env) (m : Bool) (ops : Array Oper) (tr : List Tc) (k : Nat) : Prop := ∃ o t, ops[k]? = some o ∧ tr[k]? = some t ∧ t.did = true ∧ kd_ E m o.op = 3
def lst (listed : Array Bool) (k : Nat) : Bool := listed.getD k false
/-- how many are still to be done -/
def todo (listed : Array Bool) : Nat → Nat
  | 0 => 0
  | k + 1 => todo listed k + (if lst listed k = true then 0 else 1)
theorem lst_set (listed : Array Bool) (i k : Nat) (hi : i < listed.size) : lst (listed.setIfInBounds i true) k = if k = i then true else lst listed k := by
  unfold lst
  simp only [Array.getD_eq_getD_getElem?, Array.getElem?_setIfInBounds]
  by_cases h : k = i
  · subst h; simp [hi]
  · rw [if_neg (Ne.symm h), if_neg h]
theorem todo_set (listed : Array Bool) (i : Nat) (hi : i < listed.size) (hl : lst listed i = false) : ∀ k, todo (listed.setIfInBounds i true) k + (if i < k then 1 else 0) = todo listed k := by
  intro k
  induction k with
  | zero => rfl
  | succ k ih =>
    simp only [todo, lst_set listed i k hi]
    by_cases h : k = i
    · subst h
      rw [if_neg (by omega)] at ih
      rw [if_pos rfl, if_pos rfl, if_pos (by omega), hl]
      simp only [Bool.false_eq_true, if_false]
      omega
    · rw [if_neg h]
      by_cases h2 : i < k
      · rw [if_pos h2] at ih
        have e : (if i < k + 1 then 1 else 0) = 1 := if_pos (by omega)
        rw [e]; omega
      · rw [if_neg h2] at ih
        have e : (if i < k + 1 then 1 else 0) = 0 := if_neg (by omega)
        rw [e]; omega
theorem todo_zero {listed : Array Bool} : ∀ {k : Nat}, todo listed k = 0 → ∀ j, j < k → lst listed j = true := by
  intro k
  induction k with
  | zero => intro _ j h; omega
  | succ k ih =>
    intro h j hj
    simp only [todo] at h
    by_cases hk : lst listed k = true
    · rw [if_pos hk] at h
      by_cases e : j = k
      · subst e; exact hk
      · exact ih h j (by omega)
    · rw [if_neg hk] at h
      omega
/-- What must hold between any two operations. -/
structure Fixed (E : Env) (m : Bool) (ops : Array Oper) (an : List Nat) : Prop where
  edge : ∀ (j : Nat) (y : Oper), ops[j]? = some y → ∀ e ∈ y.after.toList, Region.binds .any e = true → e.on < j
  pair : ∀ (i j : Nat) (x y : Oper), ops[i]? = some x → ops[j]? = some y → i < j → ancB an j i = true ∨ (clash_ ops.toList x y = false ∧ ¬ (2 ≤ kd_ E m x.op ∧ kd_ E m y.op = 2))
theorem fixed_of {E : Env} {m : Bool} {ops : Array Oper} {an : List Nat} (h : drawOk_ E m ops.toList an = true) : Fixed E m ops an := by
  unfold drawOk_ at h
  rw [List.all_eq_true] at h
  have key : ∀ (j : Nat) (y : Oper), ops[j]? = some y → (y, j) ∈ ops.toList.zipIdx := fun j y hy => by
    rw [List.mem_zipIdx_iff_getElem?]; simpa using hy
  refine ⟨fun j y hy e he hb => ?_, fun i j x y hx hy hij => ?_⟩
  · have h1 := h _ (key j y hy)
    simp only [Bool.and_eq_true] at h1
    have h2 := List.all_eq_true.1 h1.1 e he
    rw [hb] at h2
    simp only [Bool.not_true, Bool.false_or] at h2
    exact Nat.lt_of_lt_of_le (Nat.lt_succ_self _) (Nat.le_of_ble_eq_true h2)
  · have h1 := h _ (key j y hy)
    simp only [Bool.and_eq_true] at h1
    have h2 := List.all_eq_true.1 h1.2 _ (key i x hx)
    have h3 : Nat.blt i j = true := Nat.ble_eq_true_of_le hij
    simp only [h3, Bool.not_true, Bool.false_or, Bool.or_eq_true, Bool.and_eq_true, Bool.not_eq_true'] at h2
    rcases h2 with h2 | ⟨h2, h4⟩
    · exact .inl h2
    · refine .inr ⟨h2, fun ⟨k1, k2⟩ => ?_⟩
      have h5 : Nat.blt 1 (kd_ E m x.op) = true := Nat.ble_eq_true_of_le k1
      rw [h5, k2] at h4
      cases h4
/-- What hangs on a new block comes behind an effect; its slot is its own. -/
theorem late_of {E : Env} {ops : Array Oper} {an : List Nat} (h : lateOk_ E ops.toList an = true) {f : Nat} {x : Oper} (hx : ops[f]? = some x) (hk : kd_ E true x.op = 3) :
    (∃ d, x.dst = some d ∧ ∀ j y, ops[j]? = some y → j ≠ f → y.dst ≠ some d) ∧
    ∀ j y, ops[j]? = some y → f < j → kd_ E true y.op ≠ 2 → ancB an j f = true → ∃ e z, ops[e]? = some z ∧ f < e ∧ e < j ∧ kd_ E true z.op = 2 ∧ ancB an j e = true := by
  unfold lateOk_ at h
  rw [List.all_eq_true] at h
  have key : ∀ (j : Nat) (y : Oper), ops[j]? = some y → (y, j) ∈ ops.toList.zipIdx := fun j y hy => by
    rw [List.mem_zipIdx_iff_getElem?]; simpa using hy
  have hfl : floats_ x.op = true := by
    unfold kd_ at hk
    cases hf : floats_ x.op with
    | true => rfl
    | false =>
      rw [hf] at hk
      simp only [Bool.and_false, cond_false] at hk
      cases hb2 : true && builds_ x.op with
      | true => rw [hb2] at hk; cases hk
      | false =>
      rw [hb2, cond_false] at hk
      rcases kinds (E := E) x.op with h | h | h <;> omega
  have h1 := h _ (key f x hx)
  simp only [hfl, Bool.not_true, Bool.false_or, Bool.and_eq_true] at h1
  obtain ⟨h1, h2⟩ := h1
  refine ⟨?_, fun j y hy hfj hkj hanc => ?_⟩
  · cases hd : x.dst with
    | none => rw [hd] at h1; cases h1
    | some d =>
      rw [hd] at h1
      refine ⟨d, rfl, fun j y hy hne he => ?_⟩
      have h3 := List.all_eq_true.1 h1 _ (key j y hy)
      simp only [he, Bool.or_eq_true, Nat.beq_refl, Bool.not_true, Bool.or_false] at h3
      exact hne (Nat.eq_of_beq_eq_true h3)
  · have h3 := List.all_eq_true.1 h2 _ (key j y hy)
    have e1 : Nat.blt f j = true := Nat.ble_eq_true_of_le hfj
    have e2 : Nat.beq (kd_ E true y.op) 2 = false := by
      cases hb : Nat.beq (kd_ E true y.op) 2 with
      | false => rfl
      | true => exact absurd (Nat.eq_of_beq_eq_true hb) hkj
    have e3 : bitOf_ an j f = true := hanc
    simp only [e1, e2, e3, Bool.not_true, Bool.false_or] at h3
    obtain ⟨⟨z, e⟩, hm, h4⟩ := List.any_eq_true.1 h3
    simp only [Bool.and_eq_true] at h4
    obtain ⟨⟨⟨h5, h6⟩, h7⟩, h8⟩ := h4
    rw [List.mem_zipIdx_iff_getElem?] at hm
    refine ⟨e, z, by simpa using hm, Nat.lt_of_lt_of_le (Nat.lt_succ_self _) (Nat.le_of_ble_eq_true h5), Nat.lt_of_lt_of_le (Nat.lt_succ_self _) (Nat.le_of_ble_eq_true h6), Nat.eq_of_beq_eq_true h7, h8⟩
theorem clash_left {all : List Oper} {x y : Oper} (h : clash_ all x y = false) {d : Tmp} (hd : x.dst = some d) : d ∉ looks_ all y ∧ y.dst ≠ some d := by
  unfold clash_ at h
  rw [hd] at h
  simp only [Bool.or_eq_false_iff] at h
  refine ⟨fun hm => ?_, fun he => ?_⟩
  · have := List.any_eq_true.2 ⟨d, hm, Nat.beq_refl d⟩
    rw [this] at h
    cases h.1.1
  · have h2 := h.1.2
    rw [he] at h2
    simp only at h2
    rw [Nat.beq_refl d] at h2
    cases h2
theorem clash_right {all : List Oper} {x y : Oper} (h : clash_ all x y = false) {d : Tmp} (hd : y.dst = some d) : d ∉ looks_ all x := by
  unfold clash_ at h
  rw [hd] at h
  simp only [Bool.or_eq_false_iff] at h
  intro hm
  have := List.any_eq_true.2 ⟨d, hm, Nat.beq_refl d⟩
  rw [this] at h
  cases h.2
theorem reads_of {E : Env} {m : Bool} {ops : Array Oper} {an : List Nat} {tr : List Tc} {hN : Hp} (h : readsOk_ E m ops.toList an tr hN = true) {i : Nat} {x : Oper} {t : Tc} (hx : ops[i]? = some x) (ht : tr[i]? = some t) (hd : t.did = true) (hk : kd_ E m x.op = 1) :
    again_ E t x.op t.h = true ∧ ∀ e, effOf E m ops tr e → (e < i → ancB an i e = true ∨ again_ E t x.op (hpAt tr hN e) = true) ∧ (i < e → ancB an e i = true ∨ again_ E t x.op (hpAt tr hN (e + 1)) = true) := by
  unfold readsOk_ at h
  rw [List.all_eq_true] at h
  have key : ∀ (j : Nat) (y : Oper) (u : Tc), ops[j]? = some y → tr[j]? = some u → ((y, u), j) ∈ (ops.toList.zip tr).zipIdx := fun j y u hy hu => by
    rw [List.mem_zipIdx_iff_getElem?]
    simp only
    rw [List.getElem?_zip_eq_some]
    exact ⟨by simpa using hy, hu⟩
  have h1 := h _ (key i x t hx ht)
  simp only [hd, hk, Nat.beq_refl, Bool.and_self, Bool.not_true, Bool.false_or, Bool.and_eq_true] at h1
  refine ⟨h1.1, fun e he => ?_⟩
  obtain ⟨y, u, hy, hu, hdu, hku⟩ := he
  have h2 := List.all_eq_true.1 h1.2 _ (key e y u hy hu)
  have hku' : Nat.blt 1 (kd_ E m y.op) = true := Nat.ble_eq_true_of_le hku
  simp only [hdu, hku', Bool.and_self, Bool.not_true, Bool.false_or] at h2
  refine ⟨fun hlt => ?_, fun hlt => ?_⟩
  · have h3 : Nat.blt e i = true := Nat.ble_eq_true_of_le hlt
    rw [h3, cond_true, Bool.or_eq_true] at h2
    have : hpAt tr hN e = u.h := by unfold hpAt; rw [hu]
    rw [this]
    exact h2
  · have h3 : Nat.blt e i = false := by
      rw [Bool.eq_false_iff]
      intro hb
      have := Nat.le_of_ble_eq_true hb
      omega
    rw [h3, cond_false, Bool.or_eq_true] at h2
    exact h2
end Go.Proofs.YtbanpcnokkcjjaaGreatDoor
