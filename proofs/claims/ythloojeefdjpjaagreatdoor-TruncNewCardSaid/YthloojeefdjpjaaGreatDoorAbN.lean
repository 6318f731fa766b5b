/- Regions whose order is open, the end: whatever order the machine draws. -/
import Derived.Test.YthloojeefdjpjaaGreatDoorAbM
namespace Go.Proofs.YthloojeefdjpjaaGreatDoor
open Go Go.RowKit
set_option linter.unusedVariables false
set_option linter.unusedSimpArgs false

def frAt (tr : List Tc) (last : Fr) (i : Nat) : Fr := match tr[i]? with | some t => t.a | none => last
def hpAt (tr : List Tc) (last : Hp) (i : Nat) : Hp := match tr[i]? with | some t => t.h | none => last
structure Run (E : Env) (call : FuncId → List Value → Hp → Option (Value × Hp)) (all l : List Oper) (a : Fr) (h : Hp) (tr : List Tc) (aN : Fr) (hN : Hp) : Prop where
  len : tr.length = l.length
  a0 : frAt tr aN 0 = a
  h0 : hpAt tr hN 0 = h
  step : ∀ i o, l[i]? = some o → ∃ t, tr[i]? = some t ∧ wanted_ t.a all o = some t.did ∧ (t.did = true → oneOp E call t.a.eval o.op t.h = some (t.v, hpAt tr hN (i + 1))) ∧
    (t.did = false → t.v = undef ∧ hpAt tr hN (i + 1) = t.h) ∧ t.a.put o.dst t.v = some (frAt tr aN (i + 1))
theorem trace_run {E : Env} {call : FuncId → List Value → Hp → Option (Value × Hp)} {all : List Oper} : ∀ {l : List Oper} {a : Fr} {h : Hp} {tr : List Tc} {aN : Fr} {hN : Hp}, trace_ E call all l a h = some (tr, aN, hN) → Run E call all l a h tr aN hN := by
  intro l
  induction l with
  | nil =>
    intro a h tr aN hN ht
    simp only [trace_, Option.some.injEq, Prod.mk.injEq] at ht
    obtain ⟨rfl, rfl, rfl⟩ := ht
    exact ⟨rfl, rfl, rfl, fun i o h => by simp at h⟩
  | cons o l ih =>
    intro a h tr aN hN ht
    simp only [trace_] at ht
    have mk : ∀ (d : Bool) (v : Value) (a2 : Fr) (h2 : Hp) (tr2 : List Tc), wanted_ a all o = some d → a.put o.dst v = some a2 → trace_ E call all l a2 h2 = some (tr2, aN, hN) → tr = ⟨a, h, d, v⟩ :: tr2 →
        (d = true → oneOp E call a.eval o.op h = some (v, h2)) → (d = false → v = undef ∧ h2 = h) → Run E call all (o :: l) a h tr aN hN := by
      intro d v a2 h2 tr2 hw hput ht2 htr h5 h6
      subst htr
      have R := ih ht2
      have e1 : hpAt (⟨a, h, d, v⟩ :: tr2) hN 1 = h2 := by
        have := R.h0
        unfold hpAt at this ⊢
        simpa using this
      have e2 : frAt (⟨a, h, d, v⟩ :: tr2) aN 1 = a2 := by
        have := R.a0
        unfold frAt at this ⊢
        simpa using this
      refine ⟨by simp [R.len], rfl, rfl, fun i o' ho => ?_⟩
      cases i with
      | zero =>
        simp only [List.getElem?_cons_zero, Option.some.injEq] at ho
        subst ho
        refine ⟨⟨a, h, d, v⟩, rfl, hw, fun hd => ?_, fun hd => ?_, ?_⟩
        · show oneOp E call a.eval o.op h = some (v, hpAt _ hN 1)
          rw [e1]; exact h5 hd
        · show v = undef ∧ hpAt _ hN 1 = h
          rw [e1]; exact h6 hd
        · show a.put o.dst v = some (frAt _ aN 1)
          rw [e2]; exact hput
      | succ i => exact R.step i o' (by simpa using ho)
    cases hw : wanted_ a all o with
    | none => rw [hw] at ht; cases ht
    | some d =>
      rw [hw] at ht
      cases d with
      | true =>
        simp only at ht
        cases h1 : oneOp E call a.eval o.op h with
        | none => rw [h1] at ht; cases ht
        | some q =>
          obtain ⟨v, h2⟩ := q
          rw [h1] at ht
          simp only at ht
          cases hput : a.put o.dst v with
          | none => rw [hput] at ht; cases ht
          | some a2 =>
            rw [hput] at ht
            simp only at ht
            cases ht2 : trace_ E call all l a2 h2 with
            | none => rw [ht2] at ht; cases ht
            | some q =>
              obtain ⟨tr2, aN2, hN2⟩ := q
              rw [ht2] at ht
              simp only [Option.some.injEq, Prod.mk.injEq] at ht
              obtain ⟨rfl, rfl, rfl⟩ := ht
              exact mk true v a2 h2 tr2 hw hput ht2 rfl (fun _ => h1) (fun h => by cases h)
      | false =>
        simp only at ht
        cases hput : a.put o.dst undef with
        | none => rw [hput] at ht; cases ht
        | some a2 =>
          rw [hput] at ht
          simp only at ht
          cases ht2 : trace_ E call all l a2 h with
          | none => rw [ht2] at ht; cases ht
          | some q =>
            obtain ⟨tr2, aN2, hN2⟩ := q
            rw [ht2] at ht
            simp only [Option.some.injEq, Prod.mk.injEq] at ht
            obtain ⟨rfl, rfl, rfl⟩ := ht
            exact mk false undef a2 h tr2 hw hput ht2 rfl (fun h => by cases h) (fun _ => ⟨rfl, rfl⟩)
theorem put_get {a a2 : Fr} {d : Option Tmp} {v : Value} (hp : a.put d v = some a2) (hm : a.n ≤ 100000) (t : Tmp) : a2.get t = (if d = some t then v else a.get t) ∧ a2.n = a.n ∧ a2.gl = a.gl := by
  rw [Fr.put_eq] at hp
  cases d with
  | none => simp only [Option.some.injEq] at hp; subst hp; exact ⟨by rw [if_neg (by simp)], rfl, rfl⟩
  | some d =>
    simp only at hp
    cases hb : Nat.blt d a.n with
    | false => rw [hb] at hp; cases hp
    | true =>
      rw [hb, cond_true, Tr.force_eq] at hp
      injection hp with hp
      subst hp
      have hlt : @LT.lt Nat _ d a.n := Nat.lt_of_lt_of_le (Nat.lt_succ_self _) (Nat.le_of_ble_eq_true hb)
      refine ⟨?_, rfl, rfl⟩
      show (match (a.t.set 24 d v).get t with | some v => v | none => undef) = _
      rw [Tr.get_set 24 _ _ _ _ (by omega)]
      by_cases ht : t = d
      · subst ht; rw [if_pos rfl, if_pos rfl]
      · rw [if_neg ht, if_neg (by intro e; injection e with e; exact ht e.symm)]
        rfl
def cur (dst : Nat → Option Tmp) (val : Nat → Value) (t0 : Tmp → Value) (S : Nat → Bool) (t : Tmp) : Nat → Value
  | 0 => t0 t
  | k + 1 => if S k = true ∧ dst k = some t then val k else cur dst val t0 S t k
theorem cur_congr {dst : Nat → Option Tmp} {val : Nat → Value} {t0 : Tmp → Value} {S S' : Nat → Bool} {t : Tmp} : ∀ {K : Nat}, (∀ k, k < K → dst k = some t → S k = S' k) → cur dst val t0 S t K = cur dst val t0 S' t K := by
  intro K
  induction K with
  | zero => intro _; rfl
  | succ K ih =>
    intro h
    simp only [cur]
    rw [ih fun k hk => h k (by omega)]
    by_cases hd : dst K = some t
    · rw [h K (by omega) hd]
    · rw [if_neg (fun hh => hd hh.2), if_neg (fun hh => hd hh.2)]
theorem cur_stop {dst : Nat → Option Tmp} {val : Nat → Value} {t0 : Tmp → Value} {S : Nat → Bool} {t : Tmp} {i : Nat} : ∀ {K : Nat}, i ≤ K → (∀ k, i ≤ k → k < K → dst k = some t → S k = false) → cur dst val t0 S t K = cur dst val t0 S t i := by
  intro K
  induction K with
  | zero => intro h _; have : i = 0 := by omega
            subst this; rfl
  | succ K ih =>
    intro h hs
    by_cases he : i = K + 1
    · subst he; rfl
    · simp only [cur]
      rw [if_neg, ih (by omega) (fun k h1 h2 => hs k h1 (by omega))]
      rintro ⟨h1, h2⟩
      rw [hs K (by omega) (by omega) h2] at h1
      cases h1
theorem kinds {E : Env} (op : Op) : kind_ E op = 0 ∨ kind_ E op = 1 ∨ kind_ E op = 2 := by
  unfold kind_
  split
  · split <;> simp
  all_goals simp
theorem kds {E : Env} {m : Bool} (op : Op) : (kd_ E m op = 0 ∧ kind_ E op = 0) ∨ (kd_ E m op = 1 ∧ kind_ E op = 1) ∨ kd_ E m op = 2 ∨ (kd_ E m op = 3 ∧ m = true ∧ floats_ op = true) := by
  unfold kd_
  cases hb : m && floats_ op with
  | false =>
    simp only [cond_false]
    rcases kinds (E := E) op with h | h | h
    · exact .inl ⟨h, h⟩
    · exact .inr (.inl ⟨h, h⟩)
    · exact .inr (.inr (.inl h))
  | true =>
    simp only [cond_true]
    rw [Bool.and_eq_true] at hb
    exact .inr (.inr (.inr ⟨trivial, hb.1, hb.2⟩))
def dstOf (ops : Array Oper) (k : Nat) : Option Tmp := (ops[k]?).bind (·.dst)
def valOf (tr : List Tc) (k : Nat) : Value := match tr[k]? with | some t => t.v | none => undef
def effOf (E : Env) (m : Bool) (ops : Array Oper) (tr : List Tc) (k : Nat) : Prop := ∃ o t, ops[k]? = some o ∧ tr[k]? = some t ∧ t.did = true ∧ 2 ≤ kd_ E m o.op
/-- an operation that does more, whether it is done or not -/
def eff2 (E : Env) (m : Bool) (ops : Array Oper) (k : Nat) : Prop := ∃ o, ops[k]? = some o ∧ kd_ E m o.op = 2
/-- a new block that was made -/
def eff3 (E : Env) (m : Bool) (ops : Array Oper) (tr : List Tc) (k : Nat) : Prop := ∃ o t, ops[k]? = some o ∧ tr[k]? = some t ∧ t.did = true ∧ kd_ E m o.op = 3
def lst (listed : Array Bool) (k : Nat) : Bool := listed.getD k false
/-- how many are still to be done -/
def todo (listed : Array Bool) : Nat → Nat
  | 0 => 0
  | k + 1 => todo listed k + (if lst listed k = true then 0 else 1)
theorem lst_set (listed : Array Bool) (i k : Nat) (hi : i < listed.size) : lst (listed.setIfInBounds i true) k = if k = i then true else lst listed k := by
  unfold lst
  simp only [Array.getD_eq_getD_getElem?, Array.getElem?_setIfInBounds]
  by_cases h : k = i
  · subst h; simp [hi]
  · rw [if_neg (Ne.symm h), if_neg h]
theorem todo_set (listed : Array Bool) (i : Nat) (hi : i < listed.size) (hl : lst listed i = false) : ∀ k, todo (listed.setIfInBounds i true) k + (if i < k then 1 else 0) = todo listed k := by
  intro k
  induction k with
  | zero => rfl
  | succ k ih =>
    simp only [todo, lst_set listed i k hi]
    by_cases h : k = i
    · subst h
      rw [if_neg (by omega)] at ih
      rw [if_pos rfl, if_pos rfl, if_pos (by omega), hl]
      simp only [Bool.false_eq_true, if_false]
      omega
    · rw [if_neg h]
      by_cases h2 : i < k
      · rw [if_pos h2] at ih
        have e : (if i < k + 1 then 1 else 0) = 1 := if_pos (by omega)
        rw [e]; omega
      · rw [if_neg h2] at ih
        have e : (if i < k + 1 then 1 else 0) = 0 := if_neg (by omega)
        rw [e]; omega
theorem todo_zero {listed : Array Bool} : ∀ {k : Nat}, todo listed k = 0 → ∀ j, j < k → lst listed j = true := by
  intro k
  induction k with
  | zero => intro _ j h; omega
  | succ k ih =>
    intro h j hj
    simp only [todo] at h
    by_cases hk : lst listed k = true
    · rw [if_pos hk] at h
      by_cases e : j = k
      · subst e; exact hk
      · exact ih h j (by omega)
    · rw [if_neg hk] at h
      omega
/-- What must hold between any two operations. -/
structure Fixed (E : Env) (m : Bool) (ops : Array Oper) (an : List Nat) : Prop where
  edge : ∀ (j : Nat) (y : Oper), ops[j]? = some y → ∀ e ∈ y.after.toList, Region.binds .any e = true → e.on < j
  pair : ∀ (i j : Nat) (x y : Oper), ops[i]? = some x → ops[j]? = some y → i < j → ancB an j i = true ∨ (clash_ ops.toList x y = false ∧ ¬ (2 ≤ kd_ E m x.op ∧ kd_ E m y.op = 2))
theorem fixed_of {E : Env} {m : Bool} {ops : Array Oper} {an : List Nat} (h : drawOk_ E m ops.toList an = true) : Fixed E m ops an := by
  unfold drawOk_ at h
  rw [List.all_eq_true] at h
  have key : ∀ (j : Nat) (y : Oper), ops[j]? = some y → (y, j) ∈ ops.toList.zipIdx := fun j y hy => by
    rw [List.mem_zipIdx_iff_getElem?]; simpa using hy
  refine ⟨fun j y hy e he hb => ?_, fun i j x y hx hy hij => ?_⟩
  · have h1 := h _ (key j y hy)
    simp only [Bool.and_eq_true] at h1
    have h2 := List.all_eq_true.1 h1.1 e he
    rw [hb] at h2
    simp only [Bool.not_true, Bool.false_or] at h2
    exact Nat.lt_of_lt_of_le (Nat.lt_succ_self _) (Nat.le_of_ble_eq_true h2)
  · have h1 := h _ (key j y hy)
    simp only [Bool.and_eq_true] at h1
    have h2 := List.all_eq_true.1 h1.2 _ (key i x hx)
    have h3 : Nat.blt i j = true := Nat.ble_eq_true_of_le hij
    simp only [h3, Bool.not_true, Bool.false_or, Bool.or_eq_true, Bool.and_eq_true, Bool.not_eq_true'] at h2
    rcases h2 with h2 | ⟨h2, h4⟩
    · exact .inl h2
    · refine .inr ⟨h2, fun ⟨k1, k2⟩ => ?_⟩
      have h5 : Nat.blt 1 (kd_ E m x.op) = true := Nat.ble_eq_true_of_le k1
      rw [h5, k2] at h4
      cases h4
/-- What hangs on a new block comes behind an effect; its slot is its own. -/
theorem late_of {E : Env} {ops : Array Oper} {an : List Nat} (h : lateOk_ E ops.toList an = true) {f : Nat} {x : Oper} (hx : ops[f]? = some x) (hk : kd_ E true x.op = 3) :
    (∃ d, x.dst = some d ∧ ∀ j y, ops[j]? = some y → j ≠ f → y.dst ≠ some d) ∧
    ∀ j y, ops[j]? = some y → f < j → kd_ E true y.op ≠ 2 → kd_ E true y.op ≠ 0 → ancB an j f = true → ∃ e z, ops[e]? = some z ∧ f < e ∧ e < j ∧ kd_ E true z.op = 2 ∧ ancB an j e = true := by
  unfold lateOk_ at h
  rw [List.all_eq_true] at h
  have key : ∀ (j : Nat) (y : Oper), ops[j]? = some y → (y, j) ∈ ops.toList.zipIdx := fun j y hy => by
    rw [List.mem_zipIdx_iff_getElem?]; simpa using hy
  have hfl : floats_ x.op = true := by
    unfold kd_ at hk
    cases hf : floats_ x.op with
    | true => rfl
    | false =>
      rw [hf] at hk
      simp only [Bool.and_false, cond_false] at hk
      rcases kinds (E := E) x.op with h | h | h <;> omega
  have h1 := h _ (key f x hx)
  simp only [hfl, Bool.not_true, Bool.false_or, Bool.and_eq_true] at h1
  obtain ⟨h1, h2⟩ := h1
  refine ⟨?_, fun j y hy hfj hkj hkj0 hanc => ?_⟩
  · cases hd : x.dst with
    | none => rw [hd] at h1; cases h1
    | some d =>
      rw [hd] at h1
      refine ⟨d, rfl, fun j y hy hne he => ?_⟩
      have h3 := List.all_eq_true.1 h1 _ (key j y hy)
      simp only [he, Bool.or_eq_true, Nat.beq_refl, Bool.not_true, Bool.or_false] at h3
      exact hne (Nat.eq_of_beq_eq_true h3)
  · have h3 := List.all_eq_true.1 h2 _ (key j y hy)
    have e1 : Nat.blt f j = true := Nat.ble_eq_true_of_le hfj
    have e2 : Nat.beq (kd_ E true y.op) 2 = false := by
      cases hb : Nat.beq (kd_ E true y.op) 2 with
      | false => rfl
      | true => exact absurd (Nat.eq_of_beq_eq_true hb) hkj
    have e4 : Nat.beq (kd_ E true y.op) 0 = false := by
      cases hb : Nat.beq (kd_ E true y.op) 0 with
      | false => rfl
      | true => exact absurd (Nat.eq_of_beq_eq_true hb) hkj0
    have e3 : bitOf_ an j f = true := hanc
    simp only [e1, e2, e3, e4, Bool.not_true, Bool.false_or] at h3
    obtain ⟨⟨z, e⟩, hm, h4⟩ := List.any_eq_true.1 h3
    simp only [Bool.and_eq_true] at h4
    obtain ⟨⟨⟨h5, h6⟩, h7⟩, h8⟩ := h4
    rw [List.mem_zipIdx_iff_getElem?] at hm
    refine ⟨e, z, by simpa using hm, Nat.lt_of_lt_of_le (Nat.lt_succ_self _) (Nat.le_of_ble_eq_true h5), Nat.lt_of_lt_of_le (Nat.lt_succ_self _) (Nat.le_of_ble_eq_true h6), Nat.eq_of_beq_eq_true h7, h8⟩
theorem clash_left {all : List Oper} {x y : Oper} (h : clash_ all x y = false) {d : Tmp} (hd : x.dst = some d) : d ∉ looks_ all y ∧ y.dst ≠ some d := by
  unfold clash_ at h
  rw [hd] at h
  simp only [Bool.or_eq_false_iff] at h
  refine ⟨fun hm => ?_, fun he => ?_⟩
  · have := List.any_eq_true.2 ⟨d, hm, Nat.beq_refl d⟩
    rw [this] at h
    cases h.1.1
  · have h2 := h.1.2
    rw [he] at h2
    simp only at h2
    rw [Nat.beq_refl d] at h2
    cases h2
theorem clash_right {all : List Oper} {x y : Oper} (h : clash_ all x y = false) {d : Tmp} (hd : y.dst = some d) : d ∉ looks_ all x := by
  unfold clash_ at h
  rw [hd] at h
  simp only [Bool.or_eq_false_iff] at h
  intro hm
  have := List.any_eq_true.2 ⟨d, hm, Nat.beq_refl d⟩
  rw [this] at h
  cases h.2
theorem reads_of {E : Env} {m : Bool} {ops : Array Oper} {an : List Nat} {tr : List Tc} {hN : Hp} (h : readsOk_ E m ops.toList an tr hN = true) {i : Nat} {x : Oper} {t : Tc} (hx : ops[i]? = some x) (ht : tr[i]? = some t) (hd : t.did = true) (hk : kd_ E m x.op = 1) :
    again_ E t x.op t.h = true ∧ ∀ e, effOf E m ops tr e → (e < i → ancB an i e = true ∨ again_ E t x.op (hpAt tr hN e) = true) ∧ (i < e → ancB an e i = true ∨ again_ E t x.op (hpAt tr hN (e + 1)) = true) := by
  unfold readsOk_ at h
  rw [List.all_eq_true] at h
  have key : ∀ (j : Nat) (y : Oper) (u : Tc), ops[j]? = some y → tr[j]? = some u → ((y, u), j) ∈ (ops.toList.zip tr).zipIdx := fun j y u hy hu => by
    rw [List.mem_zipIdx_iff_getElem?]
    simp only
    rw [List.getElem?_zip_eq_some]
    exact ⟨by simpa using hy, hu⟩
  have h1 := h _ (key i x t hx ht)
  simp only [hd, hk, Nat.beq_refl, Bool.and_self, Bool.not_true, Bool.false_or, Bool.and_eq_true] at h1
  refine ⟨h1.1, fun e he => ?_⟩
  obtain ⟨y, u, hy, hu, hdu, hku⟩ := he
  have h2 := List.all_eq_true.1 h1.2 _ (key e y u hy hu)
  have hku' : Nat.blt 1 (kd_ E m y.op) = true := Nat.ble_eq_true_of_le hku
  simp only [hdu, hku', Bool.and_self, Bool.not_true, Bool.false_or] at h2
  refine ⟨fun hlt => ?_, fun hlt => ?_⟩
  · have h3 : Nat.blt e i = true := Nat.ble_eq_true_of_le hlt
    rw [h3, cond_true, Bool.or_eq_true] at h2
    have : hpAt tr hN e = u.h := by unfold hpAt; rw [hu]
    rw [this]
    exact h2
  · have h3 : Nat.blt e i = false := by
      rw [Bool.eq_false_iff]
      intro hb
      have := Nat.le_of_ble_eq_true hb
      omega
    rw [h3, cond_false, Bool.or_eq_true] at h2
    exact h2
/-- Whom one hangs on, those hang on: one hangs on them, too. -/
theorem anc_lt {E : Env} {md : Bool} {ops : Array Oper} {an : List Nat} (han : anc_ ops.toList [] = an) (F : Fixed E md ops an) : ∀ i j, ancB an i j = true → j < i ∧ i < ops.size := by
  intro i
  induction i using Nat.strongRecOn with
  | _ i ih =>
    intro j hj
    have hi : i < ops.size := by
      unfold ancB at hj
      cases hk : an[i]? with
      | none => rw [hk] at hj; simp at hj
      | some k =>
        have h1 := (List.getElem?_eq_some_iff.1 hk).1
        rw [← han, (anc_spec ops.toList []).1] at h1
        simpa using h1
    have ho : ops.toList[i]? = some ops[i] := by simp
    have h0 : ([] : List Nat).length + i = i := by simp
    have A := (anc_spec ops.toList []).2.2 i _ ho j
    rw [h0, han] at A
    obtain ⟨e, he, hb, h5⟩ := A hj
    have hlt := F.edge i ops[i] (by simp) e he hb
    refine ⟨?_, hi⟩
    rcases h5 with rfl | h5
    · exact hlt
    · have := (ih e.on hlt j h5).1; omega
theorem anc_trans {E : Env} {md : Bool} {ops : Array Oper} {an : List Nat} (han : anc_ ops.toList [] = an) (F : Fixed E md ops an) : ∀ i k j, ancB an i k = true → ancB an k j = true → ancB an i j = true := by
  intro i
  induction i using Nat.strongRecOn with
  | _ i ih =>
    intro k j hk hj
    have hi := (anc_lt han F i k hk).2
    have ho : ops.toList[i]? = some ops[i] := by simp
    have h0 : ([] : List Nat).length + i = i := by simp
    have A := (anc_spec ops.toList []).2.2 i _ ho k
    rw [h0, han] at A
    obtain ⟨e, he, hb, h5⟩ := A hk
    have hlt := F.edge i ops[i] (by simp) e he hb
    have B := anc_back ops.toList [] i _ ho e he hb (by rw [h0]; exact hlt) j
    rw [h0, han] at B
    refine B (.inr ?_)
    rcases h5 with rfl | h5
    · exact hj
    · exact ih e.on hlt k j h5 hj
theorem ups_le : ∀ {tr : List Tc} {last : Hp}, ups_ tr last = true → ∀ i, i < tr.length → (hpAt tr last i).next ≤ (hpAt tr last (i + 1)).next := by
  intro tr
  induction tr with
  | nil => intro last _ i hi; simp at hi
  | cons t l ih =>
    intro last h i hi
    simp only [ups_] at h
    split at h
    · rename_i hb
      cases i with
      | zero =>
        have := Nat.le_of_ble_eq_true hb
        cases l with
        | nil => exact this
        | cons u l => exact this
      | succ i =>
        have := ih h i (by simpa using hi)
        simpa [hpAt] using this
    · cases h
theorem ups_mono {tr : List Tc} {last : Hp} (h : ups_ tr last = true) {i : Nat} : ∀ {k : Nat}, i ≤ k → k ≤ tr.length → (hpAt tr last i).next ≤ (hpAt tr last k).next := by
  intro k
  induction k with
  | zero => intro h1 _; have : i = 0 := by omega
            subst this; exact Nat.le_refl _
  | succ k ih =>
    intro h1 h2
    by_cases he : i = k + 1
    · subst he; exact Nat.le_refl _
    · exact Nat.le_trans (ih (by omega) (by omega)) (ups_le h k (by omega))
/-! ### Values beside values, in two ways -/
theorem VR.ptr_inv' {β : Bt} {b o : Nat} {y : Value} (h : VR β (.pointer (some ⟨b, o, none⟩)) y) : ∃ i, β b = some i ∧ y = .pointer (some ⟨i.blk, i.off + o, none⟩) := by cases h with | ptr o h => exact ⟨_, h, rfl⟩
theorem VR.slice_inv' {β : Bt} {b o n c : Nat} {y : Value} (h : VR β (.slice (some ⟨b, o, none⟩) n c) y) : ∃ i, β b = some i ∧ y = .slice (some ⟨i.blk, i.off + o, none⟩) n (c + i.ex) := by cases h with | slice o n c h => exact ⟨_, h, rfl⟩
theorem VR.map_inv' {β : Bt} {b : Nat} {y : Value} (h : VR β (.map (some b)) y) : ∃ i, β b = some i ∧ y = .map (some i.blk) := by cases h with | map h => exact ⟨_, h, rfl⟩
theorem VR.iface_inv' {β : Bt} {t : TypeId} {x y : Value} (h : VR β (.iface t x) (.iface t y)) : VR β x y := by cases h with | iface t h => exact h
theorem VR.agg_inv' {β : Bt} {xs ys : Array Value} (h : VR β (.agg xs) (.agg ys)) : ∀ (i : Nat) (x y : Value), xs[i]? = some x → ys[i]? = some y → VR β x y := by cases h with | agg h1 h2 => exact h2
theorem VR.tuple_inv' {β : Bt} {xs ys : Array Value} (h : VR β (.tuple xs) (.tuple ys)) : ∀ (i : Nat) (x y : Value), xs[i]? = some x → ys[i]? = some y → VR β x y := by cases h with | tuple h1 h2 => exact h2
theorem VR.func_inv' {β : Bt} {fn : Fn} {xs ys cs ds : Array Value} (h : VR β (.func fn xs cs) (.func fn ys ds)) : (∀ (i : Nat) (x y : Value), xs[i]? = some x → ys[i]? = some y → VR β x y) ∧ ∀ (i : Nat) (x y : Value), cs[i]? = some x → ds[i]? = some y → VR β x y := by cases h with | func fn h1 h2 h3 h4 => exact ⟨h2, h4⟩
/-- What stands beside a value by two maps that agree only where a third says so. -/
theorem VR.meet {β βA βB : Bt} (hm : ∀ b i j, βA b = some i → βB b = some j → i.blk = j.blk → β b = some i) {x y : Value} (hA : VR βA x y) : VR βB x y → VR β x y := by
  induction hA with
  | lost v h => intro _; exact .lost v h
  | any v => intro _; exact .any v
  | rest8 c a h ha => intro _; exact .rest8 c a h ha
  | rest64 c a h ha => intro _; exact .rest64 c a h ha
  | noneLeft a c => intro _; exact .noneLeft a c
  | bool b => intro _; exact .bool b
  | int k n => intro _; exact .int k n
  | string s => intro _; exact .string s
  | nilPtr => intro _; exact .nilPtr
  | ptr o h =>
    intro hB
    obtain ⟨j, h1, h2⟩ := hB.ptr_inv'
    injection h2 with h2
    injection h2 with h2
    injection h2 with h2 _
    exact .ptr o (hm _ _ _ h h1 h2)
  | nilSlice n c => intro _; exact .nilSlice n c
  | slice o n c h =>
    intro hB
    obtain ⟨j, h1, h2⟩ := hB.slice_inv'
    injection h2 with h2
    injection h2 with h2
    injection h2 with h2 _
    exact .slice o n c (hm _ _ _ h h1 h2)
  | nilMap => intro _; exact .nilMap
  | map h =>
    intro hB
    obtain ⟨j, h1, h2⟩ := hB.map_inv'
    injection h2 with h2
    injection h2 with h2
    exact .map (hm _ _ _ h h1 h2)
  | func fn h1 _ h3 _ ih1 ih2 =>
    intro hB
    exact .func fn h1 (fun i x y hx hy => ih1 i x y hx hy (hB.func_inv'.1 i x y hx hy)) h3 (fun i x y hx hy => ih2 i x y hx hy (hB.func_inv'.2 i x y hx hy))
  | nilFunc => intro _; exact .nilFunc
  | nilIface => intro _; exact .nilIface
  | iface t _ ih => intro hB; exact .iface t (ih hB.iface_inv')
  | agg h1 _ ih => intro hB; exact .agg h1 (fun i x y hx hy => ih i x y hx hy (hB.agg_inv' i x y hx hy))
  | tuple h1 _ ih => intro hB; exact .tuple h1 (fun i x y hx hy => ih i x y hx hy (hB.tuple_inv' i x y hx hy))
/-- a map beyond another: of all blocks -/
def Bt.total (β β' : Bt) : Prop := β.le β' ∧ ∀ b, (∃ i, β' b = some i) ↔ b < 9223372036854775808
def Bt.fill (β : Bt) (k : Nat) : Bt := fun b => if b < 9223372036854775808 then (match β b with | some i => some i | none => some ⟨k, 0, 0⟩) else none
theorem Bt.fill_total {β : Bt} (hd : ∀ b i, β b = some i → b < 9223372036854775808) (k : Nat) : β.total (β.fill k) := by
  refine ⟨fun b i h => ?_, fun b => ?_⟩
  · unfold Bt.fill; rw [if_pos (hd b i h), h]
  · unfold Bt.fill
    by_cases hb : b < 9223372036854775808
    · rw [if_pos hb]
      refine ⟨fun _ => hb, fun _ => ?_⟩
      cases β b with
      | none => exact ⟨_, rfl⟩
      | some i => exact ⟨_, rfl⟩
    · rw [if_neg hb]
      exact ⟨fun ⟨i, h⟩ => (by cases h), fun h => absurd h hb⟩
/-- By all maps beyond it: by itself. -/
theorem VR.of_total {β : Bt} (hd : ∀ b i, β b = some i → b < 9223372036854775808) {x y : Value} (h : ∀ β', β.total β' → VR β' x y) : VR β x y := by
  refine VR.meet (βA := β.fill 0) (βB := β.fill 1) (fun b i j h1 h2 h3 => ?_) (h _ (Bt.fill_total hd 0)) (h _ (Bt.fill_total hd 1))
  unfold Bt.fill at h1 h2
  by_cases hb : b < 9223372036854775808
  · rw [if_pos hb] at h1 h2
    cases hq : β b with
    | some q => rw [hq] at h1; exact h1
    | none =>
      rw [hq] at h1 h2
      simp only [Option.some.injEq] at h1 h2
      subst h1 h2
      cases h3
  · rw [if_neg hb] at h1; cases h1
end Go.Proofs.YthloojeefdjpjaaGreatDoor
