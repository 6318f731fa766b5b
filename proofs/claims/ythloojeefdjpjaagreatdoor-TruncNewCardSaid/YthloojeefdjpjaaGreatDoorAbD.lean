/- The evaluator's operations on memory beside the machine's. -/
import Derived.Test.YthloojeefdjpjaaGreatDoorAbC
import Derived.IntWalk
namespace Go.Proofs.YthloojeefdjpjaaGreatDoor
open Go Go.RowKit
set_option linter.unusedVariables false
set_option linter.unusedSimpArgs false

/-- The machine does what the evaluator says. -/
def Does (P : Program) (β : Bt) (h : Hp) (w : World) (s : Sem Value) (v : Value) (h' : Hp) : Prop :=
  ∃ v' w' β', s.run P w = .ok v' w' ∧ HR P β' h' w' ∧ St β h w β' h' w' ∧ VR β' v v'
theorem Does.same {P : Program} {β : Bt} {h : Hp} {w : World} (H : HR P β h w) {s : Sem Value} {v v' : Value} (hr : s.run P w = .ok v' w) (hv : VR β v v') : Does P β h w s v h := ⟨v', w, β, hr, H, .refl _ _ _, hv⟩
theorem VR.of_addr {β : Bt} {a : Addr} {v x : Value} (h : addr_ v = some a) (hx : VR β v x) : ∃ i, a = ⟨a.block, a.off, none⟩ ∧ β a.block = some i ∧ x = .pointer (some ⟨i.blk, i.off + a.off, none⟩) := by
  unfold addr_ at h
  split at h
  · injection h with h
    subst h
    obtain ⟨i, hi, rfl⟩ := hx.ptr_inv
    exact ⟨i, rfl, hi, rfl⟩
  · cases h
section
variable {P : Program} {eqs : List TypeId} (hp : P.types.size < 4000)
include hp
theorem load_does {β : Bt} {h : Hp} {w : World} (H : HR P β h w) {t : TypeId} {a : Addr} {v x x' : Value} (ha : addr_ x = some a) (hl : loadVar_ (Env.of P eqs) h t a = some v) (hx : VR β x x') : Does P β h w (Instr.loadAt t x') v h := by
  obtain ⟨i, _, hi, rfl⟩ := VR.of_addr ha hx
  obtain ⟨v', hr, hR⟩ := loadVar_run hp H hl hi
  exact .same H (by simp only [Instr.loadAt, Instr.sureAddr, Sem.run_bind, Sem.run_pure, Result.andThen_ok]; exact hr) hR
omit hp in
theorem env_zero_any {t : TypeId} {z : Value} (h : (Env.of P eqs).zero t = some z) : isAny z = false := by
  unfold Env.zero at h
  cases hg : (Env.of P eqs).types.get t with
  | none => rw [hg] at h; cases h
  | some i =>
    rw [hg] at h
    simp only at h
    split at h
    · rename_i cs hz
      cases hb : bares_ cs.toList with
      | false => rw [hb] at h; cases h
      | true => rw [hb] at h; injection h with h; subst h; rfl
    · rename_i v _ hz
      cases hb : bare_ v with
      | false => rw [hb] at h; cases h
      | true =>
        rw [hb] at h; injection h with h; subst h
        cases v <;> first | rfl | cases hb
    · cases h
theorem store_run {β : Bt} {h h' : Hp} {w : World} (H : HR P β h w) {t : TypeId} {a : Addr} {n : Nat} {x x' y y' : Value} (ha : addr_ x = some a) (hs : (Env.of P eqs).size t = some n) (hn : y.cells.toList.length = n)
    (hst : storeCells_ h a y.cells.toList = some h') (hx : VR β x x') (hy : VR β y y') (hna : isAny y = false) : ∃ w', (Instr.storeAt t x' y').run P w = .ok () w' ∧ HR P β h' w' ∧ St β h w β h' w' := by
  obtain ⟨i, _, hi, rfl⟩ := VR.of_addr ha hx
  have hc := hy.cells hna
  obtain ⟨w', hr, H', S'⟩ := storeCells_run H hst hi hc
  refine ⟨w', ?_, H', S'⟩
  have h1 : y'.cells.size = n := by have := hc.1; simp at this hn; omega
  simp only [Instr.storeAt, Instr.sureAddr, Sem.run_bind, Sem.run_pure, Result.andThen_ok, storeVar, run_size hp hs, h1, ne_eq, not_true_eq_false, if_false]
  exact hr
omit hp in
theorem box_does {β : Bt} {h h' : Hp} {w : World} (H : HR P β h w) {e : TypeId} {a : Addr} {x x' : Value} (hn : newRow_ h e x.cells.toList true = some (a, h')) (hx : VR β x x') (hna : isAny x = false) : Does P β h w (Instr.box e x') (.pointer (some a)) h' := by
  have hc := hx.cells hna
  obtain ⟨β', H', S', b, rfl, hb⟩ := H.row (l' := x'.cells) hn (fun i u v hu hv => hc.2 i u v hu (by simpa using hv)) (0, 0) (.inl rfl) 0 (fun _ => rfl) (by have := hc.1; simp at this ⊢; omega) e rfl (fun _ => by have := hc.1; simp at this ⊢; omega)
  refine ⟨.pointer (some ⟨w.heap.size, 0, none⟩), _, β', rfl, H', S', ?_⟩
  exact .ptr 0 hb
theorem alloc_does {β : Bt} {h h' : Hp} {w : World} (H : HR P β h w) {e : TypeId} {a : Addr} {z : Value} (hz : (Env.of P eqs).zero e = some z) (hn : newRow_ h e z.cells.toList true = some (a, h')) : Does P β h w (Instr.alloc e true (.tuple #[])) (.pointer (some a)) h' := by
  obtain ⟨v', w', β', hr, H', S', hR⟩ := box_does H (e := e) hn ((env_zero hp hz).2 β) (env_zero_any hz)
  refine ⟨v', w', β', ?_, H', S', hR⟩
  simp only [Instr.alloc, Sem.run_bind, run_zero hp hz, Result.andThen_ok]
  exact hr
end

/-! ### Parts put together -/
theorem foldl_set (off : Nat) : ∀ (l : List Value) (k : Nat) (cs : Array Value), off + k + l.length ≤ cs.size →
    ((l.zipIdx k).foldl (fun cs (p : Value × Nat) => cs.setIfInBounds (off + p.2) p.1) cs).toList = cs.toList.take (off + k) ++ l ++ cs.toList.drop (off + k + l.length) := by
  intro l
  induction l with
  | nil => intro k cs _; simp
  | cons x l ih =>
    intro k cs h
    simp only [List.length_cons] at h
    rw [List.zipIdx_cons, List.foldl_cons, ih (k + 1) _ (by simp; omega)]
    simp only [Array.toList_setIfInBounds]
    rw [show off + (k + 1) = off + k + 1 from by omega, show off + k + 1 + l.length = off + k + (x :: l).length from by simp; omega]
    rw [List.take_set, List.drop_set_of_lt (by simp)]
    have hlt : off + k < cs.toList.length := by simp; omega
    have h1 : (cs.toList.take (off + k + 1)).set (off + k) x = cs.toList.take (off + k) ++ [x] := by
      rw [List.take_succ_eq_append_getElem hlt]
      rw [List.set_append_right _ _ (by simp; omega)]
      congr 1
      have : off + k - (List.take (off + k) cs.toList).length = 0 := by simp; omega
      rw [this]; rfl
    rw [h1]
    simp
theorem LR.splice {β : Bt} {a b xs ys : List Value} (h : LR β a b) (k : LR β xs ys) (n : Nat) : LR β (a.take n ++ xs ++ a.drop (n + xs.length)) (b.take n ++ ys ++ b.drop (n + ys.length)) := by
  rw [k.1]
  exact ((h.take n).append k).append (h.drop _)
/-- Parts, related. -/
def PR (β : Bt) (l l' : List (Nat × Value)) : Prop := l.length = l'.length ∧ ∀ (i : Nat) (p q : Nat × Value), l[i]? = some p → l'[i]? = some q → p.1 = q.1 ∧ VR β p.2 q.2
theorem fill_run {β : Bt} {place place' : Nat → Option (Nat × Nat)} (hpl : ∀ i p, place i = some p → place' i = some p) : ∀ {parts parts' : List (Nat × Value)} {cs r : List Value} {cs' : Array Value},
    fill_ place cs parts = some r → LR β cs cs'.toList → PR β parts parts' → ∃ r' : Array Value, Instr.fill place' cs' parts' = some r' ∧ LR β r r'.toList := by
  intro parts
  induction parts with
  | nil =>
    intro parts' cs r cs' h hl hpr
    have : parts' = [] := List.eq_nil_of_length_eq_zero hpr.1.symm
    subst this
    simp only [fill_, Option.some.injEq] at h
    subst h
    exact ⟨cs', rfl, hl⟩
  | cons p parts ih =>
    intro parts' cs r cs' h hl hpr
    cases parts' with
    | nil => exact absurd hpr.1 (by simp)
    | cons q parts' =>
      obtain ⟨i, v⟩ := p
      obtain ⟨j, u⟩ := q
      obtain ⟨hij, hv⟩ := hpr.2 0 _ _ rfl rfl
      simp only at hij hv
      subst hij
      simp only [fill_] at h
      cases hp : place i with
      | none => rw [hp] at h; cases h
      | some os =>
        obtain ⟨off, size⟩ := os
        rw [hp] at h
        simp only at h
        cases hb : (Nat.beq v.cells.toList.length size && !isAny v) with
        | false => rw [hb] at h; cases h
        | true =>
          rw [hb, cond_true] at h
          obtain ⟨hb, hna⟩ := Bool.and_eq_true_iff.1 hb
          have hna : isAny v = false := by simpa using hna
          have hsz : v.cells.toList.length = size := Nat.eq_of_beq_eq_true hb
          cases hput : lputAt cs v.cells.toList off with
          | none => rw [hput] at h; cases h
          | some cs1 =>
            rw [hput] at h
            simp only at h
            obtain ⟨hfit, rfl⟩ := lputAt_some hput
            have hc := hv.cells hna
            have h1 : u.cells.size = size := by have := hc.1; simp at this hsz; omega
            have h2 : cs.length = cs'.size := by have := hl.1; simpa using this
            have hfold := foldl_set off u.cells.toList 0 cs' (by simp at hfit hsz ⊢; omega)
            simp only [Nat.add_zero] at hfold
            have hfold2 : (u.cells.zipIdx.foldl (fun cs (p : Value × Nat) => cs.setIfInBounds (off + p.2) p.1) cs').toList = cs'.toList.take off ++ u.cells.toList ++ cs'.toList.drop (off + u.cells.toList.length) := by
              rw [← hfold, ← Array.foldl_toList, Array.toList_zipIdx]
            obtain ⟨r', hr', hR⟩ := ih (parts' := parts') (cs' := u.cells.zipIdx.foldl (fun cs (p : Value × Nat) => cs.setIfInBounds (off + p.2) p.1) cs') h (by rw [hfold2]; exact hl.splice hc off)
              ⟨by have := hpr.1; simpa using this, fun k a b ha hb' => hpr.2 (k + 1) a b (by simpa using ha) (by simpa using hb')⟩
            refine ⟨r', ?_, hR⟩
            have h3 : ¬ (off + u.cells.size > cs'.size) := by simp at hfit hsz; omega
            simp only [Instr.fill, hpl _ _ hp, h1, ne_eq, not_true_eq_false, decide_false, Bool.false_or]
            rw [h1] at h3
            simp only [h3, decide_false, Bool.false_eq_true, if_false]
            exact hr'
theorem rep_get {α : Type} (z : List α) : ∀ (n i : Nat), i < n * z.length → (rep_ z n)[i]? = z[i % z.length]? := by
  intro n
  induction n with
  | zero => intro i h; simp at h
  | succ n ih =>
    intro i h
    simp only [rep_]
    rcases Nat.lt_or_ge i z.length with hi | hi
    · rw [List.getElem?_append_left hi, Nat.mod_eq_of_lt hi]
    · have h0 : 0 < z.length := by
        rcases Nat.eq_zero_or_pos z.length with h1 | h1
        · rw [h1] at h; simp at h
        · exact h1
      rw [List.getElem?_append_right hi, ih _ (by rw [Nat.succ_mul] at h; omega)]
      congr 1
      exact (Nat.mod_eq_sub_mod hi).symm
theorem rep_len {α : Type} (z : List α) : ∀ n, (rep_ z n).length = n * z.length := by
  intro n
  induction n with
  | zero => simp [rep_]
  | succ n ih => simp only [rep_, List.length_append, ih, Nat.succ_mul]; omega
theorem rep_array (z : Array Value) (n m : Nat) (hm : m = n * z.size) : ((Array.range m).map (z[· % z.size]!)).toList = rep_ z.toList n := by
  subst hm
  apply List.ext_getElem?
  intro i
  by_cases hi : i < n * z.size
  · have h0 : 0 < z.size := by
      rcases Nat.eq_zero_or_pos z.size with h1 | h1
      · rw [h1] at hi; simp at hi
      · exact h1
    have hlt := Nat.mod_lt i h0
    rw [rep_get _ _ _ (by simpa using hi)]
    simp [hi, hlt]
  · rw [List.getElem?_eq_none (by simp; omega), List.getElem?_eq_none (by rw [rep_len]; simp; omega)]
theorem LR.rep {β : Bt} {z : List Value} (h : LR β z z) : ∀ n, LR β (rep_ z n) (rep_ z n) := by
  intro n
  induction n with
  | zero => exact LR.nil β
  | succ n ih => exact h.append ih
section
variable {P : Program} {eqs : List TypeId} (hp : P.types.size < 4000)
include hp
theorem places_run : ∀ {fs : List Field} {pl : List (Nat × Nat)}, places_ (Env.of P eqs) fs = some pl → ∀ w, (fs.mapM (fun (f : Field) => (do pure (f.offset, ← sizeOf f.type) : Sem (Nat × Nat)))).run P w = .ok pl w := by
  intro fs
  induction fs with
  | nil => intro pl h w; simp only [places_, Option.some.injEq] at h; subst h; rfl
  | cons f fs ih =>
    intro pl h w
    simp only [places_] at h
    cases hs : (Env.of P eqs).size f.type with
    | none => rw [hs] at h; cases h
    | some s =>
      cases hq : places_ (Env.of P eqs) fs with
      | none => rw [hs, hq] at h; cases h
      | some r =>
        rw [hs, hq] at h
        injection h with h
        subst h
        have := ih hq w
        rw [List.mapM_cons]
        simp only [Sem.run_bind, run_size hp hs, Result.andThen_ok, Sem.run_pure, this]
theorem build_does {β : Bt} {h : Hp} {w : World} (H : HR P β h w) {t : TypeId} {parts : List (Nat × Value)} {parts' : Array (Nat × Value)} {v : Value} (hb : build_ (Env.of P eqs) t parts = some v) (hpr : PR β parts parts'.toList) : Does P β h w (Instr.build t parts') v h := by
  unfold build_ at hb
  split at hb
  · rename_i z fields hz hu
    cases hq : places_ (Env.of P eqs) fields.toList with
    | none => rw [hq] at hb; cases hb
    | some pl =>
      rw [hq] at hb
      simp only at hb
      cases hf : fill_ (fun i => pl[i]?) z.cells.toList parts with
      | none => rw [hf] at hb; cases hb
      | some c =>
        rw [hf] at hb
        injection hb with hb
        subst hb
        have hzc := ((env_zero hp hz).2 β).cells (env_zero_any hz)
        obtain ⟨r', hr', hR⟩ := fill_run (place' := fun i => pl.toArray[i]?) (fun i p hp' => by simpa using hp') hf hzc hpr
        refine .same H (v' := .agg r') ?_ (by have := VR.of_agg hR; simpa using this)
        have hm := places_run hp hq w
        simp only [Instr.build, Sem.run_bind, run_zero hp hz, run_under hp hu, Result.andThen_ok, Array.mapM_eq_mapM_toList, Sem.run_map, hm]
        rw [hr']
        rfl
  · rename_i z n e hz hu
    cases hs : (Env.of P eqs).size e with
    | none => rw [hs] at hb; cases hb
    | some s =>
      rw [hs] at hb
      simp only at hb
      cases hf : fill_ (fun i => some (i * s, s)) z.cells.toList parts with
      | none => rw [hf] at hb; cases hb
      | some c =>
        rw [hf] at hb
        injection hb with hb
        subst hb
        have hzc := ((env_zero hp hz).2 β).cells (env_zero_any hz)
        obtain ⟨r', hr', hR⟩ := fill_run (place' := fun i => some (i * s, s)) (fun i p hp' => hp') hf hzc hpr
        refine .same H (v' := .agg r') ?_ (by have := VR.of_agg hR; simpa using this)
        simp only [Instr.build, Sem.run_bind, run_zero hp hz, run_under hp hu, Result.andThen_ok, run_size hp hs]
        rw [hr']
        rfl
  · cases hb
theorem buildSlice_does {β : Bt} {h h' : Hp} {w : World} (H : HR P β h w) {t : TypeId} {len : Nat} {parts : List (Nat × Value)} {parts' : Array (Nat × Value)} {v : Value} (hb : buildSlice_ (Env.of P eqs) t len parts h = some (v, h')) (hpr : PR β parts parts'.toList) : Does P β h w (Instr.buildSlice t len parts') v h' := by
  unfold buildSlice_ at hb
  split at hb
  · rename_i e hu
    split at hb
    · rename_i s z hs hz
      cases hc : (Nat.ble (len * s) 16777216 && Nat.beq z.cells.toList.length s) with
      | false => rw [hc] at hb; cases hb
      | true =>
        rw [hc, cond_true] at hb
        obtain ⟨hc1, hc2⟩ := Bool.and_eq_true_iff.1 hc
        have hle := Nat.le_of_ble_eq_true hc1
        have hzs : z.cells.toList.length = s := Nat.eq_of_beq_eq_true hc2
        cases hf : fill_ (fun i => some (i * s, s)) (rep_ z.cells.toList len) parts with
        | none => rw [hf] at hb; cases hb
        | some c =>
          rw [hf] at hb
          simp only at hb
          cases hn : newRow_ h e c true with
          | none => rw [hn] at hb; cases hb
          | some q =>
            obtain ⟨a, h2⟩ := q
            rw [hn] at hb
            simp only [Option.some.injEq, Prod.mk.injEq] at hb
            obtain ⟨rfl, rfl⟩ := hb
            have hzR := (env_zero hp hz).2 β
            have hzc := hzR.cells (env_zero_any hz)
            by_cases h0 : len * s = 0
            · have hrep : rep_ z.cells.toList len = [] := List.eq_nil_of_length_eq_zero (by rw [rep_len, hzs]; exact h0)
              rw [hrep] at hf
              obtain ⟨r', hr', hR⟩ := fill_run (β := β) (cs' := (Array.range (len * s)).map ((#[] : Array Value)[· % (#[] : Array Value).size]!)) (place' := fun i => some (i * s, s)) (fun i p hp' => hp') hf (by rw [h0]; simpa using LR.nil β) hpr
              obtain ⟨β', H', S', b, rfl, hb⟩ := H.row (l' := r') hn (fun i u v hu hv => hR.2 i u v hu (by simpa using hv)) (0, 0) (.inl rfl) 0 (fun _ => rfl) (by have := hR.1; simp at this ⊢; omega) e rfl (fun _ => by have := hR.1; simp at this ⊢; omega)
              refine ⟨.slice (some ⟨w.heap.size, 0, none⟩) len len, _, β', ?_, H', S', .slice 0 len len hb⟩
              have hle' : ¬ (len * s > 2 ^ 24) := by omega
              simp only [Instr.buildSlice, Sem.run_bind, run_under hp hu, Result.andThen_ok, run_size hp hs, hle', if_false]
              rw [if_pos h0]
              simp only [Sem.run_bind, Sem.run_pure, Result.andThen_ok]
              rw [hr']
              rfl
            · obtain ⟨r', hr', hR⟩ := fill_run (β := β) (cs' := (Array.range (len * s)).map (z.cells[· % z.cells.size]!)) (place' := fun i => some (i * s, s)) (fun i p hp' => hp') hf (by rw [rep_array z.cells len _ (by simp at hzs; rw [hzs])]; exact hzc.rep len) hpr
              obtain ⟨β', H', S', b, rfl, hb⟩ := H.row (l' := r') hn (fun i u v hu hv => hR.2 i u v hu (by simpa using hv)) (0, 0) (.inl rfl) 0 (fun _ => rfl) (by have := hR.1; simp at this ⊢; omega) e rfl (fun _ => by have := hR.1; simp at this ⊢; omega)
              refine ⟨.slice (some ⟨w.heap.size, 0, none⟩) len len, _, β', ?_, H', S', .slice 0 len len hb⟩
              have hle' : ¬ (len * s > 2 ^ 24) := by omega
              simp only [Instr.buildSlice, Sem.run_bind, run_under hp hu, Result.andThen_ok, run_size hp hs, hle', if_false]
              rw [if_neg h0]
              simp only [Sem.run_bind, run_zero hp hz, Sem.run_pure, Result.andThen_ok]
              rw [hr']
              rfl
    · cases hb
  · cases hb
theorem makeSlice_does {β : Bt} {h h' : Hp} {w : World} (H : HR P β h w) {t : TypeId} {l c l' c' v : Value} (hm : makeSlice_ (Env.of P eqs) t l c h = some (v, h')) (hl : VR β l l') (hc : VR β c c') : Does P β h w (Instr.makeSlice t l' c') v h' := by
  unfold makeSlice_ at hm
  split at hm
  · rename_i e k1 n k2 m hu
    rw [hl.int_inv, hc.int_inv]
    split at hm
    · rename_i s b z hs hby hz
      cases hcc : (Nat.ble n m && Nat.ble (m * b) 140737488355328 && Nat.ble m 9223372036854775807 && Nat.beq z.cells.toList.length s) with
      | false => rw [hcc] at hm; cases hm
      | true =>
        rw [hcc, cond_true] at hm
        simp only [Bool.and_eq_true] at hcc
        obtain ⟨⟨⟨q1, q2⟩, q3⟩, q4⟩ := hcc
        have e1 := Nat.le_of_ble_eq_true q1
        have e2 := Nat.le_of_ble_eq_true q2
        have e3 := Nat.le_of_ble_eq_true q3
        have hzs : z.cells.toList.length = s := Nat.eq_of_beq_eq_true q4
        cases hn : newRow_ h e (rep_ z.cells.toList m) true with
        | none => rw [hn] at hm; cases hm
        | some q =>
          obtain ⟨a, h2⟩ := q
          rw [hn] at hm
          simp only [Option.some.injEq, Prod.mk.injEq] at hm
          obtain ⟨rfl, rfl⟩ := hm
          have hzc := ((env_zero hp hz).2 β).cells (env_zero_any hz)
          obtain ⟨i, hi, hib⟩ := env_bytes hp hby
          have w1 : IntKind.i64.wrap (Int.ofNat n) = Int.ofNat n := IntWalk.i64_in _ (by simp only [Int.ofNat_eq_natCast]; omega)
          have w2 : IntKind.i64.wrap (Int.ofNat m) = Int.ofNat m := IntWalk.i64_in _ (by simp only [Int.ofNat_eq_natCast]; omega)
          have hz2 : ∀ W : World, ((if m * s = 0 then pure #[] else do pure (← zeroValue e).cells : Sem (Array Value))).run P W = .ok (if m * s = 0 then #[] else z.cells) W := by
            intro W
            by_cases h0 : m * s = 0
            · rw [if_pos h0, if_pos h0]; rfl
            · rw [if_neg h0, if_neg h0]; simp only [Sem.run_bind, run_zero hp hz, Result.andThen_ok, Sem.run_pure]
          have harr : ((Array.range (m * s)).map ((if m * s = 0 then #[] else z.cells)[· % (if m * s = 0 then #[] else z.cells).size]!)).toList = rep_ z.cells.toList m := by
            by_cases h0 : m * s = 0
            · rw [h0]
              have : rep_ z.cells.toList m = [] := List.eq_nil_of_length_eq_zero (by rw [rep_len, hzs]; exact h0)
              rw [this]
              simp
            · simp only [if_neg h0]
              exact rep_array z.cells m _ (by simp at hzs; rw [hzs])
          obtain ⟨β', H', S', b', rfl, hb⟩ := H.row (l' := ((Array.range (m * s)).map ((if m * s = 0 then #[] else z.cells)[· % (if m * s = 0 then #[] else z.cells).size]!))) hn
            (fun i u v hu hv => (hzc.rep m).2 i u v hu (by rw [← harr, Array.getElem?_toList]; exact hv)) (0, 0) (.inl rfl) 0 (fun _ => rfl) (by rw [rep_len, hzs]; simp) e rfl (fun _ => by rw [rep_len, hzs]; simp)
          refine ⟨.slice (some ⟨w.heap.size, 0, none⟩) n m, _, β', ?_, H', S', .slice 0 n m hb⟩
          have t1 : (↑b * Int.ofNat m > (2 : Int) ^ 48) = False := by
            apply eq_false
            have : (b * m : Nat) ≤ 140737488355328 := by rw [Nat.mul_comm]; exact e2
            have h3 : ((b * m : Nat) : Int) ≤ 140737488355328 := by omega
            simp only [Int.ofNat_eq_natCast]
            rw [← Int.natCast_mul]
            omega
          simp only [Instr.makeSlice, Sem.run_bind, run_under hp hu, Result.andThen_ok, asInt, asIntOf, Sem.run_pure, run_typeInfo w hi, hib, w1, w2, t1, run_size hp hs]
          have t2 : ¬ (Int.ofNat m < 0) := by simp
          have t3 : ¬ (Int.ofNat n < 0) := by simp
          have t4 : ¬ (Int.ofNat n > Int.ofNat m) := by simp; omega
          simp only [t2, t3, t4, decide_false, Bool.or_self, Bool.false_eq_true, or_self, if_false, run_askRoom, Result.andThen_ok]
          have t5 : (Int.ofNat m).toNat = m := rfl
          have t6 : (Int.ofNat n).toNat = n := rfl
          simp only [t5, t6, Sem.run_bind, run_askRoom, run_size hp hs, Result.andThen_ok]
          by_cases h0 : m * s = 0
          · simp only [if_pos h0, Sem.run_bind, Sem.run_pure, Result.andThen_ok]
            rfl
          · simp only [if_neg h0, Sem.run_bind, run_zero hp hz, Sem.run_pure, Result.andThen_ok]
            rfl
    · cases hm
  · cases hm
theorem makeSlice_runs {w : World} {t e : TypeId} {n m s b : Nat} {k1 k2 : IntKind} {z : Value} (hu : (Env.of P eqs).under t = some (.slice e)) (hs : (Env.of P eqs).size e = some s) (hby : (Env.of P eqs).bytes e = some b) (hz : (Env.of P eqs).zero e = some z) (e1 : n ≤ m) (e2 : m * b ≤ 140737488355328) (e3 : m ≤ 9223372036854775807) :
    (Instr.makeSlice t (.int k1 (.ofNat n)) (.int k2 (.ofNat m))).run P w = .ok (.slice (some ⟨w.heap.size, 0, none⟩) n m) { w with heap := w.heap.push (.cells ((Array.range (m * s)).map ((if m * s = 0 then #[] else z.cells)[· % (if m * s = 0 then #[] else z.cells).size]!)) e (0, 0)) } := by
  obtain ⟨i, hi, hib⟩ := env_bytes hp hby
  have w1 : IntKind.i64.wrap (Int.ofNat n) = Int.ofNat n := IntWalk.i64_in _ (by simp only [Int.ofNat_eq_natCast]; omega)
  have w2 : IntKind.i64.wrap (Int.ofNat m) = Int.ofNat m := IntWalk.i64_in _ (by simp only [Int.ofNat_eq_natCast]; omega)
  have t1 : (↑b * Int.ofNat m > (2 : Int) ^ 48) = False := by
    apply eq_false
    have : (b * m : Nat) ≤ 140737488355328 := by rw [Nat.mul_comm]; exact e2
    have h3 : ((b * m : Nat) : Int) ≤ 140737488355328 := by omega
    simp only [Int.ofNat_eq_natCast]
    rw [← Int.natCast_mul]
    omega
  simp only [Instr.makeSlice, Sem.run_bind, run_under hp hu, Result.andThen_ok, asInt, asIntOf, Sem.run_pure, run_typeInfo w hi, hib, w1, w2, t1, run_size hp hs]
  have t2 : ¬ (Int.ofNat m < 0) := by simp
  have t3 : ¬ (Int.ofNat n < 0) := by simp
  have t4 : ¬ (Int.ofNat n > Int.ofNat m) := by simp; omega
  simp only [t2, t3, t4, decide_false, Bool.or_self, Bool.false_eq_true, or_self, if_false, run_askRoom, Result.andThen_ok]
  have t5 : (Int.ofNat m).toNat = m := rfl
  have t6 : (Int.ofNat n).toNat = n := rfl
  simp only [t5, t6, Sem.run_bind, run_askRoom, run_size hp hs, Result.andThen_ok]
  by_cases h0 : m * s = 0
  · simp only [if_pos h0, Sem.run_bind, Sem.run_pure, Result.andThen_ok]
    rfl
  · simp only [if_neg h0, Sem.run_bind, run_zero hp hz, Sem.run_pure, Result.andThen_ok]
    rfl
theorem buildSlice_runs {w : World} {t e : TypeId} {len s : Nat} {z : Value} {ps : Array (Nat × Value)} {r' : Array Value} (hu : (Env.of P eqs).under t = some (.slice e)) (hs : (Env.of P eqs).size e = some s) (hz : (Env.of P eqs).zero e = some z) (hle : len * s ≤ 16777216)
    (hr' : Instr.fill (fun i => some (i * s, s)) ((Array.range (len * s)).map ((if len * s = 0 then #[] else z.cells)[· % (if len * s = 0 then #[] else z.cells).size]!)) ps.toList = some r') :
    (Instr.buildSlice t len ps).run P w = .ok (.slice (some ⟨w.heap.size, 0, none⟩) len len) { w with heap := w.heap.push (.cells r' e (0, 0)) } := by
  have hle' : ¬ (len * s > 2 ^ 24) := by omega
  simp only [Instr.buildSlice, Sem.run_bind, run_under hp hu, Result.andThen_ok, run_size hp hs, hle', if_false]
  by_cases h0 : len * s = 0
  · rw [if_pos h0]
    simp only [if_pos h0] at hr'
    simp only [Sem.run_bind, Sem.run_pure, Result.andThen_ok]
    rw [hr']
    rfl
  · rw [if_neg h0]
    simp only [if_neg h0] at hr'
    simp only [Sem.run_bind, run_zero hp hz, Sem.run_pure, Result.andThen_ok]
    rw [hr']
    rfl
end
end Go.Proofs.YthloojeefdjpjaaGreatDoor
