/- The evaluator's maps, comparisons and least and greatest values beside the machine's; and all operations but calls. -/
import Derived.Test.YthloojeefdjpjaaGreatDoorAbH
namespace Go.Proofs.YthloojeefdjpjaaGreatDoor
open Go Go.RowKit
set_option linter.unusedVariables false
set_option linter.unusedSimpArgs false

section
variable {P : Program} {eqs : List TypeId} (hp : P.types.size < 4000)
theorem same1_bits {a b : Value} (h : same1_ a b = true) : Instr.sameBits 10000 a b = true := by
  unfold same1_ at h
  split at h
  · simpa [Instr.sameBits] using h
  · simp only [Bool.and_eq_true, decide_eq_true_eq] at h
    simp [Instr.sameBits, h.1, eq_of_beq h.2]
  · rename_i x y
    have : x = y := by
      apply ByteArray.ext
      apply Array.ext'
      exact eq_of_beq h
    subst this
    show (x == x) = true
    rw [beq_toListBytes]
    simp
  · cases h
include hp
theorem mapUpdate_does {β : Bt} {h h' : Hp} {w : World} (H : HR P β h w) {t : TypeId} {m m' k k' v v' : Value} (hl : mapUpdate_ (Env.of P eqs) t m k v h = some h') (hm : VR β m m') (hk : VR β k k') (hv : VR β v v') :
    ∃ w', (Instr.mapUpdate t m' k' v').run P w = .ok () w' ∧ HR P β h' w' ∧ St β h w β h' w' := by
  unfold mapUpdate_ at hl
  split at hl
  · rename_i kt et r hu
    split at hl
    · rename_i d es clock hd hgt
      cases hkey : (isKey_ d k && plain_ v) with
      | false => rw [hkey] at hl; cases hl
      | true =>
        rw [hkey, cond_true] at hl
        obtain ⟨hkey, hpv⟩ := Bool.and_eq_true_iff.1 hkey
        rw [key_same hkey hk]
        have hvv : v' = v := by
          cases v <;> first | exact hv.bool_inv | exact hv.int_inv | exact hv.string_inv | cases hpv
        rw [hvv]
        split at hl
        · rename_i hf
          injection hl with hl
          subst hl
          obtain ⟨i, hi, rfl⟩ : ∃ i, β r = some i ∧ m' = .map (some i.blk) := by cases hm with | map h => exact ⟨_, h, rfl⟩
          obtain ⟨hb, hpl⟩ := H.ok _ _ _ hgt hi
          have hck := MapKept.run_checkKey (P := P) (w := w) (env_under hp hd) (key_run hkey) false 9999
          have hfk := MapKept.run_findKey (P := P) (w := w) (env_under hp hd) hf
          obtain ⟨q1, q2⟩ := MapKept.heap_set (o' := .map (es.toArray.push { key := k, val := v, born := clock }) (clock + 1)) hb
          refine ⟨{ w with heap := w.heap.setIfInBounds i.blk (.map (es.toArray.push { key := k, val := v, born := clock }) (clock + 1)) }, ?_, H.change hgt hi trivial (fun k hk _ => q2 k hk) ⟨?_, ?_⟩,
            ⟨.refl _, rfl, rfl, rfl, by simp, fun k hk hn => q2 k (fun e => hn ⟨_, _, _, hgt, trivial, hi, e.symm⟩), fun k hk => .inl (own_put H hgt trivial hk), fun k hk => .inl (held_put H hgt trivial hk)⟩⟩
          · simp only [Instr.mapUpdate, Sem.run_bind, run_under hp hu, Result.andThen_ok, MapKept.run_getObj_map (P := P) hb, hck, hfk, MapKept.run_setObj_map (P := P) _ hb]
          · rw [q1]; simp
          · intro e he
            rcases List.mem_append.1 he with he | he
            · exact hpl e he
            · rw [List.mem_singleton] at he
              subst he
              refine ⟨?_, hpv⟩
              unfold isKey_ at hkey
              split at hkey <;> first | rfl | cases hkey
        · rename_i j vOld hf
          cases hej : es[j]? with
          | none => rw [hej] at hl; cases hl
          | some e =>
            rw [hej] at hl
            simp only at hl
            cases hls : lset es j { e with key := k, val := v } with
            | none => rw [hls] at hl; cases hl
            | some es' =>
              rw [hls] at hl
              simp only at hl
              cases hsm : same1_ e.key k with
              | false => rw [hsm] at hl; cases hl
              | true =>
                rw [hsm, cond_true] at hl
                injection hl with hl
                subst hl
                obtain ⟨hjl, rfl⟩ := lset_some hls
                obtain ⟨i, hi, rfl⟩ : ∃ i, β r = some i ∧ m' = .map (some i.blk) := by cases hm with | map h => exact ⟨_, h, rfl⟩
                obtain ⟨hb, hpl⟩ := H.ok _ _ _ hgt hi
                have hck := MapKept.run_checkKey (P := P) (w := w) (env_under hp hd) (key_run hkey) false 9999
                have hfk := MapKept.run_findKey (P := P) (w := w) (env_under hp hd) hf
                have hmod : (es.toArray.modify j fun e => { e with key := k, val := v }) = (es.set j { e with key := k, val := v }).toArray := by
                  apply Array.ext'
                  apply List.ext_getElem?
                  intro q
                  rw [Array.getElem?_toList, Array.getElem?_modify, List.getElem?_toArray]
                  show _ = (es.set j { e with key := k, val := v })[q]?
                  rw [List.getElem?_set]
                  by_cases hq : j = q
                  · subst hq; rw [if_pos rfl, if_pos rfl, if_pos hjl, hej]; rfl
                  · rw [if_neg hq, if_neg hq]
                have hsame : Instr.sameBits 10000 e.key k = true := same1_bits hsm
                obtain ⟨q1, q2⟩ := MapKept.heap_set (o' := .map (es.set j { e with key := k, val := v }).toArray clock) hb
                refine ⟨{ w with heap := w.heap.setIfInBounds i.blk (.map (es.set j { e with key := k, val := v }).toArray clock) }, ?_, H.change hgt hi trivial (fun k hk _ => q2 k hk) ⟨?_, ?_⟩,
                  ⟨.refl _, rfl, rfl, rfl, by simp, fun k hk hn => q2 k (fun e => hn ⟨_, _, _, hgt, trivial, hi, e.symm⟩), fun k hk => .inl (own_put H hgt trivial hk), fun k hk => .inl (held_put H hgt trivial hk)⟩⟩
                · have hkey2 : ((es.toArray[j]?).map (·.key)).getD k = e.key := by rw [List.getElem?_toArray, hej]; rfl
                  simp only [Instr.mapUpdate, Sem.run_bind, run_under hp hu, Result.andThen_ok, MapKept.run_getObj_map (P := P) hb, hck, hfk, hkey2, Instr.keyThatStays, hsame, if_true, Sem.run_pure, hmod, MapKept.run_setObj_map (P := P) _ hb]
                · rw [q1]
                · intro x hx
                  rcases List.mem_or_eq_of_mem_set hx with hx | rfl
                  · exact hpl x hx
                  · refine ⟨?_, hpv⟩
                    unfold isKey_ at hkey
                    split at hkey <;> first | rfl | cases hkey
        · cases hl
    · cases hl
  · cases hl
omit hp in
theorem makeMap_does {β : Bt} {h h' : Hp} {w : World} (H : HR P β h w) {t : TypeId} {b : Nat} (hn : h.new (.map [] 0) = some (b, h')) : Does P β h w (Instr.makeMap t none) (.map (some b)) h' := by
  obtain ⟨H', S', rfl⟩ := H.fresh hn (.map #[] 0) 0 (fun β' hb => ⟨heap_push_new, fun e he => by cases he⟩)
  exact ⟨.map (some w.heap.size), _, _, rfl, H', S', .map (Bt.put_same β h.next ⟨w.heap.size, 0, 0⟩)⟩
omit hp in
theorem min_run {β : Bt} {w : World} : ∀ {l l' : List Value} {x x' v : Value}, mm_ false x l = some v → VR β x x' → LR β l l' → ∃ v', (l'.foldlM Builtin.min2 x').run P w = .ok v' w ∧ VR β v v' := by
  intro l
  induction l with
  | nil =>
    intro l' x x' v h hx hl
    have : l' = [] := List.eq_nil_of_length_eq_zero hl.1.symm
    subst this
    have : x = v := by cases x <;> simpa [mm_] using h
    subst this
    exact ⟨x', rfl, hx⟩
  | cons y l ih =>
    intro l' x x' v h hx hl
    cases l' with
    | nil => exact absurd hl.1 (by simp)
    | cons y' l' =>
      cases x with
      | int k a =>
        cases y with
        | int k2 b =>
          rw [hx.int_inv]
          have hy := hl.head
          rw [hy.int_inv]
          simp only [mm_, cond_false] at h
          obtain ⟨v', hr, hR⟩ := ih h (.int k _) hl.tail
          refine ⟨v', ?_, hR⟩
          simp only [List.foldlM_cons, Sem.run_bind, Builtin.min2, Sem.run_pure, Result.andThen_ok]
          exact hr
        | _ => simp [mm_] at h
      | _ => simp [mm_] at h
omit hp in
theorem max_run {β : Bt} {w : World} : ∀ {l l' : List Value} {x x' v : Value}, mm_ true x l = some v → VR β x x' → LR β l l' → ∃ v', (l'.foldlM Builtin.max2 x').run P w = .ok v' w ∧ VR β v v' := by
  intro l
  induction l with
  | nil =>
    intro l' x x' v h hx hl
    have : l' = [] := List.eq_nil_of_length_eq_zero hl.1.symm
    subst this
    have : x = v := by cases x <;> simpa [mm_] using h
    subst this
    exact ⟨x', rfl, hx⟩
  | cons y l ih =>
    intro l' x x' v h hx hl
    cases l' with
    | nil => exact absurd hl.1 (by simp)
    | cons y' l' =>
      cases x with
      | int k a =>
        cases y with
        | int k2 b =>
          rw [hx.int_inv]
          have hy := hl.head
          rw [hy.int_inv]
          simp only [mm_, cond_true] at h
          obtain ⟨v', hr, hR⟩ := ih h (.int k _) hl.tail
          refine ⟨v', ?_, hR⟩
          simp only [List.foldlM_cons, Sem.run_bind, Builtin.max2, Sem.run_pure, Result.andThen_ok]
          exact hr
        | _ => simp [mm_] at h
      | _ => simp [mm_] at h
theorem iface_run {w : World} {D : Nat} {t t1 : TypeId} {ms : Array (String × TypeId)} {x y : Value} {i : TypeInfo} (hu : (Env.of P eqs).under t = some (.interface ms)) (hi : P.info? t1 = some i) (hc : i.comparable = true) :
    (Op.equalIn (D + 1) t (.iface t1 x) (.iface t1 y)).run P w = (Op.equalIn D t1 x y).run P w := by
  obtain ⟨q, hq⟩ : ∃ q, Op.equalIn D t1 x y = q := ⟨_, rfl⟩
  rw [hq]
  unfold Op.equalIn
  simp only [Sem.run_bind, run_under hp hu, Result.andThen_ok, hq, ne_eq, not_true_eq_false, if_false, run_typeInfo w hi, hc, Bool.not_true, Bool.false_eq_true]
theorem eq_run {β : Bt} {w : World} (hs : ∀ t ∈ eqs, P.stoodInHeld t = false) : ∀ (d D : Nat), d ≤ D → ∀ (t : TypeId) (x y x' y' : Value) (b : Bool), eq_ (Env.of P eqs) d t x y = some b → VR β x x' → VR β y y' → (Op.equalIn D t x' y').run P w = .ok b w := by
  intro d
  induction d with
  | zero => intro D _ t x y x' y' b h; simp [eq_] at h
  | succ d ih =>
    intro D hD t x y x' y' b h hx hy
    obtain ⟨D, rfl⟩ : ∃ m, D = m + 1 := ⟨D - 1, by omega⟩
    unfold eq_ at h
    split at h
    · rename_i a c hu
      injection h with h; subst h
      rw [hx.bool_inv, hy.bool_inv]; simp [Op.equalIn, run_under hp hu]
    · rename_i k0 k a k' c hu
      rw [hx.int_inv, hy.int_inv]
      by_cases hk : k = k'
      · subst hk
        simp only [decide_true, Option.some.injEq] at h; subst h; simp [Op.equalIn, run_under hp hu]
      · simp [hk] at h
    · rename_i a c hu
      injection h with h; subst h
      rw [hx.string_inv, hy.string_inv]
      simp [Op.equalIn, run_under hp hu, beq_toListBytes, ByteArray.toList_eq]
    · rename_i e c hu
      injection h with h; subst h
      have : x' = .pointer none := by cases hx; rfl
      subst this
      cases hy with
      | nilPtr => simp [Op.equalIn, run_under hp hu]
      | ptr o hb => simp [Op.equalIn, run_under hp hu]
    · rename_i e a hu
      injection h with h; subst h
      have : y' = .pointer none := by cases hy; rfl
      subst this
      cases hx with
      | ptr o hb => simp [Op.equalIn, run_under hp hu]
    · rename_i e n c a n2 c2 hu
      injection h with h; subst h
      rw [hx.nilSlice_inv]
      cases hy with
      | nilSlice => simp [Op.equalIn, run_under hp hu]
      | slice o n c hb => simp [Op.equalIn, run_under hp hu]
    · rename_i e a n c n2 c2 hu
      injection h with h; subst h
      rw [hy.nilSlice_inv]
      cases hx with
      | slice o n c hb => simp [Op.equalIn, run_under hp hu]
    · rename_i k e c hu
      injection h with h; subst h
      have : x' = .map none := by cases hx; rfl
      subst this
      cases hy with
      | nilMap => simp [Op.equalIn, run_under hp hu]
      | map hb => simp [Op.equalIn, run_under hp hu]
    · rename_i k e a hu
      injection h with h; subst h
      have : y' = .map none := by cases hy; rfl
      subst this
      cases hx with
      | map hb => simp [Op.equalIn, run_under hp hu]
    · rename_i p q r hu
      injection h with h; subst h
      have h1 : x' = .nilFunc := by cases hx; rfl
      have h2 : y' = .nilFunc := by cases hy; rfl
      subst h1 h2
      simp [Op.equalIn, run_under hp hu]
    · rename_i p q r f a c hu
      injection h with h; subst h
      have h1 : x' = .nilFunc := by cases hx; rfl
      subst h1
      cases hy with
      | func fn h1 h2 h3 h4 => simp [Op.equalIn, run_under hp hu]
    · rename_i p q r f a c hu
      injection h with h; subst h
      have h1 : y' = .nilFunc := by cases hy; rfl
      subst h1
      cases hx with
      | func fn h1 h2 h3 h4 => simp [Op.equalIn, run_under hp hu]
    · rename_i ms a c hu
      injection h with h; subst h
      have h1 : x' = .nilIface := by cases hx; rfl
      subst h1
      cases hy with
      | iface t h => simp [Op.equalIn, run_under hp hu]
    · rename_i ms a c hu
      injection h with h; subst h
      have h1 : y' = .nilIface := by cases hy; rfl
      subst h1
      cases hx with
      | iface t h => simp [Op.equalIn, run_under hp hu]
    · rename_i e b1 o1 b2 o2 hu
      split at h
      · rename_i s hsz
        cases hbb : Nat.beq b1 b2 with
        | false => rw [hbb] at h; cases h
        | true =>
          rw [hbb, cond_true] at h
          injection h with h
          obtain rfl := Nat.eq_of_beq_eq_true hbb
          cases hx with
          | ptr o hb1 =>
            cases hy with
            | ptr o' hb2 =>
              obtain rfl := Option.some.inj (hb1.symm.trans hb2)
              have hne := run_size hp hsz w
              subst h
              have hbe : ∀ (k n m : Nat), ((⟨k, n, none⟩ : Addr) == ⟨k, m, none⟩) = Nat.beq n m := fun k n m => by
                cases hq : Nat.beq n m with
                | true => rw [Nat.eq_of_beq_eq_true hq]; simp
                | false =>
                  have : n ≠ m := fun e => by subst e; simp at hq
                  simp [this]
              have hof : ∀ (k : Nat), Nat.beq (k + o1) (k + o2) = Nat.beq o1 o2 := fun k => by
                cases hq : Nat.beq o1 o2 with
                | true => rw [Nat.eq_of_beq_eq_true hq]; simp
                | false =>
                  have : o1 ≠ o2 := fun e => by subst e; simp at hq
                  cases hq2 : Nat.beq (k + o1) (k + o2) with
                  | false => rfl
                  | true => have := Nat.eq_of_beq_eq_true hq2; omega
              simp [Op.equalIn, run_under hp hu, hne, sameAddr, hbe, hof]
      · cases h
    · rename_i ms t1 a t2 c hu
      cases hx with
      | iface _ hxa =>
        cases hy with
        | iface _ hyc =>
          cases hbb : Nat.beq t1 t2 with
          | false =>
            rw [hbb, cond_false] at h
            injection h with h
            subst h
            have hne : t1 ≠ t2 := fun e => by subst e; simp at hbb
            simp [Op.equalIn, run_under hp hu, hne]
          | true =>
            rw [hbb, cond_true] at h
            obtain rfl := Nat.eq_of_beq_eq_true hbb
            split at h
            · rename_i hc
              obtain ⟨i, hi, hic⟩ := env_cmp hp hc
              have hr := ih D (by omega) t1 _ _ _ _ b h hxa hyc
              rw [iface_run hp hu hi hic]
              exact hr
            · cases h
    · rename_i fs xs ys hu
      obtain ⟨xs', rfl, hxl⟩ := hx.agg_inv
      obtain ⟨ys', rfl, hyl⟩ := hy.agg_inv
      cases ho : (Env.of P eqs).eqOk t with
      | false => rw [ho] at h; cases h
      | true =>
        rw [ho, cond_true] at h
        have hst : P.stoodInHeld t = false := by
          unfold Env.eqOk at ho
          obtain ⟨u, hu1, hu2⟩ := List.any_eq_true.1 ho
          have : t = u := Nat.eq_of_beq_eq_true hu2
          subst this
          exact hs _ hu1
        have hf : P.fieldsOf t = fs := by unfold Program.fieldsOf; rw [env_under hp hu]
        rw [run_equalIn_struct w D t xs' ys' (by rw [hf]; exact env_under hp hu) hst, hf]
        have key : ∀ (l : List Field) (b : Bool), eqs_ (fun f => part_ (Env.of P eqs) f.type xs.toList f.offset) (fun f => part_ (Env.of P eqs) f.type ys.toList f.offset) (fun f a b => eq_ (Env.of P eqs) d f.type a b) (fun f => f.name == "_") l = some b →
            (Op.eqFields D xs' ys' l).run P w = .ok b w := by
          intro l
          induction l with
          | nil => intro b h; simp only [eqs_, Option.some.injEq] at h; subst h; rfl
          | cons f l ihl =>
            intro b h
            simp only [eqs_] at h
            cases hn : (f.name == "_") with
            | true =>
              rw [hn] at h
              have : ¬ (f.name ≠ "_") := by simpa using hn
              simp only [Op.eqFields, this, if_false]
              exact ihl b h
            | false =>
              rw [hn] at h
              simp only at h
              have hne : f.name ≠ "_" := by simpa using hn
              cases ha : part_ (Env.of P eqs) f.type xs.toList f.offset with
              | none => rw [ha] at h; cases h
              | some a =>
                cases hc : part_ (Env.of P eqs) f.type ys.toList f.offset with
                | none => rw [ha, hc] at h; cases h
                | some c =>
                  rw [ha, hc] at h
                  simp only at h
                  obtain ⟨a', hra, hRa⟩ := part_run hp ha hxl w
                  obtain ⟨c', hrc, hRc⟩ := part_run hp hc hyl w
                  cases hq : eq_ (Env.of P eqs) d f.type a c with
                  | none => rw [hq] at h; cases h
                  | some r =>
                    rw [hq] at h
                    have hr := ih D (by omega) f.type a c a' c' r hq hRa hRc
                    simp only [Op.eqFields, hne, ne_eq, not_false_eq_true, if_true, Sem.run_bind]
                    have hra' : (part f.type xs' f.offset).run P w = .ok a' w := hra
                    have hrc' : (part f.type ys' f.offset).run P w = .ok c' w := hrc
                    rw [hra', Result.andThen_ok, hrc', Result.andThen_ok, hr, Result.andThen_ok]
                    cases r with
                    | true => simp only [Bool.not_true, Bool.false_eq_true, if_false]; exact ihl b h
                    | false => simp only [Option.some.injEq] at h; subst h; rfl
        exact key _ _ h
    · rename_i n e xs ys hu
      obtain ⟨xs', rfl, hxl⟩ := hx.agg_inv
      obtain ⟨ys', rfl, hyl⟩ := hy.agg_inv
      cases hsz : (Env.of P eqs).size e with
      | none => rw [hsz] at h; cases h
      | some s =>
        rw [hsz] at h
        simp only at h
        obtain ⟨ie, hie, _, hcell⟩ := env_size hp hsz
        rw [run_equalIn_array w D xs' ys' (env_under hp hu) hie, hcell]
        have key : ∀ (l : List Nat) (b : Bool), eqs_ (fun i => part_ (Env.of P eqs) e xs.toList (i * s)) (fun i => part_ (Env.of P eqs) e ys.toList (i * s)) (fun _ a b => eq_ (Env.of P eqs) d e a b) (fun _ => false) l = some b →
            (Op.eqItems D e s xs' ys' l).run P w = .ok b w := by
          intro l
          induction l with
          | nil => intro b h; simp only [eqs_, Option.some.injEq] at h; subst h; rfl
          | cons f l ihl =>
            intro b h
            simp only [eqs_] at h
            cases ha : part_ (Env.of P eqs) e xs.toList (f * s) with
            | none => rw [ha] at h; cases h
            | some a =>
              cases hc : part_ (Env.of P eqs) e ys.toList (f * s) with
              | none => rw [ha, hc] at h; cases h
              | some c =>
                rw [ha, hc] at h
                simp only at h
                obtain ⟨a', hra, hRa⟩ := part_run hp ha hxl w
                obtain ⟨c', hrc, hRc⟩ := part_run hp hc hyl w
                cases hq : eq_ (Env.of P eqs) d e a c with
                | none => rw [hq] at h; cases h
                | some r =>
                  rw [hq] at h
                  have hr := ih D (by omega) e a c a' c' r hq hRa hRc
                  have hra' : (part e xs' (f * s)).run P w = .ok a' w := hra
                  have hrc' : (part e ys' (f * s)).run P w = .ok c' w := hrc
                  simp only [Op.eqItems, Sem.run_bind]
                  rw [hra', Result.andThen_ok, hrc', Result.andThen_ok, hr, Result.andThen_ok]
                  cases r with
                  | true => simp only [Bool.not_true, Bool.false_eq_true, if_false]; exact ihl b h
                  | false => simp only [Option.some.injEq] at h; subst h; rfl
        exact key _ _ h
    · cases h
omit hp in
theorem eq_form {β : Bt} {d : Nat} {t : TypeId} {x y x' y' : Value} {b : Bool} (h : eq_ (Env.of P eqs) (d + 1) t x y = some b) (hx : VR β x x') (hy : VR β y y') :
    (∃ k a k' c, x = .int k a ∧ y = .int k' c ∧ k = k') ∨ (∃ a c, x = .string a ∧ y = .string c) ∨
      ∀ t, binOp .eql t x' y' = (do pure (.bool (← Op.equal t x' y'))) ∧ binOp .neq t x' y' = (do pure (.bool (!(← Op.equal t x' y')))) := by
  unfold eq_ at h
  split at h
  case h_2 => rename_i k0 k a k' c hu; refine .inl ⟨k, a, k', c, rfl, rfl, ?_⟩; by_cases hk : k = k'; exact hk; simp [hk] at h
  case h_3 => exact .inr (.inl ⟨_, _, rfl, rfl⟩)
  all_goals first
    | (cases h; done)
    | (refine .inr (.inr fun t => ?_); cases hx <;> cases hy <;> exact ⟨rfl, rfl⟩)
omit hp in
theorem eqGuard_run {β : Bt} {d : Nat} {op : BinOp} {t : TypeId} {X Y : Operand} {x y x' y' : Value} {b : Bool} (hg : ∀ t ∈ eqs, P.eqGuardType P.depth t = false) (h : eq_ (Env.of P eqs) (d + 1) t x y = some b) (hgd : guard_ (Env.of P eqs) t x = true) (hx : VR β x x') (hy : VR β y y') (w : World) :
    (eqGuard op t X Y x' y').run P w = .ok () w := by
  have hagg : ∀ xs, x = .agg xs → P.eqGuardType P.depth t = false := by
    rintro xs rfl
    unfold guard_ Env.eqOk at hgd
    obtain ⟨u, hu1, hu2⟩ := List.any_eq_true.1 hgd
    have : t = u := Nat.eq_of_beq_eq_true hu2
    subst this
    exact hg _ hu1
  unfold eq_ at h
  split at h
  all_goals first
    | (cases h; done)
    | (cases hx <;> cases hy <;> (cases op <;> first | rfl | (simp [eqGuard, run_program, hagg _ rfl]; done)))
end
end Go.Proofs.YthloojeefdjpjaaGreatDoor
