/- The evaluator's conversions, lengths, maps and comparisons beside the machine's. -/
import Derived.Test.YthloojeefdjpjaaGreatDoorAbG
import Derived.Laws.IdiomStrings
import Derived.Laws.StructEq
import Derived.MapKept
import Derived.Lib.UnsafeStr
namespace Go.Proofs.YthloojeefdjpjaaGreatDoor
open Go Go.RowKit
set_option linter.unusedVariables false
set_option linter.unusedSimpArgs false

theorem load_cells_plain {P : Program} {β : Bt} {h : Hp} {w : World} (H : HR P β h w) {b : Nat} {c : List Value} {e : TypeId} {ex ro : Bool} (hg : h.get b = some (.cells c e ex ro)) {o n : Nat} {l : List Value} (hl : lcut c o n = some l) {i : Info} (hi : β b = some i) (j : Nat) (x : Value) (hx : l[j]? = some x) :
    ∃ y, w.cell? ⟨i.blk, i.off + o + j, none⟩ = some y ∧ VR β x y := by
  obtain ⟨h1, _, h2⟩ := lcut_some hl
  have hj : j < n := by rw [← h2]; exact (List.getElem?_eq_some_iff.1 hx).1
  rw [lcut_get hl j hj] at hx
  rcases H.ok _ _ _ hg hi with ⟨rfl, _⟩ | ⟨cc, e', fr, hb, hs, hv, _⟩
  · simp at hx
  · have hlt : i.off + (o + j) < cc.size := by omega
    refine ⟨cc[i.off + (o + j)], ?_, hv _ _ _ hx (Array.getElem?_eq_getElem hlt)⟩
    rw [cell_heap hb, Nat.add_assoc, Array.getElem?_eq_getElem hlt]
theorem load_cells {P : Program} {β : Bt} {h : Hp} {w : World} (H : HR P β h w) {a : Addr} {n : Nat} {l : List Value} (hl : loadCells_ h a n = some l) {i : Info} (hi : β a.block = some i) (j : Nat) (x : Value) (hx : l[j]? = some x) :
    ∃ y, w.cell? ⟨i.blk, i.off + a.off + j, none⟩ = some y ∧ VR β x y := by
  unfold loadCells_ at hl
  cases hg : h.get a.block with
  | none => rw [hg] at hl; cases hl
  | some b =>
    rw [hg] at hl
    cases b with
    | map es c => cases hl
    | dead => cases hl
    | cells c e ex ro => exact load_cells_plain H hg hl hi j x hx
    | view b =>
      simp only at hl
      obtain ⟨_, k, hk, e1, e2⟩ := seen_at H hg hi
      cases hg2 : h.get b with
      | none => rw [hg2] at hl; cases hl
      | some y =>
        rw [hg2] at hl
        cases y with
        | map es c => cases hl
        | dead => cases hl
        | view b => cases hl
        | cells c e ex ro => rw [← e1, ← e2]; exact load_cells_plain H hg2 hl hk j x hx
theorem bytes_inv : ∀ {c : List Value} {l : List UInt8}, bytes_ c = some l → ∃ ns : List Nat, c = ns.map (fun n => Value.int .u8 (Int.ofNat n)) ∧ l = ns.map UInt8.ofNat := by
  intro c
  induction c with
  | nil => intro l h; simp only [bytes_, Option.some.injEq] at h; subst h; exact ⟨[], rfl, rfl⟩
  | cons v c ih =>
    intro l h
    unfold bytes_ at h
    split at h
    · rename_i heq; cases heq
    · rename_i n r heq
      injection heq with h1 h2
      subst h1 h2
      cases hr : bytes_ c with
      | none => rw [hr] at h; cases h
      | some q =>
        rw [hr] at h
        simp only [Option.some.injEq] at h
        subst h
        obtain ⟨ns, rfl, rfl⟩ := ih hr
        exact ⟨n :: ns, rfl, rfl⟩
    · cases h
section
variable {P : Program} {eqs : List TypeId} (hp : P.types.size < 4000)
include hp
theorem conv_does {β : Bt} {h h' : Hp} {w : World} (H : HR P β h w) {s d : TypeId} {x x' v : Value} (hc : conv_ (Env.of P eqs) s d x h = some (v, h')) (hx : VR β x x') : Does P β h w (convert s d x') v h' := by
  unfold conv_ at hc
  split at hc
  · rename_i ds k k' n hs hd
    simp only [Option.some.injEq, Prod.mk.injEq] at hc
    obtain ⟨rfl, rfl⟩ := hc
    rw [hx.int_inv]
    exact .same H (by simp [convert, run_under hp hs, run_under hp hd, Conv.intToInt]) (.int _ _)
  · rename_i ds c hs hd
    simp only [Option.some.injEq, Prod.mk.injEq] at hc
    obtain ⟨rfl, rfl⟩ := hc
    cases hx with
    | rest8 c a h1 h2 =>
      have e : IntKind.i64.wrap (a : Int) = a := IntWalk.i64_in _ (by omega)
      exact .same H (v' := .int .i64 a) (by simp [convert, run_under hp hs, run_under hp hd, Conv.intToInt, e]) (.rest64 c a h1 h2)
  · rename_i ds b hs hd
    simp only [Option.some.injEq, Prod.mk.injEq] at hc
    obtain ⟨rfl, rfl⟩ := hc
    rw [hx.string_inv]
    exact .same H (by simp [convert, run_under hp hs, run_under hp hd]) (.string _)
  · rename_i ds k n hs hd
    simp only [Option.some.injEq, Prod.mk.injEq] at hc
    obtain ⟨rfl, rfl⟩ := hc
    rw [hx.int_inv]
    exact .same H (by simp [convert, run_under hp hs, run_under hp hd, Conv.intToString]) (.string _)
  · rename_i e a n k hs hd
    obtain ⟨i, hadr, hi, rfl⟩ := hx.slice_inv
    split at hc
    · rename_i he
      cases hl : loadCells_ h a n with
      | none => rw [hl] at hc; cases hc
      | some c =>
        rw [hl] at hc
        simp only at hc
        cases hb : bytes_ c with
        | none => rw [hb] at hc; cases hc
        | some l =>
          rw [hb] at hc
          simp only [Option.some.injEq, Prod.mk.injEq] at hc
          obtain ⟨rfl, rfl⟩ := hc
          obtain ⟨ns, rfl, rfl⟩ := bytes_inv hb
          have hlen := (loadCells_run H hl hi).choose_spec.2.2
          have hr := run_convert_bytes_arg (P := P) w s e (env_under hp hs) (env_under hp he) i.blk (i.off + a.off) n (k + i.ex) (ns.map Int.ofNat) (by simpa using hlen) (fun j hj => by
            have hj' : j < ns.length := by rw [← hlen] at hj; simpa using hj
            obtain ⟨y, hy, hR⟩ := load_cells H hl hi j (.int .u8 (Int.ofNat ns[j])) (by simp [hj'])
            rw [hy, hR.int_inv]
            simp [List.getD_eq_getElem?_getD, hj']) d (env_under hp hd)
          refine .same H hr ?_
          have : strOfNums (ns.map Int.ofNat) = ⟨⟨ns.map UInt8.ofNat⟩⟩ := by
            apply ByteArray.ext
            apply Array.ext'
            simp [strOfNums]
          rw [this]
          exact .string _
    · cases hc
  · rename_i e n k hs hd
    rw [hx.nilSlice_inv]
    split at hc
    · rename_i he
      simp only [Option.some.injEq, Prod.mk.injEq] at hc
      obtain ⟨rfl, rfl⟩ := hc
      refine .same H (run_convert_bytes_nil w s e (env_under hp hs) (env_under hp he) n k d (env_under hp hd)) ?_
      exact .string _
    · cases hc
  · rename_i e b hs hd
    rw [hx.string_inv]
    split at hc
    · rename_i he hsz1
      have h1 : P.cellsOf e = 1 := (env_size hp hsz1).choose_spec.2.2
      cases hn : newRow_ h e (b.data.toList.map fun b => .int .u8 (.ofNat b.toNat)) false with
      | none => rw [hn] at hc; cases hc
      | some q =>
        obtain ⟨a, h2⟩ := q
        rw [hn] at hc
        simp only at hc
        have hr := run_bytes_of_string (P := P) w s d e b (env_under hp hs) (env_under hp hd) (env_under hp he)
        have hcap : b.size ≤ grownCap w b.size 0 e := by unfold grownCap Question.cut; exact Nat.le_add_right _ _
        have hsz : (bytesRow b (grownCap w b.size 0 e)).size = grownCap w b.size 0 e := by
          simp only [bytesRow, Array.size_append, Array.size_map, Array.size_replicate]
          have : b.data.size = b.size := rfl
          omega
        have Hd : HR P β h w.drew := H.drawn rfl
        obtain ⟨β', H', S', nb, rfl, hb⟩ := Hd.row (l' := bytesRow b (grownCap w b.size 0 e)) hn (fun k x y hx hy => by
              rw [List.getElem?_map] at hx
              cases hq : b.data.toList[k]? with
              | none => rw [hq] at hx; cases hx
              | some u =>
                rw [hq] at hx
                simp only [Option.map_some, Option.some.injEq] at hx
                subst hx
                have hq2 : b.data[k]? = some u := by simpa using hq
                have hk2 : k < b.data.size := (Array.getElem?_eq_some_iff.1 hq2).1
                have : (bytesRow b (grownCap w b.size 0 e))[k]? = some (.int .u8 (u.toNat : Int)) := by
                  unfold bytesRow
                  rw [Array.getElem?_append_left (by simpa using hk2), Array.getElem?_map, hq2]
                  rfl
                rw [this] at hy
                injection hy with hy
                subst hy
                exact .int _ _) ((bytesRow b (grownCap w b.size 0 e)).size, (bytesRow b (grownCap w b.size 0 e)).size + 1) (.inr (Nat.le_refl _)) (grownCap w b.size 0 e - b.size) (fun h => by cases h) (by
                rw [h1, hsz]
                simp only [List.length_map, bytes_length]
                omega) e rfl (fun h => by cases h)
        rw [bytes_length] at hc
        have hv0 := VR.slice 0 b.size b.size hb
        rw [Nat.zero_add, show b.size + (grownCap w b.size 0 e - b.size) = grownCap w b.size 0 e from by omega] at hv0
        obtain ⟨β2, H2, S2, R2⟩ := sight_does H' hc hv0
        exact ⟨_, _, β2, hr, H2, ((St.drawn (w := w) (w' := w.drew) rfl rfl rfl rfl).trans S').trans S2, R2⟩
    · cases hc
  · rename_i e0 e a n k hs hd
    obtain ⟨i, hadr, hi, rfl⟩ := hx.slice_inv
    split at hc
    · rename_i c el ex h1 h2 h3
      simp only [Option.some.injEq, Prod.mk.injEq] at hc
      obtain ⟨rfl, rfl⟩ := hc
      rcases H.ok _ _ _ h3 hi with ⟨_, hro, _⟩ | ⟨cc, e', fr, hb, hlen, hv, hexx, hmine⟩
      · cases hro
      · have hsd : s = d := Nat.eq_of_beq_eq_true h1
        subst hsd
        have hsh : w.shape? i.blk = some (e', cc.size) := by unfold World.shape?; rw [hb]
        obtain ⟨lo, up⟩ := fr
        obtain ⟨hee, hfine, hroom⟩ := hmine rfl
        have hblk : (w.freeze ⟨i.blk, cc.size, none⟩ 1).heap[i.blk]? = some (.cells cc e' (if lo == up then (cc.size, cc.size + 1) else (min lo cc.size, max up (cc.size + 1)))) := by
          simp [World.freeze, Array.getElem?_modify, hb]
        have hoth : ∀ j, j ≠ i.blk → (w.freeze ⟨i.blk, cc.size, none⟩ 1).heap[j]? = w.heap[j]? := fun j hj => by
          simp [World.freeze, Array.getElem?_modify, Ne.symm hj]
        have hsize : (w.freeze ⟨i.blk, cc.size, none⟩ 1).heap.size = w.heap.size := by simp [World.freeze]
        have hfine' : Fine (if lo == up then (cc.size, cc.size + 1) else (min lo cc.size, max up (cc.size + 1))) cc.size := by
          split
          · exact .inr (Nat.le_refl _)
          · rename_i hne
            rcases hfine with h5 | h5
            · exact absurd (by simpa using h5) hne
            · refine .inr ?_
              simp only at h5 ⊢
              omega
        have H' : HR P β h (w.freeze ⟨i.blk, cc.size, none⟩ 1) := H.touch h3 hi trivial (fun j hj _ => hoth j hj) (.inr ⟨cc, e', _, hblk, hlen, hv, hexx, fun _ => ⟨hee, hfine', hroom⟩⟩)
        refine ⟨_, _, β, ?_, H', ⟨.refl _, by simp [World.freeze], by simp [World.freeze], by simp [World.freeze], by rw [hsize]; exact Nat.le_refl _, fun j _ hn => hoth j (fun e5 => hn ⟨_, _, _, h3, trivial, hi, e5.symm⟩), fun _ h => .inl h, fun _ h => .inl h⟩, hx⟩
        rw [hs] at hd
        injection hd with hd
        injection hd with hd
        subst hd
        simp [convert, run_under hp hs, run_under hp h2, markStringish, hsh]
    · cases hc
  · cases hc
theorem len_run {β : Bt} {h : Hp} {w : World} (H : HR P β h w) {t : TypeId} {x x' v : Value} (hl : len_ (Env.of P eqs) t x h = some v) (hx : VR β x x') (ts : Array TypeId) (ht : ts[0]? = some t) (ty : TypeId) :
    (Builtin.len_ ts ty #[x']).run P w = .ok v w ∧ VR β v v := by
  have hg : ∀ n : Nat, goInt (n : Int) = goNat n := fun n => rfl
  unfold len_ at hl
  split at hl
  · rename_i s hu
    injection hl with hl
    subst hl
    rw [hx.string_inv]
    exact ⟨by simp [Builtin.len_, ht, run_under hp hu, bytes_length, hg], .int _ _⟩
  · rename_i n e hu
    injection hl with hl
    subst hl
    exact ⟨by simp [Builtin.len_, ht, run_under hp hu, hg], .int _ _⟩
  · rename_i e a n c hu
    injection hl with hl
    subst hl
    cases a with
    | none => rw [hx.nilSlice_inv]; exact ⟨by simp [Builtin.len_, ht, run_under hp hu, hg], .int _ _⟩
    | some a => obtain ⟨i, _, _, rfl⟩ := hx.slice_inv; exact ⟨by simp [Builtin.len_, ht, run_under hp hu, hg], .int _ _⟩
  · rename_i e hu
    injection hl with hl
    subst hl
    cases hx with
    | noneLeft a c => exact ⟨by simp [Builtin.len_, ht, run_under hp hu]; rfl, .int _ _⟩
  · rename_i k e hu
    injection hl with hl
    subst hl
    have : x' = .map none := by cases hx; rfl
    subst this
    exact ⟨by simp [Builtin.len_, ht, run_under hp hu]; rfl, .int _ _⟩
  · rename_i k e r hu
    split at hl
    · rename_i es c hgt
      injection hl with hl
      subst hl
      obtain ⟨i, hi⟩ : ∃ i, β r = some i ∧ x' = .map (some i.blk) := by cases hx with | map h => exact ⟨_, h, rfl⟩
      obtain ⟨hi, rfl⟩ := hi
      have hb := (H.ok _ _ _ hgt hi).1
      have := MapKept.run_getObj_map (P := P) hb
      exact ⟨by simp [Builtin.len_, ht, run_under hp hu, this, hg], .int _ _⟩
    · cases hl
  · cases hl
omit hp in
theorem key_run {d : TypeDesc} {k : Value} (h : isKey_ d k = true) : MapKept.IsKey d k := by
  unfold isKey_ at h
  split at h
  · simpa [MapKept.IsKey] using h
  · trivial
  · cases h
omit hp in
theorem key_same {β : Bt} {d : TypeDesc} {k k' : Value} (h : isKey_ d k = true) (hk : VR β k k') : k' = k := by
  unfold isKey_ at h
  split at h
  · exact hk.int_inv
  · exact hk.string_inv
  · cases h
theorem lookup_run {β : Bt} {h : Hp} {w : World} (H : HR P β h w) {t : TypeId} {m m' k k' v : Value} {ok : Bool} (hl : lookup_ (Env.of P eqs) t m k ok h = some v) (hm : VR β m m') (hk : VR β k k') :
    (Instr.lookup t m' k' ok).run P w = .ok v w ∧ VR β v v := by
  unfold lookup_ at hl
  split at hl
  · rename_i kt et hu
    split at hl
    · rename_i d es hd hes
      cases hkey : isKey_ d k with
      | false => rw [hkey] at hl; cases hl
      | true =>
        rw [hkey, cond_true] at hl
        rw [key_same hkey hk]
        have hes' : (∀ e ∈ es, plain_ e.val = true) ∧ ((m' = .map none ∧ es = []) ∨ ∃ i c, m' = .map (some i) ∧ w.heap[i]? = some (.map es.toArray c)) := by
          unfold entries_ at hes
          split at hes
          · injection hes with hes
            subst hes
            have : m' = .map none := by cases hm; rfl
            exact ⟨(fun e he => by cases he), .inl ⟨this, rfl⟩⟩
          · rename_i r
            split at hes
            · rename_i es2 c hgt
              injection hes with hes
              subst hes
              obtain ⟨i, hi, rfl⟩ : ∃ i, β r = some i ∧ m' = .map (some i.blk) := by cases hm with | map h => exact ⟨_, h, rfl⟩
              obtain ⟨hb, hpl⟩ := H.ok _ _ _ hgt hi
              exact ⟨fun e he => (hpl e he).2, .inr ⟨_, _, rfl, hb⟩⟩
            · cases hes
          · cases hes
        obtain ⟨hpl, hmm⟩ := hes'
        have hck := MapKept.run_checkKey (P := P) (w := w) (env_under hp hd) (key_run hkey)
        have plainVR : ∀ u, plain_ u = true → VR β u u := by
          intro u hu
          cases u <;> first | exact .bool _ | exact .int _ _ | exact .string _ | cases hu
        split at hl
        · rename_i q u hf
          injection hl with hl
          subst hl
          have hfk := MapKept.run_findKey (P := P) (w := w) (env_under hp hd) hf
          have hu2 : plain_ u = true := by
            have : ∀ (l : List MapEntry) (i : Nat), (∀ e ∈ l, plain_ e.val = true) → Instr.findNow d k l i = some (some (q, u)) → plain_ u = true := by
              intro l
              induction l with
              | nil => intro i _ h; simp [Instr.findNow] at h
              | cons e l ih =>
                intro i hall h
                simp only [Instr.findNow] at h
                split at h
                · simp only [Option.some.injEq, Prod.mk.injEq] at h
                  rw [← h.2]
                  exact hall e (List.mem_cons_self ..)
                · exact ih _ (fun e he => hall e (List.mem_cons_of_mem _ he)) h
                · cases h
            exact this _ _ hpl hf
          constructor
          · rcases hmm with ⟨rfl, rfl⟩ | ⟨i, c, rfl, hb⟩
            · simp [Instr.findNow] at hf
            · simp only [Instr.lookup, Sem.run_bind, run_under hp hu, Result.andThen_ok, MapKept.run_getObj_map (P := P) hb, hck, hfk, Sem.run_pure]
              cases ok <;> rfl
          · cases ok
            · exact plainVR _ hu2
            · exact .of_tuple (LR.cons (plainVR _ hu2) (LR.cons (.bool _) (LR.nil β)))
        · rename_i hf
          have hfk := MapKept.run_findKey (P := P) (w := w) (env_under hp hd) hf
          cases hz : (Env.of P eqs).zero et with
          | none => rw [hz] at hl; cases hl
          | some z =>
            rw [hz] at hl
            injection hl with hl
            subst hl
            constructor
            · rcases hmm with ⟨rfl, rfl⟩ | ⟨i, c, rfl, hb⟩
              · simp only [Instr.lookup, Sem.run_bind, run_under hp hu, Result.andThen_ok, hck, hfk, Sem.run_pure, run_zero hp hz]
                cases ok <;> rfl
              · simp only [Instr.lookup, Sem.run_bind, run_under hp hu, Result.andThen_ok, MapKept.run_getObj_map (P := P) hb, hck, hfk, Sem.run_pure, run_zero hp hz]
                cases ok <;> rfl
            · cases ok
              · exact (env_zero hp hz).2 β
              · exact .of_tuple (LR.cons ((env_zero hp hz).2 β) (LR.cons (.bool _) (LR.nil β)))
        · cases hl
    · cases hl
  · cases hl
omit hp in
theorem loadBytes_nats {w : World} : ∀ (ns : List Nat) (b o : Nat) (acc : ByteArray), (∀ (j n : Nat), ns[j]? = some n → w.cell? ⟨b, o + j, none⟩ = some (.int .u8 (Int.ofNat n))) →
    (loadBytes ⟨b, o, none⟩ acc ns.length).run P w = .ok ⟨acc.data ++ (ns.map UInt8.ofNat).toArray⟩ w
  | [], b, o, acc, _ => by simp [loadBytes]
  | x :: l, b, o, acc, h => by
    have h0 : w.cell? ⟨b, o, none⟩ = some (.int .u8 (Int.ofNat x)) := h 0 x rfl
    have ih := loadBytes_nats l b (o + 1) (acc.push (UInt8.ofNat x)) (fun j y hy => by
      rw [show o + 1 + j = o + (j + 1) by omega]
      exact h (j + 1) y (by simpa using hy))
    have hx : ((Int.ofNat x).toNat).toUInt8 = UInt8.ofNat x := rfl
    have ha : (⟨b, o, none⟩ : Addr).add 1 = ⟨b, o + 1, none⟩ := add_none b o 1
    simp only [List.length_cons, loadBytes, Sem.run_bind, run_load, h0, Result.andThen, hx, ha]
    rw [ih]
    congr 1
    apply ByteArray.ext
    simp [ByteArray.push]
omit hp in
theorem liesAt_at {e : TypeId} (hc : P.cellsOf e = 1) (count o n : Nat) (hn : o + n ≤ count) : liesAt P P.depth e count o e n = true := by
  have hd : P.depth = (2 * (P.types.size + Made.depth) + 1) + 1 := rfl
  rw [hd]
  simp only [liesAt, Bool.or_eq_true]
  left
  rw [hd]
  simp [rowAt, hc, hn, sameLayout, Nat.mod_one]
omit hp in
theorem sliceData_run {β : Bt} {w : World} {x x' v : Value} (hc : sliceData_ x = some v) (hx : VR β x x') (ats : Array TypeId) (ty : TypeId) : ∃ v', (Builtin.unsafeSliceData_ ats ty #[x']).run P w = .ok v' w ∧ VR β v v' := by
  unfold sliceData_ at hc
  split at hc
  · cases hc
    rw [hx.nilSlice_inv]
    exact ⟨_, rfl, .nilPtr⟩
  · cases hc
    obtain ⟨i, hadr, hi, rfl⟩ := hx.slice_inv
    refine ⟨_, Lib.run_unsafeSliceData_row w ats ty _ _ _ (by omega), ?_⟩
    rw [hadr]
    exact .ptr _ hi
  · cases hc
theorem unsafeStr_does {β : Bt} {h h' : Hp} {w : World} (H : HR P β h w) {t : TypeId} {p n v p' n' : Value} (hc : unsafeStr_ (Env.of P eqs) t p n h = some (v, h')) (hx : VR β p p') (hn : VR β n n') (it ty : TypeId) :
    Does P β h w (Builtin.unsafeString_ #[t, it] ty #[p', n']) v h' := by
  have hmax : IntKind.i64.max = 9223372036854775807 := rfl
  have hzero : ∀ q, (Builtin.unsafeString_ #[t, it] ty #[.pointer q, .int .i64 0]).run P w = .ok (.string .empty) w := fun q => Lib.run_unsafeString_none w t it ty q
  unfold unsafeStr_ at hc
  split at hc
  · simp only [Option.some.injEq, Prod.mk.injEq] at hc
    obtain ⟨rfl, rfl⟩ := hc
    rw [hn.int_inv]
    cases hx with
    | nilPtr => exact .same H (hzero _) (.string _)
  · simp only [Option.some.injEq, Prod.mk.injEq] at hc
    obtain ⟨rfl, rfl⟩ := hc
    rw [hn.int_inv]
    cases hx with
    | ptr o hi => exact .same H (hzero _) (.string _)
  · rename_i a n
    split at hc
    · rename_i e hu hsp
      split at hc
      · rename_i c e' x hsz hg
        cases hb : Nat.beq e' e && Nat.ble (n + 1) 9223372036854775807 with
        | false => rw [hb] at hc; cases hc
        | true =>
          rw [hb, cond_true] at hc
          simp only [Bool.and_eq_true] at hb
          obtain rfl := Nat.eq_of_beq_eq_true hb.1
          have hn63 := Nat.le_of_ble_eq_true hb.2
          cases hl : lcut c a.off (n + 1) with
          | none => rw [hl] at hc; cases hc
          | some l =>
            rw [hl] at hc
            simp only at hc
            cases hbs : bytes_ l with
            | none => rw [hbs] at hc; cases hc
            | some bs =>
              rw [hbs] at hc
              simp only [Option.some.injEq, Prod.mk.injEq] at hc
              obtain ⟨rfl, rfl⟩ := hc
              obtain ⟨ns, rfl, rfl⟩ := bytes_inv hbs
              obtain ⟨_, _, _, hcell⟩ := env_size hp hsz
              obtain ⟨hfit, _, hlen⟩ := lcut_some hl
              have hlen' : ns.length = n + 1 := by simpa using hlen
              rw [hn.int_inv]
              obtain ⟨b, o, s⟩ := a
              cases hx with
              | @ptr _ i o hi =>
                rcases H.ok _ _ _ hg hi with ⟨_, hf, _⟩ | ⟨cc, e2, fr, hbk, hsize, hv, hexx, hmine⟩
                · cases hf
                · obtain ⟨hee, hfr, hroom⟩ := hmine rfl
                  obtain ⟨lo, up⟩ := fr
                  have hsh : w.shape? i.blk = some (e2, cc.size) := by unfold World.shape?; rw [hbk]
                  subst hee
                  have hlen2 : c.length ≤ cc.size := by omega
                  have hcut := (lcut_some hl).1
                  simp only at hcut
                  have hlies := liesAt_at (P := P) hcell (cc.size / P.cellsOf e2) (i.off + o) (n + 1) (by rw [hcell, Nat.div_one]; omega)
                  have hld := loadBytes_nats (P := P) (w := w) ns i.blk (i.off + o) .empty (fun j m hj => by
                    obtain ⟨y, hy, hR⟩ := load_cells_plain H hg hl hi j (.int .u8 (Int.ofNat m)) (by simp [hj])
                    rw [hy, hR.int_inv])
                  rw [hlen'] at hld
                  have hpos : ¬ ((n : Int) + 1 < 0) := by omega
                  have h63 : ¬ (9223372036854775807 < (n : Int) + 1) := by omega
                  have hne : ¬ ((n : Int) + 1 = 0) := by omega
                  have hnat : ((n : Int) + 1).toNat = n + 1 := by omega
                  have hdef : Builtin.unsafeString_ #[t, it] ty #[.pointer (some ⟨i.blk, i.off + o, none⟩), .int .i64 (Int.ofNat (n + 1))] =
                      (do
                        let n ← asInt (.int .i64 (Int.ofNat (n + 1)))
                        if n < 0 then runtimePanic (.error "unsafe.String: len out of range")
                        if n > IntKind.i64.max then unsupported (.unsafePointer "String: a length above the largest int")
                        if n = 0 then pure (.string .empty)
                        else if ← variablesAt ⟨i.blk, i.off + o, none⟩ (← elemOf t) n.toNat then do
                          let s ← loadBytes ⟨i.blk, i.off + o, none⟩ .empty n.toNat
                          freeze ⟨i.blk, i.off + o, none⟩ n.toNat
                          pure (.string s)
                        else unsupported (.unsafePointer "String: not so many bytes at ptr")) := rfl
                  have hrun : (Builtin.unsafeString_ #[t, it] ty #[.pointer (some ⟨i.blk, i.off + o, none⟩), .int .i64 (Int.ofNat (n + 1))]).run P w = .ok (.string ⟨⟨ns.map UInt8.ofNat⟩⟩) (w.freeze ⟨i.blk, i.off + o, none⟩ (n + 1)) := by
                    rw [hdef]
                    simp [asInt, asIntOf, hmax, hpos, h63, hne, hnat, variablesAt, hsh, elemOf, run_underlying (env_under hp hu), hlies, hld]
                  have hblk : (w.freeze ⟨i.blk, i.off + o, none⟩ (n + 1)).heap[i.blk]? = some (.cells cc e2 (if lo == up then (i.off + o, i.off + o + (n + 1)) else (min lo (i.off + o), max up (i.off + o + (n + 1))))) := by
                    simp [World.freeze, Array.getElem?_modify, hbk]
                  have hoth : ∀ j, j ≠ i.blk → (w.freeze ⟨i.blk, i.off + o, none⟩ (n + 1)).heap[j]? = w.heap[j]? := fun j hj => by
                    simp [World.freeze, Array.getElem?_modify, Ne.symm hj]
                  have hsize2 : (w.freeze ⟨i.blk, i.off + o, none⟩ (n + 1)).heap.size = w.heap.size := by simp [World.freeze]
                  exact ⟨_, _, β, hrun, H.change (y := .cells c e2 x true) hg hi trivial (fun k hk _ => hoth k hk) (.inr ⟨cc, e2, _, hblk, hsize, hv, hexx, fun h => by cases h⟩),
                    ⟨.refl _, by simp [World.freeze], by simp [World.freeze], by simp [World.freeze], by rw [hsize2]; exact Nat.le_refl _, fun k hk hn => hoth k (fun e => hn ⟨_, _, _, hg, trivial, hi, e.symm⟩), fun k hk => .inl (own_put H hg trivial hk), fun k hk => .inl (held_put H hg trivial hk)⟩, .string _⟩
      · cases hc
    · cases hc
  · cases hc
end
end Go.Proofs.YthloojeefdjpjaaGreatDoor
