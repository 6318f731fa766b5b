/- Functions whose answers are told: arg.Find; the library's without a body. -/
import Derived.Test.YthloojeefdjpjaaGreatDoorAbProg
import Derived.Test.YthloojeefdjpjaaGreatDoorInto
import Derived.Lib.Bytealg
namespace Go.Proofs.YthloojeefdjpjaaGreatDoor
open Go Go.RowKit
set_option linter.unusedVariables false

/-! ### The last value of a key -/
def kvs_ : List Value → Option (List (ByteArray × ByteArray))
  | [] => some []
  | .string k :: .string v :: l => match kvs_ l with | some r => some ((k, v) :: r) | none => none
  | _ => none
def findR (key : ByteArray) : List (ByteArray × ByteArray) → Option ByteArray
  | [] => none
  | (k, v) :: l => bif k.data.toList == key.data.toList then some v else findR key l
def found_ : Option ByteArray → Value
  | some v => .tuple ⟨[.string v, .bool true]⟩
  | none => .tuple ⟨[.string ⟨⟨[]⟩⟩, .bool false]⟩
def spFind (args : List Value) (h : Hp) : Option (Value × Hp) :=
  match args with
  | [.slice none 0 0, .string key] => some (found_ none, h)
  | [.slice (some a) n _, .string key] => match Nat.ble n 1000000, loadCells_ h a (n * 2) with
    | true, some cs => match kvs_ cs with
      | some zs => some (found_ (findR key zs.reverse), h)
      | none => none
    | _, _ => none
  | _ => none
theorem kvs_get : ∀ {cs : List Value} {zs : List (ByteArray × ByteArray)}, kvs_ cs = some zs → cs.length = zs.length * 2 ∧ ∀ j, j < zs.length → cs[j * 2]? = some (.string (zs.getD j (⟨#[]⟩, ⟨#[]⟩)).1) ∧ cs[j * 2 + 1]? = some (.string (zs.getD j (⟨#[]⟩, ⟨#[]⟩)).2) := by
  intro cs
  induction cs using kvs_.induct with
  | case1 => intro zs h; simp only [kvs_, Option.some.injEq] at h; subst h; exact ⟨rfl, fun j hj => by simp at hj⟩
  | case2 k v l r hr ih =>
    intro zs h
    simp only [kvs_, hr, Option.some.injEq] at h
    subst h
    obtain ⟨h1, h2⟩ := ih hr
    refine ⟨by simp [h1]; omega, fun j hj => ?_⟩
    cases j with
    | zero => exact ⟨rfl, rfl⟩
    | succ j =>
      have := h2 j (by simpa using hj)
      rw [show (j + 1) * 2 = j * 2 + 1 + 1 by omega]
      simpa using this
  | case3 k v l hr ih => intro zs h; simp [kvs_, hr] at h
  | case4 l h1 h2 =>
    intro zs h
    unfold kvs_ at h
    split at h
    · exact absurd rfl h1
    · exact absurd rfl (h2 _ _ _)
    · cases h
theorem findR_eq {key : ByteArray} {zs : Nat → find.Kv} : ∀ n, findR key (((List.range n).map zs).reverse) = find.findK zs key n := by
  intro n
  induction n with
  | zero => rfl
  | succ n ih =>
    rw [List.range_succ, List.map_append, List.reverse_append]
    simp only [List.map_cons, List.map_nil, List.reverse_cons, List.reverse_nil, List.nil_append, List.singleton_append, findR, find.findK]
    rw [ih, ← Lib.toList_data, ← Lib.toList_data]
    cases (zs n).1.toList == key.toList <;> rfl
theorem found_eq {β : Bt} (o : Option ByteArray) : VR β (found_ o) (.tuple #[.string (find.findV o), .bool o.isSome]) := by
  cases o with
  | none => exact VR.of_tuple (xs := [.string ⟨⟨[]⟩⟩, .bool false]) (ys := [.string ⟨#[]⟩, .bool false]) (LR.cons (.string _) (LR.cons (.bool _) (LR.nil β)))
  | some v => exact VR.of_tuple (xs := [.string v, .bool true]) (ys := [.string v, .bool true]) (LR.cons (.string _) (LR.cons (.bool _) (LR.nil β)))

/-! ### The library's without a body -/
def spIndexByte (args : List Value) (h : Hp) : Option (Value × Hp) :=
  match args with
  | [.string s, .int .u8 c] => some (vint .i64 (Lib.indexByte s.data.toList c.toNat.toUInt8), h)
  | _ => none
def spCount (args : List Value) (h : Hp) : Option (Value × Hp) :=
  match args with
  | [.string s, .int .u8 c] => some (goNat (Lib.countByte s.data.toList c.toNat.toUInt8), h)
  | _ => none
def spCompare (args : List Value) (h : Hp) : Option (Value × Hp) :=
  match args with
  | [.string s, .string t] => some (vint .i64 (Lib.compareBytes s.data.toList t.data.toList), h)
  | _ => none
theorem vint_eq (k : IntKind) (n : Int) : vint k n = .int k n := by cases n <;> rfl

/-- One that is told in a world that stays. -/
theorem told_extern {P : Program} {f : FuncId} {fn : Func} {e : Array Value → Sem Value} (hf : P.funcs[f]? = some fn) (hname : (fn.name == "runtime.NumGoroutine") = false) (hb : fn.body.isNone = true) (hn : Extern.findNext fn = none) (he : Extern.find fn = some e)
    {args' : Array Value} {w : World} {v' : Value} (hr : (e args').run P w = .ok v' w) {β : Bt} {h : Hp} {v : Value} (H : HR P β h w) (hv : VR β v v') : Answers P β h w h v ((callFunc f args').run P w) := by
  rw [run_callFunc_extern hf hname hb hn he, hr]
  exact .inl ⟨β, w, v', rfl, H, .refl _ _ _, hv⟩
theorem two_args {β : Bt} {x y : Value} {l : List Value} (h : LR β [x, y] l) : ∃ x' y', l = [x', y'] ∧ VR β x x' ∧ VR β y y' := by
  obtain ⟨h1, h2⟩ := h
  match l, h1 with
  | [x', y'], _ => exact ⟨x', y', rfl, h2 0 x x' rfl rfl, h2 1 y y' rfl rfl⟩
/-- What a told function must do. -/
def ToldOk (P : Program) (gl : Nat) (f : FuncId) (g : List Value → Hp → Option (Value × Hp)) : Prop := CallOk P (fun f' args h => bif Nat.beq f' f then g args h else none) gl
theorem told_cons {P : Program} {gl : Nat} {f : FuncId} {g : List Value → Hp → Option (Value × Hp)} {sp : Sp} (h1 : ToldOk P gl f g) (h2 : CallOk P (spCall sp) gl) : CallOk P (spCall fun f' => bif Nat.beq f' f then some g else sp f') gl := by
  intro f' args args' h h' v β w hc hl H hgb
  unfold spCall at hc
  dsimp only at hc
  cases hb : Nat.beq f' f with
  | true =>
    rw [hb] at hc
    exact h1 f' args args' h h' v β w (by dsimp only; rw [hb]; exact hc) hl H hgb
  | false =>
    rw [hb] at hc
    exact h2 f' args args' h h' v β w (by unfold spCall; exact hc) hl H hgb
theorem told_nil {P : Program} {gl : Nat} : CallOk P (spCall fun _ => none) gl := fun f args args' h h2 v β w hc => by cases hc
section
variable {P : Program} {gl : Nat} {f : FuncId} {fn : Func}
theorem told_of {g : List Value → Hp → Option (Value × Hp)} (h1 : ∀ (args args' : List Value) (h h2 : Hp) (v : Value) (β : Bt) (w : World), g args h = some (v, h2) → LR β args args' → HR P β h w → (∀ g, g < gl → β g = some ⟨g, 0, 0⟩) →
    Answers P β h w h2 v ((callFunc f args'.toArray).run P w)) : ToldOk P gl f g := by
  intro f' args args' h h' v β w hc hl H hgb
  dsimp only at hc
  cases hb : Nat.beq f' f with
  | true =>
    have := Nat.eq_of_beq_eq_true hb
    subst this
    rw [hb, cond_true] at hc
    exact h1 args args' h h' v β w hc hl H hgb
  | false => rw [hb] at hc; cases hc
theorem index_told (hf : P.funcs[f]? = some fn) (hname : (fn.name == "runtime.NumGoroutine") = false) (hb : fn.body.isNone = true) (hn : Extern.findNext fn = none) (he : Extern.find fn = some Extern.BytealgIndexByte.indexByte) : ToldOk P gl f spIndexByte :=
  told_of fun args args' h h2 v β w hc hl H hgb => by
    unfold spIndexByte at hc
    split at hc
    · rename_i s c
      simp only [Option.some.injEq, Prod.mk.injEq] at hc
      obtain ⟨rfl, rfl⟩ := hc
      obtain ⟨x', y', rfl, hx, hy⟩ := two_args hl
      rw [hx.string_inv, hy.int_inv]
      exact told_extern hf hname hb hn he (Lib.run_indexByteString s c w) H (by rw [vint_eq]; exact .int _ _)
    · cases hc
theorem count_told (hf : P.funcs[f]? = some fn) (hname : (fn.name == "runtime.NumGoroutine") = false) (hb : fn.body.isNone = true) (hn : Extern.findNext fn = none) (he : Extern.find fn = some Extern.BytealgCount.count) : ToldOk P gl f spCount :=
  told_of fun args args' h h2 v β w hc hl H hgb => by
    unfold spCount at hc
    split at hc
    · rename_i s c
      simp only [Option.some.injEq, Prod.mk.injEq] at hc
      obtain ⟨rfl, rfl⟩ := hc
      obtain ⟨x', y', rfl, hx, hy⟩ := two_args hl
      rw [hx.string_inv, hy.int_inv]
      exact told_extern hf hname hb hn he (Lib.run_countString s c w) H (.int _ _)
    · cases hc
theorem compare_told (hf : P.funcs[f]? = some fn) (hname : (fn.name == "runtime.NumGoroutine") = false) (hb : fn.body.isNone = true) (hn : Extern.findNext fn = none) (he : Extern.find fn = some Extern.BytealgCompare.compare) : ToldOk P gl f spCompare :=
  told_of fun args args' h h2 v β w hc hl H hgb => by
    unfold spCompare at hc
    split at hc
    · rename_i s t
      simp only [Option.some.injEq, Prod.mk.injEq] at hc
      obtain ⟨rfl, rfl⟩ := hc
      obtain ⟨x', y', rfl, hx, hy⟩ := two_args hl
      rw [hx.string_inv, hy.string_inv]
      exact told_extern hf hname hb hn he (Lib.run_compareString s t w) H (by rw [vint_eq]; exact .int _ _)
    · cases hc
theorem find_told (hent : Enters P f) (hcalls : ∀ (a : Option Addr) (len cap : Nat) (zs : Nat → find.Kv) (key : ByteArray) (w : World), len ≤ 1152921504606846976 → find.Holds w.heap.size w a len cap zs →
    Calls P f #[.slice a len cap, .string key] w fun e W' => e = .returned (.tuple #[.string (find.findV (find.findK zs key len)), .bool (find.findK zs key len).isSome]) ∧ Below w.heap.size w W') : ToldOk P gl f spFind :=
  told_of fun args args' h h2 v β w hc hl H hgb => by
    have key : ∀ (a : Option Addr) (len cap : Nat) (zs : Nat → find.Kv) (s : ByteArray), args' = [.slice a len cap, .string s] → len ≤ 1152921504606846976 → find.Holds w.heap.size w a len cap zs → v = found_ (find.findK zs s len) → h2 = h → Answers P β h w h2 v ((callFunc f args'.toArray).run P w) := by
      intro a len cap zs s e1 e2 e3 e4 e5
      subst e1 e4 e5
      rw [show (callFunc f [Value.slice a len cap, .string s].toArray).run P w = .ok (.enter f [Value.slice a len cap, .string s].toArray) w from hent _ w]
      refine .inr ⟨_, _, rfl, (hcalls a len cap zs s w e2 e3).mono ?_⟩
      rintro e w2 ⟨rfl, hB⟩
      exact ⟨_, β, rfl, H.below hB, St.below hB, found_eq _⟩
    unfold spFind at hc
    split at hc
    · rename_i s
      simp only [Option.some.injEq, Prod.mk.injEq] at hc
      obtain ⟨rfl, rfl⟩ := hc
      obtain ⟨x', y', rfl, hx, hy⟩ := two_args hl
      refine key none 0 0 (fun _ => (⟨#[]⟩, ⟨#[]⟩)) s ?_ (by omega) (.inl ⟨rfl, rfl, rfl⟩) rfl rfl
      rw [hx.nilSlice_inv, hy.string_inv]
    · rename_i ad n c s
      split at hc
      · rename_i cs hle hld
        cases hz : kvs_ cs with
        | none => rw [hz] at hc; cases hc
        | some zs =>
          rw [hz] at hc
          simp only [Option.some.injEq, Prod.mk.injEq] at hc
          obtain ⟨rfl, rfl⟩ := hc
          obtain ⟨x', y', rfl, hx, hy⟩ := two_args hl
          obtain ⟨i, _, hi, rfl⟩ := hx.slice_inv
          obtain ⟨hlen, hget⟩ := kvs_get hz
          have hcl := (loadCells_run H hld hi).choose_spec.2.2
          have hn : zs.length = n := by omega
          have hle := Nat.le_of_ble_eq_true hle
          have hzs : (List.range n).map (fun j => zs.getD j (⟨#[]⟩, ⟨#[]⟩)) = zs := by
            rw [← hn]
            apply List.ext_getElem
            · simp
            · intro j q1 q2
              simp [List.getD_eq_getElem?_getD, q2]
          have hcell : ∀ j x, cs[j]? = some (.string x) → w.cell? ⟨i.blk, i.off + ad.off + j, none⟩ = some (.string x) := fun j x hx => by
            obtain ⟨y, q1, q2⟩ := load_cells H hld hi j _ hx
            rw [q1, q2.string_inv]
          have hK : find.Holds w.heap.size w (some ⟨i.blk, i.off + ad.off, none⟩) n (c + i.ex) (fun j => zs.getD j (⟨#[]⟩, ⟨#[]⟩)) := by
            refine .inr ⟨_, _, rfl, fun h0 => ?_, fun j hj => ?_⟩
            · have q1 := hcell 0 _ (by simpa using (hget 0 (by omega)).1)
              have q2 : w.heap[i.blk]? ≠ none := by
                intro e
                simp [World.cell?, e] at q1
              rcases Nat.lt_or_ge i.blk w.heap.size with q3 | q3
              · exact q3
              · exact absurd (Array.getElem?_eq_none q3) q2
            · obtain ⟨q1, q2⟩ := hget j (by omega)
              exact ⟨hcell _ _ q1, hcell _ _ q2⟩
          have hv := findR_eq (key := s) (zs := fun j => zs.getD j (⟨#[]⟩, ⟨#[]⟩)) n
          rw [hzs] at hv
          exact key _ n _ _ s (by rw [hy.string_inv]) (by omega) hK (by rw [hv]) rfl
      · cases hc
    · cases hc
end
/-! ### One list into a file -/
/-- a piece's address, its capacity known -/
def piece_ (h : Hp) (b : Addr) : Option Addr :=
  match isExact h b.block with
  | some true => some b
  | some false => match h.get (b.block + 1) with
    | some (.view v) => bif Nat.beq v b.block then some ⟨b.block + 1, b.off, none⟩ else none
    | _ => none
  | none => none
theorem piece_at {P : Program} {β : Bt} {h : Hp} {w : World} (H : HR P β h w) {b b' : Addr} (hp : piece_ h b = some b') (hs : b = ⟨b.block, b.off, none⟩) {i : Info} (hi : β b.block = some i) :
    ∃ j, b' = ⟨b'.block, b'.off, none⟩ ∧ β b'.block = some j ∧ j.ex = 0 ∧ j.blk = i.blk ∧ j.off + b'.off = i.off + b.off := by
  unfold piece_ at hp
  split at hp
  · rename_i he
    cases hp
    exact ⟨i, hs, hi, exact_ex H he hi, rfl, rfl⟩
  · split at hp
    · rename_i v hv
      cases hb : Nat.beq v b.block with
      | false => rw [hb] at hp; cases hp
      | true =>
        rw [hb, cond_true] at hp
        cases hp
        obtain rfl := Nat.eq_of_beq_eq_true hb
        obtain ⟨jv, hjv⟩ := H.has _ _ hv
        obtain ⟨hex0, j, hj, e1, e2⟩ := seen_at H hv hjv
        rw [hi] at hj
        injection hj with hj
        subst hj
        exact ⟨jv, rfl, hjv, hex0, e1.symm, by rw [← e2]⟩
    · cases hp
  · cases hp
def spInto (run : List Value → Hp → Option (Value × Hp)) (args : List Value) (h : Hp) : Option (Value × Hp) :=
  match args with
  | [.pointer (some s), .int .i64 ino, .slice (some a) 1 _] => match loadCells_ h a 1 with
    | some [.slice (some b) m k] => match Nat.ble 1 m && Nat.blt m 4096 && Nat.ble m k, piece_ h b with
      | true, some b => match run [.pointer (some s), .int .i64 ino, .int .i64 (.ofNat 0), .slice (some b) m m] h.calm with
        | some (.tuple ⟨[.int .i64 n, .int .i64 (.ofNat 0)]⟩, h2) => some (.int .i64 (.ofNat 0), h2.calm)
        | _ => none
      | _, _ => none
    | _ => none
  | _ => none
theorem three_args {β : Bt} {x y z : Value} {l : List Value} (h : LR β [x, y, z] l) : ∃ x' y' z', l = [x', y', z'] ∧ VR β x x' ∧ VR β y y' ∧ VR β z z' := by
  obtain ⟨h1, h2⟩ := h
  match l, h1 with
  | [x', y', z'], _ => exact ⟨x', y', z', rfl, h2 0 x x' rfl rfl, h2 1 y y' rfl rfl, h2 2 z z' rfl rfl⟩
theorem St.uncalm {β β2 : Bt} {h h2 : Hp} {w w2 : World} (S : St β h.calm w β2 h2 w2) : St β h w β2 h2 w2 :=
  ⟨S.le, S.os, S.tape, S.output, S.size, fun k hk hn => S.keep k hk (fun ho => hn (own_calm ho)), fun k hk => (S.own k hk).imp own_calm id, fun k hk => (S.held k hk).imp held_calm id⟩
theorem into_told {P : Program} {gl : Nat} {f wr : FuncId} {run : List Value → Hp → Option (Value × Hp)} (hent : Enters P f)
    (hrun : ∀ (args args' : List Value) (h h2 : Hp) (v : Value) (β : Bt) (w : World), run args h = some (v, h2) → LR β args args' → HR P β h w → (∀ g, g < gl → β g = some ⟨g, 0, 0⟩) →
      Calls P wr args'.toArray w fun en w2 => ∃ v' β2, en = .returned v' ∧ HR P β2 h2 w2 ∧ St β h w β2 h2 w2 ∧ VR β2 v v')
    (hinto : ∀ (st : Option Addr) (ino : Int) (bl ol cl bp op m km : Nat) (n : Int) (β : Bt) (h0 h2 : Hp) (h1 : 1 ≤ m) (hm : m < 4096) (hcap : m ≤ km) (w : World) (hlt : bl < w.heap.size) (hl : w.cell? ⟨bl, ol, none⟩ = some (.slice (some ⟨bp, op, none⟩) m km)) (H : HR P β h0.calm w)
      (hW : ∀ W, HR P β h0.calm W → Calls P wr #[.pointer st, .int .i64 ino, .int .i64 0, .slice (some ⟨bp, op, none⟩) m m] W fun e W2 => ∃ β2, e = .returned (.tuple #[.int .i64 n, .int .i64 0]) ∧ HR P β2 h2 W2 ∧ St β h0.calm W β2 h2 W2),
      Calls P f #[.pointer st, .int .i64 ino, .slice (some ⟨bl, ol, none⟩) 1 cl] w fun e W' => e = .returned (.int .i64 0) ∧ ∃ β2, HR P β2 h2.calm W' ∧ St β h0.calm w β2 h2.calm W') : ToldOk P gl f (spInto run) :=
  told_of fun args args' h h3 v β w hc hl H hgb => by
    unfold spInto at hc
    split at hc
    · rename_i s ino a c
      split at hc
      · rename_i b m k hld
        split at hc
        · rename_i b' hle hex
          split at hc
          · rename_i n h2 hr
            simp only [Option.some.injEq, Prod.mk.injEq] at hc
            obtain ⟨rfl, rfl⟩ := hc
            simp only [Bool.and_eq_true] at hle
            obtain ⟨⟨q1, q2⟩, q3⟩ := hle
            have q1 := Nat.le_of_ble_eq_true q1
            have q2 : m < 4096 := Nat.lt_of_lt_of_le (Nat.lt_succ_self _) (Nat.le_of_ble_eq_true q2)
            have q3 := Nat.le_of_ble_eq_true q3
            obtain ⟨x', y', z', rfl, hx, hy, hz⟩ := three_args hl
            have hx0 := hx
            obtain ⟨i1, hi1⟩ : ∃ st, x' = .pointer st := by
              revert hx
              generalize x' = u
              intro hx
              cases hx <;> exact ⟨_, rfl⟩
            obtain ⟨i2, _, hi2, rfl⟩ := hz.slice_inv
            obtain ⟨y, hc1, hv1⟩ := load_cells H hld hi2 0 _ rfl
            obtain ⟨i3, hb3, hi3, rfl⟩ := hv1.slice_inv
            obtain ⟨i4, hb4, hi4, hex0, ek, eo⟩ := piece_at H hex hb3 hi3
            rw [hy.int_inv]
            subst hi1
            have hlt : i2.blk < w.heap.size := by
              rcases Nat.lt_or_ge i2.blk w.heap.size with q4 | q4
              · exact q4
              · simp [World.cell?, Array.getElem?_eq_none q4] at hc1
            refine .inr ⟨f, _, hent _ w, ?_⟩
            refine (hinto i1 ino i2.blk (i2.off + a.off) (c + i2.ex) i3.blk (i3.off + b.off) m (k + i3.ex) n β h h2 q1 q2 (by omega) w hlt hc1 H.calm (fun W HW => ?_)).mono ?_
            · have hl4 : LR β [.pointer (some s), .int .i64 ino, .int .i64 (.ofNat 0), .slice (some b') m m] [.pointer i1, .int .i64 ino, .int .i64 0, .slice (some ⟨i3.blk, i3.off + b.off, none⟩) m m] := by
                refine LR.cons hx0 (LR.cons (.int _ _) (LR.cons (.int _ _) (LR.cons ?_ (LR.nil β))))
                have := VR.slice b'.off m m hi4
                rw [hex0, Nat.add_zero, ek, eo] at this
                rw [hb4]
                exact this
              refine (hrun _ _ _ _ _ β W hr hl4 HW hgb).mono ?_
              rintro e W2 ⟨v', β2, rfl, H2, S2, hv⟩
              obtain ⟨ys, rfl, hys⟩ := hv.tuple_inv
              refine ⟨β2, ?_, H2, S2⟩
              have hl5 : LR β2 [.int .i64 n, .int .i64 (.ofNat 0)] ys.toList := ⟨by simpa using hys.1, fun i x y p1 p2 => hys.2 i x y (by simpa using p1) (by simpa using p2)⟩
              obtain ⟨u1, u2, hu, hu1, hu2⟩ := two_args hl5
              have : ys = #[u1, u2] := by
                apply Array.ext'
                exact hu
              rw [this, hu1.int_inv, hu2.int_inv]
              rfl
            · rintro e W' ⟨rfl, β2, H2, S2⟩
              exact ⟨_, β2, rfl, H2, S2.uncalm, .int _ _⟩
          · cases hc
        · cases hc
      · cases hc
    · cases hc
noncomputable def sp0 : Sp := fun f =>
  bif Nat.beq f 101 then some spFind
  else bif Nat.beq f 377 then some spIndexByte
  else bif Nat.beq f 403 then some spCount
  else bif Nat.beq f 335 then some spCompare
  else none
theorem t_find : ToldOk Tryz.prog Tryz.prog.globals.size 101 spFind := by with_reducible exact (find_told (P := Tryz.prog) (gl := Tryz.prog.globals.size) (enters_of Tryz.func101 (by kernel_rfl) rfl) find.Find_calls')
theorem t_index : ToldOk Tryz.prog Tryz.prog.globals.size 377 spIndexByte := by with_reducible exact (index_told Tryz.func377 (by kernel_rfl) (by kernel_rfl) (by kernel_rfl) (by kernel_rfl))
theorem t_count : ToldOk Tryz.prog Tryz.prog.globals.size 403 spCount := by with_reducible exact (count_told Tryz.func403 (by kernel_rfl) (by kernel_rfl) (by kernel_rfl) (by kernel_rfl))
theorem t_compare : ToldOk Tryz.prog Tryz.prog.globals.size 335 spCompare := by with_reducible exact (compare_told Tryz.func335 (by kernel_rfl) (by kernel_rfl) (by kernel_rfl) (by kernel_rfl))
theorem sp0_ok : CallOk Tryz.prog (spCall sp0) Tryz.prog.globals.size := by
  unfold sp0
  with_reducible exact (told_cons t_find (told_cons t_index (told_cons t_count (told_cons t_compare told_nil))))
noncomputable def writes (args : List Value) (h : Hp) : Option (Value × Hp) := answer env sp0 3000 50 args h
theorem writes_ok (args args' : List Value) (h h2 : Hp) (v : Value) (β : Bt) (w : World) (hr : writes args h = some (v, h2)) (hl : LR β args args') (H : HR Tryz.prog β h w) (hg : ∀ g, g < Tryz.prog.globals.size → β g = some ⟨g, 0, 0⟩) :
    Calls Tryz.prog 50 args'.toArray w fun en w2 => ∃ v' β2, en = .returned v' ∧ HR Tryz.prog β2 h2 w2 ∧ St β h w β2 h2 w2 ∧ VR β2 v v' := by
  unfold writes env at hr
  with_reducible exact answer_calls (P := Tryz.prog) (eqs := eqList) prog_types prog_eqs prog_guards prog_mix prog_funcs prog_names sp0_ok hr hl H hg
theorem t_into : ToldOk Tryz.prog Tryz.prog.globals.size 76 (spInto writes) := by
  with_reducible exact (into_told (P := Tryz.prog) (gl := Tryz.prog.globals.size) (wr := 50) (enters_of Tryz.func76 (by kernel_rfl) rfl) writes_ok into.into_calls)
noncomputable def sp : Sp := fun f => bif Nat.beq f 76 then some (spInto writes) else sp0 f
theorem sp_ok : CallOk Tryz.prog (spCall sp) Tryz.prog.globals.size := by
  unfold sp
  with_reducible exact (told_cons t_into sp0_ok)
end Go.Proofs.YthloojeefdjpjaaGreatDoor
