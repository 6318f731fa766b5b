/- Functions whose answers are told: arg.Find; the library's without a body. -/
import Derived.Test.YtkldmbgeldgfhaaGreatDoorAbProg
import Derived.Test.YtkldmbgeldgfhaaGreatDoorFind
import Derived.Lib.Bytealg
namespace Go.Proofs.YtkldmbgeldgfhaaGreatDoor
open Go Go.RowKit
set_option linter.unusedVariables false

theorem HR.below {P : Program} {β : Bt} {h : Hp} {w w' : World} (H : HR P β h w) (B : Below w.heap.size w w') : HR P β h w' :=
  ⟨H.most, H.dom, H.has, fun b x i a c => blkOk_of_block (H.ok b x i a c) (fun he => B.block _ (blk_lt (H.ok b x i a c) he)), H.apart⟩
theorem St.below {β : Bt} {h : Hp} {w w' : World} (B : Below w.heap.size w w') : St β h w β h w' :=
  ⟨.refl _, B.os, B.tape, B.output, B.size, fun k hk _ => B.block k hk, fun _ h => .inl h, fun _ h => .inl h⟩

/-! ### The last value of a key -/
def kvs_ : List Value → Option (List (ByteArray × ByteArray))
  | [] => some []
  | .string k :: .string v :: l => match kvs_ l with | some r => some ((k, v) :: r) | none => none
  | _ => none
def findR (key : ByteArray) : List (ByteArray × ByteArray) → Option ByteArray
  | [] => none
  | (k, v) :: l => bif k.data.toList == key.data.toList then some v else findR key l
def found_ : Option ByteArray → Value
  | some v => .tuple ⟨[.string v, .bool true]⟩
  | none => .tuple ⟨[.string ⟨⟨[]⟩⟩, .bool false]⟩
def spFind (args : List Value) (h : Hp) : Option (Value × Hp) :=
  match args with
  | [.slice none 0 0, .string key] => some (found_ none, h)
  | [.slice (some a) n _, .string key] => match Nat.ble n 1000000, loadCells_ h a (n * 2) with
    | true, some cs => match kvs_ cs with
      | some zs => some (found_ (findR key zs.reverse), h)
      | none => none
    | _, _ => none
  | _ => none
theorem kvs_get : ∀ {cs : List Value} {zs : List (ByteArray × ByteArray)}, kvs_ cs = some zs → cs.length = zs.length * 2 ∧ ∀ j, j < zs.length → cs[j * 2]? = some (.string (zs.getD j (⟨#[]⟩, ⟨#[]⟩)).1) ∧ cs[j * 2 + 1]? = some (.string (zs.getD j (⟨#[]⟩, ⟨#[]⟩)).2) := by
  intro cs
  induction cs using kvs_.induct with
  | case1 => intro zs h; simp only [kvs_, Option.some.injEq] at h; subst h; exact ⟨rfl, fun j hj => by simp at hj⟩
  | case2 k v l r hr ih =>
    intro zs h
    simp only [kvs_, hr, Option.some.injEq] at h
    subst h
    obtain ⟨h1, h2⟩ := ih hr
    refine ⟨by simp [h1]; omega, fun j hj => ?_⟩
    cases j with
    | zero => exact ⟨rfl, rfl⟩
    | succ j =>
      have := h2 j (by simpa using hj)
      rw [show (j + 1) * 2 = j * 2 + 1 + 1 by omega]
      simpa using this
  | case3 k v l hr ih => intro zs h; simp [kvs_, hr] at h
  | case4 l h1 h2 =>
    intro zs h
    unfold kvs_ at h
    split at h
    · exact absurd rfl h1
    · exact absurd rfl (h2 _ _ _)
    · cases h
theorem findR_eq {key : ByteArray} {zs : Nat → find.Kv} : ∀ n, findR key (((List.range n).map zs).reverse) = find.findK zs key n := by
  intro n
  induction n with
  | zero => rfl
  | succ n ih =>
    rw [List.range_succ, List.map_append, List.reverse_append]
    simp only [List.map_cons, List.map_nil, List.reverse_cons, List.reverse_nil, List.nil_append, List.singleton_append, findR, find.findK]
    rw [ih, ← Lib.toList_data, ← Lib.toList_data]
    cases (zs n).1.toList == key.toList <;> rfl
theorem found_eq {β : Bt} (o : Option ByteArray) : VR β (found_ o) (.tuple #[.string (find.findV o), .bool o.isSome]) := by
  cases o with
  | none => exact VR.of_tuple (xs := [.string ⟨⟨[]⟩⟩, .bool false]) (ys := [.string ⟨#[]⟩, .bool false]) (LR.cons (.string _) (LR.cons (.bool _) (LR.nil β)))
  | some v => exact VR.of_tuple (xs := [.string v, .bool true]) (ys := [.string v, .bool true]) (LR.cons (.string _) (LR.cons (.bool _) (LR.nil β)))

/-! ### The library's without a body -/
def spIndexByte (args : List Value) (h : Hp) : Option (Value × Hp) :=
  match args with
  | [.string s, .int .u8 c] => some (vint .i64 (Lib.indexByte s.data.toList c.toNat.toUInt8), h)
  | _ => none
def spCount (args : List Value) (h : Hp) : Option (Value × Hp) :=
  match args with
  | [.string s, .int .u8 c] => some (goNat (Lib.countByte s.data.toList c.toNat.toUInt8), h)
  | _ => none
def spCompare (args : List Value) (h : Hp) : Option (Value × Hp) :=
  match args with
  | [.string s, .string t] => some (vint .i64 (Lib.compareBytes s.data.toList t.data.toList), h)
  | _ => none
theorem vint_eq (k : IntKind) (n : Int) : vint k n = .int k n := by cases n <;> rfl

/-- One that is told in a world that stays. -/
theorem told_extern {P : Program} {f : FuncId} {fn : Func} {e : Array Value → Sem Value} (hf : P.funcs[f]? = some fn) (hname : (fn.name == "runtime.NumGoroutine") = false) (hb : fn.body.isNone = true) (hn : Extern.findNext fn = none) (he : Extern.find fn = some e)
    {args' : Array Value} {w : World} {v' : Value} (hr : (e args').run P w = .ok v' w) {o : Oper} {a' : Act} {next : Act → World → Prop} {Q : Exit → Act → World → Prop} (hnext : next (a'.put o.dst v') w) : o.upon P a' next Q ((callFunc f args').run P w) := by
  rw [run_callFunc_extern hf hname hb hn he, hr]
  exact hnext
theorem two_args {β : Bt} {x y : Value} {l : List Value} (h : LR β [x, y] l) : ∃ x' y', l = [x', y'] ∧ VR β x x' ∧ VR β y y' := by
  obtain ⟨h1, h2⟩ := h
  match l, h1 with
  | [x', y'], _ => exact ⟨x', y', rfl, h2 0 x x' rfl rfl, h2 1 y y' rfl rfl⟩
/-- What a told function must do. -/
def ToldOk (P : Program) (gl : Nat) (f : FuncId) (g : List Value → Hp → Option (Value × Hp)) : Prop := CallOk P (fun f' args h => bif Nat.beq f' f then g args h else none) gl
theorem told_cons {P : Program} {gl : Nat} {f : FuncId} {g : List Value → Hp → Option (Value × Hp)} {sp : Sp} (h1 : ToldOk P gl f g) (h2 : CallOk P (spCall sp) gl) : CallOk P (spCall fun f' => bif Nat.beq f' f then some g else sp f') gl := by
  intro f' args args' h h' v β w hc hl H hgb K o a' next Q hnext
  unfold spCall at hc
  dsimp only at hc
  cases hb : Nat.beq f' f with
  | true =>
    rw [hb] at hc
    exact h1 f' args args' h h' v β w (by dsimp only; rw [hb]; exact hc) hl H hgb K o a' next Q hnext
  | false =>
    rw [hb] at hc
    exact h2 f' args args' h h' v β w (by unfold spCall; exact hc) hl H hgb K o a' next Q hnext
theorem told_nil {P : Program} {gl : Nat} : CallOk P (spCall fun _ => none) gl := fun f args args' h h2 v β w hc => by cases hc
section
variable {P : Program} {gl : Nat} {f : FuncId} {fn : Func}
theorem told_of {g : List Value → Hp → Option (Value × Hp)} (h1 : ∀ (args args' : List Value) (h h2 : Hp) (v : Value) (β : Bt) (w : World), g args h = some (v, h2) → LR β args args' → HR P β h w →
    (∀ (o : Oper) (a' : Act) (next : Act → World → Prop) (Q : Exit → Act → World → Prop), (∀ β2 w2 v', HR P β2 h2 w2 → St β h w β2 h2 w2 → VR β2 v v' → next (a'.put o.dst v') w2) → o.upon P a' next Q ((callFunc f args'.toArray).run P w))) : ToldOk P gl f g := by
  intro f' args args' h h' v β w hc hl H hgb K o a' next Q hnext
  dsimp only at hc
  cases hb : Nat.beq f' f with
  | true =>
    have := Nat.eq_of_beq_eq_true hb
    subst this
    rw [hb, cond_true] at hc
    exact h1 args args' h h' v β w hc hl H o a' next Q hnext
  | false => rw [hb] at hc; cases hc
theorem index_told (hf : P.funcs[f]? = some fn) (hname : (fn.name == "runtime.NumGoroutine") = false) (hb : fn.body.isNone = true) (hn : Extern.findNext fn = none) (he : Extern.find fn = some Extern.BytealgIndexByte.indexByte) : ToldOk P gl f spIndexByte :=
  told_of fun args args' h h2 v β w hc hl H o a' next Q hnext => by
    unfold spIndexByte at hc
    split at hc
    · rename_i s c
      simp only [Option.some.injEq, Prod.mk.injEq] at hc
      obtain ⟨rfl, rfl⟩ := hc
      obtain ⟨x', y', rfl, hx, hy⟩ := two_args hl
      rw [hx.string_inv, hy.int_inv]
      exact told_extern hf hname hb hn he (Lib.run_indexByteString s c w) (hnext β w _ H (.refl _ _ _) (by rw [vint_eq]; exact .int _ _))
    · cases hc
theorem count_told (hf : P.funcs[f]? = some fn) (hname : (fn.name == "runtime.NumGoroutine") = false) (hb : fn.body.isNone = true) (hn : Extern.findNext fn = none) (he : Extern.find fn = some Extern.BytealgCount.count) : ToldOk P gl f spCount :=
  told_of fun args args' h h2 v β w hc hl H o a' next Q hnext => by
    unfold spCount at hc
    split at hc
    · rename_i s c
      simp only [Option.some.injEq, Prod.mk.injEq] at hc
      obtain ⟨rfl, rfl⟩ := hc
      obtain ⟨x', y', rfl, hx, hy⟩ := two_args hl
      rw [hx.string_inv, hy.int_inv]
      exact told_extern hf hname hb hn he (Lib.run_countString s c w) (hnext β w _ H (.refl _ _ _) (.int _ _))
    · cases hc
theorem compare_told (hf : P.funcs[f]? = some fn) (hname : (fn.name == "runtime.NumGoroutine") = false) (hb : fn.body.isNone = true) (hn : Extern.findNext fn = none) (he : Extern.find fn = some Extern.BytealgCompare.compare) : ToldOk P gl f spCompare :=
  told_of fun args args' h h2 v β w hc hl H o a' next Q hnext => by
    unfold spCompare at hc
    split at hc
    · rename_i s t
      simp only [Option.some.injEq, Prod.mk.injEq] at hc
      obtain ⟨rfl, rfl⟩ := hc
      obtain ⟨x', y', rfl, hx, hy⟩ := two_args hl
      rw [hx.string_inv, hy.string_inv]
      exact told_extern hf hname hb hn he (Lib.run_compareString s t w) (hnext β w _ H (.refl _ _ _) (by rw [vint_eq]; exact .int _ _))
    · cases hc
theorem find_told (hent : Enters P f) (hcalls : ∀ (a : Option Addr) (len cap : Nat) (zs : Nat → find.Kv) (key : ByteArray) (w : World), len ≤ 1152921504606846976 → find.Holds w.heap.size w a len cap zs →
    Calls P f #[.slice a len cap, .string key] w fun e W' => e = .returned (.tuple #[.string (find.findV (find.findK zs key len)), .bool (find.findK zs key len).isSome]) ∧ Below w.heap.size w W') : ToldOk P gl f spFind :=
  told_of fun args args' h h2 v β w hc hl H o a' next Q hnext => by
    have key : ∀ (a : Option Addr) (len cap : Nat) (zs : Nat → find.Kv) (s : ByteArray), args' = [.slice a len cap, .string s] → len ≤ 1152921504606846976 → find.Holds w.heap.size w a len cap zs → v = found_ (find.findK zs s len) → h2 = h → o.upon P a' next Q ((callFunc f args'.toArray).run P w) := by
      intro a len cap zs s e1 e2 e3 e4 e5
      subst e1 e4 e5
      rw [show (callFunc f [Value.slice a len cap, .string s].toArray).run P w = .ok (.enter f [Value.slice a len cap, .string s].toArray) w from hent _ w]
      show Calls P f #[.slice a len cap, .string s] w _
      refine (hcalls a len cap zs s w e2 e3).mono ?_
      rintro e w2 ⟨rfl, hB⟩
      exact hnext β w2 _ (H.below hB) (St.below hB) (found_eq _)
    unfold spFind at hc
    split at hc
    · rename_i s
      simp only [Option.some.injEq, Prod.mk.injEq] at hc
      obtain ⟨rfl, rfl⟩ := hc
      obtain ⟨x', y', rfl, hx, hy⟩ := two_args hl
      refine key none 0 0 (fun _ => (⟨#[]⟩, ⟨#[]⟩)) s ?_ (by omega) (.inl ⟨rfl, rfl, rfl⟩) rfl rfl
      rw [hx.nilSlice_inv, hy.string_inv]
    · rename_i ad n c s
      split at hc
      · rename_i cs hle hld
        cases hz : kvs_ cs with
        | none => rw [hz] at hc; cases hc
        | some zs =>
          rw [hz] at hc
          simp only [Option.some.injEq, Prod.mk.injEq] at hc
          obtain ⟨rfl, rfl⟩ := hc
          obtain ⟨x', y', rfl, hx, hy⟩ := two_args hl
          obtain ⟨i, _, hi, rfl⟩ := hx.slice_inv
          obtain ⟨hlen, hget⟩ := kvs_get hz
          have hcl := (loadCells_run H hld hi).choose_spec.2.2
          have hn : zs.length = n := by omega
          have hle := Nat.le_of_ble_eq_true hle
          have hzs : (List.range n).map (fun j => zs.getD j (⟨#[]⟩, ⟨#[]⟩)) = zs := by
            rw [← hn]
            apply List.ext_getElem
            · simp
            · intro j q1 q2
              simp [List.getD_eq_getElem?_getD, q2]
          have hcell : ∀ j x, cs[j]? = some (.string x) → w.cell? ⟨i.blk, i.off + ad.off + j, none⟩ = some (.string x) := fun j x hx => by
            obtain ⟨y, q1, q2⟩ := load_cells H hld hi j _ hx
            rw [q1, q2.string_inv]
          have hK : find.Holds w.heap.size w (some ⟨i.blk, i.off + ad.off, none⟩) n (c + i.ex) (fun j => zs.getD j (⟨#[]⟩, ⟨#[]⟩)) := by
            refine .inr ⟨_, _, rfl, fun h0 => ?_, fun j hj => ?_⟩
            · have q1 := hcell 0 _ (by simpa using (hget 0 (by omega)).1)
              have q2 : w.heap[i.blk]? ≠ none := by
                intro e
                simp [World.cell?, e] at q1
              rcases Nat.lt_or_ge i.blk w.heap.size with q3 | q3
              · exact q3
              · exact absurd (Array.getElem?_eq_none q3) q2
            · obtain ⟨q1, q2⟩ := hget j (by omega)
              exact ⟨hcell _ _ q1, hcell _ _ q2⟩
          have hv := findR_eq (key := s) (zs := fun j => zs.getD j (⟨#[]⟩, ⟨#[]⟩)) n
          rw [hzs] at hv
          exact key _ n _ _ s (by rw [hy.string_inv]) (by omega) hK (by rw [hv]) rfl
      · cases hc
    · cases hc
end
def sp : Sp := fun f =>
  bif Nat.beq f 60 then some spFind
  else bif Nat.beq f 190 then some spIndexByte
  else bif Nat.beq f 217 then some spCount
  else bif Nat.beq f 158 then some spCompare
  else none
theorem t_find : ToldOk Tryz.prog Tryz.prog.globals.size 60 spFind := by with_reducible exact (find_told (P := Tryz.prog) (gl := Tryz.prog.globals.size) (enters_of Tryz.func60 (by kernel_rfl) rfl) find.Find_calls')
theorem t_index : ToldOk Tryz.prog Tryz.prog.globals.size 190 spIndexByte := by with_reducible exact (index_told Tryz.func190 (by kernel_rfl) (by kernel_rfl) (by kernel_rfl) (by kernel_rfl))
theorem t_count : ToldOk Tryz.prog Tryz.prog.globals.size 217 spCount := by with_reducible exact (count_told Tryz.func217 (by kernel_rfl) (by kernel_rfl) (by kernel_rfl) (by kernel_rfl))
theorem t_compare : ToldOk Tryz.prog Tryz.prog.globals.size 158 spCompare := by with_reducible exact (compare_told Tryz.func158 (by kernel_rfl) (by kernel_rfl) (by kernel_rfl) (by kernel_rfl))
theorem sp_ok : CallOk Tryz.prog (spCall sp) Tryz.prog.globals.size := by
  unfold sp
  with_reducible exact (told_cons t_find (told_cons t_index (told_cons t_count (told_cons t_compare told_nil))))
end Go.Proofs.YtkldmbgeldgfhaaGreatDoor
