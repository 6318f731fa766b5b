/- strconv.toError at the evaluator's level. -/
import Derived.Test.YtponjccgpbgnoaaGreatDoorDig
import Derived.OwnWalk
set_option linter.unusedVariables false
set_option linter.unusedSimpArgs false
set_option linter.unusedSectionVars false
namespace Go.Proofs.YtponjccgpbgnoaaGreatDoor
open Go Go.Proofs Go.RowKit Go.Shelf
set_option maxHeartbeats 6400000 in
set_option maxRecDepth 100000 in
theorem syn_any{P:Program}{ρ:Ren}(L:Go.Proofs.LaysM.n279 P ρ)(fn s:ByteArray)(ev:Value)(w:World)(hlim:s.size≤281474976710656)(hv:w.cell? ⟨(ρ.g 15),0,none⟩=some ev)(hev:ev.oneCell'=true) :
  Calls P (ρ.f 279) #[.string fn,.string s] w fun e w'=>∃N,e=.returned (.pointer (some ⟨N,0,none⟩))∧w.heap.size≤N∧w'.heap[N]?=some (.cells #[.string fn,.string s,ev] (ρ.t 210) (0,0))∧Below w.heap.size w w':=by
 have mixed:=L.mixed
 have t9:=L.t9;have a9:=L.a9;have z9:=L.z9;have v9:=L.v9
 have t168:=L.t168;have a168:=L.a168;have z168:=L.z168;have v168:=L.v168
 have t75:=L.t75;have a75:=L.a75;have z75:=L.z75;have v75:=L.v75
 have t210:=L.t210;have u210:=run_underlying L.t210;have a210:=L.a210;have z210:=L.z210;have v210:=L.v210
 have e316:∀args w,(callFunc (ρ.f 316) args).run P w=.ok (.enter (ρ.f 316) args) w:=enters_of L.f316 (by kernel_rfl) rfl
 cases ev
 all_goals first
  | (cases hev;done)
  | (
  have hG:(ρ.g 15)<w.heap.size:=Lib.lt_of_cell hv
  have hvd:w.drew.cell? ⟨(ρ.g 15),0,none⟩=some _:=hv
  go_enter L.f279,Body.n279_ntmps ρ
  go_wp2
  go_region_with_o (
    go_at_fn (ρ.f 316)
    refine(Any.stringslite_Clone { L with } s _ hlim).mono ?_
    rintro e w2 ⟨rfl,hbel⟩
    have hv2:w2.cell? ⟨(ρ.g 15),0,none⟩=some _:=(hbel.cell (show(⟨(ρ.g 15),0,none⟩:Addr).block<w.drew.heap.size from hG)).trans hvd)
  all_goals (
   go_wp2
   go_ret
   have hs2:w.heap.size≤w2.heap.size:=hbel.size
   exact⟨_,rfl,hs2,heap_alloc_new w2 _,((Below.drew (Below.refl _ w)).trans hbel).alloc hs2 _⟩))
set_option maxHeartbeats 4000000 in
set_option maxRecDepth 100000 in
theorem toe_any{P:Program}{ρ:Ren}(L:Go.Proofs.LaysC.n245 P ρ)(fn s:ByteArray)(base bits:Int)(ev:Value)(w:World)(hlim:s.size≤281474976710656)(hv:w.cell? ⟨(ρ.g 15),0,none⟩=some ev)(hev:ev.oneCell'=true) :
  Calls P (ρ.f 245) #[.string fn,.string s,.int .i64 base,.int .i64 bits,.iface (ρ.t 167) (.int .i64 2)] w fun e w'=>∃N,e=.returned (.iface (ρ.t 168) (.pointer (some ⟨N,0,none⟩)))∧Below w.heap.size w w':=by
 have mixed:=L.mixed
 have t9:=L.t9;have a9:=L.a9;have z9:=L.z9;have v9:=L.v9
 have t3:=L.t3;have a3:=L.a3;have z3:=L.z3;have v3:=L.v3
 have t75:=L.t75;have a75:=L.a75;have z75:=L.z75;have v75:=L.v75
 have t167:=L.t167;have a167:=L.a167;have z167:=L.z167;have v167:=L.v167
 have t4:=L.t4;have a4:=L.a4;have z4:=L.z4;have v4:=L.v4
 have t168:=L.t168;have a168:=L.a168;have z168:=L.z168;have v168:=L.v168
 have e279:∀args w,(callFunc (ρ.f 279) args).run P w=.ok (.enter (ρ.f 279) args) w:=enters_of L.f279 (by kernel_rfl) rfl
 have heq:∀W,(binOp .eql (ρ.t 75) (.iface (ρ.t 167) (.int .i64 2)) (.iface (ρ.t 167) (.int .i64 2))).run P W=.ok (.bool true) W:=fun W=>Lib.run_eql_iface_int W 2 2 L.t75 L.c167 L.t167
 go_enter L.f245,Body.n245_ntmps ρ
 go_wp2_with (go_at_fn (ρ.f 279);refine(syn_any { L with } fn s ev _ hlim ?_ hev).mono ?_)
 .exact hv
 rintro e w2 ⟨N,rfl,h1,h2,h3⟩
 go_wp2
 go_ret
 exact⟨N,rfl,h3⟩
abbrev ierT:TypeId:=255
abbrev nerT:TypeId:=257
theorem toe_calls(fn s:ByteArray)(base bits:Int)(ev:Value)(w:World)(hlim:s.size≤281474976710656)(hv:w.cell? ⟨Tryz.synG,0,none⟩=some ev)(hev:ev.oneCell'=true) :
  Calls Tryz.prog 186 #[.string fn,.string s,.int .i64 base,.int .i64 bits,.iface ierT (.int .i64 2)] w fun e w'=>∃N,e=.returned (.iface nerT (.pointer (some ⟨N,0,none⟩)))∧Below w.heap.size w w':=
 toe_any Tryz.laysC245 fn s base bits ev w hlim hv hev
def spSynG(h:Hp):Bool:=match h.get Tryz.synG with|some (.cells [.complex .f32 0 0] _ _ _)=>true|_=>false
def spToe(args:List Value)(h:Hp):Option (Value×Hp):=
 match args with
 | [.string fn,.string s,.int .i64 base,.int .i64 bits,.iface t (.int .i64 2)]=>(match Nat.beq t ierT&&(Nat.ble s.data.toList.length 281474976710656&&spSynG h)with
  | true=>some (.iface nerT (.complex .f32 1 0),h)
  | false=>none)
 | _=>none
theorem synG_lt:Tryz.synG<Tryz.prog.globals.size:=of_decide_eq_true (by kernel_rfl)
theorem syn_cell{β:Bt}{h:Hp}{w:World}(H:HR Tryz.prog β h w)(hgb:∀g,g<Tryz.prog.globals.size→β g=some ⟨g,0,0⟩)(hh:spSynG h=true):∃ev,w.cell? ⟨Tryz.synG,0,none⟩=some ev∧ev.oneCell'=true:=by
 unfold spSynG at hh
 split at hh
 .rename_i e x ro h1
  rcases H.ok _ _ _ h1 (hgb _ synG_lt)with⟨h2,_,_⟩|⟨cc,e',fr,k1,k2,k3,_,_⟩
  .cases h2
  .have k2:0+1≤cc.size:=k2
   obtain⟨y,hy⟩:∃y,cc[0+0]?=some y:=⟨_,Array.getElem?_eq_getElem (by omega)⟩
   have hv:=k3 0 _ y rfl hy
   refine⟨y,?_,hv.one rfl⟩
   unfold World.cell?
   simp only at k1
   simp only[k1]
   exact hy
 .cases hh
theorem syn_size{s:ByteArray}{n:Nat}(h:s.data.toList.length≤n):s.size≤n:=by
 rw[Array.length_toList]at h
 exact h
theorem five_args{β:Bt}{a b c d e:Value}{l:List Value}(h:LR β [a,b,c,d,e] l):∃a' b' c' d' e',l=[a',b',c',d',e']∧VR β a a'∧VR β b b'∧VR β c c'∧VR β d d'∧VR β e e':=by
 obtain⟨h1,h2⟩:=h
 match l,h1 with
 | [a',b',c',d',e'],_=>exact⟨a',b',c',d',e',rfl,h2 0 _ _ rfl rfl,h2 1 _ _ rfl rfl,h2 2 _ _ rfl rfl,h2 3 _ _ rfl rfl,h2 4 _ _ rfl rfl⟩
theorem t_toe:ToldOk Tryz.prog Tryz.prog.globals.size 186 spToe:=
 zbH fun args args' h h2 v β w hc hl H hgb=>by
  unfold spToe at hc
  split at hc
  .rename_i fn s base bits t
   split at hc
   .rename_i hh
    simp only[Option.some.injEq,Prod.mk.injEq]at hc
    obtain⟨rfl,rfl⟩:=hc
    rw[Bool.and_eq_true,Bool.and_eq_true]at hh
    obtain⟨ht,hs,hg⟩:=hh
    have ht:=Nat.eq_of_beq_eq_true ht
    subst ht
    obtain⟨a',b',c',d',e',rfl,va,vb,vc,vd,ve⟩:=five_args hl
    rw[va.string_inv,vb.string_inv,vc.int_inv,vd.int_inv]
    obtain rfl:e'=.iface ierT (.int .i64 2):=by
     cases ve with
     | iface _ q=>rw[q.int_inv]
    obtain⟨ev,hv,h1⟩:=syn_cell H hgb hg
    rw[show(callFunc 186 (List.toArray [Value.string fn,.string s,.int .i64 base,.int .i64 bits,.iface ierT (.int .i64 2)])).run Tryz.prog w=.ok (.enter 186 #[.string fn,.string s,.int .i64 base,.int .i64 bits,.iface ierT (.int .i64 2)]) w from(enters_of Tryz.func186 (by kernel_rfl) rfl) _ w]
    refine .inr ⟨_,_,rfl,(toe_calls fn s base bits ev w (syn_size (Nat.le_of_ble_eq_true hs)) hv h1).mono ?_⟩
    rintro e w2 ⟨N,rfl,hB⟩
    exact⟨_,β,rfl,H.below hB,St.below hB,.iface _ (.any _)⟩
   .cases hc
  .cases hc
end Go.Proofs.YtponjccgpbgnoaaGreatDoor
