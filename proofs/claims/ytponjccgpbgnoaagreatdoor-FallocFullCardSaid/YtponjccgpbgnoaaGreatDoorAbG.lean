/- The evaluator's operations on values beside the machine's. -/
import Derived.Test.YtponjccgpbgnoaaGreatDoorAbB
import Derived.Laws.Strings
import Derived.Laws.BytesArg
import Derived.IntWalk
import Derived.Laws.Append
set_option linter.unusedVariables false
set_option linter.unusedSimpArgs false
set_option linter.unusedSectionVars false
open Option.some renaming injEq→zA
open Int renaming ofNat→zB,ofNat_eq_natCast→zN
open Prod.mk renaming injEq→zC
open Nat renaming le_of_ble_eq_true→zD,beq→zE,eq_of_beq_eq_true→zF,ble→zG,add_assoc→zH,blt→zI,add_zero→zL,lt_or_ge→zP,lt_of_lt_of_le→zS,lt_succ_self→zT,le_refl→zV,beq_refl→zY,add_mul→yA,le_add_right→yC,min_self→yD,eq_zero_or_pos→yF,ble_eq_true_of_le→yG
open Bool renaming false_eq_true→zJ,eq_false_iff→zZ,not_false→yE
open Array renaming range→zK,ext'→zR,length_toList→zW,size_append→yH
open List renaming length_append→zM,eq_nil_of_length_eq_zero→zO,extract_eq_take_drop→yB
open Option renaming map_some→zQ
open Go.IntWalk renaming i64_in→zU
namespace Go.Proofs.YtponjccgpbgnoaaGreatDoor
open Go Go.RowKit
theorem bin_form{op:BinOp}{x y z:Value}(h:bin_ op x y=some z):(∃k a k' b,x=.int k a∧y=.int k' b)∨(∃a b,x=.string a∧y=.string b)∨
  (∃c m,0<m∧c / 512=m∧op=.rem∧x=.complex .f64 0 c∧y=.int .u8 (.ofNat m)∧z=.int .u8 (.ofNat (c % 512)))∨
  (∃c m,0<m∧c / 512=m∧op=.rem∧x=.complex .f32 0 (c+1)∧y=.int .i64 (.ofNat m)∧z=.int .i64 (.ofNat (c % 512))):=by
 have key:∀(c m:Nat) {u:Value},(bif zE (c / 512) m&&zI 0 m then some u else none)=some z→0<m∧c / 512=m∧z=u:=by
  intro c m u e
  cases hb:(zE (c / 512) m&&zI 0 m)with
  | false=>rw[hb]at e;cases e
  | true=>
   rw[hb]at e
   injection e with e
   simp only[Bool.and_eq_true]at hb
   exact⟨zD hb.2,zF hb.1,e.symm⟩
 unfold bin_ at h
 split at h
 .exact .inl ⟨_,_,_,_,rfl,rfl⟩
 .exact .inr (.inl ⟨_,_,rfl,rfl⟩)
 .rename_i c m
  split at h
  .obtain⟨h1,h2,h3⟩:=key c m h
   exact .inr (.inr (.inl ⟨c,m,h1,h2,rfl,rfl,rfl,h3⟩))
  .cases h
 .rename_i c m
  split at h
  .obtain⟨h1,h2,h3⟩:=key c m h
   exact .inr (.inr (.inr ⟨c,m,h1,h2,rfl,rfl,rfl,h3⟩))
  .cases h
 .cases h
theorem VR.int_inv{β:Bt}{k:IntKind}{n:Int}{v:Value}(h:VR β (.int k n) v):v=.int k n:=by cases h;rfl
theorem VR.string_inv{β:Bt}{s:ByteArray}{v:Value}(h:VR β (.string s) v):v=.string s:=by cases h;rfl
theorem VR.bool_inv{β:Bt}{b:Bool}{v:Value}(h:VR β (.bool b) v):v=.bool b:=by cases h;rfl
theorem VR.agg_inv{β:Bt}{xs:Array Value}{v:Value}(h:VR β (.agg xs) v):∃ys,v=.agg ys∧LR β xs.toList ys.toList:=by
 cases h with
 | agg h1 h2=>exact⟨_,rfl,by simpa using h1,fun i x y hx hy=>h2 i x y (by simpa using hx) (by simpa using hy)⟩
theorem VR.tuple_inv{β:Bt}{xs:Array Value}{v:Value}(h:VR β (.tuple xs) v):∃ys,v=.tuple ys∧LR β xs.toList ys.toList:=by
 cases h with
 | tuple h1 h2=>exact⟨_,rfl,by simpa using h1,fun i x y hx hy=>h2 i x y (by simpa using hx) (by simpa using hy)⟩
theorem VR.of_agg{β:Bt}{xs ys:List Value}(h:LR β xs ys):VR β (.agg ⟨xs⟩) (.agg ⟨ys⟩):=.agg (by simpa using h.1) (fun i x y hx hy=>h.2 i x y (by simpa using hx) (by simpa using hy))
theorem VR.of_tuple{β:Bt}{xs ys:List Value}(h:LR β xs ys):VR β (.tuple ⟨xs⟩) (.tuple ⟨ys⟩):=.tuple (by simpa using h.1) (fun i x y hx hy=>h.2 i x y (by simpa using hx) (by simpa using hy))
theorem VR.ptr_inv{β:Bt}{b o:Nat}{v:Value}(h:VR β (.pointer (some ⟨b,o,none⟩)) v):∃i,β b=some i∧v=.pointer (some ⟨i.blk,i.off+o,none⟩):=by
 cases h with
 | ptr o h=>exact⟨_,h,rfl⟩
theorem VR.slice_inv{β:Bt}{a:Addr}{n c:Nat}{v:Value}(h:VR β (.slice (some a) n c) v):∃i,a=⟨a.block,a.off,none⟩∧β a.block=some i∧v=.slice (some ⟨i.blk,i.off+a.off,none⟩) n (c+i.ex):=by
 cases h with
 | slice o n c h=>exact⟨_,rfl,h,rfl⟩
theorem VR.nilSlice_inv{β:Bt}{n c:Nat}{v:Value}(h:VR β (.slice none n c) v):v=.slice none n c:=by cases h;rfl
theorem bin_run{P:Program}{β:Bt}{op:BinOp}{x y z x' y':Value}(h:bin_ op x y=some z)(hx:VR β x x')(hy:VR β y y')(t:TypeId)(X Y:Operand)(w:World) :
  (do eqGuard op t X Y x' y';binOp op t x' y').run P w=.ok z w∧Bare z:=by
 rcases bin_form h with⟨k,a,k',b,rfl,rfl⟩|⟨a,b,rfl,rfl⟩|⟨c,m,hm,hc,rfl,rfl,rfl,rfl⟩|⟨c,m,hm,hc,rfl,rfl,rfl,rfl⟩
 .rw[hx.int_inv,hy.int_inv]
  have hg:(eqGuard op t X Y (.int k a) (.int k' b)).run P w=.ok () w:=by
   unfold eqGuard
   split<;>rfl
  simp only[Sem.run_bind,hg,Result.andThen_ok]
  by_cases hs:op=.shl∨op=.shr
  .rcases hs with rfl|rfl
   .cases b with
    | ofNat n=>
     simp only[bin_,zA]at h
     subst h
     refine⟨?_,trivial⟩
     have h0:¬((zB n)<0):=by simp
     simp only[binOp,Op.shift,h0,if_false,Sem.run_pure]
     rfl
    | negSucc n=>simp[bin_]at h
   .cases b with
    | ofNat n=>
     simp only[bin_,zA]at h
     subst h
     refine⟨?_,trivial⟩
     have h0:¬((zB n)<0):=by simp
     simp only[binOp,Op.shift,h0,if_false,Sem.run_pure]
     rfl
    | negSucc n=>simp[bin_]at h
  .by_cases hk:k=k'
   .subst hk
    cases op<;>simp only[bin_,decide_true,zA,reduceCtorEq,or_self,or_false,false_or,not_false_eq_true,not_true_eq_false]at h hs
    case quo=>
     by_cases hb:b=0
     .simp[hb]at h
     .simp only[hb,decide_false,zA]at h;subst h;exact⟨by simp[binOp,Op.intDiv,hb],trivial⟩
    case rem=>
     by_cases hb:b=0
     .simp[hb]at h
     .simp only[hb,decide_false,zA]at h;subst h;exact⟨by simp[binOp,Op.intDiv,hb],trivial⟩
    all_goals first
     | (subst h;exact⟨by simp[binOp,Op.intArith,Op.intBits,Op.intCmp],trivial⟩)
     | (exact absurd h (by simp))
   .exfalso
    have hd:decide (k=k')=false:=by simpa using hk
    cases op<;>simp[bin_,hd]at h hs
 .rw[hx.string_inv,hy.string_inv]
  have hg:(eqGuard op t X Y (.string a) (.string b)).run P w=.ok () w:=by
   unfold eqGuard
   split<;>rfl
  simp only[Sem.run_bind,hg,Result.andThen_ok]
  cases op<;>simp only[bin_,reduceCtorEq,zA]at h
  case add=>
   by_cases hs:a.size+b.size≤9223372036854775807
   .simp only[hs,decide_true,zA]at h
    subst h
    refine⟨?_,trivial⟩
    have h0:¬((9223372036854775807:Int)<(a.size:Int)+(b.size:Int)):=by omega
    have he:a++b=⟨⟨a.data.toList++b.data.toList⟩⟩:=by
     apply ByteArray.ext
     apply zR
     simp
    simp[binOp,Op.stringOp,h0,he]
   .simp[hs]at h
  all_goals (subst h;exact⟨by simp[binOp,Op.stringOp,ByteArray.toList_eq],trivial⟩)
 .rw[hy.int_inv]
  cases hx with
  | rest8 c a h1 h2=>
   have hg:(eqGuard .rem t X Y (.int .u8 a) (.int .u8 (.ofNat m))).run P w=.ok () w:=by
    unfold eqGuard
    split<;>rfl
   have hb:¬(zB m=0):=by
    intro e;have:m=0:=by simpa using e
    omega
   refine⟨?_,trivial⟩
   simp only[Sem.run_bind,hg,Result.andThen_ok]
   have e1:(a:Int).tmod (zB m)=zB (c % 512):=by rw[←h1,hc];rfl
   simp only[binOp,Op.intDiv,hb,if_false,Sem.run_pure,e1]
   rfl
 .rw[hy.int_inv]
  cases hx with
  | rest64 c a h1 h2=>
   have hg:(eqGuard .rem t X Y (.int .i64 a) (.int .i64 (.ofNat m))).run P w=.ok () w:=by
    unfold eqGuard
    split<;>rfl
   have hb:¬(zB m=0):=by
    intro e;have:m=0:=by simpa using e
    omega
   refine⟨?_,trivial⟩
   simp only[Sem.run_bind,hg,Result.andThen_ok]
   have e1:(a:Int).tmod (zB m)=zB (c % 512):=by rw[←h1,hc];rfl
   simp only[binOp,Op.intDiv,hb,if_false,Sem.run_pure,e1]
   rfl
theorem un_run{P:Program}{β:Bt}{op:UnOp}{x z x':Value}(h:un_ op x=some z)(hx:VR β x x')(w:World):(Op.unary op x').run P w=.ok z w∧Bare z:=by
 unfold un_ at h
 split at h
 .rw[hx.int_inv];injection h with h;subst h;exact⟨by simp[Op.unary,Op.intArith],trivial⟩
 .rw[hx.bool_inv];injection h with h;subst h;exact⟨by simp[Op.unary],trivial⟩
 .rw[hx.int_inv];injection h with h;subst h;exact⟨by simp[Op.unary,Op.intBits],trivial⟩
 .cases h
section
variable {P:Program} {eqs:List TypeId} (hp:P.types.size<4000)
include hp
theorem zdr{β:Bt}{t:TypeId}{cs cs':List Value}{off:Nat}{v:Value}(h:part_ (Env.of P eqs) t cs off=some v)(hl:LR β cs cs')(w:World) :
  ∃v',(part t ⟨cs'⟩ off).run P w=.ok v' w∧VR β v v':=by
 unfold part_ at h
 cases ha:(Env.of P eqs).agg t with
 | none=>rw[ha]at h;cases h
 | some g=>
  rw[ha]at h
  cases g with
  | true=>
   cases hs:(Env.of P eqs).size t with
   | none=>rw[hs]at h;cases h
   | some n=>
    rw[hs]at h
    simp only at h
    cases hc:lcut cs off n with
    | none=>rw[hc]at h;cases h
    | some c=>
     rw[hc]at h
     injection h with h
     subst h
     obtain⟨h1,rfl,h2⟩:=zav hc
     refine⟨.agg ⟨(cs'.drop off).take n⟩,?_,.of_agg ((hl.drop off).take n)⟩
     simp only[part,Sem.run_bind,run_agg hp ha,Result.andThen_ok,if_true,zak hp hs,Sem.run_pure]
     congr 2
     apply zR
     simp[yB]
  | false=>
   simp only at h
   cases hc:lcut cs off 1 with
   | none=>rw[hc]at h;cases h
   | some c=>
    rw[hc]at h
    have h0:=zaW hc 0 (by omega)
    obtain⟨h1,_,h2⟩:=zav hc
    match c,h2,h,h0 with
    | [x],_,h,h0=>
     injection h with h
     subst h
     have hx:cs[off]?=some x:=by simpa using h0.symm
     obtain⟨y,hy,hR⟩:=hl.get hx
     refine⟨y,?_,hR⟩
     have:(⟨cs'⟩:Array Value)[off]?=some y:=by simpa using hy
     simp[part,run_agg hp ha,this]
theorem index_run{β:Bt}{t:TypeId}{x i v x' i':Value}(h:index_ (Env.of P eqs) t x i=some v)(hx:VR β x x')(hi:VR β i i')(w:World) :
  ∃v',(Instr.index t x' i').run P w=.ok v' w∧VR β v v':=by
 unfold index_ at h
 split at h
 .rename_i n e cs k q hu
  obtain⟨ys,rfl,hl⟩:=hx.agg_inv
  rw[hi.int_inv]
  cases hs:(Env.of P eqs).size e with
  | none=>rw[hs]at h;cases h
  | some s=>
   rw[hs]at h
   cases hb:zI q n with
   | false=>simp[hb]at h
   | true=>
    simp only[hb,cond_true]at h
    obtain⟨v',hr,hR⟩:=zdr hp h hl w
    refine⟨v',?_,hR⟩
    have hlt:q<n:=zS (zT _) (zD hb)
    have h1:0≤(zB q)∧(zB q)<(n:Int):=⟨by simp,by simp;omega⟩
    simp only[Instr.index,asIntOf,Sem.run_bind,Sem.run_pure,Result.andThen_ok,zad hp hu,h1,and_self,if_true,zak hp hs]
    exact hr
 .rename_i s k q hu
  rw[hx.string_inv,hi.int_inv]
  cases hc:lcut s.data.toList q 1 with
  | none=>rw[hc]at h;cases h
  | some c=>
   rw[hc]at h
   have h0:=zaW hc 0 (by omega)
   obtain⟨h1,_,h2⟩:=zav hc
   match c,h2,h,h0 with
   | [b],_,h,h0=>
    injection h with h
    subst h
    refine⟨_,?_,.int _ _⟩
    have hb:s[q]?=some b:=by
     have:s.data.toList[q]?=some b:=by simpa using h0.symm
     have h5:s.data[q]?=some b:=by simpa using this
     obtain⟨hlt,he⟩:=Array.getElem?_eq_some_iff.1 h5
     rw[getElem?_pos s q hlt]
     exact congrArg some he
    simp[Instr.index,asIntOf,zad hp hu,hb]
 .cases h
theorem field_run{β:Bt}{t:TypeId}{x v x':Value}{f:Nat}(h:field_ (Env.of P eqs) t x f=some v)(hx:VR β x x')(w:World) :
  ∃v',(Instr.field t x' f).run P w=.ok v' w∧VR β v v':=by
 unfold field_ at h
 split at h
 .rename_i fs cs hu
  obtain⟨ys,rfl,hl⟩:=hx.agg_inv
  cases hf:fs[f]? with
  | none=>rw[hf]at h;cases h
  | some fd=>
   rw[hf]at h
   obtain⟨v',hr,hR⟩:=zdr hp h hl w
   refine⟨v',?_,hR⟩
   simp only[Instr.field,Sem.run_bind,zad hp hu,Result.andThen_ok,hf,asAgg,Sem.run_pure]
   exact hr
 .cases h
theorem fieldAddr_run{β:Bt}{t:TypeId}{x v x':Value}{f:Nat}(h:zcB (Env.of P eqs) t x f=some v)(hx:VR β x x')(w:World) :
  ∃v',(Instr.fieldAt t x' f).run P w=.ok v' w∧VR β v v':=by
 unfold zcB at h
 split at h
 .rename_i fs b o hu
  obtain⟨i,hi,rfl⟩:=hx.ptr_inv
  cases hf:fs[f]? with
  | none=>rw[hf]at h;cases h
  | some fd=>
   rw[hf]at h
   simp only at h
   cases hs:(Env.of P eqs).size fd.type with
   | none=>rw[hs]at h;cases h
   | some n=>
    rw[hs]at h
    cases n with
    | zero=>cases h
    | succ n=>
     injection h with h
     subst h
     refine⟨.pointer (some ⟨i.blk,i.off+(o+fd.offset),none⟩),?_,.ptr _ hi⟩
     have:(⟨i.blk,i.off+o,none⟩:Addr).add fd.offset=⟨i.blk,i.off+(o+fd.offset),none⟩:=by rw[za9,zH]
     simp[Instr.fieldAt,zad hp hu,hf,Instr.sureAddr,fieldPlace,zak hp hs,this]
 .cases h
theorem indexAddr_run{β:Bt}{t:TypeId}{x i v x' i':Value}(h:zbn (Env.of P eqs) t x i=some v)(hx:VR β x x')(hi:VR β i i')(w:World) :
  ∃v',(Instr.indexAt t x' i').run P w=.ok v' w∧VR β v v':=by
 unfold zbn at h
 split at h
 .rename_i n e b o k q hu
  obtain⟨j,hj,rfl⟩:=hx.ptr_inv
  rw[hi.int_inv]
  cases hs:(Env.of P eqs).size e with
  | none=>rw[hs]at h;cases h
  | some s=>
   rw[hs]at h
   cases hb:zI q n with
   | false=>simp[hb]at h
   | true=>
    simp only[hb,cond_true,zA]at h
    subst h
    have hlt:q<n:=zS (zT _) (zD hb)
    refine⟨.pointer (some ⟨j.blk,j.off+(o+q*s),none⟩),?_,.ptr _ hj⟩
    have:(⟨j.blk,j.off+o,none⟩:Addr).add (q*s)=⟨j.blk,j.off+(o+q*s),none⟩:=by rw[za9,zH]
    simp[Instr.indexAt,asIntOf,zad hp hu,Instr.sureAddr,zak hp hs,this,hlt]
 .rename_i e a n c k q hu
  obtain⟨j,ha,hj,rfl⟩:=hx.slice_inv
  rw[hi.int_inv]
  cases hs:(Env.of P eqs).size e with
  | none=>rw[hs]at h;cases h
  | some s=>
   rw[hs]at h
   cases hb:zI q n with
   | false=>simp[hb]at h
   | true=>
    simp only[hb,cond_true,zA]at h
    subst h
    have hlt:q<n:=zS (zT _) (zD hb)
    refine⟨.pointer (some ⟨j.blk,j.off+(a.off+q*s),none⟩),?_,.ptr _ hj⟩
    have:(⟨j.blk,j.off+a.off,none⟩:Addr).add (q*s)=⟨j.blk,j.off+(a.off+q*s),none⟩:=by rw[za9,zH]
    simp[Instr.indexAt,asIntOf,zad hp hu,zak hp hs,this,hlt]
 .cases h
end
def Does(P:Program)(β:Bt)(h:Hp)(w:World)(s:Sem Value)(v:Value)(h':Hp):Prop:=
 ∃v' w' β',s.run P w=.ok v' w'∧HR P β' h' w'∧St β h w β' h' w'∧VR β' v v'
theorem Does.same{P:Program}{β:Bt}{h:Hp}{w:World}(H:HR P β h w){s:Sem Value}{v v':Value}(hr:s.run P w=.ok v' w)(hv:VR β v v'):Does P β h w s v h:=⟨v',w,β,hr,H,.refl _ _ _,hv⟩
theorem VR.of_addr{β:Bt}{a:Addr}{v x:Value}(h:addr_ v=some a)(hx:VR β v x):∃i,a=⟨a.block,a.off,none⟩∧β a.block=some i∧x=.pointer (some ⟨i.blk,i.off+a.off,none⟩):=by
 unfold addr_ at h
 split at h
 .injection h with h
  subst h
  obtain⟨i,hi,rfl⟩:=hx.ptr_inv
  exact⟨i,rfl,hi,rfl⟩
 .cases h
section
variable {P:Program} {eqs:List TypeId} (hp:P.types.size<4000)
include hp
theorem load_does{β:Bt}{h:Hp}{w:World}(H:HR P β h w){t:TypeId}{a:Addr}{v x x':Value}(ha:addr_ x=some a)(hl:za8 (Env.of P eqs) h t a=some v)(hx:VR β x x'):Does P β h w (Instr.loadAt t x') v h:=by
 obtain⟨i,_,hi,rfl⟩:=VR.of_addr ha hx
 obtain⟨v',hr,hR⟩:=loadVar_run hp H hl hi
 exact .same H (by simp only[Instr.loadAt,Instr.sureAddr,Sem.run_bind,Sem.run_pure,Result.andThen_ok];exact hr) hR
omit hp in
theorem zaR{t:TypeId}{z:Value}(h:(Env.of P eqs).zero t=some z):isAny z=false:=by
 unfold Env.zero at h
 cases hg:(Env.of P eqs).types.get t with
 | none=>rw[hg]at h;cases h
 | some i=>
  rw[hg]at h
  simp only at h
  split at h
  .rename_i cs hz
   cases hb:zdg cs.toList with
   | false=>rw[hb]at h;cases h
   | true=>rw[hb]at h;injection h with h;subst h;rfl
  .rename_i v _ hz
   cases hb:bare_ v with
   | false=>rw[hb]at h;cases h
   | true=>
    rw[hb]at h;injection h with h;subst h
    cases v<;>first|rfl|cases hb
  .cases h
theorem store_run{β:Bt}{h h':Hp}{w:World}(H:HR P β h w){t:TypeId}{a:Addr}{n:Nat}{x x' y y':Value}(ha:addr_ x=some a)(hs:(Env.of P eqs).size t=some n)(hn:y.cells.toList.length=n)
  (hst:zao h a y.cells.toList=some h') (hx:VR β x x') (hy:VR β y y') (hna:isAny y=false):∃w',(Instr.storeAt t x' y').run P w=.ok () w'∧HR P β h' w'∧St β h w β h' w':=by
 obtain⟨i,_,hi,rfl⟩:=VR.of_addr ha hx
 have hc:=hy.cells hna
 obtain⟨w',hr,H',S'⟩:=zbC H hst hi hc
 refine⟨w',?_,H',S'⟩
 have h1:y'.cells.size=n:=by have:=hc.1;simp at this hn;omega
 simp only[Instr.storeAt,Instr.sureAddr,Sem.run_bind,Sem.run_pure,Result.andThen_ok,storeVar,zak hp hs,h1,ne_eq,not_true_eq_false,if_false]
 exact hr
omit hp in
theorem box_does{β:Bt}{h h':Hp}{w:World}(H:HR P β h w){e:TypeId}{a:Addr}{x x':Value}(hn:zat h e x.cells.toList true=some (a,h'))(hx:VR β x x')(hna:isAny x=false):Does P β h w (Instr.box e x') (.pointer (some a)) h':=by
 have hc:=hx.cells hna
 obtain⟨β',H',S',b,rfl,hb⟩:=H.row (l':=x'.cells) hn (fun i u v hu hv=>hc.2 i u v hu (by simpa using hv)) (0,0) (.inl rfl) 0 (fun _=>rfl) (by have:=hc.1;simp at this ⊢;omega) e rfl (fun _=>by have:=hc.1;simp at this ⊢;omega)
 refine⟨.pointer (some ⟨w.heap.size,0,none⟩),_,β',rfl,H',S',?_⟩
 exact .ptr 0 hb
theorem alloc_does{β:Bt}{h h':Hp}{w:World}(H:HR P β h w){e:TypeId}{a:Addr}{z:Value}(hz:(Env.of P eqs).zero e=some z)(hn:zat h e z.cells.toList true=some (a,h')):Does P β h w (Instr.alloc e true (.tuple #[])) (.pointer (some a)) h':=by
 obtain⟨v',w',β',hr,H',S',hR⟩:=box_does H (e:=e) hn ((zbj hp hz).2 β) (zaR hz)
 refine⟨v',w',β',?_,H',S',hR⟩
 simp only[Instr.alloc,Sem.run_bind,zbb hp hz,Result.andThen_ok]
 exact hr
end
theorem foldl_set(off:Nat):∀(l:List Value) (k:Nat) (cs:Array Value),off+k+l.length≤cs.size→
  ((l.zipIdx k).foldl (fun cs (p:Value×Nat)=>cs.setIfInBounds (off+p.2) p.1) cs).toList=cs.toList.take (off+k)++l++cs.toList.drop (off+k+l.length):=by
 intro l
 induction l with
 | nil=>intro k cs _;simp
 | cons x l ih=>
  intro k cs h
  simp only[List.length_cons]at h
  rw[List.zipIdx_cons,List.foldl_cons,ih (k+1) _ (by simp;omega)]
  simp only[Array.toList_setIfInBounds]
  rw[show off+(k+1)=off+k+1 from by omega,show off+k+1+l.length=off+k+(x::l).length from by simp;omega]
  rw[List.take_set,List.drop_set_of_lt (by simp)]
  have hlt:off+k<cs.toList.length:=by simp;omega
  have h1:(cs.toList.take (off+k+1)).set (off+k) x=cs.toList.take (off+k)++[x]:=by
   rw[List.take_succ_eq_append_getElem hlt]
   rw[List.set_append_right _ _ (by simp;omega)]
   congr 1
   have:off+k-(List.take (off+k) cs.toList).length=0:=by simp;omega
   rw[this];rfl
  rw[h1]
  simp
theorem LR.splice{β:Bt}{a b xs ys:List Value}(h:LR β a b)(k:LR β xs ys)(n:Nat):LR β (a.take n++xs++a.drop (n+xs.length)) (b.take n++ys++b.drop (n+ys.length)):=by
 rw[k.1]
 exact((h.take n).append k).append (h.drop _)
def PR(β:Bt)(l l':List (Nat×Value)):Prop:=l.length=l'.length∧∀(i:Nat) (p q:Nat×Value),l[i]?=some p→l'[i]?=some q→p.1=q.1∧VR β p.2 q.2
theorem zdw{β:Bt}{place place':Nat→Option (Nat×Nat)}(hpl:∀i p,place i=some p→place' i=some p):∀ {parts parts':List (Nat×Value)} {cs r:List Value} {cs':Array Value},
  fill_ place cs parts=some r→LR β cs cs'.toList→PR β parts parts'→∃r':Array Value,Instr.fill place' cs' parts'=some r'∧LR β r r'.toList:=by
 intro parts
 induction parts with
 | nil=>
  intro parts' cs r cs' h hl hpr
  have:parts'=[]:=zO hpr.1.symm
  subst this
  simp only[fill_,zA]at h
  subst h
  exact⟨cs',rfl,hl⟩
 | cons p parts ih=>
  intro parts' cs r cs' h hl hpr
  cases parts' with
  | nil=>exact absurd hpr.1 (by simp)
  | cons q parts'=>
   obtain⟨i,v⟩:=p
   obtain⟨j,u⟩:=q
   obtain⟨hij,hv⟩:=hpr.2 0 _ _ rfl rfl
   simp only at hij hv
   subst hij
   simp only[fill_]at h
   cases hp:place i with
   | none=>rw[hp]at h;cases h
   | some os=>
    obtain⟨off,size⟩:=os
    rw[hp]at h
    simp only at h
    cases hb:(zE v.cells.toList.length size&&!isAny v)with
    | false=>rw[hb]at h;cases h
    | true=>
     rw[hb,cond_true]at h
     obtain⟨hb,hna⟩:=Bool.and_eq_true_iff.1 hb
     have hna:isAny v=false:=by simpa using hna
     have hsz:v.cells.toList.length=size:=zF hb
     cases hput:zaz cs v.cells.toList off with
     | none=>rw[hput]at h;cases h
     | some cs1=>
      rw[hput]at h
      simp only at h
      obtain⟨hfit,rfl⟩:=zbk hput
      have hc:=hv.cells hna
      have h1:u.cells.size=size:=by have:=hc.1;simp at this hsz;omega
      have h2:cs.length=cs'.size:=by have:=hl.1;simpa using this
      have hfold:=foldl_set off u.cells.toList 0 cs' (by simp at hfit hsz ⊢;omega)
      simp only[zL]at hfold
      have hfold2:(u.cells.zipIdx.foldl (fun cs (p:Value×Nat)=>cs.setIfInBounds (off+p.2) p.1) cs').toList=cs'.toList.take off++u.cells.toList++cs'.toList.drop (off+u.cells.toList.length):=by
       rw[←hfold,←Array.foldl_toList,Array.toList_zipIdx]
      obtain⟨r',hr',hR⟩:=ih (parts':=parts') (cs':=u.cells.zipIdx.foldl (fun cs (p:Value×Nat)=>cs.setIfInBounds (off+p.2) p.1) cs') h (by rw[hfold2];exact hl.splice hc off)
       ⟨by have:=hpr.1;simpa using this,fun k a b ha hb'=>hpr.2 (k+1) a b (by simpa using ha) (by simpa using hb')⟩
      refine⟨r',?_,hR⟩
      have h3:¬(off+u.cells.size>cs'.size):=by simp at hfit hsz;omega
      simp only[Instr.fill,hpl _ _ hp,h1,ne_eq,not_true_eq_false,decide_false,Bool.false_or]
      rw[h1]at h3
      simp only[h3,decide_false,zJ,if_false]
      exact hr'
theorem rep_get{α:Type}(z:List α):∀(n i:Nat),i<n*z.length→(rep_ z n)[i]?=z[i % z.length]?:=by
 intro n
 induction n with
 | zero=>intro i h;simp at h
 | succ n ih=>
  intro i h
  simp only[rep_]
  rcases zP i z.length with hi|hi
  .rw[List.getElem?_append_left hi,Nat.mod_eq_of_lt hi]
  .have h0:0<z.length:=by
    rcases yF z.length with h1|h1
    .rw[h1]at h;simp at h
    .exact h1
   rw[List.getElem?_append_right hi,ih _ (by rw[Nat.succ_mul]at h;omega)]
   congr 1
   exact(Nat.mod_eq_sub_mod hi).symm
theorem zbI{α:Type}(z:List α):∀n,(rep_ z n).length=n*z.length:=by
 intro n
 induction n with
 | zero=>simp[rep_]
 | succ n ih=>simp only[rep_,zM,ih,Nat.succ_mul];omega
theorem zcW(z:Array Value)(n m:Nat)(hm:m=n*z.size):((zK m).map (z[· % z.size]!)).toList=rep_ z.toList n:=by
 subst hm
 apply List.ext_getElem?
 intro i
 by_cases hi:i<n*z.size
 .have h0:0<z.size:=by
   rcases yF z.size with h1|h1
   .rw[h1]at hi;simp at hi
   .exact h1
  have hlt:=Nat.mod_lt i h0
  rw[rep_get _ _ _ (by simpa using hi)]
  simp[hi,hlt]
 .rw[List.getElem?_eq_none (by simp;omega),List.getElem?_eq_none (by rw[zbI];simp;omega)]
theorem LR.rep{β:Bt}{z:List Value}(h:LR β z z):∀n,LR β (rep_ z n) (rep_ z n):=by
 intro n
 induction n with
 | zero=>exact LR.nil β
 | succ n ih=>exact h.append ih
section
variable {P:Program} {eqs:List TypeId} (hp:P.types.size<4000)
include hp
theorem places_run:∀ {fs:List Field} {pl:List (Nat×Nat)},zcY (Env.of P eqs) fs=some pl→∀w,(fs.mapM (fun(f:Field)=>(do pure (f.offset,←sizeOf f.type):Sem (Nat×Nat)))).run P w=.ok pl w:=by
 intro fs
 induction fs with
 | nil=>intro pl h w;simp only[zcY,zA]at h;subst h;rfl
 | cons f fs ih=>
  intro pl h w
  simp only[zcY]at h
  cases hs:(Env.of P eqs).size f.type with
  | none=>rw[hs]at h;cases h
  | some s=>
   cases hq:zcY (Env.of P eqs) fs with
   | none=>rw[hs,hq]at h;cases h
   | some r=>
    rw[hs,hq]at h
    injection h with h
    subst h
    have:=ih hq w
    rw[List.mapM_cons]
    simp only[Sem.run_bind,zak hp hs,Result.andThen_ok,Sem.run_pure,this]
theorem build_does{β:Bt}{h:Hp}{w:World}(H:HR P β h w){t:TypeId}{parts:List (Nat×Value)}{parts':Array (Nat×Value)}{v:Value}(hb:build_ (Env.of P eqs) t parts=some v)(hpr:PR β parts parts'.toList):Does P β h w (Instr.build t parts') v h:=by
 unfold build_ at hb
 split at hb
 .rename_i z fields hz hu
  cases hq:zcY (Env.of P eqs) fields.toList with
  | none=>rw[hq]at hb;cases hb
  | some pl=>
   rw[hq]at hb
   simp only at hb
   cases hf:fill_ (fun i=>pl[i]?) z.cells.toList parts with
   | none=>rw[hf]at hb;cases hb
   | some c=>
    rw[hf]at hb
    injection hb with hb
    subst hb
    have hzc:=((zbj hp hz).2 β).cells (zaR hz)
    obtain⟨r',hr',hR⟩:=zdw (place':=fun i=>pl.toArray[i]?) (fun i p hp'=>by simpa using hp') hf hzc hpr
    refine .same H (v':=.agg r') ?_ (by have:=VR.of_agg hR;simpa using this)
    have hm:=places_run hp hq w
    simp only[Instr.build,Sem.run_bind,zbb hp hz,zad hp hu,Result.andThen_ok,Array.mapM_eq_mapM_toList,Sem.run_map,hm]
    rw[hr']
    rfl
 .rename_i z n e hz hu
  cases hs:(Env.of P eqs).size e with
  | none=>rw[hs]at hb;cases hb
  | some s=>
   rw[hs]at hb
   simp only at hb
   cases hf:fill_ (fun i=>some (i*s,s)) z.cells.toList parts with
   | none=>rw[hf]at hb;cases hb
   | some c=>
    rw[hf]at hb
    injection hb with hb
    subst hb
    have hzc:=((zbj hp hz).2 β).cells (zaR hz)
    obtain⟨r',hr',hR⟩:=zdw (place':=fun i=>some (i*s,s)) (fun i p hp'=>hp') hf hzc hpr
    refine .same H (v':=.agg r') ?_ (by have:=VR.of_agg hR;simpa using this)
    simp only[Instr.build,Sem.run_bind,zbb hp hz,zad hp hu,Result.andThen_ok,zak hp hs]
    rw[hr']
    rfl
 .cases hb
theorem buildSlice_does{β:Bt}{h h':Hp}{w:World}(H:HR P β h w){t:TypeId}{len:Nat}{parts:List (Nat×Value)}{parts':Array (Nat×Value)}{v:Value}(hb:zbB (Env.of P eqs) t len parts h=some (v,h'))(hpr:PR β parts parts'.toList):Does P β h w (Instr.buildSlice t len parts') v h':=by
 unfold zbB at hb
 split at hb
 .rename_i e hu
  split at hb
  .rename_i s z hs hz
   cases hc:(zG (len*s) 16777216&&zE z.cells.toList.length s)with
   | false=>rw[hc]at hb;cases hb
   | true=>
    rw[hc,cond_true]at hb
    obtain⟨hc1,hc2⟩:=Bool.and_eq_true_iff.1 hc
    have hle:=zD hc1
    have hzs:z.cells.toList.length=s:=zF hc2
    cases hf:fill_ (fun i=>some (i*s,s)) (rep_ z.cells.toList len) parts with
    | none=>rw[hf]at hb;cases hb
    | some c=>
     rw[hf]at hb
     simp only at hb
     cases hn:zat h e c true with
     | none=>rw[hn]at hb;cases hb
     | some q=>
      obtain⟨a,h2⟩:=q
      rw[hn]at hb
      simp only[zA,zC]at hb
      obtain⟨rfl,rfl⟩:=hb
      have hzR:=(zbj hp hz).2 β
      have hzc:=hzR.cells (zaR hz)
      by_cases h0:len*s=0
      .have hrep:rep_ z.cells.toList len=[]:=zO (by rw[zbI,hzs];exact h0)
       rw[hrep]at hf
       obtain⟨r',hr',hR⟩:=zdw (β:=β) (cs':=(zK (len*s)).map ((#[]:Array Value)[· % (#[]:Array Value).size]!)) (place':=fun i=>some (i*s,s)) (fun i p hp'=>hp') hf (by rw[h0];simpa using LR.nil β) hpr
       obtain⟨β',H',S',b,rfl,hb⟩:=H.row (l':=r') hn (fun i u v hu hv=>hR.2 i u v hu (by simpa using hv)) (0,0) (.inl rfl) 0 (fun _=>rfl) (by have:=hR.1;simp at this ⊢;omega) e rfl (fun _=>by have:=hR.1;simp at this ⊢;omega)
       refine⟨.slice (some ⟨w.heap.size,0,none⟩) len len,_,β',?_,H',S',.slice 0 len len hb⟩
       have hle':¬(len*s>2 ^ 24):=by omega
       simp only[Instr.buildSlice,Sem.run_bind,zad hp hu,Result.andThen_ok,zak hp hs,hle',if_false]
       rw[if_pos h0]
       simp only[Sem.run_bind,Sem.run_pure,Result.andThen_ok]
       rw[hr']
       rfl
      .obtain⟨r',hr',hR⟩:=zdw (β:=β) (cs':=(zK (len*s)).map (z.cells[· % z.cells.size]!)) (place':=fun i=>some (i*s,s)) (fun i p hp'=>hp') hf (by rw[zcW z.cells len _ (by simp at hzs;rw[hzs])];exact hzc.rep len) hpr
       obtain⟨β',H',S',b,rfl,hb⟩:=H.row (l':=r') hn (fun i u v hu hv=>hR.2 i u v hu (by simpa using hv)) (0,0) (.inl rfl) 0 (fun _=>rfl) (by have:=hR.1;simp at this ⊢;omega) e rfl (fun _=>by have:=hR.1;simp at this ⊢;omega)
       refine⟨.slice (some ⟨w.heap.size,0,none⟩) len len,_,β',?_,H',S',.slice 0 len len hb⟩
       have hle':¬(len*s>2 ^ 24):=by omega
       simp only[Instr.buildSlice,Sem.run_bind,zad hp hu,Result.andThen_ok,zak hp hs,hle',if_false]
       rw[if_neg h0]
       simp only[Sem.run_bind,zbb hp hz,Sem.run_pure,Result.andThen_ok]
       rw[hr']
       rfl
  .cases hb
 .cases hb
theorem makeSlice_does{β:Bt}{h h':Hp}{w:World}(H:HR P β h w){t:TypeId}{l c l' c' v:Value}(hm:zbU (Env.of P eqs) t l c h=some (v,h'))(hl:VR β l l')(hc:VR β c c'):Does P β h w (Instr.makeSlice t l' c') v h':=by
 unfold zbU at hm
 split at hm
 .rename_i e k1 n k2 m hu
  rw[hl.int_inv,hc.int_inv]
  split at hm
  .rename_i s b z hs hby hz
   cases hcc:(zG n m&&zG (m*b) 140737488355328&&zG m 9223372036854775807&&zE z.cells.toList.length s)with
   | false=>rw[hcc]at hm;cases hm
   | true=>
    rw[hcc,cond_true]at hm
    simp only[Bool.and_eq_true]at hcc
    obtain⟨⟨⟨q1,q2⟩,q3⟩,q4⟩:=hcc
    have e1:=zD q1
    have e2:=zD q2
    have e3:=zD q3
    have hzs:z.cells.toList.length=s:=zF q4
    cases hn:zat h e (rep_ z.cells.toList m) true with
    | none=>rw[hn]at hm;cases hm
    | some q=>
     obtain⟨a,h2⟩:=q
     rw[hn]at hm
     simp only[zA,zC]at hm
     obtain⟨rfl,rfl⟩:=hm
     have hzc:=((zbj hp hz).2 β).cells (zaR hz)
     obtain⟨i,hi,hib⟩:=env_bytes hp hby
     have w1:IntKind.i64.wrap (zB n)=zB n:=zU _ (by simp only[zN];omega)
     have w2:IntKind.i64.wrap (zB m)=zB m:=zU _ (by simp only[zN];omega)
     have hz2:∀W:World,((if m*s=0 then pure #[]else do pure (←zeroValue e).cells:Sem (Array Value))).run P W=.ok (if m*s=0 then #[]else z.cells) W:=by
      intro W
      by_cases h0:m*s=0
      .rw[if_pos h0,if_pos h0];rfl
      .rw[if_neg h0,if_neg h0];simp only[Sem.run_bind,zbb hp hz,Result.andThen_ok,Sem.run_pure]
     have harr:((zK (m*s)).map ((if m*s=0 then #[]else z.cells)[· % (if m*s=0 then #[]else z.cells).size]!)).toList=rep_ z.cells.toList m:=by
      by_cases h0:m*s=0
      .rw[h0]
       have:rep_ z.cells.toList m=[]:=zO (by rw[zbI,hzs];exact h0)
       rw[this]
       simp
      .simp only[if_neg h0]
       exact zcW z.cells m _ (by simp at hzs;rw[hzs])
     obtain⟨β',H',S',b',rfl,hb⟩:=H.row (l':=((zK (m*s)).map ((if m*s=0 then #[]else z.cells)[· % (if m*s=0 then #[]else z.cells).size]!))) hn
      (fun i u v hu hv=>(hzc.rep m).2 i u v hu (by rw[←harr,Array.getElem?_toList];exact hv)) (0,0) (.inl rfl) 0 (fun _=>rfl) (by rw[zbI,hzs];simp) e rfl (fun _=>by rw[zbI,hzs];simp)
     refine⟨.slice (some ⟨w.heap.size,0,none⟩) n m,_,β',?_,H',S',.slice 0 n m hb⟩
     have t1:(↑b*zB m>(2:Int) ^ 48)=False:=by
      apply eq_false
      have:(b*m:Nat)≤140737488355328:=by rw[Nat.mul_comm];exact e2
      have h3:((b*m:Nat):Int)≤140737488355328:=by omega
      simp only[zN]
      rw[←Int.natCast_mul]
      omega
     simp only[Instr.makeSlice,Sem.run_bind,zad hp hu,Result.andThen_ok,asInt,asIntOf,Sem.run_pure,run_typeInfo w hi,hib,w1,w2,t1,zak hp hs]
     have t2:¬(zB m<0):=by simp
     have t3:¬(zB n<0):=by simp
     have t4:¬(zB n>zB m):=by simp;omega
     simp only[t2,t3,t4,decide_false,Bool.or_self,zJ,or_self,if_false,run_askRoom,Result.andThen_ok]
     have t5:(zB m).toNat=m:=rfl
     have t6:(zB n).toNat=n:=rfl
     simp only[t5,t6,Sem.run_bind,run_askRoom,zak hp hs,Result.andThen_ok]
     by_cases h0:m*s=0
     .simp only[if_pos h0,Sem.run_bind,Sem.run_pure,Result.andThen_ok]
      rfl
     .simp only[if_neg h0,Sem.run_bind,zbb hp hz,Sem.run_pure,Result.andThen_ok]
      rfl
  .cases hm
 .cases hm
theorem makeSlice_runs{w:World}{t e:TypeId}{n m s b:Nat}{k1 k2:IntKind}{z:Value}(hu:(Env.of P eqs).under t=some (.slice e))(hs:(Env.of P eqs).size e=some s)(hby:(Env.of P eqs).bytes e=some b)(hz:(Env.of P eqs).zero e=some z)(e1:n≤m)(e2:m*b≤140737488355328)(e3:m≤9223372036854775807) :
  (Instr.makeSlice t (.int k1 (.ofNat n)) (.int k2 (.ofNat m))).run P w=.ok (.slice (some ⟨w.heap.size,0,none⟩) n m) { w with heap:=w.heap.push (.cells ((zK (m*s)).map ((if m*s=0 then #[]else z.cells)[· % (if m*s=0 then #[]else z.cells).size]!)) e (0,0)) }:=by
 obtain⟨i,hi,hib⟩:=env_bytes hp hby
 have w1:IntKind.i64.wrap (zB n)=zB n:=zU _ (by simp only[zN];omega)
 have w2:IntKind.i64.wrap (zB m)=zB m:=zU _ (by simp only[zN];omega)
 have t1:(↑b*zB m>(2:Int) ^ 48)=False:=by
  apply eq_false
  have:(b*m:Nat)≤140737488355328:=by rw[Nat.mul_comm];exact e2
  have h3:((b*m:Nat):Int)≤140737488355328:=by omega
  simp only[zN]
  rw[←Int.natCast_mul]
  omega
 simp only[Instr.makeSlice,Sem.run_bind,zad hp hu,Result.andThen_ok,asInt,asIntOf,Sem.run_pure,run_typeInfo w hi,hib,w1,w2,t1,zak hp hs]
 have t2:¬(zB m<0):=by simp
 have t3:¬(zB n<0):=by simp
 have t4:¬(zB n>zB m):=by simp;omega
 simp only[t2,t3,t4,decide_false,Bool.or_self,zJ,or_self,if_false,run_askRoom,Result.andThen_ok]
 have t5:(zB m).toNat=m:=rfl
 have t6:(zB n).toNat=n:=rfl
 simp only[t5,t6,Sem.run_bind,run_askRoom,zak hp hs,Result.andThen_ok]
 by_cases h0:m*s=0
 .simp only[if_pos h0,Sem.run_bind,Sem.run_pure,Result.andThen_ok]
  rfl
 .simp only[if_neg h0,Sem.run_bind,zbb hp hz,Sem.run_pure,Result.andThen_ok]
  rfl
theorem buildSlice_runs{w:World}{t e:TypeId}{len s:Nat}{z:Value}{ps:Array (Nat×Value)}{r':Array Value}(hu:(Env.of P eqs).under t=some (.slice e))(hs:(Env.of P eqs).size e=some s)(hz:(Env.of P eqs).zero e=some z)(hle:len*s≤16777216)
  (hr':Instr.fill (fun i=>some (i*s,s)) ((zK (len*s)).map ((if len*s=0 then #[]else z.cells)[· % (if len*s=0 then #[]else z.cells).size]!)) ps.toList=some r') :
  (Instr.buildSlice t len ps).run P w=.ok (.slice (some ⟨w.heap.size,0,none⟩) len len) { w with heap:=w.heap.push (.cells r' e (0,0)) }:=by
 have hle':¬(len*s>2 ^ 24):=by omega
 simp only[Instr.buildSlice,Sem.run_bind,zad hp hu,Result.andThen_ok,zak hp hs,hle',if_false]
 by_cases h0:len*s=0
 .rw[if_pos h0]
  simp only[if_pos h0]at hr'
  simp only[Sem.run_bind,Sem.run_pure,Result.andThen_ok]
  rw[hr']
  rfl
 .rw[if_neg h0]
  simp only[if_neg h0]at hr'
  simp only[Sem.run_bind,zbb hp hz,Sem.run_pure,Result.andThen_ok]
  rw[hr']
  rfl
end
def OR(β:Bt)(x x':Option Value):Prop:=(x=none∧x'=none)∨∃v v',x=some v∧x'=some v'∧VR β v v'
theorem OR.map{β:Bt}{ρ ρ':Operand→Value}(h:∀x,VR β (ρ x) (ρ' x))(x:Option Operand):OR β (x.map ρ) (x.map ρ'):=by
 cases x with
 | none=>exact .inl ⟨rfl,rfl⟩
 | some x=>exact .inr ⟨_,_,rfl,rfl,h x⟩
theorem bound_inv{β:Bt}{x x':Option Value}{d most n:Nat}(h:zbG x d most=some n)(hx:OR β x x'):(x=none∧x'=none∧n=d)∨∃k,x'=some (.int k (zB n))∧n≤most:=by
 unfold zbG at h
 split at h
 .injection h with h
  rcases hx with⟨_,h2⟩|⟨v,v',h1,_⟩
  .exact .inl ⟨rfl,h2,h.symm⟩
  .cases h1
 .rename_i k m
  cases hb:zG m most with
  | false=>rw[hb]at h;cases h
  | true=>
   rw[hb,cond_true]at h
   injection h with h
   subst h
   rcases hx with⟨h1,_⟩|⟨v,v',h1,h2,hv⟩
   .cases h1
   .injection h1 with h1
    subst h1
    rw[hv.int_inv]at h2
    exact .inr ⟨k,h2,zD hb⟩
 .cases h
theorem zbo{P:Program}{β:Bt}{len cap cap' l hv m:Nat}{lo hi mx lo' hi' mx':Option Value}(h:zaU len cap lo hi mx=some (l,hv,m))(hl:OR β lo lo')(hh:OR β hi hi')(hm:OR β mx mx')
  (hc:cap'=cap∨cap≤cap') (isS:Bool) (w:World) :
  (Instr.sliceBounds isS len cap' lo' hi' mx').run P w=.ok (l,hv,if mx=none then cap' else m) w∧l≤hv∧(hi=none→hv=len)∧(hi≠none→hv≤m)∧(mx=none→m=cap)∧m≤cap:=by
 unfold zaU at h
 split at h
 .cases h
 .rename_i hno
  cases hq:zbG mx cap cap with
  | none=>rw[hq]at h;cases h
  | some m1=>
   rw[hq]at h
   simp only at h
   cases hq2:zbG hi len m1 with
   | none=>rw[hq2]at h;cases h
   | some h1=>
    rw[hq2]at h
    simp only at h
    cases hq3:zbG lo 0 h1 with
    | none=>rw[hq3]at h;cases h
    | some l1=>
     rw[hq3]at h
     simp only[zA,zC]at h
     obtain⟨rfl,rfl,rfl⟩:=h
     have r1:=bound_inv hq hm
     have r2:=bound_inv hq2 hh
     have r3:=bound_inv hq3 hl
     have hle:l1≤h1:=by
      rcases r3 with⟨_,_,rfl⟩|⟨_,_,h⟩
      .exact Nat.zero_le _
      .exact h
     rcases r1 with⟨rfl,rfl,rfl⟩|⟨k1,rfl,hm1⟩
     .refine⟨?_,hle,?_,?_,fun _=>rfl,zV _⟩
      .rcases r2 with⟨rfl,rfl,rfl⟩|⟨k2,rfl,hm2⟩
       .rcases r3 with⟨rfl,rfl,rfl⟩|⟨k3,rfl,hm3⟩
        .simp[Instr.sliceBounds]
        .have:(l1:Int)≤(h1:Int):=by omega
         simp[Instr.sliceBounds,Instr.sliceBound,asIntOf,hm3]
       .have hm4:h1≤cap':=by rcases hc with rfl|h<;>omega
        rcases r3 with⟨rfl,rfl,rfl⟩|⟨k3,rfl,hm3⟩
        .simp[Instr.sliceBounds,Instr.sliceBound,asIntOf,hm4]
        .simp[Instr.sliceBounds,Instr.sliceBound,asIntOf,hm4,hm3]
      .intro h
       rcases r2 with⟨_,_,h2⟩|⟨k2,h2,_⟩
       .exact h2
       .rcases hh with⟨_,h3⟩|⟨v,v',h3,_⟩
        .rw[h3]at h2;cases h2
        .rw[h]at h3;cases h3
      .intro h
       rcases r2 with⟨h2,_,_⟩|⟨k2,h2,h3⟩
       .exact absurd h2 h
       .exact h3
     .have hmx:mx≠none:=by
       rcases hm with⟨h1,h2⟩|⟨v,v',h1,_⟩
       .cases h2
       .rw[h1];simp
      have hm1c:m1≤cap':=by rcases hc with rfl|h<;>omega
      rcases r2 with⟨h2,rfl,rfl⟩|⟨k2,rfl,hm2⟩
      .exfalso
       cases mx with
       | none=>exact hmx rfl
       | some v=>exact hno v rfl h2
      .have hhi:hi≠none:=by
        rcases hh with⟨h1,h2⟩|⟨v,v',h1,_⟩
        .cases h2
        .rw[h1];simp
       rw[if_neg hmx]
       refine⟨?_,hle,fun h=>absurd h hhi,fun _=>hm2,fun h=>absurd h hmx,hm1⟩
       rcases r3 with⟨rfl,rfl,rfl⟩|⟨k3,rfl,hm3⟩
       .simp[Instr.sliceBounds,Instr.sliceBound,asIntOf,hm1c,hm2]
       .simp[Instr.sliceBounds,Instr.sliceBound,asIntOf,hm1c,hm2,hm3]
theorem exact_ex{P:Program}{β:Bt}{h:Hp}{w:World}(H:HR P β h w){b:Nat}{i:Info}(he:zaw h b=some true)(hi:β b=some i):i.ex=0:=by
 unfold zaw at he
 cases hg:h.get b with
 | none=>rw[hg]at he;cases he
 | some x=>
  rw[hg]at he
  cases x with
  | cells c e ex ro=>
   simp only[zA]at he
   subst he
   rcases H.ok _ _ _ hg hi with⟨_,_,h1⟩|⟨_,_,_,_,_,_,h4,_⟩
   .cases h1
   .exact(h4 rfl).1
  | map es c=>cases he
  | dead=>cases he
  | view b=>exact(seen_at H hg hi).1
section
variable {P:Program} {eqs:List TypeId} (hp:P.types.size<4000)
include hp
theorem slice_does{β:Bt}{h h':Hp}{w:World}(H:HR P β h w){t:TypeId}{x x' v:Value}{lo hi mx lo' hi' mx':Option Value}(hs:zaE (Env.of P eqs) t x lo hi mx h=some (v,h'))
  (hx:VR β x x') (hl:OR β lo lo') (hh:OR β hi hi') (hm:OR β mx mx'):Does P β h w (Instr.sliceAt t x' lo' hi' mx') v h':=by
 unfold zaE at hs
 split at hs
 .rename_i s hu
  rw[hx.string_inv]
  split at hs
  .rename_i l hv m hb
   cases hc:lcut s.data.toList l (hv-l)with
   | none=>rw[hc]at hs;cases hs
   | some c=>
    rw[hc]at hs
    simp only[zA,zC]at hs
    obtain⟨rfl,rfl⟩:=hs
    have hmx:mx'=none:=by rcases hm with⟨_,h⟩|⟨v,v',h,_⟩;exact h;cases h
    subst hmx
    obtain⟨hr,hle,_⟩:=zbo (P:=P) hb hl hh (.inl ⟨rfl,rfl⟩) (.inl rfl) false w
    rw[if_pos rfl]at hr
    obtain⟨hc1,rfl,hc2⟩:=zav hc
    refine .same H (v':=.string ⟨⟨(s.data.toList.drop l).take (hv-l)⟩⟩) ?_ (.string _)
    have hsz:s.data.toList.length=s.size:=by rw[zW];rfl
    rw[hsz]at hr
    simp only[Instr.sliceAt,Sem.run_bind,zad hp hu,Result.andThen_ok,Instr.slice,Option.isSome_none,zJ,if_false,hr,Sem.run_pure]
    congr 2
    apply ByteArray.ext
    apply zR
    simp[yB]
  .cases hs
 .rename_i e len cap hu
  rw[hx.nilSlice_inv]
  split at hs
  .rename_i sz l hv m hsz hb
   simp only[zA,zC]at hs
   obtain⟨rfl,rfl⟩:=hs
   obtain⟨hr,hle,_,_,hm1,_⟩:=zbo (P:=P) hb hl hh hm (.inl rfl) true w
   have hmm:(if mx=none then cap else m)=m:=by
    split
    .rename_i h;exact(hm1 h).symm
    .rfl
   rw[hmm]at hr
   refine .same H (v':=.slice none (hv-l) (m-l)) ?_ (.nilSlice _ _)
   simp only[Instr.sliceAt,Sem.run_bind,zad hp hu,Result.andThen_ok,Instr.slice,hr,zak hp hsz,Sem.run_pure]
   congr 2
   split<;>rfl
  .cases hs
 .rename_i e a len cap hu
  obtain⟨i,ha,hi,rfl⟩:=hx.slice_inv
  split at hs
  .rename_i sz hsz hex
   have hex0:=exact_ex H hex hi
   split at hs
   .rename_i l hv m hb
    simp only[zA,zC]at hs
    obtain⟨rfl,rfl⟩:=hs
    obtain⟨hr,hle,_,_,hm1,_⟩:=zbo (P:=P) hb hl hh hm (.inl rfl) true w
    have hmm:(if mx=none then cap else m)=m:=by
     split
     .rename_i h;exact(hm1 h).symm
     .rfl
    rw[hmm]at hr
    rw[hex0,zL]
    by_cases hml:m=l
    .subst hml
     refine .same H (v':=.slice (some ⟨i.blk,i.off+a.off,none⟩) (hv-m) (m-m)) ?_ ?_
     .simp only[Instr.sliceAt,Sem.run_bind,zad hp hu,Result.andThen_ok,Instr.slice,hr,zak hp hsz,Sem.run_pure,if_pos]
     .have:zE m m=true:=zY m
      rw[this,cond_true,ha]
      have:=VR.slice a.off (hv-m) (m-m) hi
      rw[hex0]at this
      exact this
    .refine .same H (v':=.slice (some ⟨i.blk,i.off+(a.off+l*sz),none⟩) (hv-l) (m-l)) ?_ ?_
     .simp only[Instr.sliceAt,Sem.run_bind,zad hp hu,Result.andThen_ok,Instr.slice,hr,zak hp hsz,Sem.run_pure,if_neg hml,zQ,za9,zH]
     .have:zE m l=false:=by rw[zZ];intro e;exact hml (zF e)
      rw[this,cond_false]
      have:=VR.slice (a.off+l*sz) (hv-l) (m-l) hi
      rw[hex0]at this
      exact this
   .cases hs
  .rename_i sz hsz hex
   split at hs
   .rename_i l hv m hb
    have hmx:mx'=none:=by rcases hm with⟨_,h⟩|⟨v,v',h,_⟩;exact h;cases h
    subst hmx
    obtain⟨hr,hle,_,_,hm1,_⟩:=zbo (P:=P) (cap':=cap+i.ex) hb hl hh (.inl ⟨rfl,rfl⟩) (.inr (yC _ _)) true w
    rw[if_pos rfl]at hr
    cases hcap:zG hv cap with
    | false=>rw[hcap]at hs;cases hs
    | true=>
     rw[hcap,cond_true]at hs
     have hcap':=zD hcap
     cases hlt:zI l cap with
     | true=>
      rw[hlt,cond_true]at hs
      simp only[zA,zC]at hs
      obtain⟨rfl,rfl⟩:=hs
      have hlt':l<cap:=zS (zT _) (zD hlt)
      refine .same H (v':=.slice (some ⟨i.blk,i.off+(a.off+l*sz),none⟩) (hv-l) (cap+i.ex-l)) ?_ ?_
      .have hml:¬(cap+i.ex=l):=by omega
       simp only[Instr.sliceAt,Sem.run_bind,zad hp hu,Result.andThen_ok,Instr.slice,hr,zak hp hsz,Sem.run_pure,if_neg hml,zQ,za9,zH]
      .rw[show cap+i.ex-l=(cap-l)+i.ex from by omega]
       exact VR.slice (a.off+l*sz) (hv-l) (cap-l) hi
     | false=>
      rw[hlt,cond_false]at hs
      have hge:cap≤l:=by
       rcases zP l cap with h|h
       .have:zI l cap=true:=yG h
        rw[this]at hlt;cases hlt
       .exact h
      simp only[zA,zC]at hs
      obtain⟨rfl,rfl⟩:=hs
      have hlv:hv=l:=by omega
      by_cases hex1:cap+i.ex=l
      .refine .same H (v':=.slice (some ⟨i.blk,i.off+a.off,none⟩) 0 (cap+i.ex-l)) ?_ (.noneLeft _ _)
       simp only[Instr.sliceAt,Sem.run_bind,zad hp hu,Result.andThen_ok,Instr.slice,hr,zak hp hsz,Sem.run_pure,if_pos hex1]
       rw[hlv,Nat.sub_self]
      .refine .same H (v':=.slice (some ⟨i.blk,i.off+(a.off+l*sz),none⟩) 0 (cap+i.ex-l)) ?_ (.noneLeft _ _)
       simp only[Instr.sliceAt,Sem.run_bind,zad hp hu,Result.andThen_ok,Instr.slice,hr,zak hp hsz,Sem.run_pure,if_neg hex1,zQ,za9,zH]
       rw[hlv,Nat.sub_self]
   .rename_i mv _
    split at hs
    .rename_i vb l hv m hgv hb
     cases hvb:zE vb a.block with
     | false=>rw[hvb]at hs;cases hs
     | true=>
      rw[hvb,cond_true]at hs
      have hvb:=zF hvb
      subst hvb
      simp only[zA,zC]at hs
      obtain⟨rfl,rfl⟩:=hs
      obtain⟨jv,hjv⟩:=H.has _ _ hgv
      obtain⟨hex0,j,hj,e1,e2⟩:=seen_at H hgv hjv
      rw[hi]at hj
      injection hj with hj
      subst hj
      obtain⟨hr,hle,_,_,_,_⟩:=zbo (P:=P) (cap':=cap+i.ex) hb hl hh hm (.inr (yC _ _)) true w
      rw[if_neg (by simp)]at hr
      by_cases hml:m=l
      .subst hml
       refine .same H (v':=.slice (some ⟨i.blk,i.off+a.off,none⟩) (hv-m) (m-m)) ?_ ?_
       .simp only[Instr.sliceAt,Sem.run_bind,zad hp hu,Result.andThen_ok,Instr.slice,hr,zak hp hsz,Sem.run_pure,if_pos]
       .have:zE m m=true:=zY m
        rw[this,cond_true,e1,e2]
        have:=VR.slice a.off (hv-m) (m-m) hjv
        rw[hex0]at this
        exact this
      .refine .same H (v':=.slice (some ⟨i.blk,i.off+(a.off+l*sz),none⟩) (hv-l) (m-l)) ?_ ?_
       .simp only[Instr.sliceAt,Sem.run_bind,zad hp hu,Result.andThen_ok,Instr.slice,hr,zak hp hsz,Sem.run_pure,if_neg hml,zQ,za9,zH]
       .have:zE m l=false:=by rw[zZ];intro e;exact hml (zF e)
        rw[this,cond_false,e1,e2]
        have:=VR.slice (a.off+l*sz) (hv-l) (m-l) hjv
        rw[hex0]at this
        exact this
    .cases hs
   .cases hs
  .cases hs
 .rename_i e hu
  split at hs
  .rename_i sz q hsz hb
   obtain⟨l,hv,m⟩:=q
   simp only[zA,zC]at hs
   obtain⟨rfl,rfl⟩:=hs
   have hmx:mx'=none:=by rcases hm with⟨_,h⟩|⟨v,v',h,_⟩;exact h;cases h
   subst hmx
   cases hx with
   | noneLeft a c=>
    obtain⟨hr,hle,h1,h2,hm1,_⟩:=zbo (P:=P) (cap':=c) hb hl hh (.inl ⟨rfl,rfl⟩) (.inr (Nat.zero_le _)) true w
    rw[if_pos rfl]at hr
    have hv0:hv=0:=by
     by_cases e:hi=none
     .exact h1 e
     .have:=h2 e;omega
    have hl0:l=0:=by omega
    subst hv0 hl0
    by_cases hcl:c=0
    .refine .same H (v':=.slice (some a) 0 (c-0)) ?_ (.noneLeft _ _)
     simp only[Instr.sliceAt,Sem.run_bind,zad hp hu,Result.andThen_ok,Instr.slice,hr,zak hp hsz,Sem.run_pure,if_pos hcl]
    .refine .same H (v':=.slice (some (a.add (0*sz))) 0 (c-0)) ?_ (.noneLeft _ _)
     simp only[Instr.sliceAt,Sem.run_bind,zad hp hu,Result.andThen_ok,Instr.slice,hr,zak hp hsz,Sem.run_pure,if_neg hcl,zQ]
  .cases hs
 .rename_i n e b o hu
  obtain⟨i,hi,rfl⟩:=hx.ptr_inv
  split at hs
  .rename_i sz l hv m hsz hb
   split at hs
   .rename_i hex
    have hex0:=exact_ex H hex hi
    simp only[zA,zC]at hs
    obtain⟨rfl,rfl⟩:=hs
    obtain⟨hr,hle,_,_,hm1,_⟩:=zbo (P:=P) hb hl hh hm (.inl rfl) false w
    have hmm:(if mx=none then n else m)=m:=by
     split
     .rename_i h;exact(hm1 h).symm
     .rfl
    rw[hmm]at hr
    by_cases hml:m=l
    .subst hml
     refine .same H (v':=.slice (some ⟨i.blk,i.off+o,none⟩) (hv-m) (m-m)) ?_ ?_
     .simp only[Instr.sliceAt,Sem.run_bind,zad hp hu,Result.andThen_ok,Instr.sureAddr,hr,zak hp hsz,Sem.run_pure,if_pos]
     .have:zE m m=true:=zY m
      rw[this,cond_true]
      have:=VR.slice o (hv-m) (m-m) hi
      rw[hex0]at this
      exact this
    .refine .same H (v':=.slice (some ⟨i.blk,i.off+(o+l*sz),none⟩) (hv-l) (m-l)) ?_ ?_
     .simp only[Instr.sliceAt,Sem.run_bind,zad hp hu,Result.andThen_ok,Instr.sureAddr,hr,zak hp hsz,Sem.run_pure,if_neg hml,za9,zH]
     .have:zE m l=false:=by rw[zZ];intro e;exact hml (zF e)
      rw[this,cond_false]
      have:=VR.slice (o+l*sz) (hv-l) (m-l) hi
      rw[hex0]at this
      exact this
   .split at hs
    .rename_i vb hgv
     cases hvb:zE vb b with
     | false=>rw[hvb]at hs;cases hs
     | true=>
     rw[hvb,cond_true]at hs
     have hvb:=zF hvb
     subst hvb
     simp only[zA,zC]at hs
     obtain⟨rfl,rfl⟩:=hs
     obtain⟨jv,hjv⟩:=H.has _ _ hgv
     obtain⟨hex0,j,hj,e1,e2⟩:=seen_at H hgv hjv
     rw[hi]at hj
     injection hj with hj
     subst hj
     obtain⟨hr,hle,_,_,hm1,_⟩:=zbo (P:=P) hb hl hh hm (.inl rfl) false w
     have hmm:(if mx=none then n else m)=m:=by
      split
      .rename_i h;exact(hm1 h).symm
      .rfl
     rw[hmm]at hr
     by_cases hml:m=l
     .subst hml
      refine .same H (v':=.slice (some ⟨i.blk,i.off+o,none⟩) (hv-m) (m-m)) ?_ ?_
      .simp only[Instr.sliceAt,Sem.run_bind,zad hp hu,Result.andThen_ok,Instr.sureAddr,hr,zak hp hsz,Sem.run_pure,if_pos]
      .have:zE m m=true:=zY m
       rw[this,cond_true,e1,e2]
       have:=VR.slice o (hv-m) (m-m) hjv
       rw[hex0]at this
       exact this
     .refine .same H (v':=.slice (some ⟨i.blk,i.off+(o+l*sz),none⟩) (hv-l) (m-l)) ?_ ?_
      .simp only[Instr.sliceAt,Sem.run_bind,zad hp hu,Result.andThen_ok,Instr.sureAddr,hr,zak hp hsz,Sem.run_pure,if_neg hml,za9,zH]
      .have:zE m l=false:=by rw[zZ];intro e;exact hml (zF e)
       rw[this,cond_false,e1,e2]
       have:=VR.slice (o+l*sz) (hv-l) (m-l) hjv
       rw[hex0]at this
       exact this
    .cases hs
   .cases hs
  .cases hs
 .cases hs
end
theorem zch(b:ByteArray):b.data.toList.length=b.size:=by rw[zW];rfl
theorem zcc{P:Program}{β:Bt}{h:Hp}{w:World}(H:HR P β h w){sz most n:Nat}{x x':Value}{c:List Value}(hn:news_ h sz most x=some (n,c))(hx:VR β x x') :
  (∀W,(Builtin.lenOf x').run P W=.ok (lenV_ x) W)∧n=Nat.min (lenV_ x) most∧c.length=n*sz∧∃c':Array Value,LR β c c'.toList∧∀W:World,W.heap=w.heap→(Builtin.firstCells sz n x').run P W=.ok c' W:=by
 unfold news_ at hn
 split at hn
 .rename_i m k
  rw[hx.nilSlice_inv]
  cases m with
  | succ m=>cases hn
  | zero=>
   simp only[zA,zC]at hn
   obtain⟨rfl,rfl⟩:=hn
   exact⟨fun W=>rfl,(Nat.zero_min _).symm,by simp,#[],LR.nil β,fun W _=>rfl⟩
 .rename_i a m k
  obtain⟨i,ha,hi,rfl⟩:=hx.slice_inv
  cases hl:zaj h a (Nat.min m most*sz)with
  | none=>rw[hl]at hn;cases hn
  | some l=>
   rw[hl]at hn
   simp only[zA,zC]at hn
   obtain⟨rfl,rfl⟩:=hn
   obtain⟨l',hr,hR,hlen⟩:=zbd H hl hi
   exact⟨fun W=>rfl,rfl,hlen,l'.toArray,by simpa using hR,fun W hW=>hr W hW⟩
 .simp only[zA,zC]at hn
  obtain⟨rfl,rfl⟩:=hn
  cases hx with
  | noneLeft a k=>exact⟨fun W=>rfl,(Nat.zero_min _).symm,by simp,#[],LR.nil β,fun W _=>by simp[Builtin.firstCells,loadCells];rfl⟩
 .rename_i b
  rw[hx.string_inv]
  split at hn
  .rename_i l hl
   simp only[zA,zC]at hn
   obtain⟨rfl,rfl⟩:=hn
   obtain⟨h1,rfl⟩:=ltake_some hl
   refine⟨fun W=>?_,rfl,?_,_,LR.refl_bare ?_,fun W _=>?_⟩
   .simp only[Builtin.lenOf,Sem.run_pure,lenV_,zch]
   .simp only[List.length_map,List.length_take];omega
   .intro v hv
    obtain⟨u,_,rfl⟩:=List.mem_map.1 hv
    exact .int _ _
   .simp only[Builtin.firstCells,Sem.run_pure]
    congr 1
    apply zR
    simp[yB]
  .cases hn
 .cases hn
theorem ones_run{β:Bt}{l l':List Value}(h:ones_ l=true)(hl:LR β l l'):∀v∈l',v.oneCell'=true:=by
 intro v hv
 obtain⟨k,hk,rfl⟩:=List.mem_iff_getElem.1 hv
 have hk':k<l.length:=by rw[hl.1];exact hk
 exact(hl.2 k _ _ (List.getElem?_eq_getElem hk') (List.getElem?_eq_getElem hk)).one (ones_all h _ (List.getElem_mem hk'))
section
variable {P:Program} {eqs:List TypeId} (hp:P.types.size<4000)
include hp
theorem zdi{β:Bt}{h h0 h':Hp}{w:World}(H:HR P β h w)(H0:HR P β h0 w)(S0:St β h w β h0 w){t1 t2 e:TypeId}{d2:TypeDesc}{sz by_ n len cap':Nat}{z:Value}{base:Option Addr}{x x':Value}{c l:List Value}{l':Array Value}{a:Addr}
  (hu1:(Env.of P eqs).under t1=some (.slice e)) (hu2:(Env.of P eqs).under t2=some d2) (hd2:∀k,d2≠.int k) (hsz:(Env.of P eqs).size e=some sz) (hby:(Env.of P eqs).bytes e=some by_) (hz:(Env.of P eqs).zero e=some z) (hzs:z.cells.toList.length=sz)
  (hn:news_ h sz (lenV_ x) x=some (n,c)) (hx:VR β x x') (hold:∀W:World,W.heap=w.heap→(Builtin.firstCells sz len (.slice base len cap')).run P W=.ok l' W) (hl:LR β l l'.toList) (hll:l.length=len*sz)
  (hg:cap'<len+n) (hb1:(len+n)*by_≤140737488355328) (hb2:len+n≤9223372036854775807) (hnew:zat h0 e (l++c) false=some (a,h')) (ty:TypeId) :
  Does P β h w (Builtin.append_ #[t1,t2] ty #[.slice base len cap',x']) (.slice (some a) (len+n) (len+n)) h':=by
 obtain⟨hlen,hmin,hcl,c',hcR,hcr⟩:=zcc H hn hx
 have hnn:lenV_ x=n:=by rw[hmin];exact(yD _).symm
 obtain⟨i,hi,hib⟩:=env_bytes hp hby
 obtain⟨i2,hi2,hisz,hcell⟩:=zdx hp hsz
 rw[hi]at hi2
 injection hi2 with hi2
 subst hi2
 let nc:=grownCap w (len+n) cap' e
 have hnc:len+n≤nc:=by show len+n≤grownCap w (len+n) cap' e;unfold grownCap Question.cut;exact yC _ _
 have hrow:∀(W:World),W.heap=w.heap→HR P β h0 W:=fun W hW=>H0.drawn hW
 obtain⟨β',H',S',b,rfl,hb⟩:=(hrow { w with drawn:=w.drawn+1 } rfl).row (l':=l'++c'++Builtin.zeroCells z.cells (nc-(len+n))) hnew
  (fun k u v hu hv=>by
   have hLR:=hl.append hcR
   refine hLR.2 k u v hu ?_
   have hk:k<(l++c).length:=(List.getElem?_eq_some_iff.1 hu).1
   have h1:=hl.1
   have h2:=hcR.1
   simp only[zW]at h1 h2
   rw[←Array.toList_append,Array.getElem?_toList]
   rw[zM]at hk
   rw[Array.getElem?_append_left (by rw[yH];omega)]at hv
   exact hv) (0,0) (.inl rfl) (nc-(len+n)) (fun h=>by cases h)
  (by
   have h1:=hl.1
   have h2:=hcR.1
   simp only[zW]at h1 h2
   have h3:z.cells.size=sz:=by simpa using hzs
   simp only[zM,yH,Builtin.zeroCells,Array.size_map,Array.size_range,hcell,h3]
   omega) e rfl (fun h=>by cases h)
 refine⟨.slice (some ⟨w.heap.size,0,none⟩) (len+n) nc,_,β',?_,H',S0.trans ((St.drawn (w:=w) (w':={ w with drawn:=w.drawn+1 }) rfl rfl rfl rfl).trans S'),?_⟩
 .have hfit:=growslice_fits (old:=cap') (bytes:=by_) hg hb1
  have t1:¬(len+n≤cap'):=by omega
  have t2:¬(((len+n:Nat):Int)>IntKind.i64.max∧i.bytes=0):=by
   rintro⟨h1,_⟩
   simp only[IntKind.max,IntKind.signed,IntKind.bits]at h1
   simp at h1
   omega
  have t3:¬(Builtin.nextslicecap (len+n) cap'*i.bytes>2 ^ 48):=by rw[hib];omega
  have hq:=hcr { w with drawn:=w.drawn+1 } rfl
  have ho:=hold { w with drawn:=w.drawn+1 } rfl
  have hz3:=zbb hp hz
  have hu3:=zad hp hu2 w
  cases d2<;>first|exact absurd rfl (hd2 _)|(
   unfold Builtin.append_
   simp only[List.getElem?_toArray,List.getElem?_cons_zero,List.getElem?_cons_succ,Sem.run_bind,Sem.run_pure,zad hp hu1,hu3,Result.andThen_ok,zak hp hsz,zJ,if_false,hlen,hnn,t1,run_typeInfo w hi,run_typeInfo { w with drawn:=w.drawn+1 } hi,t2,t3,run_choose,Question.forced,run_askRoom,ho,yE,if_true,hq,hz3,false_or]
   rfl)
 .have:=VR.slice 0 (len+n) (len+n) hb
  rw[Nat.zero_add,show(len+n)+(nc-(len+n))=nc from by omega]at this
  exact this
theorem append_here{β:Bt}{h h':Hp}{w w':World}(H:HR P β h w){t1 t2 e:TypeId}{d2:TypeDesc}{sz n len cap':Nat}{ad:Addr}{x x':Value}{c:List Value}
  (hu1:(Env.of P eqs).under t1=some (.slice e)) (hu2:(Env.of P eqs).under t2=some d2) (hd2:∀k,d2≠.int k) (hsz:(Env.of P eqs).size e=some sz)
  (hn:news_ h sz (lenV_ x) x=some (n,c)) (hx:VR β x x') (hg:len+n≤cap') (ty:TypeId)
  (hst:∀c':Array Value,LR β c c'.toList→(∀W:World,W.heap=w.heap→(Builtin.firstCells sz n x').run P W=.ok c' W)→(storeCells (ad.add (len*sz)) c'.toList).run P w=.ok () w') :
  (Builtin.append_ #[t1,t2] ty #[.slice (some ad) len cap',x']).run P w=.ok (.slice (some ad) (len+n) cap') w':=by
 obtain⟨hlen,hmin,hcl,c',hcR,hcr⟩:=zcc H hn hx
 have hnn:lenV_ x=n:=by rw[hmin];exact(yD _).symm
 have hs:=hst c' hcR hcr
 have hq:=hcr w rfl
 have hu3:=zad hp hu2 w
 cases d2<;>first|exact absurd rfl (hd2 _)|(
  unfold Builtin.append_
  simp only[List.getElem?_toArray,List.getElem?_cons_zero,List.getElem?_cons_succ,Sem.run_bind,Sem.run_pure,zad hp hu1,hu3,Result.andThen_ok,zak hp hsz,zJ,if_false,hlen,hnn,hg,yE,if_true,hq,hs])
theorem copy_does{β:Bt}{h h':Hp}{w:World}(H:HR P β h w){t:TypeId}{d s d' s' v:Value}(hc:copy_ (Env.of P eqs) t d s h=some (v,h'))(hd:VR β d d')(hs:VR β s s')(ts:Array TypeId)(ty:TypeId)(ht:ts[0]?=some t):Does P β h w (Builtin.copy_ ts ty #[d',s']) v h':=by
 unfold copy_ at hc
 split at hc
 .rename_i e base len cap hu
  cases hsz:(Env.of P eqs).size e with
  | none=>rw[hsz]at hc;cases hc
  | some sz=>
   rw[hsz]at hc
   simp only at hc
   have hd1:∃base' cap',d'=.slice base' len cap'∧((base=none∧base'=none)∨∃a i,base=some a∧β a.block=some i∧base'=some ⟨i.blk,i.off+a.off,none⟩):=by
    cases base with
    | none=>exact⟨none,cap,hd.nilSlice_inv,.inl ⟨rfl,rfl⟩⟩
    | some a=>obtain⟨i,_,hi,rfl⟩:=hd.slice_inv;exact⟨_,_,rfl,.inr ⟨a,i,rfl,hi,rfl⟩⟩
   obtain⟨base',cap',rfl,hbase⟩:=hd1
   split at hc
   .rename_i c _ _ hn
    simp only[zA,zC]at hc
    obtain⟨rfl,rfl⟩:=hc
    obtain⟨hlen,hmin,hcl,c',hcR,hcr⟩:=zcc H hn hs
    have hq:=hcr w rfl
    have h0:c'.toList=[]:=by
     have h1:=hcR.1
     rw[hcl,Nat.zero_mul]at h1
     exact zO h1.symm
    refine .same H (v':=goNat 0) ?_ (.int _ _)
    unfold Builtin.copy_
    simp only[ht,List.getElem?_toArray,List.getElem?_cons_zero,List.getElem?_cons_succ,Sem.run_bind,zad hp hu,Result.andThen_ok,hlen,zak hp hsz,←hmin,hq,h0]
    cases base'<;>simp[storeCells,goInt,goNat]
   .rename_i n c a hn
    rcases hbase with⟨h1,_⟩|⟨a2,i,h1,hi,rfl⟩
    .cases h1
    .injection h1 with h1
     subst h1
     cases hst:zao h a c with
     | none=>rw[hst]at hc;cases hc
     | some h2=>
      rw[hst]at hc
      simp only[zA,zC]at hc
      obtain⟨rfl,rfl⟩:=hc
      obtain⟨hlen,hmin,hcl,c',hcR,hcr⟩:=zcc H hn hs
      have hq:=hcr w rfl
      obtain⟨w',hr,H',S'⟩:=zbC H hst hi hcR
      refine⟨goNat (n+1),w',β,?_,H',S',.int _ _⟩
      unfold Builtin.copy_
      simp only[ht,List.getElem?_toArray,List.getElem?_cons_zero,List.getElem?_cons_succ,Sem.run_bind,zad hp hu,Result.andThen_ok,hlen,zak hp hsz,←hmin,hq,hr,Sem.run_pure]
      rfl
   .cases hc
 .cases hc
end
theorem HR.kill{P:Program}{β:Bt}{h:Hp}{w:World}(H:HR P β h w){b:Nat}{x:Blk}(hx:h.get b=some x)(hm:x.mine):HR P β (h.put b .dead) w∧St β h w β (h.put b .dead) w:=by
 obtain⟨i,hi⟩:=H.has _ _ hx
 exact⟨H.change hx hi hm (fun _ _ _=>rfl) trivial,⟨.refl _,rfl,rfl,rfl,zV _,fun _ _ _=>rfl,fun k hk=>.inl (own_put H hx hm hk),fun k hk=>.inl (zcH H hx hm hk)⟩⟩
theorem get_block{P:Program}{β:Bt}{h:Hp}{w:World}(H:HR P β h w){a:Addr}{x:Blk}(hg:h.get a.block=some x){i:Info}(hi:β a.block=some i){c:List Value}{e:TypeId}{ex ro:Bool}(hx:x=.cells c e ex ro){n:Nat}{l:List Value}(hl:lcut c a.off n=some l) :
  ∃l':Array Value,LR β l l'.toList∧l.length=n∧∀W:World,W.heap=w.heap→(loadCells ⟨i.blk,i.off+a.off,none⟩ n).run P W=.ok l' W:=by
 subst hx
 have:zaj h a n=some l:=by unfold zaj;rw[hg];exact hl
 obtain⟨l',hr,hR,hlen⟩:=zbd H this hi
 exact⟨l'.toArray,by simpa using hR,hlen,hr⟩
section
variable {P:Program} {eqs:List TypeId} (hp:P.types.size<4000)
include hp
theorem append0_does{β:Bt}{h h':Hp}{w:World}(H:HR P β h w){t1 t2:TypeId}{s x s' x' v:Value}(ha:zaX (Env.of P eqs) t1 t2 s x h=some (v,h'))(hs:VR β s s')(hx:VR β x x')(ty:TypeId) :
  Does P β h w (Builtin.append_ #[t1,t2] ty #[s',x']) v h':=by
 unfold zaX at ha
 split at ha
 .cases ha
 .rename_i e d2 hd2' hu1 hu2
  have hd2:∀k,d2≠.int k:=hd2'
  split at ha
  .rename_i sz by_ z hsz hby hz
   split at ha
   ·
    rename_i n c hn hzs
    have hzs':z.cells.toList.length=sz:=zF hzs
    rw[hs.nilSlice_inv]
    cases n with
    | zero=>
     simp only[zA,zC]at ha
     obtain⟨rfl,rfl⟩:=ha
     obtain⟨hlen,hmin,hcl,c',hcR,hcr⟩:=zcc H hn hx
     have hnn:lenV_ x=0:=by rw[hmin];exact(yD _).symm
     have hu3:=zad hp hu2 w
     have hq:=hcr w rfl
     refine .same H (v':=.slice none 0 0) ?_ (.nilSlice 0 0)
     cases d2<;>first|exact absurd rfl (hd2 _)|(
      unfold Builtin.append_
      simp only[List.getElem?_toArray,List.getElem?_cons_zero,List.getElem?_cons_succ,Sem.run_bind,Sem.run_pure,zad hp hu1,hu3,Result.andThen_ok,zak hp hsz,zJ,if_false,hlen,hnn,zL,zV,yE,if_true,hq])
    | succ n=>
     simp only at ha
     cases hb:(zG ((n+1)*by_) 140737488355328&&zG (n+1) 9223372036854775807)with
     | false=>rw[hb]at ha;cases ha
     | true=>
      rw[hb,cond_true]at ha
      obtain⟨hb1,hb2⟩:=Bool.and_eq_true_iff.1 hb
      cases hnew:zat h e c false with
      | none=>rw[hnew]at ha;cases ha
      | some q=>
       obtain⟨a,h2⟩:=q
       rw[hnew]at ha
       simp only[zA,zC]at ha
       obtain⟨rfl,rfl⟩:=ha
       have:=zdi hp (len:=0) (cap':=0) (base:=none) (l:=[]) (l':=#[]) H H (.refl _ _ _) hu1 hu2 hd2 hsz hby hz hzs' hn hx (fun W _=>rfl) (LR.nil β) (by simp) (by omega) (by have:=zD hb1;simpa using this) (by have:=zD hb2;simpa using this) (by simpa using hnew) ty
       simpa using this
   .rename_i n c ad len cap hn hzs
    have hzs':z.cells.toList.length=sz:=zF hzs
    obtain⟨i,hadr,hi,rfl⟩:=hs.slice_inv
    cases hle:zG (len+n) cap with
    | true=>
     rw[hle,cond_true]at ha
     have hle':=zD hle
     cases n with
     | zero=>
      simp only[zA,zC]at ha
      obtain⟨rfl,rfl⟩:=ha
      refine .same H (append_here hp (h':=h) (w':=w) H hu1 hu2 hd2 hsz hn hx (by omega) ty (fun c' hc' _=>?_)) ?_
      .have hcl:=(zcc H hn hx).2.2.1
       have:c'.toList=[]:=by
        have h1:=hc'.1
        rw[hcl,Nat.zero_mul]at h1
        exact zO h1.symm
       rw[this]
       rfl
      .rw[hadr];exact .slice _ _ _ hi
     | succ n=>
      simp only at ha
      cases hst:zao h (add_ ad (len*sz)) c with
      | none=>rw[hst]at ha;cases ha
      | some h2=>
       rw[hst]at ha
       simp only[zA,zC]at ha
       obtain⟨rfl,rfl⟩:=ha
       obtain⟨_,_,_,c',hcR,hcr⟩:=zcc H hn hx
       obtain⟨w',hr,H',S'⟩:=zbC H hst hi hcR
       refine⟨_,w',β,append_here hp (h':=h) (w':=w') H hu1 hu2 hd2 hsz hn hx (by omega) ty (fun c2 hc2 hcr2=>?_),H',S',?_⟩
       .have e1:=hcr w rfl
        have e2:=hcr2 w rfl
        rw[e1]at e2
        injection e2 with e2
        subst e2
        rw[za9,zH]
        exact hr
       .rw[hadr];exact .slice _ _ _ hi
    | false=>
     rw[hle,cond_false]at ha
     have hgt:cap<len+n:=by
      rcases zP cap (len+n)with h|h
      .exact h
      .rw[yG h]at hle;cases hle
     split at ha
     .rename_i old e' exact_ ro hg
      cases hcut:lcut old ad.off (len*sz)with
      | none=>rw[hcut]at ha;cases ha
      | some l=>
       rw[hcut]at ha
       simp only at ha
       cases hb:(zG ((len+n)*by_) 140737488355328&&zG (len+n) 9223372036854775807)with
       | false=>rw[hb]at ha;cases ha
       | true=>
        rw[hb,cond_true]at ha
        obtain⟨hb1,hb2⟩:=Bool.and_eq_true_iff.1 hb
        have hb1:=zD hb1
        have hb2:=zD hb2
        obtain⟨l',hlR,hll,hlr⟩:=get_block H hg hi rfl hcut
        have hold:∀(cap':Nat) (W:World),W.heap=w.heap→(Builtin.firstCells sz len (.slice (some ⟨i.blk,i.off+ad.off,none⟩) len cap')).run P W=.ok l' W:=fun cap' W hW=>hlr W hW
        split at ha
        ·
         cases hnew:zat h e (l++c) false with
         | none=>rw[hnew]at ha;cases ha
         | some q=>
          obtain⟨a,h2⟩:=q
          rw[hnew]at ha
          simp only[zA,zC]at ha
          obtain⟨rfl,rfl⟩:=ha
          have hex0:i.ex=0:=exact_ex H (b:=ad.block) (by unfold zaw;rw[hg]) hi
          rw[hex0,zL]
          exact zdi hp H H (.refl _ _ _) hu1 hu2 hd2 hsz hby hz hzs' hn hx (hold cap) hlR hll hgt hb1 hb2 hnew ty
        ·
         cases hc3:(zE e' e&&zG (ad.off+cap*sz) old.length)with
         | false=>rw[hc3]at ha;cases ha
         | true=>
          rw[hc3,cond_true]at ha
          obtain⟨he',hroom⟩:=Bool.and_eq_true_iff.1 hc3
          have he':e'=e:=zF he'
          subst he'
          have hroom:=zD hroom
          cases ho:ones_ c with
          | false=>rw[ho]at ha;cases ha
          | true=>
           rw[ho]at ha
           cases hnew:zat (h.put ad.block .dead) e' (l++c) false with
           | none=>rw[hnew]at ha;cases ha
           | some q=>
            obtain⟨a,h2⟩:=q
            rw[hnew]at ha
            simp only[zA,zC]at ha
            obtain⟨rfl,rfl⟩:=ha
            obtain⟨Hk,Sk⟩:=H.kill hg trivial
            rcases zP (cap+i.ex) (len+n)with hlt|hge
            .exact zdi hp H Hk Sk hu1 hu2 hd2 hsz hby hz hzs' hn hx (hold _) hlR hll hlt hb1 hb2 hnew ty
            ·
             obtain⟨_,_,hcl,c',hcR,hcr⟩:=zcc H hn hx
             obtain⟨_,_,_,hcell⟩:=zdx hp hsz
             rcases H.ok _ _ _ hg hi with⟨_,hf,_⟩|⟨cc,e2,fr,hblk,hsize,hv,hexx,hmine⟩
             .cases hf
             .obtain⟨hee,hfr,hroom2⟩:=hmine rfl
              rw[hcell]at hroom2
              have hcutl:=(zav hcut).1
              have hc'l:c'.toList.length=n*sz:=by rw[←hcR.1,hcl]
              have hmul:(len+n)*sz≤(cap+i.ex)*sz:=Nat.mul_le_mul_right _ hge
              rw[yA,yA]at hmul
              have hend:i.off+ad.off+len*sz+n*sz≤cc.size:=by omega
              have hrun:=run_storeCells_cells (P:=P) i.blk (i.off+ad.off+len*sz) c'.toList 0 w (fun j hj=>by
                rw[zL,cell_heap hblk,Array.getElem?_eq_getElem (by rw[hc'l]at hj;omega)];rfl)
               (fun j hj=>by
                rw[hc'l]at hj
                have h3:=hfr.out (i.off+ad.off+len*sz+0+j) (by omega)
                simp only[World.frozen?,hblk]
                simpa using h3) (ones_run ho hcR)
              obtain⟨cc',hb',hsz',hget'⟩:=setCells_heap i.blk c'.toList (i.off+ad.off+len*sz+0) w cc e2 fr hblk
              obtain⟨r1,r2,r3,r4⟩:=setCells_rest i.blk c'.toList (i.off+ad.off+len*sz+0) w
              generalize hw':w.setCells i.blk (i.off+ad.off+len*sz+0) c'.toList=w' at *
              have hoth:∀k,k≠i.blk→w'.heap[k]?=w.heap[k]?:=fun k hk=>by rw[←hw'];exact zcm _ _ _ _ _ hk
              have H1:HR P β (h.put ad.block .dead) w':=H.change hg hi trivial (fun k hk _=>hoth k hk) trivial
              have S1:St β h w β (h.put ad.block .dead) w':=⟨.refl _,r1,r2,r3,by omega,fun k hk hno=>hoth k (fun e=>hno ⟨_,_,_,hg,trivial,hi,e.symm⟩),fun k hk=>.inl (own_put H hg trivial hk),fun k hk=>.inl (zcH H hg trivial hk)⟩
              unfold zat at hnew
              cases hq:(h.put ad.block .dead).new (.cells (l++c) e' false false)with
              | none=>rw[hq]at hnew;cases hnew
              | some q=>
               obtain⟨nb,h3⟩:=q
               rw[hq]at hnew
               simp only[zA,zC]at hnew
               obtain⟨rfl,rfl⟩:=hnew
               let j:Info:=⟨i.blk,i.off+ad.off,cap+i.ex-(len+n)⟩
               have hmul2:(cap+i.ex-(len+n))*sz=(cap*sz+i.ex*sz)-(len*sz+n*sz):=by rw[Nat.sub_mul,yA,yA]
               have hbig:β.le (β.put (h.put ad.block .dead).next j):=H1.le_put j
               have H2:=H1.grow hq j (fun _ _ _ _ _ _=>rfl) (by
                refine .inr ⟨cc',e2,fr,hb',?_,fun k u v hu hv'=>?_,(fun h=>by cases h),fun _=>⟨hee,by rw[hsz'];exact hfr,?_⟩⟩
                .rw[hsz']
                 simp only[zM,hll,hcl]
                 show i.off+ad.off+(len*sz+n*sz)≤cc.size
                 omega
                .refine VR.mono hbig ?_
                 rw[hget']at hv'
                 rcases zP k (len*sz)with hk|hk
                 .rw[List.getElem?_append_left (by rw[hll];exact hk)]at hu
                  rw[if_neg (by rintro⟨h1,_⟩;exact absurd h1 (by show ¬(i.off+ad.off+len*sz+0≤i.off+ad.off+k);omega))]at hv'
                  rw[zaW hcut k hk]at hu
                  exact hv _ _ _ hu (by rw[←zH];exact hv')
                 .have hk2:k<len*sz+n*sz:=by
                   have:=(List.getElem?_eq_some_iff.1 hu).1
                   simp only[zM,hll,hcl]at this
                   exact this
                  rw[List.getElem?_append_right (by rw[hll];exact hk),hll]at hu
                  rw[if_pos (by refine⟨?_,?_,?_⟩<;>(show _;(try rw[hc'l]));all_goals (simp only[j];omega))]at hv'
                  have e3:j.off+k-(i.off+ad.off+len*sz+0)=k-len*sz:=by simp only[j];omega
                  rw[e3]at hv'
                  exact hcR.2 _ _ _ hu hv'
                .rw[hsz',hcell]
                 simp only[zM,hll,hcl]
                 show i.off+ad.off+(len*sz+n*sz)+(cap+i.ex-(len+n))*sz≤cc.size
                 rw[hmul2]
                 omega) (by
                intro _ b y jj hgb hjb hne
                have hlt2:=H.dom _ _ hi
                have hmost:=H.most
                rw[Hp.get_put (by omega)]at hgb
                by_cases hbe:b=ad.block
                .subst hbe
                 rw[if_pos rfl]at hgb
                 injection hgb with hgb
                 subst hgb
                 exact absurd trivial hne
                .rw[if_neg hbe]at hgb
                 exact(show jj.blk≠i.blk from Ne.symm (H.apart _ _ _ _ _ _ hg hgb (Ne.symm hbe) hi hjb trivial hne)))
               refine⟨.slice (some ⟨i.blk,i.off+ad.off,none⟩) (len+n) (cap+i.ex),w',_,append_here hp (h':=h) (w':=w') H hu1 hu2 hd2 hsz hn hx hge ty (fun c2 hc2 hcr2=>?_),H2,⟨hbig,r1,r2,r3,by omega,fun k hk hno=>hoth k (fun e=>hno ⟨_,_,_,hg,trivial,hi,e.symm⟩),fun k hk=>.inl ?_,fun k hk=>.inl ?_⟩,?_⟩
               .have e1:=hcr w rfl
                have e2:=hcr2 w rfl
                rw[e1]at e2
                injection e2 with e2
                subst e2
                rw[za9]
                exact hrun
               .rcases own_grow H1 hq j hk with h5|⟨_,h5⟩
                .exact own_put H hg trivial h5
                .exact⟨_,_,_,hg,trivial,hi,h5⟩
               .rcases zda H1 hq j hk with h5|⟨_,h5⟩
                .exact zcH H hg trivial h5
                .exact⟨_,_,_,hg,zaC trivial,hi,h5⟩
               .obtain⟨hnb,_⟩:=Hp.new_some hq
                rw[hnb]
                have:=VR.slice 0 (len+n) (len+n) (Bt.put_same β (h.put ad.block .dead).next j)
                simp only[j,zL]at this
                rw[show len+n+(cap+i.ex-(len+n))=cap+i.ex from by omega]at this
                exact this
        .cases ha
     .cases ha
   .cases ha
  .cases ha
 .cases ha
omit hp in
theorem sight_does{β:Bt}{h h':Hp}{w:World}(H:HR P β h w){v v2 x:Value}(hs:zdD v h=some (v2,h'))(hv:VR β v x):∃β',HR P β' h' w∧St β h w β' h' w∧VR β' v2 x:=by
 unfold zdD at hs
 split at hs
 .rename_i a n c
  split at hs
  .rename_i he hb
   cases hn:h.new (.view a.block)with
   | none=>rw[hn]at hs;cases hs
   | some q=>
    obtain⟨nb,h2⟩:=q
    rw[hn]at hs
    simp only[zA,zC]at hs
    obtain⟨rfl,rfl⟩:=hs
    obtain⟨i,_,hi,_⟩:=hv.slice_inv
    have hb2:a.block≠h.next:=fun e=>by rw[e,H.new_id]at hi;cases hi
    refine⟨_,H.grow hn ⟨i.blk,i.off,0⟩ (fun _ _ _ _ _ _=>rfl) ⟨rfl,i,by rw[Bt.put_other _ _ hb2];exact hi,rfl,rfl⟩ (fun he=>absurd trivial he),⟨H.le_put _,rfl,rfl,rfl,zV _,fun _ _ _=>rfl,fun k hk=>?_,fun k hk=>?_⟩,hv.mono (H.le_put _)⟩
    .rcases own_grow H hn _ hk with h5|⟨h5,_⟩
     .exact .inl h5
     .exact h5.elim
    .rcases zda H hn _ hk with h5|⟨h5,_⟩
     .exact .inl h5
     .exact absurd trivial h5
  .simp only[zA,zC]at hs
   obtain⟨rfl,rfl⟩:=hs
   exact⟨β,H,.refl _ _ _,hv⟩
 .simp only[zA,zC]at hs
  obtain⟨rfl,rfl⟩:=hs
  exact⟨β,H,.refl _ _ _,hv⟩
theorem append_does{β:Bt}{h h':Hp}{w:World}(H:HR P β h w){t1 t2:TypeId}{s x s' x' v:Value}(ha:append_ (Env.of P eqs) t1 t2 s x h=some (v,h'))(hs:VR β s s')(hx:VR β x x')(ty:TypeId) :
  Does P β h w (Builtin.append_ #[t1,t2] ty #[s',x']) v h':=by
 unfold append_ at ha
 cases h0:zaX (Env.of P eqs) t1 t2 s x h with
 | none=>rw[h0]at ha;cases ha
 | some q=>
  obtain⟨v0,h1⟩:=q
  rw[h0]at ha
  obtain⟨v1,w1,β1,hr,H1,S1,R1⟩:=append0_does hp H h0 hs hx ty
  obtain⟨β2,H2,S2,R2⟩:=sight_does H1 ha R1
  exact⟨v1,w1,β2,hr,H2,S1.trans S2,R2⟩
end
end Go.Proofs.YtponjccgpbgnoaaGreatDoor
