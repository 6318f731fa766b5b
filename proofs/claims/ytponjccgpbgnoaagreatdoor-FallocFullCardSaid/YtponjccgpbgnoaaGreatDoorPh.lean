/- What is told for stores. -/
import Derived.Test.YtponjccgpbgnoaaGreatDoorAq
set_option linter.unusedVariables false
set_option linter.unusedSimpArgs false
set_option linter.unusedSectionVars false
open Nat renaming le_refl→zA,ble→zE,blt→zG,beq→zH,eq_of_beq_eq_true→zI,zero_le→zJ,zero_add→zK,le_of_ble_eq_true→zL
open Int renaming ofNat→zB,ofNat_eq_natCast→zC
open Bool renaming and_eq_true→zD
open Go.IntWalk renaming i64_in→zF
open List renaming length_singleton→zM
open Option.some renaming injEq→zN
namespace Go.Proofs.YtponjccgpbgnoaaGreatDoor.Se
open Go Go.Proofs.YtponjccgpbgnoaaGreatDoor Go.RowKit
set_option maxRecDepth 1000000
variable [Inhabited QI]
noncomputable def TY:Told:=((((TIm.withF applyF (zan 800000000000000 [] gApply)).withF getIF (zan 500000000000000 [] gGetI)).withF findIF (zaq 500000000000000 gFindI)).withF usedF (zaq 500000000000000 gUsed)).withF hasF (zaq 40000000100000 gHas)
theorem TY_ok{F0:Fz}(hF0:∀b cs t,F0 b=some (cs,t)→t=0):ToldOk F0 env spE TY:=
 za7 (za7 (za7 (zal (zal (TIm_ok hF0) (apply_told hF0)) (getI_told hF0)) (findI_told hF0)) (used_told hF0)) (has_told hF0)
abbrev doF:FuncId:=58
noncomputable def doT(S:Sto)(o:Opn):RT Lf:=fnZ false env TY doF 810000000000000 [.ptr 0 9 true 0 0,.agg (opRow 0 o)] (bsS 0 S)
def rO(o:Opn):RawO:=⟨o.kind,o.ino,o.pos,o.size,o.keep,o.name,o.to,(o.b.length,none,byE o.b)⟩
def doI(S:Sto)(o:Opn):Img:=zaL (rI S.now).I (rO o).o
def doRow(S:Sto)(o:Opn):List SV:=[.int .i64 false S.cap,.fsl 1 2 (doI S o).names.length none (cNm.e 1 (doI S o).names),.fsl 1 3 (doI S o).nodes.length none (cNd.e 1 (doI S o).nodes),.fsl 0 2 S.kept.names.length none (cNm.e 0 S.kept.names),.fsl 0 3 S.kept.nodes.length none (cNd.e 0 S.kept.nodes),
 .nsl 1 8 false 0 (S.pend.length+1) 1,.int .i64 false S.made,.int .i64 false S.armed,.bool false S.off]
def doOp(S:Sto)(o:Opn)(i:Nat):List SV:=muxR 8 (zG i S.pend.length) (opRow 0 (S.pend.getD (0+i) op0)) (opRow 0 o)
theorem do_way(S:Sto)(o:Opn):(doT S o).follow [false,false,false,true,true]=some ([(S.off,false),(S.armed==zB 0,false),(decide (S.armed>zB 0),false),(apPre (rI S.now,rO o),true),(zE ((S.pend.length+1)*96) 140737488355328&&zE (S.pend.length+1) 9223372036854775807,true)],
  ⟨.ret,[.int .i64 true 0],[.lst 9 [doRow S o] stT,.row 8 (S.pend.length+1) (doOp S o) opT],[some (0,false),none]⟩):=by kernel_rfl
theorem app_get{α:Type}{l:List α}{y d:α}(i:Nat)(h:i<l.length+1):(l++[y]).getD i d=(bif zG i l.length then l.getD i d else y):=by
 by_cases q:i<l.length
 .rw[blt_t q,cond_true]
  simp[List.getD,List.getElem?_append_left q]
 .have:i=l.length:=by omega
  subst this
  rw[blt_f q,cond_false]
  simp[List.getD]
def LiveS(S:Sto):Prop:=S.off=false∧S.armed<0
def doL(S:Sto)(o:Opn):Sto:=⟨S.cap,zaL S.now o,S.kept,S.pend++[o],S.made,S.armed,S.off⟩
theorem bsS_do{K:Nat}{S:Sto}{o:Opn}:WkBs (K+1) [.lst 9 [doRow S o] stT,.row 8 (S.pend.length+1) (doOp S o) opT] (bsS (K+1) (doL S o)):=by
 have e:doI S o=zaL S.now o:=by
  unfold doI
  rw[show(rI S.now).I=S.now from I_imV 0 S.now]
  have:(rO o).o=o:=by unfold RawO.o rO;rw[show cB.ls o.b.length (byE o.b)=o.b from cB.ls_e 0 _]
  rw[this]
 have hl:(doL S o).pend.length=S.pend.length+1:=by unfold doL;simp
 unfold bsS rowS doRow
 rw[e,hl]
 refine .cons (.lst1 (.cons Wk.int (.cons (cNm.fsl_refl (l:=zaL S.now o |>.names) (zA _) (.inl rfl)) (.cons (cNd.fsl_refl (l:=zaL S.now o |>.nodes) (zA _) (.inl rfl)) (.cons (cNm.fsl_refl (l:=S.kept.names) (zA _) (.inl rfl)) (.cons (cNd.fsl_refl (l:=S.kept.nodes) (zA _) (.inl rfl)) (.cons (Wk.nsl (zA _)) (.cons Wk.int (.cons Wk.int (.cons Wk.bool .nil)))))))))) (fun _=>nofun) (.cons (.row ?_) (fun _=>nofun) .nil)
 refine cOp.of_mux (e:=doOp S o) (st:=0) (st1:=0) (l:=S.pend++[o]) (zA _) (fun i=>zG i S.pend.length) (fun i=>S.pend.getD (0+i) op0) (fun _=>o) (fun i _=>rfl) fun i hi=>?_
 rw[zK]
 exact app_get i hi
def doDec(a:List SV)(b:List SB):Option (RawS×RawO):=match a with
 | [.ptr 0 9 _ 0 0,.agg r]=>(match decS b,decO r with|some s,some o=>some (s,o)|_,_=>none)
 | _=>none
noncomputable def doPre(r:RawS×RawO):Bool:=wfS r.1&&(r.2.wf&&(zE r.1.n 100000&&(!r.1.off&&(decide (r.1.armed<0)&&tt (MayI (valS r.1).now∧ApOk (valS r.1).now r.2.o)))))
noncomputable def gDo:=gSub doDec doPre fun k r=>⟨.int .i64 true 0,bsS (k+1) (doL (valS r.1) r.2.o),[some (0,false),none]⟩
theorem capS{n:Nat}(h:n≤100000):(zE ((n+1)*96) 140737488355328&&zE (n+1) 9223372036854775807)=true:=by
 rw[ble_t (by omega),ble_t (by omega)];rfl
theorem wfS_n{r:RawS}(h:wfS r=true):(valS r).pend.length=r.n:=cOp.ls_len
theorem do_sel{S:Sto}{o:Opn}(hL:LiveS S)(hp:S.pend.length≤100000)(hM:MayI S.now)(hA:ApOk S.now o):(doT S o).sel=some ⟨.ret,[.int .i64 true 0],[.lst 9 [doRow S o] stT,.row 8 (S.pend.length+1) (doOp S o) opT],[some (0,false),none]⟩:=by
 obtain⟨h1,h2⟩:=hL
 refine zab (do_way S o) (zaa h1 (zaa (beq_eq_false_iff_ne.2 (by simp only[zC];omega)) (zaa (df (by simp only[zC];omega)) (zaa ?_ (zaa (capS hp) zac)))))
 unfold apPre
 simp only[zD]
 refine⟨wf_imV 0 S.now,wf_by,tt_t ?_⟩
 have e:(rO o).o=o:=by unfold RawO.o rO;rw[show cB.ls o.b.length (byE o.b)=o.b from cB.ls_e 0 _]
 rw[show(rI S.now).I=S.now from I_imV 0 S.now,e]
 exact⟨hM,hA⟩
theorem do_told{F0:Fz}(hF0:∀b cs t,F0 b=some (cs,t)→t=0):SubOk F0 env spE doF 810000000000000 gDo:=zaF (z:=false) (TY_ok hF0) hF0 rfl fun K a b r hd hp=>by
 unfold doPre at hp
 simp only[zD]at hp
 obtain⟨p1,p2,p3,p4,p5,p6⟩:=hp
 have p3:=zL p3
 have p4:r.1.off=false:=by simpa using p4
 have p5:=of_decide_eq_true p5
 obtain⟨hM,hA⟩:=of_tt p6
 have hn:=wfS_n p1
 unfold doDec at hd
 split at hd
 .split at hd
  .rename_i s o hs ho
   injection hd with hd;subst hd
   exact⟨_,_,_,.cons Wk.ptr (.cons (.agg (decO_wk (zA _) ho p2)) .nil),zdB (zA _) hs p1,do_sel (S:=valS s) ⟨p4,p5⟩ (by rw[hn];exact p3) hM hA,.cons Wk.int .nil,bsS_do,rfl⟩
  .cases hd
 .cases hd
noncomputable def TDo:Told:=TY.withF doF (zan 810000000000000 [false,true] gDo)
theorem TDo_ok{F0:Fz}(hF0:∀b cs t,F0 b=some (cs,t)→t=0):ToldOk F0 env spE TDo:=zal (TY_ok hF0) (do_told hF0)
structure Spn where
 pos:Int
 len:Int
def sp0:Spn:=⟨0,0⟩
def spnRow(x:Spn):List SV:=[.int .i64 false x.pos,.int .i64 false x.len]
def spnOf(r:List SV):Option Spn:=match r with|[.int .i64 _ p,.int .i64 _ l]=>some ⟨p,l⟩|_=>none
theorem spn_wk{K:Nat}{r:List SV}{x:Spn}(h:spnOf r=some x):WkL K r (spnRow x):=by
 unfold spnOf at h
 split at h
 .injection h with h;subst h;exact .cons Wk.int (.cons Wk.int .nil)
 .cases h
def cSp:Cdc Spn where
 k:=2
 d:=sp0
 row _:=spnRow
 of:=spnOf
 wk _ h:=spn_wk h
 inv _ _:=rfl
 len _ _:=rfl
 free _ _:=rfl
 refl x _:=.cons Wk.int (.cons Wk.int .nil)
 mux b x y _:=by
  show WkL _ (mux.muxs 2 _ (spnRow x) (spnRow y)) _
  rw[zcw (k:=2) rfl rfl]
  cases b with
  | true=>exact .cons (zaS (b:=true) (d:=2)) (.cons (zaS (b:=true) (d:=2)) .nil)
  | false=>exact .cons (zaS (b:=false) (d:=2)) (.cons (zaS (b:=false) (d:=2)) .nil)
abbrev zcZ:FuncId:=111
def paLive:List Tmp:=[2,1,5]
def paTs(e:Ex):List Tmp:=match e with|.normal=>paLive|_=>[5]
def paWs:List Tmp:=[19,20,21,22,23,24,25,26,27,28,29,30,6,31,32,33,34,35,36,37,5,38,39,40,41,42,43,44,45,46]
theorem WkB.row1{K k:Nat}{r:List SV}{e:Nat→List SV}{t:TypeId}(h:WkL K r (e 0))(hf:∀x∈e 0,free_ x=true)(hk:(e 0).length=k):WkB K (.lst k [r] t) (.row k 1 e t):=fun F F2 ι hh id ht S=>by
 obtain⟨B,cs,h1,h2,h3,h4,h5⟩:=S
 refine .inr ⟨B,cs,h1,h2,h3,h4,fun i hi=>?_⟩
 have:i=0:=by omega
 subst this
 have R:=h5 0 r rfl
 refine⟨hk,fun j x2 y hx hy=>?_⟩
 have hj:j<r.length:=by rw[h.len];exact(List.getElem?_eq_some_iff.1 hx).1
 exact(h.at_ j r[j] x2 (by simp[hj]) hx F F2 ι y ht (R.2 j _ y (by simp[hj]) hy)).free (hf _ (List.mem_of_getElem? hx))
def paVa(l:List Spn):List SV:=match l with
 | []=>[.ptr 0 2 true 0 0,.int .i64 false 8,.raw (.slice none 0 0)]
 | x::m=>[.ptr 0 2 true 0 0,.int .i64 false 8,.nsl 1 2 false 0 (x::m).length 1]
def paBl(p n:Int)(l:List Spn):List SB:=match l with
 | []=>[spB p n]
 | x::m=>[spB p n,.row 2 (x::m).length (cSp.e 0 (x::m)) spT]
noncomputable def paT(p n:Int):RT Lf:=zaJ env TB zcZ 60 (zaf zcZ 60) 48 paLive paTs 100 [.ptr 0 2 true 0 0,.int .i64 false 8,.raw (.slice none 0 0)] [spB p n]
noncomputable def pbT(p n:Int)(l:List Spn):RT Lf:=zaJ env TB zcZ 60 (zaf zcZ 60) 48 paLive paTs 100 [.ptr 0 2 true 0 0,.int .i64 false 8,.nsl 1 2 false 0 l.length 1] [spB p n,.row 2 l.length (cSp.e 0 l) spT]
def paM(p n:Int):Int:=mnI n (IntKind.i64.wrap (8-p.tmod 8))
def pbRow(l:List Spn)(p m:Int)(i:Nat):List SV:=muxR 2 (zG i l.length) (spnRow (l.getD (0+i) sp0)) (spnRow ⟨p,m⟩)
theorem pa_first(p n:Int):(paT p n).follow [true,true]=some ([(decide (n>zB 0),true),(true,true)],⟨.normal,[.ptr 0 2 true 0 0,.int .i64 false 8,.nsl 1 2 true 0 1 0],[spB (IntKind.i64.wrap (p+paM p n)) (IntKind.i64.wrap (n-paM p n)),.lst 2 [[.int .i64 false p,.int .i64 false (paM p n)]] spT],[some (0,false)]⟩):=by kernel_rfl
theorem pb_stop(p n:Int)(l:List Spn):(pbT p n l).follow [false]=some ([(decide (n>zB 0),false)],⟨.exit 0,[.nsl 1 2 false 0 l.length 1],[spB p n,.row 2 l.length (cSp.e 0 l) spT],kp2⟩):=by kernel_rfl
theorem pb_next(p n:Int)(l:List Spn):(pbT p n l).follow [true,true,true]=some ([(decide (n>zB 0),true),(true,true),(zE ((l.length+1)*16) 140737488355328&&zE (l.length+1) 9223372036854775807,true)],
  ⟨.normal,[.ptr 0 2 true 0 0,.int .i64 false 8,.nsl 1 2 false 0 (l.length+1) 1],[spB (IntKind.i64.wrap (p+paM p n)) (IntKind.i64.wrap (n-paM p n)),.row 2 (l.length+1) (pbRow l p (paM p n)) spT],kpN⟩):=by kernel_rfl
def spnN(q:Nat×Nat):Spn:=⟨(q.1:Int),(q.2:Int)⟩
def ptsL(p n:Nat):List Spn:=(zb9 (n+1) p n).map spnN
theorem paM_eq{p n:Nat}:paM (p:Int) (n:Int)=((min n (8-p % 8):Nat):Int):=by
 unfold paM
 rw[mnI_eq]
 have e1:(p:Int).tmod 8=((p % 8:Nat):Int):=rfl
 rw[e1,zF _ (by omega)]
 omega
theorem pa_step1{p n:Nat}(hn:n≠0)(f:Nat):zb9 (f+1) p n=(p,min n (8-p % 8))::zb9 f (p+min n (8-p % 8)) (n-min n (8-p % 8)):=by
 have:zH n 0=false:=by
  rw[Bool.eq_false_iff];intro h
  exact hn (zI h)
 show(match zH n 0 with|true=>[]|false=>(p,min n (8-p % 8))::zb9 f (p+min n (8-p % 8)) (n-min n (8-p % 8)))=_
 rw[this]
theorem pa_zero(p f:Nat):zb9 f p 0=[]:=by cases f<;>rfl
structure PaS(p0 n0:Nat) where
 l:List Spn
 p:Nat
 r:Nat
 f:Nat
 eq:l++(zb9 f p r).map spnN=ptsL p0 n0
 fuel:r<f
 sum:p+r=p0+n0
 len:l.length+r≤n0
 ne:l=[]→0<r
theorem spn_free(x:Spn):∀y∈spnRow x,free_ y=true:=by
 intro y hy
 simp only[spnRow,List.mem_cons,List.not_mem_nil,or_false]at hy
 rcases hy with rfl|rfl<;>rfl
noncomputable def paR(K p0 n0:Nat)(hp:p0+n0≤1099511627776):za5 env TB zcZ 60 (zaf zcZ 60) 48 paLive paTs 100 K (PaS p0 n0) where
 va s:=paVa s.l
 bl s:=paBl s.p s.r s.l
 μ s:=s.r
 out s:=⟨.exit 0,[.nsl 1 2 false 0 (ptsL p0 n0).length 1],[spB ((p0+n0:Nat):Int) 0,.row 2 (ptsL p0 n0).length (cSp.e K (ptsL p0 n0)) spT],match s.l with|[]=>[some (0,false)]|_::_=>kpN⟩
 tsn:=rfl
 small s:=by
  obtain⟨l,p,r,f,_,_,_,_,_⟩:=s
  cases l
  .show 1<4000;omega
  .show 2<4000;omega
 step s:=by
  obtain⟨l,p,r,f,heq,hf,hs,hl,hne⟩:=s
  have hm:=paM_eq (p:=p) (n:=r)
  have e1:IntKind.i64.wrap ((p:Int)+((min r (8-p % 8):Nat):Int))=((p+min r (8-p % 8):Nat):Int):=by rw[zF _ (by omega)];omega
  have e2:IntKind.i64.wrap ((r:Int)-((min r (8-p % 8):Nat):Int))=((r-min r (8-p % 8):Nat):Int):=by rw[zF _ (by omega)];omega
  by_cases hr:r=0
  .subst hr
   cases l with
   | nil=>exact absurd (hne rfl) (Nat.lt_irrefl 0)
   | cons x m=>
    rw[pa_zero]at heq
    have heq:x::m=ptsL p0 n0:=by simpa using heq
    have hp0:(p:Int)=((p0+n0:Nat):Int):=by omega
    refine⟨_,zab (pb_stop p ((0:Nat):Int) (x::m)) (zaa (df (by simp)) zac),.inr ⟨by simp,rfl,?_,?_,rfl⟩⟩
    .show WkL K [.nsl 1 2 false 0 (x::m).length 1] [.nsl 1 2 false 0 (ptsL p0 n0).length 1]
     rw[heq];exact .cons (Wk.nsl (zA _)) .nil
    .show WkBs K [spB (p:Int) ((0:Nat):Int),.row 2 (x::m).length (cSp.e 0 (x::m)) spT] [spB ((p0+n0:Nat):Int) 0,.row 2 (ptsL p0 n0).length (cSp.e K (ptsL p0 n0)) spT]
     rw[heq,hp0]
     exact .cons (.lst1 (.cons Wk.int (.cons Wk.int .nil))) (fun _=>nofun) (.cons (.row (cSp.e_refl (zA _))) (fun _=>nofun) .nil)
  .have hpos:decide ((r:Int)>zB 0)=true:=dt (by simp only[zC];omega)
   obtain⟨f',rfl⟩:∃f',f=f'+1:=⟨f-1,by omega⟩
   have hk:1≤min r (8-p % 8):=by omega
   rw[pa_step1 hr]at heq
   cases l with
   | nil=>
    refine⟨_,zab (pa_first p r) (zaa hpos (zaa rfl zac)),.inl ⟨rfl,⟨[spnN (p,min r (8-p % 8))],p+min r (8-p % 8),r-min r (8-p % 8),f',by simpa using heq,by omega,by omega,by simp only[zM];simp only[List.length_nil]at hl;omega,by simp⟩,?_,?_,by show r-min r (8-p % 8)<r;omega,rfl,rfl,rfl,rfl⟩⟩
    .exact .cons Wk.ptr (.cons Wk.int (.cons (Wk.nsl (by omega)) .nil))
    .rw[hm,e1,e2]
     exact .cons (.lst1 (.cons Wk.int (.cons Wk.int .nil))) (fun _=>nofun) (.cons (WkB.row1 (e:=cSp.e 0 [spnN (p,min r (8-p % 8))]) (.cons Wk.int (.cons Wk.int .nil)) (spn_free _) rfl) (fun _=>nofun) .nil)
   | cons x m=>
    have hcap:(zE (((x::m).length+1)*16) 140737488355328&&zE ((x::m).length+1) 9223372036854775807)=true:=by
     rw[ble_t (by omega),ble_t (by omega)];rfl
    refine⟨_,zab (pb_next p r (x::m)) (zaa hpos (zaa rfl (zaa hcap zac))),.inl ⟨rfl,⟨x::m++[spnN (p,min r (8-p % 8))],p+min r (8-p % 8),r-min r (8-p % 8),f',by rw[←heq];simp,by omega,by omega,by simp only[List.length_append,zM];omega,by simp⟩,?_,?_,by show r-min r (8-p % 8)<r;omega,rfl,rfl,rfl,rfl⟩⟩
    .show WkL 0 _ [.ptr 0 2 true 0 0,.int .i64 false 8,.nsl 1 2 false 0 (x::(m++[spnN (p,min r (8-p % 8))])).length 1]
     have:(x::(m++[spnN (p,min r (8-p % 8))])).length=(x::m).length+1:=by simp
     rw[this]
     exact .cons Wk.ptr (.cons Wk.int (.cons (Wk.nsl (zA _)) .nil))
    .show WkBs 0 _ [spB _ _,.row 2 (x::(m++[spnN (p,min r (8-p % 8))])).length (cSp.e 0 (x::(m++[spnN (p,min r (8-p % 8))]))) spT]
     have:(x::(m++[spnN (p,min r (8-p % 8))])).length=(x::m).length+1:=by simp
     rw[this,hm,e1,e2]
     refine .cons (.lst1 (.cons Wk.int (.cons Wk.int .nil))) (fun _=>nofun) (.cons (.row ?_) (fun _=>nofun) .nil)
     refine cSp.of_mux (e:=pbRow (x::m) p ((min r (8-p % 8):Nat):Int)) (st:=0) (st1:=0) (l:=x::m++[spnN (p,min r (8-p % 8))]) (zA _) (fun i=>zG i (x::m).length) (fun i=>(x::m).getD (0+i) sp0) (fun _=>spnN (p,min r (8-p % 8))) (fun i _=>rfl) fun i hi=>?_
     rw[zK]
     exact app_get i hi
def paDec(a:List SV)(b:List SB):Option (Int×Int):=match a,b with
 | [.ptr 0 2 _ 0 0,.int .i64 _ 8,.raw (.slice none 0 0)],[.lst 2 [[.int .i64 _ p,.int .i64 _ n]] t]=>(match zH t spT with|true=>some (p,n)|false=>none)
 | _,_=>none
def paPre(r:Int×Int):Bool:=decide (0≤r.1)&&(decide (1≤r.2)&&(decide (r.1+r.2≤1099511627776)&&decide (r.2≤4096)))
theorem paPre_of{r:Int×Int}(h:paPre r=true):0≤r.1∧1≤r.2∧r.1+r.2≤1099511627776∧r.2≤4096:=by
 unfold paPre at h
 simp only[zD,decide_eq_true_eq]at h
 exact h
def paL(r:Int×Int):List Spn:=ptsL r.1.toNat r.2.toNat
def paG:=gLp paDec paPre fun k r=>⟨(.exit 0,[(5,.nsl 1 2 false 0 (paL r).length 1)]),[spB ((r.1.toNat+r.2.toNat:Nat):Int) 0,.row 2 (paL r).length (cSp.e (k+1) (paL r)) spT],[some (0,false)]⟩
theorem pa_loop{F0:Fz}(hF0:∀b cs t,F0 b=some (cs,t)→t=0):SubLp F0 env spE (zaf zcZ 60) 48 1000000 paLive paWs paG:=
 zbg (ts:=paTs) TB_ok hF0 (zaN (n:=48) (by kernel_rfl) (by kernel_rfl)) (ws_ok (by kernel_rfl)) (by decide) (by decide) fun K a b r hr hp=>by
  obtain⟨a1,a2,a3,a4⟩:=paPre_of hp
  unfold paDec at hr
  split at hr
  .rename_i c1 c2 c3 p c4 n t
   split at hr
   .rename_i hc
    injection hr with hr;subst hr
    have:=zI hc
    subst this
    simp only at a1 a2 a3 a4
    refine⟨_,paR (K+1) p.toNat n.toNat (by omega),⟨[],p.toNat,n.toNat,n.toNat+1,rfl,by omega,by omega,by simp,fun _=>by omega⟩,?_,?_,?_,rfl⟩
    .show 100*(n.toNat+1)≤_
     omega
    .exact .cons Wk.ptr (.cons Wk.int (.cons Wk.raw .nil))
    .exact .cons (.lst1 (.cons (.int_eq (by simp only;omega)) (.cons (.int_eq (by simp only;omega)) .nil))) (fun _=>nofun) .nil
   .cases hr
  .cases hr
noncomputable def TPa:Told:=TB.withL zcZ 60 (zaD 1000000 paLive paWs paG)
theorem TPa_ok{F0:Fz}(hF0:∀b cs t,F0 b=some (cs,t)→t=0):ToldOk F0 env spE TPa:=zaM (n:=48) TB_ok (by kernel_rfl) (by kernel_rfl) (pa_loop hF0)
noncomputable def ppT(p n:Int):RT Lf:=fnZ true env TPa zcZ 2000000 [spV p n,.int .i64 false 8] []
def ppE(p n:Int)(i:Nat):List SV:=spnRow ((paL (p,n)).getD (0+i) sp0)
theorem pp_way(p n:Int):(ppT p n).follow [true,true,true,true,false,false,false,true]=some (mxT p n++[(decide (n>zB 4096),false),(false,false),(paPre (p,n),true)],⟨.ret,[.fsl 2 2 (paL (p,n)).length none (ppE p n)],[],[]⟩):=by kernel_rfl
def ppDec(a:List SV)(b:List SB):Option (Int×Int):=match a,b with
 | [.agg [.int .i64 _ p,.int .i64 _ n],.int .i64 _ 8],[]=>some (p,n)
 | _,_=>none
def gParts:=gSub ppDec paPre fun k r=>⟨.fsl (k+1) 2 (paL r).length none (cSp.e (k+1) (paL r)),[],[]⟩
theorem parts_told{F0:Fz}(hF0:∀b cs t,F0 b=some (cs,t)→t=0):SubOk F0 env spE zcZ 2000000 gParts:=zaF (z:=true) (TPa_ok hF0) hF0 rfl fun K a b r hd hp=>by
 obtain⟨a1,a2,a3,a4⟩:=paPre_of hp
 unfold ppDec at hd
 split at hd
 .rename_i c1 p c2 n c3
  injection hd with hd;subst hd
  simp only at a1 a2 a3 a4
  refine⟨_,_,_,.cons (.agg (.cons Wk.int (.cons Wk.int .nil))) (.cons Wk.int .nil),.nil,zab (pp_way p n) (zag (mxT_ok ⟨a1,by omega⟩ ⟨by omega,by omega⟩) (zaa (df (by simp only[zC];omega)) (zaa rfl (zaa hp zac)))),.cons ?_ .nil,.nil,rfl⟩
  exact .fsl (zA _) (.inl rfl) (cSp.of_row (st:=0) (l:=paL (p,n)) (zA _) fun i _=>by unfold ppE;rw[zK];rfl)
 .cases hd
noncomputable def TWs:Told:=TDo.withF zcZ (zan 2000000 [] gParts)
theorem TWs_ok{F0:Fz}(hF0:∀b cs t,F0 b=some (cs,t)→t=0):ToldOk F0 env spE TWs:=zal (TDo_ok hF0) (parts_told hF0)
abbrev swF:FuncId:=62
def swLive:List Tmp:=[38,37,36,2,10,0,1,3]
def swTs(e:Ex):List Tmp:=match e with|.normal=>swLive|.ret=>[8,9]|_=>[]
def swWs:List Tmp:=[39,40,41,13,42,43,44,45,14,46,47,48,49,50,51,52,53,54,55,56,57,8,9,58,59,60,61,62,63,64,65,66,67,68,69,70,71,15,72,73,74,75,76,38]
def rowS2(st:Nat)(S:Sto):List SV:=[.int .i64 false S.cap,.fsl st 2 S.now.names.length none (cNm.e st S.now.names),.fsl st 3 S.now.nodes.length none (cNd.e st S.now.nodes),.fsl st 2 S.kept.names.length none (cNm.e st S.kept.names),.fsl st 3 S.kept.nodes.length none (cNd.e st S.kept.nodes),
 .nsl 2 8 false 0 S.pend.length 1,.int .i64 false S.made,.int .i64 false S.armed,.bool false S.off]
def swBl(st:Nat)(size:Int)(l0:List Xt)(S:Sto):List SB:=[.lst 2 [[.int .i64 false size,.fsl 0 9 l0.length none (xtE l0)]] ctT,.lst 9 [rowS2 st S] stT,.row 8 S.pend.length (cOp.e st S.pend) opT]
def swVa(L:List Spn)(i:Int)(ino pos:Int)(b:List UInt8):List SV:=[.int .i64 false i,.int .i64 false (.ofNat L.length),.fsl 0 2 L.length none (cSp.e 0 L),.int .i64 false pos,.ptr 0 2 true 0 0,.ptr 1 9 true 0 0,.int .i64 false ino,.fsl 0 1 b.length none (byE b)]
noncomputable def swT(S:Sto)(L:List Spn)(l0:List Xt)(size ino pos:Int)(b:List UInt8)(i:Nat):RT Lf:=zaJ env TWs swF 122 (zaf swF 122) 79 swLive swTs 1400000000000000 (swVa L (.ofNat i) ino pos b) (swBl 0 size l0 S)
def swQ(L:List Spn)(i:Nat):Spn:=L.getD i sp0
def swNo(L:List Spn)(i:Nat):Int:=IntKind.i64.wrap ((swQ L i).pos.tdiv 8)
def swA(L:List Spn)(i:Nat)(pos:Int):Int:=IntKind.i64.wrap ((swQ L i).pos-pos)
def swZ(L:List Spn)(i:Nat)(pos:Int):Int:=IntKind.i64.wrap (swA L i pos+(swQ L i).len)
def swM(L:List Spn)(i:Nat)(pos:Int):Nat:=(swZ L i pos).toNat-(swA L i pos).toNat
def swR(S:Sto):RawS:=⟨S.cap,(S.now.names.length,none,cNm.e 0 S.now.names),(S.now.nodes.length,none,cNd.e 0 S.now.nodes),(S.kept.names.length,none,cNm.e 0 S.kept.names),(S.kept.nodes.length,none,cNd.e 0 S.kept.nodes),S.pend.length,S.pend.length,cOp.e 0 S.pend,S.made,S.armed,S.off⟩
def swO(L:List Spn)(i:Nat)(ino pos:Int)(b:List UInt8):RawO:=⟨2,ino,(swQ L i).pos,0,false,[],[],(swM L i pos,none,fun j=>byE (cB.ls (swM L i pos) (fun j=>byE b ((swA L i pos).toNat+j))) (0+j))⟩
def swI(L:List Spn)(i:Nat)(l0:List Xt)(size:Int):List (Bool×Bool):=[(decide (zB i<zB L.length),true),(true,true),(zG i L.length,true),(hasPre (⟨size,(l0.length,none,xtE l0)⟩,swNo L i),true)]
noncomputable def swJ(S:Sto)(L:List Spn)(i:Nat)(ino pos:Int)(b:List UInt8):List (Bool×Bool):=[(decide (0≤swZ L i pos),true),(zE (swZ L i pos).toNat b.length,true),(decide (0≤swA L i pos),true),(zE (swA L i pos).toNat (swZ L i pos).toNat,true),(zG (swA L i pos).toNat b.length,true),
 (zE (swM L i pos) 1099511627776&&cB.wf (swM L i pos) (fun j=>byE b ((swA L i pos).toNat+j)),true),(doPre (swR S,swO L i ino pos b),true)]
def swN(S:Sto)(L:List Spn)(i:Nat)(ino pos:Int)(b:List UInt8):Sto:=doL (valS (swR S)) (swO L i ino pos b).o
def kpW:List (Option (Nat×Bool)):=[some (0,true),some (1,false),none]
noncomputable def swU(S:Sto):List (Bool×Bool):=[((rI S.now).wf&&tt (MayI (rI S.now).I),true),(mxI 0 (IntKind.i64.wrap (S.cap-zB (usedI (rI S.now).I.nodes)))==0,false)]
theorem sw_stop(S:Sto)(L:List Spn)(l0:List Xt)(size ino pos:Int)(b:List UInt8)(i:Nat):(swT S L l0 size ino pos b i).follow [false]=some ([(decide (zB i<zB L.length),false)],⟨.exit 1,[],swBl 0 size l0 S,kp3⟩):=by kernel_rfl
theorem sw_has(S:Sto)(L:List Spn)(l0:List Xt)(size ino pos:Int)(b:List UInt8)(i:Nat):(swT S L l0 size ino pos b i).follow [true,true,true,true,false,true,true,true,true,true,true,true]=some (swI L i l0 size++[(!hasX (swNo L i) (cX.ls l0.length (xtE l0)),false)]++swJ S L i ino pos b,
  ⟨.normal,swVa L (IntKind.i64.wrap (zB i+zB 1)) ino pos b,swBl 4 size l0 (swN S L i ino pos b),kpW⟩):=by kernel_rfl
theorem sw_free(S:Sto)(L:List Spn)(l0:List Xt)(size ino pos:Int)(b:List UInt8)(i:Nat):(swT S L l0 size ino pos b i).follow [true,true,true,true,true,true,false,true,true,true,true,true,true,true]=some (swI L i l0 size++[(!hasX (swNo L i) (cX.ls l0.length (xtE l0)),true)]++swU S++swJ S L i ino pos b,
  ⟨.normal,swVa L (IntKind.i64.wrap (zB i+zB 1)) ino pos b,swBl 5 size l0 (swN S L i ino pos b),kpW⟩):=by kernel_rfl
def wOp(ino pos:Int)(b:List UInt8)(q:Spn):Opn:=⟨2,ino,q.pos,0,false,[],[],(b.drop (q.pos-pos).toNat).take q.len.toNat⟩
def stW(ino pos:Int)(b:List UInt8)(S:Sto)(L:List Spn):Sto:=L.foldl (fun S q=>doL S (wOp ino pos b q)) S
theorem stW_snoc{ino pos:Int}{b:List UInt8}{S:Sto}{L:List Spn}{k:Nat}(h:k<L.length):stW ino pos b S (L.take (k+1))=doL (stW ino pos b S (L.take k)) (wOp ino pos b L[k]):=by
 unfold stW
 rw[List.take_succ_eq_append_getElem h,List.foldl_append];rfl
theorem by_off{b:List UInt8}{a m:Nat}(h:a+m≤b.length):cB.ls m (fun j=>byE b (a+j))=(b.drop a).take m:=by
 have e:cB.ls m (fun j=>byE b (a+j))=(List.range m).map fun j=>b.getD (a+j) 0:=by
  unfold Cdc.ls lsR
  congr 1
  funext j
  have e:cB.of (byE b (a+j))=some (b.getD (a+j) 0):=by_row _
  simp only[e]
 rw[e]
 apply List.ext_getElem
 .simp;omega
 .intro i h1 h2
  simp at h1
  simp[List.getD,show a+i<b.length by omega]
theorem wf_off{b:List UInt8}{a m:Nat}:cB.wf m (fun j=>byE b (a+j))=true:=by
 unfold Cdc.wf wfR
 rw[List.all_eq_true]
 intro j _
 show(byOf (byE b (a+j))).isSome=true
 rw[show byOf (byE b (a+j))=some (b.getD (a+j) 0)from by_row _];rfl
structure WrOk(S:Sto)(l0:List Xt)(ino pos:Int)(b:List UInt8)(L:List Spn):Prop where
 few:L.length≤600
 hl:l0.length≤137438953472
 hp:0≤pos
 hb:b.length≤4096
 q:∀k (h:k<L.length),pos≤L[k].pos∧1≤L[k].len∧L[k].pos-pos+L[k].len≤b.length∧L[k].pos≤1099511627776
 ok:∀k (h:k<L.length),LiveS (stW ino pos b S (L.take k))∧(stW ino pos b S (L.take k)).pend.length≤100000∧MayI (stW ino pos b S (L.take k)).now∧ApOk (stW ino pos b S (L.take k)).now (wOp ino pos b L[k])
 fr:∀k (h:k<L.length),hasX (L[k].pos / 8) l0=true∨((stW ino pos b S (L.take k)).cap≤4096∧(usedI (stW ino pos b S (L.take k)).now.nodes:Int)<(stW ino pos b S (L.take k)).cap)
theorem swR_v(S:Sto):valS (swR S)=S:=by
 unfold swR
 simp only[valS,cNm.ls_e,cNd.ls_e,cOp.ls_e]
theorem swR_w(S:Sto):wfS (swR S)=true:=by
 unfold swR
 simp only[wfS,cNm.wf_e,cNd.wf_e,cOp.wf_e,Nat.beq_refl];rfl
structure SwAt(L:List Spn)(i:Nat)(ino pos:Int)(b:List UInt8)(q:Spn):Prop where
 no:swNo L i=q.pos / 8
 a:swA L i pos=zB (q.pos-pos).toNat
 z:swZ L i pos=zB ((q.pos-pos).toNat+q.len.toNat)
 m:swM L i pos=q.len.toNat
 o:(swO L i ino pos b).o=wOp ino pos b q
 w:(swO L i ino pos b).wf=true
 c:cB.wf (swM L i pos) (fun j=>byE b ((swA L i pos).toNat+j))=true
theorem sw_at{S:Sto}{l0:List Xt}{ino pos:Int}{b:List UInt8}{L:List Spn}(W:WrOk S l0 ino pos b L){i:Nat}(h:i<L.length):SwAt L i ino pos b L[i]:=by
 obtain⟨q1,q2,q3,q4⟩:=W.q i h
 have hp:=W.hp
 have hb:=W.hb
 have hq:swQ L i=L[i]:=zaI h
 have ea:swA L i pos=zB (L[i].pos-pos).toNat:=by
  unfold swA
  rw[hq,zF _ (by omega)]
  simp only[zC];omega
 have ez:swZ L i pos=zB ((L[i].pos-pos).toNat+L[i].len.toNat):=by
  unfold swZ
  rw[hq,ea,zF _ (by simp only[zC];omega)]
  simp only[zC];omega
 have em:swM L i pos=L[i].len.toNat:=by
  unfold swM
  rw[ea,ez]
  show(L[i].pos-pos).toNat+L[i].len.toNat-(L[i].pos-pos).toNat=_
  omega
 have eb:cB.ls L[i].len.toNat (fun j=>byE b ((L[i].pos-pos).toNat+j))=(b.drop (L[i].pos-pos).toNat).take L[i].len.toNat:=by_off (by omega)
 have hl:((b.drop (L[i].pos-pos).toNat).take L[i].len.toNat).length=L[i].len.toNat:=by simp;omega
 have ta:(zB (L[i].pos-pos).toNat).toNat=(L[i].pos-pos).toNat:=rfl
 refine⟨?_,ea,ez,em,?_,?_,?_⟩
 .unfold swNo
  rw[hq]
  have:L[i].pos.tdiv 8=L[i].pos / 8:=Int.tdiv_eq_ediv_of_nonneg (by omega)
  rw[this,zF _ (by omega)]
 .unfold swO RawO.o wOp
  simp only
  rw[hq,em,ea,ta,eb]
  congr 1
  have:=cB.ls_e 0 ((b.drop (L[i].pos-pos).toNat).take L[i].len.toNat)
  rw[hl]at this
  rw[show(fun j=>byE ((b.drop (L[i].pos-pos).toNat).take L[i].len.toNat) (0+j))=cB.e 0 ((b.drop (L[i].pos-pos).toNat).take L[i].len.toNat)from by funext j;rw[zK];rfl]
  exact this
 .unfold swO RawO.wf
  simp only
  exact wf_off
 .exact wf_off
theorem swJ_ok{S S0:Sto}{l0:List Xt}{ino pos:Int}{b:List UInt8}{L:List Spn}(W:WrOk S0 l0 ino pos b L){i:Nat}(h:i<L.length)(hL:LiveS S)(hn:S.pend.length≤100000)(hM:MayI S.now)(hA:ApOk S.now (wOp ino pos b L[i])):eqs_ (swJ S L i ino pos b)=true:=by
 obtain⟨q1,q2,q3,q4⟩:=W.q i h
 have hb:=W.hb
 obtain⟨e1,e2,e3,e4,e5,e6,e7⟩:=sw_at W h
 unfold swJ
 rw[e7,e2,e3,e4]
 have t1:(zB ((L[i].pos-pos).toNat+L[i].len.toNat)).toNat=(L[i].pos-pos).toNat+L[i].len.toNat:=rfl
 have t2:(zB (L[i].pos-pos).toNat).toNat=(L[i].pos-pos).toNat:=rfl
 rw[t1,t2]
 refine zaa (zcb _) (zaa (ble_t (by omega)) (zaa (zcb _) (zaa (ble_t (by omega)) (zaa (blt_t (by omega)) (zaa (by rw[ble_t (by omega)];rfl) (zaa ?_ zac))))))
 unfold doPre
 simp only[zD]
 refine⟨swR_w S,e6,ble_t hn,?_,decide_eq_true hL.2,?_⟩
 .show(!S.off)=true
  rw[hL.1];rfl
 .rw[swR_v,e5]
  exact tt_t ⟨hM,hA⟩
theorem swN_eq{S S0:Sto}{l0:List Xt}{ino pos:Int}{b:List UInt8}{L:List Spn}(W:WrOk S0 l0 ino pos b L){i:Nat}(h:i<L.length):swN S L i ino pos b=doL S (wOp ino pos b L[i]):=by
 unfold swN
 rw[swR_v,(sw_at W h).o]
theorem swI_ok{S0:Sto}{l0:List Xt}{ino pos size:Int}{b:List UInt8}{L:List Spn}(W:WrOk S0 l0 ino pos b L){i:Nat}(h:i<L.length):eqs_ (swI L i l0 size)=true:=by
 have:=W.hl
 unfold swI
 refine zaa (by rw[zaV,blt_t h]) (zaa rfl (zaa (blt_t h) (zaa ?_ zac)))
 unfold hasPre
 simp only[zD]
 refine⟨?_,?_⟩
 .unfold RawC.wf
  simp only
  rw[ble_t (by omega)]
  exact wf_xt
 .have e:RawC.l ⟨size,(l0.length,none,xtE l0)⟩=l0:=cX.ls_e 0 _
  rw[e]
  exact ble_t this
theorem swU_ok{S:Sto}(hM:MayI S.now)(hc:S.cap≤4096)(hu:(usedI S.now.nodes:Int)<S.cap):eqs_ (swU S)=true:=by
 unfold swU
 rw[show(rI S.now).I=S.now from I_imV 0 S.now,show(rI S.now).wf=true from wf_imV 0 S.now,tt_t hM]
 refine zaa rfl (zaa ?_ zac)
 rw[zF _ (by simp only[zC];omega),mxI_eq]
 rw[beq_eq_false_iff_ne]
 simp only[zC]
 omega
theorem rowS2_refl{K st st2:Nat}(h:K≤st2)(S:Sto):WkL K (rowS2 st S) (rowS2 st2 S):=
 .cons Wk.int (.cons (cNm.fsl_refl h (.inl rfl)) (.cons (cNd.fsl_refl h (.inl rfl)) (.cons (cNm.fsl_refl h (.inl rfl)) (.cons (cNd.fsl_refl h (.inl rfl)) (.cons (Wk.nsl (zA _)) (.cons Wk.int (.cons Wk.int (.cons Wk.bool .nil))))))))
theorem swBl_wk{K st st2:Nat}(h:K≤st2)(h0:K≤0∨True){size:Int}{l0:List Xt}{S:Sto}{c:SB}(hc:WkB K (.lst 2 [[.int .i64 false size,.fsl 0 9 l0.length none (xtE l0)]] ctT) c)(hg:c≠.gone):WkBs K (swBl st size l0 S) [c,.lst 9 [rowS2 st2 S] stT,.row 8 S.pend.length (cOp.e st2 S.pend) opT]:=
 .cons hc (fun _=>nofun) (.cons (.lst1 (rowS2_refl h S)) (fun _=>nofun) (.cons (.row (cOp.e_refl h)) (fun _=>nofun) .nil))
def ctC(st:Nat)(size:Int)(l0:List Xt):SB:=.lst 2 [[.int .i64 false size,.fsl st 9 l0.length none (xtE l0)]] ctT
theorem ctC_wk{K st2:Nat}(h:K≤st2){size:Int}{l0:List Xt}:WkB K (.lst 2 [[.int .i64 false size,.fsl 0 9 l0.length none (xtE l0)]] ctT) (ctC st2 size l0):=.lst1 (.cons Wk.int (.cons (cX.fsl_refl h (.inl rfl)) .nil))
theorem swVa_wk{L:List Spn}{i j ino pos:Int}{b:List UInt8}(h:i=j):WkL 0 (swVa L i ino pos b) (swVa L j ino pos b):=by
 subst h
 exact .cons Wk.int (.cons Wk.int (.cons (cSp.fsl_refl (zA _) (.inl rfl)) (.cons Wk.int (.cons Wk.ptr (.cons Wk.ptr (.cons Wk.int (.cons (cB.fsl_refl (zA _) (.inl rfl)) .nil)))))))
noncomputable def swRo(K:Nat)(S:Sto)(L:List Spn)(l0:List Xt)(size ino pos:Int)(b:List UInt8)(W:WrOk S l0 ino pos b L):za5 env TWs swF 122 (zaf swF 122) 79 swLive swTs 1400000000000000 K { k:Nat // k≤L.length } where
 va s:=swVa L (.ofNat s.1) ino pos b
 bl s:=swBl 0 size l0 (stW ino pos b S (L.take s.1))
 μ s:=L.length-s.1
 out s:=⟨.exit 1,[],[ctC K size l0,.lst 9 [rowS2 K (stW ino pos b S L)] stT,.row 8 (stW ino pos b S L).pend.length (cOp.e K (stW ino pos b S L).pend) opT],kpW⟩
 tsn:=rfl
 small s:=by show 3<4000;omega
 step s:=by
  obtain⟨k,hk⟩:=s
  have hf:=W.few
  by_cases h:k<L.length
  .obtain⟨k1,k2,k3,k4⟩:=W.ok k h
   have hN:=swN_eq (S:=stW ino pos b S (L.take k)) W h
   have hJ:=swJ_ok W h k1 k2 k3 k4
   have hI:=swI_ok (size:=size) W h
   have el:cX.ls l0.length (xtE l0)=l0:=cX.ls_e 0 l0
   have eno:=(sw_at W h).no
   cases hx:hasX (L[k].pos / 8) l0 with
   | true=>
    refine⟨_,zab (sw_has (stW ino pos b S (L.take k)) L l0 size ino pos b k) (zag (zag hI (zaa (by rw[el,eno,hx];rfl) zac)) hJ),.inl ⟨rfl,⟨k+1,h⟩,swVa_wk (zap (by omega)),?_,by show L.length-(k+1)<L.length-k;omega,rfl,rfl,rfl,rfl⟩⟩
    show WkBs 0 _ (swBl 0 size l0 (stW ino pos b S (L.take (k+1))))
    rw[stW_snoc h,←hN]
    exact swBl_wk (zJ _) (.inr trivial) (ctC_wk (zJ _)) nofun
   | false=>
    rcases W.fr k h with q|⟨q1,q2⟩
    .rw[hx]at q;cases q
    .refine⟨_,zab (sw_free (stW ino pos b S (L.take k)) L l0 size ino pos b k) (zag (zag (zag hI (zaa (by rw[el,eno,hx];rfl) zac)) (swU_ok k3 q1 q2)) hJ),.inl ⟨rfl,⟨k+1,h⟩,swVa_wk (zap (by omega)),?_,by show L.length-(k+1)<L.length-k;omega,rfl,rfl,rfl,rfl⟩⟩
     show WkBs 0 _ (swBl 0 size l0 (stW ino pos b S (L.take (k+1))))
     rw[stW_snoc h,←hN]
     exact swBl_wk (zJ _) (.inr trivial) (ctC_wk (zJ _)) nofun
  .have e:k=L.length:=by omega
   subst e
   refine⟨_,zab (sw_stop (stW ino pos b S (L.take L.length)) L l0 size ino pos b L.length) (zaa (df (by omega)) zac),.inr ⟨by simp,rfl,.nil,?_,rfl⟩⟩
   rw[List.take_length]
   exact swBl_wk (zA _) (.inr trivial) (ctC_wk (zA _)) nofun
def decS2(b1 b2:SB):Option RawS:=
 match b1,b2 with
 | .lst 9 [[.int .i64 _ cap,x1,x2,x3,x4,.nsl 2 8 _ 0 n z,.int .i64 _ made,.int .i64 _ armed,.bool _ off]] t0,.row 8 m e t1=>
  (match zH t0 stT&&(zH t1 opT&&zE z 1),slR 2 x1,slR 3 x2,slR 2 x3,slR 3 x4 with
  | true,some a,some b,some c,some d=>some ⟨cap,a,b,c,d,n,m,e,made,armed,off⟩
  | _,_,_,_,_=>none)
 | _,_=>none
theorem sto2_wk{K st:Nat}(h:K≤st){b1 b2:SB}{r:RawS}(hd:decS2 b1 b2=some r)(hw:wfS r=true):WkB K b1 (.lst 9 [rowS2 st (valS r)] stT)∧WkB K b2 (.row 8 (valS r).pend.length (cOp.e st (valS r).pend) opT)∧b1≠.gone∧b2≠.gone:=by
 unfold decS2 at hd
 split at hd
 .rename_i c1 cap x1 x2 x3 x4 c2 n z c3 made c4 armed c5 off t0 m e t1
  split at hd
  .rename_i ht h1 h2 h3 h4
   injection hd with hd;subst hd
   simp only[wfS,zD]at hw
   obtain⟨w0,w1,w2,w3,w4,w5⟩:=hw
   have:=zI w0
   subst this
   rw[zD,zD]at ht
   have:=zI ht.1
   subst this
   have:=zI ht.2.1
   subst this
   have hn:(cOp.ls n e).length=n:=cOp.ls_len
   refine⟨.lst1 (.cons Wk.int (.cons (cNm.sl_none h1 w1 h) (.cons (cNd.sl_none h2 w2 h) (.cons (cNm.sl_none h3 w3 h) (.cons (cNd.sl_none h4 w4 h) (.cons ?_ (.cons Wk.int (.cons Wk.int (.cons Wk.bool .nil))))))))),?_,nofun,nofun⟩
   .show Wk K _ (.nsl 2 8 false 0 (cOp.ls n e).length 1)
    rw[hn]
    exact Wk.nsl (zL ht.2.2)
   .show WkB K _ (.row 8 (cOp.ls n e).length (cOp.e st (cOp.ls n e)) opT)
    rw[hn]
    exact .row (cOp.wf_wk h w5)
  .cases hd
 .cases hd
structure RawJ where
 n:Nat
 sp:Sl
 pos:Int
 ino:Int
 y:Sl
 size:Int
 x:Sl
 s:RawS
def swDec(a:List SV)(b:List SB):Option RawJ:=match a,b with
 | [.int .i64 _ (.ofNat 0),.int .i64 _ (.ofNat n),sp,.int .i64 _ pos,.ptr 0 2 _ 0 0,.ptr 1 9 _ 0 0,.int .i64 _ ino,y],[.lst 2 [[.int .i64 _ size,x]] t0,b1,b2]=>
  (match zH t0 ctT,slR 2 sp,slR 1 y,slR 9 x,decS2 b1 b2 with
  | true,some sp,some y,some x,some s=>some ⟨n,sp,pos,ino,y,size,x,s⟩
  | _,_,_,_,_=>none)
 | _,_=>none
def RawJ.L(r:RawJ):List Spn:=cSp.ls r.sp.1 r.sp.2.2
def RawJ.b(r:RawJ):List UInt8:=cB.ls r.y.1 r.y.2.2
def RawJ.l(r:RawJ):List Xt:=cX.ls r.x.1 r.x.2.2
noncomputable def swPre(r:RawJ):Bool:=zH r.n r.sp.1&&(cSp.wf r.sp.1 r.sp.2.2&&(cB.wf r.y.1 r.y.2.2&&(cX.wf r.x.1 r.x.2.2&&(wfS r.s&&tt (WrOk (valS r.s) r.l r.ino r.pos r.b r.L)))))
def swOut(st:Nat)(size:Int)(l0:List Xt)(S:Sto):List SB:=[ctC st size l0,.lst 9 [rowS2 st S] stT,.row 8 S.pend.length (cOp.e st S.pend) opT]
noncomputable def swG:=gLp swDec swPre fun k r=>⟨(.exit 1,[]),swOut (k+1) r.size r.l (stW r.ino r.pos r.b (valS r.s) r.L),kpW⟩
theorem sw_loop{F0:Fz}(hF0:∀b cs t,F0 b=some (cs,t)→t=0):SubLp F0 env spE (zaf swF 122) 79 850000000000000000 swLive swWs swG:=
 zbg (ts:=swTs) (TWs_ok hF0) hF0 (zaN (n:=79) (by kernel_rfl) (by kernel_rfl)) (ws_ok (by kernel_rfl)) (by decide) (by decide) fun K a b r hr hp=>by
  unfold swPre at hp
  simp only[zD]at hp
  obtain⟨p1,p2,p3,p4,p5,p6⟩:=hp
  have W:=of_tt p6
  have hf:=W.few
  unfold swDec at hr
  split at hr
  .rename_i c1 c2 n sp c3 pos c4 c5 c6 ino y c7 size x t0 b1 b2
   split at hr
   .rename_i sp' y' x' s' ht h1 h2 h3 h4
    injection hr with hr;subst hr
    have ht:=zI ht
    subst ht
    have p1:=zI p1
    simp only at p1 p2 p3 p4 p5
    have hl:(cSp.ls sp'.1 sp'.2.2).length=sp'.1:=cSp.ls_len
    obtain⟨s1,s2,s3,s4⟩:=sto2_wk (zA 0) h4 p5
    refine⟨_,swRo (K+1) (valS s') (cSp.ls sp'.1 sp'.2.2) (cX.ls x'.1 x'.2.2) size ino pos (cB.ls y'.1 y'.2.2) W,⟨0,zJ _⟩,?_,?_,?_,rfl⟩
    .have hf:(cSp.ls sp'.1 sp'.2.2).length≤600:=hf
     show 1400000000000000*((cSp.ls sp'.1 sp'.2.2).length-0+1)≤_
     omega
    .refine .cons Wk.int (.cons (.int_eq ?_) (.cons (cSp.sl_none h1 p2 (zA _)) (.cons Wk.int (.cons Wk.ptr (.cons Wk.ptr (.cons Wk.int (.cons (cB.sl_none h2 p3 (zA _)) .nil)))))))
     rw[hl,p1]
    .exact .cons (.lst1 (.cons Wk.int (.cons (cX.sl_none h3 p4 (zA _)) .nil))) (fun _=>nofun) (.cons s1 (fun _=>s3) (.cons s2 (fun _=>s4) .nil))
   .cases hr
  .cases hr
noncomputable def TSw:Told:=TWs.withL swF 122 (zaD 850000000000000000 swLive swWs swG)
theorem TSw_ok{F0:Fz}(hF0:∀b cs t,F0 b=some (cs,t)→t=0):ToldOk F0 env spE TSw:=zaM (n:=79) (TWs_ok hF0) (by kernel_rfl) (by kernel_rfl) (sw_loop hF0)
noncomputable def wwT(S:Sto)(ino pos:Int)(b:List UInt8):RT Lf:=fnZ false env TSw swF 860000000000000000 [.ptr 0 9 true 0 0,.int .i64 false ino,.int .i64 false pos,.fsl 0 1 b.length none (byE b)] (bsS 0 S)
def wwC(S:Sto)(ino:Int):Int×List Xt:=contI (rI S.now).I ino
def wwP(pos:Int)(b:List UInt8):List Spn:=paL (pos,zB b.length)
def wwJ(S:Sto)(ino pos:Int)(b:List UInt8):RawJ:=⟨(wwP pos b).length,((wwP pos b).length,none,cSp.e 2 (wwP pos b)),pos,ino,(b.length,none,byE b),(wwC S ino).1,((wwC S ino).2.length,none,xtE (wwC S ino).2),swR S⟩
def wwS(S:Sto)(ino pos:Int)(b:List UInt8):Sto:=stW ino pos (wwJ S ino pos b).b (valS (swR S)) (wwJ S ino pos b).L
theorem ww_way(S:Sto)(ino pos:Int)(b:List UInt8):(wwT S ino pos b).follow [false,true,false,true,true,false,true,true]=some ([(S.off,false),((rI S.now).wf&&tt (MayI (rI S.now).I),true),(!hasI (rI S.now).I.nodes ino,false),(decide (pos≥zB 0),true),(decide (zB b.length≤zB 4096),true),(!decide (pos≤IntKind.i64.wrap (zB 1099511627776-zB b.length)),false),(paPre (pos,zB b.length),true),(swPre (wwJ S ino pos b),true)],
  ⟨.ret,[.tup [.int .i64 false (.ofNat b.length),.int .i64 true 0]],bsS 3 (wwS S ino pos b),[some (0,false),none]⟩):=by kernel_rfl
structure WwOk(S:Sto)(ino pos:Int)(b:List UInt8):Prop where
 live:LiveS S
 may:MayI S.now
 has:hasI S.now.nodes ino=true
 lo:0≤pos
 len:1≤b.length
 fit:pos+b.length≤1099511627776
 ok:WrOk S (contI S.now ino).2 ino pos b (wwP pos b)
structure RawQ where
 s:RawS
 ino:Int
 pos:Int
 y:Sl
def wwDec(a:List SV)(b:List SB):Option RawQ:=match a with
 | [.ptr 0 9 _ 0 0,.int .i64 _ ino,.int .i64 _ pos,y]=>(match decS b,slR 1 y with|some s,some y=>some ⟨s,ino,pos,y⟩|_,_=>none)
 | _=>none
def RawQ.b(r:RawQ):List UInt8:=cB.ls r.y.1 r.y.2.2
noncomputable def wwPre(r:RawQ):Bool:=wfS r.s&&(cB.wf r.y.1 r.y.2.2&&tt (WwOk (valS r.s) r.ino r.pos r.b))
noncomputable def gWw:=gSub wwDec wwPre fun k r=>⟨.tup [.int .i64 false (.ofNat r.b.length),.int .i64 true 0],bsS (k+1) (stW r.ino r.pos r.b (valS r.s) (wwP r.pos r.b)),[some (0,false),none]⟩
theorem ww_told{F0:Fz}(hF0:∀b cs t,F0 b=some (cs,t)→t=0):SubOk F0 env spE swF 860000000000000000 gWw:=zaF (z:=false) (TSw_ok hF0) hF0 rfl fun K a b r hr hp=>by
 unfold wwPre at hp
 simp only[zD]at hp
 obtain⟨p1,p2,p3⟩:=hp
 have W:=of_tt p3
 unfold wwDec at hr
 split at hr
 .rename_i c1 c2 ino c3 pos y
  split at hr
  .rename_i s' y' hs hy
   injection hr with hr;subst hr
   simp only at p1 p2
   have W:WwOk (valS s') ino pos (cB.ls y'.1 y'.2.2):=W
   have hb:=W.ok.hb
   have h1:=W.lo
   have h2:=W.len
   have h3:=W.fit
   have eb:(wwJ (valS s') ino pos (cB.ls y'.1 y'.2.2)).b=cB.ls y'.1 y'.2.2:=cB.ls_e 0 _
   have eL:(wwJ (valS s') ino pos (cB.ls y'.1 y'.2.2)).L=wwP pos (cB.ls y'.1 y'.2.2):=cSp.ls_e 2 _
   have el:(wwJ (valS s') ino pos (cB.ls y'.1 y'.2.2)).l=(contI (valS s').now ino).2:=by
    have e:(wwJ (valS s') ino pos (cB.ls y'.1 y'.2.2)).l=(wwC (valS s') ino).2:=cX.ls_e 0 _
    rw[e]
    unfold wwC
    rw[show(rI (valS s').now).I=(valS s').now from I_imV 0 _]
   refine⟨_,_,_,.cons Wk.ptr (.cons Wk.int (.cons Wk.int (.cons (cB.sl_none hy p2 (zA _)) .nil))),zdB (zA _) hs p1,zab (ww_way (valS s') ino pos (cB.ls y'.1 y'.2.2)) ?_,.cons (.tup (.cons Wk.int (.cons Wk.int .nil))) .nil,?_,rfl⟩
   .rw[show(rI (valS s').now).I=(valS s').now from I_imV 0 _,show(rI (valS s').now).wf=true from wf_imV 0 _,tt_t W.may,W.has]
    refine zaa W.live.1 (zaa rfl (zaa rfl (zaa (dt (by simp only[zC];omega)) (zaa (dt (by simp only[zC];omega)) (zaa ?_ (zaa ?_ (zaa ?_ zac)))))))
    .rw[zF _ (by simp only[zC];omega),dt (by simp only[zC];omega)];rfl
    .unfold paPre
     simp only[zD,decide_eq_true_eq,zC]
     omega
    .unfold swPre
     simp only[zD]
     refine⟨Nat.beq_refl _,cSp.wf_e 2 _,wf_by,wf_xt,swR_w _,?_⟩
     rw[eb,eL,el]
     refine tt_t ?_
     show WrOk (valS (swR (valS s'))) _ _ _ _ _
     rw[swR_v]
     exact W.ok
   .unfold wwS
    rw[eb,eL,swR_v]
    exact zcP (zA _) _
  .cases hr
 .cases hr
noncomputable def TSt:Told:=(((TWs.withF swF (zan 860000000000000000 [false,false,false,true] gWw)).withF truncF (zan 340000000000000 [] gTrunc)).withF zdK (zan 20000100000000 [] gAlloc)).withF punchF (zan 340000000000000 [] gPunch)
theorem TSt_ok{F0:Fz}(hF0:∀b cs t,F0 b=some (cs,t)→t=0):ToldOk F0 env spE TSt:=
 zal (zal (zal (zal (TWs_ok hF0) (ww_told hF0)) (trunc_told hF0)) (alloc_told hF0)) (punch_told hF0)
abbrev stF:FuncId:=29
abbrev saF:FuncId:=95
abbrev soF:FuncId:=28
abbrev szF:FuncId:=45
noncomputable def stTt(S:Sto)(ino size:Int):RT Lf:=fnZ false env TSt stF 1800000000000000 [.ptr 0 9 true 0 0,.int .i64 false ino,.int .i64 false size] (bsS 0 S)
noncomputable def saTt(S:Sto)(ino pos n:Int)(keep:Bool):RT Lf:=fnZ false env TSt saF 2000000000000000 [.ptr 0 9 true 0 0,.int .i64 false ino,.int .i64 false pos,.int .i64 false n,.bool false keep] (bsS 0 S)
noncomputable def soTt(S:Sto)(name:List UInt8)(mk:Bool):RT Lf:=fnZ false env TSt soF 1500000000000000 [.ptr 0 9 true 0 0,.str false name,.bool false mk] (bsS 0 S)
noncomputable def szTt(S:Sto)(ino:Int):RT Lf:=fnZ false env TSt szF 510000000000000 [.ptr 0 9 true 0 0,.int .i64 false ino] (bsS 0 S)
def nilS:Sl:=(0,none,fun _=>[])
def trO(ino size:Int):RawO:=⟨3,ino,0,size,false,[],[],nilS⟩
def crO(S:Sto)(name:List UInt8):RawO:=⟨1,IntKind.i64.wrap (S.made+zB 1),0,0,false,name,[],nilS⟩
noncomputable def stI(S:Sto)(ino:Int):List (Bool×Bool):=[(S.off,false),((rI S.now).wf&&tt (MayI (rI S.now).I),true),(!hasI (rI S.now).I.nodes ino,false)]
def stC(S:Sto)(ino:Int):RawC:=⟨(wwC S ino).1,((wwC S ino).2.length,none,xtE (wwC S ino).2)⟩
theorem st_way(S:Sto)(ino size:Int):(stTt S ino size).follow [false,true,false,true,true]=some (stI S ino++[(trPre (stC S ino,size),true),(doPre (swR S,trO ino size),true)],
  ⟨.ret,[.int .i64 true 0],bsS 3 (doL (valS (swR S)) (trO ino size).o),[some (0,false),none]⟩):=by kernel_rfl
theorem sz_way(S:Sto)(ino:Int):(szTt S ino).follow [false,true,false]=some (stI S ino,⟨.ret,[.tup [.int .i64 false (wwC S ino).1,.int .i64 true 0]],bsS 0 S,kp2⟩):=by kernel_rfl
noncomputable def soI(S:Sto)(name:List UInt8):List (Bool×Bool):=[(S.off,false),(zbJ name,true),((rI S.now).wf&&tt (MayI (rI S.now).I),true)]
def soS(S:Sto)(name:List UInt8):Sto:=⟨(doL (valS (swR S)) (crO S name).o).cap,(doL (valS (swR S)) (crO S name).o).now,(doL (valS (swR S)) (crO S name).o).kept,(doL (valS (swR S)) (crO S name).o).pend,IntKind.i64.wrap ((doL (valS (swR S)) (crO S name).o).made+zB 1),(doL (valS (swR S)) (crO S name).o).armed,(doL (valS (swR S)) (crO S name).o).off⟩
theorem so_found(S:Sto)(name:List UInt8)(mk:Bool):(soTt S name mk).follow [false,true,true,false]=some (soI S name++[(!(findS (rI S.now).I name).2,false)],⟨.ret,[.tup [.int .i64 false (findS (rI S.now).I name).1,.int .i64 true 0]],bsS 0 S,kp2⟩):=by kernel_rfl
theorem so_make(S:Sto)(name:List UInt8)(mk:Bool):(soTt S name mk).follow [false,true,true,true,false,false,true]=some (soI S name++[(!(findS (rI S.now).I name).2,true),(!mk,false),(decide (zB S.now.names.length≥zB 16),false),(doPre (swR S,crO S name),true)],
  ⟨.ret,[.tup [.int .i64 false (soS S name).made,.int .i64 true 0]],bsS 3 (soS S name),[some (0,false),none]⟩):=by kernel_rfl
def gSub2{ρ:Type}(dec:List SV→List SB→Option ρ)(pre pb:ρ→Bool)(o1 o2:Nat→ρ→Left SV)(k:Nat)(a:List SV)(b:List SB):RT (Left SV):=
 match dec a b with
 | some r=>.br (pre r) (.br (pb r) (.ret (o1 k r)) (.ret (o2 k r))) .bad
 | none=>.bad
theorem sub_spec2{z:Bool}{E:Env}{sp:Sp}{T:Told}{F0:Fz}(hT:ToldOk F0 E sp T)(hF0:∀b cs t,F0 b=some (cs,t)→t=0){f:FuncId}(hf:T.pf f=none){c:Nat}{ρ:Type}{dec:List SV→List SB→Option ρ}{pre pb:ρ→Bool}{o1 o2:Nat→ρ→Left SV}
  (hrun:∀k a b r,dec a b=some r→pre r=true→∃a0 b0 lf,WkL 0 a a0∧WkBs 0 b b0∧(fnZ z E T f c a0 b0).sel=some lf∧WkL (k+1) lf.vs [(match pb r with|true=>o1 k r|false=>o2 k r).v]∧WkBs (k+1) lf.bs (match pb r with|true=>o1 k r|false=>o2 k r).bs∧kpLe lf.kp (match pb r with|true=>o1 k r|false=>o2 k r).kp=true) :
  SubOk F0 E sp f c (gSub2 dec pre pb o1 o2):=fun F ι k h args args' bs L b h0 H hbs hl hg=>by
 unfold gSub2 at hg
 split at hg
 .rename_i r hr
  cases hp:pre r with
  | false=>rw[hp]at hg;cases hg
  | true=>
   rw[hp]at hg
   obtain⟨a0,b0,lf,w1,w2,w3,w4,w5,w6⟩:=hrun k args bs r hr hp
   cases hq:pb r with
   | true=>
    rw[hq]at hg w4 w5 w6
    simp only[RT.sel,cond_true,zN]at hg
    subst hg
    exact sub_of_z hT hF0 hf w3 hbs w1 w2 w4 w5 w6 h0 H hl b
   | false=>
    rw[hq]at hg w4 w5 w6
    simp only[RT.sel,cond_true,cond_false,zN]at hg
    subst hg
    exact sub_of_z hT hF0 hf w3 hbs w1 w2 w4 w5 w6 h0 H hl b
 .cases hg
theorem rI_I(I:Img):(rI I).I=I:=I_imV 0 I
theorem rI_w(I:Img):(rI I).wf=true:=wf_imV 0 I
def trOp(ino size:Int):Opn:=⟨3,ino,0,size,false,[],[],[]⟩
theorem trO_o(ino size:Int):(trO ino size).o=trOp ino size:=rfl
structure HasS(S:Sto)(ino:Int):Prop where
 off:S.off=false
 may:MayI S.now
 has:hasI S.now.nodes ino=true
theorem stI_ok{S:Sto}{ino:Int}(h:HasS S ino):eqs_ (stI S ino)=true:=by
 unfold stI
 rw[rI_I,rI_w,tt_t h.may,h.has]
 exact zaa h.off (zaa rfl (zaa rfl zac))
theorem HasS.cont{S:Sto}{ino:Int}(h:HasS S ino):OkC (contI S.now ino).1 (contI S.now ino).2:=by
 obtain⟨h1,_⟩:=zcJ h.has
 unfold contI
 rw[h.has]
 simp only
 have e:S.now.nodes.getD (lowI S.now.nodes ino) nd0=S.now.nodes[lowI S.now.nodes ino]:=zaI h1
 rw[e]
 exact zaO.1 (h.may.ok _ (List.getElem_mem h1))
structure TrOk(S:Sto)(ino size:Int):Prop where
 has:HasS S ino
 armed:S.armed<0
 few:S.pend.length≤100000
 lo:0≤size
 hi:size≤1099511627776
theorem tr_ap{S:Sto}{ino size:Int}(h:TrOk S ino size):ApOk S.now (trOp ino size):=
 ⟨⟨show(1:Int)≤3 by decide,show(3:Int)≤5 by decide⟩,fun e=>by simp[trOp]at e,fun _=>h.has.has,fun e=>by simp[trOp]at e,fun _=>⟨h.lo,h.hi⟩,fun e=>by simp[trOp]at e,fun e=>by simp[trOp]at e⟩
theorem doPre_ok{S:Sto}{o:RawO}(hL:LiveS S)(hn:S.pend.length≤100000)(hw:o.wf=true)(hM:MayI S.now)(hA:ApOk S.now o.o):doPre (swR S,o)=true:=by
 unfold doPre
 simp only[zD]
 refine⟨swR_w S,hw,ble_t hn,?_,decide_eq_true hL.2,?_⟩
 .show(!S.off)=true
  rw[hL.1];rfl
 .rw[swR_v]
  exact tt_t ⟨hM,hA⟩
structure RawK where
 s:RawS
 ino:Int
 size:Int
def tsDec(a:List SV)(b:List SB):Option RawK:=match a with
 | [.ptr 0 9 _ 0 0,.int .i64 _ ino,.int .i64 _ size]=>(match decS b with|some s=>some ⟨s,ino,size⟩|none=>none)
 | _=>none
noncomputable def tsPre(r:RawK):Bool:=wfS r.s&&tt (TrOk (valS r.s) r.ino r.size)
noncomputable def gTs:=gSub tsDec tsPre fun k r=>⟨.int .i64 true 0,bsS (k+1) (doL (valS r.s) (trOp r.ino r.size)),[some (0,false),none]⟩
theorem ts_told{F0:Fz}(hF0:∀b cs t,F0 b=some (cs,t)→t=0):SubOk F0 env spE stF 1800000000000000 gTs:=zaF (z:=false) (TSt_ok hF0) hF0 rfl fun K a b r hr hp=>by
 unfold tsPre at hp
 rw[zD]at hp
 obtain⟨p1,p2⟩:=hp
 have W:=of_tt p2
 unfold tsDec at hr
 split at hr
 .split at hr
  .rename_i c1 ino c2 size x s' hs
   injection hr with hr;subst hr
   have W:TrOk (valS s') ino size:=W
   have hC:=W.has.cont
   have hlen:=hC.len
   refine⟨_,_,_,.cons Wk.ptr (.cons Wk.int (.cons Wk.int .nil)),zdB (zA _) hs p1,zab (st_way (valS s') ino size) (zag (stI_ok W.has) (zaa ?_ (zaa ?_ zac))),.cons Wk.int .nil,?_,rfl⟩
   .have el:(stC (valS s') ino).l=(contI (valS s').now ino).2:=by
     have e:(stC (valS s') ino).l=(wwC (valS s') ino).2:=cX.ls_e 0 _
     rw[e];unfold wwC;rw[rI_I]
    have es:(stC (valS s') ino).size=(contI (valS s').now ino).1:=by
     show(wwC (valS s') ino).1=_
     unfold wwC;rw[rI_I]
    unfold trPre
    simp only[zD]
    refine⟨?_,?_,decide_eq_true W.lo,decide_eq_true W.hi⟩
    .have e2:(wwC (valS s') ino).2=(contI (valS s').now ino).2:=by unfold wwC;rw[rI_I]
     unfold RawC.wf stC
     simp only
     rw[e2,ble_t (by omega)]
     exact wf_xt
    .rw[el,es];exact zaO.2 hC
   .exact doPre_ok ⟨W.has.off,W.armed⟩ W.few rfl W.has.may (by rw[trO_o];exact tr_ap W)
   .rw[swR_v,trO_o]
    exact zcP (zA _) _
  .cases hr
 .cases hr
def zsDec(a:List SV)(b:List SB):Option (RawS×Int):=match a with
 | [.ptr 0 9 _ 0 0,.int .i64 _ ino]=>(match decS b with|some s=>some (s,ino)|none=>none)
 | _=>none
noncomputable def zsPre(r:RawS×Int):Bool:=wfS r.1&&tt (HasS (valS r.1) r.2)
noncomputable def gZs:=gSub zsDec zsPre fun k r=>⟨.tup [.int .i64 false (contI (valS r.1).now r.2).1,.int .i64 true 0],bsS (k+1) (valS r.1),kp2⟩
theorem zs_told{F0:Fz}(hF0:∀b cs t,F0 b=some (cs,t)→t=0):SubOk F0 env spE szF 510000000000000 gZs:=zaF (z:=false) (TSt_ok hF0) hF0 rfl fun K a b r hr hp=>by
 unfold zsPre at hp
 rw[zD]at hp
 obtain⟨p1,p2⟩:=hp
 have W:=of_tt p2
 unfold zsDec at hr
 split at hr
 .split at hr
  .rename_i c1 c2 ino x s' hs
   injection hr with hr;subst hr
   exact⟨_,_,_,.cons Wk.ptr (.cons Wk.int .nil),zdB (zA _) hs p1,zab (sz_way (valS s') ino) (stI_ok W),.cons (.tup (.cons (.int_eq (by unfold wwC;rw[rI_I])) (.cons Wk.int .nil))) .nil,zcP (zA _) _,rfl⟩
  .cases hr
 .cases hr
def crOp(S:Sto)(name:List UInt8):Opn:=⟨1,S.made+1,0,0,false,name,[],[]⟩
def opL(S:Sto)(name:List UInt8):Sto:=⟨S.cap,zaL S.now (crOp S name),S.kept,S.pend++[crOp S name],S.made+1,S.armed,S.off⟩
structure OpOk(S:Sto)(name:List UInt8)(mk:Bool):Prop where
 off:S.off=false
 may:MayI S.now
 nm:zbJ name=true
 new:hasS S.now.names name=false→mk=true∧S.armed<0∧S.pend.length≤100000∧0≤S.made∧S.made≤1099511627776∧ApC1 S.now (crOp S name)
structure RawN where
 s:RawS
 name:List UInt8
 made:Bool
def opDec(a:List SV)(b:List SB):Option RawN:=match a with
 | [.ptr 0 9 _ 0 0,.str _ name,.bool _ mk]=>(match decS b with|some s=>some ⟨s,name,mk⟩|none=>none)
 | _=>none
noncomputable def opPre(r:RawN):Bool:=wfS r.s&&tt (OpOk (valS r.s) r.name r.made)
noncomputable def gOpen:=gSub2 opDec opPre (fun r=>hasS (valS r.s).now.names r.name) (fun k r=>⟨.tup [.int .i64 false (findS (valS r.s).now r.name).1,.int .i64 true 0],bsS (k+1) (valS r.s),kp2⟩)
 fun k r=>⟨.tup [.int .i64 false ((valS r.s).made+1),.int .i64 true 0],bsS (k+1) (opL (valS r.s) r.name),[some (0,false),none]⟩
theorem soI_ok{S:Sto}{name:List UInt8}{mk:Bool}(h:OpOk S name mk):eqs_ (soI S name)=true:=by
 unfold soI
 rw[rI_I,rI_w,tt_t h.may,h.nm]
 exact zaa h.off (zaa rfl (zaa rfl zac))
theorem crO_o{S:Sto}{name:List UInt8}(h1:0≤S.made)(h2:S.made≤1099511627776):(crO S name).o=crOp S name:=by
 unfold crO RawO.o crOp
 simp only
 rw[zF _ (by simp only[zC];omega)]
 rfl
theorem open_told{F0:Fz}(hF0:∀b cs t,F0 b=some (cs,t)→t=0):SubOk F0 env spE soF 1500000000000000 gOpen:=sub_spec2 (z:=false) (TSt_ok hF0) hF0 rfl fun K a b r hr hp=>by
 unfold opPre at hp
 rw[zD]at hp
 obtain⟨p1,p2⟩:=hp
 have W:=of_tt p2
 unfold opDec at hr
 split at hr
 .split at hr
  .rename_i c1 c2 name c3 mk x s' hs
   injection hr with hr;subst hr
   have W:OpOk (valS s') name mk:=W
   cases hb:hasS (valS s').now.names name with
   | true=>
    have e2:(findS (valS s').now name).2=true:=by unfold findS;rw[hb]
    simp only[hb]
    refine⟨_,_,_,.cons Wk.ptr (.cons Wk.str (.cons Wk.bool .nil)),zdB (zA _) hs p1,zab (so_found (valS s') name mk) (zag (soI_ok W) (zaa (by rw[rI_I,e2];rfl) zac)),.cons (.tup (.cons (.int_eq (by rw[rI_I])) (.cons Wk.int .nil))) .nil,zcP (zA _) _,rfl⟩
   | false=>
    obtain⟨q1,q2,q3,q4,q5,q6⟩:=W.new hb
    have e2:(findS (valS s').now name).2=false:=by unfold findS;rw[hb]
    have eo:=crO_o (S:=valS s') (name:=name) q4 q5
    have ew:IntKind.i64.wrap ((valS s').made+zB 1)=(valS s').made+1:=zF _ (by simp only[zC];omega)
    have eS:soS (valS s') name=opL (valS s') name:=by
     unfold soS
     rw[swR_v,eo]
     unfold doL opL
     simp only
     rw[ew]
    have hap:ApOk (valS s').now (crOp (valS s') name):=⟨⟨show(1:Int)≤1 by decide,show(1:Int)≤5 by decide⟩,fun _=>q6,fun e=>absurd rfl e,fun e=>by simp[crOp]at e,fun e=>by simp[crOp]at e,fun e=>by simp[crOp]at e,fun e=>by simp[crOp]at e⟩
    have hfew:=q6.few
    simp only[hb]
    refine⟨_,_,_,.cons Wk.ptr (.cons Wk.str (.cons Wk.bool .nil)),zdB (zA _) hs p1,zab (so_make (valS s') name mk) (zag (soI_ok W) (zaa (by rw[rI_I,e2];rfl) (zaa (by rw[q1];rfl) (zaa (df (by simp only[zC];omega)) (zaa (doPre_ok ⟨W.off,q2⟩ q3 rfl W.may (by rw[eo];exact hap)) zac))))),.cons (.tup (.cons (.int_eq ?_) (.cons Wk.int .nil))) .nil,?_,rfl⟩
    .rw[eS];rfl
    .rw[eS]
     exact zcP (zA _) _
  .cases hr
 .cases hr
end Go.Proofs.YtponjccgpbgnoaaGreatDoor.Se
namespace Go.Proofs.YtponjccgpbgnoaaGreatDoor.Se
open Go Go.Proofs.YtponjccgpbgnoaaGreatDoor Go.RowKit
set_option maxRecDepth 20000
variable [Inhabited QI]
theorem HRs.phantom{F:Fz}{ι:Im}{k c:Nat}{log:List Nat}{bs:List SB}{h:Hp}(H:HRs F ι (shOf k c log bs) h)(hb:bs.length+1<4000)(w:Nat)(e:Nat→List SV)(t:TypeId):HRs F ι (shOf k c log (bs++[.row w 0 e t])) h:=by
 have hl:(bs++[SB.row w 0 e t]).length=bs.length+1:=by simp
 have g1:∀j,(shOf k c log bs).get j=bs[j]?:=fun j=>zay (by omega) j
 have g2:∀j,(shOf k c log (bs++[SB.row w 0 e t])).get j=(bs++[SB.row w 0 e t])[j]?:=fun j=>zay (by omega) j
 have hnone:∀id,bs.length≤id→ι id=none:=fun id hid=>(H.sdom id hid).2
 have hcase:∀id sb,(bs++[SB.row w 0 e t])[id]?=some sb→bs[id]?=some sb∨(id=bs.length∧sb=.row w 0 e t):=fun id sb hs=>by
  by_cases q:id<bs.length
  .rw[List.getElem?_append_left q]at hs;exact .inl hs
  .rw[List.getElem?_append_right (by omega)]at hs
   by_cases q2:id=bs.length
   .subst q2;simp at hs;exact .inr ⟨rfl,hs.symm⟩
   .obtain⟨m,hm⟩:∃m,id-bs.length=m+1:=⟨id-bs.length-1,by omega⟩
    rw[hm]at hs;simp at hs
 have hlive:∀id B,Live (shOf k c log (bs++[SB.row w 0 e t])) id→ι id=some B→Live (shOf k c log bs) id:=fun id B ⟨sb,hs,hg⟩ hi=>by
  rw[g2]at hs
  rcases hcase id sb hs with q|⟨q,_⟩
  .exact⟨sb,by rw[g1];exact q,hg⟩
  .subst q;rw[hnone _ (zA _)]at hi;cases hi
 refine⟨H.most,?_,fun id hid=>?_,fun id sb hs=>?_,fun id id' B B' hne l1 l2 e1 e2=>H.apart id id' B B' hne (hlive id B l1 e1) (hlive id' B' l2 e2) e1 e2,H.frz,fun b x id B hF l1 e1=>H.fap b x id B hF (hlive id B l1 e1) e1⟩
 .show(bs++[SB.row w 0 e t]).length≤_
  omega
 .have hid:(bs++[SB.row w 0 e t]).length≤id:=hid
  refine⟨?_,hnone id (by omega)⟩
  rw[g2]
  exact List.getElem?_eq_none hid
 .rw[g2]at hs
  rcases hcase id sb hs with q|⟨q1,q2⟩
  .exact H.ok id sb (by rw[g1];exact q)
  .subst q1 q2
   exact .inl ⟨rfl,hnone _ (zA _)⟩
theorem SubOk.phantom{F0:Fz}{E:Env}{sp:Sp}{f:FuncId}{c:Nat}{g g2:Nat→List SV→List SB→RT (Left SV)}(hg:SubOk F0 E sp f c g)
  (h2:∀k a b L2,(g2 k a b).sel=some L2→∃L w e t,(g k a b).sel=some L∧L.bs.length+1<4000∧L2.v=L.v∧L2.bs=L.bs++[.row w 0 e t]∧L2.kp=L.kp):SubOk F0 E sp f c g2:=fun F ι k h args args' bs L2 b h0 H hbs hl hs=>by
 obtain⟨L,w,e,t,q1,q2,q3,q4,q5⟩:=h2 k args bs L2 hs
 obtain⟨N,v',h',F',ι',r1,r2,r3,r4⟩:=hg F ι k h args args' bs L b h0 H hbs hl q1
 refine⟨N,v',h',F',ι',r1,by rw[q3];exact r2,?_,by rw[q5];exact r4⟩
 rw[q4]
 exact r3.phantom q2 w e t
end Go.Proofs.YtponjccgpbgnoaaGreatDoor.Se
