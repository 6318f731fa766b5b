/- (*Store).Allocate, told. -/
import Derived.Test.YtponjccgpbgnoaaGreatDoorTa
import Derived.Test.YtponjccgpbgnoaaGreatDoorDecB
import Derived.Test.YtponjccgpbgnoaaGreatDoorSh
set_option linter.unusedVariables false
set_option linter.unusedSimpArgs false
set_option linter.unusedSectionVars false
open Int renaming ofNat→zA,ofNat_eq_natCast→zC
open Go.IntWalk renaming i64_in→zB
open Nat renaming le_refl→zD
open Bool renaming and_eq_true→zE
namespace Go.Proofs.YtponjccgpbgnoaaGreatDoor.Se
open Go Go.Proofs.YtponjccgpbgnoaaGreatDoor Go.RowKit
set_option maxRecDepth 1000000
variable [Inhabited QI]
def alOp(ino pos n:Int)(keep:Bool):Opn:=⟨4,ino,pos,n,keep,[],[],[]⟩
def alO(ino pos n:Int)(keep:Bool):RawO:=⟨4,ino,pos,n,keep,[],[],nilS⟩
theorem alO_o(ino pos n:Int)(keep:Bool):(alO ino pos n keep).o=alOp ino pos n keep:=rfl
def saX(S:Sto)(ino pos n:Int):List Xt:=alX (stC S ino).l pos n
def saD(S:Sto)(ino pos n:Int):Bool:=decide (IntKind.i64.wrap (zA (saX S ino pos n).length-zA (wwC S ino).2.length)>mxI 0 (IntKind.i64.wrap (S.cap-zA (usedI (rI S.now).I.nodes))))
noncomputable def saI(S:Sto)(ino pos n:Int)(keep:Bool):List (Bool×Bool):=stI S ino++[(aPre ⟨stC S ino,pos,n,keep⟩,true),((rI S.now).wf&&tt (MayI (rI S.now).I),true)]
theorem sa_full(S:Sto)(ino pos n:Int)(keep:Bool):(saTt S ino pos n keep).follow [false,true,false,true,true,true]=some (saI S ino pos n keep++[(saD S ino pos n,true)],⟨.ret,[.int .i64 true 4],bsS 0 S,kp2⟩):=by kernel_rfl
theorem sa_fits(S:Sto)(ino pos n:Int)(keep:Bool):(saTt S ino pos n keep).follow [false,true,false,true,true,false,true]=some (saI S ino pos n keep++[(saD S ino pos n,false),(doPre (swR S,alO ino pos n keep),true)],
  ⟨.ret,[.int .i64 true 0],bsS 4 (doL (valS (swR S)) (alO ino pos n keep).o),[some (0,false),none]⟩):=by kernel_rfl
structure AlOk(S:Sto)(ino pos n:Int):Prop where
 has:HasS S ino
 armed:S.armed<0
 few:S.pend.length≤100000
 ok:okA pos n=true
 dir:DirA (contI S.now ino).2 (.ofNat (pos.toNat / 8)) (cntA pos n)
 lo:0≤S.cap
 hi:S.cap≤4096
 used:usedI S.now.nodes≤1099511627776
def alFull(S:Sto)(ino pos n:Int):Bool:=decide (((alX (contI S.now ino).2 pos n).length:Int)-((contI S.now ino).2.length:Int)>max 0 (S.cap-(usedI S.now.nodes:Int)))
structure RawAl where
 s:RawS
 ino:Int
 pos:Int
 n:Int
 keep:Bool
def saDec2(a:List SV)(b:List SB):Option RawAl:=match a with
 | [.ptr 0 9 _ 0 0,.int .i64 _ ino,.int .i64 _ pos,.int .i64 _ n,.bool _ keep]=>(match decS b with|some s=>some ⟨s,ino,pos,n,keep⟩|none=>none)
 | _=>none
noncomputable def saPre2(r:RawAl):Bool:=wfS r.s&&tt (AlOk (valS r.s) r.ino r.pos r.n)
noncomputable def gSal:=gSub2 saDec2 saPre2 (fun r=>alFull (valS r.s) r.ino r.pos r.n) (fun k r=>⟨.int .i64 true 4,bsS (k+1) (valS r.s),kp2⟩)
 fun k r=>⟨.int .i64 true 0,bsS (k+1) (doL (valS r.s) (alOp r.ino r.pos r.n r.keep)),[some (0,false),none]⟩
theorem alX_len{l:List Xt}{pos n:Int}:(alX l pos n).length≤l.length+cntA pos n:=by
 unfold alX
 generalize cntA pos n=c
 generalize zA (pos.toNat / 8)=no
 induction c generalizing l no with
 | zero=>exact zD _
 | succ c ih=>
  show(zbi (needX l no) (no+1) c).length≤_
  have h1:=ih (l:=needX l no) (no:=no+1)
  have h2:(needX l no).length≤l.length+1:=by
   unfold needX
   split
   .omega
   .unfold insA;simp only[List.length_append,List.length_cons,List.length_take,List.length_drop];omega
  omega
theorem al_ap{S:Sto}{ino pos n:Int}{keep:Bool}(h:AlOk S ino pos n):ApOk S.now (alOp ino pos n keep):=
 ⟨⟨show(1:Int)≤4 by decide,show(4:Int)≤5 by decide⟩,fun e=>by simp[alOp]at e,fun _=>h.has.has,fun e=>by simp[alOp]at e,fun e=>by simp[alOp]at e,fun _=>⟨h.ok,h.dir⟩,fun e=>by simp[alOp]at e⟩
theorem sal_told{F0:Fz}(hF0:∀b cs t,F0 b=some (cs,t)→t=0):SubOk F0 env spE saF 2000000000000000 gSal:=sub_spec2 (z:=false) (TSt_ok hF0) hF0 rfl fun K a b r hr hp=>by
 unfold saPre2 at hp
 rw[zE]at hp
 obtain⟨p1,p2⟩:=hp
 have W:=of_tt p2
 unfold saDec2 at hr
 split at hr
 .split at hr
  .rename_i c1 ino c2 pos c3 n c4 keep x s' hs
   injection hr with hr;subst hr
   have W:AlOk (valS s') ino pos n:=W
   have hC:=W.has.cont
   have hlen:=hC.len
   obtain⟨a1,a2,a3,a4⟩:=okA_of W.ok
   have el:(stC (valS s') ino).l=(contI (valS s').now ino).2:=by
    have e:(stC (valS s') ino).l=(wwC (valS s') ino).2:=cX.ls_e 0 _
    rw[e];unfold wwC;rw[rI_I]
   have es:(stC (valS s') ino).size=(contI (valS s').now ino).1:=by
    show(wwC (valS s') ino).1=_
    unfold wwC;rw[rI_I]
   have e2:(wwC (valS s') ino).2=(contI (valS s').now ino).2:=by unfold wwC;rw[rI_I]
   have hI:eqs_ (saI (valS s') ino pos n keep)=true:=by
    unfold saI
    refine zag (stI_ok W.has) (zaa ?_ (zaa ?_ zac))
    .unfold aPre
     simp only[zE]
     refine⟨?_,?_,W.ok,?_⟩
     .unfold RawC.wf stC
      simp only
      rw[e2,ble_t (by omega)]
      exact wf_xt
     .rw[el,es];exact zaO.2 hC
     .rw[el];exact tt_t W.dir
    .rw[rI_w,rI_I,tt_t W.has.may];rfl
   have hcnt:cntA pos n≤8192:=by unfold cntA;omega
   have hD:saD (valS s') ino pos n=alFull (valS s') ino pos n:=by
    have hx:=alX_len (l:=(contI (valS s').now ino).2) (pos:=pos) (n:=n)
    have h3:=W.lo
    have h4:=W.hi
    have h5:=W.used
    unfold saD alFull saX
    rw[el,e2,rI_I,mxI_eq,zB _ (by simp only[zC];omega),zB _ (by simp only[zC];omega)]
    rfl
   cases hf:alFull (valS s') ino pos n with
   | true=>
    refine⟨_,_,_,.cons Wk.ptr (.cons Wk.int (.cons Wk.int (.cons Wk.int (.cons Wk.bool .nil)))),zdB (zD _) hs p1,zab (sa_full (valS s') ino pos n keep) (zag hI (zaa (hD.trans hf) zac)),?_,?_,?_⟩
    .simp only[hf];exact .cons Wk.int .nil
    .simp only[hf];exact zcP (zD _) _
    .simp only[hf];rfl
   | false=>
    refine⟨_,_,_,.cons Wk.ptr (.cons Wk.int (.cons Wk.int (.cons Wk.int (.cons Wk.bool .nil)))),zdB (zD _) hs p1,zab (sa_fits (valS s') ino pos n keep) (zag hI (zaa (hD.trans hf) (zaa ?_ zac))),?_,?_,?_⟩
    .exact doPre_ok ⟨W.has.off,W.armed⟩ W.few rfl W.has.may (by rw[alO_o];exact al_ap W)
    .simp only[hf];exact .cons Wk.int .nil
    .simp only[hf]
     rw[swR_v,alO_o]
     exact zcP (zD _) _
    .simp only[hf];rfl
  .cases hr
 .cases hr
abbrev flF:FuncId:=5
def flLive:List Tmp:=[17,12,13,9,16]
def flTs(e:Ex):List Tmp:=match e with|.normal=>flLive|_=>[16]
def flWs:List Tmp:=[60,61,62,63,64,65,68,69,70,71,72,16,66,67,17]
def flVa(no p q m z:Int):List SV:=[.int .i64 false no,.int .i64 false p,.int .i64 false q,.int .i64 false m,.int .i64 false z]
noncomputable def flT(no p q m z:Int):RT Lf:=zaJ env TNw flF 16378 (zaf flF 16378) 120 flLive flTs 10 (flVa no p q m z) []
theorem fl_stop(no p q m z:Int):(flT no p q m z).follow [false]=some ([(decide (IntKind.i64.wrap (no*zA 8)<IntKind.i64.wrap (p+q)),false)],⟨.exit 0,[.int .i64 false z],[],[]⟩):=by kernel_rfl
theorem fl_more(no p q m z:Int):(flT no p q m z).follow [true,true]=some ([(decide (IntKind.i64.wrap (no*zA 8)<IntKind.i64.wrap (p+q)),true),(decide (no≥m),true)],⟨.normal,flVa (IntKind.i64.wrap (no+zA 1)) p q m (IntKind.i64.wrap (z+zA 1)),[],[]⟩):=by kernel_rfl
theorem fl_there(no p q m z:Int):(flT no p q m z).follow [true,false]=some ([(decide (IntKind.i64.wrap (no*zA 8)<IntKind.i64.wrap (p+q)),true),(decide (no≥m),false)],⟨.normal,flVa (IntKind.i64.wrap (no+zA 1)) p q m z,[],[]⟩):=by kernel_rfl
def ndN(p q m k:Nat):Nat:=p / 8+k-max (p / 8) m
def flN(p q:Nat):Nat:=(p+q+7) / 8-p / 8
noncomputable def flRo(K:Nat)(p q m:Nat)(hp:p≤1000)(hq:q≤1000)(hm:m≤1000):za5 env TNw flF 16378 (zaf flF 16378) 120 flLive flTs 10 K { k:Nat // k≤flN p q } where
 va s:=flVa ((p / 8+s.1:Nat):Int) p q m (ndN p q m s.1:Nat)
 bl s:=[]
 μ s:=flN p q-s.1
 out s:=⟨.exit 0,[.int .i64 false ((ndN p q m (flN p q):Nat):Int)],[],[]⟩
 tsn:=rfl
 small s:=by show 0<4000;omega
 step s:=by
  obtain⟨k,hk⟩:=s
  have e1:IntKind.i64.wrap (((p / 8+k:Nat):Int)*zA 8)=((p / 8+k:Nat):Int)*8:=zB _ (by unfold flN at hk;simp only[zC];omega)
  have e2:IntKind.i64.wrap ((p:Int)+(q:Int))=(p:Int)+q:=zB _ (by omega)
  have e3:IntKind.i64.wrap (((p / 8+k:Nat):Int)+zA 1)=((p / 8+(k+1):Nat):Int):=by
   rw[zB _ (by unfold flN at hk;simp only[zC];omega)]
   simp only[zC];omega
  by_cases h:k<flN p q
  .have h0:decide (IntKind.i64.wrap (((p / 8+k:Nat):Int)*zA 8)<IntKind.i64.wrap ((p:Int)+(q:Int)))=true:=by
    rw[e1,e2]
    exact dt (by unfold flN at h;omega)
   by_cases hm2:m≤p / 8+k
   .have hmx:max (p / 8) m≤p / 8+k:=Nat.max_le.2 ⟨Nat.le_add_right _ _,hm2⟩
    have hzs:((ndN p q m k:Nat):Int)+1=((ndN p q m (k+1):Nat):Int):=by
     unfold ndN
     generalize max (p / 8) m=M at *
     omega
    have hzb:ndN p q m k≤3000:=by
     have hk2:k≤(p+q+7) / 8-p / 8:=hk
     unfold ndN
     generalize max (p / 8) m=M at *
     omega
    refine⟨_,zab (fl_more ((p / 8+k:Nat):Int) p q m (ndN p q m k:Nat)) (zaa h0 (zaa (dt (by omega)) zac)),.inl ⟨rfl,⟨k+1,h⟩,?_,.nil,by show flN p q-(k+1)<flN p q-k;omega,rfl,rfl,rfl,rfl⟩⟩
    refine .cons (.int_eq e3) (.cons Wk.int (.cons Wk.int (.cons Wk.int (.cons (.int_eq ?_) .nil))))
    rw[zB _ (by simp only[zC];omega)]
    exact hzs
   .have hmx:m≤max (p / 8) m:=Nat.le_max_right _ _
    have hzs:((ndN p q m k:Nat):Int)=((ndN p q m (k+1):Nat):Int):=by
     unfold ndN
     generalize max (p / 8) m=M at *
     omega
    refine⟨_,zab (fl_there ((p / 8+k:Nat):Int) p q m (ndN p q m k:Nat)) (zaa h0 (zaa (df (by omega)) zac)),.inl ⟨rfl,⟨k+1,h⟩,?_,.nil,by show flN p q-(k+1)<flN p q-k;omega,rfl,rfl,rfl,rfl⟩⟩
    refine .cons (.int_eq e3) (.cons Wk.int (.cons Wk.int (.cons Wk.int (.cons (.int_eq ?_) .nil))))
    exact hzs
  .have e:k=flN p q:=by omega
   subst e
   refine⟨_,zab (fl_stop _ _ _ _ _) (zaa ?_ zac),.inr ⟨by simp,rfl,.cons Wk.int .nil,.nil,rfl⟩⟩
   rw[e1,e2]
   exact df (by unfold flN;omega)
structure RawFl where
 no:Int
 p:Int
 q:Int
 m:Int
def flDec(a:List SV)(b:List SB):Option RawFl:=match a,b with
 | [.int .i64 _ no,.int .i64 _ p,.int .i64 _ q,.int .i64 _ m,.int .i64 _ (.ofNat 0)],[]=>some ⟨no,p,q,m⟩
 | _,_=>none
def flPre(r:RawFl):Bool:=decide (0≤r.p)&&(decide (r.p≤1000)&&(decide (0≤r.q)&&(decide (r.q≤1000)&&(decide (0≤r.m)&&(decide (r.m≤1000)&&decide (r.no=r.p / 8))))))
def ndI(p q m:Int):Int:=(ndN p.toNat q.toNat m.toNat (flN p.toNat q.toNat):Nat)
noncomputable def flG:=gLp flDec flPre fun k r=>⟨(.exit 0,[(16,.int .i64 false (ndI r.p r.q r.m))]),[],[]⟩
theorem fl_loop{F0:Fz}(hF0:∀b cs t,F0 b=some (cs,t)→t=0):SubLp F0 env spE (zaf flF 16378) 120 30000 flLive flWs flG:=
 zbg (ts:=flTs) (TNw_ok hF0) hF0 (zaN (n:=120) (by kernel_rfl) (by kernel_rfl)) (ws_ok (by kernel_rfl)) (by decide) (by decide) fun K a b r hr hp=>by
  unfold flPre at hp
  simp only[zE,decide_eq_true_eq]at hp
  obtain⟨p1,p2,p3,p4,p5,p6,p7⟩:=hp
  unfold flDec at hr
  split at hr
  .rename_i c1 no c2 p c3 q c4 m c5
   injection hr with hr;subst hr
   simp only at p1 p2 p3 p4 p5 p6 p7
   refine⟨_,flRo (K+1) p.toNat q.toNat m.toNat (by omega) (by omega) (by omega),⟨0,Nat.zero_le _⟩,?_,?_,.nil,rfl⟩
   .show 10*(flN p.toNat q.toNat-0+1)≤_
    unfold flN;omega
   .refine .cons (.int_eq ?_) (.cons (.int_eq ?_) (.cons (.int_eq ?_) (.cons (.int_eq ?_) (.cons (.int_eq ?_) .nil))))
    .show no=((p.toNat / 8+0:Nat):Int)
     omega
    .omega
    .omega
    .omega
    .have hmx:p.toNat / 8≤max (p.toNat / 8) m.toNat:=Nat.le_max_left _ _
     show(0:Int)=((p.toNat / 8+0-max (p.toNat / 8) m.toNat:Nat):Int)
     generalize max (p.toNat / 8) m.toNat=M at *
     omega
  .cases hr
noncomputable def TF0:Told:=(((((TNw.withL flF 16378 (zaD 30000 flLive flWs flG)).withF saF (zan 2000000000000000 [] gSal)).withF 69 (zaq 0 gFindK)).withF decF (zaq 1000 gDec)).withF getF (zaq 10000 gGet)).withF getIF (zan 500000000000000 [true] gGetI)
noncomputable def TFf:Told:=(⟨fun f'=>bif Nat.beq f' intoF then some (zan 860000000000000001 [] gIn)else TF0.pf f',TF0.lp⟩:Told).withF 20 (zaq 0 gTrue)
noncomputable def ffT(b:List UInt8)(room pos n:Nat):RT (SV×SH):=sanswer env TFf 20000 flF [.fsl 0 1 b.length none (byE b),.int .u8 false (.ofNat room),.int .u8 false (.ofNat pos),.int .u8 false (.ofNat n)] sh0
end Go.Proofs.YtponjccgpbgnoaaGreatDoor.Se
