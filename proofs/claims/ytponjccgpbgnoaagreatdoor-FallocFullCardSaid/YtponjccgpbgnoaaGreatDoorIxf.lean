/- image.Copy: an image of its own. -/
import Derived.Test.YtponjccgpbgnoaaGreatDoorCop
set_option linter.unusedVariables false
set_option linter.unusedSimpArgs false
set_option linter.unusedSectionVars false
open Int renaming ofNat→zA,ofNat_eq_natCast→zF
open Nat renaming beq→zB,le_refl→zC,blt→zD,ble→zE,eq_of_beq_eq_true→zH,le_of_ble_eq_true→zJ,beq_refl→zL,zero_add→zM,zero_le→zO
open Bool renaming and_eq_true→zG
open Go.IntWalk renaming i64_in→zI
open List renaming getElem_mem→zK,take_succ_eq_append_getElem→zQ
open Option.some renaming injEq→zN
open Prod.mk renaming injEq→zP
namespace Go.Proofs.YtponjccgpbgnoaaGreatDoor.Se
open Go Go.Proofs.YtponjccgpbgnoaaGreatDoor Go.RowKit
set_option maxRecDepth 1000000
variable [Inhabited QI]
noncomputable def TI0:Told:=TCl.withF copiedI (zan 2000 [] gCopI)
theorem TI0_ok{F0:Fz}(hF0:∀b cs t,F0 b=some (cs,t)→t=0):ToldOk F0 env spE TI0:=zal (TCl_ok hF0) (copI_told hF0)
abbrev imT:TypeId:=33
abbrev copyF:FuncId:=32
def cpLive:List Tmp:=[14,13,1]
def cpTs(e:Ex):List Tmp:=match e with|.normal=>cpLive|_=>[]
def cpWs:List Tmp:=[15,16,3,17,18,19,20,21,22,23,24,25,26,27,28,29,14]
def imN(n m:Nat):List SV:=[.nsl 1 2 false 0 n 1,.nsl 2 3 false 0 m 1]
def imBl(st:Nat)(I:Img):List SB:=[.lst 2 [imN I.names.length I.nodes.length] imT,.row 2 I.names.length (cNm.e st I.names) nmT,.row 3 I.nodes.length (cNd.e st I.nodes) ndT]
def cpVa(i n:Nat):List SV:=[.int .i64 false (.ofNat i),.int .i64 false (.ofNat n),.ptr 0 2 true 0 0]
def cpVa'(I:Img)(i:Nat):List SV:=[.int .i64 false (IntKind.i64.wrap (zA i+zA 1)),.int .i64 false (.ofNat I.nodes.length),.ptr 0 2 true 0 0]
noncomputable def cpT(I:Img)(i:Nat):RT Lf:=zaJ env TI0 copyF 58 (zaf copyF 58) 31 cpLive cpTs 3000 (cpVa i I.nodes.length) (imBl 0 I)
def cpN(I:Img)(i:Nat):Nd:=I.nodes.getD (0+i) nd0
def cpDom(I:Img)(i:Nat):Bool:=zE (cpN I i).l.length 1099511627776&&cX.wf (cpN I i).l.length (xtE (cpN I i).l)
def cpRow(I:Img)(i q:Nat):List SV:=muxR 3 (zB q (0+i)) (ndRow 1 ⟨(I.nodes.getD q nd0).ino,(cpN I i).size,cX.ls (cpN I i).l.length (xtE (cpN I i).l)⟩) (ndRow 0 (I.nodes.getD q nd0))
def cpKp(s:Bool):List (Option (Nat×Bool)):=[some (0,true),some (1,true),some (2,s)]
theorem cp_stop(I:Img)(i:Nat):(cpT I i).follow [false]=some ([(decide (zA i<zA I.nodes.length),false)],⟨.exit 0,[],imBl 0 I,cpKp true⟩):=by kernel_rfl
theorem cp_next(I:Img)(i:Nat):(cpT I i).follow [true,true,true,true,true,true]=some ([(decide (zA i<zA I.nodes.length),true),(true,true),(zD i I.nodes.length,true),(cpDom I i,true),(true,true),(zD i I.nodes.length,true)],
  ⟨.normal,cpVa' I i,[.lst 2 [imN I.names.length I.nodes.length] imT,.row 2 I.names.length (cNm.e 0 I.names) nmT,.row 3 I.nodes.length (cpRow I i) ndT],cpKp false⟩):=by kernel_rfl
theorem im_refl{K st st2:Nat}(h:K≤st2)(I:Img):WkBs K (imBl st I) (imBl st2 I):=
 .cons (.lst1 (.cons (Wk.nsl (zC _)) (.cons (Wk.nsl (zC _)) .nil))) (fun _=>by simp) (.cons (.row (cNm.e_refl h)) (fun _=>by simp) (.cons (.row (cNd.e_refl h)) (fun _=>by simp) .nil))
structure FitI(I:Img):Prop where
 n:I.names.length≤65536
 m:I.nodes.length≤65536
 l:∀x∈I.nodes,x.l.length≤1099511627776
theorem FitI.n'{I:Img}(h:FitI I):I.names.length≤1099511627776:=by have:=h.n;omega
theorem FitI.m'{I:Img}(h:FitI I):I.nodes.length≤1099511627776:=by have:=h.m;omega
theorem cpDom_ok{I:Img}(h:FitI I){i:Nat}(hi:i<I.nodes.length):cpDom I i=true:=by
 unfold cpDom cpN
 rw[zM,zaI hi,ble_t (h.l _ (zK hi))]
 exact wf_xt
noncomputable def cpR(K:Nat)(I:Img)(hI:FitI I):za5 env TI0 copyF 58 (zaf copyF 58) 31 cpLive cpTs 3000 (K+1) { i:Nat // i≤I.nodes.length } where
 va s:=cpVa s.1 I.nodes.length
 bl s:=imBl 0 I
 μ s:=I.nodes.length-s.1
 out s:=⟨.exit 0,[],imBl (K+1) I,cpKp false⟩
 tsn:=rfl
 small s:=by show 3<4000;omega
 step s:=by
  obtain⟨i,hi⟩:=s
  have hm:=hI.m
  by_cases h:i<I.nodes.length
  .have hb:zD i I.nodes.length=true:=blt_t h
   refine⟨_,zab (cp_next I i) ?_,.inl ⟨rfl,⟨i+1,h⟩,?_,?_,by show I.nodes.length-(i+1)<I.nodes.length-i;omega,rfl,rfl,rfl,rfl⟩⟩
   .simp only[List.all_cons,List.all_nil,zaV,hb,cpDom_ok hI h];rfl
   .exact .cons (.int_eq (zap (by omega))) (.cons Wk.int (.cons Wk.ptr .nil))
   .refine .cons (.lst1 (.cons (Wk.nsl (zC _)) (.cons (Wk.nsl (zC _)) .nil))) (fun _=>by simp) (.cons (.row (cNm.e_refl (zC _))) (fun _=>by simp) (.cons (.row ?_) (fun _=>by simp) .nil))
    refine cNd.of_mux (zC _) (fun q=>zB q (0+i)) (fun q=>⟨(I.nodes.getD q nd0).ino,(cpN I i).size,cX.ls (cpN I i).l.length (xtE (cpN I i).l)⟩) (fun q=>I.nodes.getD q nd0) (fun q _=>rfl) fun q hq=>?_
    rw[show cX.ls (cpN I i).l.length (xtE (cpN I i).l)=(cpN I i).l from ls_xt]
    show I.nodes.getD q nd0=_
    cases hqi:zB q (0+i)with
    | true=>
     have:=zH hqi
     subst this
     rfl
    | false=>rfl
  .have hb:zD i I.nodes.length=false:=blt_f h
   refine⟨_,zab (cp_stop I i) ?_,.inr ⟨by simp,rfl,.nil,im_refl (zC _) I,rfl⟩⟩
   simp only[List.all_cons,List.all_nil,zaV,hb];rfl
structure RawI where
 a:Sl
 b:Sl
def RawI.I(r:RawI):Img:=⟨cNm.ls r.a.1 r.a.2.2,cNd.ls r.b.1 r.b.2.2⟩
def RawI.wf(r:RawI):Bool:=cNm.wf r.a.1 r.a.2.2&&cNd.wf r.b.1 r.b.2.2
theorem RawI.la(r:RawI):r.I.names.length=r.a.1:=cNm.ls_len
theorem RawI.lb(r:RawI):r.I.nodes.length=r.b.1:=cNd.ls_len
def decB(bs:List SB):Option (RawI×Nat×Nat):=
 match bs with
 | [.lst 2 [[.nsl 1 2 _ 0 n z1,.nsl 2 3 _ 0 m z2]] t0,.row 2 n' e t1,.row 3 m' f t2]=>(match zB t0 imT&&(zB t1 nmT&&(zB t2 ndT&&(zE z1 1&&zE z2 1)))with
  | true=>some (⟨(n',none,e),(m',none,f)⟩,n,m)
  | false=>none)
 | _=>none
theorem decB_wk{K st:Nat}(hs:K≤st){bs:List SB}{r:RawI}{n m:Nat}(hd:decB bs=some (r,n,m))(hn:n=r.a.1)(hm:m=r.b.1)(hw:r.wf=true):WkBs K bs (imBl st r.I):=by
 unfold decB at hd
 split at hd
 .rename_i c1 n0 z1 c2 m0 z2 t0 n' e t1 m' f t2
  split at hd
  .rename_i ht
   injection hd with hd;injection hd with h1 h2;injection h2 with h2 h3
   subst h1 h2 h3
   simp only[zG]at ht
   obtain⟨a0,a1,a2,a3,a4⟩:=ht
   have:=zH a0
   subst this
   have:=zH a1
   subst this
   have:=zH a2
   subst this
   have a3:=zJ a3
   have a4:=zJ a4
   unfold RawI.wf at hw
   rw[zG]at hw
   have la:=RawI.la ⟨(n',none,e),(m',none,f)⟩
   have lb:=RawI.lb ⟨(n',none,e),(m',none,f)⟩
   unfold imBl
   rw[la,lb]
   simp only at hn hm
   subst hn hm
   exact .cons (.lst1 (.cons (Wk.nsl a3) (.cons (Wk.nsl a4) .nil))) (fun _=>by simp) (.cons (.row (cNm.wf_wk hs hw.1)) (fun _=>by simp) (.cons (.row (cNd.wf_wk hs hw.2)) (fun _=>by simp) .nil))
  .cases hd
 .cases hd
def cpDec(vs:List SV)(bs:List SB):Option (RawI×Nat×Nat×Nat):=
 match vs with
 | [.int .i64 _ (.ofNat 0),.int .i64 _ (.ofNat p),.ptr 0 2 _ 0 0]=>(match decB bs with|some (r,n,m)=>some (r,n,m,p)|none=>none)
 | _=>none
noncomputable def cpPre(r:RawI×Nat×Nat×Nat):Bool:=zB r.2.1 r.1.a.1&&(zB r.2.2.1 r.1.b.1&&(zB r.2.2.2 r.1.b.1&&(r.1.wf&&tt (FitI r.1.I))))
noncomputable def cpG:=gLp cpDec cpPre fun k r=>⟨(.exit 0,[]),imBl (k+1) r.1.I,cpKp false⟩
theorem cp_loop{F0:Fz}(hF0:∀b cs t,F0 b=some (cs,t)→t=0):SubLp F0 env spE (zaf copyF 58) 31 200000000 cpLive cpWs cpG:=
 zbg (ts:=cpTs) (TI0_ok hF0) hF0 (zaN (n:=31) (by kernel_rfl) (by kernel_rfl)) (ws_ok (by kernel_rfl)) (by decide) (by decide) fun k a b r hd hp=>by
  obtain⟨r,n,m,p⟩:=r
  simp only[cpPre,zG]at hp
  obtain⟨p1,p2,p3,p4,p5⟩:=hp
  have p1:=zH p1
  have p2:=zH p2
  have p3:=zH p3
  have hI:=of_tt p5
  unfold cpDec at hd
  split at hd
  .rename_i c1 c2 p' c3
   split at hd
   .rename_i r' n' m' hB
    simp only[zN,zP]at hd
    obtain⟨rfl,rfl,rfl,rfl⟩:=hd
    refine⟨_,cpR k r'.I hI,⟨0,zO _⟩,?_,?_,decB_wk (zC _) hB p1 p2 p4,rfl⟩
    .have:=hI.m
     show 3000*(r'.I.nodes.length-0+1)≤_
     omega
    .show WkL 0 _ (cpVa 0 r'.I.nodes.length)
     rw[r'.lb]
     subst p3
     exact .cons Wk.int (.cons Wk.int (.cons Wk.ptr .nil))
   .cases hd
  .cases hd
noncomputable def TI1:Told:=TI0.withL copyF 58 (zaD 200000000 cpLive cpWs cpG)
theorem TI1_ok{F0:Fz}(hF0:∀b cs t,F0 b=some (cs,t)→t=0):ToldOk F0 env spE TI1:=zaM (n:=31) (TI0_ok hF0) (by kernel_rfl) (by kernel_rfl) (cp_loop hF0)
def imV(st:Nat)(I:Img):SV:=.agg [.fsl st 2 I.names.length none (cNm.e st I.names),.fsl st 3 I.nodes.length none (cNd.e st I.nodes)]
def decI(v:SV):Option RawI:=match v with|.agg [x,y]=>(match slR 2 x,slR 3 y with|some a,some b=>some ⟨a,b⟩|_,_=>none)|_=>none
theorem im_wk{K st:Nat}(hs:K≤st){v:SV}{r:RawI}(hd:decI v=some r)(hw:r.wf=true):Wk K v (imV st r.I):=by
 unfold decI at hd
 split at hd
 .split at hd
  .rename_i a b ha hb
   injection hd with hd;subst hd
   unfold RawI.wf at hw
   rw[zG]at hw
   exact .agg (.cons (cNm.sl_none ha hw.1 hs) (.cons (cNd.sl_none hb hw.2 hs) .nil))
  .cases hd
 .cases hd
theorem wf_imV(st:Nat)(I:Img):(RawI.mk (I.names.length,none,cNm.e st I.names) (I.nodes.length,none,cNd.e st I.nodes)).wf=true:=by
 unfold RawI.wf
 rw[cNm.wf_e,cNd.wf_e];rfl
theorem I_imV(st:Nat)(I:Img):(RawI.mk (I.names.length,none,cNm.e st I.names) (I.nodes.length,none,cNd.e st I.nodes)).I=I:=by
 unfold RawI.I
 rw[cNm.ls_e,cNd.ls_e]
def dec1I(a:List SV)(b:List SB):Option RawI:=match a,b with|[v],[]=>decI v|_,_=>none
noncomputable def gCopy:=gSub dec1I (fun r=>r.wf&&tt (FitI r.I)) fun k r=>⟨.agg [.nsl 0 2 false 0 r.I.names.length 1,.nsl 1 3 false 0 r.I.nodes.length 1],[.row 2 r.I.names.length (cNm.e (k+1) r.I.names) nmT,.row 3 r.I.nodes.length (cNd.e (k+1) r.I.nodes) ndT],[]⟩
noncomputable def copyT(I:Img):RT Lf:=fnZ false env TI1 copyF 200010000 [imV 0 I] []
def cpA(st:Nat)(I:Img):List Nm:=cNm.ls I.names.length (cNm.e st I.names)
def cpB(st:Nat)(I:Img):List Nd:=cNd.ls I.nodes.length (cNd.e st I.nodes)
theorem cpA_eq(st:Nat)(I:Img):cpA st I=I.names:=cNm.ls_e st I.names
theorem cpB_eq(st:Nat)(I:Img):cpB st I=I.nodes:=cNd.ls_e st I.nodes
noncomputable def copyH(I:Img):List (Bool×Bool):=[(zE I.names.length 1099511627776&&cNm.wf I.names.length (cNm.e 0 I.names),true),(zE I.nodes.length 1099511627776&&cNd.wf I.nodes.length (cNd.e 0 I.nodes),true),
 (zB I.names.length I.names.length&&(zB I.nodes.length I.nodes.length&&(zB I.nodes.length I.nodes.length&&(cNm.wf I.names.length (cNm.e 1 (cpA 0 I))&&cNd.wf I.nodes.length (cNd.e 2 (cpB 0 I))&&tt (FitI ⟨cNm.ls I.names.length (cNm.e 1 (cpA 0 I)),cNd.ls I.nodes.length (cNd.e 2 (cpB 0 I))⟩)))),true)]
theorem copy_way(I:Img):(copyT I).follow [true,true,true]=some (copyH I,⟨.ret,[.agg [.nsl 0 2 false 0 I.names.length 1,.nsl 1 3 false 0 I.nodes.length 1]],[.row 2 I.names.length (cNm.e 1 (cpA 0 I)) nmT,.row 3 (cNd.ls I.nodes.length (cNd.e 2 (cpB 0 I))).length (cNd.e 3 (cNd.ls I.nodes.length (cNd.e 2 (cpB 0 I)))) ndT],[]⟩):=by kernel_rfl
theorem copyH_ok{I:Img}(h:FitI I):eqs_ (copyH I)=true:=by
 unfold copyH
 have e1:=cNm.wf_e 1 I.names
 have e2:=cNd.wf_e 2 I.nodes
 have e3:=cNm.ls_e 1 I.names
 have e4:=cNd.ls_e 2 I.nodes
 rw[cpA_eq,cpB_eq,e1,e2,e3,e4,ble_t h.n',ble_t h.m',cNm.wf_e,cNd.wf_e]
 have:tt (FitI ⟨I.names,I.nodes⟩)=true:=tt_t h
 rw[this,zL,zL]
 rfl
theorem copy_told{F0:Fz}(hF0:∀b cs t,F0 b=some (cs,t)→t=0):SubOk F0 env spE copyF 200010000 gCopy:=zaF (z:=false) (TI1_ok hF0) hF0 rfl fun k a b r hd hp=>by
 rw[zG]at hp
 unfold dec1I at hd
 split at hd
 .rename_i v
  refine⟨[imV 0 r.I],[],_,.cons (im_wk (zC _) hd hp.1) .nil,.nil,zab (copy_way r.I) (copyH_ok (of_tt hp.2)),?_,?_,rfl⟩
  .exact .cons (.agg (.cons (Wk.nsl (zC _)) (.cons (Wk.nsl (zC _)) .nil))) .nil
  .rw[cpA_eq,cpB_eq,cNd.ls_e 2 r.I.nodes]
   exact .cons (.row (cNm.e_refl (zC _))) (fun _=>by simp) (.cons (.row (cNd.e_refl (zC _))) (fun _=>by simp) .nil)
 .cases hd
def bsV{α:Type}(C:Cdc α)(cl:FuncId)(key:SV)(l:List α)(i j:Nat):List SV:=[.int .i64 false (.ofNat i),.int .i64 false (.ofNat j),.fn cl [] [],.fsl 0 C.k l.length none (C.e 0 l),key]
def bsW{α:Type}(C:Cdc α)(cl:FuncId)(key:SV)(l:List α)(i j:Int):List SV:=[.int .i64 false i,.int .i64 false j,.fn cl [] [],.fsl 0 C.k l.length none (C.e 0 l),key]
structure BsOk{α κ:Type}(C:Cdc α)(T:Told)(f cl:FuncId)(key:κ→SV)(p:κ→α→Bool):Prop where
 refl:∀K t,Wk K (key t) (key t)
 stop:∀(l:List α) (i j:Nat) (t:κ),(decide (zA i<zA j))=false→(zaJ env T f 60 (zaf f 60) 49 zci bsTs 20 (bsV C cl (key t) l i j) []).sel=some ⟨.exit 0,[.int .i64 false (.ofNat i)],[],[]⟩
 less:∀(l:List α) (i j:Nat) (t:κ),(decide (zA i<zA j))=true→decide (0≤midW i j)=true→zD (midW i j).toNat l.length=true→p t (l.getD (midW i j).toNat C.d)=true→
  (zaJ env T f 60 (zaf f 60) 49 zci bsTs 20 (bsV C cl (key t) l i j) []).sel=some ⟨.normal,bsW C cl (key t) l (IntKind.i64.wrap (midW i j+zA 1)) (.ofNat j),[],[]⟩
 more:∀(l:List α) (i j:Nat) (t:κ),(decide (zA i<zA j))=true→decide (0≤midW i j)=true→zD (midW i j).toNat l.length=true→p t (l.getD (midW i j).toNat C.d)=false→
  (zaJ env T f 60 (zaf f 60) 49 zci bsTs 20 (bsV C cl (key t) l i j) []).sel=some ⟨.normal,bsW C cl (key t) l (.ofNat i) (midW i j),[],[]⟩
noncomputable def bsRG{α κ:Type}{C:Cdc α}{T:Told}{f cl:FuncId}{key:κ→SV}{p:κ→α→Bool}(B:BsOk C T f cl key p)(K:Nat)(l:List α)(t:κ)(hl:l.length≤1099511627776)(hm:Mono (p t) l) :
  za5 env T f 60 (zaf f 60) 49 zci bsTs 20 K { s:Nat×Nat // s.1≤lowG (p t) l∧lowG (p t) l≤s.2∧s.2≤l.length } where
 va s:=bsV C cl (key t) l s.1.1 s.1.2
 bl s:=[]
 μ s:=halv (s.1.2-s.1.1)
 out s:=⟨.exit 0,[.int .i64 false (.ofNat (lowG (p t) l))],[],[]⟩
 tsn:=rfl
 small s:=by show 0<4000;omega
 step s:=by
  obtain⟨⟨i,j⟩,h1,h2,h3⟩:=s
  simp only at h1 h2 h3
  by_cases h:i<j
  .have em:=mid_eq (i:=i) (j:=j) (by omega) (by omega)
   have hm3:(i+j) / 2<l.length:=by omega
   have eg:l.getD ((i+j) / 2) C.d=l[(i+j) / 2]:=zaI hm3
   have a1:decide (zA i<zA j)=true:=dt (by simp only[zF];omega)
   have a2:decide (0≤midW i j)=true:=by rw[em];exact zcb _
   have emid:(midW i j).toNat=(i+j) / 2:=by rw[em];rfl
   have a3:zD (midW i j).toNat l.length=true:=by rw[emid];exact blt_t hm3
   have vs:∀ {x:Int} {y:Nat} {x2:Int} {y2:Nat},x=zA y→x2=zA y2→WkL 0 (bsW C cl (key t) l x x2) (bsV C cl (key t) l y y2):=fun e1 e2=>
    .cons (.int_eq e1) (.cons (.int_eq e2) (.cons Wk.fn0 (.cons (C.fsl_refl (zC _) (.inr rfl)) (.cons (B.refl 0 t) .nil))))
   cases hp:p t (l.getD (midW i j).toNat C.d)with
   | true=>
    have hp':p t l[(i+j) / 2]=true:=by rw[emid,eg]at hp;exact hp
    exact⟨_,B.less l i j t a1 a2 a3 hp,.inl ⟨rfl,⟨((i+j) / 2+1,j),zdt hm hm3 hp',h2,h3⟩,vs (by rw[em];exact zap (by omega)) rfl,.nil,halv_lt (by simp only;omega) (by simp only;omega),rfl,rfl,rfl,rfl⟩⟩
   | false=>
    have hp':p t l[(i+j) / 2]=false:=by rw[emid,eg]at hp;exact hp
    exact⟨_,B.more l i j t a1 a2 a3 hp,.inl ⟨rfl,⟨(i,(i+j) / 2),h1,zcy hm3 hp',by omega⟩,vs rfl em,.nil,halv_lt (by simp only;omega) (by simp only;omega),rfl,rfl,rfl,rfl⟩⟩
  .have e:lowG (p t) l=i:=by omega
   refine⟨_,B.stop l i j t (df (by simp only[zF];omega)),.inr ⟨by simp,rfl,.cons (.int_eq (by rw[e])) .nil,.nil,rfl⟩⟩
structure RawB(κ:Type) where
 n:Nat
 cl:FuncId
 x:Sl
 t:κ
def bsDec{κ:Type}(k:Nat)(dk:SV→Option κ)(vs:List SV)(bs:List SB):Option (RawB κ):=
 match vs,bs with
 | [.int .i64 _ (.ofNat 0),.int .i64 _ (.ofNat n),.fn f [] [],x,y],[]=>(match slR k x,dk y with|some s,some t=>some ⟨n,f,s,t⟩|_,_=>none)
 | _,_=>none
noncomputable def bsPre{α κ:Type}(C:Cdc α)(cl:FuncId)(p:κ→α→Bool)(r:RawB κ):Bool:=zB r.cl cl&&(zB r.n r.x.1&&(zE r.n 1099511627776&&(C.wf r.x.1 r.x.2.2&&tt (Mono (p r.t) (C.ls r.x.1 r.x.2.2)))))
noncomputable def bsGG{α κ:Type}(C:Cdc α)(cl:FuncId)(dk:SV→Option κ)(p:κ→α→Bool):=gLp (bsDec C.k dk) (bsPre C cl p) fun k r=>⟨(.exit 0,[(9,.int .i64 false (.ofNat (lowG (p r.t) (C.ls r.x.1 r.x.2.2))))]),[],[]⟩
theorem bsG_loop{α κ:Type}{C:Cdc α}{T:Told}{f cl:FuncId}{key:κ→SV}{dk:SV→Option κ}{p:κ→α→Bool}(B:BsOk C T f cl key p)(hdk:∀v t K,dk v=some t→Wk K v (key t)){F0:Fz}(hT:ToldOk F0 env spE T)(hF0:∀b cs t,F0 b=some (cs,t)→t=0)
  (h1:fnOk f 49=true) (h2:atOk f 60=true) (h3:wsOk f 60 bsWs=true):SubLp F0 env spE (zaf f 60) 49 1000 zci bsWs (bsGG C cl dk p):=
 zbg (ts:=bsTs) hT hF0 (zaN h1 h2) (ws_ok h3) (by decide) (by decide) fun k a b r hd hp=>by
  simp only[bsPre,zG]at hp
  obtain⟨p1,p2,p3,p4,p5⟩:=hp
  unfold bsDec at hd
  split at hd
  .rename_i c1 c2 n f' x y
   split at hd
   .rename_i s t hs ht
    injection hd with hd;subst hd
    simp only at p1 p2 p3 p4 p5
    have:=zH p1
    subst this
    have p2:=zH p2
    have p3:=zJ p3
    have hlen:(C.ls s.1 s.2.2).length=s.1:=C.ls_len
    refine⟨_,bsRG B (k+1) (C.ls s.1 s.2.2) t (by rw[hlen];omega) (of_tt p5),⟨(0,n),zO _,by have:=zc3 (p:=p t) (l:=C.ls s.1 s.2.2);rw[hlen]at this;simp only;omega,by simp only;rw[hlen];omega⟩,?_,?_,.nil,rfl⟩
    .show 20*(halv (n-0)+1)≤_
     have:=halv_le (n:=n-0) (by omega)
     omega
    .exact .cons Wk.int (.cons Wk.int (.cons Wk.fn0 (.cons (C.sl_none hs p4 (zC _)) (.cons (hdk y t 0 ht) .nil))))
   .cases hd
  .cases hd
abbrev bsNm:FuncId:=97
abbrev bsNd:FuncId:=87
abbrev clNm1:FuncId:=98
abbrev clNd1:FuncId:=88
abbrev namedF:FuncId:=53
abbrev nodeF:FuncId:=48
def bsI(i j:Nat)(n:Nat):List (Bool×Bool):=[(decide (zA i<zA j),true),(decide (0≤midW i j),true),(zD (midW i j).toNat n,true)]
noncomputable def bsNmT(l:List Nm)(i j:Nat)(s:List UInt8):RT Lf:=zaJ env TB bsNm 60 (zaf bsNm 60) 49 zci bsTs 20 (bsV cNm clNm1 (.str false s) l i j) []
theorem bsNm_stop(l:List Nm)(i j:Nat)(s:List UInt8):(bsNmT l i j s).follow [false]=some ([(decide (zA i<zA j),false)],⟨.exit 0,[.int .i64 false (.ofNat i)],[],[]⟩):=by kernel_rfl
theorem bsNm_less(l:List Nm)(i j:Nat)(s:List UInt8):(bsNmT l i j s).follow [true,true,true,true]=some (bsI i j l.length++[(ltN s (l.getD (midW i j).toNat nm0),true)],⟨.normal,bsW cNm clNm1 (.str false s) l (IntKind.i64.wrap (midW i j+zA 1)) (.ofNat j),[],[]⟩):=by kernel_rfl
theorem bsNm_more(l:List Nm)(i j:Nat)(s:List UInt8):(bsNmT l i j s).follow [true,true,true,false]=some (bsI i j l.length++[(ltN s (l.getD (midW i j).toNat nm0),false)],⟨.normal,bsW cNm clNm1 (.str false s) l (.ofNat i) (midW i j),[],[]⟩):=by kernel_rfl
theorem bsI_ok{i j n:Nat}(h1:(decide (zA i<zA j))=true)(h2:decide (0≤midW i j)=true)(h3:zD (midW i j).toNat n=true):eqs_ (bsI i j n)=true:=zaa h1 (zaa h2 (zaa h3 zac))
theorem bsNm_ok:BsOk cNm TB bsNm clNm1 (fun s=>.str false s) ltN where
 refl K t:=Wk.str
 stop l i j t h:=zab (bsNm_stop l i j t) (zaa h zac)
 less l i j t h1 h2 h3 h4:=zab (bsNm_less l i j t) (zag (bsI_ok h1 h2 h3) (zaa h4 zac))
 more l i j t h1 h2 h3 h4:=zab (bsNm_more l i j t) (zag (bsI_ok h1 h2 h3) (zaa h4 zac))
noncomputable def bsNdT(l:List Nd)(i j:Nat)(t:Int):RT Lf:=zaJ env TB bsNd 60 (zaf bsNd 60) 49 zci bsTs 20 (bsV cNd clNd1 (.int .i64 false t) l i j) []
def inoN(l:List Nd)(i:Nat):Int:=(l.getD i nd0).ino
def bsJ(l:List Nd)(i:Nat)(t:Int):List (Bool×Bool):=[(inoN l i != inoN l i,false),(t != t,false)]
theorem bsNd_stop(l:List Nd)(i j:Nat)(t:Int):(bsNdT l i j t).follow [false]=some ([(decide (zA i<zA j),false)],⟨.exit 0,[.int .i64 false (.ofNat i)],[],[]⟩):=by kernel_rfl
theorem bsNd_less(l:List Nd)(i j:Nat)(t:Int):(bsNdT l i j t).follow [true,true,true,false,false,true]=some (bsI i j l.length++bsJ l (midW i j).toNat t++[(ltI t (l.getD (midW i j).toNat nd0),true)],⟨.normal,bsW cNd clNd1 (.int .i64 false t) l (IntKind.i64.wrap (midW i j+zA 1)) (.ofNat j),[],[]⟩):=by kernel_rfl
theorem bsNd_more(l:List Nd)(i j:Nat)(t:Int):(bsNdT l i j t).follow [true,true,true,false,false,false,true]=some (bsI i j l.length++bsJ l (midW i j).toNat t++[(ltI t (l.getD (midW i j).toNat nd0),false),(decide (inoN l (midW i j).toNat>t),true)],⟨.normal,bsW cNd clNd1 (.int .i64 false t) l (.ofNat i) (midW i j),[],[]⟩):=by kernel_rfl
theorem bsNd_same(l:List Nd)(i j:Nat)(t:Int):(bsNdT l i j t).follow [true,true,true,false,false,false,false]=some (bsI i j l.length++bsJ l (midW i j).toNat t++[(ltI t (l.getD (midW i j).toNat nd0),false),(decide (inoN l (midW i j).toNat>t),false)],⟨.normal,bsW cNd clNd1 (.int .i64 false t) l (.ofNat i) (midW i j),[],[]⟩):=by kernel_rfl
theorem bsJ_ok{l:List Nd}{i:Nat}{t:Int}:eqs_ (bsJ l i t)=true:=zaa (by simp) (zaa (by simp) zac)
theorem bsNd_ok:BsOk cNd TB bsNd clNd1 (fun t=>.int .i64 false t) ltI where
 refl K t:=Wk.int
 stop l i j t h:=zab (bsNd_stop l i j t) (zaa h zac)
 less l i j t h1 h2 h3 h4:=zab (bsNd_less l i j t) (zag (zag (bsI_ok h1 h2 h3) bsJ_ok) (zaa h4 zac))
 more l i j t h1 h2 h3 h4:=by
  cases h5:decide (inoN l (midW i j).toNat>t)with
  | true=>exact zab (bsNd_more l i j t) (zag (zag (bsI_ok h1 h2 h3) bsJ_ok) (zaa h4 (zaa h5 zac)))
  | false=>exact zab (bsNd_same l i j t) (zag (zag (bsI_ok h1 h2 h3) bsJ_ok) (zaa h4 (zaa h5 zac)))
def dkS(v:SV):Option (List UInt8):=match v with|.str _ s=>some s|_=>none
def dkI(v:SV):Option Int:=match v with|.int .i64 _ t=>some t|_=>none
theorem dkS_wk(v:SV)(t:List UInt8)(K:Nat)(h:dkS v=some t):Wk K v (.str false t):=by
 unfold dkS at h
 split at h
 .injection h with h;subst h;exact Wk.str
 .cases h
theorem dkI_wk(v:SV)(t:Int)(K:Nat)(h:dkI v=some t):Wk K v (.int .i64 false t):=by
 unfold dkI at h
 split at h
 .injection h with h;subst h;exact Wk.int
 .cases h
noncomputable def TS:Told:=(TB.withL bsNm 60 (zaD 1000 zci bsWs (bsGG cNm clNm1 dkS ltN))).withL bsNd 60 (zaD 1000 zci bsWs (bsGG cNd clNd1 dkI ltI))
theorem TS_ok{F0:Fz}(hF0:∀b cs t,F0 b=some (cs,t)→t=0):ToldOk F0 env spE TS:=
 zaM (n:=49) (zaM (n:=49) TB_ok (by kernel_rfl) (by kernel_rfl) (bsG_loop bsNm_ok dkS_wk TB_ok hF0 (by kernel_rfl) (by kernel_rfl) (by kernel_rfl))) (by kernel_rfl) (by kernel_rfl) (bsG_loop bsNd_ok dkI_wk TB_ok hF0 (by kernel_rfl) (by kernel_rfl) (by kernel_rfl))
noncomputable def namedT(I:Img)(s:List UInt8):RT Lf:=fnT env TS namedF 2000 [imV 0 I,.str false s] []
noncomputable def nodeT(I:Img)(t:Int):RT Lf:=fnT env TS nodeF 2000 [imV 0 I,.int .i64 false t] []
def lowS'(I:Img)(s:List UInt8):Nat:=lowG (ltN s) (cpA 0 I)
def lowI'(I:Img)(t:Int):Nat:=lowG (ltI t) (cpB 0 I)
theorem lowS_eq(I:Img)(s:List UInt8):lowS' I s=lowS I.names s:=by unfold lowS';rw[cpA_eq];rfl
theorem lowI_eq(I:Img)(t:Int):lowI' I t=lowI I.nodes t:=by unfold lowI';rw[cpB_eq];rfl
noncomputable def namedH(I:Img)(s:List UInt8):Bool:=true&&(zB I.names.length I.names.length&&(zE I.names.length 1099511627776&&(cNm.wf I.names.length (cNm.e 0 I.names)&&tt (Mono (ltN s) (cpA 0 I)))))
noncomputable def nodeH(I:Img)(t:Int):Bool:=true&&(zB I.nodes.length I.nodes.length&&(zE I.nodes.length 1099511627776&&(cNd.wf I.nodes.length (cNd.e 0 I.nodes)&&tt (Mono (ltI t) (cpB 0 I)))))
theorem named_no(I:Img)(s:List UInt8):(namedT I s).follow [true,false]=some ([(namedH I s,true),(decide (zA (lowS' I s)<zA I.names.length),false)],⟨.ret,[.tup [.int .i64 false (.ofNat (lowS' I s)),.bool true false]],[],[]⟩):=by kernel_rfl
theorem named_yes(I:Img)(s:List UInt8):(namedT I s).follow [true,true,true,true]=some ([(namedH I s,true),(decide (zA (lowS' I s)<zA I.names.length),true),(true,true),(zD (lowS' I s) I.names.length,true)],⟨.ret,[.tup [.int .i64 false (.ofNat (lowS' I s)),.bool false (Lib.compareBytes (I.names.getD (lowS' I s) nm0).s s==0)]],[],[]⟩):=by kernel_rfl
def nodeM(I:Img)(t:Int):List (Bool×Bool):=[(decide (zA (lowI' I t)<zA I.nodes.length),true),(true,true),(zD (lowI' I t) I.nodes.length,true),(inoN I.nodes (lowI' I t) != inoN I.nodes (lowI' I t),false),(t != t,false)]
theorem node_no(I:Img)(t:Int):(nodeT I t).follow [true,false]=some ([(nodeH I t,true),(decide (zA (lowI' I t)<zA I.nodes.length),false)],⟨.ret,[.tup [.int .i64 false (.ofNat (lowI' I t)),.bool true false]],[],[]⟩):=by kernel_rfl
theorem node_less(I:Img)(t:Int):(nodeT I t).follow [true,true,true,true,false,false,true]=some ((nodeH I t,true)::nodeM I t++[(decide (inoN I.nodes (lowI' I t)<t),true)],⟨.ret,[.tup [.int .i64 false (.ofNat (lowI' I t)),.bool true false]],[],[]⟩):=by kernel_rfl
theorem node_more(I:Img)(t:Int):(nodeT I t).follow [true,true,true,true,false,false,false,true]=some ((nodeH I t,true)::nodeM I t++[(decide (inoN I.nodes (lowI' I t)<t),false),(decide (inoN I.nodes (lowI' I t)>t),true)],⟨.ret,[.tup [.int .i64 false (.ofNat (lowI' I t)),.bool true false]],[],[]⟩):=by kernel_rfl
theorem node_same(I:Img)(t:Int):(nodeT I t).follow [true,true,true,true,false,false,false,false]=some ((nodeH I t,true)::nodeM I t++[(decide (inoN I.nodes (lowI' I t)<t),false),(decide (inoN I.nodes (lowI' I t)>t),false)],⟨.ret,[.tup [.int .i64 false (.ofNat (lowI' I t)),.bool true true]],[],[]⟩):=by kernel_rfl
def decIS(a:List SV):Option (RawI×List UInt8):=match a with|[v,x]=>(match decI v,dkS x with|some r,some s=>some (r,s)|_,_=>none)|_=>none
def decII(a:List SV):Option (RawI×Int):=match a with|[v,x]=>(match decI v,dkI x with|some r,some s=>some (r,s)|_,_=>none)|_=>none
theorem decIS_wk{K st:Nat}(hs:K≤st){a:List SV}{r:RawI×List UInt8}(hd:decIS a=some r)(hw:r.1.wf=true):WkL K a [imV st r.1.I,.str false r.2]:=by
 unfold decIS at hd
 split at hd
 .split at hd
  .rename_i h1 h2
   injection hd with hd;subst hd
   exact .cons (im_wk hs h1 hw) (.cons (dkS_wk _ _ _ h2) .nil)
  .cases hd
 .cases hd
theorem decII_wk{K st:Nat}(hs:K≤st){a:List SV}{r:RawI×Int}(hd:decII a=some r)(hw:r.1.wf=true):WkL K a [imV st r.1.I,.int .i64 false r.2]:=by
 unfold decII at hd
 split at hd
 .split at hd
  .rename_i h1 h2
   injection hd with hd;subst hd
   exact .cons (im_wk hs h1 hw) (.cons (dkI_wk _ _ _ h2) .nil)
  .cases hd
 .cases hd
noncomputable def gNamed:=gPl decIS (fun r=>r.1.wf&&(zE r.1.I.names.length 1099511627776&&tt (Mono (ltN r.2) r.1.I.names))) fun r=>.tup [.int .i64 false (.ofNat (lowS r.1.I.names r.2)),.bool false (hasS r.1.I.names r.2)]
noncomputable def gNode:=gPl decII (fun r=>r.1.wf&&(zE r.1.I.nodes.length 1099511627776&&tt (Mono (ltI r.2) r.1.I.nodes))) fun r=>.tup [.int .i64 false (.ofNat (lowI r.1.I.nodes r.2)),.bool false (hasI r.1.I.nodes r.2)]
theorem named_tree(I:Img)(s:List UInt8)(h1:I.names.length≤1099511627776)(h2:Mono (ltN s) I.names):∃lf,(namedT I s).sel=some lf∧∀K,WkL K lf.vs [.tup [.int .i64 false (.ofNat (lowS I.names s)),.bool false (hasS I.names s)]]:=by
 have hH:namedH I s=true:=by unfold namedH;rw[cpA_eq,tt_t h2,cNm.wf_e,ble_t h1,zL];rfl
 have hl:∀K (b c:Bool),b=hasS I.names s→WkL K [.tup [.int .i64 false (.ofNat (lowS' I s)),.bool c b]] [.tup [.int .i64 false (.ofNat (lowS I.names s)),.bool false (hasS I.names s)]]:=fun K b c e=>.cons (.tup (.cons (.int_eq (by rw[lowS_eq])) (.cons (.bool_eq e) .nil))) .nil
 cases hb:zD (lowS I.names s) I.names.length with
 | false=>exact⟨_,zab (named_no I s) (zaa hH (zaa (by rw[zaV,lowS_eq,hb]) zac)),fun K=>hl K _ _ (by unfold hasS;rw[hb];rfl)⟩
 | true=>exact⟨_,zab (named_yes I s) (zaa hH (zaa (by rw[zaV,lowS_eq,hb]) (zaa rfl (zaa (by rw[lowS_eq,hb]) zac)))),fun K=>hl K _ _ (by unfold hasS;rw[hb,lowS_eq];rfl)⟩
theorem node_tree(I:Img)(t:Int)(h1:I.nodes.length≤1099511627776)(h2:Mono (ltI t) I.nodes):∃lf,(nodeT I t).sel=some lf∧∀K,WkL K lf.vs [.tup [.int .i64 false (.ofNat (lowI I.nodes t)),.bool false (hasI I.nodes t)]]:=by
 have hH:nodeH I t=true:=by unfold nodeH;rw[cpB_eq,tt_t h2,cNd.wf_e,ble_t h1,zL];rfl
 have hl:∀K (b c:Bool),b=hasI I.nodes t→WkL K [.tup [.int .i64 false (.ofNat (lowI' I t)),.bool c b]] [.tup [.int .i64 false (.ofNat (lowI I.nodes t)),.bool false (hasI I.nodes t)]]:=fun K b c e=>.cons (.tup (.cons (.int_eq (by rw[lowI_eq])) (.cons (.bool_eq e) .nil))) .nil
 cases hb:zD (lowI I.nodes t) I.nodes.length with
 | false=>exact⟨_,zab (node_no I t) (zaa hH (zaa (by rw[zaV,lowI_eq,hb]) zac)),fun K=>hl K _ _ (by unfold hasI;rw[hb];rfl)⟩
 | true=>
  have hM:eqs_ (nodeM I t)=true:=zaa (by rw[zaV,lowI_eq,hb]) (zaa rfl (zaa (by rw[lowI_eq,hb]) (zaa (by simp) (zaa (by simp) zac))))
  have hh:∀(a b:Bool),decide (inoN I.nodes (lowI' I t)<t)=a→decide (inoN I.nodes (lowI' I t)>t)=b→hasI I.nodes t=(!a&&!b):=fun a b e1 e2=>by
   rw[lowI_eq]at e1 e2
   unfold inoN at e1 e2
   unfold hasI
   rw[hb,e1,e2];rfl
  cases e1:decide (inoN I.nodes (lowI' I t)<t)with
  | true=>
   refine⟨_,zab (node_less I t) (zag (zaa hH hM) (zaa e1 zac)),fun K=>hl K _ _ ?_⟩
   rw[hh true _ e1 rfl];rfl
  | false=>
   cases e2:decide (inoN I.nodes (lowI' I t)>t)with
   | true=>exact⟨_,zab (node_more I t) (zag (zaa hH hM) (zaa e1 (zaa e2 zac))),fun K=>hl K _ _ (by rw[hh _ _ e1 e2];rfl)⟩
   | false=>exact⟨_,zab (node_same I t) (zag (zaa hH hM) (zaa e1 (zaa e2 zac))),fun K=>hl K _ _ (by rw[hh _ _ e1 e2];rfl)⟩
theorem named_told{F0:Fz}(hF0:∀b cs t,F0 b=some (cs,t)→t=0):zaA F0 env spE namedF 2000 gNamed:=za6 (TS_ok hF0) hF0 rfl fun K a r hd hp=>by
 simp only[zG]at hp
 obtain⟨lf,h1,h2⟩:=named_tree r.1.I r.2 (zJ hp.2.1) (of_tt hp.2.2)
 exact⟨_,lf,decIS_wk (zC _) hd hp.1,h1,h2 K⟩
theorem node_told{F0:Fz}(hF0:∀b cs t,F0 b=some (cs,t)→t=0):zaA F0 env spE nodeF 2000 gNode:=za6 (TS_ok hF0) hF0 rfl fun K a r hd hp=>by
 simp only[zG]at hp
 obtain⟨lf,h1,h2⟩:=node_tree r.1.I r.2 (zJ hp.2.1) (of_tt hp.2.2)
 exact⟨_,lf,decII_wk (zC _) hd hp.1,h1,h2 K⟩
abbrev namesF:FuncId:=85
def nsLive:List Tmp:=[13,12,11,0,4]
def nsTs(e:Ex):List Tmp:=match e with|.normal=>nsLive|_=>[]
def nsWs:List Tmp:=[14,15,16,17,6,5,18,19,20,21,22,23,24,25,26,27,28,29,30,31,32,33,34,35,36,37,38,39,40,41,42,43,44,45,46,47,48,49,50,51,52,2,3,53,54,55,56,13]
def mapE:List Nm→Nat→List MapEntry
 | [],_=>[]
 | x::l,c=>{ key:=.int .i64 x.ino,val:=.bool true,born:=c }::mapE l (c+1)
def nsVa(l:List Nm)(i:Nat):List SV:=[.int .i64 false (.ofNat i),.int .i64 false (.ofNat l.length),.fsl 0 2 l.length none (cNm.e 0 l),.fsl 0 2 l.length none (cNm.e 0 l),.mp 0]
noncomputable def nsT(l:List Nm)(i:Nat)(es:List MapEntry)(c:Nat):RT Lf:=zaJ env TB namesF 122 (zaf namesF 122) 58 nsLive nsTs 20 (nsVa l i) [.mp es c]
abbrev dI:TypeDesc:=.int .i64
abbrev vI(t:Int):Value:=.int .i64 t
theorem find_map(t:Int):∀(l:List Nm) (c k:Nat),(∃j,Instr.findNow dI (vI t) (mapE l c) k=some (some (j,.bool true))∧∃x∈l,x.ino=t)∨(Instr.findNow dI (vI t) (mapE l c) k=some none∧∀x∈l,x.ino≠t)
 | [],c,k=>.inr ⟨rfl,fun x h=>by simp at h⟩
 | x::l,c,k=>by
  by_cases h:t=x.ino
  .refine .inl ⟨k,?_,x,by simp,h.symm⟩
   simp[mapE,Instr.findNow,Instr.sameNow,h]
  .rcases find_map t l (c+1) (k+1)with⟨j,h1,y,hy,e⟩|⟨h1,h2⟩
   .refine .inl ⟨j,?_,y,by simp[hy],e⟩
    simp only[mapE,Instr.findNow,Instr.sameNow,if_true]
    have:(t==x.ino)=false:=by simpa using h
    rw[this]
    exact h1
   .refine .inr ⟨?_,fun y hy=>?_⟩
    .simp only[mapE,Instr.findNow,Instr.sameNow,if_true]
     have:(t==x.ino)=false:=by simpa using h
     rw[this]
     exact h1
    .rcases List.mem_cons.1 hy with rfl|hy
     .exact fun e=>h e.symm
     .exact h2 y hy
theorem map_ok(t:Int)(l:List Nm)(c:Nat):hasOk_ dI (vI t) (mapE l c)=true:=by
 unfold hasOk_
 rcases find_map t l c 0 with⟨j,h1,_⟩|⟨h1,_⟩<;>rw[h1]
theorem map_true{t:Int}{l:List Nm}{c:Nat}(h:∃x∈l,x.ino=t):zbR dI (vI t) (mapE l c)=true:=by
 unfold zbR
 rcases find_map t l c 0 with⟨j,h1,_⟩|⟨h1,h2⟩
 .rw[h1]
 .obtain⟨x,hx,e⟩:=h;exact absurd e (h2 x hx)
theorem map_false{t:Int}{l:List Nm}{c:Nat}(h:∀x∈l,x.ino≠t):zbR dI (vI t) (mapE l c)=false∧isNew_ dI (vI t) (mapE l c)=true:=by
 unfold zbR isNew_
 rcases find_map t l c 0 with⟨j,h1,x,hx,e⟩|⟨h1,h2⟩
 .exact absurd e (h x hx)
 .rw[h1];exact⟨rfl,rfl⟩
theorem mapE_snoc(x:Nm):∀(l:List Nm) (c:Nat),mapE (l++[x]) c=mapE l c++[{ key:=.int .i64 x.ino,val:=.bool true,born:=c+l.length }]
 | [],c=>rfl
 | y::l,c=>by
  show _::mapE (l++[x]) (c+1)=_
  rw[mapE_snoc x l (c+1)]
  simp only[List.length_cons,mapE,List.cons_append]
  rw[show c+1+l.length=c+(l.length+1) by omega]
theorem mapE_len:∀(l:List Nm) (c:Nat),(mapE l c).length=l.length
 | [],_=>rfl
 | x::l,c=>by simp[mapE,mapE_len l (c+1)]
def nmA(l:List Nm)(i:Nat):Nm:=l.getD i nm0
def nsVb(l:List Nm)(i:Nat):List SV:=[.int .i64 false (IntKind.i64.wrap (zA i+zA 1)),.int .i64 false (.ofNat l.length),.fsl 0 2 l.length none (cNm.e 0 l),.fsl 0 2 l.length none (cNm.e 0 l),.mp 0]
def nsH(l:List Nm)(i:Nat):List (Bool×Bool):=[(decide (zA i<zA l.length),true),(true,true),(zD i l.length,true),(zbJ (nmA l i).s,true)]
def nsE(l:List Nm)(i:Nat)(es:List MapEntry):List (Bool×Bool):=[(decide ((nmA l i).ino<zA 1),false),(decide ((nmA l i).ino>zA 4611686018427387904),false),(hasOk_ dI (vI (nmA l i).ino) es,true),(zbR dI (vI (nmA l i).ino) es,false),(isNew_ dI (vI (nmA l i).ino) es,true)]
def prW(i:Nat):Int:=IntKind.i64.wrap (zA i-zA 1)
def nsP(l:List Nm)(i:Nat):List (Bool×Bool):=[(decide (zA i>zA 0),true),(decide (0≤prW i),true),(zD (prW i).toNat l.length,true),(!Op.bytesLess (nmA l (prW i).toNat).s (nmA l i).s,false)]
def nsL(l:List Nm)(i:Nat)(es:List MapEntry)(c:Nat):Lf:=⟨.normal,nsVb l i,[.mp (es++[{ key:=.int .i64 (nmA l i).ino,val:=.bool true,born:=c }]) (c+1)],[some (0,false)]⟩
theorem ns_stop(l:List Nm)(i:Nat)(es:List MapEntry)(c:Nat):(nsT l i es c).follow [false]=some ([(decide (zA i<zA l.length),false)],⟨.exit 0,[],[.mp es c],[some (0,true)]⟩):=by kernel_rfl
theorem ns_first(l:List Nm)(i:Nat)(es:List MapEntry)(c:Nat):(nsT l i es c).follow [true,true,true,true,false,false,false,true,false,true]=some (nsH l i++[(decide (zA i>zA 0),false)]++nsE l i es,nsL l i es c):=by kernel_rfl
theorem ns_next(l:List Nm)(i:Nat)(es:List MapEntry)(c:Nat):(nsT l i es c).follow [true,true,true,true,true,true,true,false,false,false,true,false,true]=some (nsH l i++nsP l i++nsE l i es,nsL l i es c):=by kernel_rfl
theorem prW_eq{i:Nat}(h0:0<i)(h:i≤1099511627776):prW i=zA (i-1):=by
 unfold prW
 rw[zI _ (by simp only[zF];omega)]
 simp only[zF];omega
noncomputable def nsR(K:Nat)(l:List Nm)(hl:MayN l):za5 env TB namesF 122 (zaf namesF 122) 58 nsLive nsTs 20 K { i:Nat // i≤l.length } where
 va s:=nsVa l s.1
 bl s:=[.mp (mapE (l.take s.1) 0) s.1]
 μ s:=l.length-s.1
 out s:=⟨.exit 0,[],[.mp (mapE l 0) l.length],[some (0,false)]⟩
 tsn:=rfl
 small s:=by show 1<4000;omega
 step s:=by
  obtain⟨i,hi⟩:=s
  have hf:=hl.few
  by_cases h:i<l.length
  .have eA:nmA l i=l[i]:=zaI h
   have hb:zD i l.length=true:=blt_t h
   have hH:eqs_ (nsH l i)=true:=zaa (by rw[zaV,hb]) (zaa rfl (zaa hb (zaa (by rw[eA];exact hl.ok _ (zK h)) zac)))
   have hin:=hl.ino _ (zK h)
   have hno:∀x∈l.take i,x.ino≠l[i].ino:=fun x hx=>by
    obtain⟨j,hj,rfl⟩:=List.mem_iff_getElem.1 hx
    simp only[List.length_take]at hj
    rw[List.getElem_take]
    exact List.pairwise_iff_getElem.1 hl.apart j i (by omega) h (by omega)
   have hE:eqs_ (nsE l i (mapE (l.take i) 0))=true:=by
    unfold nsE
    rw[eA]
    obtain⟨m1,m2⟩:=map_false (c:=0) hno
    exact zaa (df (by simp only[zF];omega)) (zaa (df (by simp only[zF];omega)) (zaa (map_ok _ _ _) (zaa m1 (zaa m2 zac))))
   have hw:WkL 0 (nsVb l i) (nsVa l (i+1)):=.cons (.int_eq (zap (by omega))) (.cons Wk.int (.cons (cNm.fsl_refl (zC _) (.inl rfl)) (.cons (cNm.fsl_refl (zC _) (.inl rfl)) (.cons Wk.mp .nil))))
   have hm:mapE (l.take i) 0++[{ key:=.int .i64 (nmA l i).ino,val:=.bool true,born:=i }]=mapE (l.take (i+1)) 0:=by
    rw[zQ h,mapE_snoc,eA]
    simp only[List.length_take]
    rw[show 0+min i l.length=i by omega]
   have fin:∃lf,(nsT l i (mapE (l.take i) 0) i).sel=some lf∧lf=nsL l i (mapE (l.take i) 0) i:=by
    by_cases h0:i=0
    .refine⟨_,zab (ns_first l i _ _) (zag (zag hH (zaa ?_ zac)) hE),rfl⟩
     exact df (by simp only[zF];omega)
    .refine⟨_,zab (ns_next l i _ _) (zag (zag hH ?_) hE),rfl⟩
     unfold nsP
     rw[prW_eq (by omega) (by omega)]
     have e1:(zA (i-1)).toNat=i-1:=rfl
     have e2:nmA l (i-1)=l[i-1]:=zaI (by omega)
     rw[e1,e2,eA]
     have:=List.pairwise_iff_getElem.1 hl.rise (i-1) i (by omega) h (by omega)
     exact zaa (dt (by simp only[zF];omega)) (zaa (zcb _) (zaa (blt_t (by omega)) (zaa (by rw[this];rfl) zac)))
   obtain⟨lf,f1,rfl⟩:=fin
   refine⟨_,f1,.inl ⟨rfl,⟨i+1,h⟩,hw,?_,by show l.length-(i+1)<l.length-i;omega,rfl,rfl,rfl,rfl⟩⟩
   show WkBs 0 [.mp (mapE (l.take i) 0++[{ key:=.int .i64 (nmA l i).ino,val:=.bool true,born:=i }]) (i+1)] [.mp (mapE (l.take (i+1)) 0) (i+1)]
   rw[hm]
   exact .cons .mp (fun _=>by simp) .nil
  .have e:i=l.length:=by omega
   subst e
   refine⟨_,zab (ns_stop l l.length _ _) (zaa (df (by omega)) zac),.inr ⟨by simp,rfl,.nil,?_,rfl⟩⟩
   rw[List.take_length]
   exact .cons .mp (fun _=>by simp) .nil
def nsDec(vs:List SV)(bs:List SB):Option (Nat×Sl×Sl):=
 match vs,bs with
 | [.int .i64 _ (.ofNat 0),.int .i64 _ (.ofNat n),x,y,.mp 0],[.mp [] 0]=>(match slR 2 x,slR 2 y with|some a,some b=>some (n,a,b)|_,_=>none)
 | _,_=>none
noncomputable def nsPre(r:Nat×Sl×Sl):Bool:=zB r.1 r.2.1.1&&(cNm.wf r.2.1.1 r.2.1.2.2&&(cNm.wf r.2.2.1 r.2.2.2.2&&(tt (cNm.ls r.2.1.1 r.2.1.2.2=cNm.ls r.2.2.1 r.2.2.2.2)&&tt (MayN (cNm.ls r.2.1.1 r.2.1.2.2)))))
noncomputable def nsG:=gLp nsDec nsPre fun k r=>⟨(.exit 0,[]),[.mp (mapE (cNm.ls r.2.1.1 r.2.1.2.2) 0) r.1],[some (0,false)]⟩
theorem ns_loop{F0:Fz}(hF0:∀b cs t,F0 b=some (cs,t)→t=0):SubLp F0 env spE (zaf namesF 122) 58 1000000 nsLive nsWs nsG:=
 zbg (ts:=nsTs) TB_ok hF0 (zaN (n:=58) (by kernel_rfl) (by kernel_rfl)) (ws_ok (by kernel_rfl)) (by decide) (by decide) fun k a b r hd hp=>by
  obtain⟨n,sa,sb⟩:=r
  simp only[nsPre,zG]at hp
  obtain⟨p1,p2,p3,p4,p5⟩:=hp
  have p1:=zH p1
  have p4:=of_tt p4
  have p5:=of_tt p5
  unfold nsDec at hd
  split at hd
  .rename_i c1 c2 n' x y
   split at hd
   .rename_i a' b' ha hb
    simp only[zN,zP]at hd
    obtain⟨rfl,rfl,rfl⟩:=hd
    have hlen:(cNm.ls a'.1 a'.2.2).length=a'.1:=cNm.ls_len
    refine⟨_,nsR (k+1) _ p5,⟨0,zO _⟩,?_,?_,?_,?_⟩
    .have:=p5.few
     show 20*((cNm.ls a'.1 a'.2.2).length-0+1)≤_
     omega
    .show WkL 0 _ (nsVa (cNm.ls a'.1 a'.2.2) 0)
     unfold nsVa
     have hB:=cNm.sl_none hb p3 (zC 0)
     rw[←p4]at hB
     refine .cons Wk.int (.cons (.int_eq (by rw[hlen,p1])) (.cons (cNm.sl_none ha p2 (zC _)) (.cons hB (.cons Wk.mp .nil))))
    .exact .cons .mp (fun _=>by simp) .nil
    .have:(⟨(.exit 0,[]),[.mp (mapE (cNm.ls a'.1 a'.2.2) 0) n'],[some (0,false)]⟩:Left (Ex×List (Tmp×SV)))=⟨(.exit 0,[]),[.mp (mapE (cNm.ls a'.1 a'.2.2) 0) (cNm.ls a'.1 a'.2.2).length],[some (0,false)]⟩:=by rw[hlen,p1]
     exact this
   .cases hd
  .cases hd
noncomputable def TNs:Told:=TB.withL namesF 122 (zaD 1000000 nsLive nsWs nsG)
theorem TNs_ok{F0:Fz}(hF0:∀b cs t,F0 b=some (cs,t)→t=0):ToldOk F0 env spE TNs:=zaM (n:=58) TB_ok (by kernel_rfl) (by kernel_rfl) (ns_loop hF0)
def dec1Nm(a:List SV)(b:List SB):Option Sl:=match a,b with|[v],[]=>slR 2 v|_,_=>none
noncomputable def gNames:=gSub dec1Nm (fun r=>cNm.wf r.1 r.2.2&&tt (MayN (cNm.ls r.1 r.2.2))) fun k r=>⟨.tup [.mp 0,.bool true true],[.mp (mapE (cNm.ls r.1 r.2.2) 0) r.1],[]⟩
noncomputable def namesT(l:List Nm):RT Lf:=fnZ false env TNs namesF 1001000 [.fsl 0 2 l.length none (cNm.e 0 l)] []
def nsA(l:List Nm):List Nm:=cNm.ls l.length (cNm.e 0 l)
noncomputable def namesH(l:List Nm):Bool:=zB l.length l.length&&(cNm.wf l.length (cNm.e 0 l)&&(cNm.wf l.length (cNm.e 0 l)&&(tt (nsA l=nsA l)&&tt (MayN (nsA l)))))
theorem names_way(l:List Nm):(namesT l).follow [false,true]=some ([(decide (zA l.length>zA 16),false),(namesH l,true)],⟨.ret,[.tup [.mp 0,.bool true true]],[.mp (mapE (nsA l) 0) l.length],[]⟩):=by kernel_rfl
theorem names_told{F0:Fz}(hF0:∀b cs t,F0 b=some (cs,t)→t=0):SubOk F0 env spE namesF 1001000 gNames:=zaF (z:=false) (TNs_ok hF0) hF0 rfl fun k a b r hd hp=>by
 rw[zG]at hp
 have hM:=of_tt hp.2
 unfold dec1Nm at hd
 split at hd
 .rename_i v
  have hlen:(cNm.ls r.1 r.2.2).length=r.1:=cNm.ls_len
  have eA:nsA (cNm.ls r.1 r.2.2)=cNm.ls r.1 r.2.2:=cNm.ls_e 0 _
  refine⟨[.fsl 0 2 (cNm.ls r.1 r.2.2).length none (cNm.e 0 (cNm.ls r.1 r.2.2))],[],_,.cons (cNm.sl_none hd hp.1 (zC _)) .nil,.nil,zab (names_way _) ?_,.cons (.tup (.cons Wk.mp (.cons Wk.bool .nil))) .nil,?_,rfl⟩
  .have:=hM.few
   refine zaa (df (by simp only[zF];omega)) (zaa ?_ zac)
   unfold namesH
   rw[eA,tt_t rfl,tt_t hM,cNm.wf_e,zL];rfl
  .rw[eA,hlen]
   exact .cons .mp (fun _=>by simp) .nil
 .cases hd
noncomputable def TMs:Told:=(TE.withF namesF (zan 1001000 [] gNames))
theorem TMs_ok{F0:Fz}(hF0:∀b cs t,F0 b=some (cs,t)→t=0):ToldOk F0 env spE TMs:=zal (TE_ok hF0) (names_told hF0)
abbrev mayIF:FuncId:=47
def miLive:List Tmp:=[27,26,25,5,3]
def miTs(e:Ex):List Tmp:=match e with|.normal=>miLive|_=>[]
def miWs:List Tmp:=[28,29,30,7,31,32,33,34,35,36,37,38,39,40,41,42,43,44,45,46,47,2,48,49,5,50,27]
def miVa(l:List Nd)(i:Nat)(last:Int):List SV:=[.int .i64 false (.ofNat i),.int .i64 false (.ofNat l.length),.fsl 0 3 l.length none (cNd.e 0 l),.int .i64 false last,.mp 0]
noncomputable def miT(l:List Nd)(i:Nat)(last:Int)(es:List MapEntry)(c:Nat):RT Lf:=zaJ env TMs mayIF 250 (zaf mayIF 250) 51 miLive miTs 20000000002000 (miVa l i last) [.mp es c]
def ndA(l:List Nd)(i:Nat):Nd:=l.getD i nd0
def miE(l:List Nd)(i:Nat)(last:Int)(es:List MapEntry):List (Bool×Bool):=[(decide (zA i<zA l.length),true),(true,true),(zD i l.length,true),(decide ((ndA l i).ino≤last),false),(hasOk_ dI (vI (ndA l i).ino) es,true),(!zbR dI (vI (ndA l i).ino) es,false),
 (zE (ndA l i).l.length 1099511627776&&(wfR xtOf (ndA l i).l.length (xtE (ndA l i).l)&&mayC (ndA l i).size (lsR xtOf xt0 (ndA l i).l.length (xtE (ndA l i).l))),true)]
theorem mi_stop(l:List Nd)(i:Nat)(last:Int)(es:List MapEntry)(c:Nat):(miT l i last es c).follow [false]=some ([(decide (zA i<zA l.length),false)],⟨.exit 0,[],[.mp es c],[some (0,true)]⟩):=by kernel_rfl
theorem mi_next(l:List Nd)(i:Nat)(last:Int)(es:List MapEntry)(c:Nat):(miT l i last es c).follow [true,true,true,false,true,false,true]=some (miE l i last es,⟨.normal,[.int .i64 false (IntKind.i64.wrap (zA i+zA 1)),.int .i64 false (.ofNat l.length),.fsl 0 3 l.length none (cNd.e 0 l),.int .i64 false (ndA l i).ino,.mp 0],[.mp es c],[some (0,true)]⟩):=by kernel_rfl
theorem OkC.may{size:Int}{l:List Xt}(h:OkC size l):(zE l.length 1099511627776&&(wfR xtOf l.length (xtE l)&&mayC size (lsR xtOf xt0 l.length (xtE l))))=true:=by
 rw[wf_xt,ls_xt,zaO.2 h,ble_t (by have:=h.len;omega)];rfl
noncomputable def miR(K:Nat)(I:Img)(hI:MayI I)(c:Nat):za5 env TMs mayIF 250 (zaf mayIF 250) 51 miLive miTs 20000000002000 K { s:Nat×Int // s.1≤I.nodes.length∧∀j (h:j<I.nodes.length),s.1≤j→s.2<I.nodes[j].ino } where
 va s:=miVa I.nodes s.1.1 s.1.2
 bl s:=[.mp (mapE I.names 0) c]
 μ s:=I.nodes.length-s.1.1
 out s:=⟨.exit 0,[],[.mp (mapE I.names 0) c],[some (0,true)]⟩
 tsn:=rfl
 small s:=by show 1<4000;omega
 step s:=by
  obtain⟨⟨i,last⟩,hi,hl⟩:=s
  simp only at hi hl
  have hlen:=hI.len
  have hf:=hI.names.few
  by_cases h:i<I.nodes.length
  .have eA:ndA I.nodes i=I.nodes[i]:=zaI h
   refine⟨_,zab (mi_next I.nodes i last (mapE I.names 0) c) ?_,.inl ⟨rfl,⟨(i+1,I.nodes[i].ino),h,fun j hj hij=>List.pairwise_iff_getElem.1 hI.rise i j h hj (by simp only at hij;omega)⟩,?_,.cons .mp (fun _=>by simp) .nil,by show I.nodes.length-(i+1)<I.nodes.length-i;omega,rfl,rfl,rfl,rfl⟩⟩
   .unfold miE
    rw[eA]
    have:=hl i h (zC _)
    obtain⟨y,hy,e⟩:=hI.has _ (zK h)
    refine zaa (by rw[zaV,blt_t h]) (zaa rfl (zaa (blt_t h) (zaa (df (by omega)) (zaa (map_ok _ _ _) (zaa (by rw[map_true ⟨y,hy,e⟩];rfl) (zaa (OkC.may (zaO.1 (hI.ok _ (zK h)))) zac))))))
   .exact .cons (.int_eq (zap (by omega))) (.cons Wk.int (.cons (cNd.fsl_refl (zC _) (.inl rfl)) (.cons (.int_eq (by rw[eA])) (.cons Wk.mp .nil))))
  .exact⟨_,zab (mi_stop I.nodes i last _ c) (zaa (by rw[zaV,blt_f h]) zac),.inr ⟨by simp,rfl,.nil,.cons .mp (fun _=>by simp) .nil,rfl⟩⟩
def miDec(vs:List SV)(bs:List SB):Option (Nat×Sl×List MapEntry×Nat):=
 match vs,bs with
 | [.int .i64 _ (.ofNat 0),.int .i64 _ (.ofNat n),x,.int .i64 _ (.ofNat 0),.mp 0],[.mp es c]=>(match slR 3 x with|some a=>some (n,a,es,c)|none=>none)
 | _,_=>none
noncomputable def miPre(r:Nat×Sl×List MapEntry×Nat):Bool:=zB r.1 r.2.1.1&&(cNd.wf r.2.1.1 r.2.1.2.2&&tt (∃names,MayI ⟨names,cNd.ls r.2.1.1 r.2.1.2.2⟩∧r.2.2.1=mapE names 0))
noncomputable def miG:=gLp miDec miPre fun k r=>⟨(.exit 0,[]),[.mp r.2.2.1 r.2.2.2],[some (0,true)]⟩
theorem mi_loop{F0:Fz}(hF0:∀b cs t,F0 b=some (cs,t)→t=0):SubLp F0 env spE (zaf mayIF 250) 51 400000000040000 miLive miWs miG:=
 zbg (ts:=miTs) (TMs_ok hF0) hF0 (zaN (n:=51) (by kernel_rfl) (by kernel_rfl)) (ws_ok (by kernel_rfl)) (by decide) (by decide) fun k a b r hd hp=>by
  obtain⟨n,sa,es,c⟩:=r
  simp only[miPre,zG]at hp
  obtain⟨p1,p2,p3⟩:=hp
  have p1:=zH p1
  obtain⟨names,hI,rfl⟩:=of_tt p3
  unfold miDec at hd
  split at hd
  .rename_i c1 c2 n' x c3 es' c'
   split at hd
   .rename_i a' ha
    simp only[zN,zP]at hd
    obtain⟨rfl,rfl,e,rfl⟩:=hd
    subst e
    have hlen:(cNd.ls a'.1 a'.2.2).length=a'.1:=cNd.ls_len
    refine⟨_,miR (k+1) _ hI c',⟨(0,0),zO _,fun j hj _=>?_⟩,?_,?_,.cons .mp (fun _=>by simp) .nil,rfl⟩
    .obtain⟨y,hy,e⟩:=hI.has _ (zK hj)
     have h1:=(hI.names.ino y hy).1
     rw[e]at h1
     exact Int.lt_of_lt_of_le (by decide) h1
    .have:=hI.len
     have:=hI.names.few
     show 20000000002000*((cNd.ls a'.1 a'.2.2).length-0+1)≤_
     simp only at *
     omega
    .show WkL 0 _ (miVa (cNd.ls a'.1 a'.2.2) 0 0)
     unfold miVa
     exact .cons Wk.int (.cons (.int_eq (by rw[hlen,p1])) (.cons (cNd.sl_none ha p2 (zC _)) (.cons Wk.int (.cons Wk.mp .nil))))
   .cases hd
  .cases hd
noncomputable def TMi:Told:=TMs.withL mayIF 250 (zaD 400000000040000 miLive miWs miG)
theorem TMi_ok{F0:Fz}(hF0:∀b cs t,F0 b=some (cs,t)→t=0):ToldOk F0 env spE TMi:=zaM (n:=51) (TMs_ok hF0) (by kernel_rfl) (by kernel_rfl) (mi_loop hF0)
def decI1(a:List SV):Option RawI:=match a with|[v]=>decI v|_=>none
noncomputable def gMayI:=gPl decI1 (fun r=>r.wf&&tt (MayI r.I)) fun r=>.bool true true
noncomputable def mayIT(I:Img):RT Lf:=fnT env TMi mayIF 400000001100000 [imV 0 I] []
noncomputable def mayIH(I:Img):Bool:=zB I.nodes.length I.nodes.length&&(cNd.wf I.nodes.length (cNd.e 0 I.nodes)&&tt (∃names,MayI ⟨names,cpB 0 I⟩∧mapE (cpA 0 I) 0=mapE names 0))
theorem mayI_way(I:Img):(mayIT I).follow [true,false,true]=some ([(cNm.wf I.names.length (cNm.e 0 I.names)&&tt (MayN (cpA 0 I)),true),(zA I.nodes.length != zA (mapE (cpA 0 I) 0).length,false),(mayIH I,true)],⟨.ret,[.bool true true],[],[]⟩):=by kernel_rfl
theorem mayI_told{F0:Fz}(hF0:∀b cs t,F0 b=some (cs,t)→t=0):zaA F0 env spE mayIF 400000001100000 gMayI:=za6 (TMi_ok hF0) hF0 rfl fun K a r hd hp=>by
 rw[zG]at hp
 have hI:=of_tt hp.2
 unfold decI1 at hd
 split at hd
 .rename_i v
  refine⟨[imV 0 r.I],_,.cons (im_wk (zC _) hd hp.1) .nil,zab (mayI_way r.I) ?_,.cons Wk.bool .nil⟩
  unfold mayIH
  rw[cpA_eq,cpB_eq,mapE_len,hI.len]
  refine zaa ?_ (zaa (by simp) (zaa ?_ zac))
  .rw[tt_t hI.names,cNm.wf_e];rfl
  .rw[zL,show cNd.wf r.I.names.length (cNd.e 0 r.I.nodes)=true by rw[←hI.len];exact cNd.wf_e 0 _]
   rw[tt_t ⟨r.I.names,hI,rfl⟩];rfl
 .cases hd
theorem MayI.fit{I:Img}(h:MayI I):FitI I:=⟨by have:=h.names.few;omega,by have:=h.names.few;have:=h.len;omega,fun x hx=>by have:=(zaO.1 (h.ok x hx)).len;omega⟩
noncomputable def TIm:Told:=((((TCl.withF copiedI (zan 2000 [] gCopI)).withF copyF (zan 200010000 [] gCopy)).withF namedF (zaq 2000 gNamed)).withF nodeF (zaq 2000 gNode)).withF mayIF (zaq 400000001100000 gMayI)
theorem TIm_ok{F0:Fz}(hF0:∀b cs t,F0 b=some (cs,t)→t=0):ToldOk F0 env spE TIm:=
 za7 (za7 (za7 (zal (zal (TCl_ok hF0) (copI_told hF0)) (copy_told hF0)) (named_told hF0)) (node_told hF0)) (mayI_told hF0)
abbrev findIF:FuncId:=23
abbrev getIF:FuncId:=19
abbrev usedF:FuncId:=54
noncomputable def findT(I:Img)(s:List UInt8):RT Lf:=fnT env TIm findIF 500000000000000 [imV 0 I,.str false s] []
noncomputable def getT(I:Img)(t:Int):RT Lf:=fnZ true env TIm getIF 500000000000000 [imV 0 I,.int .i64 false t] []
def rI(I:Img):RawI:=⟨(I.names.length,none,cNm.e 0 I.names),(I.nodes.length,none,cNd.e 0 I.nodes)⟩
def imQ(I:Img):Img:=(rI I).I
theorem za2(I:Img):imQ I=I:=I_imV 0 I
theorem rI_wf(I:Img):(rI I).wf=true:=wf_imV 0 I
noncomputable def findH(I:Img)(s:List UInt8):List (Bool×Bool):=[((rI I).wf&&tt (MayI (imQ I)),true),((rI I).wf&&(zE (imQ I).names.length 1099511627776&&tt (Mono (ltN s) (imQ I).names)),true)]
theorem find_no(I:Img)(s:List UInt8):(findT I s).follow [true,true,true]=some (findH I s++[(!hasS (imQ I).names s,true)],⟨.ret,[.tup [.int .i64 true 0,.bool true false]],[],[]⟩):=by kernel_rfl
theorem find_yes(I:Img)(s:List UInt8):(findT I s).follow [true,true,false,true,true]=some (findH I s++[(!hasS (imQ I).names s,false),(true,true),(zD (lowS (imQ I).names s) I.names.length,true)],⟨.ret,[.tup [.int .i64 false (I.names.getD (lowS (imQ I).names s) nm0).ino,.bool true true]],[],[]⟩):=by kernel_rfl
theorem findH_ok{I:Img}{s:List UInt8}(h:MayI I):eqs_ (findH I s)=true:=by
 unfold findH
 rw[za2,rI_wf,tt_t h,tt_t (names_mono h.names.rise),ble_t (by have:=h.fit.n;omega)]
 rfl
noncomputable def gFindI:=gPl decIS (fun r=>r.1.wf&&tt (MayI r.1.I)) fun r=>.tup [.int .i64 false (findS r.1.I r.2).1,.bool false (findS r.1.I r.2).2]
theorem findI_told{F0:Fz}(hF0:∀b cs t,F0 b=some (cs,t)→t=0):zaA F0 env spE findIF 500000000000000 gFindI:=za6 (TIm_ok hF0) hF0 rfl fun K a r hd hp=>by
 rw[zG]at hp
 have hI:=of_tt hp.2
 cases hb:hasS r.1.I.names r.2 with
 | false=>
  refine⟨_,_,decIS_wk (zC _) hd hp.1,zab (find_no r.1.I r.2) (zag (findH_ok hI) (zaa (by rw[za2,hb];rfl) zac)),?_⟩
  refine .cons (.tup (.cons (.int_eq ?_) (.cons (.bool_eq ?_) .nil))) .nil<;>(unfold findS;rw[hb])
 | true=>
  obtain⟨h1,_⟩:=hasS_at hb
  refine⟨_,_,decIS_wk (zC _) hd hp.1,zab (find_yes r.1.I r.2) (zag (findH_ok hI) (zaa (by rw[za2,hb];rfl) (zaa rfl (zaa (by rw[za2];exact blt_t h1) zac)))),?_⟩
  refine .cons (.tup (.cons (.int_eq ?_) (.cons (.bool_eq ?_) .nil))) .nil<;>(unfold findS;rw[hb];try rw[za2])
noncomputable def getH(I:Img)(t:Int):List (Bool×Bool):=[((rI I).wf&&tt (MayI (imQ I)),true),((rI I).wf&&(zE (imQ I).nodes.length 1099511627776&&tt (Mono (ltI t) (imQ I).nodes)),true)]
def getN(I:Img)(t:Int):Nd:=I.nodes.getD (lowI (imQ I).nodes t) nd0
theorem get_no(I:Img)(t:Int):(getT I t).follow [true,true,true]=some (getH I t++[(!hasI (imQ I).nodes t,true)],⟨.ret,[.tup [.agg [.int .i64 true 0,.raw (.slice none 0 0)],.bool true false]],[],[]⟩):=by kernel_rfl
theorem get_yes(I:Img)(t:Int):(getT I t).follow [true,true,false,true,true,true]=some (getH I t++[(!hasI (imQ I).nodes t,false),(true,true),(zD (lowI (imQ I).nodes t) I.nodes.length,true),(zE (getN I t).l.length 1099511627776&&cX.wf (getN I t).l.length (xtE (getN I t).l),true)],
  ⟨.ret,[.tup [ctV 3 (getN I t).size (cX.ls (getN I t).l.length (xtE (getN I t).l)),.bool true true]],[],[]⟩):=by kernel_rfl
theorem getH_ok{I:Img}{t:Int}(h:MayI I):eqs_ (getH I t)=true:=by
 unfold getH
 rw[za2,rI_wf,tt_t h,tt_t (nodes_mono h.rise),ble_t (by have:=h.fit.m;omega)]
 rfl
def dec2II(a:List SV)(b:List SB):Option (RawI×Int):=match b with|[]=>decII a|_=>none
noncomputable def gGetI:=gSub dec2II (fun r=>r.1.wf&&tt (MayI r.1.I)) fun k r=>⟨.tup [ctV (k+1) (contI r.1.I r.2).1 (contI r.1.I r.2).2,.bool false (hasI r.1.I.nodes r.2)],[],[]⟩
theorem getI_told{F0:Fz}(hF0:∀b cs t,F0 b=some (cs,t)→t=0):SubOk F0 env spE getIF 500000000000000 gGetI:=zaF (z:=true) (TIm_ok hF0) hF0 rfl fun k a b r hd hp=>by
 rw[zG]at hp
 have hI:=of_tt hp.2
 unfold dec2II at hd
 split at hd
 .cases hb:hasI r.1.I.nodes r.2 with
  | false=>
   refine⟨_,_,_,decII_wk (zC _) hd hp.1,.nil,zab (get_no r.1.I r.2) (zag (getH_ok hI) (zaa (by rw[za2,hb];rfl) zac)),?_,.nil,rfl⟩
   have e:contI r.1.I r.2=(0,[]):=by unfold contI;rw[hb]
   rw[e]
   exact .cons (.tup (.cons (.agg (.cons Wk.int (.cons (Wk.nil_fsl (.inl rfl)) .nil))) (.cons Wk.bool .nil))) .nil
  | true=>
   obtain⟨h1,_⟩:=zcJ hb
   have eN:getN r.1.I r.2=r.1.I.nodes[lowI r.1.I.nodes r.2]:=by unfold getN;rw[za2];exact zaI h1
   refine⟨_,_,_,decII_wk (zC _) hd hp.1,.nil,zab (get_yes r.1.I r.2) (zag (getH_ok hI) (zaa (by rw[za2,hb];rfl) (zaa rfl (zaa (by rw[za2];exact blt_t h1) (zaa ?_ zac))))),?_,.nil,rfl⟩
   .rw[eN,ble_t (hI.fit.l _ (zK h1))]
    exact wf_xt
   .have e:contI r.1.I r.2=((getN r.1.I r.2).size,(getN r.1.I r.2).l):=by
     unfold contI getN
     rw[hb,za2]
    rw[e,show cX.ls (getN r.1.I r.2).l.length (xtE (getN r.1.I r.2).l)=(getN r.1.I r.2).l from ls_xt]
    exact .cons (.tup (.cons (ct_refl (zC _)) (.cons Wk.bool .nil))) .nil
 .cases hd
def usLive:List Tmp:=[12,11,10,3]
def usTs(e:Ex):List Tmp:=match e with|.normal=>usLive|_=>[3]
def usWs:List Tmp:=[13,14,15,5,16,17,18,19,20,21,3,22,12]
def usVa(l:List Nd)(i:Nat)(n:Int):List SV:=[.int .i64 false (.ofNat i),.int .i64 false (.ofNat l.length),.fsl 0 3 l.length none (cNd.e 0 l),.int .i64 false n]
noncomputable def usT(l:List Nd)(i:Nat)(n:Int):RT Lf:=zaJ env TB usedF 122 (zaf usedF 122) 24 usLive usTs 20 (usVa l i n) []
theorem us_stop(l:List Nd)(i:Nat)(n:Int):(usT l i n).follow [false]=some ([(decide (zA i<zA l.length),false)],⟨.exit 0,[.int .i64 false n],[],[]⟩):=by kernel_rfl
theorem us_next(l:List Nd)(i:Nat)(n:Int):(usT l i n).follow [true,true,true]=some ([(decide (zA i<zA l.length),true),(true,true),(zD i l.length,true)],
  ⟨.normal,[.int .i64 false (IntKind.i64.wrap (zA i+zA 1)),.int .i64 false (.ofNat l.length),.fsl 0 3 l.length none (cNd.e 0 l),.int .i64 false (IntKind.i64.wrap (n+zA (ndA l i).l.length))],[],[]⟩):=by kernel_rfl
theorem used_take{l:List Nd}{i:Nat}(h:i<l.length):usedI (l.take (i+1))=usedI (l.take i)+l[i].l.length:=by
 unfold usedI
 rw[zQ h,List.foldl_append]
 rfl
theorem used_le{l:List Nd}(h:∀x∈l,x.l.length≤1099511627776):usedI l≤l.length*1099511627776:=by
 unfold usedI
 have:∀(l:List Nd) (n:Nat),(∀x∈l,x.l.length≤1099511627776)→l.foldl (fun n x=>n+x.l.length) n≤n+l.length*1099511627776:=by
  intro l
  induction l with
  | nil=>intro n _;simp
  | cons x l ih=>
   intro n hx
   have h1:=ih (n+x.l.length) fun y hy=>hx y (by simp[hy])
   have h2:=hx x (by simp)
   simp only[List.foldl_cons,List.length_cons]
   omega
 have:=this l 0 h
 omega
noncomputable def usR(K:Nat)(l:List Nd)(h1:l.length≤16)(h2:∀x∈l,x.l.length≤1099511627776):za5 env TB usedF 122 (zaf usedF 122) 24 usLive usTs 20 K { i:Nat // i≤l.length } where
 va s:=usVa l s.1 (.ofNat (usedI (l.take s.1)))
 bl s:=[]
 μ s:=l.length-s.1
 out s:=⟨.exit 0,[.int .i64 false (.ofNat (usedI l))],[],[]⟩
 tsn:=rfl
 small s:=by show 0<4000;omega
 step s:=by
  obtain⟨i,hi⟩:=s
  by_cases h:i<l.length
  .have hu:=used_le (l:=l.take (i+1)) fun x hx=>h2 x (List.mem_of_mem_take hx)
   have hl:(l.take (i+1)).length≤16:=by simp;omega
   have e:=used_take h
   refine⟨_,zab (us_next l i _) (zaa (by rw[zaV,blt_t h]) (zaa rfl (zaa (blt_t h) zac))),.inl ⟨rfl,⟨i+1,h⟩,?_,.nil,by show l.length-(i+1)<l.length-i;omega,rfl,rfl,rfl,rfl⟩⟩
   refine .cons (.int_eq (zap (by omega))) (.cons Wk.int (.cons (cNd.fsl_refl (zC _) (.inl rfl)) (.cons (.int_eq ?_) .nil)))
   have eA:ndA l i=l[i]:=zaI h
   rw[eA,e]
   rw[e]at hu
   rw[zI _ (by simp only[zF];omega)]
   simp only[zF];omega
  .have e:i=l.length:=by omega
   subst e
   exact⟨_,zab (us_stop l l.length _) (zaa (df (by omega)) zac),.inr ⟨by simp,rfl,.cons (.int_eq (by rw[List.take_length])) .nil,.nil,rfl⟩⟩
def usDec(vs:List SV)(bs:List SB):Option (Nat×Sl):=
 match vs,bs with
 | [.int .i64 _ (.ofNat 0),.int .i64 _ (.ofNat n),x,.int .i64 _ (.ofNat 0)],[]=>(match slR 3 x with|some a=>some (n,a)|none=>none)
 | _,_=>none
noncomputable def usPre(r:Nat×Sl):Bool:=zB r.1 r.2.1&&(cNd.wf r.2.1 r.2.2.2&&(zE r.1 16&&tt (∀x∈cNd.ls r.2.1 r.2.2.2,x.l.length≤1099511627776)))
noncomputable def usG:=gLp usDec usPre fun k r=>⟨(.exit 0,[(3,.int .i64 false (.ofNat (usedI (cNd.ls r.2.1 r.2.2.2))))]),[],[]⟩
theorem us_loop{F0:Fz}(hF0:∀b cs t,F0 b=some (cs,t)→t=0):SubLp F0 env spE (zaf usedF 122) 24 1000 usLive usWs usG:=
 zbg (ts:=usTs) TB_ok hF0 (zaN (n:=24) (by kernel_rfl) (by kernel_rfl)) (ws_ok (by kernel_rfl)) (by decide) (by decide) fun k a b r hd hp=>by
  obtain⟨n,sa⟩:=r
  simp only[usPre,zG]at hp
  obtain⟨p1,p2,p3,p4⟩:=hp
  have p1:=zH p1
  have p3:=zJ p3
  have p4:=of_tt p4
  unfold usDec at hd
  split at hd
  .rename_i c1 c2 n' x c3
   split at hd
   .rename_i a' ha
    simp only[zN,zP]at hd
    obtain⟨rfl,rfl⟩:=hd
    have hlen:(cNd.ls a'.1 a'.2.2).length=a'.1:=cNd.ls_len
    refine⟨_,usR (k+1) (cNd.ls a'.1 a'.2.2) (by rw[hlen];omega) p4,⟨0,zO _⟩,?_,?_,.nil,rfl⟩
    .show 20*((cNd.ls a'.1 a'.2.2).length-0+1)≤_
     rw[hlen];omega
    .show WkL 0 _ (usVa (cNd.ls a'.1 a'.2.2) 0 _)
     unfold usVa
     exact .cons Wk.int (.cons (.int_eq (by rw[hlen,p1])) (.cons (cNd.sl_none ha p2 (zC _)) (.cons Wk.int .nil)))
   .cases hd
  .cases hd
noncomputable def TUs:Told:=TIm.withL usedF 122 (zaD 1000 usLive usWs usG)
theorem TUs_ok{F0:Fz}(hF0:∀b cs t,F0 b=some (cs,t)→t=0):ToldOk F0 env spE TUs:=zaM (n:=24) (TIm_ok hF0) (by kernel_rfl) (by kernel_rfl) (us_loop hF0)
noncomputable def usedT(I:Img):RT Lf:=fnT env TUs usedF 500000000000000 [imV 0 I] []
noncomputable def usedH(I:Img):Bool:=zB I.nodes.length I.nodes.length&&(cNd.wf I.nodes.length (cNd.e 0 I.nodes)&&(zE I.nodes.length 16&&tt (∀x∈cpB 0 I,x.l.length≤1099511627776)))
theorem used_way(I:Img):(usedT I).follow [true,true]=some ([((rI I).wf&&tt (MayI (imQ I)),true),(usedH I,true)],⟨.ret,[.int .i64 false (.ofNat (usedI (cpB 0 I)))],[],[]⟩):=by kernel_rfl
noncomputable def gUsed:=gPl decI1 (fun r=>r.wf&&tt (MayI r.I)) fun r=>.int .i64 false (.ofNat (usedI r.I.nodes))
theorem used_told{F0:Fz}(hF0:∀b cs t,F0 b=some (cs,t)→t=0):zaA F0 env spE usedF 500000000000000 gUsed:=za6 (TUs_ok hF0) hF0 rfl fun K a r hd hp=>by
 rw[zG]at hp
 have hI:=of_tt hp.2
 unfold decI1 at hd
 split at hd
 .refine⟨[imV 0 r.I],_,.cons (im_wk (zC _) hd hp.1) .nil,zab (used_way r.I) ?_,.cons (.int_eq (by rw[cpB_eq])) .nil⟩
  unfold usedH
  rw[za2,rI_wf,cpB_eq,cNd.wf_e,tt_t hI,tt_t hI.fit.l,zL,ble_t (by rw[hI.len];exact hI.names.few)]
  rfl
 .cases hd
abbrev ctT:TypeId:=50
abbrev needF:FuncId:=167
def ctBs(st:Nat)(size:Int)(l:List Xt):List SB:=[.lst 2 [[.int .i64 false size,.nsl 1 9 false 0 l.length 1]] ctT,.row 9 l.length (cX.e st l) xtT]
structure RawD where
 size:Int
 n:Nat
 m:Nat
 e:Nat→List SV
def decD(bs:List SB):Option RawD:=
 match bs with
 | [.lst 2 [[.int .i64 _ size,.nsl 1 9 _ 0 n z]] t0,.row 9 m e t1]=>(match zB t0 ctT&&(zB t1 xtT&&zE z 1)with|true=>some ⟨size,n,m,e⟩|false=>none)
 | _=>none
def RawD.wf(r:RawD):Bool:=zB r.n r.m&&cX.wf r.m r.e
def RawD.l(r:RawD):List Xt:=cX.ls r.m r.e
theorem RawD.len(r:RawD):r.l.length=r.m:=cX.ls_len
theorem decD_wk{K st:Nat}(hs:K≤st){bs:List SB}{r:RawD}(hd:decD bs=some r)(hw:r.wf=true):WkBs K bs (ctBs st r.size r.l):=by
 unfold decD at hd
 split at hd
 .rename_i c1 size c2 n z t0 m e t1
  split at hd
  .rename_i ht
   injection hd with hd;subst hd
   simp only[zG]at ht
   have:=zH ht.1
   subst this
   have:=zH ht.2.1
   subst this
   unfold RawD.wf at hw
   rw[zG]at hw
   have hn:=zH hw.1
   simp only at hn
   subst hn
   unfold ctBs
   rw[RawD.len]
   exact .cons (.lst1 (.cons Wk.int (.cons (Wk.nsl (zJ ht.2.2)) .nil))) (fun _=>by simp) (.cons (.row (cX.wf_wk hs hw.2)) (fun _=>by simp) .nil)
  .cases hd
 .cases hd
theorem ctBs_refl{K st st2:Nat}(h:K≤st2){size:Int}{l:List Xt}:WkBs K (ctBs st size l) (ctBs st2 size l):=
 .cons (.lst1 (.cons Wk.int (.cons (Wk.nsl (zC _)) .nil))) (fun _=>by simp) (.cons (.row (cX.e_refl h)) (fun _=>by simp) .nil)
def ndDec(a:List SV)(b:List SB):Option (RawD×Int):=match a with|[.ptr 0 2 _ 0 0,.int .i64 _ no]=>(match decD b with|some r=>some (r,no)|none=>none)|_=>none
def dirN(l:List Xt)(no:Int):Bool:=zbr l no || zB (lowB l no) l.length
noncomputable def ndPre(r:RawD×Int):Bool:=r.1.wf&&(zE r.1.m 1099511627776&&(tt (srtL (-1) r.1.l=true)&&dirN r.1.l r.2))
noncomputable def gNeed:=gSub ndDec ndPre fun k r=>⟨.int .i64 false (.ofNat (lowB r.1.l r.2)),ctBs (k+1) r.1.size (needX r.1.l r.2),[some (0,false),none]⟩
noncomputable def needT(l:List Xt)(size no:Int):RT Lf:=fnZ false env TCl needF 10000 [.ptr 0 2 true 0 0,.int .i64 false no] (ctBs 0 size l)
def ls0(l:List Xt):List Xt:=lsR xtOf xt0 l.length (fun i=>xtE l (0+i))
def dom0(l:List Xt):Bool:=zE l.length 1099511627776&&(wfR xtOf l.length (fun i=>xtE l (0+i))&&srtL (-1) (ls0 l))
theorem e0_eq(l:List Xt):(fun i=>xtE l (0+i))=xtE l:=by funext i;rw[zM]
theorem ls0_eq(l:List Xt):ls0 l=l:=by unfold ls0;rw[e0_eq,ls_xt]
theorem need_found(l:List Xt)(size no:Int):(needT l size no).follow [true,false]=some ([(dom0 l,true),(!zbr (ls0 l) no,false)],
  ⟨.ret,[.int .i64 false (.ofNat (lowB (ls0 l) no))],ctBs 0 size l,[some (0,true),some (1,true)]⟩):=by kernel_rfl
theorem need_new(l:List Xt)(size no:Int):(needT l size no).follow [true,true,true,true,false,true,true]=some ([(dom0 l,true),(!zbr (ls0 l) no,true),(decide (0≤zA (lowB (ls0 l) no)),true),(zE (lowB (ls0 l) no) l.length,true),(zD (lowB (ls0 l) no) l.length,false),(zA (lowB (ls0 l) no)==zA l.length,true),(zE ((l.length+1)*16) 140737488355328&&zE (l.length+1) 9223372036854775807,true)],
  ⟨.ret,[.int .i64 false (.ofNat (lowB (ls0 l) no))],[.lst 2 [[.int .i64 false size,.nsl 1 9 false 0 (l.length+1) 1]] ctT,.row 9 (l.length+1) (fun i=>muxR 9 (zD i l.length) (xtE l (0+i)) (xtRow (xtN no))) xtT],[some (0,false),none]⟩):=by kernel_rfl
theorem app_row{l:List Xt}{y:Xt}(i:Nat)(h:i<l.length+1):(l++[y]).getD i xt0=(bif zD i l.length then l.getD i xt0 else y):=by
 by_cases q:i<l.length
 .rw[blt_t q,cond_true]
  simp[List.getD,List.getElem?_append_left q]
 .have:i=l.length:=by omega
  subst this
  rw[blt_f q,cond_false]
  simp[List.getD]
theorem need_told{F0:Fz}(hF0:∀b cs t,F0 b=some (cs,t)→t=0):SubOk F0 env spE needF 10000 gNeed:=zaF (z:=false) (TCl_ok hF0) hF0 rfl fun k a b r hd hp=>by
 obtain⟨r,no⟩:=r
 simp only[ndPre,zG]at hp
 obtain⟨p1,p2,p3,p4⟩:=hp
 have p2:=zJ p2
 have p3:=of_tt p3
 have hm:=r.len
 unfold ndDec at hd
 split at hd
 .rename_i c1 c2 no'
  split at hd
  .rename_i r' hB
   simp only[zN,zP]at hd
   obtain⟨rfl,rfl⟩:=hd
   have hdom:dom0 r'.l=true:=by
    unfold dom0
    rw[ls0_eq,e0_eq,wf_xt,p3,hm,ble_t p2];rfl
   have wa:WkL 0 [.ptr 0 2 c1 0 0,.int .i64 c2 no'] [.ptr 0 2 true 0 0,.int .i64 false no']:=.cons Wk.ptr (.cons Wk.int .nil)
   have wb:=decD_wk (K:=0) (st:=0) (zC _) hB p1
   cases hf:zbr r'.l no' with
   | true=>
    refine⟨_,_,_,wa,wb,zab (need_found r'.l r'.size no') ?_,.cons (.int_eq ?_) .nil,?_,rfl⟩
    .exact zaa hdom (zaa (by rw[ls0_eq,hf];rfl) zac)
    .rw[ls0_eq]
    .show WkBs (k+1) (ctBs 0 r'.size r'.l) (ctBs (k+1) r'.size (needX r'.l no'))
     unfold needX
     rw[hf]
     exact ctBs_refl (zC _)
   | false=>
    have hlow:lowB r'.l no'=r'.l.length:=by
     unfold dirN at p4
     rw[hf,Bool.false_or]at p4
     exact zH p4
    refine⟨_,_,_,wa,wb,zab (need_new r'.l r'.size no') ?_,.cons (.int_eq ?_) .nil,?_,rfl⟩
    .rw[ls0_eq,hlow,hm]
     exact zaa hdom (zaa (by rw[hf];rfl) (zaa (zcb _) (zaa (ble_t (zC _)) (zaa (blt_f (Nat.lt_irrefl _)) (zaa (by simp) (zaa (by rw[ble_t (show(r'.m+1)*16≤140737488355328 by omega),ble_t (show r'.m+1≤9223372036854775807 by omega)];rfl) zac))))))
    .rw[ls0_eq]
    .have e:needX r'.l no'=r'.l++[xtN no']:=by unfold needX;rw[hf,hlow];exact insA_end
     show WkBs (k+1) _ (ctBs (k+1) r'.size (needX r'.l no'))
     rw[e]
     unfold ctBs
     rw[List.length_append,List.length_singleton]
     refine .cons (.lst1 (.cons Wk.int (.cons (Wk.nsl (zC _)) .nil))) (fun _=>by simp) (.cons (.row ?_) (fun _=>by simp) .nil)
     exact cX.of_mux (st:=0) (st1:=0) (zC _) (fun i=>zD i r'.l.length) (fun i=>r'.l.getD i xt0) (fun _=>xtN no') (fun i _=>by rw[zM];rfl) fun i hi=>app_row i hi
  .cases hd
 .cases hd
noncomputable def TN:Told:=(TCl.withF copiedF (zan 2000 [] gCop)).withF needF (zan 10000 [] gNeed)
theorem TN_ok{F0:Fz}(hF0:∀b cs t,F0 b=some (cs,t)→t=0):ToldOk F0 env spE TN:=zal (zal (TCl_ok hF0) (cop_told hF0)) (need_told hF0)
abbrev writeF:FuncId:=143
noncomputable def writeT(l:List Xt)(size:Int)(p:Nat)(bs:List UInt8):RT Lf:=fnZ true env TN writeF 20000000100000 [ctV 0 size l,.int .i64 false (.ofNat p),.fsl 0 1 bs.length none (byE bs)] []
def noW(p:Nat):Int:=IntKind.i64.wrap ((zA p).tdiv (zA 8))
def offW(p:Nat):Nat:=(IntKind.i64.wrap (zA p-IntKind.i64.wrap (noW p*zA 8))).toNat
def lenW(p m:Nat):Int:=mnI (zA m) (IntKind.i64.wrap (zA 8-(zA p).tmod (zA 8)))
def shW(p:Nat):Nat:=(IntKind.i64.wrap (zA p-zA p)).toNat
def ls1(l:List Xt):List Xt:=lsR xtOf xt0 l.length (xtE l)
def ls2(l:List Xt):List Xt:=lsR xtOf xt0 l.length (xtE (ls1 l))
def cW(off len q:Nat):Bool:=zE off q&&zD q (off+Nat.min (len-0) (8-off))
def bW(c:Bool)(off len sh q:Nat)(src:List UInt8)(x:UInt8):Int:=bif c then(bif cW off len q then zA (src.getD (sh+(0+(q-off))) 0).toNat else zA x.toNat)else zA x.toNat
def rowW(l1:List Xt)(i off len sh:Nat)(src:List UInt8)(q:Nat):List SV:=
 [.int .i64 false (bif zB q (0+i)then(l1.getD q xt0).no else(l1.getD q xt0).no),.int .u8 false (bW (zB q (0+i)) off len sh 0 src (l1.getD q xt0).b0),.int .u8 false (bW (zB q (0+i)) off len sh 1 src (l1.getD q xt0).b1),.int .u8 false (bW (zB q (0+i)) off len sh 2 src (l1.getD q xt0).b2),.int .u8 false (bW (zB q (0+i)) off len sh 3 src (l1.getD q xt0).b3),
  .int .u8 false (bW (zB q (0+i)) off len sh 4 src (l1.getD q xt0).b4),.int .u8 false (bW (zB q (0+i)) off len sh 5 src (l1.getD q xt0).b5),.int .u8 false (bW (zB q (0+i)) off len sh 6 src (l1.getD q xt0).b6),.int .u8 false (bW (zB q (0+i)) off len sh 7 src (l1.getD q xt0).b7)]
noncomputable def writeH(l:List Xt)(size:Int)(p m:Nat):List (Bool×Bool):=
 [(zE l.length 1099511627776&&(wfR xtOf l.length (xtE l)&&mayC size (ls1 l)),true),(true,true),(decide (zA m≤zA 4096),true),(!decide (zA p≤IntKind.i64.wrap (zA 1099511627776-zA m)),false),(zE l.length 1099511627776&&cX.wf l.length (xtE l),true),
  (zA m==zA 0,false),(true,true),(decide (zA p≤zA 4611686018427387904),true),(true,true),(decide (zA m≤zA 4611686018427387904),true),(!decide (zA m≤IntKind.i64.wrap (zA 4611686018427387904-zA p)),false),
  (decide (zA m>zA 4096),false),(decide (zA m>zA 0),true),(decide (IntKind.i64.wrap (zA m-lenW p m)>zA 0),false)]
def writeE(n i p m:Nat):List (Bool×Bool):=
 [(true,true),(zD i n,true),(decide (0≤IntKind.i64.wrap (zA p-IntKind.i64.wrap (noW p*zA 8))),true),(zE (offW p) 8,true),(decide (0≤IntKind.i64.wrap (zA p-zA p)),true),(zE (shW p) m,true),(zD (shW p) m,true),(decide (0≤lenW p m),true),(zE (lenW p m).toNat (m-shW p),true),(zD 0 (m-shW p),true)]
noncomputable def writeD(l:List Xt)(size:Int)(p:Nat):Bool:=ndPre (⟨size,l.length,l.length,xtE (ls1 l)⟩,noW p)
def wrL(l:List Xt)(p:Nat):List Xt:=needX (ls2 l) (noW p)
def wrI(l:List Xt)(p:Nat):Nat:=lowB (ls2 l) (noW p)
theorem write_way(l:List Xt)(size:Int)(p:Nat)(bs:List UInt8):(writeT l size p bs).follow [true,true,true,false,true,false,true,true,true,true,false,false,true,false,true,true,true,true,true,true,true,true,true,true,true] =
  some (writeH l size p bs.length++[(writeD l size p,true)]++writeE (wrL l p).length (wrI l p) p bs.length,
   ⟨.ret,[.tup [.agg [.int .i64 false (mxI size (IntKind.i64.wrap (zA p+zA bs.length))),.fsl 4 9 (wrL l p).length none (fun q=>rowW (wrL l p) (wrI l p) (offW p) (lenW p bs.length).toNat (shW p) bs (0+q))],.bool true true]],[],[]⟩):=by kernel_rfl
theorem noW_eq{p:Nat}(hp:p≤1099511627776):noW p=zA (p / 8):=by
 unfold noW
 show IntKind.i64.wrap (zA (p / 8))=_
 exact zI _ (by simp only[zF];omega)
theorem offW_int{p:Nat}(hp:p≤1099511627776):IntKind.i64.wrap (zA p-IntKind.i64.wrap (noW p*zA 8))=zA (p % 8):=by
 rw[noW_eq hp]
 have e1:IntKind.i64.wrap (zA (p / 8)*zA 8)=zA (p / 8*8):=by
  show IntKind.i64.wrap (zA (p / 8*8))=_
  exact zI _ (by simp only[zF];omega)
 rw[e1,zI _ (by simp only[zF];omega)]
 simp only[zF];omega
theorem offW_eq{p:Nat}(hp:p≤1099511627776):offW p=p % 8:=by
 unfold offW
 rw[offW_int hp];rfl
theorem lenW_eq{p m:Nat}(hm:p % 8+m≤8):lenW p m=zA m:=by
 unfold lenW
 have e1:(zA p).tmod (zA 8)=zA (p % 8):=rfl
 have e2:IntKind.i64.wrap (zA 8-zA (p % 8))=zA (8-p % 8):=by
  rw[zI _ (by simp only[zF];omega)]
  simp only[zF];omega
 rw[e1,e2]
 unfold mnI
 rw[if_neg (by simp only[zF];omega)]
theorem shW_int{p:Nat}:IntKind.i64.wrap (zA p-zA p)=zA 0:=by
 rw[Int.sub_self]
 exact zI _ (by omega)
theorem shW_eq{p:Nat}:shW p=0:=by unfold shW;rw[shW_int];rfl
theorem ls1_eq(l:List Xt):ls1 l=l:=ls_xt
theorem ls2_eq(l:List Xt):ls2 l=l:=by unfold ls2;rw[ls1_eq,ls_xt]
theorem cW_eq{off m q:Nat}(h:off+m≤8):cW off m q=(zE off q&&zD q (off+m)):=by
 unfold cW
 rw[Nat.sub_zero]
 have:Nat.min m (8-off)=m:=Nat.min_eq_left (by omega)
 rw[this]
theorem bW_eq{c:Bool}{off m q:Nat}{src:List UInt8}{x:UInt8}(h:off+m≤8)(hm:src.length=m):bW c off m 0 q src x=zA (bif c then pb_ off src.length q src x else x).toNat:=by
 unfold bW pb_
 rw[cW_eq h,hm]
 simp only[zM]
 cases c<;>cases (zE off q&&zD q (off+m))<;>rfl
theorem rowW_eq{l1:List Xt}{i off:Nat}{src:List UInt8}(h:off+src.length≤8)(q:Nat):rowW l1 i off src.length 0 src q=xtRow (bif zB q i then putX (l1.getD q xt0) off src else l1.getD q xt0):=by
 unfold rowW
 simp only[bW_eq h rfl,zM]
 cases zB q i<;>rfl
theorem set_row{l1:List Xt}{i:Nat}{y:Xt}(q:Nat)(hi:i<l1.length):(bif zB q i then y else l1.getD q xt0)=(l1.set i y).getD q xt0:=by
 simp only[List.getD,List.getElem?_set]
 cases hb:zB q i with
 | true=>
  have:=zH hb
  subst this
  simp[hi]
 | false=>
  have hne:¬i=q:=fun e=>by subst e;simp at hb
  rw[if_neg hne]
  rfl
def dirW(l:List Xt)(p m:Nat):Bool:=zE 1 m&&(zE (p % 8+m) 8&&(zE (p+m) 1099511627776&&dirN l (.ofNat (p / 8))))
structure RawW where
 c:RawC
 p:Int
 y:Sl
def RawW.b(r:RawW):List UInt8:=cB.ls r.y.1 r.y.2.2
theorem RawW.blen(r:RawW):r.b.length=r.y.1:=cB.ls_len
def wrDec(a:List SV)(b:List SB):Option RawW:=match a,b with
 | [v,.int .i64 _ p,y],[]=>(match decC v,slR 1 y with|some c,some s=>some ⟨c,p,s⟩|_,_=>none)
 | _,_=>none
def wrPre(r:RawW):Bool:=r.c.wf&&(cB.wf r.y.1 r.y.2.2&&(mayC r.c.size r.c.l&&(decide (0≤r.p)&&dirW r.c.l r.p.toNat r.y.1)))
def gWrite:=gSub wrDec wrPre fun k r=>⟨.tup [ctV (k+1) (max r.c.size (r.p+(r.y.1:Nat))) (zbN r.c.l r.p.toNat r.b),.bool true true],[],[]⟩
theorem write_told{F0:Fz}(hF0:∀b cs t,F0 b=some (cs,t)→t=0):SubOk F0 env spE writeF 20000000100000 gWrite:=zaF (z:=true) (TN_ok hF0) hF0 rfl fun k a b r hd hp=>by
 simp only[wrPre,zG]at hp
 obtain⟨p1,p2,p3,p0,p4⟩:=hp
 have p0:=of_decide_eq_true p0
 have hC:=zaO.1 p3
 simp only[dirW,zG]at p4
 obtain⟨d1,d2,d3,d4⟩:=p4
 have d1:=zJ d1
 have d2:=zJ d2
 have d3:=zJ d3
 have hbl:=r.blen
 have hlen:=hC.len
 unfold wrDec at hd
 split at hd
 .rename_i v c p y
  split at hd
  .rename_i c' s' hc hs
   injection hd with hd;subst hd
   simp only at p0 d1 d2 d3 d4 hbl hlen
   obtain⟨p,rfl⟩:=Int.eq_ofNat_of_zero_le p0
   rw[Int.toNat_natCast]at d2 d3 d4
   have en:noW p=zA (p / 8):=noW_eq (by omega)
   have eo:offW p=p % 8:=offW_eq (by omega)
   have el:(lenW p s'.1).toNat=s'.1:=by rw[lenW_eq d2];rfl
   obtain⟨hi,he⟩:=need_has hC (no:=zA (p / 8))
   have e1:ls1 c'.l=c'.l:=ls1_eq _
   have e2:ls2 c'.l=c'.l:=ls2_eq _
   have eL:wrL c'.l p=needX c'.l (.ofNat (p / 8)):=by unfold wrL;rw[e2,en]
   have eI:wrI c'.l p=lowB c'.l (.ofNat (p / 8)):=by unfold wrI;rw[e2,en]
   refine⟨_,_,_,.cons (ct_wk (zC _) hc p1) (.cons Wk.int (.cons (cB.sl_none hs p2 (zC _)) .nil)),.nil,zab (write_way c'.l c'.size p (RawW.mk c' (p:Int) s').b) ?_,?_,.nil,rfl⟩
   .rw[hbl]
    refine zag (zag ?_ (zaa ?_ zac)) ?_
    .unfold writeH
     refine zaa ?_ (zaa rfl (zaa ?_ (zaa ?_ (zaa ?_ (zaa ?_ (zaa rfl (zaa ?_ (zaa rfl (zaa ?_ (zaa ?_ (zaa ?_ (zaa ?_ (zaa ?_ zac)))))))))))))
     .rw[e1,p3,wf_xt,ble_t (by omega)];rfl
     .exact dt (by simp only[zF];omega)
     .rw[zI _ (by simp only[zF];omega),dt (by simp only[zF];omega)];rfl
     .rw[ble_t (by omega)];exact wf_xt
     .have:¬(zA s'.1=zA 0):=by simp only[zF];omega
      simpa using this
     .exact dt (by simp only[zF];omega)
     .exact dt (by simp only[zF];omega)
     .rw[zI _ (by simp only[zF];omega),dt (by simp only[zF];omega)];rfl
     .exact df (by simp only[zF];omega)
     .exact dt (by simp only[zF];omega)
     .rw[lenW_eq d2,Int.sub_self,zI _ (by omega)]
      exact df (by simp)
    .unfold writeD ndPre
     have hl:(RawD.mk c'.size c'.l.length c'.l.length (xtE (ls1 c'.l))).l=c'.l:=by unfold RawD.l;rw[e1];exact ls_xt
     have hw:(RawD.mk c'.size c'.l.length c'.l.length (xtE (ls1 c'.l))).wf=true:=by unfold RawD.wf;rw[e1,zL];exact wf_xt
     simp only
     rw[hw,hl,tt_t hC.srt,ble_t (by omega),en,d4]
     rfl
    .unfold writeE
     rw[offW_int (by omega),eo,shW_int,shW_eq,lenW_eq d2,eL,eI]
     exact zaa rfl (zaa (blt_t hi) (zaa (zcb _) (zaa (ble_t (by omega)) (zaa (zcb _) (zaa (ble_t (by omega)) (zaa (blt_t (by omega)) (zaa (zcb _) (zaa (ble_t (by show s'.1≤s'.1-0;omega)) (zaa (blt_t (by omega)) zac)))))))))
   .have hX:(zbN c'.l p (RawW.mk c' (p:Int) s').b).length=(needX c'.l (.ofNat (p / 8))).length:=by unfold zbN;simp
    refine .cons (.tup (.cons (.agg (.cons (.int_eq ?_) (.cons ?_ .nil))) (.cons Wk.bool .nil))) .nil
    .rw[hbl,mxI_eq]
     have:IntKind.i64.wrap (zA p+zA s'.1)=(p:Int)+(s'.1:Nat):=zI _ (by simp only[zF];omega)
     rw[this]
    .show Wk (k+1) _ (.fsl (k+1) 9 (zbN c'.l p (RawW.mk c' (p:Int) s').b).length none (xtE (zbN c'.l p (RawW.mk c' (p:Int) s').b)))
     rw[eL,eI,eo,hbl,el,shW_eq,hX]
     refine .fsl (zC _) (.inl rfl) ?_
     refine cX.of_row (st:=0) (l:=zbN c'.l p (RawW.mk c' (p:Int) s').b) (zC _) fun q hq=>?_
     rw[zM]
     have h8:p % 8+(RawW.mk c' (p:Int) s').b.length≤8:=by rw[hbl];exact d2
     have:=rowW_eq (l1:=needX c'.l (.ofNat (p / 8))) (i:=lowB c'.l (.ofNat (p / 8))) (src:=(RawW.mk c' (p:Int) s').b) h8 q
     rw[hbl]at this
     rw[this]
     show xtRow _=xtRow _
     congr 1
     unfold zbN
     have:=set_row (l1:=needX c'.l (.ofNat (p / 8))) (i:=lowB c'.l (.ofNat (p / 8))) (y:=putX ((needX c'.l (.ofNat (p / 8))).getD (lowB c'.l (.ofNat (p / 8))) xt0) (p % 8) (RawW.mk c' (p:Int) s').b) q hi
     rw[←show cX.d=xt0 from rfl]at this ⊢
     rw[←this]
     cases hb:zB q (lowB c'.l (.ofNat (p / 8)))with
     | true=>rw[zH hb]
     | false=>rfl
  .cases hd
 .cases hd
abbrev ixF:FuncId:=147
abbrev trC:FuncId:=107
abbrev puC:FuncId:=165
abbrev haC:FuncId:=149
abbrev spT:TypeId:=168
abbrev inT:TypeId:=3
def ixLive:List Tmp:=[8,7,1,0]
def ixTs(e:Ex):List Tmp:=match e with|.normal=>ixLive|.ret=>[4]|_=>[]
def ixWs:List Tmp:=[9,10,5,11,12,13,14,15,16,17,4,18,8]
def ixVn(cl k:Nat)(n:Nat)(i:Int):List SV:=[.int .i64 false i,.int .i64 false (.ofNat n),.fn cl [] [.ptr 0 k true 0 0],.nsl 1 9 false 0 n 1]
def ixBn(c:SB)(l:List Xt):List SB:=[c,.row 9 l.length (xtE l) xtT]
def ixVf(cl k:Nat)(l:List Xt)(i:Int):List SV:=[.int .i64 false i,.int .i64 false (.ofNat l.length),.fn cl [] [.ptr 0 k true 0 0],.fsl 0 9 l.length none (xtE l)]
def szB(size:Int):SB:=.lst 1 [[.int .i64 false size]] inT
def spB(pos len:Int):SB:=.lst 2 [[.int .i64 false pos,.int .i64 false len]] spT
abbrev meetF:FuncId:=129
abbrev withinF:FuncId:=136
def spV(a b:Int):SV:=.agg [.int .i64 false a,.int .i64 false b]
structure RawM where
 a:Int
 b:Int
 c:Int
 d:Int
def decM(l:List SV):Option RawM:=match l with
 | [.agg [.int .i64 _ a,.int .i64 _ b],.agg [.int .i64 _ c,.int .i64 _ d]]=>some ⟨a,b,c,d⟩
 | _=>none
def okP(x:Int):Bool:=decide (0≤x)&&decide (x≤2199023255552)
theorem okP_of{x:Int}(h:okP x=true):0≤x∧x≤2199023255552:=by
 unfold okP at h
 rw[zG,decide_eq_true_eq,decide_eq_true_eq]at h
 exact h
theorem okP_t{x:Int}(h:0≤x)(k:x≤2199023255552):okP x=true:=by unfold okP;rw[dt h,dt k];rfl
def RawM.ok(r:RawM):Bool:=okP r.a&&(okP r.b&&(okP r.c&&okP r.d))
theorem RawM.ok_of{r:RawM}(h:r.ok=true):(0≤r.a∧r.a≤2199023255552)∧(0≤r.b∧r.b≤2199023255552)∧(0≤r.c∧r.c≤2199023255552)∧(0≤r.d∧r.d≤2199023255552):=by
 unfold RawM.ok at h
 simp only[zG]at h
 exact⟨okP_of h.1,okP_of h.2.1,okP_of h.2.2.1,okP_of h.2.2.2⟩
def noM(a b c d:Int):Bool:=decide (min (a+b) (c+d)≤max a c)
def atM(a b c d:Int):Int:=bif noM a b c d then 0 else max a c
def lenM(a b c d:Int):Int:=bif noM a b c d then 0 else min (a+b) (c+d)-max a c
noncomputable def meetT(a b c d:Int):RT Lf:=fnT env TB meetF 50 [spV a b,spV c d] []
def mxT(a b:Int):List (Bool×Bool):=[(decide (a≥zA 0),true),(decide (a≤zA 4611686018427387904),true),(decide (b≥zA 0),true),(decide (b≤zA 4611686018427387904),true),(!decide (b≤IntKind.i64.wrap (zA 4611686018427387904-a)),false)]
def mxC(a b c d:Int):Bool:=decide (mxI a c≥mnI (IntKind.i64.wrap (a+b)) (IntKind.i64.wrap (c+d)))
theorem meet_no(a b c d:Int):(meetT a b c d).follow [true,true,true,true,false,true,true,true,true,false,true]=some (mxT a b++mxT c d++[(mxC a b c d,true)],⟨.ret,[.agg [.int .i64 true (.ofNat 0),.int .i64 true (.ofNat 0)]],[],[]⟩):=by kernel_rfl
theorem meet_yes(a b c d:Int):(meetT a b c d).follow [true,true,true,true,false,true,true,true,true,false,false]=some (mxT a b++mxT c d++[(mxC a b c d,false)],⟨.ret,[.agg [.int .i64 false (mxI a c),.int .i64 false (IntKind.i64.wrap (mnI (IntKind.i64.wrap (a+b)) (IntKind.i64.wrap (c+d))-mxI a c))]],[],[]⟩):=by kernel_rfl
theorem mxT_ok{a b:Int}(h:0≤a∧a≤2199023255552)(k:0≤b∧b≤2199023255552):eqs_ (mxT a b)=true:=by
 unfold mxT
 refine zaa (dt (by simp only[zF];omega)) (zaa (dt (by simp only[zF];omega)) (zaa (dt (by simp only[zF];omega)) (zaa (dt (by simp only[zF];omega)) (zaa ?_ zac))))
 rw[zI _ (by simp only[zF];omega),dt (by simp only[zF];omega)];rfl
theorem mxC_eq{a b c d:Int}(ha:0≤a∧a≤2199023255552)(hb:0≤b∧b≤2199023255552)(hc:0≤c∧c≤2199023255552)(hd:0≤d∧d≤2199023255552):mxC a b c d=noM a b c d:=by
 unfold mxC noM
 rw[mxI_eq,mnI_eq,zI _ (by omega),zI _ (by omega)]
def gMeet:=gPl decM RawM.ok fun r=>spV (atM r.a r.b r.c r.d) (lenM r.a r.b r.c r.d)
theorem decM_wk{K:Nat}{l:List SV}{r:RawM}(h:decM l=some r):WkL K l [spV r.a r.b,spV r.c r.d]:=by
 unfold decM at h
 split at h
 .injection h with h;subst h;exact .cons (.agg (.cons Wk.int (.cons Wk.int .nil))) (.cons (.agg (.cons Wk.int (.cons Wk.int .nil))) .nil)
 .cases h
theorem meet_told{F0:Fz}(hF0:∀b cs t,F0 b=some (cs,t)→t=0):zaA F0 env spE meetF 50 gMeet:=za6 TB_ok hF0 rfl fun K a r hd hp=>by
 obtain⟨h1,h2,h3,h4⟩:=r.ok_of hp
 have e:=mxC_eq h1 h2 h3 h4
 cases hn:noM r.a r.b r.c r.d with
 | true=>
  refine⟨_,_,decM_wk hd,zab (meet_no r.a r.b r.c r.d) (zag (zag (mxT_ok h1 h2) (mxT_ok h3 h4)) (zaa (by rw[e,hn]) zac)),.cons (.agg (.cons (.int_eq ?_) (.cons (.int_eq ?_) .nil))) .nil⟩
  .unfold atM;rw[hn];rfl
  .unfold lenM;rw[hn];rfl
 | false=>
  refine⟨_,_,decM_wk hd,zab (meet_yes r.a r.b r.c r.d) (zag (zag (mxT_ok h1 h2) (mxT_ok h3 h4)) (zaa (by rw[e,hn]) zac)),.cons (.agg (.cons (.int_eq ?_) (.cons (.int_eq ?_) .nil))) .nil⟩
  .unfold atM;rw[hn,mxI_eq];rfl
  .unfold lenM
   unfold noM at hn
   have hn':=of_decide_eq_false hn
   rw[show noM r.a r.b r.c r.d=false from hn,mxI_eq,mnI_eq,zI (r.a+r.b) (by omega),zI (r.c+r.d) (by omega),zI _ (by omega)];rfl
noncomputable def TMe:Told:=TB.withF meetF (zaq 50 gMeet)
theorem TMe_ok{F0:Fz}(hF0:∀b cs t,F0 b=some (cs,t)→t=0):ToldOk F0 env spE TMe:=za7 TB_ok (meet_told hF0)
noncomputable def withinT(a b c d:Int):RT Lf:=fnT env TMe withinF 200 [spV a b,spV c d] []
theorem within_way(a b c d:Int):(withinT a b c d).follow [true,true,true,true,false,true,true,true,true,false,false,true]=some (mxT a b++mxT c d++[(b==zA 0,false),((RawM.mk a b c d).ok,true)],⟨.ret,[.bool false (atM a b c d==a&&(lenM a b c d==b&&true))],[],[]⟩):=by kernel_rfl
def inM(a b c d:Int):Bool:=decide (c≤a)&&decide (a+b≤c+d)
theorem inM_eq{a b c d:Int}(ha:0≤a∧a≤2199023255552)(hb:1≤b∧b≤2199023255552)(hc:0≤c∧c≤2199023255552)(hd:0≤d∧d≤2199023255552):(atM a b c d==a&&(lenM a b c d==b&&true))=inM a b c d:=by
 rw[Bool.eq_iff_iff]
 unfold inM atM lenM
 simp only[zG,beq_iff_eq,decide_eq_true_eq,and_true]
 cases hn:noM a b c d with
 | true=>
  have hn:=of_decide_eq_true hn
  simp only[cond_true]
  omega
 | false=>
  have hn:=of_decide_eq_false hn
  simp only[cond_false]
  omega
def gWithin:=gPl decM (fun r=>r.ok&&decide (1≤r.b)) fun r=>.bool false (inM r.a r.b r.c r.d)
theorem within_told{F0:Fz}(hF0:∀b cs t,F0 b=some (cs,t)→t=0):zaA F0 env spE withinF 200 gWithin:=za6 (TMe_ok hF0) hF0 rfl fun K a r hd hp=>by
 rw[zG]at hp
 obtain⟨h1,h2,h3,h4⟩:=r.ok_of hp.1
 have hb:=of_decide_eq_true hp.2
 refine⟨_,_,decM_wk hd,zab (within_way r.a r.b r.c r.d) (zag (zag (mxT_ok h1 h2) (mxT_ok h3 h4)) (zaa ?_ (zaa hp.1 zac))),.cons (.bool_eq (inM_eq h1 ⟨hb,h2.2⟩ h3 h4)) .nil⟩
 have:¬(r.b=zA 0):=by simp only[zF];omega
 simpa using this
noncomputable def TO:Told:=TMe.withF withinF (zaq 200 gWithin)
theorem TO_ok{F0:Fz}(hF0:∀b cs t,F0 b=some (cs,t)→t=0):ToldOk F0 env spE TO:=za7 (TMe_ok hF0) (within_told hF0)
noncomputable def ixU(va:List SV)(bl:List SB):RT Lf:=zaJ env TO ixF 26 (zaf ixF 26) 19 ixLive ixTs 250 va bl
def fstX(p:Xt→Bool)(l:List Xt):Nat:=lowG (fun x=>!p x) l
theorem fstX_le{p:Xt→Bool}{l:List Xt}:fstX p l≤l.length:=zc3
structure IxOk{κ:Type}(va:κ→List Xt→Int→List SV)(bl:κ→List Xt→List SB)(kp:List (Option (Nat×Bool)))(g:κ→List Xt→Prop)(p:κ→Xt→Bool):Prop where
 stop:∀t l i,i≤l.length→¬i<l.length→(ixU (va t l (.ofNat i)) (bl t l)).sel=some ⟨.exit 0,[],bl t l,kp⟩
 hit:∀t l i (h:i<l.length),g t l→p t l[i]=true→(ixU (va t l (.ofNat i)) (bl t l)).sel=some ⟨.ret,[.int .i64 false (.ofNat i)],bl t l,kp⟩
 next:∀t l i (h:i<l.length),g t l→p t l[i]=false→(ixU (va t l (.ofNat i)) (bl t l)).sel=some ⟨.normal,va t l (IntKind.i64.wrap (zA i+zA 1)),bl t l,kp⟩
 refl:∀t l x,WkL 0 (va t l x) (va t l x)
 brefl:∀K t l,WkBs K (bl t l) (bl t l)
 small:∀t l,(bl t l).length<4000
 kpc:kpLe (zc8 kp kp) kp=true
 kpr:kpLe kp kp=true
noncomputable def ixR{κ:Type}{va:κ→List Xt→Int→List SV}{bl:κ→List Xt→List SB}{kp:List (Option (Nat×Bool))}{g:κ→List Xt→Prop}{p:κ→Xt→Bool}(B:IxOk va bl kp g p)(K:Nat)(t:κ)(l:List Xt)(hl:l.length≤137438953472)(hg:g t l) :
  za5 env TO ixF 26 (zaf ixF 26) 19 ixLive ixTs 250 K { i:Nat // i≤fstX (p t) l } where
 va s:=va t l (.ofNat s.1)
 bl s:=bl t l
 μ s:=l.length-s.1
 out s:=match zD (fstX (p t) l) l.length with|true=>⟨.ret,[.int .i64 false (.ofNat (fstX (p t) l))],bl t l,kp⟩|false=>⟨.exit 0,[],bl t l,kp⟩
 tsn:=rfl
 small s:=B.small t l
 step s:=by
  obtain⟨i,hi⟩:=s
  have hle:=fstX_le (p:=p t) (l:=l)
  by_cases h:i<fstX (p t) l
  .have hp:=zbA (p:=fun x=>!p t x) (l:=l) (i:=i) (by omega) h
   have hp:p t l[i]=false:=by simpa using hp
   refine⟨_,B.next t l i (by omega) hg hp,.inl ⟨rfl,⟨i+1,h⟩,?_,B.brefl 0 t l,by show l.length-(i+1)<l.length-i;omega,rfl,rfl,rfl,?_⟩⟩
   .show WkL 0 (va t l _) (va t l _)
    rw[zap (by omega)]
    exact B.refl t l _
   .cases zD (fstX (p t) l) l.length<;>exact B.kpc
  .have e:i=fstX (p t) l:=by omega
   by_cases hn:fstX (p t) l<l.length
   .have hp:=zc4 (p:=fun x=>!p t x) (l:=l) hn
    have hp:p t l[fstX (p t) l]=true:=(Bool.not_eq_false' _).mp hp
    rw[blt_t hn]
    subst e
    exact⟨_,B.hit t l _ hn hg hp,.inr ⟨by simp,rfl,.cons Wk.int .nil,B.brefl K t l,B.kpr⟩⟩
   .rw[blt_f hn]
    subst e
    exact⟨_,B.stop t l _ hle hn,.inr ⟨by simp,rfl,.nil,B.brefl K t l,B.kpr⟩⟩
def gLp2{ρ:Type}(dec:List SV→List SB→Option ρ)(pre pb:ρ→Bool)(o1 o2:Nat→ρ→Left (Ex×List (Tmp×SV)))(k:Nat)(a:List SV)(b:List SB):RT (Left (Ex×List (Tmp×SV))):=
 match dec a b with
 | some r=>.br (pre r) (.br (pb r) (.ret (o1 k r)) (.ret (o2 k r))) .bad
 | none=>.bad
theorem lp_spec2{E:Env}{sp:Sp}{T:Told}{F0:Fz}(hT:ToldOk F0 E sp T)(hF0:∀b cs t,F0 b=some (cs,t)→t=0){f p:Nat}{body:Code}{n0:Nat}(hat:InCode E f (2*p) body n0){live ws:List Tmp}(hws:∀t,t∈wr body→t∈ws){ts:Ex→List Tmp}(hlv:(live.all fun t=>zD t n0)=true)(hn0:n0≤100000){rr c:Nat}{ρ:Type}{dec:List SV→List SB→Option ρ}{pre pb:ρ→Bool}{o1 o2:Nat→ρ→Left (Ex×List (Tmp×SV))}
  (hrun:∀k a b r,dec a b=some r→pre r=true→∃(S:Type) (R:za5 E T f p body n0 live ts rr (k+1) S) (s:S),rr*(R.μ s+1)≤c∧WkL 0 a (R.va s)∧WkBs 0 b (R.bl s)∧(match pb r with|true=>o1 k r|false=>o2 k r)=⟨((R.out s).ex,(ts (R.out s).ex).zip (R.out s).vs),(R.out s).bs,(R.out s).kp⟩) :
  SubLp F0 E sp body n0 c live ws (gLp2 dec pre pb o1 o2):=
 ⟨hws,fun F ι k h vs vs' bs b L h0 H hbs hbn hn hv hl hg=>by
  unfold gLp2 at hg
  split at hg
  .rename_i r hr
   cases hp:pre r with
   | false=>rw[hp]at hg;cases hg
   | true=>
    rw[hp]at hg
    obtain⟨S,R,s,w1,w2,w3,w4⟩:=hrun k vs bs r hr hp
    cases hq:pb r with
    | true=>
     rw[hq]at hg w4
     simp only[RT.sel,cond_true,zN]at hg w4
     subst hg
     exact lp_of hT hF0 hat hlv hn0 R s w1 hbs w2 w3 w4 h0 H hbn hv hl
    | false=>
     rw[hq]at hg w4
     simp only[RT.sel,cond_true,cond_false,zN]at hg w4
     subst hg
     exact lp_of hT hF0 hat hlv hn0 R s w1 hbs w2 w3 w4 h0 H hbn hv hl
  .cases hg⟩
def gOr{β:Type}(c:List SV→Bool)(g1 g2:Nat→List SV→List SB→RT β)(k:Nat)(a:List SV)(b:List SB):RT β:=match c a with|true=>g1 k a b|false=>g2 k a b
theorem subLp_or{E:Env}{sp:Sp}{F0:Fz}{body:Code}{n0 c:Nat}{live ws:List Tmp}{g1 g2:Nat→List SV→List SB→RT (Left (Ex×List (Tmp×SV)))}(q:List SV→Bool)(h1:SubLp F0 E sp body n0 c live ws g1)(h2:SubLp F0 E sp body n0 c live ws g2):SubLp F0 E sp body n0 c live ws (gOr q g1 g2):=
 ⟨h1.1,fun F ι k h vs vs' bs b L h0 H hbs hbn hn hv hl hg=>by
  unfold gOr at hg
  split at hg
  .exact h1.2 F ι k h vs vs' bs b L h0 H hbs hbn hn hv hl hg
  .exact h2.2 F ι k h vs vs' bs b L h0 H hbs hbn hn hv hl hg⟩
def trVa(s:Int)(l:List Xt)(i:Int):List SV:=ixVn trC 1 l.length i
def trBl(s:Int)(l:List Xt):List SB:=ixBn (szB s) l
def puVa(s:Int×Int)(l:List Xt)(i:Int):List SV:=ixVn puC 2 l.length i
def puBl(s:Int×Int)(l:List Xt):List SB:=ixBn (spB s.1 s.2) l
def haVa(s:Int)(l:List Xt)(i:Int):List SV:=ixVf haC 1 l i
def haBl(s:Int)(l:List Xt):List SB:=[szB s]
def kp2:List (Option (Nat×Bool)):=[some (0,true),some (1,true)]
def kp1:List (Option (Nat×Bool)):=[some (0,true)]
def noA(l:List Xt)(i:Nat):Int:=(l.getD i xt0).no
def ixI(l:List Xt)(i:Nat):List (Bool×Bool):=[(decide (zA i<zA l.length),true),(true,true),(zD i l.length,true)]
theorem ixI_ok{l:List Xt}{i:Nat}(h:i<l.length):eqs_ (ixI l i)=true:=zaa (by rw[zaV,blt_t h]) (zaa rfl (zaa (blt_t h) zac))
theorem tr_stop(l:List Xt)(i:Nat)(s:Int):(ixU (trVa s l (.ofNat i)) (trBl s l)).follow [false]=some ([(decide (zA i<zA l.length),false)],⟨.exit 0,[],trBl s l,kp2⟩):=by kernel_rfl
theorem tr_hit(l:List Xt)(i:Nat)(s:Int):(ixU (trVa s l (.ofNat i)) (trBl s l)).follow [true,true,true,true]=some (ixI l i++[(decide (IntKind.i64.wrap (noA l (0+i)*zA 8)≥s),true)],⟨.ret,[.int .i64 false (.ofNat i)],trBl s l,kp2⟩):=by kernel_rfl
theorem tr_next(l:List Xt)(i:Nat)(s:Int):(ixU (trVa s l (.ofNat i)) (trBl s l)).follow [true,true,true,false]=some (ixI l i++[(decide (IntKind.i64.wrap (noA l (0+i)*zA 8)≥s),false)],⟨.normal,trVa s l (IntKind.i64.wrap (zA i+zA 1)),trBl s l,kp2⟩):=by kernel_rfl
theorem ha_stop(l:List Xt)(i:Nat)(s:Int):(ixU (haVa s l (.ofNat i)) (haBl s l)).follow [false]=some ([(decide (zA i<zA l.length),false)],⟨.exit 0,[],haBl s l,kp1⟩):=by kernel_rfl
theorem ha_hit(l:List Xt)(i:Nat)(s:Int):(ixU (haVa s l (.ofNat i)) (haBl s l)).follow [true,true,true,true]=some (ixI l i++[(noA l i==s,true)],⟨.ret,[.int .i64 false (.ofNat i)],haBl s l,kp1⟩):=by kernel_rfl
theorem ha_next(l:List Xt)(i:Nat)(s:Int):(ixU (haVa s l (.ofNat i)) (haBl s l)).follow [true,true,true,false]=some (ixI l i++[(noA l i==s,false)],⟨.normal,haVa s l (IntKind.i64.wrap (zA i+zA 1)),haBl s l,kp1⟩):=by kernel_rfl
def puQ(l:List Xt)(i:Nat)(s:Int×Int):List (Bool×Bool):=[((RawM.mk (IntKind.i64.wrap (noA l (0+i)*zA 8)) (.ofNat 8) s.1 s.2).ok&&true,true)]
def puM(l:List Xt)(i:Nat)(s:Int×Int):Bool:=inM (IntKind.i64.wrap (noA l (0+i)*zA 8)) (.ofNat 8) s.1 s.2
theorem pu_stop(l:List Xt)(i:Nat)(s:Int×Int):(ixU (puVa s l (.ofNat i)) (puBl s l)).follow [false]=some ([(decide (zA i<zA l.length),false)],⟨.exit 0,[],puBl s l,kp2⟩):=by kernel_rfl
theorem pu_hit(l:List Xt)(i:Nat)(s:Int×Int):(ixU (puVa s l (.ofNat i)) (puBl s l)).follow [true,true,true,true,true]=some (ixI l i++puQ l i s++[(puM l i s,true)],⟨.ret,[.int .i64 false (.ofNat i)],puBl s l,kp2⟩):=by kernel_rfl
theorem pu_next(l:List Xt)(i:Nat)(s:Int×Int):(ixU (puVa s l (.ofNat i)) (puBl s l)).follow [true,true,true,true,false]=some (ixI l i++puQ l i s++[(puM l i s,false)],⟨.normal,puVa s l (IntKind.i64.wrap (zA i+zA 1)),puBl s l,kp2⟩):=by kernel_rfl
def SmallX(l:List Xt):Prop:=∀x∈l,0≤x.no∧x.no≤137438953472
theorem OkC.smallX{size:Int}{l:List Xt}(h:OkC size l):SmallX l:=fun x hx=>by have:=(h.all x hx).lo;have:=(h.all x hx).hi;omega
abbrev trP(s:Int)(x:Xt):Bool:=decide (s≤x.no*8)
abbrev haP(s:Int)(x:Xt):Bool:=x.no==s
abbrev puP(s:Int×Int)(x:Xt):Bool:=inM (x.no*8) 8 s.1 s.2
theorem no8{l:List Xt}(hg:SmallX l){i:Nat}(h:i<l.length):IntKind.i64.wrap (noA l (0+i)*zA 8)=l[i].no*8:=by
 rw[zM]
 unfold noA
 rw[zaI h]
 have:=hg _ (zK h)
 exact zI _ (by simp only[zF];omega)
theorem xrow_refl{K:Nat}{l:List Xt}{t:TypeId}:WkB K (.row 9 l.length (xtE l) t) (.row 9 l.length (xtE l) t):=.row zbq
theorem tr_ok:IxOk trVa trBl kp2 (fun _=>SmallX) trP where
 stop t l i h1 h:=zab (tr_stop l i t) (zaa (by rw[zaV,blt_f h]) zac)
 hit t l i h hg hp:=zab (tr_hit l i t) (zag (ixI_ok h) (zaa (by rw[no8 hg h];exact hp) zac))
 next t l i h hg hp:=zab (tr_next l i t) (zag (ixI_ok h) (zaa (by rw[no8 hg h];exact hp) zac))
 refl t l x:=.cons Wk.int (.cons Wk.int (.cons (Wk.fnc (.cons Wk.ptr .nil)) (.cons (Wk.nsl (zC _)) .nil)))
 brefl K t l:=.cons (.lst1 (.cons Wk.int .nil)) (fun _=>nofun) (.cons xrow_refl (fun _=>by simp) .nil)
 small t l:=by show 2<4000;omega
 kpc:=rfl
 kpr:=rfl
theorem pu_ok:IxOk puVa puBl kp2 (fun s l=>SmallX l∧okP s.1=true∧okP s.2=true) puP where
 stop t l i h1 h:=zab (pu_stop l i t) (zaa (by rw[zaV,blt_f h]) zac)
 hit t l i h hg hp:=zab (pu_hit l i t) (zag (zag (ixI_ok h) (zaa (by
  rw[no8 hg.1 h]
  have:=hg.1 _ (zK h)
  unfold RawM.ok
  simp only
  rw[okP_t (by omega) (by omega),hg.2.1,hg.2.2];rfl) zac)) (zaa (by unfold puM;rw[no8 hg.1 h];exact hp) zac))
 next t l i h hg hp:=zab (pu_next l i t) (zag (zag (ixI_ok h) (zaa (by
  rw[no8 hg.1 h]
  have:=hg.1 _ (zK h)
  unfold RawM.ok
  simp only
  rw[okP_t (by omega) (by omega),hg.2.1,hg.2.2];rfl) zac)) (zaa (by unfold puM;rw[no8 hg.1 h];exact hp) zac))
 refl t l x:=.cons Wk.int (.cons Wk.int (.cons (Wk.fnc (.cons Wk.ptr .nil)) (.cons (Wk.nsl (zC _)) .nil)))
 brefl K t l:=.cons (.lst1 (.cons Wk.int (.cons Wk.int .nil))) (fun _=>nofun) (.cons xrow_refl (fun _=>by simp) .nil)
 small t l:=by show 2<4000;omega
 kpc:=rfl
 kpr:=rfl
theorem ha_ok:IxOk haVa haBl kp1 (fun _ _=>True) haP where
 stop t l i h1 h:=zab (ha_stop l i t) (zaa (by rw[zaV,blt_f h]) zac)
 hit t l i h hg hp:=zab (ha_hit l i t) (zag (ixI_ok h) (zaa (by unfold noA;rw[zaI h];exact hp) zac))
 next t l i h hg hp:=zab (ha_next l i t) (zag (ixI_ok h) (zaa (by unfold noA;rw[zaI h];exact hp) zac))
 refl t l x:=.cons Wk.int (.cons Wk.int (.cons (Wk.fnc (.cons Wk.ptr .nil)) (.cons (cX.fsl_refl (zC _) (.inl rfl)) .nil)))
 brefl K t l:=.cons (.lst1 (.cons Wk.int .nil)) (fun _=>nofun) .nil
 small t l:=by show 1<4000;omega
 kpc:=rfl
 kpr:=rfl
structure RawX(κ:Type) where
 n:Nat
 q:Nat
 m:Nat
 e:Nat→List SV
 t:κ
def RawX.l{κ:Type}(r:RawX κ):List Xt:=cX.ls r.n r.e
theorem RawX.len{κ:Type}(r:RawX κ):r.l.length=r.n:=cX.ls_len
def trDec(a:List SV)(b:List SB):Option (RawX Int):=match a,b with
 | [.int .i64 _ (.ofNat 0),.int .i64 _ (.ofNat n),.fn f [] [.ptr 0 1 _ 0 0],.nsl 1 9 _ 0 n2 z],[.lst 1 [[.int .i64 _ s]] t0,.row 9 m e t1]=>
  (match zB f trC&&(zB t0 inT&&(zB t1 xtT&&zE z 1))with|true=>some ⟨n,n2,m,e,s⟩|false=>none)
 | _,_=>none
def puDec(a:List SV)(b:List SB):Option (RawX (Int×Int)):=match a,b with
 | [.int .i64 _ (.ofNat 0),.int .i64 _ (.ofNat n),.fn f [] [.ptr 0 2 _ 0 0],.nsl 1 9 _ 0 n2 z],[.lst 2 [[.int .i64 _ s,.int .i64 _ t]] t0,.row 9 m e t1]=>
  (match zB f puC&&(zB t0 spT&&(zB t1 xtT&&zE z 1))with|true=>some ⟨n,n2,m,e,(s,t)⟩|false=>none)
 | _,_=>none
def haDec(a:List SV)(b:List SB):Option (RawX Int):=match a,b with
 | [.int .i64 _ (.ofNat 0),.int .i64 _ (.ofNat n),.fn f [] [.ptr 0 1 _ 0 0],x],[.lst 1 [[.int .i64 _ s]] t0]=>
  (match slR 9 x with|some (m,_,e)=>(match zB f haC&&zB t0 inT with|true=>some ⟨n,m,m,e,s⟩|false=>none)|none=>none)
 | _,_=>none
noncomputable def ixPre{κ:Type}(g:κ→List Xt→Prop)(r:RawX κ):Bool:=zB r.n r.q&&(zB r.n r.m&&(zE r.n 137438953472&&(cX.wf r.n r.e&&tt (g r.t r.l))))
def ixB{κ:Type}(p:κ→Xt→Bool)(r:RawX κ):Bool:=zD (fstX (p r.t) r.l) r.n
noncomputable def ixG{κ:Type}(dec:List SV→List SB→Option (RawX κ))(bl:κ→List Xt→List SB)(kp:List (Option (Nat×Bool)))(g:κ→List Xt→Prop)(p:κ→Xt→Bool):=
 gLp2 dec (ixPre g) (ixB p) (fun k r=>⟨(.ret,[(4,.int .i64 false (.ofNat (fstX (p r.t) r.l)))]),bl r.t r.l,kp⟩) fun k r=>⟨(.exit 0,[]),bl r.t r.l,kp⟩
theorem ix_loop{κ:Type}{va:κ→List Xt→Int→List SV}{bl:κ→List Xt→List SB}{kp:List (Option (Nat×Bool))}{g:κ→List Xt→Prop}{p:κ→Xt→Bool}(B:IxOk va bl kp g p){dec:List SV→List SB→Option (RawX κ)}(hd:∀a b r,dec a b=some r→r.n=r.q→r.n=r.m→cX.wf r.n r.e=true→WkL 0 a (va r.t r.l (.ofNat 0))∧WkBs 0 b (bl r.t r.l))
  {F0:Fz} (hF0:∀b cs t,F0 b=some (cs,t)→t=0):SubLp F0 env spE (zaf ixF 26) 19 40000000000000 ixLive ixWs (ixG dec bl kp g p):=
 lp_spec2 (ts:=ixTs) (TO_ok hF0) hF0 (zaN (n:=19) (by kernel_rfl) (by kernel_rfl)) (ws_ok (by kernel_rfl)) (by decide) (by decide) fun k a b r hr hp=>by
  unfold ixPre at hp
  simp only[zG]at hp
  obtain⟨z1,z2,p1,p2,p3⟩:=hp
  have p1:=zJ p1
  have hlen:=r.len
  obtain⟨w1,w2⟩:=hd a b r hr (zH z1) (zH z2) p2
  refine⟨_,ixR B (k+1) r.t r.l (by omega) (of_tt p3),⟨0,zO _⟩,?_,w1,w2,?_⟩
  .show 250*(r.l.length-0+1)≤_
   omega
  .have e:ixB p r=zD (fstX (p r.t) r.l) r.l.length:=by unfold ixB;rw[hlen]
   rw[e]
   show _=(⟨(Lf.ex (match zD (fstX (p r.t) r.l) r.l.length with|true=>⟨.ret,[.int .i64 false (.ofNat (fstX (p r.t) r.l))],bl r.t r.l,kp⟩|false=>⟨.exit 0,[],bl r.t r.l,kp⟩),_),_,_⟩:Left (Ex×List (Tmp×SV)))
   unfold ixR
   simp only
   cases zD (fstX (p r.t) r.l) r.l.length<;>rfl
theorem trDec_wk(a:List SV)(b:List SB)(r:RawX Int)(h:trDec a b=some r)(q4:r.n=r.q)(q5:r.n=r.m)(hw:cX.wf r.n r.e=true):WkL 0 a (trVa r.t r.l (.ofNat 0))∧WkBs 0 b (trBl r.t r.l):=by
 unfold trDec at h
 split at h
 .rename_i c1 c2 n f c3 c4 n2 z c5 s t0 m e t1
  split at h
  .rename_i hc
   injection h with h;subst h
   simp only[zG]at hc
   obtain⟨q1,q2,q3,q6⟩:=hc
   have q1:=zH q1
   have q2:=zH q2
   have q3:=zH q3
   simp only at q4 q5
   subst q1 q2 q3 q4 q5
   unfold trVa trBl ixVn ixBn
   rw[RawX.len]
   exact⟨.cons Wk.int (.cons Wk.int (.cons (Wk.fnc (.cons Wk.ptr .nil)) (.cons (Wk.nsl (zJ q6)) .nil))),.cons (.lst1 (.cons Wk.int .nil)) (fun _=>by simp) (.cons (.row (cX.wf_wk (zC 0) hw)) (fun _=>by simp) .nil)⟩
  .cases h
 .cases h
theorem puDec_wk(a:List SV)(b:List SB)(r:RawX (Int×Int))(h:puDec a b=some r)(q4:r.n=r.q)(q5:r.n=r.m)(hw:cX.wf r.n r.e=true):WkL 0 a (puVa r.t r.l (.ofNat 0))∧WkBs 0 b (puBl r.t r.l):=by
 unfold puDec at h
 split at h
 .rename_i c1 c2 n f c3 c4 n2 z c5 s c6 t t0 m e t1
  split at h
  .rename_i hc
   injection h with h;subst h
   simp only[zG]at hc
   obtain⟨q1,q2,q3,q6⟩:=hc
   have q1:=zH q1
   have q2:=zH q2
   have q3:=zH q3
   simp only at q4 q5
   subst q1 q2 q3 q4 q5
   unfold puVa puBl ixVn ixBn
   rw[RawX.len]
   exact⟨.cons Wk.int (.cons Wk.int (.cons (Wk.fnc (.cons Wk.ptr .nil)) (.cons (Wk.nsl (zJ q6)) .nil))),.cons (.lst1 (.cons Wk.int (.cons Wk.int .nil))) (fun _=>by simp) (.cons (.row (cX.wf_wk (zC 0) hw)) (fun _=>by simp) .nil)⟩
  .cases h
 .cases h
theorem haDec_wk(a:List SV)(b:List SB)(r:RawX Int)(h:haDec a b=some r)(q4:r.n=r.q)(q5:r.n=r.m)(hw:cX.wf r.n r.e=true):WkL 0 a (haVa r.t r.l (.ofNat 0))∧WkBs 0 b (haBl r.t r.l):=by
 unfold haDec at h
 split at h
 .rename_i c1 c2 n f c3 x c5 s t0
  split at h
  .rename_i m nl e hx
   split at h
   .rename_i hc
    injection h with h;subst h
    simp only[zG]at hc
    obtain⟨q1,q2⟩:=hc
    have q1:=zH q1
    have q2:=zH q2
    simp only at q4 q5
    subst q1 q2 q5
    unfold haVa haBl ixVf
    have hsl:=cX.sl_none hx hw (zC 0)
    have hl:(cX.ls n e).length=n:=cX.ls_len
    refine⟨.cons Wk.int (.cons (.int_eq ?_) (.cons (Wk.fnc (.cons Wk.ptr .nil)) (.cons hsl .nil))),.cons (.lst1 (.cons Wk.int .nil)) (fun _=>by simp) .nil⟩
    show _=zA (cX.ls n e).length
    rw[hl]
   .cases h
  .cases h
 .cases h
def isFn(c:FuncId)(a:List SV):Bool:=match a with|[_,_,.fn f _ _,_]=>zB f c|_=>false
noncomputable def ixGG:=gOr (isFn trC) (ixG trDec trBl kp2 (fun _=>SmallX) trP) (gOr (isFn puC) (ixG puDec puBl kp2 (fun s l=>SmallX l∧okP s.1=true∧okP s.2=true) puP) (ixG haDec haBl kp1 (fun _ _=>True) haP))
noncomputable def TX:Told:=TO.withL ixF 26 (zaD 40000000000000 ixLive ixWs ixGG)
theorem TX_ok{F0:Fz}(hF0:∀b cs t,F0 b=some (cs,t)→t=0):ToldOk F0 env spE TX:=
 zaM (n:=19) (TO_ok hF0) (by kernel_rfl) (by kernel_rfl) (subLp_or _ (ix_loop tr_ok trDec_wk hF0) (subLp_or _ (ix_loop pu_ok puDec_wk hF0) (ix_loop ha_ok haDec_wk hF0)))
end Go.Proofs.YtponjccgpbgnoaaGreatDoor.Se
