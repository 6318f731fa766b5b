/- store.stays of one file's number, told. -/
import Derived.Test.YtponjccgpbgnoaaGreatDoorInT
set_option linter.unusedVariables false
set_option linter.unusedSimpArgs false
set_option linter.unusedSectionVars false
open Int renaming ofNat→zA
open Nat renaming le_refl→zB,eq_of_beq_eq_true→zD,zero_le→zE,beq→zF,blt→zG,beq_refl→zH,le_of_ble_eq_true→zJ
open Bool renaming and_eq_true→zC
open Option.some renaming inj→zI,injEq→zK
namespace Go.Proofs.YtponjccgpbgnoaaGreatDoor.Se
open Go Go.Proofs.YtponjccgpbgnoaaGreatDoor Go.RowKit
set_option maxRecDepth 1000000
variable [Inhabited QI]
abbrev staysF:FuncId:=64
noncomputable def syT(o:Opn)(a:Int):RT Lf:=fnT env TSt staysF 1000 [.agg (opRow 0 o),.fsl 0 1 1 none (fun _=>[.int .i64 false a])] []
theorem sy_one(o:Opn)(a:Int):(syT o a).follow [true,true]=some ([(o.kind==zA 1,true),(o.kind==zA 1,true)],⟨.ret,[.bool true true],[],[]⟩):=by kernel_rfl
theorem sy_six(o:Opn)(a:Int):(syT o a).follow [false,true,true]=some ([(o.kind==zA 1,false),(o.kind==zA 6,true),(o.kind==zA 6,true)],⟨.ret,[.bool true true],[],[]⟩):=by kernel_rfl
theorem sy_sev(o:Opn)(a:Int):(syT o a).follow [false,false,true]=some ([(o.kind==zA 1,false),(o.kind==zA 6,false),(o.kind==zA 7,true)],⟨.ret,[.bool true true],[],[]⟩):=by kernel_rfl
theorem sy_ino(o:Opn)(a:Int):(syT o a).follow [false,false,false,true,true,true]=some ([(o.kind==zA 1,false),(o.kind==zA 6,false),(o.kind==zA 7,false),(true,true),(true,true),(o.ino==a,true)],⟨.ret,[.bool true true],[],[]⟩):=by kernel_rfl
def StayOk(o:Opn)(a:Int):Prop:=o.kind=1∨o.kind=6∨o.kind=7∨o.ino=a
structure RawSy where
 o:RawO
 a:Int
 e:Nat→List SV
def oneN(r:List SV):Option Int:=match r with|[.int .i64 _ a]=>some a|_=>none
def sy1(v:SV):Option (Nat→List SV):=match v with|.fsl _ 1 1 _ e=>some e|_=>none
def syDec(a:List SV):Option RawSy:=match a with
 | [.agg l,v]=>(match decO l,sy1 v with|some o,some e=>(match oneN (e 0)with|some a=>some ⟨o,a,e⟩|none=>none)|_,_=>none)
 | _=>none
noncomputable def syPre(r:RawSy):Bool:=r.o.wf&&tt (StayOk r.o.o r.a)
noncomputable def gStays:=gPl syDec syPre fun _=>.bool true true
theorem one_wk{K st:Nat}(hs:K≤st){v:SV}{e:Nat→List SV}{a:Int}(h:sy1 v=some e)(ha:oneN (e 0)=some a):Wk K v (.fsl st 1 1 none (fun _=>[.int .i64 false a])):=by
 unfold sy1 at h
 split at h
 .rename_i st0 nl e0
  injection h with h;subst h
  unfold oneN at ha
  split at ha
  .rename_i c a0 hr
   injection ha with ha;subst ha
   refine Wk.fsl hs (.inl rfl) fun i hi _=>?_
   have:i=0:=by omega
   subst this
   rw[hr]
   exact⟨rfl,.cons Wk.int .nil⟩
  .cases ha
 .cases h
theorem stays_told{F0:Fz}(hF0:∀b cs t,F0 b=some (cs,t)→t=0):zaA F0 env spE staysF 1000 gStays:=za6 (TSt_ok hF0) hF0 rfl fun K a r hd hp=>by
 unfold syPre at hp
 rw[zC]at hp
 obtain⟨p1,p2⟩:=hp
 have W:=of_tt p2
 unfold syDec at hd
 split at hd
 .split at hd
  .rename_i o e h1 h2
   split at hd
   .rename_i a0 h3
    injection hd with hd;subst hd
    simp only at p1 W
    have wa:WkL 0 _ [.agg (opRow 0 o.o),.fsl 0 1 1 none (fun _=>[.int .i64 false a0])]:=.cons (.agg (decO_wk (zB _) h1 p1)) (.cons (one_wk (zB _) h2 h3) .nil)
    by_cases k1:o.o.kind=1
    .exact⟨_,_,wa,zab (sy_one o.o a0) (zaa (beq_iff_eq.2 k1) (zaa (beq_iff_eq.2 k1) zac)),.cons Wk.bool .nil⟩
    .by_cases k6:o.o.kind=6
     .exact⟨_,_,wa,zab (sy_six o.o a0) (zaa (beq_eq_false_iff_ne.2 k1) (zaa (beq_iff_eq.2 k6) (zaa (beq_iff_eq.2 k6) zac))),.cons Wk.bool .nil⟩
     .by_cases k7:o.o.kind=7
      .exact⟨_,_,wa,zab (sy_sev o.o a0) (zaa (beq_eq_false_iff_ne.2 k1) (zaa (beq_eq_false_iff_ne.2 k6) (zaa (beq_iff_eq.2 k7) zac))),.cons Wk.bool .nil⟩
      .have ki:o.o.ino=a0:=by
        rcases W with W|W|W|W
        .exact absurd W k1
        .exact absurd W k6
        .exact absurd W k7
        .exact W
       exact⟨_,_,wa,zab (sy_ino o.o a0) (zaa (beq_eq_false_iff_ne.2 k1) (zaa (beq_eq_false_iff_ne.2 k6) (zaa (beq_eq_false_iff_ne.2 k7) (zaa rfl (zaa rfl (zaa (beq_iff_eq.2 ki) zac)))))),.cons Wk.bool .nil⟩
   .cases hd
  .cases hd
 .cases hd
noncomputable def TY1:Told:=TSt.withF staysF (zaq 1000 gStays)
theorem TY1_ok{F0:Fz}(hF0:∀b cs t,F0 b=some (cs,t)→t=0):ToldOk F0 env spE TY1:=za7 (TSt_ok hF0) (stays_told hF0)
abbrev snF:FuncId:=31
def snLive:List Tmp:=[16,15,14,1,0,5]
def snTs(e:Ex):List Tmp:=match e with|.normal=>snLive|_=>[5]
def snWs:List Tmp:=[17,18,19,7,20,21,22,23,24,25,26,27,28,29,30,31,32,33,34,35,5,36,16]
def inoV(a:Int):SV:=.fsl 0 1 1 none (fun _=>[.int .i64 false a])
def rowS0(st:Nat)(S:Sto):List SV:=[.int .i64 false S.cap,.fsl st 2 S.now.names.length none (cNm.e st S.now.names),.fsl st 3 S.now.nodes.length none (cNd.e st S.now.nodes),.fsl st 2 S.kept.names.length none (cNm.e st S.kept.names),.fsl st 3 S.kept.nodes.length none (cNd.e st S.kept.nodes),
 .nsl 0 8 false 0 S.pend.length 1,.int .i64 false S.made,.int .i64 false S.armed,.bool false S.off]
def snBl(st:Nat)(S:Sto):List SB:=[.row 8 S.pend.length (cOp.e st S.pend) opT,.lst 9 [rowS0 st S] stT]
def snVa(n:Nat)(i a:Int):List SV:=[.int .i64 false i,.int .i64 false (.ofNat n),.nsl 0 8 false 0 n 1,inoV a,.ptr 1 9 true 0 0,.raw (.slice none 0 0)]
noncomputable def snT(S:Sto)(a:Int)(i:Nat):RT Lf:=zaJ env TY1 snF 122 (zaf snF 122) 41 snLive snTs 810000000000000 (snVa S.pend.length (.ofNat i) a) (snBl 0 S)
def snO(S:Sto)(i:Nat):RawO:=rO (S.pend.getD (0+i) op0)
def snK(S:Sto)(i:Nat):Img:=zaL (rI S.kept).I (snO S i).o
def snRow(S:Sto)(i:Nat):List SV:=[.int .i64 false S.cap,.fsl 0 2 S.now.names.length none (cNm.e 0 S.now.names),.fsl 0 3 S.now.nodes.length none (cNd.e 0 S.now.nodes),.fsl 2 2 (snK S i).names.length none (cNm.e 2 (snK S i).names),.fsl 2 3 (snK S i).nodes.length none (cNd.e 2 (snK S i).nodes),
 .nsl 0 8 false 0 S.pend.length 1,.int .i64 false S.made,.int .i64 false S.armed,.bool false S.off]
theorem sn_stop(S:Sto)(a:Int)(i:Nat):(snT S a i).follow [false]=some ([(decide (zA i<zA S.pend.length),false)],⟨.exit 0,[.raw (.slice none 0 0)],snBl 0 S,[some (0,true),some (1,true)]⟩):=by kernel_rfl
theorem sn_next(S:Sto)(a:Int)(i:Nat):(snT S a i).follow [true,true,true,true,true]=some ([(decide (zA i<zA S.pend.length),true),(true,true),(zG i S.pend.length,true),(syPre ⟨snO S i,a,fun _=>[.int .i64 false a]⟩,true),(apPre (rI S.kept,snO S i),true)],
  ⟨.normal,snVa S.pend.length (IntKind.i64.wrap (zA i+zA 1)) a,[.row 8 S.pend.length (cOp.e 0 S.pend) opT,.lst 9 [snRow S i] stT],[some (0,true),some (1,false)]⟩):=by kernel_rfl
def stK(S:Sto)(l:List Opn):Sto:=⟨S.cap,S.now,l.foldl zaL S.kept,S.pend,S.made,S.armed,S.off⟩
theorem stK_snoc{S:Sto}{k:Nat}(h:k<S.pend.length):(stK S (S.pend.take (k+1))).kept=zaL (stK S (S.pend.take k)).kept S.pend[k]:=by
 unfold stK
 rw[List.take_succ_eq_append_getElem h,List.foldl_append];rfl
structure SnOk(S:Sto)(a:Int):Prop where
 few:S.pend.length≤600
 st:∀k (h:k<S.pend.length),StayOk S.pend[k] a∧MayI ((S.pend.take k).foldl zaL S.kept)∧ApOk ((S.pend.take k).foldl zaL S.kept) S.pend[k]
theorem rO_o(o:Opn):(rO o).o=o:=by
 unfold RawO.o rO
 rw[show cB.ls o.b.length (byE o.b)=o.b from cB.ls_e 0 _]
theorem rO_w(o:Opn):(rO o).wf=true:=by
 unfold RawO.wf rO
 exact wf_by
theorem snBl_wk{K st2:Nat}(h:K≤st2)(S:Sto):WkBs K (snBl 0 S) (snBl st2 S):=
 .cons (.row (cOp.e_refl h)) (fun _=>nofun) (.cons (.lst1 (.cons Wk.int (.cons (cNm.fsl_refl h (.inl rfl)) (.cons (cNd.fsl_refl h (.inl rfl)) (.cons (cNm.fsl_refl h (.inl rfl)) (.cons (cNd.fsl_refl h (.inl rfl)) (.cons (Wk.nsl (zB _)) (.cons Wk.int (.cons Wk.int (.cons Wk.bool .nil)))))))))) (fun _=>nofun) .nil)
noncomputable def snRo(K:Nat)(S:Sto)(a:Int)(W:SnOk S a):za5 env TY1 snF 122 (zaf snF 122) 41 snLive snTs 810000000000000 K { k:Nat // k≤S.pend.length } where
 va s:=snVa S.pend.length (.ofNat s.1) a
 bl s:=snBl 0 (stK S (S.pend.take s.1))
 μ s:=S.pend.length-s.1
 out s:=⟨.exit 0,[.raw (.slice none 0 0)],snBl K (stK S S.pend),[some (0,true),some (1,false)]⟩
 tsn:=rfl
 small s:=by show 2<4000;omega
 step s:=by
  obtain⟨k,hk⟩:=s
  have hf:=W.few
  by_cases h:k<S.pend.length
  .obtain⟨w1,w2,w3⟩:=W.st k h
   have eo:(stK S (S.pend.take k)).pend.getD (0+k) op0=S.pend[k]:=by
    rw[Nat.zero_add];exact zaI h
   have eO:(snO (stK S (S.pend.take k)) k).o=S.pend[k]:=by
    unfold snO;rw[rO_o,eo]
   have ew:(snO (stK S (S.pend.take k)) k).wf=true:=rO_w _
   refine⟨_,zab (sn_next (stK S (S.pend.take k)) a k) (zaa (dt (show zA k<zA S.pend.length by simpa using h)) (zaa rfl (zaa (blt_t h) (zaa ?_ (zaa ?_ zac))))),.inl ⟨rfl,⟨k+1,h⟩,?_,?_,by show S.pend.length-(k+1)<S.pend.length-k;omega,rfl,rfl,rfl,rfl⟩⟩
   .unfold syPre
    simp only[ew,Bool.true_and]
    rw[eO]
    exact tt_t w1
   .unfold apPre
    simp only[ew,rI_w,Bool.true_and,rI_I]
    rw[eO]
    exact tt_t ⟨w2,w3⟩
   .show WkL 0 _ (snVa _ (.ofNat (k+1)) a)
    refine .cons (.int_eq (zap (by omega))) (.cons Wk.int (.cons (Wk.nsl (zB _)) (.cons (one_wk (e:=fun _=>[.int .i64 false a]) (zB _) rfl rfl) (.cons Wk.ptr (.cons Wk.raw .nil)))))
   .show WkBs 0 _ (snBl 0 (stK S (S.pend.take (k+1))))
    have ek:(stK S (S.pend.take (k+1))).kept=snK (stK S (S.pend.take k)) k:=by
     rw[stK_snoc h]
     unfold snK
     rw[eO,rI_I]
    refine .cons (.row (cOp.e_refl (zB _))) (fun _=>nofun) (.cons (.lst1 ?_) (fun _=>nofun) .nil)
    unfold rowS0
    rw[ek]
    exact .cons Wk.int (.cons (cNm.fsl_refl (zE _) (.inl rfl)) (.cons (cNd.fsl_refl (zE _) (.inl rfl)) (.cons (cNm.fsl_refl (zE _) (.inl rfl)) (.cons (cNd.fsl_refl (zE _) (.inl rfl)) (.cons (Wk.nsl (zB _)) (.cons Wk.int (.cons Wk.int (.cons Wk.bool .nil))))))))
  .have e:k=S.pend.length:=by omega
   subst e
   refine⟨_,zab (sn_stop (stK S (S.pend.take S.pend.length)) a S.pend.length) (zaa (df (by show ¬(zA S.pend.length<zA S.pend.length);omega)) zac),.inr ⟨by simp,rfl,.cons Wk.raw .nil,?_,rfl⟩⟩
   rw[List.take_length]
   exact snBl_wk (zB _) _
structure RawSn where
 n:Nat
 n1:Nat
 s:RawS
 a:Int
def snDec(a:List SV)(b:List SB):Option RawSn:=match a,b with
 | [.int .i64 _ (.ofNat 0),.int .i64 _ (.ofNat n),.nsl 0 8 _ 0 n1 z1,v,.ptr 1 9 _ 0 0,.raw (.slice none 0 0)],[.row 8 m e t1,.lst 9 [[.int .i64 _ cap,x1,x2,x3,x4,.nsl 0 8 _ 0 n2 z,.int .i64 _ made,.int .i64 _ armed,.bool _ off]] t0]=>
  (match zF t0 stT&&(zF t1 opT&&(Nat.ble z 1&&Nat.ble z1 1)),slR 2 x1,slR 3 x2,slR 2 x3,slR 3 x4,sy1 v with
  | true,some a,some b,some c,some d,some ev=>(match oneN (ev 0)with|some q=>some ⟨n,n1,⟨cap,a,b,c,d,n2,m,e,made,armed,off⟩,q⟩|none=>none)
  | _,_,_,_,_,_=>none)
 | _,_=>none
noncomputable def snPre(r:RawSn):Bool:=zF r.n r.s.n&&(zF r.n1 r.s.n&&(wfS r.s&&tt (SnOk (valS r.s) r.a)))
noncomputable def snG:=gLp snDec snPre fun k r=>⟨(.exit 0,[(5,.raw (.slice none 0 0))]),snBl (k+1) (stK (valS r.s) (valS r.s).pend),[some (0,true),some (1,false)]⟩
theorem sn_loop{F0:Fz}(hF0:∀b cs t,F0 b=some (cs,t)→t=0):SubLp F0 env spE (zaf snF 122) 41 490000000000000000 snLive snWs snG:=
 zbg (ts:=snTs) (TY1_ok hF0) hF0 (zaN (n:=41) (by kernel_rfl) (by kernel_rfl)) (ws_ok (by kernel_rfl)) (by decide) (by decide) fun K a b r hr hp=>by
  unfold snPre at hp
  simp only[zC]at hp
  obtain⟨p1,p2,p3,p4⟩:=hp
  have W:=of_tt p4
  have hf:=W.few
  unfold snDec at hr
  split at hr
  .rename_i c1 c2 n c3 n1 z1 v c4 m e t1 c5 cap x1 x2 x3 x4 c6 n2 z c7 made c8 armed c9 off t0
   split at hr
   .rename_i a' b' c' d' ev ht h1 h2 h3 h4 h5
    split at hr
    .rename_i q h6
     injection hr with hr;subst hr
     rw[zC,zC,zC]at ht
     obtain⟨ht0,ht1,hz,hz1⟩:=ht
     have:=zD ht0
     subst this
     have:=zD ht1
     subst this
     have p1:=zD p1
     have p2:=zD p2
     simp only at p1 p2
     subst p1 p2
     simp only[wfS,zC]at p3
     obtain⟨w0,w1,w2,w3,w4,w5⟩:=p3
     have:=zD w0
     subst this
     have hn:(cOp.ls n1 e).length=n1:=cOp.ls_len
     refine⟨_,snRo (K+1) (valS ⟨cap,a',b',c',d',n1,n1,e,made,armed,off⟩) q W,⟨0,zE _⟩,?_,?_,?_,rfl⟩
     .have hf:(cOp.ls n1 e).length≤600:=hf
      show 810000000000000*((cOp.ls n1 e).length-0+1)≤_
      omega
     .show WkL 0 _ (snVa (cOp.ls n1 e).length (.ofNat 0) q)
      rw[hn]
      exact .cons Wk.int (.cons Wk.int (.cons (Wk.nsl (zJ hz1)) (.cons (one_wk (zB _) h5 h6) (.cons Wk.ptr (.cons Wk.raw .nil)))))
     .refine .cons ?_ (fun _=>nofun) (.cons (.lst1 (.cons Wk.int (.cons (cNm.sl_none h1 w1 (zB _)) (.cons (cNd.sl_none h2 w2 (zB _)) (.cons (cNm.sl_none h3 w3 (zB _)) (.cons (cNd.sl_none h4 w4 (zB _)) (.cons ?_ (.cons Wk.int (.cons Wk.int (.cons Wk.bool .nil)))))))))) (fun _=>nofun) .nil)
      .show WkB 0 _ (.row 8 (cOp.ls n1 e).length (cOp.e 0 (cOp.ls n1 e)) opT)
       rw[hn]
       exact .row (cOp.wf_wk (zB _) w5)
      .show Wk 0 _ (.nsl 0 8 false 0 (cOp.ls n1 e).length 1)
       rw[hn]
       exact Wk.nsl (zJ hz)
    .cases hr
   .cases hr
  .cases hr
noncomputable def TSn:Told:=TY1.withL snF 122 (zaD 490000000000000000 snLive snWs snG)
theorem TSn_ok{F0:Fz}(hF0:∀b cs t,F0 b=some (cs,t)→t=0):ToldOk F0 env spE TSn:=zaM (n:=41) (TY1_ok hF0) (by kernel_rfl) (by kernel_rfl) (sn_loop hF0)
noncomputable def snTt(S:Sto)(a:Int):RT Lf:=fnZ false env TSn snF 500000000000000000 [.ptr 0 9 true 0 0,inoV a] (bsS 0 S)
def syncL(S:Sto):Sto:=⟨S.cap,S.now,S.pend.foldl zaL S.kept,[],S.made,S.armed,S.off⟩
def snR(S:Sto)(a:Int):RawSn:=⟨S.pend.length,S.pend.length,swR S,a⟩
def snL(S:Sto):Sto:=syncL (valS (swR S))
def snRow2(S:Sto):List SV:=[.int .i64 false S.cap,.fsl 1 2 (cNm.ls S.now.names.length (cNm.e 0 S.now.names)).length none (cNm.e 1 (cNm.ls S.now.names.length (cNm.e 0 S.now.names))),.fsl 1 3 (cNd.ls S.now.nodes.length (cNd.e 0 S.now.nodes)).length none (cNd.e 1 (cNd.ls S.now.nodes.length (cNd.e 0 S.now.nodes))),
 .fsl 1 2 (snL S).kept.names.length none (cNm.e 1 (snL S).kept.names),.fsl 1 3 (snL S).kept.nodes.length none (cNd.e 1 (snL S).kept.nodes),.raw (.slice none 0 0),.int .i64 false S.made,.int .i64 false S.armed,.bool false S.off]
theorem sn_way(S:Sto)(a:Int):(snTt S a).follow [false,false,false,true]=some ([(S.off,false),(S.armed==zA 0,false),(decide (S.armed>zA 0),false),(snPre (snR S a),true)],
  ⟨.ret,[.int .i64 true 0],[.lst 9 [snRow2 S] stT,.row 8 S.pend.length (cOp.e 0 S.pend) opT],[some (0,false),some (1,true)]⟩):=by kernel_rfl
structure RawSq where
 s:RawS
 a:Int
def sqDec(a:List SV)(b:List SB):Option RawSq:=match a with
 | [.ptr 0 9 _ 0 0,v]=>(match decS b,sy1 v with|some s,some ev=>(match oneN (ev 0)with|some q=>some ⟨s,q⟩|none=>none)|_,_=>none)
 | _=>none
noncomputable def sqPre(r:RawSq):Bool:=wfS r.s&&tt (LiveS (valS r.s)∧SnOk (valS r.s) r.a)
def rowN(st:Nat)(S:Sto):List SV:=[.int .i64 false S.cap,.fsl st 2 S.now.names.length none (cNm.e st S.now.names),.fsl st 3 S.now.nodes.length none (cNd.e st S.now.nodes),.fsl st 2 S.kept.names.length none (cNm.e st S.kept.names),.fsl st 3 S.kept.nodes.length none (cNd.e st S.kept.nodes),
 .raw (.slice none 0 0),.int .i64 false S.made,.int .i64 false S.armed,.bool false S.off]
noncomputable def gSync0:=gSub sqDec sqPre fun k r=>⟨.int .i64 true 0,[.lst 9 [rowN (k+1) (syncL (valS r.s))] stT,.gone],[some (0,false),some (1,true)]⟩
theorem SubOk.drop{F0:Fz}{E:Env}{sp:Sp}{f:FuncId}{c:Nat}{g g2:Nat→List SV→List SB→RT (Left SV)}(hg:SubOk F0 E sp f c g)
  (h2:∀k a b L2,(g2 k a b).sel=some L2→∃w e t wl row row2 tl,(g k a b).sel=some ⟨L2.v,[.lst wl [row] tl,.gone],[some (0,false),some (1,true)]⟩∧(∀ι,L2.v=ι→free_ ι=true)∧(row.all free_)=true∧WkL (k+1) row row2∧b.length=2∧L2.bs=[.lst wl [row2] tl,.row w 0 e t]∧L2.kp=[some (0,false),none]):SubOk F0 E sp f c g2:=fun F ι k h args args' bs L2 b h0 H hbs hl hs=>by
 obtain⟨w,e,t,wl,row,row2,tl,q1,q2,q3,q4,q5,q6,q7⟩:=h2 k args bs L2 hs
 obtain⟨N,v',h',F',ι',r1,r2,r3,r4⟩:=hg F ι k h args args' bs _ b h0 H hbs hl q1
 simp only at r2 r3 r4
 refine⟨N,v',h',F',fun i=>if i=0 then ι' 0 else none,r1,r2.free (q2 _ rfl),?_,?_⟩
 .rw[q6]
  have g0:(shOf (k+1) 0 [] [SB.lst wl [row] tl,.gone]).get 0=some (.lst wl [row] tl):=by rw[zay (by show 2<4000;omega)];rfl
  have get:∀id sb,(shOf (k+1) 0 [] [SB.lst wl [row2] tl,.row w 0 e t]).get id=some sb→(id=0∧sb=.lst wl [row2] tl)∨(id=1∧sb=.row w 0 e t):=fun id sb hs=>by
   rw[zay (by show 2<4000;omega)]at hs
   match id with
   | 0=>exact .inl ⟨rfl,(zI hs).symm⟩
   | 1=>exact .inr ⟨rfl,(zI hs).symm⟩
   | id+2=>simp at hs
  have htm:Tm (k+1) F' F':=fun b cs t e=>⟨t,(r3.frz b cs t e).1,e⟩
  refine⟨r3.most,by show 2≤_;omega,fun id hid=>?_,fun id sb hs=>?_,fun i j B B' hne l1 l2 e1 e2=>?_,r3.frz,fun b x id B hF l1 e1=>?_⟩
  .have hid:2≤id:=hid
   refine⟨?_,if_neg (by omega)⟩
   rw[zay (by show 2<4000;omega)]
   exact List.getElem?_eq_none hid
  .rcases get id sb hs with⟨rfl,rfl⟩|⟨rfl,rfl⟩
   .obtain⟨B,cs,k1,k2,k3,k4,k5⟩:=r3.ok 0 _ g0
    have S0:SbOk F' (fun i=>if i=0 then ι' 0 else none) h' 0 (.lst wl [row] tl):=by
     refine⟨B,cs,k1,k2,k3,k4,fun i r hr=>?_⟩
     obtain⟨p1,p2⟩:=k5 i r hr
     match i with
     | 0=>
      have hr:row=r:=zI hr
      subst hr
      exact⟨p1,fun j x y hx hy=>(p2 j x y hx hy).free (List.all_eq_true.1 q3 x (List.mem_of_getElem? hx))⟩
     | i+1=>simp at hr
    exact(WkB.lst1 q4) F' F' _ h' 0 htm S0
   .exact .inl ⟨rfl,if_neg (by omega)⟩
  .have e1:(if i=0 then ι' 0 else none)=some B:=e1
   have e2:(if j=0 then ι' 0 else none)=some B':=e2
   split at e1
   .split at e2
    .omega
    .cases e2
   .cases e1
  .have e1:(if id=0 then ι' 0 else none)=some B:=e1
   split at e1
   .exact r3.fap b x 0 B hF ⟨_,g0,nofun⟩ e1
   .cases e1
 .have tch:∀i,zaG [some (0,false),some (1,true)] i→i=0:=fun i hi=>by
   match i with
   | 0=>rfl
   | 1=>rcases hi with hi|⟨j,hi⟩<;>simp at hi
   | i+2=>rcases hi with hi|⟨j,hi⟩<;>simp at hi
  rw[q7]
  refine⟨r4.fm,fun b cs t e=>?_,r4.hnext,r4.room,fun b hb hno=>r4.keep b hb fun i B hi hB=>?_,fun i j s hk=>?_,fun j B hB hk=>?_,by rw[q5];rfl⟩
  .rcases r4.fnew b cs t e with z|⟨z,z2|⟨i,B,z1,z2,z3⟩⟩
   .exact .inl z
   .exact .inr ⟨z,.inl z2⟩
   .have:=tch i z1
    subst this
    exact .inr ⟨z,.inr ⟨0,B,.inr ⟨0,rfl⟩,z2,z3⟩⟩
  .have:=tch i hi
   subst this
   exact hno 0 B (.inr ⟨0,rfl⟩) hB
  .match i with
   | 0=>
    simp only[List.getElem?_cons_zero,zK,Prod.mk.injEq]at hk
    obtain⟨rfl,rfl⟩:=hk
    exact r4.kept 0 0 false rfl
   | 1=>simp at hk
   | i+2=>simp at hk
  .have hB:(if j=0 then ι' 0 else none)=some B:=hB
   split at hB
   .rename_i hj;subst hj;cases hk
   .cases hB
noncomputable def gSync:=gSub sqDec sqPre fun k r=>⟨.int .i64 true 0,bsS (k+1) (syncL (valS r.s)),[some (0,false),none]⟩
theorem sync_told0{F0:Fz}(hF0:∀b cs t,F0 b=some (cs,t)→t=0):SubOk F0 env spE snF 500000000000000000 gSync0:=zaF (z:=false) (TSn_ok hF0) hF0 rfl fun K a b r hr hp=>by
 unfold sqPre at hp
 rw[zC]at hp
 obtain⟨p1,p2⟩:=hp
 obtain⟨w1,w2⟩:=of_tt p2
 unfold sqDec at hr
 split at hr
 .rename_i c1 v
  split at hr
  .rename_i s ev hs h5
   split at hr
   .rename_i q h6
    injection hr with hr;subst hr
    simp only at p1 w1 w2
    refine⟨_,_,_,.cons Wk.ptr (.cons (one_wk (zB _) h5 h6) .nil),zdB (zB _) hs p1,zab (sn_way (valS s) q) (zaa w1.1 (zaa ?_ (zaa (df ?_) (zaa ?_ zac)))),.cons Wk.int .nil,?_,rfl⟩
    .rw[beq_eq_false_iff_ne]
     have:=w1.2
     show ¬(valS s).armed=0
     omega
    .have:=w1.2
     show ¬(valS s).armed>0
     omega
    .unfold snPre snR
     simp only[zC]
     refine⟨zH _,zH _,swR_w _,tt_t ?_⟩
     rw[swR_v]
     exact w2
    .refine .cons (.lst1 ?_) (fun _=>nofun) (.cons (fun _ _ _ _ _ _ _=>trivial) (fun q=>absurd rfl q) .nil)
     show WkL (K+1) (snRow2 (valS s)) (rowN (K+1) (syncL (valS s)))
     have e1:cNm.ls (valS s).now.names.length (cNm.e 0 (valS s).now.names)=(valS s).now.names:=cNm.ls_e 0 _
     have e2:cNd.ls (valS s).now.nodes.length (cNd.e 0 (valS s).now.nodes)=(valS s).now.nodes:=cNd.ls_e 0 _
     unfold snRow2 snL
     rw[e1,e2,swR_v]
     exact .cons Wk.int (.cons (cNm.fsl_refl (zB _) (.inl rfl)) (.cons (cNd.fsl_refl (zB _) (.inl rfl)) (.cons (cNm.fsl_refl (zB _) (.inl rfl)) (.cons (cNd.fsl_refl (zB _) (.inl rfl)) (.cons Wk.raw (.cons Wk.int (.cons Wk.int (.cons Wk.bool .nil))))))))
   .cases hr
  .cases hr
 .cases hr
theorem decS_len{b:List SB}{r:RawS}(h:decS b=some r):b.length=2:=by
 unfold decS at h
 split at h
 .rfl
 .cases h
theorem sync_told{F0:Fz}(hF0:∀b cs t,F0 b=some (cs,t)→t=0):SubOk F0 env spE snF 500000000000000000 gSync:=(sync_told0 hF0).drop fun k a b L2 h=>by
 unfold gSync gSub at h
 unfold gSync0 gSub
 split at h
 .rename_i r hr
  cases hp:sqPre r with
  | false=>rw[hp]at h;cases h
  | true=>
   rw[hp]at h
   simp only[RT.sel,cond_true,zK]at h
   subst h
   have hb:b.length=2:=by
    unfold sqDec at hr
    split at hr
    .split at hr
     .rename_i hs _
      exact decS_len hs
     .cases hr
    .cases hr
   refine⟨8,cOp.e (k+1) [],opT,9,rowN (k+1) (syncL (valS r.s)),rowS (k+1) (syncL (valS r.s)),stT,by simp only[hp];rfl,fun _ e=>by subst e;rfl,rfl,?_,hb,rfl,rfl⟩
   exact .cons Wk.int (.cons (cNm.fsl_refl (zB _) (.inl rfl)) (.cons (cNd.fsl_refl (zB _) (.inl rfl)) (.cons (cNm.fsl_refl (zB _) (.inl rfl)) (.cons (cNd.fsl_refl (zB _) (.inl rfl)) (.cons (Wk.nil_nsl (zB _)) (.cons Wk.int (.cons Wk.int (.cons Wk.bool .nil))))))))
 .cases h
def eqLive:List Tmp:=[13,12,0,1]
def eqTs(e:Ex):List Tmp:=match e with|.normal=>eqLive|_=>[]
def eqWs:List Tmp:=[14,15,5,16,17,18,19,20,21,22,23,24,4,25,13]
structure RawEq where
 n:Nat
 x:Sl
 y:Sl
abbrev enF:FuncId:=36
def enVa(l:List Nm)(i:Int):List SV:=[.int .i64 false i,.int .i64 false (.ofNat l.length),.fsl 0 2 l.length none (cNm.e 0 l),.fsl 0 2 l.length none (cNm.e 0 l)]
noncomputable def enT(l:List Nm)(i:Nat):RT Lf:=zaJ env TSn enF 58 (zaf enF 58) 26 eqLive eqTs 10 (enVa l (.ofNat i)) []
theorem en_stop(l:List Nm)(i:Nat):(enT l i).follow [false]=some ([(decide (zA i<zA l.length),false)],⟨.exit 0,[],[],[]⟩):=by kernel_rfl
theorem en_next(l:List Nm)(i:Nat):(enT l i).follow [true,true,true,true,true,false]=some ([(decide (zA i<zA l.length),true),(true,true),(zG i l.length,true),(true,true),(zG i l.length,true),(!((l.getD i cNm.d).1==(l.getD i cNm.d).1&&((l.getD i cNm.d).2==(l.getD i cNm.d).2&&true)),false)],
  ⟨.normal,enVa l (IntKind.i64.wrap (zA i+zA 1)),[],[]⟩):=by kernel_rfl
noncomputable def enRo(K:Nat)(l:List Nm)(hl:l.length≤137438953472):za5 env TSn enF 58 (zaf enF 58) 26 eqLive eqTs 10 K { k:Nat // k≤l.length } where
 va s:=enVa l (.ofNat s.1)
 bl s:=[]
 μ s:=l.length-s.1
 out s:=⟨.exit 0,[],[],[]⟩
 tsn:=rfl
 small s:=by show 0<4000;omega
 step s:=by
  obtain⟨k,hk⟩:=s
  by_cases h:k<l.length
  .refine⟨_,zab (en_next l k) (zaa (dt (show zA k<zA l.length by simpa using h)) (zaa rfl (zaa (blt_t h) (zaa rfl (zaa (blt_t h) (zaa (by simp) zac)))))),.inl ⟨rfl,⟨k+1,h⟩,?_,.nil,by show l.length-(k+1)<l.length-k;omega,rfl,rfl,rfl,rfl⟩⟩
   show WkL 0 _ (enVa l (.ofNat (k+1)))
   exact .cons (.int_eq (zap (by omega))) (.cons Wk.int (.cons (cNm.fsl_refl (zB _) (.inl rfl)) (.cons (cNm.fsl_refl (zB _) (.inl rfl)) .nil)))
  .have e:k=l.length:=by omega
   subst e
   exact⟨_,zab (en_stop l l.length) (zaa (df (by omega)) zac),.inr ⟨by simp,rfl,.nil,.nil,rfl⟩⟩
def enDec(a:List SV)(b:List SB):Option RawEq:=match a,b with
 | [.int .i64 _ (.ofNat 0),.int .i64 _ (.ofNat n),x,y],[]=>(match slR 2 x,slR 2 y with|some x,some y=>some ⟨n,x,y⟩|_,_=>none)
 | _,_=>none
noncomputable def enPre(r:RawEq):Bool:=zF r.n r.x.1&&(cNm.wf r.x.1 r.x.2.2&&(cNm.wf r.y.1 r.y.2.2&&tt (cNm.ls r.x.1 r.x.2.2=cNm.ls r.y.1 r.y.2.2∧r.x.1≤137438953472)))
noncomputable def enG:=gLp enDec enPre fun k r=>⟨(.exit 0,[]),[],[]⟩
theorem en_loop{F0:Fz}(hF0:∀b cs t,F0 b=some (cs,t)→t=0):SubLp F0 env spE (zaf enF 58) 26 1400000000000 eqLive eqWs enG:=
 zbg (ts:=eqTs) (TSn_ok hF0) hF0 (zaN (n:=26) (by kernel_rfl) (by kernel_rfl)) (ws_ok (by kernel_rfl)) (by decide) (by decide) fun K a b r hr hp=>by
  unfold enPre at hp
  simp only[zC]at hp
  obtain⟨p1,p2,p3,p4⟩:=hp
  obtain⟨w1,w2⟩:=of_tt p4
  unfold enDec at hr
  split at hr
  .rename_i c1 c2 n x y
   split at hr
   .rename_i x' y' h1 h2
    injection hr with hr;subst hr
    have p1:=zD p1
    simp only at p1 p2 p3 w1 w2
    subst p1
    have hl:(cNm.ls x'.1 x'.2.2).length=x'.1:=cNm.ls_len
    have hl2:(cNm.ls y'.1 y'.2.2).length=y'.1:=cNm.ls_len
    refine⟨_,enRo (K+1) (cNm.ls x'.1 x'.2.2) (by rw[hl];exact w2),⟨0,zE _⟩,?_,?_,.nil,rfl⟩
    .show 10*((cNm.ls x'.1 x'.2.2).length-0+1)≤_
     rw[hl];omega
    .show WkL 0 _ (enVa (cNm.ls x'.1 x'.2.2) (.ofNat 0))
     unfold enVa
     refine .cons Wk.int (.cons (.int_eq (by rw[hl])) (.cons (cNm.sl_none h1 p2 (zB _)) (.cons ?_ .nil)))
     rw[w1]
     exact cNm.sl_none h2 p3 (zB _)
   .cases hr
  .cases hr
abbrev exF:FuncId:=76
def exVa(l:List Xt)(i:Int):List SV:=[.int .i64 false i,.int .i64 false (.ofNat l.length),.fsl 0 9 l.length none (cX.e 0 l),.fsl 0 9 l.length none (cX.e 0 l)]
noncomputable def exT(l:List Xt)(i:Nat):RT Lf:=zaJ env TSn exF 58 (zaf exF 58) 26 eqLive eqTs 10 (exVa l (.ofNat i)) []
theorem ex_stop(l:List Xt)(i:Nat):(exT l i).follow [false]=some ([(decide (zA i<zA l.length),false)],⟨.exit 0,[],[],[]⟩):=by kernel_rfl
theorem ex_next(l:List Xt)(i:Nat):(exT l i).follow [true,true,true,true,true,false]=some ([(decide (zA i<zA l.length),true),(true,true),(zG i l.length,true),(true,true),(zG i l.length,true),(!((l.getD i xt0).1==(l.getD i xt0).1&&((zA (l.getD i xt0).2.toNat==zA (l.getD i xt0).2.toNat&&(zA (l.getD i xt0).3.toNat==zA (l.getD i xt0).3.toNat&&(zA (l.getD i xt0).4.toNat==zA (l.getD i xt0).4.toNat&&(zA (l.getD i xt0).5.toNat==zA (l.getD i xt0).5.toNat&&(zA (l.getD i xt0).6.toNat==zA (l.getD i xt0).6.toNat&&(zA (l.getD i xt0).7.toNat==zA (l.getD i xt0).7.toNat&&(zA (l.getD i xt0).8.toNat==zA (l.getD i xt0).8.toNat&&(zA (l.getD i xt0).9.toNat==zA (l.getD i xt0).9.toNat&&true))))))))&&true)),false)],
  ⟨.normal,exVa l (IntKind.i64.wrap (zA i+zA 1)),[],[]⟩):=by kernel_rfl
noncomputable def exRo(K:Nat)(l:List Xt)(hl:l.length≤137438953472):za5 env TSn exF 58 (zaf exF 58) 26 eqLive eqTs 10 K { k:Nat // k≤l.length } where
 va s:=exVa l (.ofNat s.1)
 bl s:=[]
 μ s:=l.length-s.1
 out s:=⟨.exit 0,[],[],[]⟩
 tsn:=rfl
 small s:=by show 0<4000;omega
 step s:=by
  obtain⟨k,hk⟩:=s
  by_cases h:k<l.length
  .refine⟨_,zab (ex_next l k) (zaa (dt (show zA k<zA l.length by simpa using h)) (zaa rfl (zaa (blt_t h) (zaa rfl (zaa (blt_t h) (zaa (by simp) zac)))))),.inl ⟨rfl,⟨k+1,h⟩,?_,.nil,by show l.length-(k+1)<l.length-k;omega,rfl,rfl,rfl,rfl⟩⟩
   show WkL 0 _ (exVa l (.ofNat (k+1)))
   exact .cons (.int_eq (zap (by omega))) (.cons Wk.int (.cons (cX.fsl_refl (zB _) (.inl rfl)) (.cons (cX.fsl_refl (zB _) (.inl rfl)) .nil)))
  .have e:k=l.length:=by omega
   subst e
   exact⟨_,zab (ex_stop l l.length) (zaa (df (by omega)) zac),.inr ⟨by simp,rfl,.nil,.nil,rfl⟩⟩
def exDec(a:List SV)(b:List SB):Option RawEq:=match a,b with
 | [.int .i64 _ (.ofNat 0),.int .i64 _ (.ofNat n),x,y],[]=>(match slR 9 x,slR 9 y with|some x,some y=>some ⟨n,x,y⟩|_,_=>none)
 | _,_=>none
noncomputable def exPre(r:RawEq):Bool:=zF r.n r.x.1&&(cX.wf r.x.1 r.x.2.2&&(cX.wf r.y.1 r.y.2.2&&tt (cX.ls r.x.1 r.x.2.2=cX.ls r.y.1 r.y.2.2∧r.x.1≤137438953472)))
noncomputable def exG:=gLp exDec exPre fun k r=>⟨(.exit 0,[]),[],[]⟩
theorem ex_loop{F0:Fz}(hF0:∀b cs t,F0 b=some (cs,t)→t=0):SubLp F0 env spE (zaf exF 58) 26 1400000000000 eqLive eqWs exG:=
 zbg (ts:=eqTs) (TSn_ok hF0) hF0 (zaN (n:=26) (by kernel_rfl) (by kernel_rfl)) (ws_ok (by kernel_rfl)) (by decide) (by decide) fun K a b r hr hp=>by
  unfold exPre at hp
  simp only[zC]at hp
  obtain⟨p1,p2,p3,p4⟩:=hp
  obtain⟨w1,w2⟩:=of_tt p4
  unfold exDec at hr
  split at hr
  .rename_i c1 c2 n x y
   split at hr
   .rename_i x' y' h1 h2
    injection hr with hr;subst hr
    have p1:=zD p1
    simp only at p1 p2 p3 w1 w2
    subst p1
    have hl:(cX.ls x'.1 x'.2.2).length=x'.1:=cX.ls_len
    have hl2:(cX.ls y'.1 y'.2.2).length=y'.1:=cX.ls_len
    refine⟨_,exRo (K+1) (cX.ls x'.1 x'.2.2) (by rw[hl];exact w2),⟨0,zE _⟩,?_,?_,.nil,rfl⟩
    .show 10*((cX.ls x'.1 x'.2.2).length-0+1)≤_
     rw[hl];omega
    .show WkL 0 _ (exVa (cX.ls x'.1 x'.2.2) (.ofNat 0))
     unfold exVa
     refine .cons Wk.int (.cons (.int_eq (by rw[hl])) (.cons (cX.sl_none h1 p2 (zB _)) (.cons ?_ .nil)))
     rw[w1]
     exact cX.sl_none h2 p3 (zB _)
   .cases hr
  .cases hr
noncomputable def TEq:Told:=(TSn.withL enF 58 (zaD 1400000000000 eqLive eqWs enG)).withL exF 58 (zaD 1400000000000 eqLive eqWs exG)
theorem TEq_ok{F0:Fz}(hF0:∀b cs t,F0 b=some (cs,t)→t=0):ToldOk F0 env spE TEq:=zaM (n:=26) (zaM (n:=26) (TSn_ok hF0) (by kernel_rfl) (by kernel_rfl) (en_loop hF0)) (by kernel_rfl) (by kernel_rfl) (ex_loop hF0)
abbrev euF:FuncId:=37
abbrev samF:FuncId:=12
def euLive:List Tmp:=[17,16,15,1,2]
def euTs(e:Ex):List Tmp:=match e with|.normal=>euLive|_=>[]
def euWs:List Tmp:=[18,19,20,21,8,7,22,23,24,25,9,26,27,28,29,30,6,31,17]
def euVa(l:List Nd)(i:Int):List SV:=[.int .i64 false i,.int .i64 false (.ofNat l.length),.fsl 0 3 l.length none (cNd.e 0 l),.fsl 0 3 l.length none (cNd.e 0 l),.fn 38 [] []]
noncomputable def euT(l:List Nd)(i:Nat):RT Lf:=zaJ env TEq euF 58 (zaf euF 58) 32 euLive euTs 1500000000000 (euVa l (.ofNat i)) []
def euX(l:List Nd)(i:Nat):RawEq:=⟨(l.getD i cNd.d).3.length,((l.getD i cNd.d).3.length,none,xtE (l.getD i cNd.d).3),((l.getD i cNd.d).3.length,none,xtE (l.getD i cNd.d).3)⟩
theorem eu_stop(l:List Nd)(i:Nat):(euT l i).follow [false]=some ([(decide (zA i<zA l.length),false)],⟨.exit 0,[],[],[]⟩):=by kernel_rfl
theorem eu_next(l:List Nd)(i:Nat):(euT l i).follow [true,true,true,true,true,true,true,false,true]=some ([(decide (zA i<zA l.length),true),(true,true),(zG i l.length,true),(true,true),(zG i l.length,true),((l.getD i cNd.d).1==(l.getD i cNd.d).1,true),((l.getD i cNd.d).2==(l.getD i cNd.d).2,true),
  (zA (l.getD i cNd.d).3.length != zA (l.getD i cNd.d).3.length,false),(exPre (euX l i),true)],⟨.normal,euVa l (IntKind.i64.wrap (zA i+zA 1)),[],[]⟩):=by kernel_rfl
theorem fn0_wk{K:Nat}{f:FuncId}:Wk K (.fn f [] []) (.fn f [] []):=fun F F2 ι w _ h=>by
 cases h with
 | fn _ _ _ _ a' b' h1 h2 h3 h4=>
  have e1:a'=[]:=List.length_eq_zero_iff.1 h1.symm
  have e2:b'=[]:=List.length_eq_zero_iff.1 h3.symm
  subst e1 e2
  exact .fn _ _ _ _ _ _ rfl (fun i x y hx=>by simp at hx) rfl fun i x y hx=>by simp at hx
structure EuOk(l:List Nd):Prop where
 few:l.length≤100000
 each:∀k (h:k<l.length),l[k].3.length≤137438953472
noncomputable def euRo(K:Nat)(l:List Nd)(W:EuOk l):za5 env TEq euF 58 (zaf euF 58) 32 euLive euTs 1500000000000 K { k:Nat // k≤l.length } where
 va s:=euVa l (.ofNat s.1)
 bl s:=[]
 μ s:=l.length-s.1
 out s:=⟨.exit 0,[],[],[]⟩
 tsn:=rfl
 small s:=by show 0<4000;omega
 step s:=by
  obtain⟨k,hk⟩:=s
  have hf:=W.few
  by_cases h:k<l.length
  .have hx:exPre (euX l k)=true:=by
    have hq:=W.each k h
    have e:l.getD k cNd.d=l[k]:=zaI h
    unfold exPre euX
    rw[e]
    simp only[zC]
    exact⟨zH _,wf_xt,wf_xt,tt_t ⟨trivial,hq⟩⟩
   refine⟨_,zab (eu_next l k) (zaa (dt (show zA k<zA l.length by simpa using h)) (zaa rfl (zaa (blt_t h) (zaa rfl (zaa (blt_t h) (zaa (by simp) (zaa (by simp) (zaa (by simp) (zaa hx zac))))))))),.inl ⟨rfl,⟨k+1,h⟩,?_,.nil,by show l.length-(k+1)<l.length-k;omega,rfl,rfl,rfl,rfl⟩⟩
   show WkL 0 _ (euVa l (.ofNat (k+1)))
   exact .cons (.int_eq (zap (by omega))) (.cons Wk.int (.cons (cNd.fsl_refl (zB _) (.inl rfl)) (.cons (cNd.fsl_refl (zB _) (.inl rfl)) (.cons fn0_wk .nil))))
  .have e:k=l.length:=by omega
   subst e
   exact⟨_,zab (eu_stop l l.length) (zaa (df (by omega)) zac),.inr ⟨by simp,rfl,.nil,.nil,rfl⟩⟩
def euDec(a:List SV)(b:List SB):Option RawEq:=match a,b with
 | [.int .i64 _ (.ofNat 0),.int .i64 _ (.ofNat n),x,y,.fn f [] []],[]=>(match zF f 38,slR 3 x,slR 3 y with|true,some x,some y=>some ⟨n,x,y⟩|_,_,_=>none)
 | _,_=>none
noncomputable def euPre(r:RawEq):Bool:=zF r.n r.x.1&&(cNd.wf r.x.1 r.x.2.2&&(cNd.wf r.y.1 r.y.2.2&&tt (cNd.ls r.x.1 r.x.2.2=cNd.ls r.y.1 r.y.2.2∧EuOk (cNd.ls r.x.1 r.x.2.2))))
noncomputable def euG:=gLp euDec euPre fun k r=>⟨(.exit 0,[]),[],[]⟩
theorem eu_loop{F0:Fz}(hF0:∀b cs t,F0 b=some (cs,t)→t=0):SubLp F0 env spE (zaf euF 58) 32 160000000000000000 euLive euWs euG:=
 zbg (ts:=euTs) (TEq_ok hF0) hF0 (zaN (n:=32) (by kernel_rfl) (by kernel_rfl)) (ws_ok (by kernel_rfl)) (by decide) (by decide) fun K a b r hr hp=>by
  unfold euPre at hp
  simp only[zC]at hp
  obtain⟨p1,p2,p3,p4⟩:=hp
  obtain⟨w1,w2⟩:=of_tt p4
  unfold euDec at hr
  split at hr
  .rename_i c1 c2 n x y f
   split at hr
   .rename_i x' y' hf h1 h2
    injection hr with hr;subst hr
    have hf:=zD hf
    subst hf
    have p1:=zD p1
    simp only at p1 p2 p3 w1 w2
    subst p1
    have hl:(cNd.ls x'.1 x'.2.2).length=x'.1:=cNd.ls_len
    have hq:=w2.few
    refine⟨_,euRo (K+1) (cNd.ls x'.1 x'.2.2) w2,⟨0,zE _⟩,?_,?_,.nil,rfl⟩
    .show 1500000000000*((cNd.ls x'.1 x'.2.2).length-0+1)≤_
     omega
    .show WkL 0 _ (euVa (cNd.ls x'.1 x'.2.2) (.ofNat 0))
     unfold euVa
     refine .cons Wk.int (.cons (.int_eq (by rw[hl])) (.cons (cNd.sl_none h1 p2 (zB _)) (.cons ?_ (.cons fn0_wk .nil))))
     rw[w1]
     exact cNd.sl_none h2 p3 (zB _)
   .cases hr
  .cases hr
noncomputable def TEu:Told:=TEq.withL euF 58 (zaD 160000000000000000 euLive euWs euG)
theorem TEu_ok{F0:Fz}(hF0:∀b cs t,F0 b=some (cs,t)→t=0):ToldOk F0 env spE TEu:=zaM (n:=32) (TEq_ok hF0) (by kernel_rfl) (by kernel_rfl) (eu_loop hF0)
noncomputable def samT(I:Img):RT Lf:=fnT env TEu samF 170000000000000000 [imV 0 I,imV 0 I] []
def samE(I:Img):RawEq:=⟨I.names.length,(I.names.length,none,cNm.e 0 I.names),(I.names.length,none,cNm.e 0 I.names)⟩
def samU(I:Img):RawEq:=⟨I.nodes.length,(I.nodes.length,none,cNd.e 0 I.nodes),(I.nodes.length,none,cNd.e 0 I.nodes)⟩
theorem sam_way(I:Img):(samT I).follow [false,true,false,true]=some ([(zA I.names.length != zA I.names.length,false),(enPre (samE I),true),(zA I.nodes.length != zA I.nodes.length,false),(euPre (samU I),true)],⟨.ret,[.bool true true],[],[]⟩):=by kernel_rfl
structure SaOk(I:Img):Prop where
 names:I.names.length≤100000
 nodes:EuOk I.nodes
def saDec(a:List SV):Option (RawI×RawI):=match a with
 | [v,w]=>(match decI v,decI w with|some x,some y=>some (x,y)|_,_=>none)
 | _=>none
noncomputable def saPre(r:RawI×RawI):Bool:=r.1.wf&&(r.2.wf&&tt (r.1.I=r.2.I∧SaOk r.1.I))
noncomputable def gSame:=gPl saDec saPre fun _=>.bool true true
theorem same_told{F0:Fz}(hF0:∀b cs t,F0 b=some (cs,t)→t=0):zaA F0 env spE samF 170000000000000000 gSame:=za6 (TEu_ok hF0) hF0 rfl fun K a r hd hp=>by
 unfold saPre at hp
 simp only[zC]at hp
 obtain⟨p1,p2,p3⟩:=hp
 obtain⟨w1,w2⟩:=of_tt p3
 unfold saDec at hd
 split at hd
 .split at hd
  .rename_i x y h1 h2
   injection hd with hd;subst hd
   simp only at p1 p2 w1 w2
   refine⟨_,_,.cons (im_wk (zB _) h1 p1) (.cons ?_ .nil),zab (sam_way x.I) (zaa (by simp) (zaa ?_ (zaa (by simp) (zaa ?_ zac)))),.cons Wk.bool .nil⟩
   .rw[w1]
    exact im_wk (zB _) h2 p2
   .have hn:=w2.names
    unfold enPre samE
    simp only[zC]
    exact⟨zH _,cNm.wf_e 0 _,cNm.wf_e 0 _,tt_t ⟨trivial,by omega⟩⟩
   .unfold euPre samU
    simp only[zC]
    refine⟨zH _,cNd.wf_e 0 _,cNd.wf_e 0 _,tt_t ⟨trivial,?_⟩⟩
    rw[show cNd.ls x.I.nodes.length (cNd.e 0 x.I.nodes)=x.I.nodes from cNd.ls_e 0 _]
    exact w2.nodes
  .cases hd
 .cases hd
noncomputable def TPu:Told:=((((TEu.withF samF (zaq 170000000000000000 gSame)).withF stF (zan 1800000000000000 [] gTs)).withF szF (zan 510000000000000 [] gZs)).withF soF (zan 1500000000000000 [] gOpen)).withF snF (zan 500000000000000000 [false,true] gSync)
theorem TPu_ok{F0:Fz}(hF0:∀b cs t,F0 b=some (cs,t)→t=0):ToldOk F0 env spE TPu:=
 zal (zal (zal (zal (za7 (TEu_ok hF0) (same_told hF0)) (ts_told hF0)) (zs_told hF0)) (open_told hF0)) (sync_told hF0)
end Go.Proofs.YtponjccgpbgnoaaGreatDoor.Se
