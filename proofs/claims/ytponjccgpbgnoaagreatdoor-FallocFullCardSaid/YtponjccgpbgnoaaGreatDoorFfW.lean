/- FallocFull: room made in a file that Put made (plain). -/
import Derived.Test.YtponjccgpbgnoaaGreatDoorSh
import Derived.Test.YtponjccgpbgnoaaGreatDoorFft
import Derived.Test.YtponjccgpbgnoaaGreatDoorShB
import Derived.Test.YtponjccgpbgnoaaGreatDoorFfw
import Derived.Test.YtponjccgpbgnoaaGreatDoorFfr
import Derived.Test.YtponjccgpbgnoaaGreatDoorLw
import Derived.Test.YtponjccgpbgnoaaGreatDoorRows
set_option linter.unusedVariables false
set_option linter.unusedSimpArgs false
set_option linter.unusedSectionVars false
open Int renaming ofNat→zA,ofNat_eq_natCast→zB,toNat_natCast→zC
open Bool renaming true_and→zD
open Go.IntWalk renaming i64_in→zE
namespace Go.Proofs.YtponjccgpbgnoaaGreatDoor.Se
open Go Go.Proofs.YtponjccgpbgnoaaGreatDoor Go.RowKit
set_option maxRecDepth 100000
def exN(b:List UInt8)(s t:Nat):List Xt:=zai b++(List.range (t-s)).map fun i=>xtN ((s+i:Nat):Int)
theorem ex_len{b:List UInt8}{s t:Nat}:(exN b s t).length=(b.length+7) / 8+(t-s):=by
 unfold exN
 rw[List.length_append,zau]
 simp
theorem blk_no{b:List UInt8}{x:Xt}(h:x∈zai b):∃i,i<(b.length+7) / 8∧x.no=(i:Int):=by
 obtain⟨i,hi,rfl⟩:=List.mem_iff_getElem.1 h
 rw[zbp]
 rw[zau]at hi
 exact⟨i,hi,rfl⟩
theorem ex_end{b:List UInt8}{s t:Nat}(hs:(b.length+7) / 8≤s)(ht:s≤t):∀x∈exN b s t,x.no<(t:Int):=fun x hx=>by
 unfold exN at hx
 rcases List.mem_append.1 hx with h|h
 .obtain⟨i,hi,e⟩:=blk_no h
  omega
 .obtain⟨i,hi,rfl⟩:=List.mem_map.1 h
  have:=List.mem_range.1 hi
  show((s+i:Nat):Int)<_
  omega
theorem ex_need{b:List UInt8}(hb:b.length≤1099511627776){s t:Nat}(hs:(b.length+7) / 8≤s)(ht:s≤t∨t<(b.length+7) / 8):needX (exN b s t) (t:Int)=exN b s (t+1)∧dirN (exN b s t) (t:Int)=true:=by
 rcases ht with h|h
 .have he:=ex_end hs h
  refine⟨?_,?_⟩
  .unfold needX
   rw[found_end he]
   simp only
   rw[low_end he,insA_end]
   unfold exN
   rw[show t+1-s=(t-s)+1 by omega,List.range_succ,List.map_append,List.append_assoc]
   simp only[List.map_cons,List.map_nil]
   rw[show s+(t-s)=t by omega]
  .unfold dirN
   rw[low_end he,Nat.beq_refl,Bool.or_true]
 .have e0:exN b s t=zai b:=by unfold exN;rw[show t-s=0 by omega];simp
  have e1:exN b s (t+1)=zai b:=by unfold exN;rw[show t+1-s=0 by omega];simp
  have hf:zbr (zai b) (t:Int)=true:=(found_iff (blocks_ok hb).rise).2 ⟨(zai b)[t]'(by rw[zau];exact h),List.getElem_mem _,by rw[zbp];rfl⟩
  rw[e0,e1]
  refine⟨?_,?_⟩
  .unfold needX;rw[hf]
  .unfold dirN;rw[hf,Bool.true_or]
theorem ex_alloc{b:List UInt8}(hb:b.length≤1099511627776){s no:Nat}(hs:s=max no ((b.length+7) / 8)):∀c t:Nat,no≤t→zbi (exN b s t) (t:Int) c=exN b s (t+c)
 | 0,t,h=>rfl
 | c+1,t,h=>by
  have h1:=(ex_need hb (s:=s) (t:=t) (by omega) (by omega)).1
  show zbi (needX (exN b s t) (t:Int)) ((t:Int)+1) c=_
  rw[h1,show(t:Int)+1=((t+1:Nat):Int) by omega,ex_alloc hb hs c (t+1) (by omega),show t+1+c=t+(c+1) by omega]
theorem al_ex{b:List UInt8}(hb:b.length≤1099511627776)(no c:Nat):zbi (zai b) (no:Int) c=exN b (max no ((b.length+7) / 8)) (no+c):=by
 have e0:exN b (max no ((b.length+7) / 8)) no=zai b:=by unfold exN;rw[show no-max no ((b.length+7) / 8)=0 by omega];simp
 have:=ex_alloc hb (no:=no) rfl c no (Nat.le_refl _)
 rwa [e0]at this
theorem al_dir{b:List UInt8}(hb:b.length≤1099511627776)(no c:Nat):DirA (zai b) (no:Int) c:=fun k hk=>by
 rw[al_ex hb no k,show(no:Int)+(k:Int)=((no+k:Nat):Int) by omega]
 exact(ex_need hb (by omega) (by omega)).2
def fzP(b:List UInt8)(p q:Nat):Nat:=max b.length (p+q)
def flP(b:List UInt8)(p q:Nat):List Xt:=exN b (max (p / 8) ((b.length+7) / 8)) ((p+q+7) / 8)
theorem alX_p{b:List UInt8}(hb:b.length≤1099511627776){p q:Nat}(hq:1≤q):alX (zai b) p q=flP b p q:=by
 unfold alX cntA flP
 simp only[zC]
 have:=al_ex hb (p / 8) ((p+q-1) / 8+1-p / 8)
 rw[show p / 8+((p+q-1) / 8+1-p / 8)=(p+q+7) / 8 by omega]at this
 exact this
theorem flP_len{b:List UInt8}{p q:Nat}:(flP b p q).length=(b.length+7) / 8+ndN p q ((b.length+7) / 8) (flN p q):=by
 unfold flP ndN flN
 rw[ex_len]
 have:p / 8≤(p+q+7) / 8:=Nat.div_le_div_right (by omega)
 generalize max (p / 8) ((b.length+7) / 8)=M
 omega
theorem flP_dir{b:List UInt8}(hb:b.length≤1099511627776){p q:Nat}:DirA (zai b) (.ofNat ((p:Int).toNat / 8)) (cntA p q):=by
 rw[zC]
 exact al_dir hb _ _
theorem flP_ok{b:List UInt8}{p q:Nat}(hb:b.length≤1000)(hq:1≤q)(h1:p≤1000)(h2:q≤1000):OkC (fzP b p q:Nat) (flP b p q):=by
 rw[←alX_p (by omega) hq]
 unfold fzP
 exact alloc_ok ((blocks_ok (by omega)).wider (by omega) (by omega)) (by rw[zC];exact Int.natCast_nonneg _) (by
  unfold cntA
  simp only[zC,zB];omega)
theorem al_change{b:List UInt8}{p q:Nat}(hb:b.length≤1000)(hq:1≤q)(h1:p≤1000)(h2:q≤1000):zbs (alOp 1 p q false) b.length (zai b)=some (((fzP b p q:Nat):Int),flP b p q):=by
 unfold zbs alOp
 simp only[zaO.2 (blocks_ok (b:=b) (by omega)),df (show ¬(4:Int)=2 by decide),df (show ¬(4:Int)=3 by decide),dt (show(0:Int)≤(p:Int) by omega),dt (show(1:Int)≤(q:Int) by omega),dt (show(q:Int)≤1099511627776 by omega),dt (show(p:Int)≤1099511627776-(q:Int) by omega),dt (show(q:Int)≤32768 by omega),Bool.and_self,decide_true,cond_false]
 have e:zbi (zai b) ((p:Int) / 8) ((((p:Int)+q-1) / 8-(p:Int) / 8).toNat+1)=flP b p q:=by
  rw[←alX_p (by omega) hq]
  unfold alX cntA
  simp only[zC]
  rw[show(p:Int) / 8=zA (p / 8) by simp only[zB];omega]
  congr 1
  simp only[zB]
  omega
 rw[e]
 have e2:max (b.length:Int) ((p:Int)+q)=((fzP b p q:Nat):Int):=by unfold fzP;omega
 rw[e2]
end Go.Proofs.YtponjccgpbgnoaaGreatDoor.Se
namespace Go.Proofs.YtponjccgpbgnoaaGreatDoor.Se
open Go Go.Proofs.YtponjccgpbgnoaaGreatDoor Go.RowKit
set_option maxRecDepth 1000000
variable [Inhabited QI]
theorem rawI_I(st:Nat)(I:Img):(rawI st I).I=I:=I_imV st I
theorem rawI_w(st:Nat)(I:Img):(rawI st I).wf=true:=wf_imV st I
theorem viewI_e(st:Nat)(I:Img):viewI st I=rawI st I:=by
 unfold viewI rawI
 simp only[Nat.zero_add]
theorem fit_one{size:Int}{l:List Xt}(h:l.length≤137438953472):FitI (oneI [97] 1 size l):=⟨by show 1≤65536;decide,by show 1≤65536;decide,fun x hx=>by
 have:x=⟨1,size,l⟩:=by simpa [oneI]using hx
 subst this
 show l.length≤_
 omega⟩
theorem sa_one{size:Int}{l:List Xt}(h:l.length≤137438953472):SaOk (oneI [97] 1 size l):=⟨by show 1≤100000;decide,⟨by show 1≤100000;decide,fun k hk=>by
 have:k=0:=by simpa [oneI]using hk
 subst this
 exact h⟩⟩
end Go.Proofs.YtponjccgpbgnoaaGreatDoor.Se
namespace Go.Proofs.YtponjccgpbgnoaaGreatDoor.Se
open Go Go.Proofs.YtponjccgpbgnoaaGreatDoor Go.RowKit
set_option maxRecDepth 100000
variable [Inhabited QI]
theorem fM_e{b:List UInt8}(hb:b.length≤100):fM b=(((b.length+7) / 8:Nat):Int):=by
 unfold fM
 rw[show zA b.length+zA 7=zA (b.length+7)from rfl,zb2 (by omega)]
 exact zb2 (n:=(b.length+7) / 8) (by omega)
theorem fK_e{room:Nat}(h:room<256):fK room=((room % 30:Nat):Int):=zb2 (n:=room % 30) (by omega)
theorem fC_e{b:List UInt8}{room:Nat}(hb:b.length≤100)(h:room<256):fC b room=(((b.length+7) / 8+room % 30:Nat):Int):=by
 unfold fC
 rw[fM_e hb,fK_e h]
 exact zb2 (n:=(b.length+7) / 8+room % 30) (by omega)
theorem fP_e{pos:Nat}(h:pos<256):fP pos=(pos:Int):=zb2 (by omega)
theorem fQ_e{n:Nat}(h:n<256):fQ n=((n+1:Nat):Int):=by
 unfold fQ
 rw[zb2 (by omega)]
 exact zb2 (n:=n+1) (by omega)
theorem fS1_e{pos:Nat}(h:pos<256):fS1 pos=decN pos:=by unfold fS1;rw[fP_e h,zC]
theorem fS2_e{n:Nat}(h:n<256):fS2 n=decN (n+1):=by unfold fS2;rw[fQ_e h,zC]
theorem may_q{b:List UInt8}(hb:b.length≤4096):MayI (oneI [97] 1 b.length (zai b)):=by
 rw[←end_now (C:=0)]
 exact may_k hb (Nat.le_refl _)
theorem f4_e{b:List UInt8}{room:Nat}(hb:b.length≤100)(h:room<256):pu4 (fC b room) b=stQ (fC b room) b:=by
 rw[fC_e hb h]
 exact pu4_e (by omega) (by omega) (by omega)
theorem f5_e{b:List UInt8}{room:Nat}(hb:b.length≤100)(h:room<256):f5 b room=stQ (fC b room) b:=by
 unfold f5
 rw[zcu,f4_e hb h]
theorem q_has{C:Int}{b:List UInt8}(hb:b.length≤4096):HasS (stQ C b) 1:=⟨rfl,may_q hb,zce _ _ _⟩
theorem q_cont{C:Int}{b:List UInt8}:contI (stQ C b).now 1=((b.length:Int),zai b):=cont_one _ _ _ _
theorem q_name{C:Int}{b:List UInt8}:hasS (stQ C b).now.names [97]=true:=by
 show hasS [⟨[97],1⟩] [97]=true
 decide
theorem q_find{C:Int}{b:List UInt8}:findS (stQ C b).now [97]=(1,true):=by
 unfold findS
 rw[q_name]
 show(((oneI [97] 1 b.length (zai b)).names.getD (lowS (oneI [97] 1 b.length (zai b)).names [97]) nm0).ino,true)=_
 show(([⟨[97],1⟩]:List Nm).getD (lowS [⟨[97],1⟩] [97]) nm0 |>.ino,true)=_
 decide
theorem fIno_e{b:List UInt8}{room:Nat}(hb:b.length≤100)(h:room<256):fIno b room=1:=by
 unfold fIno
 rw[f5_e hb h,q_find]
structure FfA(b:List UInt8)(room pos n:Nat):Prop where
 b:b.length≤100
 r:room<256
 p:pos<256
 n:n<256
theorem q_al{b:List UInt8}{room pos n:Nat}(A:FfA b room pos n):AlOk (stQ (fC b room) b) 1 (pos:Int) ((n+1:Nat):Int):=by
 obtain⟨hb,hr,hp,hn⟩:=A
 refine⟨q_has (by omega),by show(-1:Int)<0;decide,Nat.zero_le _,?_,?_,?_,?_,?_⟩
 .unfold okA
  rw[dt (show(0:Int)≤(pos:Int) by omega),dt (show(1:Int)≤((n+1:Nat):Int) by omega),dt (show(pos:Int)+((n+1:Nat):Int)≤1099511627776 by omega),dt (show((n+1:Nat):Int)≤32768 by omega)]
  rfl
 .rw[q_cont]
  exact flP_dir (by omega)
 .show 0≤fC b room
  rw[fC_e hb hr];omega
 .show fC b room≤4096
  rw[fC_e hb hr];omega
 .show 0+(zai b).length≤_
  rw[zau];omega
theorem fVal{b:List UInt8}{room pos n:Nat}(A:FfA b room pos n):okD (fS1 pos)=true∧zA (valN (fS1 pos))=(pos:Int)∧okD (fS2 n)=true∧zA (valN (fS2 n))=((n+1:Nat):Int):=by
 obtain⟨hb,hr,hp,hn⟩:=A
 obtain⟨o1,v1⟩:=dec_ok (n:=pos) (by omega)
 obtain⟨o2,v2⟩:=dec_ok (n:=n+1) (by omega)
 rw[fS1_e hp,fS2_e hn,v1,v2]
 exact⟨o1,rfl,o2,rfl⟩
theorem head_ok{b:List UInt8}{room pos n:Nat}(A:FfA b room pos n):eqs_ (fHead b room pos n)=true:=by
 obtain⟨v1,v2,v3,v4⟩:=fVal A
 have hal:=q_al A
 obtain⟨hb,hr,hp,hn⟩:=A
 have h5:=f5_e hb hr
 have h4:=f4_e hb hr
 have hC:=fC_e hb hr
 unfold fHead
 rw[v1,v2,v3,v4,fIno_e hb hr,h5,h4,fP_e hp,fQ_e hn]
 have t:∀ {l:List (Bool×Bool)},eqs_ l=true→eqs_ ((true,true)::l)=true:=fun h=>zaa rfl h
 have f:∀ {l:List (Bool×Bool)},eqs_ l=true→eqs_ ((false,false)::l)=true:=fun h=>zaa rfl h
 have hpt:eqs_ (puTests (fC b room) b)=true:=puTests_ok (by omega) (by omega) (by omega) (by rw[hC];omega)
 refine zaa (df (by simp only[zB];omega)) (zag hpt (zaa ?_ (zaa ?_ (zaa ?_ (t (t (t (t (t (t (t (f (t (t (f (t (t (t (t (zaa ?_ (f (f (zaa ?_ (zaa q_name (zaa ?_ zac)))))))))))))))))))))))))
 .rw[rawI_w,rawI_I]
  show(true&&tt (FitI (oneI [97] 1 b.length (zai b))))=true
  rw[tt_t (fit_one (by rw[zau];omega))];rfl
 .rw[dt (by omega),dt (by omega)];rfl
 .rw[dt (by omega),dt (by omega)];rfl
 .show(((n+1:Nat):Int)==zA 0)=false
  rw[beq_eq_false_iff_ne]
  simp only[zB,ne_eq];omega
 .unfold opPre
  simp only[rawS_w,zcu,zD]
  exact tt_t ⟨rfl,may_q (by omega),rfl,fun e=>by rw[q_name]at e;cases e⟩
 .unfold saPre2
  simp only[rawS_w,zcu,zD]
  exact tt_t hal
theorem fFl_e{b:List UInt8}{room pos n:Nat}(A:FfA b room pos n):fFl b pos n=true:=by
 obtain⟨hb,hr,hp,hn⟩:=A
 unfold fFl
 rw[fP_e hp,fQ_e hn,fM_e hb]
 have e:IntKind.i64.wrap (((pos:Nat):Int).tdiv (zA 8))=(pos:Int) / 8:=by
  have:((pos:Nat):Int).tdiv (zA 8)=zA (pos / 8):=rfl
  rw[this,zb2 (by omega)]
  simp only[zB];omega
 rw[e]
 unfold flPre
 simp only[Bool.and_eq_true,decide_eq_true_eq]
 refine⟨by omega,by omega,by omega,by omega,by omega,by omega,trivial⟩
theorem fNd_e{b:List UInt8}{room pos n:Nat}(A:FfA b room pos n):fNd b pos n=((ndN pos (n+1) ((b.length+7) / 8) (flN pos (n+1)):Nat):Int):=by
 obtain⟨hb,hr,hp,hn⟩:=A
 unfold fNd ndI
 rw[fP_e hp,fQ_e hn,fM_e hb]
 simp only[zC]
theorem fFull_e{b:List UInt8}{room pos n:Nat}(A:FfA b room pos n):fFull b room pos n=decide (fNd b pos n>fK room):=by
 rw[fNd_e A]
 obtain⟨v1,v2,v3,v4⟩:=fVal A
 obtain⟨hb,hr,hp,hn⟩:=A
 unfold fFull f18
 rw[v2,v4,fIno_e hb hr,f5_e hb hr]
 unfold alFull
 rw[q_cont]
 simp only
 rw[alX_p (by omega) (by omega),flP_len,zau]
 have hu:usedI (stQ (fC b room) b).now.nodes=(b.length+7) / 8:=by
  show 0+(zai b).length=_
  rw[zau];omega
 rw[hu]
 show decide (_>max 0 (fC b room-_))=_
 rw[fC_e hb hr,fK_e hr]
 congr 1
 generalize ndN pos (n+1) ((b.length+7) / 8) (flN pos (n+1))=N
 apply propext
 omega
theorem cp_ok{st:Nat}{b:List UInt8}{room pos n:Nat}(A:FfA b room pos n):eqs_ [((rawI st (pu4 (fC b room) b).now).wf&&tt (FitI (rawI st (pu4 (fC b room) b).now).I),true)]=true:=by
 obtain⟨hb,hr,hp,hn⟩:=A
 rw[f4_e hb hr,rawI_w,rawI_I]
 refine zaa ?_ zac
 show(true&&tt (FitI (oneI [97] 1 b.length (zai b))))=true
 rw[tt_t (fit_one (by rw[zau];omega))];rfl
theorem now7{b:List UInt8}{room pos n:Nat}(A:FfA b room pos n):(fS7 b room pos n).now=oneI [97] 1 (fzP b pos (n+1):Nat) (flP b pos (n+1)):=by
 obtain⟨v1,v2,v3,v4⟩:=fVal A
 obtain⟨hb,hr,hp,hn⟩:=A
 unfold fS7
 rw[v2,v4,fIno_e hb hr,zcu,f4_e hb hr]
 exact apply_one (by show(2:Int)≤4;decide) (by show(4:Int)≤5;decide) rfl (al_change (by omega) (by omega) (by omega) (by omega))
theorem may7{b:List UInt8}{pos n:Nat}(hb:b.length≤100)(hp:pos<256)(hn:n<256):MayI (oneI [97] 1 (fzP b pos (n+1):Nat) (flP b pos (n+1))):=by
 have:=set_may (ino:=1) (size:=(fzP b pos (n+1):Nat)) (l:=flP b pos (n+1)) (may_q (b:=b) (by omega)) (zce _ _ _) (flP_ok (by omega) (by omega) (by omega) (by omega))
 rwa [set_one]at this
theorem ff_true{b:List UInt8}{room pos n:Nat}(hr:room<256)(hp:pos<256)(hn:n<256):∃c sh,(ffT b room pos n).sel=some (.bool c true,sh):=by
 by_cases hb:b.length≤100
 .have A:FfA b room pos n:=⟨hb,hr,hp,hn⟩
  have hF:=fFull_e A
  by_cases hk:fNd b pos n>fK room
  .refine true_sel (ff_full b room pos n) (zag (head_ok A) (zaa (by rw[hF];exact dt hk) (zaa (fFl_e A) (zaa (dt hk) (zag (cp_ok A) (zaa ?_ zac))))))
   rw[viewI_e,viewI_e,rawI_I,f4_e hb hr]
   unfold saPre
   simp only[rawI_w,rawI_I,zD]
   exact tt_t ⟨trivial,sa_one (by rw[zau];omega)⟩
  .have hn7:=now7 A
   have hlen:(flP b pos (n+1)).length≤137438953472:=(flP_ok (b:=b) (p:=pos) (q:=n+1) (by omega) (by omega) (by omega) (by omega)).len
   have hC7:fC7 b room pos n=(((fzP b pos (n+1):Nat):Int),flP b pos (n+1)):=by
    unfold fC7
    rw[viewI_e,rawI_I,rawI_I,hn7]
    exact cont_one _ _ _ _
   refine true_sel (ff_fits b room pos n) (zag (head_ok A) (zaa (by rw[hF];exact df hk) (zaa (fFl_e A) (zaa (df hk) (zaa ?_ (zaa ?_ (zaa ?_ (zaa ?_ zac))))))))
   .rw[rawI_w,rawI_I,hn7,tt_t (fit_one hlen)];rfl
   .rw[viewI_e,rawI_w,rawI_I,rawI_I,hn7,tt_t (may7 hb hp hn)];rfl
   .rw[hC7,fM_e hb,fNd_e A]
    show(zA (flP b pos (n+1)).length==_)=true
    have hN:ndN pos (n+1) ((b.length+7) / 8) (flN pos (n+1))≤1000:=by
     unfold ndN flN
     generalize max (pos / 8) ((b.length+7) / 8)=M
     omega
    rw[flP_len,zE _ (by omega),beq_iff_eq]
    simp only[zB];omega
   .rw[hC7,fP_e hp,fQ_e hn,mxI_eq,zE _ (by omega)]
    show(((fzP b pos (n+1):Nat):Int)==max (zA b.length) _)=true
    unfold fzP
    rw[beq_iff_eq]
    simp only[zB];omega
 .exact true_sel (ff_big b room pos n) (zaa (dt (by simp only[zB];omega)) zac)
end Go.Proofs.YtponjccgpbgnoaaGreatDoor.Se
namespace Go.Proofs.YtponjccgpbgnoaaGreatDoor.fallocFullM
open Go Go.RowKit Go.ChangeShapes Go.WideShapes Go.ChangeAt Go.Proofs.YtponjccgpbgnoaaGreatDoor.Se
set_option maxRecDepth 100000
noncomputable instance qiTop:Inhabited QI:=⟨qi1⟩
def laid:List (String×DataW Unit):=Go.Proofs.YtponjccgpbgnoaaGreatDoor.Rows.fallocFullRow.laid
def isE(p:String×DataW Unit):Bool:=p.1== "internal/strconv.uint64pow10"
def laidE:List (String×DataW Unit):=laid.filter isE
noncomputable abbrev gs:List (Nat×List Value):=zbF Tryz.prog laidE
theorem gs_lt:∀g c,(g,c)∈gs→g<Tryz.prog.globals.size:=fun g c hm=>by
 have h1:gs.all (fun p=>Nat.blt p.1 Tryz.prog.globals.size)=true:=by kernel_rfl
 have h2:=List.all_eq_true.1 h1 _ hm
 simpa [Nat.blt_eq]using h2
theorem room1:Tryz.prog.globals.size+1+9000000000000000000≤9223372036854775808:=of_decide_eq_true (by kernel_rfl)
theorem F0_pow:allF ⟨Tryz.prog.globals.size,gsTr gs⟩ Tryz.powG=some (powC,0):=by kernel_rfl
theorem told{F0:Se.Fz}(hF0:∀b cs t,F0 b=some (cs,t)→t=0)(hP:F0 Tryz.powG=some (powC,0)):ToldQ (Top F0) env (@spE ⟨qi1⟩) TFf:=by
 have h1:Se.ToldOk F0 env spE TF0:=zal (za7 (za7 (za7 (zal (zaM (TNw_ok hF0) (by kernel_rfl) (by kernel_rfl) (fl_loop hF0)) (sal_told hF0)) find_plainK) (dec_told hF0 hP)) (get_told hF0)) (getI_told hF0)
 have h2:ToldQ (Top F0) env spE TF0:=h1.le fun F h q=>q.le
 have h3:=withF_okQ (f:=intoF) (q:=zan 860000000000000001 [] gIn) h2 fun args sh v sh' F ι h args' b h0 H hl hs=>sub_relQ top_steps (in_sub hF0) h0 H hl hs
 exact withF_okQ (f:=20) (q:=zaq 0 gTrue) h3 fun args sh v sh' F ι h args' b h0 H hl hs=>told_rel (run_plain (by unfold spE;rfl) fallocRuns_true) h0.le H hl hs
theorem walk{w:World}{ps:List MemPlace}(hL:DataW.LaidVars Tryz.prog w laid ps){room pos n:Nat}(hr:room<256)(hp:pos<256)(hn:n<256){v:Value}(hv:Bys w v) :
  Calls Tryz.prog 5 #[v,.int .u8 (zA room),.int .u8 (zA pos),.int .u8 (zA n)] w fun e w'=>e=.returned (.bool true)∧Below w.heap.size w w':=by
 obtain⟨ps',hE⟩:=laidVars_some isE hL
 obtain⟨β,h,b,u,A⟩:=at_top room1 hE gs_lt hv
 obtain⟨c,sh',hsel⟩:=ff_true (b:=b) hr hp hn
 unfold ffT at hsel
 exact se_trueQ (args':=[v,.int .u8 (zA room),.int .u8 (zA pos),.int .u8 (zA n)]) (by with_reducible exact sp1_ok) top_steps (told zero_all (A.le _ _ F0_pow)) A.hr A.ro A.room (top_ro A.ro) A.base
  (.cons A.sl (.cons (.int ..) (.cons (.int ..) (.cons (.int ..) (.nil ..))))) (LR.cons A.vr (LR.cons (.int ..) (LR.cons (.int ..) (LR.cons (.int ..) (LR.nil _))))) hsel
end Go.Proofs.YtponjccgpbgnoaaGreatDoor.fallocFullM
