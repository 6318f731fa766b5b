/- slices.DeleteFunc's loop over blocks, for the two predicates. -/
import Derived.Test.YtponjccgpbgnoaaGreatDoorIxf
set_option linter.unusedVariables false
set_option linter.unusedSimpArgs false
set_option linter.unusedSectionVars false
open Int renaming ofNat→zA,ofNat_eq_natCast→zD
open Nat renaming le_refl→zB,beq→zC,blt→zE,ble→zF,eq_of_beq_eq_true→zH,zero_add→zI,le_of_ble_eq_true→zL,beq_refl→zM,sub_self→zS,min_eq_left→zU,zero_le→zW
open Bool renaming and_eq_true→zG,eq_false_iff→zV,not_eq_false'→yE
open List renaming getD→zJ,length_append→zN,getElem_mem→zO,take_length→zP,length_filter_le→zQ,take_succ_eq_append_getElem→zR,length_take→zT,length_map→zY,filter_append→zZ,set_append_right→yA,length_singleton→yB,append_assoc→yC,drop_eq_getElem_cons→yD,filter_eq_self→yF
open Go.IntWalk renaming i64_in→zK
namespace Go.Proofs.YtponjccgpbgnoaaGreatDoor.Se
open Go Go.Proofs.YtponjccgpbgnoaaGreatDoor Go.RowKit
set_option maxRecDepth 1000000
variable [Inhabited QI]
abbrev dfF:FuncId:=106
def dfLive:List Tmp:=[6,0,1,5]
def dfTs(e:Ex):List Tmp:=match e with|.normal=>dfLive|_=>[5]
def dfWs:List Tmp:=[16,17,18,19,22,23,24,25,7,26,27,28,29,30,31,32,33,34,35,5,20,21,6]
noncomputable def dfU(va:List SV)(bl:List SB):RT Lf:=zaJ env TO dfF 122 (zaf dfF 122) 42 dfLive dfTs 250 va bl
def dfVa(cl k n:Nat)(j i:Int):List SV:=[.int .i64 false j,.nsl 0 9 false 0 n 1,.fn cl [] [.ptr 1 k true 0 0],.int .i64 false i]
def dfBl(c:SB)(n:Nat)(e:Nat→List SV):List SB:=[.row 9 n e xtT,c]
def kpB:List (Option (Nat×Bool)):=[some (0,false),some (1,true)]
def keepL(p:Xt→Bool)(l:List Xt):List Xt:=l.filter fun x=>!p x
def stM(p:Xt→Bool)(l:List Xt)(j:Nat):List Xt:=keepL p (l.take j)++l.drop (keepL p (l.take j)).length
theorem keep_le{p:Xt→Bool}{l:List Xt}{j:Nat}:(keepL p (l.take j)).length≤j:=by
 have:=zQ (fun x=>!p x) (l.take j)
 unfold keepL
 simp at this ⊢
 omega
theorem keep_le2{p:Xt→Bool}{l:List Xt}:(keepL p l).length≤l.length:=zQ _ _
theorem keep_le3{p:Xt→Bool}{l:List Xt}{j:Nat}:(keepL p (l.take j)).length≤l.length:=by
 have:=zQ (fun x=>!p x) (l.take j)
 unfold keepL
 simp at this ⊢
 omega
theorem stM_len{p:Xt→Bool}{l:List Xt}{j:Nat}:(stM p l j).length=l.length:=by
 have:=keep_le3 (p:=p) (l:=l) (j:=j)
 unfold stM
 rw[zN,List.length_drop];omega
theorem stM_at{p:Xt→Bool}{l:List Xt}{j:Nat}(h:j<l.length):(stM p l j).getD j xt0=l[j]:=by
 have:=keep_le (p:=p) (l:=l) (j:=j)
 unfold stM
 simp only[zJ]
 rw[List.getElem?_append_right this,List.getElem?_drop,show(keepL p (l.take j)).length+(j-(keepL p (l.take j)).length)=j by omega]
 simp[h]
theorem keep_skip{p:Xt→Bool}{l:List Xt}{j:Nat}(h:j<l.length)(hp:p l[j]=true):keepL p (l.take (j+1))=keepL p (l.take j):=by
 unfold keepL
 rw[zR h,zZ]
 simp[hp]
theorem keep_keep{p:Xt→Bool}{l:List Xt}{j:Nat}(h:j<l.length)(hp:p l[j]=false):keepL p (l.take (j+1))=keepL p (l.take j)++[l[j]]:=by
 unfold keepL
 rw[zR h,zZ]
 simp[hp]
theorem stM_skip{p:Xt→Bool}{l:List Xt}{j:Nat}(h:j<l.length)(hp:p l[j]=true):stM p l (j+1)=stM p l j:=by
 unfold stM
 rw[keep_skip h hp]
theorem stM_keep{p:Xt→Bool}{l:List Xt}{j:Nat}(h:j<l.length)(hp:p l[j]=false):(stM p l j).set (keepL p (l.take j)).length l[j]=stM p l (j+1):=by
 have hk:=keep_le (p:=p) (l:=l) (j:=j)
 unfold stM
 rw[keep_keep h hp]
 rw[yA _ _ (zB _),zS,zN,yB,yC]
 congr 1
 rw[yD (show(keepL p (l.take j)).length<l.length by omega)]
 rfl
theorem stM_start{p:Xt→Bool}{l:List Xt}(h:fstX p l<l.length):keepL p (l.take (fstX p l+1))=l.take (fstX p l)∧stM p l (fstX p l+1)=l:=by
 have hp:p l[fstX p l]=true:=(yE _).mp (zc4 (p:=fun x=>!p x) (l:=l) h)
 have e:keepL p (l.take (fstX p l+1))=l.take (fstX p l):=by
  rw[keep_skip h hp]
  unfold keepL
  rw[yF]
  intro x hx
  obtain⟨i,hi,rfl⟩:=List.mem_iff_getElem.1 hx
  rw[List.getElem_take]
  rw[zT]at hi
  exact zbA (p:=fun x=>!p x) (l:=l) (by omega) (by show i<fstX p l;omega)
 refine⟨e,?_⟩
 unfold stM
 rw[e,zT,zU (by omega),List.take_append_drop]
theorem keep_none{p:Xt→Bool}{l:List Xt}(h:¬fstX p l<l.length):keepL p l=l:=by
 unfold keepL
 rw[yF]
 intro x hx
 obtain⟨i,hi,rfl⟩:=List.mem_iff_getElem.1 hx
 exact zbA (p:=fun x=>!p x) (l:=l) hi (by show i<fstX p l;omega)
def dfE(l:List Xt)(i j q:Nat):List SV:=
 [.int .i64 false (bif zC q (0+i)then(l.getD (0+j) xt0).no else(l.getD q xt0).no),.int .u8 false (bif zC q (0+i)then zA (l.getD (0+j) xt0).b0.toNat else zA (l.getD q xt0).b0.toNat),.int .u8 false (bif zC q (0+i)then zA (l.getD (0+j) xt0).b1.toNat else zA (l.getD q xt0).b1.toNat),
  .int .u8 false (bif zC q (0+i)then zA (l.getD (0+j) xt0).b2.toNat else zA (l.getD q xt0).b2.toNat),.int .u8 false (bif zC q (0+i)then zA (l.getD (0+j) xt0).b3.toNat else zA (l.getD q xt0).b3.toNat),.int .u8 false (bif zC q (0+i)then zA (l.getD (0+j) xt0).b4.toNat else zA (l.getD q xt0).b4.toNat),
  .int .u8 false (bif zC q (0+i)then zA (l.getD (0+j) xt0).b5.toNat else zA (l.getD q xt0).b5.toNat),.int .u8 false (bif zC q (0+i)then zA (l.getD (0+j) xt0).b6.toNat else zA (l.getD q xt0).b6.toNat),.int .u8 false (bif zC q (0+i)then zA (l.getD (0+j) xt0).b7.toNat else zA (l.getD q xt0).b7.toNat)]
theorem dfE_eq(l:List Xt)(i j q:Nat):dfE l i j q=xtRow (bif zC q i then l.getD j xt0 else l.getD q xt0):=by
 unfold dfE
 rw[zI,zI]
 cases zC q i<;>rfl
structure DfOk{κ:Type}(cl k:Nat)(c:κ→SB)(g:κ→Xt→Prop)(p:κ→Xt→Bool):Prop where
 stop:∀t M i,(dfU (dfVa cl k M.length (.ofNat M.length) (.ofNat i)) (dfBl (c t) M.length (xtE M))).sel=some ⟨.exit 0,[.int .i64 false (.ofNat i)],dfBl (c t) M.length (xtE M),kp2⟩
 skip:∀t (M:List Xt) i j,j<M.length→i<M.length→g t (M.getD j xt0)→p t (M.getD j xt0)=true→(dfU (dfVa cl k M.length (.ofNat j) (.ofNat i)) (dfBl (c t) M.length (xtE M))).sel=some ⟨.normal,dfVa cl k M.length (IntKind.i64.wrap (zA j+zA 1)) (.ofNat i),dfBl (c t) M.length (xtE M),kp2⟩
 keep:∀t (M:List Xt) i j,j<M.length→i<M.length→g t (M.getD j xt0)→p t (M.getD j xt0)=false→(dfU (dfVa cl k M.length (.ofNat j) (.ofNat i)) (dfBl (c t) M.length (xtE M))).sel=some ⟨.normal,dfVa cl k M.length (IntKind.i64.wrap (zA j+zA 1)) (IntKind.i64.wrap (zA i+zA 1)),dfBl (c t) M.length (dfE M i j),kpB⟩
 crefl:∀K t,WkB K (c t) (c t)
 ngone:∀t,c t≠.gone
theorem dfVa_wk{cl k n:Nat}{j i j2 i2:Int}(hj:j=j2)(hi:i=i2):WkL 0 (dfVa cl k n j i) (dfVa cl k n j2 i2):=by
 subst hj hi
 exact .cons Wk.int (.cons (Wk.nsl (zB _)) (.cons (Wk.fnc (.cons Wk.ptr .nil)) (.cons Wk.int .nil)))
noncomputable def dfR{κ:Type}{cl k:Nat}{c:κ→SB}{g:κ→Xt→Prop}{p:κ→Xt→Bool}(B:DfOk cl k c g p)(K:Nat)(t:κ)(l:List Xt)(hl:l.length≤137438953472)(hg:∀x∈l,g t x) :
  za5 env TO dfF 122 (zaf dfF 122) 42 dfLive dfTs 250 K { j:Nat // j≤l.length } where
 va s:=dfVa cl k l.length (.ofNat s.1) (.ofNat (keepL (p t) (l.take s.1)).length)
 bl s:=dfBl (c t) l.length (xtE (stM (p t) l s.1))
 μ s:=l.length-s.1
 out s:=⟨.exit 0,[.int .i64 false (.ofNat (keepL (p t) l).length)],dfBl (c t) l.length (xtE (stM (p t) l l.length)),kpB⟩
 tsn:=rfl
 small s:=by show 2<4000;omega
 step s:=by
  obtain⟨j,hj⟩:=s
  have hlen:=stM_len (p:=p t) (l:=l) (j:=j)
  have hk:=keep_le (p:=p t) (l:=l) (j:=j)
  by_cases h:j<l.length
  .have ea:=stM_at (p:=p t) h
   have hgx:g t ((stM (p t) l j).getD j xt0):=by rw[ea];exact hg _ (zO h)
   cases hp:p t l[j]with
   | true=>
    have:=B.skip t (stM (p t) l j) (keepL (p t) (l.take j)).length j (by omega) (by omega) hgx (by rw[ea];exact hp)
    rw[hlen]at this
    refine⟨_,this,.inl ⟨rfl,⟨j+1,h⟩,?_,?_,by show l.length-(j+1)<l.length-j;omega,rfl,rfl,rfl,rfl⟩⟩
    .exact dfVa_wk (zap (by omega)) (by simp only;rw[keep_skip h hp])
    .show WkBs 0 _ (dfBl (c t) l.length (xtE (stM (p t) l (j+1))))
     rw[stM_skip h hp]
     exact .cons (.row zbq) (fun _=>nofun) (.cons (B.crefl 0 t) (fun _=>B.ngone t) .nil)
   | false=>
    have:=B.keep t (stM (p t) l j) (keepL (p t) (l.take j)).length j (by omega) (by omega) hgx (by rw[ea];exact hp)
    rw[hlen]at this
    refine⟨_,this,.inl ⟨rfl,⟨j+1,h⟩,?_,?_,by show l.length-(j+1)<l.length-j;omega,rfl,rfl,rfl,rfl⟩⟩
    .exact dfVa_wk (zap (by omega)) (by simp only;rw[keep_keep h hp,zN,yB,zap (by omega)])
    .show WkBs 0 _ (dfBl (c t) l.length (xtE (stM (p t) l (j+1))))
     refine .cons (.row (cX.of_row (st:=0) (l:=stM (p t) l (j+1)) (zB _) fun q hq=>?_)) (fun _=>nofun) (.cons (B.crefl 0 t) (fun _=>B.ngone t) .nil)
     rw[dfE_eq,ea,←stM_keep h hp,set_row q (by omega)]
     rfl
  .have e:j=l.length:=by omega
   subst e
   have:=B.stop t (stM (p t) l l.length) (keepL (p t) (l.take l.length)).length
   rw[hlen]at this
   refine⟨_,this,.inr ⟨by simp,rfl,.cons (.int_eq (by rw[zP])) .nil,.cons (.row zbq) (fun _=>nofun) (.cons (B.crefl K t) (fun _=>B.ngone t) .nil),rfl⟩⟩
def dfI(n j:Nat):List (Bool×Bool):=[(decide (zA j<zA n),true),(true,true),(zE j n,true)]
def dfJ(n i:Nat):List (Bool×Bool):=[(true,true),(zE i n,true)]
def trT(M:List Xt)(j:Nat)(s:Int):Bool:=!decide (IntKind.i64.wrap (noA M (0+j)*zA 8)≥s)
theorem dtr_stop(M:List Xt)(i j:Nat)(s:Int):(dfU (dfVa trC 1 M.length (.ofNat j) (.ofNat i)) (dfBl (szB s) M.length (xtE M))).follow [false]=some ([(decide (zA j<zA M.length),false)],⟨.exit 0,[.int .i64 false (.ofNat i)],dfBl (szB s) M.length (xtE M),kp2⟩):=by kernel_rfl
theorem dtr_skip(M:List Xt)(i j:Nat)(s:Int):(dfU (dfVa trC 1 M.length (.ofNat j) (.ofNat i)) (dfBl (szB s) M.length (xtE M))).follow [true,true,true,false]=some (dfI M.length j++[(trT M j s,false)],⟨.normal,dfVa trC 1 M.length (IntKind.i64.wrap (zA j+zA 1)) (.ofNat i),dfBl (szB s) M.length (xtE M),kp2⟩):=by kernel_rfl
theorem dtr_keep(M:List Xt)(i j:Nat)(s:Int):(dfU (dfVa trC 1 M.length (.ofNat j) (.ofNat i)) (dfBl (szB s) M.length (xtE M))).follow [true,true,true,true,true,true]=some (dfI M.length j++[(trT M j s,true)]++dfJ M.length i,⟨.normal,dfVa trC 1 M.length (IntKind.i64.wrap (zA j+zA 1)) (IntKind.i64.wrap (zA i+zA 1)),dfBl (szB s) M.length (dfE M i j),kpB⟩):=by kernel_rfl
def dpQ(M:List Xt)(j:Nat)(s:Int×Int):Bool:=(RawM.mk (IntKind.i64.wrap (noA M (0+j)*zA 8)) (.ofNat 8) s.1 s.2).ok&&true
def dpT(M:List Xt)(j:Nat)(s:Int×Int):Bool:=!inM (IntKind.i64.wrap (noA M (0+j)*zA 8)) (.ofNat 8) s.1 s.2
theorem dpu_stop(M:List Xt)(i j:Nat)(s:Int×Int):(dfU (dfVa puC 2 M.length (.ofNat j) (.ofNat i)) (dfBl (spB s.1 s.2) M.length (xtE M))).follow [false]=some ([(decide (zA j<zA M.length),false)],⟨.exit 0,[.int .i64 false (.ofNat i)],dfBl (spB s.1 s.2) M.length (xtE M),kp2⟩):=by kernel_rfl
theorem dpu_skip(M:List Xt)(i j:Nat)(s:Int×Int):(dfU (dfVa puC 2 M.length (.ofNat j) (.ofNat i)) (dfBl (spB s.1 s.2) M.length (xtE M))).follow [true,true,true,true,false]=some (dfI M.length j++[(dpQ M j s,true),(dpT M j s,false)],⟨.normal,dfVa puC 2 M.length (IntKind.i64.wrap (zA j+zA 1)) (.ofNat i),dfBl (spB s.1 s.2) M.length (xtE M),kp2⟩):=by kernel_rfl
theorem dpu_keep(M:List Xt)(i j:Nat)(s:Int×Int):(dfU (dfVa puC 2 M.length (.ofNat j) (.ofNat i)) (dfBl (spB s.1 s.2) M.length (xtE M))).follow [true,true,true,true,true,true,true]=some (dfI M.length j++[(dpQ M j s,true),(dpT M j s,true)]++dfJ M.length i,⟨.normal,dfVa puC 2 M.length (IntKind.i64.wrap (zA j+zA 1)) (IntKind.i64.wrap (zA i+zA 1)),dfBl (spB s.1 s.2) M.length (dfE M i j),kpB⟩):=by kernel_rfl
theorem dfI_ok{n j:Nat}(h:j<n):eqs_ (dfI n j)=true:=zaa (by rw[zaV,blt_t h]) (zaa rfl (zaa (blt_t h) zac))
theorem dfJ_ok{n j:Nat}(h:j<n):eqs_ (dfJ n j)=true:=zaa rfl (zaa (blt_t h) zac)
def SmX(x:Xt):Prop:=0≤x.no∧x.no≤137438953472
theorem no8b{M:List Xt}{j:Nat}(h:SmX (M.getD j xt0)):IntKind.i64.wrap (noA M (0+j)*zA 8)=(M.getD j xt0).no*8:=by
 rw[zI]
 unfold noA
 unfold SmX at h
 exact zK _ (by simp only[zD];omega)
theorem trT_eq{M:List Xt}{j:Nat}{s:Int}(h:SmX (M.getD j xt0)):trT M j s=!trP s (M.getD j xt0):=by unfold trT;rw[no8b h]
theorem dpT_eq{M:List Xt}{j:Nat}{s:Int×Int}(h:SmX (M.getD j xt0)):dpT M j s=!puP s (M.getD j xt0):=by unfold dpT;rw[no8b h];rfl
theorem dpQ_ok{M:List Xt}{j:Nat}{s:Int×Int}(h:SmX (M.getD j xt0))(h1:okP s.1=true)(h2:okP s.2=true):dpQ M j s=true:=by
 unfold dpQ
 rw[no8b h]
 unfold SmX at h
 unfold RawM.ok
 simp only
 rw[okP_t (by omega) (by omega),h1,h2];rfl
theorem dtr_ok:DfOk trC 1 szB (fun _=>SmX) trP where
 stop t M i:=zab (dtr_stop M i M.length t) (zaa (df (by omega)) zac)
 skip t M i j hj hi hg hp:=zab (dtr_skip M i j t) (zag (dfI_ok hj) (zaa (by rw[trT_eq hg,hp];rfl) zac))
 keep t M i j hj hi hg hp:=zab (dtr_keep M i j t) (zag (zag (dfI_ok hj) (zaa (by rw[trT_eq hg,hp];rfl) zac)) (dfJ_ok hi))
 crefl K t:=.lst1 (.cons Wk.int .nil)
 ngone t:=nofun
theorem dpu_ok:DfOk puC 2 (fun s:Int×Int=>spB s.1 s.2) (fun s x=>SmX x∧okP s.1=true∧okP s.2=true) puP where
 stop t M i:=zab (dpu_stop M i M.length t) (zaa (df (by omega)) zac)
 skip t M i j hj hi hg hp:=zab (dpu_skip M i j t) (zag (dfI_ok hj) (zaa (dpQ_ok hg.1 hg.2.1 hg.2.2) (zaa (by rw[dpT_eq hg.1,hp];rfl) zac)))
 keep t M i j hj hi hg hp:=zab (dpu_keep M i j t) (zag (zag (dfI_ok hj) (zaa (dpQ_ok hg.1 hg.2.1 hg.2.2) (zaa (by rw[dpT_eq hg.1,hp];rfl) zac))) (dfJ_ok hi))
 crefl K t:=.lst1 (.cons Wk.int (.cons Wk.int .nil))
 ngone t:=nofun
structure RawY(κ:Type) where
 i:Nat
 j:Int
 q:Nat
 n:Nat
 e:Nat→List SV
 t:κ
def RawY.l{κ:Type}(r:RawY κ):List Xt:=cX.ls r.n r.e
theorem RawY.len{κ:Type}(r:RawY κ):r.l.length=r.n:=cX.ls_len
def dfPart(a:List SV)(b:List SB)(cl k:Nat):Option (RawY SB):=match a,b with
 | [.int .i64 _ j,.nsl 0 9 _ 0 n z,.fn f [] [.ptr 1 k2 _ 0 0],.int .i64 _ (.ofNat i)],[.row 9 m e t1,c]=>
  (match zC f cl&&(zC k k2&&(zC t1 xtT&&zF z 1))with|true=>some ⟨i,j,n,m,e,c⟩|false=>none)
 | _,_=>none
def szD(c:SB):Option Int:=match c with|.lst 1 [[.int .i64 _ s]] t0=>(match zC t0 inT with|true=>some s|false=>none)|_=>none
def spD_(c:SB):Option (Int×Int):=match c with|.lst 2 [[.int .i64 _ s,.int .i64 _ t]] t0=>(match zC t0 spT with|true=>some (s,t)|false=>none)|_=>none
def dfDec{κ:Type}(cl k:Nat)(cd:SB→Option κ)(a:List SV)(b:List SB):Option (RawY κ):=match dfPart a b cl k with
 | some r=>(match cd r.t with|some t=>some ⟨r.i,r.j,r.q,r.n,r.e,t⟩|none=>none)
 | none=>none
theorem szD_wk{c:SB}{s:Int}(h:szD c=some s):WkB 0 c (szB s):=by
 unfold szD at h
 split at h
 .split at h
  .rename_i hc
   injection h with h;subst h
   have:=zH hc
   subst this
   exact .lst1 (.cons Wk.int .nil)
  .cases h
 .cases h
theorem spD_wk{c:SB}{s:Int×Int}(h:spD_ c=some s):WkB 0 c (spB s.1 s.2):=by
 unfold spD_ at h
 split at h
 .split at h
  .rename_i hc
   injection h with h;subst h
   have:=zH hc
   subst this
   exact .lst1 (.cons Wk.int (.cons Wk.int .nil))
  .cases h
 .cases h
theorem szD_gone{c:SB}{s:Int}(h:szD c=some s):c≠.gone:=by intro e;subst e;cases h
theorem spD_gone{c:SB}{s:Int×Int}(h:spD_ c=some s):c≠.gone:=by intro e;subst e;cases h
noncomputable def dfPre{κ:Type}(g:κ→Xt→Prop)(p:κ→Xt→Bool)(r:RawY κ):Bool:=zC r.q r.n&&(zF r.n 137438953472&&(cX.wf r.n r.e&&(zC r.i (fstX (p r.t) r.l)&&(decide (r.j=zA (r.i+1))&&(zE r.i r.n&&tt (∀x∈r.l,g r.t x))))))
noncomputable def dfG{κ:Type}(cl k:Nat)(cd:SB→Option κ)(c:κ→SB)(g:κ→Xt→Prop)(p:κ→Xt→Bool):=
 gLp (dfDec cl k cd) (dfPre g p) fun q r=>⟨(.exit 0,[(5,.int .i64 false (.ofNat (keepL (p r.t) r.l).length))]),dfBl (c r.t) r.n (xtE (stM (p r.t) r.l r.n)),kpB⟩
theorem df_loop{κ:Type}{cl k:Nat}{c:κ→SB}{g:κ→Xt→Prop}{p:κ→Xt→Bool}(B:DfOk cl k c g p){cd:SB→Option κ}(hcd:∀x t,cd x=some t→WkB 0 x (c t))(hcg:∀x t,cd x=some t→x≠.gone)
  {F0:Fz} (hF0:∀b cs t,F0 b=some (cs,t)→t=0):SubLp F0 env spE (zaf dfF 122) 42 40000000000000 dfLive dfWs (dfG cl k cd c g p):=
 zbg (ts:=dfTs) (TO_ok hF0) hF0 (zaN (n:=42) (by kernel_rfl) (by kernel_rfl)) (ws_ok (by kernel_rfl)) (by decide) (by decide) fun K a b r hr hp=>by
  unfold dfPre at hp
  simp only[zG]at hp
  obtain⟨q4,p1,p2,p3,p4,p5,p6⟩:=hp
  have q4:=zH q4
  have p1:=zL p1
  have p3:=zH p3
  have p4:=of_decide_eq_true p4
  have p5:=zdJ p5
  have hlen:=r.len
  have hst:=stM_start (p:=p r.t) (l:=r.l) (by omega)
  unfold dfDec at hr
  split at hr
  .rename_i r1 hr1
   split at hr
   .rename_i t ht
    injection hr with hr;subst hr
    unfold dfPart at hr1
    split at hr1
    .rename_i c1 j c2 n z f k2 c3 c4 i m e t1 cc
     split at hr1
     .rename_i hc
      injection hr1 with hr1;subst hr1
      simp only[zG]at hc
      obtain⟨q1,q2,q3,q5⟩:=hc
      have q1:=zH q1
      have q2:=zH q2
      have q3:=zH q3
      simp only at q4
      subst q1 q2 q3 q4
      simp only at p1 p2 p3 p4 p5 p6 hlen hst ht
      have e1:=hst.1
      have e2:=hst.2
      rw[←p3]at e1 e2
      refine⟨_,dfR B (K+1) t (RawY.l ⟨i,j,n,n,e,t⟩) (by omega) (of_tt p6),⟨i+1,by omega⟩,?_,?_,?_,?_⟩
      .show 250*((RawY.l ⟨i,j,n,n,e,t⟩).length-(i+1)+1)≤_
       omega
      .show WkL 0 _ (dfVa f k (RawY.l ⟨i,j,n,n,e,t⟩).length (.ofNat (i+1)) (.ofNat (keepL (p t) ((RawY.l ⟨i,j,n,n,e,t⟩).take (i+1))).length))
       rw[e1,zT,hlen,zU (by omega),←p4]
       exact .cons Wk.int (.cons (Wk.nsl (zL q5)) (.cons (Wk.fnc (.cons Wk.ptr .nil)) (.cons Wk.int .nil)))
      .show WkBs 0 _ (dfBl (c t) (RawY.l ⟨i,j,n,n,e,t⟩).length (xtE (stM (p t) (RawY.l ⟨i,j,n,n,e,t⟩) (i+1))))
       rw[e2,hlen]
       exact .cons (.row (cX.wf_wk (zB 0) p2)) (fun _=>nofun) (.cons (hcd _ _ ht) (fun _=>hcg _ _ ht) .nil)
      .show(⟨(.exit 0,[(5,.int .i64 false (.ofNat (keepL (p t) (RawY.l ⟨i,j,n,n,e,t⟩)).length))]),dfBl (c t) n (xtE (stM (p t) (RawY.l ⟨i,j,n,n,e,t⟩) n)),kpB⟩:Left (Ex×List (Tmp×SV)))=⟨(.exit 0,[(5,.int .i64 false (.ofNat (keepL (p t) (RawY.l ⟨i,j,n,n,e,t⟩)).length))]),dfBl (c t) (RawY.l ⟨i,j,n,n,e,t⟩).length (xtE (stM (p t) (RawY.l ⟨i,j,n,n,e,t⟩) (RawY.l ⟨i,j,n,n,e,t⟩).length)),kpB⟩
       rw[hlen]
     .cases hr1
    .cases hr1
   .cases hr
  .cases hr
def isFn2(c:FuncId)(a:List SV):Bool:=match a with|[_,_,.fn f _ _,_]=>zC f c|_=>false
noncomputable def dfGG:=gOr (isFn2 trC) (dfG trC 1 szD szB (fun _=>SmX) trP) (dfG puC 2 spD_ (fun s:Int×Int=>spB s.1 s.2) (fun s x=>SmX x∧okP s.1=true∧okP s.2=true) puP)
noncomputable def TD:Told:=TX.withL dfF 122 (zaD 40000000000000 dfLive dfWs dfGG)
theorem TD_ok{F0:Fz}(hF0:∀b cs t,F0 b=some (cs,t)→t=0):ToldOk F0 env spE TD:=
 zaM (n:=42) (TX_ok hF0) (by kernel_rfl) (by kernel_rfl) (subLp_or _ (df_loop dtr_ok (fun _ _=>szD_wk) (fun _ _=>szD_gone) hF0) (df_loop dpu_ok (fun _ _=>spD_wk) (fun _ _=>spD_gone) hF0))
abbrev wipeF:FuncId:=108
def wpLive:List Tmp:=[15,14,0,4]
def wpTs(e:Ex):List Tmp:=match e with|.normal=>wpLive|_=>[]
def wpWs:List Tmp:=[16,17,5,18,19,20,21,22,23,24,25,26,27,28,29,30,31,32,15]
def wpVa(k:Nat)(i:Int)(n:Nat):List SV:=[.int .i64 false i,.int .i64 false (.ofNat n),.ptr 0 9 true k 0,.ptr 1 2 true 0 0]
def wpBl(n:Nat)(e:Nat→List SV)(a b:Int):List SB:=[.row 9 n e xtT,spB a b]
noncomputable def wpT(m:Nat)(l:List Xt)(k i n:Nat)(a b:Int):RT Lf:=zaJ env TO wipeF 30 (zaf wipeF 30) 33 wpLive wpTs 100 (wpVa k (.ofNat i) n) (wpBl m (xtE l) a b)
def wpJ(l:List Xt)(k i:Nat)(a:Int):Int:=IntKind.i64.wrap (IntKind.i64.wrap (a-IntKind.i64.wrap (noA l k*zA 8))+zA i)
def wpZ(j q:Nat)(b:UInt8):Int:=bif zC j q then zA 0 else zA b.toNat
def wpC(l:List Xt)(k j q c:Nat)(b:UInt8):SV:=.int .u8 false (bif zC q k then wpZ j c b else zA b.toNat)
def wpE(l:List Xt)(k j q:Nat):List SV:=
 [.int .i64 false (bif zC q k then(l.getD q xt0).no else(l.getD q xt0).no),wpC l k j q 0 (l.getD q xt0).b0,wpC l k j q 1 (l.getD q xt0).b1,wpC l k j q 2 (l.getD q xt0).b2,wpC l k j q 3 (l.getD q xt0).b3,wpC l k j q 4 (l.getD q xt0).b4,wpC l k j q 5 (l.getD q xt0).b5,wpC l k j q 6 (l.getD q xt0).b6,wpC l k j q 7 (l.getD q xt0).b7]
theorem wp_stop(m:Nat)(l:List Xt)(k i n:Nat)(a b:Int):(wpT m l k i n a b).follow [false]=some ([(decide (zA i<zA n),false)],⟨.exit 0,[],wpBl m (xtE l) a b,kp2⟩):=by kernel_rfl
theorem wp_next(m:Nat)(l:List Xt)(k i n:Nat)(a b:Int):(wpT m l k i n a b).follow [true,true,true]=some ([(decide (zA i<zA n),true),(decide (0≤wpJ l k i a),true),(zE (wpJ l k i a).toNat 8,true)],⟨.normal,wpVa k (IntKind.i64.wrap (zA i+zA 1)) n,wpBl m (wpE l k (wpJ l k i a).toNat) a b,kpB⟩):=by kernel_rfl
def zb_(o i q:Nat)(b:UInt8):UInt8:=bif zF o q&&zE q (o+i)then 0 else b
def zX(x:Xt)(o i:Nat):Xt:=⟨x.no,zb_ o i 0 x.b0,zb_ o i 1 x.b1,zb_ o i 2 x.b2,zb_ o i 3 x.b3,zb_ o i 4 x.b4,zb_ o i 5 x.b5,zb_ o i 6 x.b6,zb_ o i 7 x.b7⟩
theorem zb_none(o q:Nat)(b:UInt8):zb_ o 0 q b=b:=by
 unfold zb_
 have:(zF o q&&zE q (o+0))=false:=by
  rw[zV];intro h
  rw[zG]at h
  have h1:=zL h.1
  have h2:=zdJ h.2
  omega
 rw[this];rfl
theorem zX_none(x:Xt)(o:Nat):zX x o 0=x:=by unfold zX;simp only[zb_none]
theorem zb_step(o i q:Nat)(b:UInt8):wpZ (o+i) q (zb_ o i q b)=zA (zb_ o (i+1) q b).toNat:=by
 unfold wpZ zb_
 by_cases e:o+i=q
 .subst e
  rw[zM,ble_t (by omega),blt_t (show o+i<o+(i+1) by omega)];rfl
 .have h1:zC (o+i) q=false:=by rw[zV];intro h;exact e (zH h)
  rw[h1]
  have:zE q (o+i)=zE q (o+(i+1)):=by
   by_cases h:q<o+i
   .rw[blt_t h,blt_t (by omega)]
   .rw[blt_f h,blt_f (by omega)]
  rw[this];rfl
theorem wpE_eq(l:List Xt)(k o i q:Nat)(x:Xt)(hk:k<l.length):wpE (l.set k (zX x o i)) k (o+i) q=xtRow ((l.set k (zX x o (i+1))).getD q xt0):=by
 by_cases e:q=k
 .subst e
  have e1:(l.set q (zX x o i)).getD q xt0=zX x o i:=by simp[zJ,hk]
  have e2:(l.set q (zX x o (i+1))).getD q xt0=zX x o (i+1):=by simp[zJ,hk]
  unfold wpE wpC
  rw[e1,e2,zM]
  simp only[cond_true,zX,zb_step]
  rfl
 .have h1:zC q k=false:=by rw[zV];intro h;exact e (zH h)
  have e1:∀y,(l.set k y).getD q xt0=l.getD q xt0:=fun y=>by simp[zJ,List.getElem?_set,show ¬k=q from fun h=>e h.symm]
  unfold wpE wpC
  rw[e1,e1,h1]
  rfl
theorem wpVa_wk{k n:Nat}{i j:Int}(h:i=j):WkL 0 (wpVa k i n) (wpVa k j n):=by
 subst h
 exact .cons Wk.int (.cons Wk.int (.cons Wk.ptr (.cons Wk.ptr .nil)))
theorem spB_wk{K:Nat}{a b:Int}:WkB K (spB a b) (spB a b):=.lst1 (.cons Wk.int (.cons Wk.int .nil))
noncomputable def wpR(K:Nat)(l:List Xt)(k n o:Nat)(a b:Int)(hk:k<l.length)(hz:0<n→SmX (l.getD k xt0)∧a-(l.getD k xt0).no*8=(o:Int)∧o+n≤8)(hn8:n≤8) :
  za5 env TO wipeF 30 (zaf wipeF 30) 33 wpLive wpTs 100 K { i:Nat // i≤n } where
 va s:=wpVa k (.ofNat s.1) n
 bl s:=wpBl l.length (xtE (l.set k (zX (l.getD k xt0) o s.1))) a b
 μ s:=n-s.1
 out s:=⟨.exit 0,[],wpBl l.length (xtE (l.set k (zX (l.getD k xt0) o n))) a b,kpB⟩
 tsn:=rfl
 small s:=by show 2<4000;omega
 step s:=by
  obtain⟨i,hi⟩:=s
  have hlen:(l.set k (zX (l.getD k xt0) o i)).length=l.length:=List.length_set
  by_cases h:i<n
  .obtain⟨hx,ho,hn⟩:=hz (by omega)
   have hno:noA (l.set k (zX (l.getD k xt0) o i)) k=(l.getD k xt0).no:=by
    unfold noA
    have:(l.set k (zX (l.getD k xt0) o i)).getD k xt0=zX (l.getD k xt0) o i:=by simp[zJ,hk]
    rw[this];rfl
   have hj:wpJ (l.set k (zX (l.getD k xt0) o i)) k i a=zA (o+i):=by
    unfold SmX at hx
    unfold wpJ
    have e1:IntKind.i64.wrap ((l.getD k xt0).no*zA 8)=(l.getD k xt0).no*8:=zK _ (by simp only[zD];omega)
    have e2:IntKind.i64.wrap (a-(l.getD k xt0).no*8)=zA o:=by rw[ho];exact zK _ (by omega)
    rw[hno,e1,e2]
    exact zK _ (by simp only[zD];omega)
   have:=wp_next l.length (l.set k (zX (l.getD k xt0) o i)) k i n a b
   rw[hj]at this
   have ht:(zA (o+i)).toNat=o+i:=rfl
   rw[ht]at this
   refine⟨_,zab this (zaa (by rw[zaV,blt_t h]) (zaa (zcb _) (zaa (blt_t (by omega)) zac))),.inl ⟨rfl,⟨i+1,h⟩,wpVa_wk (zap (by omega)),?_,by show n-(i+1)<n-i;omega,rfl,rfl,rfl,rfl⟩⟩
   refine .cons (.row (cX.of_row (st:=0) (l:=l.set k (zX (l.getD k xt0) o (i+1))) (zB _) fun q hq=>?_)) (fun _=>nofun) (.cons spB_wk (fun _=>nofun) .nil)
   rw[wpE_eq _ _ _ _ _ _ hk];rfl
  .have e:i=n:=by omega
   subst e
   have:=wp_stop l.length (l.set k (zX (l.getD k xt0) o i)) k i i a b
   exact⟨_,zab this (zaa (df (by omega)) zac),.inr ⟨by simp,rfl,.nil,.cons (.row zbq) (fun _=>nofun) (.cons spB_wk (fun _=>nofun) .nil),rfl⟩⟩
structure RawZ where
 n:Int
 k:Nat
 m:Nat
 e:Nat→List SV
 a:Int
 b:Int
def RawZ.l(r:RawZ):List Xt:=cX.ls r.m r.e
theorem RawZ.len(r:RawZ):r.l.length=r.m:=cX.ls_len
def RawZ.x(r:RawZ):Xt:=r.l.getD r.k xt0
def RawZ.o(r:RawZ):Nat:=(r.a-r.x.no*8).toNat
def wpDec(a:List SV)(b:List SB):Option RawZ:=match a,b with
 | [.int .i64 _ (.ofNat 0),.int .i64 _ n,.ptr 0 9 _ k 0,.ptr 1 2 _ 0 0],[.row 9 m e t1,.lst 2 [[.int .i64 _ p,.int .i64 _ q]] t0]=>
  (match zC t1 xtT&&zC t0 spT with|true=>some ⟨n,k,m,e,p,q⟩|false=>none)
 | _,_=>none
noncomputable def wpPre(r:RawZ):Bool:=cX.wf r.m r.e&&(zE r.k r.m&&tt (0≤r.n∧r.n≤8∧(0<r.n→SmX r.x∧0≤r.a-r.x.no*8∧r.o+r.n≤8)))
noncomputable def wpG:=gLp wpDec wpPre fun q r=>⟨(.exit 0,[]),wpBl r.m (xtE (r.l.set r.k (zX r.x r.o r.n.toNat))) r.a r.b,kpB⟩
theorem wp_loop{F0:Fz}(hF0:∀b cs t,F0 b=some (cs,t)→t=0):SubLp F0 env spE (zaf wipeF 30) 33 1000 wpLive wpWs wpG:=
 zbg (ts:=wpTs) (TO_ok hF0) hF0 (zaN (n:=33) (by kernel_rfl) (by kernel_rfl)) (ws_ok (by kernel_rfl)) (by decide) (by decide) fun K a b r hr hp=>by
  unfold wpPre at hp
  simp only[zG]at hp
  obtain⟨p1,p2,p3⟩:=hp
  have p2:=zdJ p2
  obtain⟨p3,p4,p5⟩:=of_tt p3
  have hlen:=r.len
  unfold wpDec at hr
  split at hr
  .rename_i c1 c2 n c3 k c4 m e t1 c5 p c6 q t0
   split at hr
   .rename_i hc
    injection hr with hr;subst hr
    rw[zG]at hc
    have q1:=zH hc.1
    have q2:=zH hc.2
    subst q1 q2
    simp only at p1 p2 p3 p5 p4 hlen
    refine⟨_,wpR (K+1) (RawZ.l ⟨n,k,m,e,p,q⟩) k n.toNat (RawZ.o ⟨n,k,m,e,p,q⟩) p q (by omega) (fun hn=>by
     obtain⟨z1,z2,z3⟩:=p5 (by omega)
     refine⟨z1,?_,by omega⟩
     unfold RawZ.o
     simp only[RawZ.x]at z2 ⊢
     omega) (by omega),⟨0,zW _⟩,?_,?_,?_,?_⟩
    .show 100*(n.toNat-0+1)≤_
     omega
    .exact .cons Wk.int (.cons (.int_eq (by simp only[zD];omega)) (.cons Wk.ptr (.cons Wk.ptr .nil)))
    .show WkBs 0 _ (wpBl (RawZ.l ⟨n,k,m,e,p,q⟩).length (xtE ((RawZ.l ⟨n,k,m,e,p,q⟩).set k (zX ((RawZ.l ⟨n,k,m,e,p,q⟩).getD k xt0) _ 0))) p q)
     have:(RawZ.l ⟨n,k,m,e,p,q⟩).set k ((RawZ.l ⟨n,k,m,e,p,q⟩).getD k xt0)=RawZ.l ⟨n,k,m,e,p,q⟩:=by
      rw[zaI (by omega),List.set_getElem_self]
     rw[zX_none,this,hlen]
     exact .cons (.row (cX.wf_wk (zB 0) p1)) (fun _=>nofun) (.cons (.lst1 (.cons Wk.int (.cons Wk.int .nil))) (fun _=>nofun) .nil)
    .show(⟨(.exit 0,[]),wpBl m (xtE ((RawZ.l ⟨n,k,m,e,p,q⟩).set k (zX (RawZ.x ⟨n,k,m,e,p,q⟩) (RawZ.o ⟨n,k,m,e,p,q⟩) n.toNat))) p q,kpB⟩:Left (Ex×List (Tmp×SV)))=⟨(.exit 0,[]),wpBl (RawZ.l ⟨n,k,m,e,p,q⟩).length (xtE ((RawZ.l ⟨n,k,m,e,p,q⟩).set k (zX (RawZ.x ⟨n,k,m,e,p,q⟩) (RawZ.o ⟨n,k,m,e,p,q⟩) n.toNat))) p q,kpB⟩
     rw[hlen]
   .cases hr
  .cases hr
noncomputable def TW:Told:=TD.withL wipeF 30 (zaD 1000 wpLive wpWs wpG)
theorem TW_ok{F0:Fz}(hF0:∀b cs t,F0 b=some (cs,t)→t=0):ToldOk F0 env spE TW:=zaM (n:=33) (TD_ok hF0) (by kernel_rfl) (by kernel_rfl) (wp_loop hF0)
noncomputable def wfT(l:List Xt)(k:Nat)(s t:Int):RT Lf:=fnZ false env TW wipeF 1500 [.ptr 0 9 true k 0,spV s t] [.row 9 l.length (xtE l) xtT]
def rwM(l:List Xt)(k:Nat)(s t:Int):RawM:=⟨IntKind.i64.wrap (noA l k*zA 8),.ofNat 8,s,t⟩
def rwZ(l:List Xt)(k:Nat)(r:RawM):RawZ:=⟨lenM r.a r.b r.c r.d,k,l.length,xtE l,atM r.a r.b r.c r.d,lenM r.a r.b r.c r.d⟩
theorem wipe_way(l:List Xt)(k:Nat)(s t:Int):(wfT l k s t).follow [true,true]=some ([((rwM l k s t).ok,true),(wpPre (rwZ l k (rwM l k s t)),true)],
  ⟨.ret,[.tup []],[.row 9 l.length (xtE ((rwZ l k (rwM l k s t)).l.set k (zX (rwZ l k (rwM l k s t)).x (rwZ l k (rwM l k s t)).o (rwZ l k (rwM l k s t)).n.toNat))) xtT],[some (0,false)]⟩):=by kernel_rfl
theorem zb_wb{a s t:Int}{q:Nat}{b:UInt8}(hq:q<8)(ht:0≤t):zb_ (atM a 8 s t-a).toNat (lenM a 8 s t).toNat q b=wb_ s (s+t) (a+q) b:=by
 cases hn:noM a 8 s t with
 | true=>
  have hl:(lenM a 8 s t).toNat=0:=by unfold lenM;rw[hn];rfl
  rw[hl,zb_none]
  unfold noM at hn
  have hn:=of_decide_eq_true hn
  rw[wb_out (by omega)]
 | false=>
  have hl:lenM a 8 s t=min (a+8) (s+t)-max a s:=by unfold lenM;rw[hn];rfl
  have ha:atM a 8 s t=max a s:=by unfold atM;rw[hn];rfl
  unfold noM at hn
  have hn:=of_decide_eq_false hn
  rw[hl,ha]
  unfold zb_ wb_
  have:(zF (max a s-a).toNat q&&zE q ((max a s-a).toNat+(min (a+8) (s+t)-max a s).toNat))=(decide (s≤a+q)&&decide (a+q<s+t)):=by
   rw[Bool.eq_iff_iff]
   simp only[zG,decide_eq_true_eq,Nat.blt_eq,Nat.ble_eq]
   omega
  rw[this]
theorem zX_wipe{x:Xt}{s t:Int}(ht:0≤t):zX x (atM (x.no*8) 8 s t-x.no*8).toNat (lenM (x.no*8) 8 s t).toNat=wipeX s (s+t) x:=by
 unfold zX wipeX
 rw[zb_wb (q:=0) (by omega) ht,zb_wb (q:=1) (by omega) ht,zb_wb (q:=2) (by omega) ht,zb_wb (q:=3) (by omega) ht,zb_wb (q:=4) (by omega) ht,zb_wb (q:=5) (by omega) ht,zb_wb (q:=6) (by omega) ht,zb_wb (q:=7) (by omega) ht]
 simp
structure RawU where
 k:Nat
 m:Nat
 e:Nat→List SV
 s:Int
 t:Int
def RawU.l(r:RawU):List Xt:=cX.ls r.m r.e
theorem RawU.len(r:RawU):r.l.length=r.m:=cX.ls_len
def wfDec(a:List SV)(b:List SB):Option RawU:=match a,b with
 | [.ptr 0 9 _ k 0,.agg [.int .i64 _ s,.int .i64 _ t]],[.row 9 m e t1]=>(match zC t1 xtT with|true=>some ⟨k,m,e,s,t⟩|false=>none)
 | _,_=>none
noncomputable def wfPre(r:RawU):Bool:=cX.wf r.m r.e&&(zE r.k r.m&&(okP r.s&&(okP r.t&&tt (SmX (r.l.getD r.k xt0)))))
noncomputable def gWipe:=gSub wfDec wfPre fun k r=>⟨.tup [],[.row 9 r.m (xtE (r.l.set r.k (wipeX r.s (r.s+r.t) (r.l.getD r.k xt0)))) xtT],[some (0,false)]⟩
theorem wipe_told{F0:Fz}(hF0:∀b cs t,F0 b=some (cs,t)→t=0):SubOk F0 env spE wipeF 1500 gWipe:=zaF (z:=false) (TW_ok hF0) hF0 rfl fun K a b r hd hp=>by
 unfold wfPre at hp
 simp only[zG]at hp
 obtain⟨p1,p2,p3,p4,p5⟩:=hp
 have p2:=zdJ p2
 have p5:=of_tt p5
 have hlen:=r.len
 have ot:=okP_of p4
 have os:=okP_of p3
 unfold wfDec at hd
 split at hd
 .rename_i c1 k c2 s c3 t m e t1
  split at hd
  .rename_i hc
   injection hd with hd;subst hd
   have hc:=zH hc
   subst hc
   simp only at p1 p2 p3 p4 p5 ot os hlen
   have hno:rwM (RawU.l ⟨k,m,e,s,t⟩) k s t=⟨((RawU.l ⟨k,m,e,s,t⟩).getD k xt0).no*8,8,s,t⟩:=by
    unfold rwM noA
    unfold SmX at p5
    rw[zK _ (by simp only[zD];omega)];rfl
   have hl:∀x,(rwZ (RawU.l ⟨k,m,e,s,t⟩) k x).l=RawU.l ⟨k,m,e,s,t⟩:=fun x=>cX.ls_e 0 _
   have hx:∀x,(rwZ (RawU.l ⟨k,m,e,s,t⟩) k x).x=(RawU.l ⟨k,m,e,s,t⟩).getD k xt0:=fun x=>by unfold RawZ.x;rw[hl];rfl
   refine⟨_,_,_,.cons Wk.ptr (.cons (.agg (.cons Wk.int (.cons Wk.int .nil))) .nil),?_,zab (wipe_way (RawU.l ⟨k,m,e,s,t⟩) k s t) (zaa ?_ (zaa ?_ zac)),.cons (.tup .nil) .nil,?_,rfl⟩
   .rw[hlen]
    exact .cons (.row (cX.wf_wk (zB 0) p1)) (fun _=>nofun) .nil
   .rw[hno]
    unfold RawM.ok SmX at *
    simp only
    rw[okP_t (by omega) (by omega),p3,p4];rfl
   .rw[hno]
    unfold wpPre
    rw[hx]
    have ho:(rwZ (RawU.l ⟨k,m,e,s,t⟩) k ⟨((RawU.l ⟨k,m,e,s,t⟩).getD k xt0).no*8,8,s,t⟩).o=(atM (((RawU.l ⟨k,m,e,s,t⟩).getD k xt0).no*8) 8 s t-((RawU.l ⟨k,m,e,s,t⟩).getD k xt0).no*8).toNat:=by unfold RawZ.o;rw[hx];rfl
    rw[ho]
    simp only[rwZ]
    rw[show cX.wf (RawU.l ⟨k,m,e,s,t⟩).length (xtE (RawU.l ⟨k,m,e,s,t⟩))=true from wf_xt,blt_t (by omega),tt_t]
    .rfl
    .unfold SmX at p5 ⊢
     generalize (RawU.l ⟨k,m,e,s,t⟩).getD k xt0=x at *
     unfold lenM atM
     cases hn:noM (x.no*8) 8 s t with
     | true=>simp
     | false=>
      unfold noM at hn
      have hn:=of_decide_eq_false hn
      simp only[cond_false]
      refine⟨by omega,by omega,fun _=>⟨p5,by omega,by omega⟩⟩
   .show WkBs (K+1) [.row 9 (RawU.l ⟨k,m,e,s,t⟩).length (xtE ((rwZ (RawU.l ⟨k,m,e,s,t⟩) k (rwM (RawU.l ⟨k,m,e,s,t⟩) k s t)).l.set k _)) xtT] [.row 9 m (xtE _) xtT]
    have ho:(rwZ (RawU.l ⟨k,m,e,s,t⟩) k (rwM (RawU.l ⟨k,m,e,s,t⟩) k s t)).o=(atM (((RawU.l ⟨k,m,e,s,t⟩).getD k xt0).no*8) 8 s t-((RawU.l ⟨k,m,e,s,t⟩).getD k xt0).no*8).toNat:=by unfold RawZ.o;rw[hx,hno];rfl
    have hn:(rwZ (RawU.l ⟨k,m,e,s,t⟩) k (rwM (RawU.l ⟨k,m,e,s,t⟩) k s t)).n=lenM (((RawU.l ⟨k,m,e,s,t⟩).getD k xt0).no*8) 8 s t:=by rw[hno];rfl
    rw[ho,hn,hx,hl,zX_wipe ot.1,hlen]
    exact .cons (.row zbq) (fun _=>nofun) .nil
  .cases hd
 .cases hd
noncomputable def TWi:Told:=TW.withF wipeF (zan 1500 [] gWipe)
theorem TWi_ok{F0:Fz}(hF0:∀b cs t,F0 b=some (cs,t)→t=0):ToldOk F0 env spE TWi:=zal (TW_ok hF0) (wipe_told hF0)
abbrev truncF:FuncId:=60
abbrev punchF:FuncId:=133
def tlLive:List Tmp:=[31,30,2,3]
def tlTs(e:Ex):List Tmp:=match e with|.normal=>tlLive|_=>[]
def tlWs:List Tmp:=[32,33,6,34,35,36,37,38,39,40,41,42,43,31]
def plLive:List Tmp:=[33,32,3,8]
def plTs(e:Ex):List Tmp:=match e with|.normal=>plLive|_=>[]
def plWs:List Tmp:=[34,35,9,36,37,38,39,40,41,42,33]
noncomputable def tlU(va:List SV)(bl:List SB):RT Lf:=zaJ env TWi truncF 506 (zaf truncF 506) 45 tlLive tlTs 1600 va bl
noncomputable def plU(va:List SV)(bl:List SB):RT Lf:=zaJ env TWi punchF 506 (zaf punchF 506) 44 plLive plTs 1600 va bl
def wlVa(k:Nat)(i:Int)(n:Nat):List SV:=[.int .i64 false i,.int .i64 false (.ofNat n),.ptr 0 2 true 0 0,.ptr 2 k true 0 0]
def wlBl(size:Int)(n m:Nat)(e:Nat→List SV)(c:SB):List SB:=[.lst 2 [[.int .i64 false size,.nsl 1 9 false 0 n 1]] ctT,.row 9 m e xtT,c]
def kp3:List (Option (Nat×Bool)):=[some (0,true),some (1,true),some (2,true)]
def kp3b:List (Option (Nat×Bool)):=[some (0,true),some (1,false),some (2,true)]
def wM(w:Xt→Xt)(M:List Xt)(i:Nat):List Xt:=(M.take i).map w++M.drop i
theorem wM_len{w:Xt→Xt}{M:List Xt}{i:Nat}(h:i≤M.length):(wM w M i).length=M.length:=by unfold wM;simp;omega
theorem wM_at{w:Xt→Xt}{M:List Xt}{i:Nat}(h:i<M.length):(wM w M i).getD i xt0=M[i]:=by
 unfold wM
 simp only[zJ]
 rw[List.getElem?_append_right (by simp;omega)]
 simp[zU (Nat.le_of_lt h),h]
theorem wM_step{w:Xt→Xt}{M:List Xt}{i:Nat}(h:i<M.length):(wM w M i).set i (w M[i])=wM w M (i+1):=by
 unfold wM
 have hl:((M.take i).map w).length=i:=by simp;omega
 rw[yA _ _ (by omega),hl,zS,zR h,List.map_append,yC,yD h]
 rfl
theorem wM_zero{w:Xt→Xt}{M:List Xt}:wM w M 0=M:=by simp[wM]
def rU(M:List Xt)(m i:Nat)(s t:Int):RawU:=⟨0+i,m,xtE M,s,t⟩
def wlN(M:List Xt)(m i:Nat)(s t:Int):List Xt:=(rU M m i s t).l.set (0+i) (wipeX s (s+t) ((rU M m i s t).l.getD (0+i) xt0))
def tlS(s:Int):Int:=IntKind.i64.wrap (zA 1099511627776-s)
def wlI(n i:Nat):List (Bool×Bool):=[(decide (zA i<zA n),true),(true,true),(zE i n,true)]
theorem tl_stop(M:List Xt)(m n i:Nat)(size s:Int):(tlU (wlVa 1 (.ofNat i) n) (wlBl size n m (xtE M) (szB s))).follow [false]=some ([(decide (zA i<zA n),false)],⟨.exit 0,[],wlBl size n m (xtE M) (szB s),kp3⟩):=by kernel_rfl
theorem tl_next(M:List Xt)(m n i:Nat)(size s:Int):(tlU (wlVa 1 (.ofNat i) n) (wlBl size n m (xtE M) (szB s))).follow [true,true,true,true]=some (wlI n i++[(wfPre (rU M m i s (tlS s)),true)],⟨.normal,wlVa 1 (IntKind.i64.wrap (zA i+zA 1)) n,wlBl size n m (xtE (wlN M m i s (tlS s))) (szB s),kp3b⟩):=by kernel_rfl
theorem pl_stop(M:List Xt)(m n i:Nat)(size s t:Int):(plU (wlVa 2 (.ofNat i) n) (wlBl size n m (xtE M) (spB s t))).follow [false]=some ([(decide (zA i<zA n),false)],⟨.exit 0,[],wlBl size n m (xtE M) (spB s t),kp3⟩):=by kernel_rfl
theorem pl_next(M:List Xt)(m n i:Nat)(size s t:Int):(plU (wlVa 2 (.ofNat i) n) (wlBl size n m (xtE M) (spB s t))).follow [true,true,true,true]=some (wlI n i++[(wfPre (rU M m i s t),true)],⟨.normal,wlVa 2 (IntKind.i64.wrap (zA i+zA 1)) n,wlBl size n m (xtE (wlN M m i s t)) (spB s t),kp3b⟩):=by kernel_rfl
theorem rU_l(M:List Xt)(i:Nat)(s t:Int):(rU M M.length i s t).l=M:=cX.ls_e 0 M
theorem wlN_eq{M:List Xt}{m i:Nat}{s t:Int}(hm:m=M.length)(h:i<M.length):wlN M m i s t=M.set i (wipeX s (s+t) (M.getD i xt0)):=by
 subst hm
 unfold wlN
 rw[rU_l,zI]
theorem wfPre_ok{M:List Xt}{m i:Nat}{s t:Int}(hm:m=M.length)(h:i<M.length)(hx:SmX (M.getD i xt0))(hs:okP s=true)(ht:okP t=true):wfPre (rU M m i s t)=true:=by
 subst hm
 unfold wfPre
 rw[rU_l]
 simp only[rU]
 rw[zI,show cX.wf M.length (xtE M)=true from wf_xt,blt_t h,hs,ht,tt_t hx];rfl
theorem wlI_ok{n j:Nat}(h:j<n):eqs_ (wlI n j)=true:=zaa (by rw[zaV,blt_t h]) (zaa rfl (zaa (blt_t h) zac))
structure WlOk{κ:Type}(U:List SV→List SB→RT Lf)(k:Nat)(c:κ→SB)(g:κ→Xt→Prop)(w:κ→Xt→Xt):Prop where
 stop:∀t M m n size,(U (wlVa k (.ofNat n) n) (wlBl size n m (xtE M) (c t))).sel=some ⟨.exit 0,[],wlBl size n m (xtE M) (c t),kp3⟩
 next:∀t (M:List Xt) m n i size,m=M.length→i<n→i<M.length→g t (M.getD i xt0)→(U (wlVa k (.ofNat i) n) (wlBl size n m (xtE M) (c t))).sel=some ⟨.normal,wlVa k (IntKind.i64.wrap (zA i+zA 1)) n,wlBl size n m (xtE (M.set i (w t (M.getD i xt0)))) (c t),kp3b⟩
 crefl:∀K t,WkB K (c t) (c t)
 ngone:∀t,c t≠.gone
theorem wlVa_wk{k n:Nat}{i j:Int}(h:i=j):WkL 0 (wlVa k i n) (wlVa k j n):=by
 subst h
 exact .cons Wk.int (.cons Wk.int (.cons Wk.ptr (.cons Wk.ptr .nil)))
theorem wlBl_wk{K n m:Nat}{size:Int}{e e2:Nat→List SV}{c:SB}(he:WkR K 9 m e e2)(hc:WkB K c c)(hg:c≠.gone):WkBs K (wlBl size n m e c) (wlBl size n m e2 c):=
 .cons (.lst1 (.cons Wk.int (.cons (Wk.nsl (zB _)) .nil))) (fun _=>nofun) (.cons (.row he) (fun _=>nofun) (.cons hc (fun _=>hg) .nil))
noncomputable def wlR{κ:Type}{f n0:Nat}{live:List Tmp}{ts:Ex→List Tmp}{k:Nat}{c:κ→SB}{g:κ→Xt→Prop}{w:κ→Xt→Xt}
  (B:WlOk (fun va bl=>zaJ env TWi f 506 (zaf f 506) n0 live ts 1600 va bl) k c g w) (htn:ts .normal=live) (K:Nat) (t:κ) (M:List Xt) (n:Nat) (size:Int) (hn:n≤M.length) (hl:n≤137438953472) (hg:∀i (h:i<M.length),i<n→g t M[i]) :
  za5 env TWi f 506 (zaf f 506) n0 live ts 1600 K { i:Nat // i≤n } where
 va s:=wlVa k (.ofNat s.1) n
 bl s:=wlBl size n M.length (xtE (wM (w t) M s.1)) (c t)
 μ s:=n-s.1
 out s:=⟨.exit 0,[],wlBl size n M.length (xtE (wM (w t) M n)) (c t),kp3b⟩
 tsn:=htn
 small s:=by show 3<4000;omega
 step s:=by
  obtain⟨i,hi⟩:=s
  by_cases h:i<n
  .have hlen:(wM (w t) M i).length=M.length:=wM_len (by omega)
   have ea:=wM_at (w:=w t) (M:=M) (i:=i) (by omega)
   refine⟨_,B.next t (wM (w t) M i) M.length n i size hlen.symm h (by omega) (by rw[ea];exact hg i (by omega) h),.inl ⟨rfl,⟨i+1,h⟩,wlVa_wk (zap (by omega)),?_,by show n-(i+1)<n-i;omega,rfl,rfl,rfl,rfl⟩⟩
   rw[ea,wM_step (by omega)]
   exact wlBl_wk zbq (B.crefl 0 t) (B.ngone t)
  .have e:i=n:=by omega
   subst e
   exact⟨_,B.stop t (wM (w t) M i) M.length i size,.inr ⟨by simp,rfl,.nil,wlBl_wk zbq (B.crefl K t) (B.ngone t),rfl⟩⟩
abbrev trW(s:Int)(x:Xt):Xt:=wipeX s 1099511627776 x
abbrev puW(s:Int×Int)(x:Xt):Xt:=wipeX s.1 (s.1+s.2) x
theorem tlS_eq{s:Int}(h:0≤s)(k:s≤1099511627776):tlS s=1099511627776-s:=zK _ (by simp only[zD];omega)
theorem tl_ok:WlOk tlU 1 szB (fun s x=>SmX x∧0≤s∧s≤1099511627776) trW where
 stop t M m n size:=zab (tl_stop M m n n size t) (zaa (df (by omega)) zac)
 next t M m n i size hm hi hM hg:=by
  have:=zab (tl_next M m n i size t) (zag (wlI_ok hi) (zaa (wfPre_ok hm hM hg.1 (okP_t hg.2.1 (by omega)) (by rw[tlS_eq hg.2.1 hg.2.2];exact okP_t (by omega) (by omega))) zac))
  rw[wlN_eq hm hM,tlS_eq hg.2.1 hg.2.2,show t+(1099511627776-t)=1099511627776 by omega]at this
  exact this
 crefl K t:=.lst1 (.cons Wk.int .nil)
 ngone t:=nofun
theorem pl_ok:WlOk plU 2 (fun s:Int×Int=>spB s.1 s.2) (fun s x=>SmX x∧okP s.1=true∧okP s.2=true) puW where
 stop t M m n size:=zab (pl_stop M m n n size t.1 t.2) (zaa (df (by omega)) zac)
 next t M m n i size hm hi hM hg:=by
  have:=zab (pl_next M m n i size t.1 t.2) (zag (wlI_ok hi) (zaa (wfPre_ok hm hM hg.1 hg.2.1 hg.2.2) zac))
  rw[wlN_eq hm hM]at this
  exact this
 crefl K t:=.lst1 (.cons Wk.int (.cons Wk.int .nil))
 ngone t:=nofun
structure RawV(κ:Type) where
 size:Int
 n:Nat
 q:Nat
 m:Nat
 e:Nat→List SV
 t:κ
def RawV.l{κ:Type}(r:RawV κ):List Xt:=cX.ls r.m r.e
theorem RawV.len{κ:Type}(r:RawV κ):r.l.length=r.m:=cX.ls_len
def wlPart(k:Nat)(a:List SV)(b:List SB):Option (RawV SB):=match a,b with
 | [.int .i64 _ (.ofNat 0),.int .i64 _ (.ofNat n),.ptr 0 2 _ 0 0,.ptr 2 k2 _ 0 0],[.lst 2 [[.int .i64 _ size,.nsl 1 9 _ 0 n2 z]] t0,.row 9 m e t1,c]=>
  (match zC k k2&&(zC t0 ctT&&(zC t1 xtT&&zF z 1))with|true=>some ⟨size,n,n2,m,e,c⟩|false=>none)
 | _,_=>none
def wlDec{κ:Type}(k:Nat)(cd:SB→Option κ)(a:List SV)(b:List SB):Option (RawV κ):=match wlPart k a b with
 | some r=>(match cd r.t with|some t=>some ⟨r.size,r.n,r.q,r.m,r.e,t⟩|none=>none)
 | none=>none
noncomputable def wlPre{κ:Type}(g:κ→Xt→Prop)(r:RawV κ):Bool:=zC r.n r.q&&(cX.wf r.m r.e&&(zF r.n r.m&&(zF r.n 137438953472&&tt (∀i (h:i<r.l.length),i<r.n→g r.t r.l[i]))))
noncomputable def wlG{κ:Type}(k:Nat)(cd:SB→Option κ)(c:κ→SB)(g:κ→Xt→Prop)(w:κ→Xt→Xt):=
 gLp (wlDec k cd) (wlPre g) fun q r=>⟨(.exit 0,[]),wlBl r.size r.n r.m (xtE (wM (w r.t) r.l r.n)) (c r.t),kp3b⟩
theorem wl_loop{κ:Type}{f n0:Nat}{live ws:List Tmp}{ts:Ex→List Tmp}{k:Nat}{c:κ→SB}{g:κ→Xt→Prop}{w:κ→Xt→Xt}
  (B:WlOk (fun va bl=>zaJ env TWi f 506 (zaf f 506) n0 live ts 1600 va bl) k c g w) (htn:ts .normal=live) (hts:ts (.exit 0)=[]) {cd:SB→Option κ} (hcd:∀x t,cd x=some t→WkB 0 x (c t)) (hcg:∀x t,cd x=some t→x≠.gone)
  (h1:fnOk f n0=true) (h2:atOk f 506=true) (h3:wsOk f 506 ws=true) (h4:(live.all fun t=>zE t n0)=true) (h5:n0≤100000) {F0:Fz} (hF0:∀b cs t,F0 b=some (cs,t)→t=0):SubLp F0 env spE (zaf f 506) n0 220000000000000 live ws (wlG k cd c g w):=
 zbg (ts:=ts) (TWi_ok hF0) hF0 (zaN h1 h2) (ws_ok h3) h4 h5 fun K a b r hr hp=>by
  unfold wlPre at hp
  simp only[zG]at hp
  obtain⟨q4,p1,p2,p3,p4⟩:=hp
  have q4:=zH q4
  have p2:=zL p2
  have p3:=zL p3
  have p4:=of_tt p4
  have hlen:=r.len
  unfold wlDec at hr
  split at hr
  .rename_i r1 hr1
   split at hr
   .rename_i t ht
    injection hr with hr;subst hr
    unfold wlPart at hr1
    split at hr1
    .rename_i c1 c2 n c3 k2 c4 c5 size c6 n2 z t0 m e t1 cc
     split at hr1
     .rename_i hc
      injection hr1 with hr1;subst hr1
      simp only[zG]at hc
      obtain⟨q1,q2,q3,q5⟩:=hc
      have q1:=zH q1
      have q2:=zH q2
      have q3:=zH q3
      simp only at q4
      subst q1 q2 q3 q4
      simp only at p1 p2 p3 p4 hlen ht
      refine⟨_,wlR B htn (K+1) t (RawV.l ⟨size,n,n,m,e,t⟩) n size (by omega) (by omega) p4,⟨0,zW _⟩,?_,?_,?_,?_⟩
      .show 1600*(n-0+1)≤_
       omega
      .exact .cons Wk.int (.cons Wk.int (.cons Wk.ptr (.cons Wk.ptr .nil)))
      .show WkBs 0 _ (wlBl size n (RawV.l ⟨size,n,n,m,e,t⟩).length (xtE (wM (w t) (RawV.l ⟨size,n,n,m,e,t⟩) 0)) (c t))
       rw[wM_zero,hlen]
       exact .cons (.lst1 (.cons Wk.int (.cons (Wk.nsl (zL q5)) .nil))) (fun _=>nofun) (.cons (.row (cX.wf_wk (zB 0) p1)) (fun _=>nofun) (.cons (hcd _ _ ht) (fun _=>hcg _ _ ht) .nil))
      .show(⟨(.exit 0,[]),wlBl size n m (xtE (wM (w t) (RawV.l ⟨size,n,n,m,e,t⟩) n)) (c t),kp3b⟩:Left (Ex×List (Tmp×SV)))=⟨(.exit 0,(ts (.exit 0)).zip []),wlBl size n (RawV.l ⟨size,n,n,m,e,t⟩).length (xtE (wM (w t) (RawV.l ⟨size,n,n,m,e,t⟩) n)) (c t),kp3b⟩
       rw[hlen,hts];rfl
     .cases hr1
    .cases hr1
   .cases hr
  .cases hr
noncomputable def TTl:Told:=(TWi.withL truncF 506 (zaD 220000000000000 tlLive tlWs (wlG 1 szD szB (fun s x=>SmX x∧0≤s∧s≤1099511627776) trW))).withL punchF 506 (zaD 220000000000000 plLive plWs (wlG 2 spD_ (fun s:Int×Int=>spB s.1 s.2) (fun s x=>SmX x∧okP s.1=true∧okP s.2=true) puW))
theorem TTl_ok{F0:Fz}(hF0:∀b cs t,F0 b=some (cs,t)→t=0):ToldOk F0 env spE TTl:=
 zaM (n:=44) (zaM (n:=45) (TWi_ok hF0) (by kernel_rfl) (by kernel_rfl) (wl_loop (ts:=tlTs) tl_ok rfl rfl (fun _ _=>szD_wk) (fun _ _=>szD_gone) (by kernel_rfl) (by kernel_rfl) (by kernel_rfl) (by decide) (by decide) hF0)) (by kernel_rfl) (by kernel_rfl)
  (wl_loop (ts:=plTs) pl_ok rfl rfl (fun _ _=>spD_wk) (fun _ _=>spD_gone) (by kernel_rfl) (by kernel_rfl) (by kernel_rfl) (by decide) (by decide) hF0)
noncomputable def dlT(cl k:Nat)(c:SB)(l:List Xt):RT Lf:=fnZ false env TTl dfF 90000000000000 [.nsl 0 9 false 0 l.length 1,.fn cl [] [.ptr 1 k true 0 0]] [.row 9 l.length (xtE l) xtT,c]
def RX{κ:Type}(l:List Xt)(t:κ):RawX κ:=⟨l.length,l.length,l.length,xtE l,t⟩
def RY{κ:Type}(p:κ→Xt→Bool)(l:List Xt)(t:κ):RawY κ:=⟨fstX (p t) (RX l t).l,IntKind.i64.wrap (zA (fstX (p t) (RX l t).l)+zA 1),l.length,l.length,xtE l,t⟩
def dlC(k n q:Nat):Bool:=zF (0+k) q&&zE q (0+k+(n-k))
def dlB(k n q:Nat)(b:UInt8):SV:=.int .u8 false (bif dlC k n q then zA 0 else zA b.toNat)
def dlE(M:List Xt)(k n q:Nat):List SV:=[.int .i64 false (bif dlC k n q then zA 0 else(M.getD q xt0).no),dlB k n q (M.getD q xt0).b0,dlB k n q (M.getD q xt0).b1,dlB k n q (M.getD q xt0).b2,dlB k n q (M.getD q xt0).b3,dlB k n q (M.getD q xt0).b4,dlB k n q (M.getD q xt0).b5,dlB k n q (M.getD q xt0).b6,dlB k n q (M.getD q xt0).b7]
def dlN{κ:Type}(p:κ→Xt→Bool)(l:List Xt)(t:κ):Nat:=(keepL (p t) (RY p l t).l).length
def dlM{κ:Type}(p:κ→Xt→Bool)(l:List Xt)(t:κ):List Xt:=stM (p t) (RY p l t).l l.length
noncomputable def dlH{κ:Type}(g:κ→List Xt→Prop)(g2:κ→Xt→Prop)(p:κ→Xt→Bool)(l:List Xt)(t:κ):List (Bool×Bool):=
 [(ixPre g (RX l t),true),(zE (fstX (p t) (RX l t).l) l.length,true),(false,false),(dfPre g2 p (RY p l t),true),(true,true),(zF (dlN p l t) l.length,true),(zE (dlN p l t) l.length,true),(true,true),(zF (dlN p l t) l.length,true)]
abbrev trG(s:Int)(l:List Xt):Prop:=SmallX l
abbrev trG2(s:Int)(x:Xt):Prop:=SmX x
abbrev puG(s:Int×Int)(l:List Xt):Prop:=SmallX l∧okP s.1=true∧okP s.2=true
abbrev puG2(s:Int×Int)(x:Xt):Prop:=SmX x∧okP s.1=true∧okP s.2=true
theorem dtr_no(l:List Xt)(s:Int):(dlT trC 1 (szB s) l).follow [true,false]=some ([(ixPre trG (RX l s),true),(zE (fstX (trP s) (RX l s).l) l.length,false)],⟨.ret,[.nsl 0 9 false 0 l.length 1],dfBl (szB s) l.length (xtE l),kp2⟩):=by kernel_rfl
theorem dtr_yes(l:List Xt)(s:Int):(dlT trC 1 (szB s) l).follow [true,true,false,true,true,true,true,true,true]=some (dlH trG trG2 trP l s,⟨.ret,[.nsl 0 9 false 0 (dlN trP l s) 1],dfBl (szB s) l.length (dlE (dlM trP l s) (dlN trP l s) l.length),kpB⟩):=by kernel_rfl
theorem dpu_no(l:List Xt)(s:Int×Int):(dlT puC 2 (spB s.1 s.2) l).follow [true,false]=some ([(ixPre puG (RX l (s.1,s.2)),true),(zE (fstX (puP (s.1,s.2)) (RX l (s.1,s.2)).l) l.length,false)],⟨.ret,[.nsl 0 9 false 0 l.length 1],dfBl (spB s.1 s.2) l.length (xtE l),kp2⟩):=by kernel_rfl
theorem dpu_yes(l:List Xt)(s:Int×Int):(dlT puC 2 (spB s.1 s.2) l).follow [true,true,false,true,true,true,true,true,true]=some (dlH puG puG2 puP l (s.1,s.2),⟨.ret,[.nsl 0 9 false 0 (dlN puP l (s.1,s.2)) 1],dfBl (spB s.1 s.2) l.length (dlE (dlM puP l (s.1,s.2)) (dlN puP l (s.1,s.2)) l.length),kpB⟩):=by kernel_rfl
theorem RX_l{κ:Type}(l:List Xt)(t:κ):(RX l t).l=l:=cX.ls_e 0 l
theorem RY_l{κ:Type}(p:κ→Xt→Bool)(l:List Xt)(t:κ):(RY p l t).l=l:=cX.ls_e 0 l
def delL(p:Xt→Bool)(l:List Xt):List Xt:=keepL p l++List.replicate (l.length-(keepL p l).length) xt0
theorem delL_len{p:Xt→Bool}{l:List Xt}:(delL p l).length=l.length:=by
 have:=keep_le2 (p:=p) (l:=l)
 unfold delL
 rw[zN,List.length_replicate];omega
theorem dlE_eq{p:Xt→Bool}{l:List Xt}{q:Nat}(hq:q<l.length):dlE (stM p l l.length) (keepL p l).length l.length q=xtRow ((delL p l).getD q xt0):=by
 have hk:=keep_le2 (p:=p) (l:=l)
 by_cases h:q<(keepL p l).length
 .have hc:dlC (keepL p l).length l.length q=false:=by unfold dlC;rw[ble_f (by omega)];rfl
  have e:(delL p l).getD q xt0=(stM p l l.length).getD q xt0:=by
   unfold delL stM
   rw[zP]
   simp only[zJ]
   rw[List.getElem?_append_left h,List.getElem?_append_left h]
  rw[e]
  unfold dlE dlB
  rw[hc];rfl
 .have hc:dlC (keepL p l).length l.length q=true:=by unfold dlC;rw[ble_t (by omega),blt_t (by omega)];rfl
  have e:(delL p l).getD q xt0=xt0:=by
   unfold delL
   simp only[zJ]
   rw[List.getElem?_append_right (by omega),List.getElem?_replicate]
   split<;>rfl
  rw[e]
  unfold dlE dlB
  rw[hc];rfl
structure DlOk{κ:Type}(cl k:Nat)(c:κ→SB)(g:κ→List Xt→Prop)(g2:κ→Xt→Prop)(p:κ→Xt→Bool):Prop where
 no:∀l t,(dlT cl k (c t) l).follow [true,false]=some ([(ixPre g (RX l t),true),(zE (fstX (p t) (RX l t).l) l.length,false)],⟨.ret,[.nsl 0 9 false 0 l.length 1],dfBl (c t) l.length (xtE l),kp2⟩)
 yes:∀l t,(dlT cl k (c t) l).follow [true,true,false,true,true,true,true,true,true]=some (dlH g g2 p l t,⟨.ret,[.nsl 0 9 false 0 (dlN p l t) 1],dfBl (c t) l.length (dlE (dlM p l t) (dlN p l t) l.length),kpB⟩)
 eq:∀t l,g t l→∀x∈l,g2 t x
 crefl:∀K t,WkB K (c t) (c t)
 ngone:∀t,c t≠.gone
structure RawE(κ:Type) where
 n:Nat
 m:Nat
 e:Nat→List SV
 t:κ
def RawE.l{κ:Type}(r:RawE κ):List Xt:=cX.ls r.m r.e
theorem RawE.len{κ:Type}(r:RawE κ):r.l.length=r.m:=cX.ls_len
def dlPart(cl k:Nat)(a:List SV)(b:List SB):Option (RawE SB):=match a,b with
 | [.nsl 0 9 _ 0 n z,.fn f [] [.ptr 1 k2 _ 0 0]],[.row 9 m e t1,c]=>(match zC f cl&&(zC k k2&&(zC t1 xtT&&zF z 1))with|true=>some ⟨n,m,e,c⟩|false=>none)
 | _,_=>none
def dlDec{κ:Type}(cl k:Nat)(cd:SB→Option κ)(a:List SV)(b:List SB):Option (RawE κ):=match dlPart cl k a b with
 | some r=>(match cd r.t with|some t=>some ⟨r.n,r.m,r.e,t⟩|none=>none)
 | none=>none
noncomputable def dlPre{κ:Type}(g:κ→List Xt→Prop)(r:RawE κ):Bool:=zC r.n r.m&&(zF r.n 137438953472&&(cX.wf r.m r.e&&tt (g r.t r.l)))
noncomputable def dlG{κ:Type}(cl k:Nat)(cd:SB→Option κ)(c:κ→SB)(g:κ→List Xt→Prop)(p:κ→Xt→Bool):=
 gSub (dlDec cl k cd) (dlPre g) fun q r=>⟨.nsl 0 9 false 0 (keepL (p r.t) r.l).length 1,dfBl (c r.t) r.m (xtE (delL (p r.t) r.l)),kpB⟩
theorem dl_told{κ:Type}{cl k:Nat}{c:κ→SB}{g:κ→List Xt→Prop}{g2:κ→Xt→Prop}{p:κ→Xt→Bool}(B:DlOk cl k c g g2 p){cd:SB→Option κ}(hcd:∀x t,cd x=some t→WkB 0 x (c t))(hcg:∀x t,cd x=some t→x≠.gone)
  {F0:Fz} (hF0:∀b cs t,F0 b=some (cs,t)→t=0):SubOk F0 env spE dfF 90000000000000 (dlG cl k cd c g p):=zaF (z:=false) (TTl_ok hF0) hF0 rfl fun K a b r hr hp=>by
 unfold dlPre at hp
 simp only[zG]at hp
 obtain⟨p1,p2,p3,p4⟩:=hp
 have p1:=zH p1
 have p2:=zL p2
 have p4:=of_tt p4
 have hlen:=r.len
 unfold dlDec at hr
 split at hr
 .rename_i r1 hr1
  split at hr
  .rename_i t ht
   injection hr with hr;subst hr
   unfold dlPart at hr1
   split at hr1
   .rename_i c1 n z f k2 c2 m e t1 cc
    split at hr1
    .rename_i hc
     injection hr1 with hr1;subst hr1
     simp only[zG]at hc
     obtain⟨q1,q2,q3,q5⟩:=hc
     have q1:=zH q1
     have q2:=zH q2
     have q3:=zH q3
     simp only at p1 p2 p3 p4 hlen ht
     subst q1 q2 q3 p1
     have ha:WkL 0 [SV.nsl 0 9 c1 0 n z,.fn f [] [.ptr 1 k c2 0 0]] [.nsl 0 9 false 0 (RawE.l ⟨n,n,e,t⟩).length 1,.fn f [] [.ptr 1 k true 0 0]]:=by
      rw[hlen]
      exact .cons (Wk.nsl (zL q5)) (.cons (Wk.fnc (.cons Wk.ptr .nil)) .nil)
     have hb:WkBs 0 [SB.row 9 n e xtT,cc] [.row 9 (RawE.l ⟨n,n,e,t⟩).length (xtE (RawE.l ⟨n,n,e,t⟩)) xtT,c t]:=by
      rw[hlen]
      exact .cons (.row (cX.wf_wk (zB 0) p3)) (fun _=>nofun) (.cons (hcd _ _ ht) (fun _=>hcg _ _ ht) .nil)
     have h1:ixPre g (RX (RawE.l ⟨n,n,e,t⟩) t)=true:=by
      unfold ixPre
      rw[RX_l]
      simp only[RX]
      rw[zM,show cX.wf (RawE.l ⟨n,n,e,t⟩).length (xtE (RawE.l ⟨n,n,e,t⟩))=true from wf_xt,ble_t (by omega),tt_t p4];rfl
     by_cases h:fstX (p t) (RawE.l ⟨n,n,e,t⟩)<(RawE.l ⟨n,n,e,t⟩).length
     .have eN:dlN p (RawE.l ⟨n,n,e,t⟩) t=(keepL (p t) (RawE.l ⟨n,n,e,t⟩)).length:=by unfold dlN;rw[RY_l]
      have eM:dlM p (RawE.l ⟨n,n,e,t⟩) t=stM (p t) (RawE.l ⟨n,n,e,t⟩) (RawE.l ⟨n,n,e,t⟩).length:=by unfold dlM;rw[RY_l]
      have hk:(keepL (p t) (RawE.l ⟨n,n,e,t⟩)).length<(RawE.l ⟨n,n,e,t⟩).length:=by
       have hp:p t (RawE.l ⟨n,n,e,t⟩)[fstX (p t) (RawE.l ⟨n,n,e,t⟩)]=true:=(yE _).mp (zc4 (p:=fun x=>!p t x) h)
       have:=keep_le (p:=p t) (l:=RawE.l ⟨n,n,e,t⟩) (j:=(RawE.l ⟨n,n,e,t⟩).length)
       have h3:(keepL (p t) (RawE.l ⟨n,n,e,t⟩)).length≠(RawE.l ⟨n,n,e,t⟩).length:=fun q=>by
        unfold keepL at q
        rw[List.length_filter_eq_length_iff]at q
        have:=q _ (zO h)
        rw[hp]at this
        cases this
       rw[zP]at this
       omega
      refine⟨_,_,_,ha,hb,zab (B.yes (RawE.l ⟨n,n,e,t⟩) t) ?_,?_,?_,rfl⟩
      .unfold dlH
       rw[RX_l,eN]
       refine zaa h1 (zaa (blt_t h) (zaa rfl (zaa ?_ (zaa rfl (zaa (ble_t (by omega)) (zaa (blt_t hk) (zaa rfl (zaa (ble_t (by omega)) zac))))))))
       have e0:RY p (RawE.l ⟨n,n,e,t⟩) t=⟨fstX (p t) (RawE.l ⟨n,n,e,t⟩),zA (fstX (p t) (RawE.l ⟨n,n,e,t⟩)+1),(RawE.l ⟨n,n,e,t⟩).length,(RawE.l ⟨n,n,e,t⟩).length,xtE (RawE.l ⟨n,n,e,t⟩),t⟩:=by
        unfold RY;rw[RX_l,zap (by omega)]
       have el:∀i j,RawY.l (⟨i,j,(RawE.l ⟨n,n,e,t⟩).length,(RawE.l ⟨n,n,e,t⟩).length,xtE (RawE.l ⟨n,n,e,t⟩),t⟩:RawY κ)=RawE.l ⟨n,n,e,t⟩:=fun i j=>cX.ls_e 0 _
       rw[e0]
       unfold dfPre
       rw[el]
       simp only
       rw[zM,zM,show cX.wf (RawE.l ⟨n,n,e,t⟩).length (xtE (RawE.l ⟨n,n,e,t⟩))=true from wf_xt,ble_t (by omega),blt_t h,tt_t (B.eq _ _ p4),dt trivial];rfl
      .rw[eN]
       exact .cons (Wk.nsl (zB _)) .nil
      .rw[eN,eM,hlen]
       refine .cons (.row (cX.of_row (st:=0) (l:=delL (p t) (RawE.l ⟨n,n,e,t⟩)) (zB _) fun q hq=>?_)) (fun _=>nofun) (.cons (B.crefl _ t) (fun _=>B.ngone t) .nil)
       have:=dlE_eq (p:=p t) (l:=RawE.l ⟨n,n,e,t⟩) (q:=q) (by omega)
       rw[hlen]at this
       rw[this];rfl
     .have e1:=keep_none h
      have e2:delL (p t) (RawE.l ⟨n,n,e,t⟩)=RawE.l ⟨n,n,e,t⟩:=by unfold delL;rw[e1,zS];simp
      refine⟨_,_,_,ha,hb,zab (B.no (RawE.l ⟨n,n,e,t⟩) t) (zaa h1 (zaa (by rw[RX_l,blt_f h]) zac)),?_,?_,rfl⟩
      .rw[e1]
       exact .cons (Wk.nsl (zB _)) .nil
      .show WkBs (K+1) _ (dfBl (c t) n (xtE (delL (p t) (RawE.l ⟨n,n,e,t⟩))))
       rw[e2,hlen]
       exact .cons (.row zbq) (fun _=>nofun) (.cons (B.crefl _ t) (fun _=>B.ngone t) .nil)
    .cases hr1
   .cases hr1
  .cases hr
 .cases hr
theorem subOk_or{E:Env}{sp:Sp}{F0:Fz}{f:FuncId}{c:Nat}{g1 g2:Nat→List SV→List SB→RT (Left SV)}(q:List SV→Bool)(h1:SubOk F0 E sp f c g1)(h2:SubOk F0 E sp f c g2):SubOk F0 E sp f c (gOr q g1 g2):=fun F ι k h args args' bs L b h0 H hbs hl hg=>by
 unfold gOr at hg
 split at hg
 .exact h1 F ι k h args args' bs L b h0 H hbs hl hg
 .exact h2 F ι k h args args' bs L b h0 H hbs hl hg
def isFn3(c:FuncId)(a:List SV):Bool:=match a with|[_,.fn f _ _]=>zC f c|_=>false
theorem dl_tr:DlOk trC 1 szB trG trG2 trP where
 no:=dtr_no
 yes:=dtr_yes
 eq t l h:=h
 crefl K t:=.lst1 (.cons Wk.int .nil)
 ngone t:=nofun
theorem dl_pu:DlOk puC 2 (fun s:Int×Int=>spB s.1 s.2) puG puG2 puP where
 no:=dpu_no
 yes:=dpu_yes
 eq t l h x hx:=⟨h.1 x hx,h.2⟩
 crefl K t:=.lst1 (.cons Wk.int (.cons Wk.int .nil))
 ngone t:=nofun
noncomputable def gDel:=gOr (isFn3 trC) (dlG trC 1 szD szB trG trP) (dlG puC 2 spD_ (fun s:Int×Int=>spB s.1 s.2) puG puP)
theorem del_told{F0:Fz}(hF0:∀b cs t,F0 b=some (cs,t)→t=0):SubOk F0 env spE dfF 90000000000000 gDel:=subOk_or _ (dl_told dl_tr (fun _ _=>szD_wk) (fun _ _=>szD_gone) hF0) (dl_told dl_pu (fun _ _=>spD_wk) (fun _ _=>spD_gone) hF0)
noncomputable def TDl:Told:=((TTl.withF dfF (zan 90000000000000 [] gDel)).withF mayF (zaq 20000000001000 gMay)).withF copiedF (zan 2000 [] gCop)
theorem TDl_ok{F0:Fz}(hF0:∀b cs t,F0 b=some (cs,t)→t=0):ToldOk F0 env spE TDl:=zal (za7 (zal (TTl_ok hF0) (del_told hF0)) (may_told hF0)) (cop_told hF0)
def tE{κ:Type}(l:List Xt)(t:κ):RawE κ:=⟨l.length,l.length,xtE (cX.ls l.length (xtE l)),t⟩
def tN{κ:Type}(p:κ→Xt→Bool)(l:List Xt)(t:κ):Nat:=(keepL (p t) (tE l t).l).length
def tV{κ:Type}(p:κ→Xt→Bool)(l:List Xt)(size:Int)(t:κ):RawV κ:=⟨size,tN p l t,tN p l t,l.length,xtE (delL (p t) (tE l t).l),t⟩
def tR{κ:Type}(p:κ→Xt→Bool)(w:κ→Xt→Xt)(l:List Xt)(size:Int)(t:κ)(i:Nat):List SV:=xtE (wM (w t) (tV p l size t).l (tN p l t)) (0+i)
def tMay(l:List Xt)(size:Int):Bool:=zF l.length 1099511627776&&(wfR xtOf l.length (xtE l)&&mayC size (ls1 l))
def tCop(l:List Xt):Bool:=zF l.length 1099511627776&&cX.wf l.length (xtE l)
abbrev trGx(s:Int)(x:Xt):Prop:=SmX x∧0≤s∧s≤1099511627776
noncomputable def truncT(l:List Xt)(size s:Int):RT Lf:=fnZ true env TDl truncF 340000000000000 [ctV 0 size l,.int .i64 false s] []
noncomputable def punchT(l:List Xt)(size s t:Int):RT Lf:=fnZ true env TDl punchF 340000000000000 [ctV 0 size l,.int .i64 false s,.int .i64 false t] []
theorem trunc_way(l:List Xt)(size s:Int):(truncT l size s).follow [true,false,false,true,true,true]=some ([(tMay l size,true),(decide (s<zA 0),false),(decide (s>zA 1099511627776),false),(tCop l,true),(dlPre trG (tE l s),true),(wlPre trGx (tV trP l s s),true)],
  ⟨.ret,[.tup [.agg [.int .i64 false s,.fsl 5 9 (tN trP l s) none (tR trP trW l s s)],.bool true true]],[],[]⟩):=by kernel_rfl
theorem punch_way(l:List Xt)(size s t:Int):(punchT l size s t).follow [true,true,true,true,false,true,true,true]=some ([(tMay l size,true),(decide (s≥zA 0),true),(decide (t≥zA 1),true),(decide (t≤zA 1099511627776),true),(!decide (s≤IntKind.i64.wrap (zA 1099511627776-t)),false),(tCop l,true),(dlPre puG (tE l (s,t)),true),(wlPre puG2 (tV puP l size (s,t)),true)],
  ⟨.ret,[.tup [.agg [.int .i64 false size,.fsl 5 9 (tN puP l (s,t)) none (tR puP puW l size (s,t))],.bool true true]],[],[]⟩):=by kernel_rfl
theorem tE_l{κ:Type}(l:List Xt)(t:κ):(tE l t).l=l:=by
 unfold tE RawE.l
 simp only
 rw[show cX.ls l.length (xtE l)=l from cX.ls_e 0 l]
 exact cX.ls_e 0 l
theorem tV_l{κ:Type}(p:κ→Xt→Bool)(l:List Xt)(size:Int)(t:κ):(tV p l size t).l=delL (p t) l:=by
 unfold tV RawV.l
 simp only
 rw[tE_l]
 have:=cX.ls_e 0 (delL (p t) l)
 rw[delL_len]at this
 exact this
theorem tN_eq{κ:Type}(p:κ→Xt→Bool)(l:List Xt)(t:κ):tN p l t=(keepL (p t) l).length:=by unfold tN;rw[tE_l]
theorem dlPre_ok{κ:Type}{g:κ→List Xt→Prop}{l:List Xt}{t:κ}(hl:l.length≤137438953472)(hg:g t l):dlPre g (tE l t)=true:=by
 unfold dlPre
 rw[tE_l]
 unfold tE
 simp only
 rw[zM,ble_t hl,show cX.ls l.length (xtE l)=l from cX.ls_e 0 l,show cX.wf l.length (xtE l)=true from wf_xt,tt_t hg];rfl
theorem del_at{p:Xt→Bool}{l:List Xt}{i:Nat}(h:i<(delL p l).length)(hi:i<(keepL p l).length):(delL p l)[i]=(keepL p l)[i]:=by
 unfold delL
 exact List.getElem_append_left hi
theorem wlPre_ok{κ:Type}{g:κ→Xt→Prop}{p:κ→Xt→Bool}{l:List Xt}{size:Int}{t:κ}(hl:l.length≤137438953472)(hg:∀x∈l,g t x):wlPre g (tV p l size t)=true:=by
 have hk:=keep_le2 (p:=p t) (l:=l)
 unfold wlPre
 rw[tV_l]
 unfold tV
 simp only
 rw[tN_eq,tE_l,zM,ble_t hk,ble_t (by omega)]
 have:=cX.wf_e 0 (delL (p t) l)
 rw[delL_len]at this
 rw[show cX.wf l.length (xtE (delL (p t) l))=true from this,tt_t]
 .rfl
 .intro i h hi
  rw[del_at h hi]
  exact hg _ (List.mem_filter.1 (zO hi)).1
theorem tR_eq{κ:Type}{p:κ→Xt→Bool}{w:κ→Xt→Xt}{l:List Xt}{size:Int}{t:κ}{i:Nat}(hi:i<tN p l t):tR p w l size t i=xtRow (((keepL (p t) l).map (w t)).getD i xt0):=by
 unfold tR
 rw[tV_l,tN_eq,zI]
 rw[tN_eq]at hi
 unfold xtE
 congr 1
 unfold wM delL
 rw[List.take_append_of_le_length (zB _),zP]
 simp only[zJ]
 rw[List.getElem?_append_left (by rw[zY];exact hi)]
theorem keep_tr(l:List Xt)(s:Int):(keepL (trP s) l).map (trW s)=zcT l s:=by
 unfold keepL zcT
 congr 1
 apply List.filter_congr
 intro x _
 rw[Bool.eq_iff_iff]
 simp only[Bool.not_eq_true',decide_eq_false_iff_not,decide_eq_true_eq]
 omega
theorem keep_pu(l:List Xt)(s t:Int):(keepL (puP (s,t)) l).map (puW (s,t))=zdE l s t:=rfl
theorem tMay_ok{l:List Xt}{size:Int}(h:mayC size l=true):tMay l size=true:=by
 have hC:=zaO.1 h
 have:=hC.len
 unfold tMay
 rw[ls1_eq,h,wf_xt,ble_t (by omega)];rfl
theorem tCop_ok{l:List Xt}{size:Int}(h:mayC size l=true):tCop l=true:=by
 have hC:=zaO.1 h
 have:=hC.len
 unfold tCop
 rw[ble_t (by omega),show cX.wf l.length (xtE l)=true from wf_xt];rfl
def trDecC(a:List SV)(b:List SB):Option (RawC×Int):=match a,b with
 | [v,.int .i64 _ s],[]=>(match decC v with|some c=>some (c,s)|none=>none)
 | _,_=>none
def trPre(r:RawC×Int):Bool:=r.1.wf&&(mayC r.1.size r.1.l&&(decide (0≤r.2)&&decide (r.2≤1099511627776)))
def gTrunc:=gSub trDecC trPre fun k r=>⟨.tup [ctV (k+1) r.2 (zcT r.1.l r.2),.bool true true],[],[]⟩
theorem trunc_told{F0:Fz}(hF0:∀b cs t,F0 b=some (cs,t)→t=0):SubOk F0 env spE truncF 340000000000000 gTrunc:=zaF (z:=true) (TDl_ok hF0) hF0 rfl fun K a b r hd hp=>by
 simp only[trPre,zG]at hp
 obtain⟨p1,p2,p3,p4⟩:=hp
 have p3:=of_decide_eq_true p3
 have p4:=of_decide_eq_true p4
 have hC:=zaO.1 p2
 have hlen:=hC.len
 unfold trDecC at hd
 split at hd
 .rename_i v c s
  split at hd
  .rename_i c' hc
   injection hd with hd;subst hd
   simp only at p1 p2 p3 p4 hC hlen
   refine⟨_,_,_,.cons (ct_wk (zB _) hc p1) (.cons Wk.int .nil),.nil,zab (trunc_way c'.l c'.size s) ?_,?_,.nil,rfl⟩
   .exact zaa (tMay_ok p2) (zaa (df (by simp only[zD];omega)) (zaa (df (by simp only[zD];omega)) (zaa (tCop_ok p2) (zaa (dlPre_ok (by omega) hC.smallX) (zaa (wlPre_ok (by omega) fun x hx=>⟨hC.smallX x hx,p3,p4⟩) zac)))))
   .refine .cons (.tup (.cons (.agg (.cons Wk.int (.cons ?_ .nil))) (.cons Wk.bool .nil))) .nil
    show Wk (K+1) _ (.fsl (K+1) 9 (zcT c'.l s).length none (xtE (zcT c'.l s)))
    rw[←keep_tr,zY]
    rw[tN_eq]
    refine .fsl (zB _) (.inl rfl) (cX.of_row (st:=0) (l:=(keepL (trP s) c'.l).map (trW s)) (zB _) fun q hq=>?_)
    rw[tR_eq (by rw[tN_eq];exact hq)];rfl
  .cases hd
 .cases hd
def puDecC(a:List SV)(b:List SB):Option (RawC×Int×Int):=match a,b with
 | [v,.int .i64 _ s,.int .i64 _ t],[]=>(match decC v with|some c=>some (c,s,t)|none=>none)
 | _,_=>none
def puPre(r:RawC×Int×Int):Bool:=r.1.wf&&(mayC r.1.size r.1.l&&(decide (0≤r.2.1)&&(decide (1≤r.2.2)&&decide (r.2.1+r.2.2≤1099511627776))))
def gPunch:=gSub puDecC puPre fun k r=>⟨.tup [ctV (k+1) r.1.size (zdE r.1.l r.2.1 r.2.2),.bool true true],[],[]⟩
theorem punch_told{F0:Fz}(hF0:∀b cs t,F0 b=some (cs,t)→t=0):SubOk F0 env spE punchF 340000000000000 gPunch:=zaF (z:=true) (TDl_ok hF0) hF0 rfl fun K a b r hd hp=>by
 simp only[puPre,zG]at hp
 obtain⟨p1,p2,p3,p4,p5⟩:=hp
 have p3:=of_decide_eq_true p3
 have p4:=of_decide_eq_true p4
 have p5:=of_decide_eq_true p5
 have hC:=zaO.1 p2
 have hlen:=hC.len
 unfold puDecC at hd
 split at hd
 .rename_i v c s c2 t
  split at hd
  .rename_i c' hc
   injection hd with hd;subst hd
   simp only at p1 p2 p3 p4 p5 hC hlen
   have o1:okP s=true:=okP_t p3 (by omega)
   have o2:okP t=true:=okP_t (by omega) (by omega)
   refine⟨_,_,_,.cons (ct_wk (zB _) hc p1) (.cons Wk.int (.cons Wk.int .nil)),.nil,zab (punch_way c'.l c'.size s t) ?_,?_,.nil,rfl⟩
   .refine zaa (tMay_ok p2) (zaa (dt (by simp only[zD];omega)) (zaa (dt (by simp only[zD];omega)) (zaa (dt (by simp only[zD];omega)) (zaa ?_ (zaa (tCop_ok p2) (zaa (dlPre_ok (by omega) ⟨hC.smallX,o1,o2⟩) (zaa (wlPre_ok (by omega) fun x hx=>⟨hC.smallX x hx,o1,o2⟩) zac)))))))
    rw[zK _ (by simp only[zD];omega),dt (by simp only[zD];omega)];rfl
   .refine .cons (.tup (.cons (.agg (.cons Wk.int (.cons ?_ .nil))) (.cons Wk.bool .nil))) .nil
    show Wk (K+1) _ (.fsl (K+1) 9 (zdE c'.l s t).length none (xtE (zdE c'.l s t)))
    rw[←keep_pu,zY]
    rw[tN_eq]
    refine .fsl (zB _) (.inl rfl) (cX.of_row (st:=0) (l:=(keepL (puP (s,t)) c'.l).map (puW (s,t))) (zB _) fun q hq=>?_)
    rw[tR_eq (by rw[tN_eq];exact hq)];rfl
  .cases hd
 .cases hd
abbrev zdK:FuncId:=138
def alLive:List Tmp:=[10,1,2,4]
def alTs(e:Ex):List Tmp:=match e with|.normal=>alLive|_=>[]
def alWs:List Tmp:=[29,30,31,32,33,34,35,38,39,36,37,10]
def alVa(no:Int)(pos n:Int):List SV:=[.int .i64 false no,.int .i64 false pos,.int .i64 false n,.ptr 0 2 true 0 0]
noncomputable def alU(l:List Xt)(size no pos n:Int):RT Lf:=zaJ env TN zdK 122 (zaf zdK 122) 50 alLive alTs 11000 (alVa no pos n) (ctBs 0 size l)
def alL(pos n:Int):Int:=IntKind.i64.wrap ((IntKind.i64.wrap (IntKind.i64.wrap (pos+n)-zA 1)).tdiv (zA 8))
def alD(l:List Xt)(size:Int):RawD:=⟨size,l.length,l.length,xtE l⟩
def kpN:List (Option (Nat×Bool)):=[some (0,false),none]
theorem al_stop(l:List Xt)(size no pos n:Int):(alU l size no pos n).follow [false]=some ([(decide (no≤alL pos n),false)],⟨.exit 0,[],ctBs 0 size l,kp2⟩):=by kernel_rfl
theorem al_next(l:List Xt)(size no pos n:Int):(alU l size no pos n).follow [true,true]=some ([(decide (no≤alL pos n),true),(ndPre (alD l size,no),true)],⟨.normal,alVa (IntKind.i64.wrap (no+zA 1)) pos n,ctBs 1 size (needX (alD l size).l no),kpN⟩):=by kernel_rfl
theorem alD_l(l:List Xt)(size:Int):(alD l size).l=l:=cX.ls_e 0 l
theorem alD_wf(l:List Xt)(size:Int):(alD l size).wf=true:=by
 unfold RawD.wf alD
 simp only
 rw[zM,show cX.wf l.length (xtE l)=true from wf_xt];rfl
theorem alloc_succ:∀(k:Nat) (l:List Xt) (no:Int),zbi l no (k+1)=needX (zbi l no k) (no+k)
 | 0,l,no=>by show needX l no=needX l (no+(0:Nat));rw[show no+((0:Nat):Int)=no by omega]
 | k+1,l,no=>by
  show zbi (needX l no) (no+1) (k+1)=needX (zbi (needX l no) (no+1) k) _
  rw[alloc_succ k,show no+1+(k:Int)=no+((k+1:Nat):Int) by omega]
def DirA(l:List Xt)(no:Int)(cnt:Nat):Prop:=∀k,k<cnt→dirN (zbi l no k) (no+k)=true
theorem alL_eq{p m:Nat}(h1:1≤m)(h:p+m≤1099511627776):alL (.ofNat p) (.ofNat m)=zA ((p+m-1) / 8):=by
 unfold alL
 have e1:IntKind.i64.wrap (zA p+zA m)=zA (p+m):=zK _ (by simp only[zD];omega)
 have e2:IntKind.i64.wrap (zA (p+m)-zA 1)=zA (p+m-1):=by
  rw[zK _ (by simp only[zD];omega)]
  simp only[zD];omega
 rw[e1,e2]
 show IntKind.i64.wrap (zA ((p+m-1) / 8))=_
 exact zK _ (by simp only[zD];omega)
theorem alVa_wk{pos n no no2:Int}(h:no=no2):WkL 0 (alVa no pos n) (alVa no2 pos n):=by
 subst h
 exact .cons Wk.int (.cons Wk.int (.cons Wk.int (.cons Wk.ptr .nil)))
noncomputable def alR(K:Nat)(l:List Xt)(size:Int)(p m:Nat)(h1:1≤m)(h:p+m≤1099511627776)(hC:OkC size l)(hD:DirA l (.ofNat (p / 8)) ((p+m-1) / 8+1-p / 8)) :
  za5 env TN zdK 122 (zaf zdK 122) 50 alLive alTs 11000 K { k:Nat // k≤(p+m-1) / 8+1-p / 8 } where
 va s:=alVa (.ofNat (p / 8+s.1)) (.ofNat p) (.ofNat m)
 bl s:=ctBs 0 size (zbi l (.ofNat (p / 8)) s.1)
 μ s:=(p+m-1) / 8+1-p / 8-s.1
 out s:=⟨.exit 0,[],ctBs K size (zbi l (.ofNat (p / 8)) ((p+m-1) / 8+1-p / 8)),kpN⟩
 tsn:=rfl
 small s:=by show 2<4000;omega
 step s:=by
  obtain⟨k,hk⟩:=s
  have eL:=alL_eq h1 h
  have ok:OkC size (zbi l (.ofNat (p / 8)) k):=alloc_ok hC (by simp only[zD];omega) (by simp only[zD];omega)
  by_cases hq:k<(p+m-1) / 8+1-p / 8
  .refine⟨_,zab (al_next (zbi l (.ofNat (p / 8)) k) size (.ofNat (p / 8+k)) (.ofNat p) (.ofNat m)) (zaa ?_ (zaa ?_ zac)),.inl ⟨rfl,⟨k+1,hq⟩,alVa_wk (zap (by omega)),?_,by show(p+m-1) / 8+1-p / 8-(k+1)<(p+m-1) / 8+1-p / 8-k;omega,rfl,rfl,rfl,rfl⟩⟩
   .rw[eL];exact dt (by simp only[zD];omega)
   .unfold ndPre
    rw[alD_l,alD_wf]
    simp only[alD]
    have:=ok.len
    have hd:=hD k hq
    rw[ble_t (by omega),tt_t ok.srt,show zA (p / 8+k)=zA (p / 8)+(k:Int) by simp only[zD];omega,hd];rfl
   .rw[alD_l]
    show WkBs 0 _ (ctBs 0 size (zbi l (.ofNat (p / 8)) (k+1)))
    rw[alloc_succ,show zA (p / 8)+(k:Int)=zA (p / 8+k) by simp only[zD];omega]
    exact ctBs_refl (zB _)
  .have e:k=(p+m-1) / 8+1-p / 8:=by omega
   subst e
   refine⟨_,zab (al_stop (zbi l (.ofNat (p / 8)) ((p+m-1) / 8+1-p / 8)) size (.ofNat (p / 8+((p+m-1) / 8+1-p / 8))) (.ofNat p) (.ofNat m)) (zaa (by rw[eL];exact df (by simp only[zD];omega)) zac),.inr ⟨by simp,rfl,.nil,ctBs_refl (zB _),rfl⟩⟩
structure RawA where
 no:Int
 pos:Int
 n:Int
 d:RawD
def alDec(a:List SV)(b:List SB):Option RawA:=match a with
 | [.int .i64 _ no,.int .i64 _ pos,.int .i64 _ n,.ptr 0 2 _ 0 0]=>(match decD b with|some d=>some ⟨no,pos,n,d⟩|none=>none)
 | _=>none
def cntA(pos n:Int):Nat:=(pos.toNat+n.toNat-1) / 8+1-pos.toNat / 8
def okA(pos n:Int):Bool:=decide (0≤pos)&&(decide (1≤n)&&(decide (pos+n≤1099511627776)&&decide (n≤32768)))
theorem okA_of{pos n:Int}(h:okA pos n=true):0≤pos∧1≤n∧pos+n≤1099511627776∧n≤32768:=by
 unfold okA at h
 simp only[zG,decide_eq_true_eq]at h
 exact h
noncomputable def alPre(r:RawA):Bool:=r.d.wf&&(okA r.pos r.n&&(decide (r.no=zA (r.pos.toNat / 8))&&tt (OkC r.d.size r.d.l∧DirA r.d.l (.ofNat (r.pos.toNat / 8)) (cntA r.pos r.n))))
def alX(l:List Xt)(pos n:Int):List Xt:=zbi l (.ofNat (pos.toNat / 8)) (cntA pos n)
noncomputable def alG:=gLp alDec alPre fun k r=>⟨(.exit 0,[]),ctBs (k+1) r.d.size (alX r.d.l r.pos r.n),kpN⟩
theorem al_loop{F0:Fz}(hF0:∀b cs t,F0 b=some (cs,t)→t=0):SubLp F0 env spE (zaf zdK 122) 50 50000000 alLive alWs alG:=
 zbg (ts:=alTs) (TN_ok hF0) hF0 (zaN (n:=50) (by kernel_rfl) (by kernel_rfl)) (ws_ok (by kernel_rfl)) (by decide) (by decide) fun K a b r hr hp=>by
  unfold alPre at hp
  simp only[zG]at hp
  obtain⟨p1,p2,p3,p4⟩:=hp
  obtain⟨a1,a2,a3,a4⟩:=okA_of p2
  have p3:=of_decide_eq_true p3
  obtain⟨p4,p5⟩:=of_tt p4
  unfold alDec at hr
  split at hr
  .rename_i c1 no c2 pos c3 n c4
   split at hr
   .rename_i d hd
    injection hr with hr;subst hr
    simp only at p1 a1 a2 a3 a4 p3 p4 p5
    have e1:zA pos.toNat=pos:=by simp only[zD];omega
    have e2:zA n.toNat=n:=by simp only[zD];omega
    refine⟨_,alR (K+1) d.l d.size pos.toNat n.toNat (by omega) (by omega) p4 p5,⟨0,zW _⟩,?_,?_,?_,rfl⟩
    .show 11000*((pos.toNat+n.toNat-1) / 8+1-pos.toNat / 8-0+1)≤_
     omega
    .show WkL 0 _ (alVa (.ofNat (pos.toNat / 8+0)) (.ofNat pos.toNat) (.ofNat n.toNat))
     rw[e1,e2,Nat.add_zero,←p3]
     exact .cons Wk.int (.cons Wk.int (.cons Wk.int (.cons Wk.ptr .nil)))
    .exact decD_wk (zB _) hd p1
   .cases hr
  .cases hr
noncomputable def TAl:Told:=TN.withL zdK 122 (zaD 50000000 alLive alWs alG)
theorem TAl_ok{F0:Fz}(hF0:∀b cs t,F0 b=some (cs,t)→t=0):ToldOk F0 env spE TAl:=zaM (n:=50) (TN_ok hF0) (by kernel_rfl) (by kernel_rfl) (al_loop hF0)
noncomputable def allocT(l:List Xt)(size pos n:Int)(keep:Bool):RT Lf:=fnZ true env TAl zdK 20000100000000 [ctV 0 size l,.int .i64 false pos,.int .i64 false n,.bool false keep] []
def aA(l:List Xt)(size pos n:Int):RawA:=⟨IntKind.i64.wrap (pos.tdiv (zA 8)),pos,n,⟨size,l.length,l.length,xtE (cX.ls l.length (xtE l))⟩⟩
def aR(l:List Xt)(size pos n:Int)(i:Nat):List SV:=xtE (alX (aA l size pos n).d.l pos n) (0+i)
def aN(l:List Xt)(size pos n:Int):Nat:=(alX (aA l size pos n).d.l pos n).length
noncomputable def aH(l:List Xt)(size pos n:Int):List (Bool×Bool):=[(tMay l size,true),(decide (pos≥zA 0),true),(decide (n≥zA 1),true),(decide (n≤zA 1099511627776),true),(!decide (pos≤IntKind.i64.wrap (zA 1099511627776-n)),false),(decide (n>zA 32768),false),(tCop l,true),(alPre (aA l size pos n),true)]
theorem alloc_grow(l:List Xt)(size pos n:Int)(keep:Bool):(allocT l size pos n keep).follow [true,true,true,true,false,false,true,true,true]=some (aH l size pos n++[(!keep,true)],
  ⟨.ret,[.tup [.agg [.int .i64 false (mxI size (IntKind.i64.wrap (pos+n))),.fsl 4 9 (aN l size pos n) none (aR l size pos n)],.bool true true]],[],[]⟩):=by kernel_rfl
theorem alloc_keep(l:List Xt)(size pos n:Int)(keep:Bool):(allocT l size pos n keep).follow [true,true,true,true,false,false,true,true,false]=some (aH l size pos n++[(!keep,false)],
  ⟨.ret,[.tup [.agg [.int .i64 false size,.fsl 4 9 (aN l size pos n) none (aR l size pos n)],.bool true true]],[],[]⟩):=by kernel_rfl
theorem aA_l(l:List Xt)(size pos n:Int):(aA l size pos n).d.l=l:=by
 unfold aA RawD.l
 simp only
 rw[show cX.ls l.length (xtE l)=l from cX.ls_e 0 l]
 exact cX.ls_e 0 l
structure RawG where
 c:RawC
 pos:Int
 n:Int
 keep:Bool
def aDec(a:List SV)(b:List SB):Option RawG:=match a,b with
 | [v,.int .i64 _ pos,.int .i64 _ n,.bool _ keep],[]=>(match decC v with|some c=>some ⟨c,pos,n,keep⟩|none=>none)
 | _,_=>none
noncomputable def aPre(r:RawG):Bool:=r.c.wf&&(mayC r.c.size r.c.l&&(okA r.pos r.n&&tt (DirA r.c.l (.ofNat (r.pos.toNat / 8)) (cntA r.pos r.n))))
def szA(size pos n:Int)(keep:Bool):Int:=match keep with|true=>size|false=>max size (pos+n)
noncomputable def gAlloc:=gSub aDec aPre fun k r=>⟨.tup [ctV (k+1) (szA r.c.size r.pos r.n r.keep) (alX r.c.l r.pos r.n),.bool true true],[],[]⟩
theorem alloc_told{F0:Fz}(hF0:∀b cs t,F0 b=some (cs,t)→t=0):SubOk F0 env spE zdK 20000100000000 gAlloc:=zaF (z:=true) (TAl_ok hF0) hF0 rfl fun K a b r hd hp=>by
 simp only[aPre,zG]at hp
 obtain⟨p1,p2,p3,p4⟩:=hp
 obtain⟨a1,a2,a3,a4⟩:=okA_of p3
 have p4:=of_tt p4
 have hC:=zaO.1 p2
 have hlen:=hC.len
 unfold aDec at hd
 split at hd
 .rename_i v c1 pos c2 n c3 keep
  split at hd
  .rename_i c' hc
   injection hd with hd;subst hd
   simp only at p1 p2 p3 p4 a1 a2 a3 a4 hC hlen
   have e1:IntKind.i64.wrap (pos.tdiv (zA 8))=zA (pos.toNat / 8):=by
    have:pos=zA pos.toNat:=by simp only[zD];omega
    rw[this]
    show IntKind.i64.wrap (zA (pos.toNat / 8))=_
    exact zK _ (by simp only[zD];omega)
   have hH:eqs_ (aH c'.l c'.size pos n)=true:=by
    unfold aH
    refine zaa (tMay_ok p2) (zaa (dt (by simp only[zD];omega)) (zaa (dt (by simp only[zD];omega)) (zaa (dt (by simp only[zD];omega)) (zaa ?_ (zaa (df (by simp only[zD];omega)) (zaa (tCop_ok p2) (zaa ?_ zac)))))))
    .rw[zK _ (by simp only[zD];omega),dt (by simp only[zD];omega)];rfl
    .unfold alPre
     rw[aA_l]
     have hw:(aA c'.l c'.size pos n).d.wf=true:=by
      unfold aA RawD.wf
      simp only
      rw[zM,show cX.ls c'.l.length (xtE c'.l)=c'.l from cX.ls_e 0 _,show cX.wf c'.l.length (xtE c'.l)=true from wf_xt];rfl
     rw[hw]
     simp only[aA]
     rw[p3,tt_t ⟨hC,p4⟩,Bool.true_and,Bool.true_and,Bool.and_true]
     exact decide_eq_true e1
   have hrow:∀ {st:Nat},K+1≤st→Wk (K+1) (.fsl 4 9 (aN c'.l c'.size pos n) none (aR c'.l c'.size pos n)) (.fsl st 9 (alX c'.l pos n).length none (xtE (alX c'.l pos n))):=fun hst=>by
    unfold aN
    rw[aA_l]
    refine .fsl hst (.inl rfl) (cX.of_row (st:=0) (l:=alX c'.l pos n) hst fun q hq=>?_)
    unfold aR
    rw[aA_l,zI];rfl
   cases keep with
   | true=>
    exact⟨_,_,_,.cons (ct_wk (zB _) hc p1) (.cons Wk.int (.cons Wk.int (.cons Wk.bool .nil))),.nil,zab (alloc_keep c'.l c'.size pos n true) (zag hH (zaa rfl zac)),.cons (.tup (.cons (.agg (.cons Wk.int (.cons (hrow (zB _)) .nil))) (.cons Wk.bool .nil))) .nil,.nil,rfl⟩
   | false=>
    refine⟨_,_,_,.cons (ct_wk (zB _) hc p1) (.cons Wk.int (.cons Wk.int (.cons Wk.bool .nil))),.nil,zab (alloc_grow c'.l c'.size pos n false) (zag hH (zaa rfl zac)),.cons (.tup (.cons (.agg (.cons (.int_eq ?_) (.cons (hrow (zB _)) .nil))) (.cons Wk.bool .nil))) .nil,.nil,rfl⟩
    rw[mxI_eq,zK _ (by omega)];rfl
  .cases hd
 .cases hd
abbrev hasF:FuncId:=112
noncomputable def hasT(l:List Xt)(size no:Int):RT Lf:=fnT env TX hasF 40000000100000 [ctV 0 size l,.int .i64 false no] []
def hasX(no:Int)(l:List Xt):Bool:=zE (fstX (haP no) l) l.length
abbrev haG(s:Int)(l:List Xt):Prop:=True
theorem has_yes(l:List Xt)(size no:Int):(hasT l size no).follow [true,true]=some ([(ixPre haG (RX l no),true),(zE (fstX (haP no) (RX l no).l) l.length,true)],⟨.ret,[.bool false true],[],[]⟩):=by kernel_rfl
theorem has_no(l:List Xt)(size no:Int):(hasT l size no).follow [true,false]=some ([(ixPre haG (RX l no),true),(zE (fstX (haP no) (RX l no).l) l.length,false)],⟨.ret,[.bool true false],[],[]⟩):=by kernel_rfl
def hasDec(a:List SV):Option (RawC×Int):=match a with
 | [v,.int .i64 _ s]=>(match decC v with|some c=>some (c,s)|none=>none)
 | _=>none
def hasPre(r:RawC×Int):Bool:=r.1.wf&&zF r.1.l.length 137438953472
def gHas:=gPl hasDec hasPre fun r=>.bool false (hasX r.2 r.1.l)
theorem has_told{F0:Fz}(hF0:∀b cs t,F0 b=some (cs,t)→t=0):zaA F0 env spE hasF 40000000100000 gHas:=za6 (TX_ok hF0) hF0 rfl fun K a r hd hp=>by
 simp only[hasPre,zG]at hp
 obtain⟨p1,p2⟩:=hp
 have p2:=zL p2
 unfold hasDec at hd
 split at hd
 .rename_i v c s
  split at hd
  .rename_i c' hc
   injection hd with hd;subst hd
   simp only at p1 p2
   have h1:ixPre haG (RX c'.l s)=true:=by
    unfold ixPre
    rw[RX_l]
    simp only[RX]
    rw[zM,show cX.wf c'.l.length (xtE c'.l)=true from wf_xt,ble_t p2,tt_t trivial];rfl
   cases hb:hasX s c'.l with
   | true=>exact⟨_,_,.cons (ct_wk (zB _) hc p1) (.cons Wk.int .nil),zab (has_yes c'.l c'.size s) (zaa h1 (zaa (by rw[RX_l];exact hb) zac)),.cons Wk.bool .nil⟩
   | false=>exact⟨_,_,.cons (ct_wk (zB _) hc p1) (.cons Wk.int .nil),zab (has_no c'.l c'.size s) (zaa h1 (zaa (by rw[RX_l];exact hb) zac)),.cons Wk.bool .nil⟩
  .cases hd
 .cases hd
noncomputable def TZ:Told:=(((TIm.withF writeF (zan 20000000100000 [] gWrite)).withF truncF (zan 340000000000000 [] gTrunc)).withF zdK (zan 20000100000000 [] gAlloc)).withF punchF (zan 340000000000000 [] gPunch)
theorem TZ_ok{F0:Fz}(hF0:∀b cs t,F0 b=some (cs,t)→t=0):ToldOk F0 env spE TZ:=
 zal (zal (zal (zal (TIm_ok hF0) (write_told hF0)) (trunc_told hF0)) (alloc_told hF0)) (punch_told hF0)
abbrev applyF:FuncId:=55
noncomputable def apT(I:Img)(o:Opn):RT Lf:=fnZ true env TZ applyF 800000000000000 [imV 0 I,.agg (opRow 0 o)] []
def rQ(I:Img):RawI:=⟨(I.names.length,none,fun i=>nmRow (I.names.getD (0+i) nm0)),(I.nodes.length,none,fun i=>ndRow 1 (I.nodes.getD (0+i) nd0))⟩
noncomputable def apH(I:Img):List (Bool×Bool):=[((rI I).wf&&tt (FitI (imQ I)),true),((rQ (imQ I)).wf&&tt (MayI (rQ (imQ I)).I),true)]
def apL(I:Img)(o:Opn):Nat:=lowI (rQ (imQ I)).I.nodes o.ino
def apN(I:Img)(o:Opn):Nd:=(imQ I).nodes.getD (0+apL I o) nd0
noncomputable def apJ(I:Img)(o:Opn):List (Bool×Bool):=[((rQ (imQ I)).wf&&(zF (rQ (imQ I)).I.nodes.length 1099511627776&&tt (Mono (ltI o.ino) (rQ (imQ I)).I.nodes)),true),(!hasI (rQ (imQ I)).I.nodes o.ino,false),(true,true),(zE (apL I o) (imQ I).nodes.length,true)]
def apK(I:Img)(o:Opn):List (Bool×Bool):=[(true,true),(zE (apL I o) (imQ I).nodes.length,true)]
def apRow(I:Img)(o:Opn)(st:Nat)(c:Int×List Xt)(i:Nat):List SV:=muxR 3 (zC (0+i) (0+apL I o)) (ndRow st ⟨((imQ I).nodes.getD (0+i) nd0).ino,c.1,c.2⟩) (ndRow 1 ((imQ I).nodes.getD (0+i) nd0))
def apOut(I:Img)(o:Opn)(a b st:Nat)(c:Int×List Xt):Lf:=⟨.ret,[.agg [.fsl a 2 (imQ I).names.length none (fun i=>nmRow ((imQ I).names.getD (0+i) nm0)),.fsl b 3 (imQ I).nodes.length none (apRow I o st c)]],[],[]⟩
def apC(I:Img)(o:Opn):RawC:=⟨(apN I o).size,((apN I o).l.length,none,xtE (apN I o).l)⟩
def apW(I:Img)(o:Opn):RawW:=⟨apC I o,o.pos,(o.b.length,none,byE o.b)⟩
def apA(I:Img)(o:Opn):RawG:=⟨apC I o,o.pos,o.size,o.keep⟩
def kE(o:Opn)(k:Nat):Bool:=o.kind==zA k
theorem ap_write(I:Img)(o:Opn):(apT I o).follow [true,true,false,true,true,true,false,true,true,true,true,true,true]=some (apH I++[(kE o 1,false),(kE o 2,true),(kE o 2,true)]++apJ I o++[(kE o 2,true),(wrPre (apW I o),true)]++apK I o,
  apOut I o 5 6 4 (max (apC I o).size (o.pos+(o.b.length:Nat)),zbN (apC I o).l o.pos.toNat (apW I o).b)):=by kernel_rfl
theorem ap_trunc(I:Img)(o:Opn):(apT I o).follow [true,true,false,false,true,true,true,false,true,true,false,true,true,true,true]=some (apH I++[(kE o 1,false),(kE o 2,false),(kE o 3,true),(kE o 3,true)]++apJ I o++[(kE o 2,false),(kE o 3,true),(trPre (apC I o,o.size),true)]++apK I o,
  apOut I o 5 6 4 (o.size,zcT (apC I o).l o.size)):=by kernel_rfl
theorem ap_alloc(I:Img)(o:Opn):(apT I o).follow [true,true,false,false,false,true,true,true,false,true,true,false,false,true,true,true,true]=some (apH I++[(kE o 1,false),(kE o 2,false),(kE o 3,false),(kE o 4,true),(kE o 4,true)]++apJ I o++[(kE o 2,false),(kE o 3,false),(kE o 4,true),(aPre (apA I o),true)]++apK I o,
  apOut I o 5 6 4 (szA (apC I o).size o.pos o.size o.keep,alX (apC I o).l o.pos o.size)):=by kernel_rfl
theorem ap_punch(I:Img)(o:Opn):(apT I o).follow [true,true,false,false,false,false,true,true,false,true,true,false,false,false,true,true,true,true]=some (apH I++[(kE o 1,false),(kE o 2,false),(kE o 3,false),(kE o 4,false),(kE o 5,true)]++apJ I o++[(kE o 2,false),(kE o 3,false),(kE o 4,false),(kE o 5,true),(puPre (apC I o,o.pos,o.size),true)]++apK I o,
  apOut I o 5 6 4 ((apC I o).size,zdE (apC I o).l o.pos o.size)):=by kernel_rfl
def apS(I:Img)(o:Opn):Nat:=lowS (rQ (imQ I)).I.names o.name
noncomputable def apG(I:Img)(o:Opn):List (Bool×Bool):=[((rQ (imQ I)).wf&&(zF (rQ (imQ I)).I.names.length 1099511627776&&tt (Mono (ltN o.name) (rQ (imQ I)).I.names)),true),((rQ (imQ I)).wf&&(zF (rQ (imQ I)).I.nodes.length 1099511627776&&tt (Mono (ltI o.ino) (rQ (imQ I)).I.nodes)),true),
 (hasS (rQ (imQ I)).I.names o.name,false),(hasI (rQ (imQ I)).I.nodes o.ino,false),(zbJ o.name,true),(decide (o.ino<zA 1),false),(decide (o.ino>zA 4611686018427387904),false),(decide (zA (imQ I).names.length≥zA 16),false)]
def apE(a n k:Nat):List (Bool×Bool):=[(true,true),(zF a n,true),(zE a n,false),(zA a==zA n,true),(zF ((n+1)*k) 140737488355328&&zF (n+1) 9223372036854775807,true)]
def apNm(I:Img)(o:Opn)(i:Nat):List SV:=muxR 2 (zE (0+i) (imQ I).names.length) (nmRow ((imQ I).names.getD (0+(0+i)) nm0)) (nmRow ⟨o.name,o.ino⟩)
def apNd(I:Img)(o:Opn)(i:Nat):List SV:=muxR 3 (zE (0+i) (imQ I).nodes.length) (ndRow 1 ((imQ I).nodes.getD (0+(0+i)) nd0)) [.int .i64 false o.ino,.int .i64 true 0,.raw (.slice none 0 0)]
theorem ap_create(I:Img)(o:Opn):(apT I o).follow [true,true,true,true,true,false,false,true,false,false,false,true,true,false,true,true,true,true,false,true,true]=some (apH I++[(kE o 1,true)]++apG I o++apE (apS I o) (imQ I).names.length 24++apE (apL I o) (imQ I).nodes.length 40,
  ⟨.ret,[.agg [.fsl 6 2 ((imQ I).names.length+1) none (apNm I o),.fsl 7 3 ((imQ I).nodes.length+1) none (apNd I o)]],[],[]⟩):=by kernel_rfl
theorem rQ_eq(I:Img):rQ (imQ I)=RawI.mk (I.names.length,none,cNm.e 1 I.names) (I.nodes.length,none,cNd.e 1 I.nodes):=by
 rw[za2]
 unfold rQ
 congr 1
 .congr 2;funext i;rw[zI];rfl
 .congr 2;funext i;rw[zI];rfl
theorem rQ_I(I:Img):(rQ (imQ I)).I=I:=by rw[rQ_eq];exact I_imV 1 I
theorem rQ_wf(I:Img):(rQ (imQ I)).wf=true:=by rw[rQ_eq];exact wf_imV 1 I
theorem apH_ok{I:Img}(h:MayI I):eqs_ (apH I)=true:=by
 unfold apH
 rw[rQ_I,rQ_wf,za2,rI_wf,tt_t h,tt_t h.fit];rfl
theorem apL_eq(I:Img)(o:Opn):apL I o=lowI I.nodes o.ino:=by unfold apL;rw[rQ_I]
theorem apJ_ok{I:Img}{o:Opn}(h:MayI I)(hi:hasI I.nodes o.ino=true):eqs_ (apJ I o)=true:=by
 obtain⟨h1,_⟩:=zcJ hi
 unfold apJ
 rw[rQ_I,rQ_wf,apL_eq,za2,tt_t (nodes_mono h.rise),ble_t (show I.nodes.length≤1099511627776 by have:=h.fit.m;omega),hi,blt_t h1];rfl
theorem apK_ok{I:Img}{o:Opn}(hi:hasI I.nodes o.ino=true):eqs_ (apK I o)=true:=by
 obtain⟨h1,_⟩:=zcJ hi
 unfold apK
 rw[apL_eq,za2,blt_t h1];rfl
theorem apN_eq{I:Img}{o:Opn}(hi:hasI I.nodes o.ino=true):∃h:lowI I.nodes o.ino<I.nodes.length,apN I o=I.nodes[lowI I.nodes o.ino]:=by
 obtain⟨h1,_⟩:=zcJ hi
 refine⟨h1,?_⟩
 unfold apN
 rw[apL_eq,za2,zI]
 exact zaI h1
theorem contI_eq{I:Img}{o:Opn}(hi:hasI I.nodes o.ino=true):contI I o.ino=((apN I o).size,(apN I o).l):=by
 unfold contI apN
 rw[hi,apL_eq,za2,zI]
theorem apC_l(I:Img)(o:Opn):(apC I o).l=(apN I o).l:=cX.ls_e 0 _
theorem apC_wf{I:Img}{o:Opn}{size:Int}(h:OkC size (apN I o).l):(apC I o).wf=true:=by
 have:=h.len
 unfold RawC.wf apC
 simp only
 rw[ble_t (by omega)]
 exact wf_xt
theorem apW_b(I:Img)(o:Opn):(apW I o).b=o.b:=cB.ls_e 0 _
theorem nd_set{l:List Nd}{i:Nat}{y:Nd}(q:Nat)(hi:i<l.length):(l.set i y).getD q nd0=(bif zC q i then y else l.getD q nd0):=by
 simp only[zJ,List.getElem?_set]
 cases hb:zC q i with
 | true=>
  have:=zH hb
  subst this
  simp[hi]
 | false=>
  have hne:¬i=q:=fun e=>by subst e;simp at hb
  rw[if_neg hne]
  rfl
theorem ap_out{K a b:Nat}{I:Img}{o:Opn}(hi:hasI I.nodes o.ino=true)(c:Int×List Xt):WkL (K+1) (apOut I o a b 4 c).vs [imV (K+1) (setI I o.ino c.1 c.2)]:=by
 obtain⟨h1,_⟩:=zcJ hi
 unfold apOut
 simp only
 rw[za2]
 refine .cons (.agg (.cons ?_ (.cons ?_ .nil))) .nil
 .refine .fsl (zB _) (.inl rfl) (cNm.of_row (st:=0) (l:=I.names) (zB _) fun i _=>by rw[zI];rfl)
 .have hl:(setI I o.ino c.1 c.2).nodes.length=I.nodes.length:=by unfold setI;simp
  rw[hl]
  refine .fsl (zB _) (.inl rfl) ?_
  refine cNd.of_mux (e:=apRow I o 4 c) (st:=4) (st1:=1) (l:=(setI I o.ino c.1 c.2).nodes) (zB _) (fun i=>zC (0+i) (0+apL I o)) (fun i=>⟨(I.nodes.getD (0+i) nd0).ino,c.1,c.2⟩) (fun i=>I.nodes.getD (0+i) nd0) (fun i _=>by unfold apRow;rw[za2];rfl) fun i hlt=>?_
  rw[zI,zI,apL_eq]
  unfold setI
  simp only
  show zJ _ i nd0=_
  rw[nd_set i h1]
  cases hb:zC i (lowI I.nodes o.ino)with
  | true=>rw[zH hb]
  | false=>rfl
structure ApC1(I:Img)(o:Opn):Prop where
 s:hasS I.names o.name=false
 i:hasI I.nodes o.ino=false
 nm:zbJ o.name=true
 lo:1≤o.ino
 hi:o.ino≤4611686018427387904
 few:I.names.length<16
 ls:lowS I.names o.name=I.names.length
 li:lowI I.nodes o.ino=I.nodes.length
def okW(o:Opn)(l:List Xt):Prop:=0≤o.pos∧dirW l o.pos.toNat o.b.length=true
def okT(o:Opn):Prop:=0≤o.size∧o.size≤1099511627776
def okL(o:Opn)(l:List Xt):Prop:=okA o.pos o.size=true∧DirA l (.ofNat (o.pos.toNat / 8)) (cntA o.pos o.size)
def okU(o:Opn):Prop:=0≤o.pos∧1≤o.size∧o.pos+o.size≤1099511627776
structure ApOk(I:Img)(o:Opn):Prop where
 k:1≤o.kind∧o.kind≤5
 c:o.kind=1→ApC1 I o
 h:o.kind≠1→hasI I.nodes o.ino=true
 w:o.kind=2→okW o (contI I o.ino).2
 t:o.kind=3→okT o
 l:o.kind=4→okL o (contI I o.ino).2
 u:o.kind=5→okU o
theorem kE_t{o:Opn}{k:Nat}(h:o.kind=zA k):kE o k=true:=by unfold kE;rw[h];exact beq_self_eq_true _
theorem kE_f{o:Opn}{k:Nat}(h:o.kind≠zA k):kE o k=false:=by unfold kE;exact beq_eq_false_iff_ne.2 h
theorem zbT{I:Img}{o:Opn}(h1:2≤o.kind)(h2:o.kind≤5)(hi:hasI I.nodes o.ino=true){c:Int×List Xt}(hc:zbs o (contI I o.ino).1 (contI I o.ino).2=some c):zaL I o=setI I o.ino c.1 c.2:=by
 unfold zaL
 rw[df (by omega),dt h1,dt h2,hi,hc];rfl
structure RawO where
 kind:Int
 ino:Int
 pos:Int
 size:Int
 keep:Bool
 name:List UInt8
 to:List UInt8
 b:Sl
def RawO.o(r:RawO):Opn:=⟨r.kind,r.ino,r.pos,r.size,r.keep,r.name,r.to,cB.ls r.b.1 r.b.2.2⟩
def RawO.wf(r:RawO):Bool:=cB.wf r.b.1 r.b.2.2
def decO(l:List SV):Option RawO:=match l with
 | [.int .i64 _ kind,.int .i64 _ ino,.int .i64 _ pos,.int .i64 _ size,.bool _ keep,.str _ name,.str _ to,x]=>(match slR 1 x with|some s=>some ⟨kind,ino,pos,size,keep,name,to,s⟩|none=>none)
 | _=>none
theorem decO_wk{K st:Nat}(hs:K≤st){l:List SV}{r:RawO}(hd:decO l=some r)(hw:r.wf=true):WkL K l (opRow st r.o):=by
 unfold decO at hd
 split at hd
 .split at hd
  .rename_i h
   injection hd with hd;subst hd
   exact .cons Wk.int (.cons Wk.int (.cons Wk.int (.cons Wk.int (.cons Wk.bool (.cons Wk.str (.cons Wk.str (.cons (cB.sl_none h hw hs) .nil)))))))
  .cases hd
 .cases hd
def apDec(a:List SV)(b:List SB):Option (RawI×RawO):=match a,b with
 | [v,.agg r],[]=>(match decI v,decO r with|some i,some o=>some (i,o)|_,_=>none)
 | _,_=>none
noncomputable def apPre(r:RawI×RawO):Bool:=r.1.wf&&(r.2.wf&&tt (MayI r.1.I∧ApOk r.1.I r.2.o))
noncomputable def gApply:=gSub apDec apPre fun k r=>⟨imV (k+1) (zaL r.1.I r.2.o),[],[]⟩
theorem cap_ok{n k:Nat}(h:n≤16)(hk:k≤40):(zF ((n+1)*k) 140737488355328&&zF (n+1) 9223372036854775807)=true:=by
 have:(n+1)*k≤17*40:=Nat.mul_le_mul (by omega) hk
 rw[ble_t (by omega),ble_t (by omega)];rfl
theorem apE_ok{n k:Nat}(h:n≤16)(hk:k≤40):eqs_ (apE n n k)=true:=by
 unfold apE
 rw[ble_t (zB _),blt_f (Nat.lt_irrefl _),cap_ok h hk]
 simp[eqs_]
theorem applyG{I:Img}{o:Opn}{K:Nat}(hM:MayI I)(hA:ApOk I o):∃lf,(apT I o).sel=some lf∧WkL (K+1) lf.vs [imV (K+1) (zaL I o)]∧lf.bs=[]∧lf.kp=[]:=by
 obtain⟨k1,k2⟩:=hA.k
 by_cases e1:o.kind=1
 .obtain⟨c1,c2,c3,c4,c5,c6,c7,c8⟩:=hA.c e1
  refine⟨_,zab (ap_create I o) ?_,?_,rfl,rfl⟩
  .refine zag (zag (zag (zag (apH_ok hM) (zaa (kE_t e1) zac)) ?_) ?_) ?_
   .unfold apG
    rw[rQ_I,rQ_wf,za2,tt_t (names_mono hM.names.rise),tt_t (nodes_mono hM.rise),ble_t (show I.names.length≤1099511627776 by have:=hM.fit.n;omega),ble_t (show I.nodes.length≤1099511627776 by have:=hM.fit.m;omega),c1,c2,c3]
    exact zaa rfl (zaa rfl (zaa rfl (zaa rfl (zaa rfl (zaa (df (by simp only[zD];omega)) (zaa (df (by simp only[zD];omega)) (zaa (df (by simp only[zD];omega)) zac)))))))
   .have:apS I o=I.names.length:=by unfold apS;rw[rQ_I,c7]
    rw[this,za2]
    exact apE_ok (by omega) (by omega)
   .rw[apL_eq,c8,za2]
    have:=hM.len
    exact apE_ok (by omega) (by omega)
  .have e:zaL I o=⟨I.names++[⟨o.name,o.ino⟩],I.nodes++[⟨o.ino,0,[]⟩]⟩:=by
    unfold zaL
    rw[dt e1]
    unfold createI
    rw[c1,c2,c3,df (show ¬o.ino<1 by omega),df (show ¬o.ino>4611686018427387904 by omega),ble_f (show ¬16≤I.names.length by omega),c7,c8]
    simp only[Bool.or_false,Bool.not_true,insA_end]
   rw[e]
   simp only
   rw[za2]
   refine .cons (.agg (.cons ?_ (.cons ?_ .nil))) .nil
   .have hl:(I.names++[(⟨o.name,o.ino⟩:Nm)]).length=I.names.length+1:=by simp
    rw[hl]
    refine .fsl (zB _) (.inl rfl) ?_
    refine cNm.of_mux (e:=apNm I o) (st:=0) (st1:=0) (l:=I.names++[⟨o.name,o.ino⟩]) (zB _) (fun i=>zE (0+i) I.names.length) (fun i=>I.names.getD (0+(0+i)) nm0) (fun i=>⟨o.name,o.ino⟩) (fun i _=>by unfold apNm;rw[za2];rfl) fun i hlt=>?_
    rw[zI,zI]
    show zJ _ i nm0=_
    by_cases q:i<I.names.length
    .rw[blt_t q,cond_true]
     simp[zJ,List.getElem?_append_left q]
    .have:i=I.names.length:=by omega
     subst this
     rw[blt_f q,cond_false]
     simp[zJ]
   .have hl:(I.nodes++[(⟨o.ino,0,[]⟩:Nd)]).length=I.nodes.length+1:=by simp
    rw[hl]
    refine .fsl (zB _) (.inl rfl) ?_
    intro i hlt _
    unfold apNd
    rw[za2,zI,zI]
    by_cases q:i<I.nodes.length
    .rw[blt_t q]
     have eg:(I.nodes++[(⟨o.ino,0,[]⟩:Nd)]).getD i nd0=I.nodes.getD i nd0:=by simp[zJ,List.getElem?_append_left q]
     refine⟨cNd.len _ _,?_⟩
     show WkL (K+1) _ (ndRow (K+1) ((I.nodes++[(⟨o.ino,0,[]⟩:Nd)]).getD i nd0))
     rw[eg]
     exact .cons Wk.int (.cons Wk.int (.cons (.fsl (zB _) (.inl rfl) zbq) .nil))
    .have:i=I.nodes.length:=by omega
     subst this
     rw[blt_f q]
     have eg:(I.nodes++[(⟨o.ino,0,[]⟩:Nd)]).getD I.nodes.length nd0=⟨o.ino,0,[]⟩:=by simp[zJ]
     refine⟨cNd.len _ _,?_⟩
     show WkL (K+1) _ (ndRow (K+1) ((I.nodes++[(⟨o.ino,0,[]⟩:Nd)]).getD I.nodes.length nd0))
     rw[eg]
     exact .cons Wk.int (.cons Wk.int (.cons (.fsl (zB _) (.inl rfl) fun j hj=>absurd hj (Nat.not_lt_zero _)) .nil))
 .have hi:=hA.h e1
  obtain⟨hl,hN⟩:=apN_eq hi
  have hmay:mayC (apN I o).size (apN I o).l=true:=by rw[hN];exact hM.ok _ (zO hl)
  have hC:=zaO.1 hmay
  have hk:=contI_eq hi
  have f1:kE o 1=false:=kE_f (by simpa using e1)
  by_cases e2:o.kind=2
  .obtain⟨w1,w2⟩:=hA.w e2
   rw[hk]at w2
   have w2':=w2
   simp only[dirW,zG]at w2'
   obtain⟨d1,d2,d3,d4⟩:=w2'
   have d1:=zL d1
   have d2:=zL d2
   have d3:=zL d3
   have f2:kE o 2=true:=kE_t e2
   refine⟨_,zab (ap_write I o) ?_,?_,rfl,rfl⟩
   .refine zag (zag (zag (zag (apH_ok hM) (zaa f1 (zaa f2 (zaa f2 zac)))) (apJ_ok hM hi)) (zaa f2 (zaa ?_ zac))) (apK_ok hi)
    unfold wrPre
    simp only[zG]
    refine⟨apC_wf hC,wf_by,?_,decide_eq_true w1,?_⟩
    .show mayC (apC I o).size (apC I o).l=true
     rw[apC_l];exact hmay
    .show dirW (apC I o).l o.pos.toNat o.b.length=true
     rw[apC_l];exact w2
   .rw[zbT (by omega) (by omega) hi (c:=(max (apN I o).size (o.pos+(o.b.length:Nat)),zbN (apN I o).l o.pos.toNat o.b)) ?_]
    .have:=ap_out (K:=K) (a:=5) (b:=6) hi (max (apC I o).size (o.pos+(o.b.length:Nat)),zbN (apC I o).l o.pos.toNat (apW I o).b)
     rw[apC_l,apW_b,show(apC I o).size=(apN I o).size from rfl]at this
     rw[apC_l,apW_b,show(apC I o).size=(apN I o).size from rfl]
     exact this
    .unfold zbs
     rw[hk,hmay,dt e2,dt w1,dt (show((o.b.length:Nat):Int)≤4096 by omega),dt (show o.pos≤1099511627776-(o.b.length:Nat) by omega)];rfl
  .have f2:kE o 2=false:=kE_f (by simpa using e2)
   by_cases e3:o.kind=3
   .obtain⟨w1,w2⟩:=hA.t e3
    have f3:kE o 3=true:=kE_t e3
    refine⟨_,zab (ap_trunc I o) ?_,?_,rfl,rfl⟩
    .refine zag (zag (zag (zag (apH_ok hM) (zaa f1 (zaa f2 (zaa f3 (zaa f3 zac))))) (apJ_ok hM hi)) (zaa f2 (zaa f3 (zaa ?_ zac)))) (apK_ok hi)
     unfold trPre
     simp only[zG]
     refine⟨apC_wf hC,?_,decide_eq_true w1,decide_eq_true w2⟩
     show mayC (apC I o).size (apC I o).l=true
     rw[apC_l];exact hmay
    .rw[zbT (by omega) (by omega) hi (c:=(o.size,zcT (apN I o).l o.size)) ?_]
     .have:=ap_out (K:=K) (a:=5) (b:=6) hi (o.size,zcT (apC I o).l o.size)
      rw[apC_l]at this
      rw[apC_l]
      exact this
     .unfold zbs
      rw[hk,hmay,df e2,dt e3,dt w1,dt w2];rfl
   .have f3:kE o 3=false:=kE_f (by simpa using e3)
    by_cases e4:o.kind=4
    .obtain⟨w1,w2⟩:=hA.l e4
     obtain⟨a1,a2,a3,a4⟩:=okA_of w1
     rw[hk]at w2
     have f4:kE o 4=true:=kE_t e4
     refine⟨_,zab (ap_alloc I o) ?_,?_,rfl,rfl⟩
     .refine zag (zag (zag (zag (apH_ok hM) (zaa f1 (zaa f2 (zaa f3 (zaa f4 (zaa f4 zac)))))) (apJ_ok hM hi)) (zaa f2 (zaa f3 (zaa f4 (zaa ?_ zac))))) (apK_ok hi)
      unfold aPre
      simp only[zG]
      refine⟨apC_wf hC,?_,w1,?_⟩
      .show mayC (apC I o).size (apC I o).l=true
       rw[apC_l];exact hmay
      .show tt (DirA (apC I o).l (.ofNat (o.pos.toNat / 8)) (cntA o.pos o.size))=true
       rw[apC_l];exact tt_t w2
     .rw[zbT (by omega) (by omega) hi (c:=(szA (apN I o).size o.pos o.size o.keep,alX (apN I o).l o.pos o.size)) ?_]
      .have:=ap_out (K:=K) (a:=5) (b:=6) hi (szA (apC I o).size o.pos o.size o.keep,alX (apC I o).l o.pos o.size)
       rw[apC_l,show(apC I o).size=(apN I o).size from rfl]at this
       rw[apC_l,show(apC I o).size=(apN I o).size from rfl]
       exact this
      .unfold zbs
       rw[hk,hmay,df e2,df e3,dt e4,dt a1,dt a2,dt (show o.size≤1099511627776 by omega),dt (show o.pos≤1099511627776-o.size by omega),dt a4]
       simp only[Bool.and_true]
       have x1:zA (o.pos.toNat / 8)=o.pos / 8:=by simp only[zD];omega
       have x2:cntA o.pos o.size=((o.pos+o.size-1) / 8-o.pos / 8).toNat+1:=by unfold cntA;omega
       unfold alX szA
       rw[x1,x2]
       cases o.keep<;>rfl
    .have f4:kE o 4=false:=kE_f (by simpa using e4)
     have e5:o.kind=5:=by omega
     have f5:kE o 5=true:=kE_t e5
     obtain⟨w1,w2,w3⟩:=hA.u e5
     refine⟨_,zab (ap_punch I o) ?_,?_,rfl,rfl⟩
     .refine zag (zag (zag (zag (apH_ok hM) (zaa f1 (zaa f2 (zaa f3 (zaa f4 (zaa f5 zac)))))) (apJ_ok hM hi)) (zaa f2 (zaa f3 (zaa f4 (zaa f5 (zaa ?_ zac)))))) (apK_ok hi)
      unfold puPre
      simp only[zG]
      refine⟨apC_wf hC,?_,decide_eq_true w1,decide_eq_true w2,decide_eq_true w3⟩
      show mayC (apC I o).size (apC I o).l=true
      rw[apC_l];exact hmay
     .rw[zbT (by omega) (by omega) hi (c:=((apN I o).size,zdE (apN I o).l o.pos o.size)) ?_]
      .have:=ap_out (K:=K) (a:=5) (b:=6) hi ((apC I o).size,zdE (apC I o).l o.pos o.size)
       rw[apC_l,show(apC I o).size=(apN I o).size from rfl]at this
       rw[apC_l,show(apC I o).size=(apN I o).size from rfl]
       exact this
      .unfold zbs
       rw[hk,hmay,df e2,df e3,df e4,dt w1,dt w2,dt (show o.size≤1099511627776 by omega),dt (show o.pos≤1099511627776-o.size by omega)];rfl
theorem apply_told{F0:Fz}(hF0:∀b cs t,F0 b=some (cs,t)→t=0):SubOk F0 env spE applyF 800000000000000 gApply:=zaF (z:=true) (TZ_ok hF0) hF0 rfl fun K a b r hd hp=>by
 unfold apPre at hp
 simp only[zG]at hp
 obtain⟨p1,p2,p3⟩:=hp
 obtain⟨hM,hA⟩:=of_tt p3
 unfold apDec at hd
 split at hd
 .split at hd
  .rename_i i o hi ho
   injection hd with hd;subst hd
   obtain⟨lf,h1,h2,h3,h4⟩:=applyG (K:=K) hM hA
   refine⟨_,[],lf,.cons (im_wk (zB _) hi p1) (.cons (.agg (decO_wk (zB _) ho p2)) .nil),.nil,h1,h2,?_,?_⟩
   .rw[h3];exact .nil
   .rw[h4];rfl
  .cases hd
 .cases hd
end Go.Proofs.YtponjccgpbgnoaaGreatDoor.Se
