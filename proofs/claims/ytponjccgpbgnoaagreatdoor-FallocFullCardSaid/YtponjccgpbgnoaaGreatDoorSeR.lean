/- The symbolic evaluator's conversions and copies, beside the evaluator's; each operation. -/
import Derived.Test.YtponjccgpbgnoaaGreatDoorSeJ
set_option linter.unusedVariables false
set_option linter.unusedSimpArgs false
set_option linter.unusedSectionVars false
open Nat renaming min→zA,blt→zE,eq_of_beq_eq_true→zF,beq→zG,blt_eq→zH,ble→zI,le_of_ble_eq_true→zJ,mul_le_mul_right→zK,add_mul→zL,le_refl→zM,mul_one→zN,zero_add→zO,ble_eq_true_of_le→zR,lt_of_le_of_lt→zW
open Option.some renaming injEq→zB
open Bool renaming and_eq_true→zC
open Prod.mk renaming injEq→zD
open List renaming take_of_length_le→zP,length_take→zQ,eq_nil_of_length_eq_zero→zT,mem_of_mem_take→zV
open Option renaming map_none→zS,map_some→zU
namespace Go.Proofs.YtponjccgpbgnoaaGreatDoor.Se
open Go Go.Proofs.YtponjccgpbgnoaaGreatDoor
set_option maxRecDepth 20000
section
variable {F:Fz} {ι:Im} {sh sh':SH} {h:Hp}
theorem str_eq(s:ByteArray):(⟨⟨s.data.toList⟩⟩:ByteArray)=s:=by simp
theorem conv_rel{E:Env}{src dst:TypeId}{x v:SV}{x':Value}(H:HRs F ι sh h)(hx:VRs F ι x x')(hc:(conv1_ E src dst x sh).sel=some (v,sh')) :
  ∃v' h' ι',conv_ E src dst x' h=some (v',h')∧VRs F ι' v v'∧HRs F ι' sh' h'∧Stp F ι sh h F ι' sh' h':=by
 unfold conv1_ at hc
 split at hc
 .rename_i u k _ c n hu1 hu2
  simp only[RT.sel,zbv,zB,zD]at hc
  obtain⟨rfl,rfl⟩:=hc
  obtain rfl:=hx.int_inv
  refine⟨_,h,ι,?_,.int ..,H,Stp.refl F H⟩
  unfold conv_;simp only[hu1,hu2]
 .rename_i u c s hu1 hu2
  simp only[RT.sel,zB,zD]at hc
  obtain⟨rfl,rfl⟩:=hc
  obtain rfl:=hx.str_inv
  refine⟨_,h,ι,?_,.str ..,H,Stp.refl F H⟩
  unfold conv_;simp only[hu1,hu2]
 .rename_i u k n hu1 hu2
  simp only[RT.sel,zB,zD]at hc
  obtain⟨rfl,rfl⟩:=hc
  obtain rfl:=hx.int_inv
  refine⟨.string (Utf8.encode n),h,ι,?_,?_,H,Stp.refl F H⟩
  .unfold conv_;simp only[hu1,hu2]
  .have:=VRs.str (F:=F) ι true (Utf8.encode n).data.toList
   rw[str_eq]at this;exact this
 .rename_i x e hu1 hu2 _ _
  split at hc
  .rename_i q hu3 hq hfirm
   obtain⟨cs,P,pn,pl⟩:=src_rel H hx hq
   have hall:=pn q.n
   have hmin:zA q.n q.n=q.n:=Nat.min_self _
   rw[hmin,zP (by rw[P.len];exact zM _)]at hall
   have hconv:∀s,zbe cs=some s→conv_ E src dst x' h=some (.string ⟨⟨s⟩⟩,h):=by
    intro s hs
    have some_case:∀a n c,x'=.slice (some a) n c→conv_ E src dst x' h=some (.string ⟨⟨s⟩⟩,h):=by
     intro a n c e
     subst e
     have hn:n=q.n:=pl
     subst hn
     unfold news_ at hall
     simp only[hmin,zN]at hall
     split at hall
     .rename_i c' hc'
      injection hall with hall;injection hall with _ hall;subst hall
      unfold conv_
      simp only[hu1,hu2,hu3,hc',hs]
     .cases hall
    have nil_case:x'=.slice none 0 0→conv_ E src dst x' h=some (.string ⟨⟨s⟩⟩,h):=by
     intro e
     subst e
     have hn:q.n=0:=pl.symm
     have:cs=[]:=zT (by rw[P.len,hn])
     subst this
     injection hs with hs;subst hs
     unfold conv_
     simp only[hu1,hu2,hu3]
    have chan_case:x'=.chan none→conv_ E src dst x' h=some (.string ⟨⟨s⟩⟩,h):=by
     intro e
     subst e
     have hn:q.n=0:=pl.symm
     have:cs=[]:=zT (by rw[P.len,hn])
     subst this
     injection hs with hs;subst hs
     unfold conv_
     simp only[hu1,hu2,hu3]
    cases hx with
    | nsl _ id k c s0 n z B off cap=>exact some_case _ _ _ rfl
    | nslN=>exact nil_case rfl
    | nslE _ _ _ _ _ _ hz=>
     have:_≤1:=zJ hfirm
     omega
    | asl=>exact some_case _ _ _ rfl
    | fsl=>exact some_case _ _ _ rfl
    | fslN=>exact nil_case rfl
    | fslE=>exact chan_case rfl
    | raw _ _ hb=>
     unfold firm_ at hfirm
     split at hfirm
     .rename_i e2;injection e2 with e2;subst e2;exact nil_case rfl
     all_goals first|(rename_i e2;cases e2)|cases hfirm
    | lost=>cases hfirm
    | int=>cases hfirm
    | bool=>cases hfirm
    | str=>cases hfirm
    | agg=>cases hfirm
    | tup=>cases hfirm
    | ptr=>cases hfirm
    | aptr=>cases hfirm
    | fptr=>cases hfirm
    | mp=>cases hfirm
    | fn=>cases hfirm
   have sym:(chk false ((List.range q.n).all fun i=>isByte (q.e i)) (RT.ret (SV.str false (bytes1_ q.n q.e),sh))).sel=some (v,sh')→
     ∃v' h' ι',conv_ E src dst x' h=some (v',h')∧VRs F ι' v v'∧HRs F ι' sh' h'∧Stp F ι sh h F ι' sh' h':=by
    intro hc
    obtain⟨hb,hc⟩:=zbf hc
    simp only[RT.sel,zB,zD]at hc
    obtain⟨rfl,rfl⟩:=hc
    have hcs:zbe cs=some (bytes1_ q.n q.e):=by
     have hl:cs.length=q.n:=by rw[P.len,zN]
     have:=bytes1_rel (F:=F) (ι:=ι) (e:=q.e) (n:=q.n) (cs:=cs) (p:=0) (fun i hi=>by have:=P.rows i hi;rw[zN]at this;rw[zO];exact this)
      (fun i hi=>List.all_eq_true.1 hb i (List.mem_range.2 hi)) (by omega)
     rw[List.drop_zero,zP (by omega)]at this
     exact this
    exact⟨_,h,ι,hconv _ hcs,.str ..,H,Stp.refl F H⟩
   split at hc
   .rename_i l hl
    split at hc
    .rename_i s hs
     simp only[RT.sel,zB,zD]at hc
     obtain⟨rfl,rfl⟩:=hc
     obtain⟨qc,qe,qr,_⟩:=P.lit l hl
     have hlen:cs.length=l.length:=by rw[P.len,qe,zN]
     have hcs:zbe cs=some s:=by
      have:=bytesL_rel (F:=F) (ι:=ι) (cs:=cs) (p:=0) hs (fun i r hr=>by rw[zO];exact qr i r hr) (by omega)
      rw[List.drop_zero,zP (by omega)]at this
      exact this
     exact⟨_,h,ι,hconv _ hcs,.str ..,H,Stp.refl F H⟩
    .exact sym hc
   .exact sym hc
  .cases hc
 .rename_i e c s hu1 hu2
  obtain rfl:=hx.str_inv
  split at hc
  .rename_i hu3 hs1
   have hlen:(zaH s).length=s.length:=by simp[zaH]
   have mk:∀(sbn:SB) (id:Nat) (sh2:SH) (cc:Bool),sh.new sbn=some (id,sh2)→(∀ι' h' B',ι' id=some B'→B'.k=1→B'.m=s.length→B'.o=0→zas h' B' (zaH s) e→SbOk F ι' h' id sbn)→
     ∀z,(s.length=0→z=2)→∃v' h' ι',conv_ E src dst (.string ⟨⟨s⟩⟩) h=some (v',h')∧VRs F ι' (.nsl id 1 cc 0 s.length z) v'∧HRs F ι' sh2 h'∧Stp F ι sh h F ι' sh2 h':=by
    intro sbn id sh2 cc hn hok z hz
    obtain⟨ha,h',ι',r1,r2,r3,r4,r5⟩:=new_loose H hn (cs:=zaH s) (t:=e) (zcq s) (m:=s.length) (k:=1) (n:=s.length) (c:=s.length) (by rw[hlen];omega)
     (fun ι' hle hi h' S=>hok ι' h' _ hi rfl rfl rfl S)
    refine⟨.slice (some ⟨h.next,0,none⟩) s.length s.length,h',ι',?_,?_,r4,r5⟩
    .unfold conv_
     have r1':zat h e (List.map (fun b=>Value.int .u8 (.ofNat b.toNat)) (⟨⟨s⟩⟩:ByteArray).data.toList) false=some (⟨h.next,0,none⟩,ha):=r1
     simp only[hu1,hu2,hu3,hs1,r1']
     exact r2
    .refine .nsl _ _ _ _ _ _ _ _ 0 s.length r3 rfl (by simp) (zM _) (.inr (by simp)) (by simp only;rw[hlen];omega) ?_
     by_cases h0:s.length=0
     .exact .inr (.inr (by rw[hz h0];exact zM _))
     .exact .inr (.inl (by omega))
   have fin:∀(sbn:SB) (cc:Bool),(match sh.new sbn with|some (id,h)=>test_ cc (zG s.length 0) (RT.ret (SV.nsl id 1 cc 0 s.length 2,h)) (RT.ret (SV.nsl id 1 cc 0 s.length 0,h))|none=>RT.bad).sel=some (v,sh')→
     (∀id ι' h' B',ι' id=some B'→B'.k=1→B'.m=s.length→B'.o=0→zas h' B' (zaH s) e→SbOk F ι' h' id sbn)→
     ∃v' h' ι',conv_ E src dst (.string ⟨⟨s⟩⟩) h=some (v',h')∧VRs F ι' v v'∧HRs F ι' sh' h'∧Stp F ι sh h F ι' sh' h':=by
    intro sbn cc hc hok
    split at hc
    .rename_i id sh2 hn
     rw[zdl]at hc
     cases h0:zG s.length 0 with
     | true=>
      rw[h0]at hc
      simp only[cond_true,RT.sel,zB,zD]at hc
      obtain⟨rfl,rfl⟩:=hc
      exact mk sbn id sh2 cc hn (hok id) 2 (fun _=>rfl)
     | false=>
      rw[h0]at hc
      simp only[cond_false,RT.sel,zB,zD]at hc
      obtain⟨rfl,rfl⟩:=hc
      exact mk sbn id sh2 cc hn (hok id) 0 (fun e=>by rw[e]at h0;cases h0)
    .cases hc
   split at hc
   .exact fin _ true hc fun id ι' h' B' hi hk hm ho S=>⟨B',_,hi,hk,by rw[hm,byteLit_len],S,fun i r hr=>by rw[ho,zO];exact zco s hr⟩
   .exact fin _ false hc fun id ι' h' B' hi hk hm ho S=>.inr ⟨B',_,hi,hk,hm,S,fun i hi=>by rw[ho,zO];exact zb4 s hi⟩
  .cases hc
 .cases hc
theorem overRows{B:Bl}{cs cs' cx:List Value}{t:TypeId}(S:zas h B cs t){k s0 mn:Nat}(hk:B.k=k)(hp:zaz cs (cx.take (mn*k)) (B.o+s0*k)=some cs')(hl:mn*k≤cx.length){ι0:Im}{i:Nat}{r:List SV} :
  (s0≤i∧i<s0+mn→RowR F ι0 cx ((i-s0)*k) k r→RowR F ι0 cs' (B.o+i*k) k r)∧(¬(s0≤i∧i<s0+mn)→RowR F ι0 cs (B.o+i*k) k r→RowR F ι0 cs' (B.o+i*k) k r):=by
 have htl:(cx.take (mn*k)).length=mn*k:=by simp;omega
 refine⟨fun hi R=>R.carry fun q hq=>?_,fun hi R=>R.carry fun q hq=>?_⟩
 .have h1:(i-s0+1)*k≤mn*k:=zK _ (by omega)
  rw[zL]at h1
  have h2:i*k=s0*k+(i-s0)*k:=by rw[←zL];congr 1;omega
  rw[zax hp (B.o+i*k+q),htl,if_pos (by omega),List.getElem?_take,if_pos (by omega)]
  congr 1;omega
 .rw[zax hp (B.o+i*k+q),htl,if_neg]
  intro hq2
  apply hi
  constructor
  .rcases Nat.lt_or_ge i s0 with hlt|hge
   .have:(i+1)*k≤s0*k:=zK _ hlt
    rw[zL]at this;omega
   .exact hge
  .rcases Nat.lt_or_ge i (s0+mn)with hlt|hge
   .exact hlt
   .have:(s0+mn)*k≤i*k:=zK _ hge
    rw[zL]at this;omega
theorem over_at{j n:Nat}{e:Nat→List SV}:∀ {l:List SV} {q:Nat} (i:Nat),(over_ j n e l q)[i]?=(l[i]?).map fun x=>(match e (q+i-j)with|[y]=>mux (zI j (q+i)&&zE (q+i) (j+n)) y x 3|_=>.lost)
 | [],q,i=>by simp[over_]
 | x::l,q,0=>by simp only[over_,List.getElem?_cons_zero,zU,Nat.add_zero];rfl
 | x::l,q,i+1=>by
  simp only[over_,List.getElem?_cons_succ]
  rw[over_at i,show q+1+i=q+(i+1) by omega]
theorem over_len{j n:Nat}{e:Nat→List SV}:∀ {l:List SV} {q:Nat},(over_ j n e l q).length=l.length
 | [],q=>rfl
 | x::l,q=>by simp[over_,over_len]
theorem clear_rel{E:Env}{t:TypeId}{x:SV}{x':Value}(H:HRs F ι sh h)(hx:VRs F ι x x')(hc:clear1_ E t x sh=some sh') :
  ∃h',clear_ E t x' h=some (undef,h')∧HRs F ι sh' h'∧Stp F ι sh h F ι sh' h':=by
 unfold clear1_ at hc
 split at hc
 .rename_i e hu
  injection hc with hc;subst hc
  obtain⟨rfl,_⟩:=hx.raw_inv
  refine⟨h,?_,H,Stp.refl F H⟩
  unfold clear_;simp only[hu]
 .rename_i e id k c s n hu
  cases hx with
  | nsl _ _ _ _ _ _ _ B off cap g1 g2 g3 g4 g5 g6 g7=>
   have main:∀(z:List SV) (sbn:SB) (cs:List Value) (t':TypeId),zero1_ E e=some z→zas h B cs t'→Live sh id→sh.put id sbn=sh'→z.length=k→
     (∀h' cs',zas h' B cs' t'→(∀(ι0:Im) i r,(s≤i∧i<s+n→RowR F ι0 cs' (B.o+i*k) k z)∧(¬(s≤i∧i<s+n)→RowR F ι0 cs (B.o+i*k) k r→RowR F ι0 cs' (B.o+i*k) k r))→SbOk F ι h' id sbn)→
     ∃h',clear_ E t (.slice (some ⟨B.b,off,none⟩) n cap) h=some (undef,h')∧HRs F ι sh' h'∧Stp F ι sh h F ι sh' h':=by
    intro z sbn cs t' hz S hlive hput hzk hok
    subst hput
    obtain⟨zv,hzv,Z,o1,fz⟩:=zcD (F:=F) (ι:=ι) hz
    have hzl:zv.cells.toList.length=k:=by rw[←Z.1,hzk]
    by_cases hn:n=0
    .subst hn
     obtain⟨r1,r2⟩:=HRs.putH H hlive g1 S.lt (fun v e=>by rw[S.got]at e;cases e) (h':=h) rfl (fun _ _=>rfl) (sb:=sbn) (hok h cs S fun ι0 i r=>⟨fun hi=>by omega,fun _ R=>R⟩)
     refine⟨h,?_,r1,r2⟩
     unfold clear_;simp only[hu]
    .obtain⟨m,rfl⟩:∃m,n=m+1:=⟨n-1,by omega⟩
     have hoff:off=B.o+s*k:=by rcases g5 with g5|g5;omega;exact g5
     have hrl:(rep_ zv.cells.toList (m+1)).length=(m+1)*k:=by rw[zbI,hzl]
     have hT:off+(m+1)*k≤cs.length:=by
      have:(m+1)*k≤cap*k:=zK _ g4
      rw[S.len];omega
     obtain⟨cs',hcs'⟩:=za1 off cs (rep_ zv.cells.toList (m+1)) (by omega)
     have hro:=rep_ones o1 (m+1)
     have hst:=zba S (a:=B.b) (.inl rfl) hro hcs'
     have hb8:B.b<9223372036854775808:=by have:=H.most;have:=S.lt;omega
     have hg:∀j,(h.put B.b (.cells cs' t' B.x false)).get j=if j=B.b then some (.cells cs' t' B.x false)else h.get j:=fun j=>Hp.get_put hb8
     have S':zas (h.put B.b (.cells cs' t' B.x false)) B cs' t':=⟨by rw[hg,if_pos rfl],by rw[zaB hcs'];exact S.len,zby S.one hro hcs',S.fit,fun e=>by rw[hg,if_neg (by omega)];exact S.view e,by rw[Hp.put_next];exact S.lt,fun e=>by rw[Hp.put_next];exact S.vlt e⟩
     have hzrow:∀(ι0:Im) i,i<m+1→RowR F ι0 (rep_ zv.cells.toList (m+1)) (i*k) k z:=by
      intro ι0 i hi
      have Z0:LRs F ι0 z zv.cells.toList:=frees_rel Z fz
      have:∀(m i:Nat),i<m→∀j,j<k→(rep_ zv.cells.toList m)[i*k+j]?=zv.cells.toList[j]?:=by
       intro m
       induction m with
       | zero=>intro i hi;omega
       | succ m ih=>
        intro i hi j hj
        unfold rep_
        cases i with
        | zero=>rw[List.getElem?_append_left (by omega)];congr 1;omega
        | succ i=>
         rw[List.getElem?_append_right (by rw[zL];omega),hzl]
         rw[show(i+1)*k+j-k=i*k+j by rw[zL];omega]
         exact ih i (by omega) j hj
      exact RowR.of_lrs Z0 hzk (this (m+1) i hi)
     obtain⟨r1,r2⟩:=HRs.put H hlive g1 S.lt (fun v e=>by rw[S.got]at e;cases e) (x:=.cells cs' t' B.x false) (sb:=sbn) (hok _ cs' S' fun ι0 i r=>by
      have hp:zaz cs ((rep_ zv.cells.toList (m+1)).take ((m+1)*k)) (B.o+s*k)=some cs':=by rw[zP (by omega),←hoff];exact hcs'
      exact⟨fun hi=>(overRows (F:=F) S g2 hp (by omega) (ι0:=ι0) (i:=i) (r:=z)).1 hi (hzrow ι0 (i-s) (by omega)),(overRows (F:=F) S g2 hp (by omega) (ι0:=ι0) (i:=i) (r:=r)).2⟩)
     refine⟨_,?_,r1,r2⟩
     unfold clear_
     simp only[hu,hzv,hst]
   split at hc
   .rename_i z k' m f t' hz hget
    cases hcc:(zG k k'&&zG z.length k)with
    | false=>rw[hcc]at hc;cases hc
    | true=>
     rw[hcc]at hc
     simp only[cond_true]at hc
     injection hc with hc
     rw[zC]at hcc
     obtain rfl:=zF hcc.1
     rcases H.ok id _ hget with⟨_,q⟩|⟨B',cs,q1,q2,q3,q4,q5⟩
     .rw[g1]at q;cases q
     .rw[g1]at q1;injection q1 with q1;subst q1
      refine main z _ cs t' hz q4 ⟨_,hget,by intro e;cases e⟩ hc (zF hcc.2) fun h' cs' S' hr=>?_
      refine .inr ⟨B,cs',g1,g2,q3,S',fun i hi=>RowR.mux (fun e=>?_) (fun e=>?_)⟩
      .rw[zC]at e
       exact(hr Im0 i z).1 ⟨zJ e.1,by simpa [zH]using e.2⟩
      .refine(hr Im0 i _).2 (fun e2=>?_) (q5 i hi)
       have:(zI s i&&zE i (s+n))=true:=by rw[zR e2.1];simpa [zH]using e2.2
       rw[this]at e;cases e
   .rename_i z k' rows t' hz hget
    split at hc
    .cases hcc:(zG k k'&&zG z.length k)with
     | false=>rw[hcc]at hc;cases hc
     | true=>
      rw[hcc]at hc
      simp only[cond_true]at hc
      rw[zC]at hcc
      obtain rfl:=zF hcc.1
      split at hc
      .rename_i rows' hrows
       injection hc with hc
       obtain⟨B',cs,q1,q2,q3,q4,q5⟩:=H.ok id _ hget
       rw[g1]at q1;injection q1 with q1;subst q1
       refine main z _ cs t' hz q4 ⟨_,hget,by intro e;cases e⟩ hc (zF hcc.2) fun h' cs' S' hr=>?_
       refine⟨B,cs',g1,g2,by rw[q3,zaB hrows],S',fun i r hi=>?_⟩
       rw[zax hrows i]at hi
       simp only[List.length_replicate]at hi
       split at hi
       .rename_i hin
        rw[List.getElem?_replicate]at hi
        split at hi
        .injection hi with hi;subst hi;exact(hr ι i z).1 hin
        .cases hi
       .rename_i hin;exact(hr ι i r).2 hin (q5 i r hi)
      .cases hc
    .cases hc
   .cases hc
  | nslN _ _ _ _ _ _ hz=>omega
  | nslE _ _ _ _ _ _ hz=>omega
 .cases hc
end
section
variable {F:Fz} {ι:Im} {sh sh':SH} {h:Hp}
theorem copy_of{E:Env}{t e:TypeId}{s':Value}{k n cap:Nat}{a:Option Addr}{mn:Nat}{c:List Value}(hu:E.under t=some (.slice e))(hk:E.size e=some k)(hn:news_ h k n s'=some (mn,c)) :
  (mn=0→copy_ E t (.slice a n cap) s' h=some (goNat 0,h))∧(0<mn→∀b h',a=some b→zao h b c=some h'→copy_ E t (.slice a n cap) s' h=some (goNat mn,h')):=by
 refine⟨fun e=>?_,fun e b h' hb hs=>?_⟩
 .subst e
  unfold copy_;simp only[hu,hk,hn]
 .subst hb
  obtain⟨m,rfl⟩:∃m,mn=m+1:=⟨mn-1,by omega⟩
  unfold copy_;simp only[hu,hk,hn,hs]
theorem copy_rel{E:Env}{t:TypeId}{d s v:SV}{d' s':Value}(H:HRs F ι sh h)(hd:VRs F ι d d')(hs:VRs F ι s s')(hc:(copy1_ E t d s sh).sel=some (v,sh')) :
  ∃v' h',copy_ E t d' s' h=some (v',h')∧VRs F ι v v'∧HRs F ι sh' h'∧Stp F ι sh h F ι sh' h':=by
 unfold copy1_ at hc
 split at hc
 .rename_i e hu
  split at hc
  .rename_i sz q hsz hq
   rw[hsz]at hq
   simp only at hq
   obtain⟨cx,Q,qn,ql⟩:=src_rel H hs hq
   split at hc
   .rename_i id k c s0 n
    cases hd with
    | nsl _ _ _ _ _ _ _ B off cap g1 g2 g3 g4 g5 g6 g7=>
     have hcp:=copy_of (E:=E) (t:=t) (a:=some ⟨B.b,off,none⟩) (cap:=cap) hu hsz (qn n)
     have hmn:zA q.n n≤n:=Nat.min_le_right ..
     have hmq:zA q.n n≤q.n:=Nat.min_le_left ..
     have hcl:zA q.n n*sz≤cx.length:=by rw[Q.len];exact zK _ hmq
     have main:∀(sbn:SB) (cs:List Value) (t':TypeId) (cc:Bool),zas h B cs t'→Live sh id→sz=k→
       (∀h' cs',zas h' B cs' t'→(∀(ι0:Im) i r,(s0≤i∧i<s0+zA q.n n→RowR F ι0 cx ((i-s0)*k) k r→RowR F ι0 cs' (B.o+i*k) k r)∧(¬(s0≤i∧i<s0+zA q.n n)→RowR F ι0 cs (B.o+i*k) k r→RowR F ι0 cs' (B.o+i*k) k r))→SbOk F ι h' id sbn)→
       ∃h',copy_ E t (.slice (some ⟨B.b,off,none⟩) n cap) s' h=some (goNat (zA q.n n),h')∧HRs F ι (sh.put id sbn) h'∧Stp F ι sh h F ι (sh.put id sbn) h':=by
      intro sbn cs t' cc S hlive hszk hok
      subst hszk
      by_cases hn:zA q.n n=0
      .obtain⟨r1,r2⟩:=HRs.putH H hlive g1 S.lt (fun v e=>by rw[S.got]at e;cases e) (h':=h) rfl (fun _ _=>rfl) (sb:=sbn) (hok h cs S fun ι0 i r=>⟨fun hi=>by omega,fun _ R=>R⟩)
       exact⟨h,by rw[hn];exact hcp.1 hn,r1,r2⟩
      .have hoff:off=B.o+s0*sz:=by rcases g5 with g5|g5;omega;exact g5
       have htl:(cx.take (zA q.n n*sz)).length=zA q.n n*sz:=by simp only[zQ];omega
       have hT:off+zA q.n n*sz≤cs.length:=by
        have:zA q.n n*sz≤cap*sz:=zK _ (by omega)
        rw[S.len];omega
       obtain⟨cs',hcs'⟩:=za1 off cs (cx.take (zA q.n n*sz)) (by omega)
       have hro:ones_ (cx.take (zA q.n n*sz))=true:=zca Q.one fun v hv=>zV hv
       have hst:=zba S (a:=B.b) (.inl rfl) hro hcs'
       have hb8:B.b<9223372036854775808:=by have:=H.most;have:=S.lt;omega
       have hg:∀j,(h.put B.b (.cells cs' t' B.x false)).get j=if j=B.b then some (.cells cs' t' B.x false)else h.get j:=fun j=>Hp.get_put hb8
       have S':zas (h.put B.b (.cells cs' t' B.x false)) B cs' t':=⟨by rw[hg,if_pos rfl],by rw[zaB hcs'];exact S.len,zby S.one hro hcs',S.fit,fun e=>by rw[hg,if_neg (by omega)];exact S.view e,by rw[Hp.put_next];exact S.lt,fun e=>by rw[Hp.put_next];exact S.vlt e⟩
       obtain⟨r1,r2⟩:=HRs.put H hlive g1 S.lt (fun v e=>by rw[S.got]at e;cases e) (x:=.cells cs' t' B.x false) (sb:=sbn) (hok _ cs' S' fun ι0 i r=>by
        rw[hoff]at hcs'
        exact overRows (F:=F) S g2 hcs' hcl (ι0:=ι0) (i:=i) (r:=r))
       exact⟨_,hcp.2 (by omega) _ _ rfl hst,r1,r2⟩
     split at hc
     .rename_i k' m e' t' hget
      split at hc
      .rename_i hk3
       rw[zC,zC]at hk3
       obtain⟨⟨hk1,hk2⟩,hfr⟩:=hk3
       obtain rfl:=zF hk1
       obtain rfl:=zF hk2
       simp only[RT.sel,zbv,zB,zD]at hc
       obtain⟨rfl,rfl⟩:=hc
       rcases H.ok id _ hget with⟨_,q⟩|⟨B',cs,q1,q2,q3,q4,q5⟩
       .rw[g1]at q;cases q
       .rw[g1]at q1;injection q1 with q1;subst q1
        obtain⟨h',r0,r1,r2⟩:=main (.row sz m (fun i=>muxR sz (zI s0 i&&zE i (s0+zA q.n n)) (q.e (i-s0)) (e' i)) t') cs t' true q4 ⟨_,hget,by intro e;cases e⟩ rfl fun h' cs' S' hr=>by
         refine .inr ⟨B,cs',g1,g2,q3,S',fun i hi=>RowR.mux (fun e=>?_) (fun e=>?_)⟩
         .rw[zC]at e
          have h1:=zJ e.1
          have h2:i<s0+zA q.n n:=by simpa [zH]using e.2
          exact(hr Im0 i _).1 ⟨h1,h2⟩ (Q.free hfr (i-s0) (by omega))
         .refine(hr Im0 i _).2 (fun e2=>?_) (q5 i hi)
          have:(zI s0 i&&zE i (s0+zA q.n n))=true:=by rw[zR e2.1];simpa [zH]using e2.2
          rw[this]at e;cases e
        exact⟨_,h',r0,.int ..,r1,r2⟩
      .cases hc
     .rename_i k' rows t' hget
      split at hc
      .rename_i l hl hk3
       rw[zC]at hk3
       obtain⟨hk1,hk2⟩:=hk3
       obtain rfl:=zF hk1
       obtain rfl:=zF hk2
       split at hc
       .rename_i l2 hl2
        split at hc
        .rename_i rows' hrows
         simp only[RT.sel,zbv,zB,zD]at hc
         obtain⟨rfl,rfl⟩:=hc
         obtain⟨_,rfl⟩:=ltake_some hl2
         obtain⟨qc,qe,qr,_⟩:=Q.lit l hl
         obtain⟨B',cs,q1,q2,q3,q4,q5⟩:=H.ok id _ hget
         rw[g1]at q1;injection q1 with q1;subst q1
         obtain⟨h',r0,r1,r2⟩:=main (.lst sz rows' t') cs t' true q4 ⟨_,hget,by intro e;cases e⟩ rfl fun h' cs' S' hr=>by
          refine⟨B,cs',g1,g2,by rw[q3,zaB hrows],S',fun i r hi=>?_⟩
          rw[zax hrows i]at hi
          have hlen:(l.take (zA q.n n)).length=zA q.n n:=by simp only[zQ];omega
          rw[hlen]at hi
          split at hi
          .rename_i hin
           rw[List.getElem?_take,if_pos (by omega)]at hi
           exact(hr ι i r).1 hin (qr _ r hi)
          .rename_i hin;exact(hr ι i r).2 hin (q5 i r hi)
         exact⟨_,h',r0,.int ..,r1,r2⟩
        .cases hc
       .cases hc
      .cases hc
     .cases hc
    | nslN _ _ _ _ _ _ hz=>omega
    | nslE _ _ _ _ _ _ hz=>omega
   .rename_i id k c i o N cj j n
    split at hc
    .rename_i hfr
     split at hc
     .rename_i sh2 hset
      simp only[RT.sel,zbv,zB,zD]at hc
      obtain⟨rfl,rfl⟩:=hc
      cases hd with
      | asl _ _ _ _ _ _ _ _ _ _ B a off cap g1 g2 g3 g4 g5 g6 g7 g8=>
       have hcp:=copy_of (E:=E) (t:=t) (a:=some ⟨a,off,none⟩) (cap:=cap) hu hsz (qn n)
       have hat:B.at a:=by
        rcases g8 with⟨_,h8⟩|⟨h8,h9⟩
        .exact .inl h8
        .exact .inr ⟨h8,h9⟩
       have hst:∃b cs t',sh.get id=some b∧zas h B cs t':=by
        unfold zcV at hset
        split at hset
        .rename_i k' rows t' hg
         obtain⟨B',cs,q1,_,_,q4,_⟩:=H.ok id _ hg
         rw[g1]at q1;injection q1 with q1;subst q1;exact⟨_,_,_,hg,q4⟩
        .rename_i k' n' e' t' hg
         rcases H.ok id _ hg with⟨_,q⟩|⟨B',cs,q1,_,_,q4,_⟩
         .rw[g1]at q;cases q
         .rw[g1]at q1;injection q1 with q1;subst q1;exact⟨_,_,_,hg,q4⟩
        .cases hset
       obtain⟨b,cs,t',hgb,S⟩:=hst
       have hin:=Bl.row_in S g3
       rw[g2]at hin
       have hmn:zA q.n n≤n:=Nat.min_le_right ..
       have hmq:zA q.n n≤q.n:=Nat.min_le_left ..
       have hxl:(cx.take (zA q.n n*1)).length=zA q.n n:=by simp only[zQ,Q.len,zN];omega
       have rowOf:∀(cs':List Value),(∀p,cs'[p]?=if B.o+i*k+o+j≤p∧p<B.o+i*k+o+j+zA q.n n then cx[p-(B.o+i*k+o+j)]? else cs[p]?)→cs'.length=cs.length→
         ∀ {ι0:Im},(∀p,p<q.n→RowR F ι0 cx (p*1) 1 (q.e p))→∀r r',RowR F ι0 cs (B.o+i*k) k r→(match lcut r o N with|some l=>zaz r (over_ j (zA q.n n) q.e l 0) o|none=>none)=some r'→RowR F ι0 cs' (B.o+i*k) k r':=by
        intro cs' hcs' hlen ι0 hq0 r r' R e2
        split at e2
        .rename_i l hl
         obtain⟨vs,v1,v2⟩:=R.cut hl (by omega)
         obtain⟨w1,w2,w3⟩:=zav hl
         refine⟨by rw[zaB e2,R.1],fun p x y hx hy=>?_⟩
         rw[zax e2 p]at hx
         rw[over_len,w3]at hx
         rw[hcs']at hy
         split at hx
         .rename_i hp
          rw[over_at]at hx
          cases hlp:l[p-o]? with
          | none=>rw[hlp]at hx;cases hx
          | some x0=>
           rw[hlp]at hx
           simp only[zU,zB,zO]at hx
           subst hx
           have hold:cs[B.o+i*k+p]?=vs[p-o]?:=by rw[zaW v1 (p-o) (by omega)];congr 1;omega
           split
           .rename_i y1 hy1
            refine mux_rel (fun em=>?_) (fun em=>?_)
            .rw[zC]at em
             have m1:=zJ em.1
             have m2:p-o<j+zA q.n n:=by simpa [zH]using em.2
             rw[if_pos (by omega)]at hy
             have:=hq0 (p-o-j) (by omega)
             rw[hy1]at this
             refine this.2 0 y1 y rfl ?_
             rw[←hy];congr 1;omega
            .have hneg:¬(B.o+i*k+o+j≤B.o+i*k+p∧B.o+i*k+p<B.o+i*k+o+j+zA q.n n):=fun hh=>by
              have:(zI j (p-o)&&zE (p-o) (j+zA q.n n))=true:=by
               rw[zR (by omega:j≤p-o)]
               have:p-o<j+zA q.n n:=by omega
               simpa [zH]using this
              rw[this]at em;cases em
             rw[if_neg hneg,hold]at hy
             exact v2.2 (p-o) x0 y hlp hy
           .exact .lost ..
         .rename_i hp
          rw[if_neg (by omega)]at hy
          exact R.2 p x y hx hy
        .cases e2
       have hfs:∀r:List SV,r.length=k→(∃k' n e t',sh.get id=some (SB.row k' n e t'))→∃r',(match lcut r o N with|some l=>zaz r (over_ j (zA q.n n) q.e l 0) o|none=>none)=some r':=by
        intro r hr _
        rw[zc6 (l:=r) (o:=o) (n:=N) (by omega)]
        simp only
        exact za1 _ _ _ (by rw[over_len];simp only[zQ,List.length_drop];omega)
       by_cases hn:zA q.n n=0
       ·
        have hg:∀j,(h.put B.b (.cells cs t' B.x false)).get j=h.get j:=fun j=>by
         rw[Hp.get_put (by have:=H.most;have:=S.lt;omega)]
         split
         .rename_i e;rw[e];exact S.got.symm
         .rfl
        have hput:h.put B.b (.cells cs t' B.x false)=h.put B.b (.cells cs t' B.x false):=rfl
        obtain⟨r1,r2⟩:=zdk H hset g1 g2 g3 S S.one rfl (fun q hq=>rfl) hfs
         (rowOf cs (fun p=>by rw[hn,if_neg (by omega)]) rfl fun p hp=>Q.rows p hp)
         (fun _=>rowOf cs (fun p=>by rw[hn,if_neg (by omega)]) rfl fun p hp=>Q.free hfr p hp)
        refine⟨_,h,by rw[hn];exact hcp.1 hn,.int ..,?_⟩
        exact⟨r1.same Hp.put_next hg,r2.same Hp.put_next hg⟩
       .have hoff:off=B.o+i*k+o+j:=by rcases g7 with g7|g7;omega;exact g7
        obtain⟨cs',hcs'⟩:=za1 off cs (cx.take (zA q.n n*1)) (by omega)
        have hro:ones_ (cx.take (zA q.n n*1))=true:=zca Q.one fun v hv=>zV hv
        have hst:=zba S hat hro hcs'
        have hcell:∀p,cs'[p]?=if B.o+i*k+o+j≤p∧p<B.o+i*k+o+j+zA q.n n then cx[p-(B.o+i*k+o+j)]? else cs[p]?:=fun p=>by
         rw[zax hcs' p,hxl,hoff]
         split
         .rw[List.getElem?_take,if_pos (by omega)]
         .rfl
        obtain⟨r1,r2⟩:=zdk H hset g1 g2 g3 S (zby S.one hro hcs') (zaB hcs') (fun p hp=>by rw[hcell,if_neg (by omega)]) hfs
         (rowOf cs' hcell (zaB hcs') fun p hp=>Q.rows p hp) (fun _=>rowOf cs' hcell (zaB hcs') fun p hp=>Q.free hfr p hp)
        exact⟨_,_,hcp.2 (by omega) _ _ rfl hst,.int ..,r1,r2⟩
     .cases hc
    .cases hc
   .simp only[RT.sel,zB,zD]at hc
    obtain⟨rfl,rfl⟩:=hc
    obtain⟨rfl,_⟩:=hd.raw_inv
    refine⟨_,h,(copy_of (E:=E) (t:=t) (a:=none) (cap:=0) hu hsz (qn 0)).1 (by simp),.int ..,H,Stp.refl F H⟩
   .cases hc
  .cases hc
 .cases hc
end
section
variable {F:Fz} {ι:Im} {sh sh':SH} {h:Hp}
def Both(F:Fz)(ι:Im)(sh:SH)(h:Hp)(v:SV)(sh':SH)(r:Option (Value×Hp)):Prop:=
 ∃v' h' ι',r=some (v',h')∧VRs F ι' v v'∧HRs F ι' sh' h'∧Stp F ι sh h F ι' sh' h'
theorem Both.plain(H:HRs F ι sh h){v:SV}{v':Value}(hv:VRs F ι v v'):Both F ι sh h v sh (some (v',h)):=⟨v',h,ι,rfl,hv,H,Stp.refl F H⟩
theorem zam{v w:SV}{a b:SH}(e:(RT.ret (v,a)).sel=some (w,b)):v=w∧a=b:=by
 simp only[RT.sel,zB,zD]at e;exact e
theorem zdv{ρs:Operand→SV}{ρ:Operand→Value}(hρ:∀x,VRs F ι (ρs x) (ρ x)):∀l:List Operand,LRs F ι (l.map ρs) (l.map ρ)
 | []=>.nil ..
 | x::l=>.cons (hρ x) (zdv hρ l)
theorem call_rel{E:Env}{ρs:Operand→SV}{ρ:Operand→Value}{c:Call}{v:SV}(H:HRs F ι sh h)(hρ:∀x,VRs F ι (ρs x) (ρ x))(hs:(sop E ρs (.call c) sh).sel=some (v,sh')):Both F ι sh h v sh' (aop E ρ (.call c) h):=by
 obtain⟨callee,args,argTypes⟩:=c
 cases callee with
 | value f=>cases hs
 | invoke r m=>cases hs
 | builtin b=>
  simp only[sop]at hs
  simp only[aop]
  split at hs
  .rename_i x t e1 e2
   simp only[e1,e2]
   split at hs
   .rename_i w hl
    obtain⟨rfl,rfl⟩:=zam hs
    obtain⟨v',q1,q2⟩:=len_rel H (hρ x) hl
    rw[q1];exact Both.plain H q2
   .cases hs
  .rename_i s x t u e1 e2
   simp only[e1,e2]
   exact append_rel H (hρ s) (hρ x) hs
  .rename_i d s t _ e1 e2
   simp only[e1,e2]
   obtain⟨v',h',q1,q2,q3,q4⟩:=copy_rel H (hρ d) (hρ s) hs
   exact⟨v',h',ι,q1,q2,q3,q4⟩
  .rename_i x t _ e1 e2
   simp only[e1,e2]
   split at hs
   .rename_i w hl
    obtain⟨rfl,rfl⟩:=zam hs
    obtain⟨h',q1,q2,q3⟩:=clear_rel H (hρ x) hl
    exact⟨_,h',ι,q1,.lost ..,q2,q3⟩
   .cases hs
  .rename_i x l e1
   simp only[e1]
   split at hs
   .rename_i w hl
    obtain⟨rfl,rfl⟩:=zam hs
    obtain⟨v',q1,q2⟩:=mm_rel (hρ x) (zdv hρ l) hl
    rw[q1];exact Both.plain H q2
   .cases hs
  .rename_i x l e1
   simp only[e1]
   split at hs
   .rename_i w hl
    obtain⟨rfl,rfl⟩:=zam hs
    obtain⟨v',q1,q2⟩:=mm_rel (hρ x) (zdv hρ l) hl
    rw[q1];exact Both.plain H q2
   .cases hs
  .cases hs
theorem bin_none{op:BinOp}{E:Env}{d:Nat}{t:TypeId}{a b:SV}{a' b':Value}{r:Bool×Bool}(ha:VRs F ι a a')(hb:VRs F ι b b')(hq:eq1_ E d t a b=some r)(hi:∀k c x k' c' y,a=.int k c x→b=.int k' c' y→False)(hst:∀c x c' y,a=.str c x→b=.str c' y→False) :
  bin_ op a' b'=none∧∀x y,nils_ E t x y a' b'=false:=by
 cases d with
 | zero=>cases hq
 | succ d=>
  unfold eq1_ at hq
  have nn:∀x y,a'≠.nilIface→nils_ E t x y a' b'=false:=fun x y hne=>by
   unfold nils_
   split
   .exact absurd rfl hne
   .rfl
  split at hq
  .obtain rfl:=ha.bool_inv;obtain rfl:=hb.bool_inv;exact⟨rfl,fun x y=>nn x y (by intro e;cases e)⟩
  .exact(hi _ _ _ _ _ _ rfl rfl).elim
  .exact(hst _ _ _ _ rfl rfl).elim
  all_goals first
   | (cases hq;done)
   | (cases ha<;>first|(exact⟨rfl,fun x y=>nn x y (by intro e;cases e)⟩)|(cases hb<;>exact⟨rfl,fun x y=>nn x y (by intro e;cases e)⟩))
theorem sop_rel{E:Env}{ρs:Operand→SV}{ρ:Operand→Value}{op:Op}{v:SV}(H:HRs F ι sh h)(hρ:∀x,VRs F ι (ρs x) (ρ x))(hs:(sop E ρs op sh).sel=some (v,sh')):Both F ι sh h v sh' (aop E ρ op h):=by
 cases op
 case call c=>exact call_rel H hρ hs
 case move x=>obtain⟨rfl,rfl⟩:=zam hs;exact Both.plain H (hρ x)
 case assign x=>obtain⟨rfl,rfl⟩:=zam hs;exact Both.plain H (hρ x)
 case pick c a b=>
  simp only[sop]at hs
  split at hs
  .rename_i cc x hc
   rw[zdl]at hs
   have hv:=(hc▸hρ c:VRs F ι (.bool cc x) (ρ c)).bool_inv
   simp only[aop,hv]
   cases x with
   | true=>obtain⟨rfl,rfl⟩:=zam hs;exact Both.plain H (hρ a)
   | false=>obtain⟨rfl,rfl⟩:=zam hs;exact Both.plain H (hρ b)
  .cases hs
 case alloc e=>
  simp only[sop]at hs
  split at hs
  .rename_i k z hk hz
   split at hs
   .rename_i id sh2 hzl hn
    obtain⟨rfl,rfl⟩:=zam hs
    obtain⟨zv,hzv,Z,o1,_⟩:=zcD (F:=F) (ι:=ι) hz
    obtain⟨h',ι',q1,q2,q3,q4⟩:=var_rel H Z (zF hzl) o1 hn
    simp only[aop,hzv,q1]
    exact⟨_,h',ι',rfl,q2,q3,q4⟩
   .cases hs
  .cases hs
 case box e x=>
  simp only[sop]at hs
  split at hs
  .rename_i k hk hc
   rw[hk]at hc
   simp only[zC]at hc
   obtain⟨L,o1,o2⟩:=cells_rel (hρ x) hc.1
   split at hs
   .rename_i id sh2 hn
    obtain⟨rfl,rfl⟩:=zam hs
    obtain⟨h',ι',q1,q2,q3,q4⟩:=var_rel H L (zF hc.2) o1 hn
    simp only[aop,o2,q1]
    exact⟨_,h',ι',rfl,q2,q3,q4⟩
   .cases hs
  .cases hs
 case build t parts=>
  simp only[sop]at hs
  split at hs
  .rename_i w hb
   obtain⟨rfl,rfl⟩:=zam hs
   obtain⟨p1,p2⟩:=parts_rel hρ parts.toList
   obtain⟨v',q1,q2⟩:=build_rel p1 p2 hb
   simp only[aop,q1]
   exact Both.plain H q2
  .cases hs
 case buildSlice t len parts=>
  simp only[sop]at hs
  split at hs
  .rename_i r hb
   obtain⟨v1,sh1⟩:=r
   obtain⟨rfl,rfl⟩:=zam hs
   obtain⟨p1,p2⟩:=parts_rel hρ parts.toList
   simp only[aop]
   exact buildSlice_rel H p1 p2 hb
  .cases hs
 case load t a=>
  simp only[sop]at hs
  split at hs
  .rename_i w hl
   obtain⟨rfl,rfl⟩:=zam hs
   obtain⟨ad,v',q1,q2,q3⟩:=load_rel H (hρ a) hl
   simp only[aop,q1,q2]
   exact Both.plain H q3
  .cases hs
 case store t a x=>
  simp only[sop]at hs
  split at hs
  .rename_i w hl
   obtain⟨rfl,rfl⟩:=zam hs
   obtain⟨ad,n,h',q1,q2,q3,q4,q5,q6,q7⟩:=store_rel H (hρ a) (hρ x) hl
   simp only[aop,q1,q2,q3,q4,q5]
   exact⟨_,h',ι,rfl,.lost ..,q6,q7⟩
  .cases hs
 case nilCheck x=>
  simp only[sop]at hs
  have hx:=hρ x
  split at hs
  .rename_i id k c i o hc
   rw[hc]at hx
   obtain⟨rfl,rfl⟩:=zam hs
   simp only[aop]
   generalize ρ x=w at hx ⊢
   cases hx with
   | ptr _ _ _ _ _ _ B a h1 h2 h3 h4=>exact Both.plain H (.ptr _ _ _ _ _ _ B a h1 h2 h3 h4)
  .rename_i id k c i o N j hc
   rw[hc]at hx
   obtain⟨rfl,rfl⟩:=zam hs
   simp only[aop]
   generalize ρ x=w at hx ⊢
   cases hx with
   | aptr _ _ _ _ _ _ _ _ B a h1 h2 h3 h4 h5=>exact Both.plain H (.aptr _ _ _ _ _ _ _ _ B a h1 h2 h3 h4 h5)
  .rename_i st k n e i o hc
   rw[hc]at hx
   obtain⟨rfl,rfl⟩:=zam hs
   simp only[aop]
   generalize ρ x=w at hx ⊢
   cases hx with
   | fptr _ _ _ _ _ _ _ b q cs t h1 h2 h3 h4 h5 h6=>exact Both.plain H (.fptr _ _ _ _ _ _ _ b q cs t h1 h2 h3 h4 h5 h6)
  .rename_i f a b hc
   rw[hc]at hx
   obtain⟨rfl,rfl⟩:=zam hs
   simp only[aop]
   generalize ρ x=w at hx ⊢
   cases hx with
   | fn _ _ _ _ a' b' h1 h2 h3 h4=>exact Both.plain H (.fn _ _ _ _ _ _ h1 h2 h3 h4)
  .cases hs
 case binOp op t x y t2=>
  simp only[sop]at hs
  have hx:=hρ x
  have hy:=hρ y
  split at hs
  .rename_i k c a k' c' b hcx hcy
   rw[hcx]at hx;rw[hcy]at hy
   obtain⟨z,h1,h2⟩:=zah hs
   obtain⟨rfl,rfl⟩:=zam h2
   obtain⟨z',q1,q2⟩:=bin_rel hx hy h1
   simp only[aop,q1]
   exact Both.plain H q2
  .rename_i c a c' b hcx hcy
   rw[hcx]at hx;rw[hcy]at hy
   obtain⟨z,h1,h2⟩:=zah hs
   obtain⟨rfl,rfl⟩:=zam h2
   obtain⟨z',q1,q2⟩:=bin_rel hx hy h1
   simp only[aop,q1]
   exact Both.plain H q2
  .rename_i hcx hcy
   rw[hcx]at hx;rw[hcy]at hy
   have ex:=hx.raw_inv.1
   have ey:=hy.raw_inv.1
   simp only[aop,ex,ey,show bin_ op .nilIface .nilIface=none from rfl]
   split at hs
   .rename_i hn
    obtain⟨rfl,rfl⟩:=zam hs
    simp only[hn]
    exact Both.plain H (.bool ..)
   .rename_i hn
    obtain⟨rfl,rfl⟩:=zam hs
    simp only[hn]
    exact Both.plain H (.bool ..)
   .cases hs
  .rename_i a b n1 n2 n3
   split at hs
   .split at hs
    .rename_i c r hg hq
     obtain⟨rfl,rfl⟩:=zam hs
     rw[mkB_eq]
     obtain⟨e1,e2⟩:=bin_none (op:=.eql) hx hy hq (fun k c x k' c' y e1 e2=>n1 _ _ _ _ _ _ e1 e2) (fun c x c' y e1 e2=>n2 _ _ _ _ e1 e2)
     simp only[aop,e1,e2,guard_rel hx hg hq,eq_rel hx hy hq]
     exact Both.plain H (.bool ..)
    .cases hs
   .split at hs
    .rename_i c r hg hq
     obtain⟨rfl,rfl⟩:=zam hs
     rw[mkB_eq]
     obtain⟨e1,e2⟩:=bin_none (op:=.neq) hx hy hq (fun k c x k' c' y e1 e2=>n1 _ _ _ _ _ _ e1 e2) (fun c x c' y e1 e2=>n2 _ _ _ _ e1 e2)
     simp only[aop,e1,e2,guard_rel hx hg hq,eq_rel hx hy hq]
     exact Both.plain H (.bool ..)
    .cases hs
   .cases hs
 case unOp op t x=>
  simp only[sop]at hs
  obtain⟨z,h1,h2⟩:=zah hs
  obtain⟨rfl,rfl⟩:=zam h2
  obtain⟨z',q1,q2⟩:=un_rel (hρ x) h1
  simp only[aop,q1]
  exact Both.plain H q2
 case convert s d x=>exact conv_rel H (hρ x) hs
 case makeInterface t x=>
  simp only[sop]at hs
  simp only[aop]
  cases hu:E.under t with
  | none=>rw[hu]at hs;cases hs
  | some d=>
   rw[hu]at hs
   have key:∀k c n,ρs x=.int k c n→v=.raw (.iface t (.int k n))→sh'=sh→Both F ι sh h v sh' (some (.iface t (ρ x),h)):=fun k c n hx h1 h2=>by
    subst h1 h2
    have hv:=hρ x
    rw[hx]at hv
    rw[hv.int_inv]
    exact Both.plain H (.raw _ _ rfl)
   cases d with
   | interface ms=>cases hs
   | _=>
    cases hx:ρs x with
    | int k c n=>
     rw[hx]at hs
     obtain⟨h1,h2⟩:=zam hs
     exact key k c n hx h1.symm h2.symm
    | _=>rw[hx]at hs;cases hs
 case makeFunc f first captured=>
  cases f with
  | func f=>
   simp only[sop]at hs
   obtain⟨rfl,rfl⟩:=zam hs
   simp only[aop]
   have h1:=zdv hρ first.toList
   have h2:=zdv hρ captured.toList
   have:=VRs.fn (F:=F) ι f (first.toList.map ρs) (captured.toList.map ρs) (first.toList.map ρ) (captured.toList.map ρ) h1.1 h1.2 h2.1 h2.2
   have e1:(⟨first.toList.map ρ⟩:Array Value)=first.map ρ:=by apply Array.ext';simp
   have e2:(⟨captured.toList.map ρ⟩:Array Value)=captured.map ρ:=by apply Array.ext';simp
   rw[e1,e2]at this
   exact Both.plain H this
  | _=>cases hs
 case makeMap t r=>
  cases r with
  | some _=>cases hs
  | none=>
   simp only[sop]at hs
   split at hs
   .rename_i b sh2 hn
    obtain⟨rfl,rfl⟩:=zam hs
    obtain⟨b',h',ι',q1,q2,q3,q4⟩:=makeMap_rel H hn
    simp only[aop,q1]
    exact⟨_,h',ι',rfl,q2,q3,q4⟩
   .cases hs
 case makeSlice t l c=>exact makeSlice_rel H (hρ l) (hρ c) hs
 case slice t x lo hi mx=>
  obtain⟨rfl,v',q1,q2⟩:=slice_rel H (hρ x) (ORs.map hρ lo) (ORs.map hρ hi) (ORs.map hρ mx) hs
  simp only[aop,q1]
  exact Both.plain H q2
 case fieldAddr s x f=>
  simp only[sop]at hs
  split at hs
  .rename_i w hb
   obtain⟨rfl,rfl⟩:=zam hs
   obtain⟨v',q1,q2⟩:=fieldAddr_rel (hρ x) hb
   simp only[aop,q1]
   exact Both.plain H q2
  .cases hs
 case field s x f=>
  simp only[sop]at hs
  split at hs
  .rename_i w hb
   obtain⟨rfl,rfl⟩:=zam hs
   obtain⟨v',q1,q2⟩:=field_rel (hρ x) hb
   simp only[aop,q1]
   exact Both.plain H q2
  .cases hs
 case indexAddr t x i=>
  simp only[sop]at hs
  obtain⟨z,h1,h2⟩:=zah hs
  obtain⟨rfl,rfl⟩:=zam h2
  obtain⟨z',q1,q2⟩:=indexAddr_rel (hρ x) (hρ i) h1
  simp only[aop,q1]
  exact Both.plain H q2
 case index t x i=>
  simp only[sop]at hs
  obtain⟨z,h1,h2⟩:=zah hs
  obtain⟨rfl,rfl⟩:=zam h2
  obtain⟨z',q1,q2⟩:=index_rel (hρ x) (hρ i) h1
  simp only[aop,q1]
  exact Both.plain H q2
 case lookup t x k ok=>
  simp only[sop]at hs
  obtain⟨z,h1,h2⟩:=zah hs
  obtain⟨rfl,rfl⟩:=zam h2
  obtain⟨v',q1,q2⟩:=lookupR_rel H (hρ x) (hρ k) h1
  simp only[aop,q1]
  exact Both.plain H q2
 case mapUpdate t m k x=>
  simp only[sop]at hs
  obtain⟨z,h1,h2⟩:=zah hs
  obtain⟨rfl,rfl⟩:=zam h2
  obtain⟨h',q1,q2,q3⟩:=mapUpdateR_rel H (hρ m) (hρ k) (hρ x) h1
  simp only[aop,q1]
  exact⟨_,h',ι,rfl,.lost ..,q2,q3⟩
 case extract t i=>
  simp only[sop]at hs
  split at hs
  .rename_i vs hc
   split at hs
   .rename_i w hw
    obtain⟨rfl,rfl⟩:=zam hs
    obtain⟨l',hl,L⟩:=(hc▸hρ t:VRs F ι (.tup vs) (ρ t)).tup_inv
    obtain⟨y,hy,q⟩:=L.get hw
    simp only[aop,hl]
    have hy2:(⟨l'⟩:Array Value).toList[i]?=some y:=hy
    simp only[hy2]
    exact Both.plain H q
   .cases hs
  .cases hs
 all_goals cases hs
end
structure FRs(F:Fz)(ι:Im)(a:Fs)(b:Fr):Prop where
 n:a.n=b.n
 small:a.n≤100000
 at_:∀t v,a.t.get t=some v→∃v',b.t.get t=some v'∧VRs F ι v v'
theorem FRs.mono{F F':Fz}{ι ι':Im}{a:Fs}{b:Fr}(h:FRs F ι a b)(hF:F.le F')(hi:ι.le ι'):FRs F' ι' a b:=
 ⟨h.n,h.small,fun t v e=>by obtain⟨v',q1,q2⟩:=h.at_ t v e;exact⟨v',q1,q2.mono hF hi⟩⟩
theorem ofV_bare{v:Value}{x:SV}(h:ofV v=some x):bare_ v=true:=by
 unfold ofV at h
 split at h<;>first|rfl|cases h
theorem ofVs_bares:∀ {l:List Value} {r:List SV},ofVs l=some r→zdg l=true
 | [],_,_=>rfl
 | v::l,r,h=>by
  unfold ofVs at h
  split at h
  .rename_i x r' hx hr
   unfold zdg
   rw[ofV_bare hx]
   exact ofVs_bares hr
  .cases h
theorem const_rel{F:Fz}{ι:Im}{v:Value}:VRs F ι (ofC v) (zcf v):=by
 unfold ofC zcf
 split
 .rename_i cs
  split
  .rename_i l hl
   simp only[ofVs_bares hl]
   exact .agg_of (l':=cs.toList) (ofVs_rel hl)
  .exact .lost ..
 .rename_i hne
  split
  .rename_i x hx
   split
   .rename_i cs;exact absurd rfl (hne cs)
   .simp only[ofV_bare hx]
    exact ofV_rel hx
  .exact .lost ..
theorem FRs.eval{F:Fz}{ι:Im}{a:Fs}{b:Fr}(h:FRs F ι a b)(x:Operand):VRs F ι (a.eval x) (b.eval x):=by
 cases x with
 | tmp t=>
  unfold Fs.eval Fr.eval
  simp only
  split
  .rename_i v hv
   obtain⟨v',q1,q2⟩:=h.at_ t v hv
   rw[q1];exact q2
  .exact .lost ..
 | const v=>exact const_rel
 | global g=>exact .lost ..
 | func f=>exact .fn _ _ _ _ _ _ rfl (fun i x y hx=>by simp at hx) rfl (fun i x y hx=>by simp at hx)
theorem FRs.put{F:Fz}{ι:Im}{a a':Fs}{b:Fr}(h:FRs F ι a b){d:Option Tmp}{v:SV}{v':Value}(hv:VRs F ι v v')(hp:a.put d v=some a'):∃b',b.put d v'=some b'∧FRs F ι a' b':=by
 cases d with
 | none=>
  injection hp with hp;subst hp
  exact⟨b,by rw[Fr.put_eq],h⟩
 | some d=>
  unfold Fs.put at hp
  simp only at hp
  cases hb:zE d a.n with
  | false=>rw[hb]at hp;cases hp
  | true=>
   rw[hb]at hp
   simp only[cond_true,Tr.force_eq,zB]at hp
   subst hp
   have hd:Nat.lt d a.n:=zJ hb
   have h24:d+1<2 ^ 64:=zW (Nat.le_trans hd h.small) (by decide)
   refine⟨⟨b.n,b.gl,b.t.set 24 d v'⟩,by rw[Fr.put_eq];simp only;rw[show zE d b.n=true by rw[←h.n];exact hb];simp only[cond_true,Tr.force_eq],h.n,h.small,fun t w hw=>?_⟩
   simp only at hw ⊢
   rw[Tr.get_set 24 _ _ _ _ h24]at hw
   rw[Tr.get_set 24 _ _ _ _ h24]
   by_cases ht:t=d
   .rw[if_pos ht]at hw ⊢
    injection hw with hw;subst hw
    exact⟨v',rfl,hv⟩
   .rw[if_neg ht]at hw ⊢
    exact h.at_ t w hw
theorem FRs.known{F:Fz}{ι:Im}{a a':Fs}{b:Fr}(h:FRs F ι a b){d:Tmp}{v:SV}{v':Value}(hb:b.t.get d=some v')(hv:VRs F ι v v')(hp:a.put (some d) v=some a'):FRs F ι a' b:=by
 unfold Fs.put at hp
 simp only at hp
 cases hbl:zE d a.n with
 | false=>rw[hbl]at hp;cases hp
 | true=>
  rw[hbl]at hp
  simp only[cond_true,Tr.force_eq,zB]at hp
  subst hp
  have hd:Nat.lt d a.n:=zJ hbl
  have h24:d+1<2 ^ 64:=zW (Nat.le_trans hd h.small) (by decide)
  refine⟨h.n,h.small,fun t w hw=>?_⟩
  simp only at hw
  rw[Tr.get_set 24 _ _ _ _ h24]at hw
  by_cases ht:t=d
  .rw[if_pos ht]at hw
   injection hw with hw;subst hw;subst ht
   exact⟨v',hb,hv⟩
  .rw[if_neg ht]at hw
   exact h.at_ t w hw
theorem wanted_rel{α:Type}{F:Fz}{ι:Im}{a:Fs}{b:Fr}{ops:List Oper}{o:Oper}{f:Bool→Fs→RT α}{r:α}(h:FRs F ι a b)(hs:(zdj a ops o f).sel=some r) :
  ∃did a2,zbX b ops o=some did∧FRs F ι a2 b∧(f did a2).sel=some r:=by
 unfold zdj at hs
 unfold zbX
 split at hs
 .rename_i hg;rw[hg];exact⟨true,a,rfl,h,hs⟩
 .rename_i j w hg
  rw[hg]
  simp only
  split at hs
  .rename_i d _ _ _ _ _ ho
   simp only[ho]
   split at hs
   .rename_i x hx
    obtain⟨v',q1,q2⟩:=h.at_ _ _ hx
    rw[q2.bool_inv]at q1
    simp only[q1]
    exact⟨_,a,rfl,h,hs⟩
   .rename_i x hx
    obtain⟨v',q1,q2⟩:=h.at_ _ _ hx
    rw[q2.bool_inv]at q1
    simp only[q1]
    split at hs
    .rename_i a1 a2 h1 h2
     cases x with
     | true=>exact⟨w,a1,by simp,h.known q1 (.bool ..) h1,hs⟩
     | false=>exact⟨!w,a2,by simp,h.known q1 (.bool ..) h2,hs⟩
    .cases hs
   .rename_i hx
    obtain⟨v',q1,q2⟩:=h.at_ _ _ hx
    obtain⟨l',e,_⟩:=q2.tup_inv
    rw[e]at q1
    simp only[q1]
    exact⟨false,a,rfl,h,hs⟩
   .cases hs
  .cases hs
def Out(F:Fz)(ι:Im)(sh:SH)(h:Hp)(v:SV)(sh':SH)(r:Nat→Option (Value×Hp)):Prop:=
 ∃N v' h' F' ι',(∀n,N≤n→r n=some (v',h'))∧VRs F' ι' v v'∧HRs F' ι' sh' h'∧Stp F ι sh h F' ι' sh' h'
def Steps(Q:Fz→Hp→Prop):Prop:=∀ {F:Fz} {ι:Im} {sh:SH} {h:Hp} {F':Fz} {ι':Im} {sh':SH} {h':Hp},Q F h→HRs F ι sh h→Stp F ι sh h F' ι' sh' h'→Q F' h'
theorem steps_le{F0:Fz}:Steps (fun F _=>F0.le F):=fun q _ S=>q.trans S.fm
def CallR(Q:Fz→Hp→Prop)(callS:FuncId→List SV→SH→RT (SV×SH))(callH:Nat→FuncId→List Value→Hp→Option (Value×Hp)):Prop:=
 ∀f args sh v sh' F ι h args',Q F h→HRs F ι sh h→LRs F ι args args'→(callS f args sh).sel=some (v,sh')→Out F ι sh h v sh' fun n=>callH n f args' h
section
variable {E:Env} {callS:FuncId→List SV→SH→RT (SV×SH)} {callH:Nat→FuncId→List Value→Hp→Option (Value×Hp)}
theorem callee_rel{F:Fz}{ι:Im}{ρs:Operand→SV}{ρ:Operand→Value}{c:Call}{f:FuncId}{args:List SV}(hρ:∀x,VRs F ι (ρs x) (ρ x))(h:callee1_ ρs c=some (f,args)):∃args',zcn E ρ c=some (f,args')∧LRs F ι args args':=by
 unfold callee1_ at h
 unfold zcn
 split at h
 .rename_i g hc
  rw[hc]
  simp only
  split at h
  .rename_i f' first captured hg
   injection h with h;injection h with e1 e2;subst e1;subst e2
   have hr:=hρ g
   rw[hg]at hr
   generalize ρ g=w at hr ⊢
   cases hr with
   | fn _ _ _ _ a' b' h1 h2 h3 h4=>
    refine⟨_,rfl,?_⟩
    exact(LRs.append (⟨h1,h2⟩:LRs F ι first a') (zdv hρ _)).append ⟨h3,h4⟩
  .cases h
 .cases h
theorem oneOp_rel{Q:Fz→Hp→Prop}(hc:CallR Q callS callH){F:Fz}{h:Hp}(h0:Q F h){ι:Im}{sh sh':SH}{ρs:Operand→SV}{ρ:Operand→Value}{op:Op}{v:SV}(H:HRs F ι sh h)(hρ:∀x,VRs F ι (ρs x) (ρ x))(hs:(oneOp1 E callS ρs op sh).sel=some (v,sh')) :
  Out F ι sh h v sh' fun n=>oneOp E (callH n) ρ op h:=by
 have plain:(sop E ρs op sh).sel=some (v,sh')→(∀n,oneOp E (callH n) ρ op h=aop E ρ op h)→Out F ι sh h v sh' fun n=>oneOp E (callH n) ρ op h:=by
  intro h1 h2
  obtain⟨v',h',ι',q1,q2,q3,q4⟩:=sop_rel H hρ h1
  exact⟨0,v',h',F,ι',fun n _=>by simp only[h2,q1],q2,q3,q4⟩
 cases op
 case call c=>
  unfold oneOp1 at hs
  simp only at hs
  split at hs
  .rename_i g hcal
   split at hs
   .rename_i f args hce
    obtain⟨args',q1,q2⟩:=callee_rel (E:=E) hρ hce
    have:=hc f args sh v sh' F ι h args' h0 H q2 hs
    obtain⟨N,v',h',F',ι',r1,r2⟩:=this
    refine⟨N,v',h',F',ι',fun n hn=>?_,r2⟩
    unfold oneOp
    simp only[hcal,q1]
    exact r1 n hn
   .cases hs
  .rename_i hne
   by_cases hinv:∃x m,c.callee=.invoke x m
   .obtain⟨x,m,hx⟩:=hinv
    obtain⟨callee,cargs,ctys⟩:=c
    simp only at hx
    subst hx
    cases hs
   .refine plain hs fun n=>?_
    unfold oneOp
    simp only
    split
    .rename_i x hx;exact absurd hx (hne x)
    .rename_i x m hx;exact absurd ⟨x,m,hx⟩ hinv
    .rfl
 all_goals exact plain hs fun n=>rfl
theorem ops_rel{Q:Fz→Hp→Prop}(hS:Steps Q)(hc:CallR Q callS callH){all:List Oper}:∀ {rest:List Oper} {F:Fz} {ι:Im} {a a':Fs} {b:Fr} {sh sh':SH} {h:Hp},Q F h→HRs F ι sh h→FRs F ι a b→(sops E callS all rest a sh).sel=some (a',sh')→
  ∃N b' h' F' ι',(∀n,N≤n→ops_ E (callH n) all rest b h=.ok .normal b' h')∧FRs F' ι' a' b'∧HRs F' ι' sh' h'∧Stp F ι sh h F' ι' sh' h'
 | [],F,ι,a,a',b,sh,sh',h,h0,H,hf,hs=>by
  unfold sops at hs
  simp only[RT.sel,zB,zD]at hs
  obtain⟨rfl,rfl⟩:=hs
  exact⟨0,b,h,F,ι,fun _ _=>rfl,hf,H,Stp.refl F H⟩
 | o::rest,F,ι,a,a',b,sh,sh',h,h0,H,hf,hs=>by
  unfold sops at hs
  obtain⟨did,a2,w1,w2,w3⟩:=wanted_rel hf hs
  cases did with
  | true=>
   simp only at w3
   obtain⟨⟨v,sh1⟩,o1,o2⟩:=zah w3
   obtain⟨N,v',h1,F1,ι1,q1,q2,q3,q4⟩:=oneOp_rel hc h0 H w2.eval o1
   simp only at o2
   split at o2
   .rename_i a3 hput
    obtain⟨b3,p1,p2⟩:=(w2.mono q4.fm (q4.le H)).put q2 hput
    obtain⟨N2,b',h',F',ι',r1,r2,r3,r4⟩:=ops_rel hS hc (hS h0 H q4) q3 p2 o2
    refine⟨max N N2,b',h',F',ι',fun n hn=>?_,r2,r3,q4.trans r4⟩
    have e1:=q1 n (by omega)
    have e2:=r1 n (by omega)
    simp only at e1
    unfold ops_
    simp only[w1,e1,p1]
    exact e2
   .cases o2
  | false=>
   simp only at w3
   split at w3
   .rename_i a3 hput
    obtain⟨b3,p1,p2⟩:=w2.put (v:=.tup []) (v':=undef) (VRs.tup_of (.nil ..)) hput
    obtain⟨N2,b',h',F',ι',r1,r2,r3,r4⟩:=ops_rel hS hc h0 H p2 w3
    refine⟨N2,b',h',F',ι',fun n hn=>?_,r2,r3,r4⟩
    have e2:=r1 n hn
    unfold ops_
    simp only[w1,p1]
    exact e2
   .cases w3
end
def SameB(h1 h2:Hp)(b:Nat):Prop:=h1.get b=h2.get b∧∀w,h1.get b=some (.view w)→h1.get w=h2.get w
theorem SameB.load{h1 h2:Hp}{a:Addr}(s:SameB h1 h2 a.block)(n:Nat):zaj h1 a n=zaj h2 a n:=by
 unfold zaj
 rw[←s.1]
 cases e:h1.get a.block with
 | none=>rfl
 | some x=>
  cases x with
  | view w=>simp only;rw[s.2 w e]
  | _=>rfl
theorem SameB.exact{h1 h2:Hp}{b:Nat}(s:SameB h1 h2 b):zaw h1 b=zaw h2 b:=by unfold zaw;rw[s.1]
theorem SameB.loadVar{h1 h2:Hp}{E:Env}{t:TypeId}{a:Addr}(s:SameB h1 h2 a.block):za8 E h1 t a=za8 E h2 t a:=by
 unfold za8
 split<;>simp only[s.load]
def SameV(h1 h2:Hp):Value→Prop
 | .pointer (some a)=>SameB h1 h2 a.block
 | .slice (some a) _ _=>SameB h1 h2 a.block
 | .map (some r)=>h1.get r=h2.get r
 | _=>True
structure State where
 F:Fz
 ι:Im
 sh:SH
 h:Hp
def State.ok(s:State):Prop:=HRs s.F s.ι s.sh s.h
def State.to(s t:State):Prop:=Stp s.F s.ι s.sh s.h t.F t.ι t.sh t.h
theorem log_new{u w:State}(S:u.to w){nw:List Nat}(e:w.sh.log=nw++u.sh.log):w.sh.log.take (w.sh.log.length-u.sh.log.length)=nw:=by
 rw[e];simp
theorem still_block{u w:State}(U:u.ok)(S:u.to w){id:Nat}(hs:zdC ([id],0) u.sh w.sh=true)(hl:Live u.sh id∨Live w.sh id) :
  id<u.sh.next∧w.sh.get id=u.sh.get id∧w.ι id=u.ι id∧∀B,u.ι id=some B→(∃cs t,zas u.h B cs t)∨(∃es c,u.h.get B.b=some (.map es c)∧B.b<u.h.next)→w.h.get B.b=u.h.get B.b∧((∃cs t,zas u.h B cs t)→B.x=false→w.h.get (B.b+1)=u.h.get (B.b+1)):=by
 obtain⟨nw,l1,l2,l3,l4,l5⟩:=S.log
 unfold zdC at hs
 rw[log_new S l1]at hs
 simp only[zC,List.all_cons,List.all_nil,Bool.and_true,Bool.not_eq_true']at hs
 obtain⟨_,hlt,hno⟩:=hs
 have hlt:id<u.sh.next:=by simpa [zH]using hlt
 have hno:id∉nw:=fun hm=>by
  have:nw.any (zG id)=true:=List.any_eq_true.2 ⟨id,hm,by simp⟩
  rw[this]at hno;cases hno
 have hget:=l2 id hlt hno
 have hlive:Live u.sh id:=by
  rcases hl with q|⟨sb,q1,q2⟩
  .exact q
  .exact⟨sb,by rw[←hget];exact q1,q2⟩
 refine⟨hlt,hget,S.im id hlt,fun B hB hst=>?_⟩
 have hblt:B.b<u.h.next:=by
  rcases hst with⟨cs,t,q⟩|⟨es,c,_,q⟩
  .exact q.lt
  .exact q
 have hother:∀id2 B2,id2∈nw→id2<u.sh.next→u.ι id2=some B2→B2.b≠B.b:=fun id2 B2 h1 h2 h3=>U.apart id2 id B2 B (fun e=>hno (e▸h1)) (l3 id2 h1 h2) hlive h3 hB
 refine⟨l4 B.b hblt hother,fun⟨cs,t,q⟩ hx=>l4 (B.b+1) (q.vlt hx) fun id2 B2 h1 h2 h3 e=>?_⟩
 obtain⟨sb,s1,s2⟩:=l3 id2 h1 h2
 have hv:=q.view hx
 rw[←e]at hv
 have:=U.ok id2 sb s1
 cases sb with
 | lst k rows t=>obtain⟨B',cs',q1,_,_,q4,_⟩:=this;rw[h3]at q1;injection q1 with q1;subst q1;rw[q4.got]at hv;cases hv
 | row k n f t=>
  rcases this with⟨_,q'⟩|⟨B',cs',q1,_,_,q4,_⟩
  .rw[h3]at q';cases q'
  .rw[h3]at q1;injection q1 with q1;subst q1;rw[q4.got]at hv;cases hv
 | mp es c=>obtain⟨B',q1,q2,_⟩:=this;rw[h3]at q1;injection q1 with q1;subst q1;rw[q2]at hv;cases hv
 | gone=>exact absurd rfl s2
theorem still_frozen{u w:State}(U:u.ok)(S:u.to w){st b t:Nat}{cs:List Value}(hs:zdC ([],st) u.sh w.sh=true)(ht:t≤st)(hF:u.F b=some (cs,t)∨w.F b=some (cs,t)):SameB u.h w.h b:=by
 unfold zdC at hs
 simp only[List.all_nil,Bool.and_true]at hs
 have hst:st≤u.sh.clk:=zJ hs
 have hF2:u.F b=some (cs,t):=by
  rcases hF with q|q
  .exact q
  .rcases S.fnew b cs t q with q|⟨q,_⟩
   .exact q
   .omega
 obtain⟨f1,f2,f3,e,x,ro,f4⟩:=U.frz b cs t hF2
 obtain⟨nw,l1,l2,l3,l4,l5⟩:=S.log
 have:=l4 b f2 fun id2 B2 h1 h2 h3=>U.fap b _ id2 B2 hF2 (l3 id2 h1 h2) h3
 exact⟨this.symm,fun v e2=>by rw[f4]at e2;cases e2⟩
theorem still_at{u w:State}(U:u.ok)(W:w.ok)(S:u.to w){B:Bl}{id a:Nat}{cs:List Value}{t:TypeId}(hs:zdC ([id],0) u.sh w.sh=true)(hl:Live u.sh id∨Live w.sh id)(hi:u.ι id=some B∨w.ι id=some B)
  (hst:zas u.h B cs t∨zas w.h B cs t) (ha:B.at a):SameB u.h w.h a∧(B.x=false→a=B.b→u.h.get (a+1)=w.h.get (a+1))∧u.ι id=some B∧w.ι id=some B:=by
 obtain⟨h1,h2,h3,h4⟩:=still_block U S hs hl
 have hu:u.ι id=some B:=by rcases hi with q|q;exact q;rw[←h3];exact q
 have hsu:∃cs t,zas u.h B cs t:=by
  rcases hst with q|q
  .exact⟨_,_,q⟩
  ·
   have hlive:Live u.sh id:=by
    rcases hl with l|⟨sb,q1,q2⟩
    .exact l
    .exact⟨sb,by rw[←h2];exact q1,q2⟩
   obtain⟨sb,s1,s2⟩:=hlive
   have:=U.ok id sb s1
   cases sb with
   | lst k rows t=>obtain⟨B',cs',q1,_,_,q4,_⟩:=this;rw[hu]at q1;injection q1 with q1;subst q1;exact⟨_,_,q4⟩
   | row k n f t=>
    rcases this with⟨_,q'⟩|⟨B',cs',q1,_,_,q4,_⟩
    .rw[hu]at q';cases q'
    .rw[hu]at q1;injection q1 with q1;subst q1;exact⟨_,_,q4⟩
   | mp es c=>
    obtain⟨B',q1,q2,q3⟩:=W.ok id (.mp es c) (by rw[h2];exact s1)
    rw[h3,hu]at q1;injection q1 with q1;subst q1
    rw[q.got]at q2;cases q2
   | gone=>exact absurd rfl s2
 obtain⟨k1,k2⟩:=h4 B hu (.inl hsu)
 obtain⟨cs',t',S'⟩:=hsu
 refine⟨?_,fun hx e=>?_,hu,by rw[h3];exact hu⟩
 .rcases ha with rfl|⟨hx,rfl⟩
  .exact⟨k1.symm,fun v e=>by rw[S'.got]at e;cases e⟩
  .refine⟨(k2 ⟨_,_,S'⟩ hx).symm,fun v e=>?_⟩
   rw[S'.view hx]at e
   injection e with e;injection e with e;subst e
   exact k1.symm
 .subst e;exact(k2 ⟨_,_,S'⟩ hx).symm
def Rd(E:Env)(ρ:Operand→Value)(op:Op)(h1 h2:Hp):Prop:=∃X:Hp→Option Value,(∀g,aop E ρ op g=match X g with|some x=>some (x,g)|none=>none)∧X h1=X h2
theorem Rd.use{E:Env}{ρ:Operand→Value}{op:Op}{h1 h2 h':Hp}{v:Value}(R:Rd E ρ op h1 h2)(h:aop E ρ op h1=some (v,h')∨aop E ρ op h2=some (v,h')):aop E ρ op h1=some (v,h1)∧aop E ρ op h2=some (v,h2):=by
 obtain⟨X,e1,e2⟩:=R
 have key:∀g,aop E ρ op g=some (v,h')→X g=some v:=fun g e=>by
  rw[e1]at e
  cases hx:X g with
  | none=>rw[hx]at e;cases e
  | some x=>rw[hx]at e;injection e with e;injection e with e;rw[e]
 rcases h with h|h
 .have:=key _ h
  exact⟨by rw[e1,this],by rw[e1,←e2,this]⟩
 .have:=key _ h
  exact⟨by rw[e1,e2,this],by rw[e1,this]⟩
theorem slice_keeps{E:Env}{t:TypeId}{x:Value}{lo hi:Option Value}(g:Hp):zaE E t x lo hi none g=match(zaE E t x lo hi none g).map (·.1)with|some x=>some (x,g)|none=>none:=by
 unfold zaE
 simp only[Bool.cond_eq_ite]
 repeat' split
 all_goals first|rfl|simp_all
theorem slice_alike{E:Env}{t:TypeId}{x:Value}{lo hi:Option Value}{h1 h2:Hp}(hs:SameV h1 h2 x)(hp:∀a,x=.pointer (some a)→zaw h1 a.block=some false→h1.get (a.block+1)=h2.get (a.block+1)) :
  (zaE E t x lo hi none h1).map (·.1)=(zaE E t x lo hi none h2).map (·.1):=by
 cases x with
 | slice a n c=>
  cases a with
  | none=>
   unfold zaE
   cases E.under t with
   | none=>rfl
   | some d=>
    cases d<;>try rfl
    simp only
    split<;>rfl
  | some a=>
   have he:zaw h1 a.block=zaw h2 a.block:=SameB.exact hs
   unfold zaE
   cases E.under t with
   | none=>rfl
   | some d=>
    cases d<;>try rfl
    simp only[←he]
    cases E.size _ with
    | none=>rfl
    | some s=>
     cases zaw h1 a.block with
     | none=>rfl
     | some b=>
      cases b with
      | true=>simp only;split<;>rfl
      | false=>
       simp only
       cases zaU n c lo hi none with
       | none=>rfl
       | some q=>
        obtain⟨l,hv,m⟩:=q
        simp only
        cases zI hv c<;>cases zE l c<;>rfl
 | pointer a=>
  cases a with
  | none=>unfold zaE;cases E.under t with|none=>rfl|some d=>cases d<;>rfl
  | some a=>
   obtain⟨b,o,sp⟩:=a
   cases sp with
   | some s=>unfold zaE;cases E.under t with|none=>rfl|some d=>cases d<;>rfl
   | none=>
    have he:zaw h1 b=zaw h2 b:=SameB.exact hs
    have hp':=hp _ rfl
    simp only at hp'
    unfold zaE
    cases E.under t with
    | none=>rfl
    | some d=>
     cases d<;>try rfl
     simp only[←he]
     cases E.size _ with
     | none=>rfl
     | some s=>
      rename_i nn _
      cases zaU nn nn lo hi none with
      | none=>rfl
      | some q=>
       obtain⟨l,hv,m⟩:=q
       simp only
       cases hx:zaw h1 b with
       | none=>rfl
       | some bb=>
        cases bb with
        | true=>rfl
        | false=>
         simp only
         rw[←hp' hx]
         cases h1.get (b+1)with
         | none=>rfl
         | some y=>
          cases y<;>try rfl
          simp only
          cases zG _ b<;>rfl
 | string s=>
  unfold zaE
  cases E.under t with
  | none=>rfl
  | some d=>
   cases d<;>try rfl
   simp only
   cases zaU s.data.toList.length s.data.toList.length lo hi none with
   | none=>rfl
   | some q=>obtain⟨l,hv,m⟩:=q;simp only;cases lcut s.data.toList l (hv-l)<;>rfl
 | chan r=>
  cases r with
  | none=>
   unfold zaE
   cases E.under t with
   | none=>rfl
   | some d=>
    cases d<;>try rfl
    simp only
    cases E.size _ with
    | none=>rfl
    | some s=>cases zaU 0 0 lo hi none<;>rfl
  | some r=>unfold zaE;cases E.under t with|none=>rfl|some d=>cases d<;>rfl
 | _=>unfold zaE;cases E.under t with|none=>rfl|some d=>cases d<;>rfl
theorem conv_keeps{E:Env}{s d:TypeId}{x:Value}(hd:E.under d=some .string)(g:Hp):conv_ E s d x g=match(conv_ E s d x g).map (·.1)with|some x=>some (x,g)|none=>none:=by
 unfold conv_
 rw[hd]
 repeat' split
 all_goals first|rfl|simp_all
theorem conv_alike{E:Env}{s d:TypeId}{x:Value}{h1 h2:Hp}(hd:E.under d=some .string)(hs:SameV h1 h2 x):(conv_ E s d x h1).map (·.1)=(conv_ E s d x h2).map (·.1):=by
 cases x with
 | slice a n c=>
  cases a with
  | none=>
   unfold conv_
   rw[hd]
   cases E.under s with
   | none=>rfl
   | some u=>
    cases u<;>try rfl
    simp only
    split<;>rfl
  | some a=>
   have hl:zaj h1 a n=zaj h2 a n:=SameB.load hs n
   unfold conv_
   rw[hd]
   cases E.under s with
   | none=>rfl
   | some u=>
    cases u<;>try rfl
    simp only[←hl]
    split
    .cases zaj h1 a n with
     | none=>rfl
     | some c=>simp only;cases zbe c<;>rfl
    .rfl
 | chan r=>
  cases r with
  | none=>
   unfold conv_
   rw[hd]
   cases E.under s with
   | none=>rfl
   | some u=>
    cases u<;>try rfl
    simp only
    split<;>rfl
  | some r=>
   unfold conv_
   rw[hd]
   cases E.under s with
   | none=>rfl
   | some u=>cases u<;>rfl
 | _=>
  unfold conv_
  rw[hd]
  cases E.under s with
  | none=>rfl
  | some u=>cases u<;>rfl
theorem len_alike{E:Env}{t:TypeId}{x:Value}{h1 h2:Hp}(hs:∀r,x=.map (some r)→h1.get r=h2.get r):len_ E t x h1=len_ E t x h2:=by
 cases x with
 | map r=>
  cases r with
  | none=>unfold len_;cases E.under t with|none=>rfl|some d=>cases d<;>rfl
  | some r=>unfold len_;cases E.under t with|none=>rfl|some d=>cases d<;>first|rfl|(simp only[hs r rfl])
 | chan r=>cases r<;>(unfold len_;cases E.under t with|none=>rfl|some d=>cases d<;>rfl)
 | _=>unfold len_;cases E.under t with|none=>rfl|some d=>cases d<;>rfl
theorem lookup_alike{E:Env}{t:TypeId}{x k:Value}{ok:Bool}{h1 h2:Hp}(hs:∀r,x=.map (some r)→h1.get r=h2.get r):zbK E t x k ok h1=zbK E t x k ok h2:=by
 have:zbS h1 x=zbS h2 x:=by
  cases x with
  | map r=>cases r with|none=>rfl|some r=>unfold zbS;simp only[hs r rfl]
  | _=>rfl
 unfold zbK
 rw[this]
theorem live1_live{sh:SH}{id:Nat}(h:live1 sh id=true):Live sh id:=by
 unfold live1 at h
 split at h
 .rename_i hg;exact⟨_,hg,by intro e;cases e⟩
 .rename_i hg;exact⟨_,hg,by intro e;cases e⟩
 .cases h
theorem rowAt_live{sh:SH}{id:Nat}{b:SB}{c:Bool}{i:Nat}{r:List SV}(hb:sh.get id=some b)(hr:rowAt b c i=some r):live1 sh id=true:=by
 unfold live1
 rw[hb]
 cases b<;>first|rfl|cases hr
def there(sh:SH):SV→Prop
 | .ptr id _ _ _ _|.aptr id _ _ _ _ _ _|.asl id _ _ _ _ _ _ _ _=>live1 sh id=true
 | .nsl id _ _ _ _ _=>live1 sh id=true
 | .mp id=>∃es c,sh.get id=some (.mp es c)
 | _=>True
theorem zcr{u w t:State}(ht:t=u∨t=w)(U:u.ok)(W:w.ok)(S:u.to w){x:SV}{x':Value}{r:List Nat×Nat}(hx:VRs t.F t.ι x x')(hof:of1_ x=some r)(hst:zdC r u.sh w.sh=true)(hl:there t.sh x) :
  SameV u.h w.h x'∧((∃id k c i o,x=.ptr id k c i o)→∀a,x'=.pointer (some a)→zaw u.h a.block=some false→u.h.get (a.block+1)=w.h.get (a.block+1)):=by
 have T:t.ok:=by rcases ht with rfl|rfl<;>assumption
 have or_:∀ {P:State→Prop},P t→P u∨P w:=fun p=>by rcases ht with rfl|rfl;exact .inl p;exact .inr p
 have block:∀ {id:Nat} {B:Bl} {a:Nat},of1_ x=some ([id],0)→live1 t.sh id=true→t.ι id=some B→B.at a→SameB u.h w.h a∧(B.x=false→a=B.b→u.h.get (a+1)=w.h.get (a+1))∧(∃cs t',zas t.h B cs t')∧u.ι id=some B∧w.ι id=some B:=by
  intro id B a e1 e2 e3 e4
  rw[e1]at hof
  injection hof with hof
  subst hof
  obtain⟨cs,t',q⟩:=za4 T e2 e3
  obtain⟨r1,r2,r3⟩:=still_at U W S hst (or_ (P:=fun s=>Live s.sh id) (live1_live e2)) (or_ (P:=fun s=>s.ι id=some B) e3) (or_ (P:=fun s=>zas s.h B cs t') q) e4
  exact⟨r1,r2,⟨cs,t',q⟩,r3⟩
 have frozen:∀ {st b tt:Nat} {cs:List Value},of1_ x=some ([],st)→t.F b=some (cs,tt)→tt≤st→SameB u.h w.h b:=by
  intro st b tt cs e1 e2 e3
  rw[e1]at hof
  injection hof with hof
  subst hof
  exact still_frozen U S hst e3 (or_ (P:=fun s=>s.F b=some (cs,tt)) e2)
 cases hx with
 | lost=>cases hof
 | int=>exact⟨trivial,fun⟨_,_,_,_,_,e⟩=>by cases e⟩
 | bool=>exact⟨trivial,fun⟨_,_,_,_,_,e⟩=>by cases e⟩
 | str=>exact⟨trivial,fun⟨_,_,_,_,_,e⟩=>by cases e⟩
 | raw _ _ hb=>
  refine⟨?_,fun⟨_,_,_,_,_,e⟩=>by cases e⟩
  cases x'<;>first|trivial|skip
  .rename_i a;cases a<;>first|trivial|cases hb
  .rename_i a _ _;cases a<;>first|trivial|cases hb
  .rename_i a;cases a<;>first|trivial|cases hb
 | agg=>cases hof
 | tup=>cases hof
 | ptr _ id k c i o B a h1 h2 h3 h4=>
  obtain⟨r1,r2,⟨cs,t',q⟩,r3,r4⟩:=block rfl hl h1 h4
  replace hl:live1 t.sh id=true:=hl
  injection hof with hof
  subst hof
  refine⟨r1,fun _ a' e hx=>?_⟩
  injection e with e;injection e with e;subst e
  simp only at hx ⊢
  obtain⟨cs2,t2,q2⟩:∃cs t',zas u.h B cs t':=by
   rcases ht with rfl|rfl
   .exact⟨cs,t',q⟩
   .obtain⟨_,g2,_,_⟩:=still_block U S hst (.inr (live1_live hl))
    have hl2:live1 u.sh id=true:=by unfold live1 at hl ⊢;rw[←g2];exact hl
    exact za4 U hl2 r3
  rcases h4 with rfl|⟨hx2,rfl⟩
  .rw[zbV q2]at hx;injection hx with hx;exact r2 hx rfl
  .rw[zc9 q2 hx2]at hx;cases hx
 | aptr _ id k c i o N j B a h1 h2 h3 h4 h5=>exact⟨(block rfl hl h1 h5).1,fun⟨_,_,_,_,_,e⟩=>by cases e⟩
 | nsl _ id k c s n z B off cap h1 h2 h3 h4 h5 h6 h7=>exact⟨(block rfl hl h1 (.inl rfl)).1,fun⟨_,_,_,_,_,e⟩=>by cases e⟩
 | nslN=>exact⟨trivial,fun⟨_,_,_,_,_,e⟩=>by cases e⟩
 | nslE=>exact⟨trivial,fun⟨_,_,_,_,_,e⟩=>by cases e⟩
 | asl _ id k c i o N cj j n B a off cap h1 h2 h3 h4 h5 h6 h7 h8=>
  have hat:B.at a:=by
   rcases h8 with⟨_,h8⟩|⟨h8,h9⟩
   .exact .inl h8
   .exact .inr ⟨h8,h9⟩
  exact⟨(block rfl hl h1 hat).1,fun⟨_,_,_,_,_,e⟩=>by cases e⟩
 | fsl _ st k n nl e b o cs tt cap h1 h2 h3 h4 h5 h6 h7=>exact⟨frozen rfl h1 h2,fun⟨_,_,_,_,_,e⟩=>by cases e⟩
 | fslN=>exact⟨trivial,fun⟨_,_,_,_,_,e⟩=>by cases e⟩
 | fslE=>exact⟨trivial,fun⟨_,_,_,_,_,e⟩=>by cases e⟩
 | fptr _ st k n e i o b q cs tt h1 h2 h3 h4 h5 h6=>exact⟨frozen rfl h1 h2,fun⟨_,_,_,_,_,e⟩=>by cases e⟩
 | mp _ id B h1=>
  refine⟨?_,fun⟨_,_,_,_,_,e⟩=>by cases e⟩
  injection hof with hof
  subst hof
  obtain⟨es,c,hg⟩:=hl
  have hlive:Live t.sh id:=⟨_,hg,by intro e;cases e⟩
  obtain⟨g1,g2,g3,g4⟩:=still_block U S hst (or_ (P:=fun s=>Live s.sh id) hlive)
  have hu:u.ι id=some B:=by
   rcases ht with rfl|rfl
   .exact h1
   .rw[←g3];exact h1
  have hget:u.sh.get id=some (.mp es c):=by
   rcases ht with rfl|rfl
   .exact hg
   .rw[←g2];exact hg
  obtain⟨B',q1,q2,q3⟩:=U.ok id _ hget
  rw[hu]at q1;injection q1 with q1;subst q1
  exact(g4 B hu (.inr ⟨es,c,q2,q3⟩)).1.symm
 | fn=>cases hof
theorem src_there{sh:SH}{k:Nat}{y:SV}{q:Src}(h:src_ sh k y=some q):there sh y:=by
 unfold src_ at h
 split at h
 .trivial
 .rename_i id k' c s n z
  split at h
  .rename_i hg;show live1 sh id=true;unfold live1;rw[hg]
  .rename_i hg;show live1 sh id=true;unfold live1;rw[hg]
  .cases h
 .rename_i id k' c i o N cj j n
  split at h
  .rename_i b _ hb
   split at h
   .rename_i r2 hr2;exact rowAt_live hb hr2
   .cases h
  .cases h
 .trivial
 .trivial
 .cases h
theorem conv_there{E:Env}{s d:TypeId}{sh sh2:SH}{y v:SV}(hd:E.under d=some .string)(h:(conv1_ E s d y sh).sel=some (v,sh2)):there sh y:=by
 unfold conv1_ at h
 rw[hd]at h
 split at h
 .rename_i h2;cases h2
 .trivial
 .trivial
 .split at h
  .rename_i q hu3 hq hf;exact src_there hq
  .cases h
 .rename_i h2;cases h2
 .cases h
theorem len_there{E:Env}{ty:TypeId}{sh:SH}{y v:SV}{F:Fz}{ι:Im}{r:Nat}(h:len1_ E ty y sh=some v)(hv:VRs F ι y (.map (some r)))(hy:∀q,of1_ y=some q→True)(hl:y≠.lost):there sh y:=by
 unfold len1_ at h
 split at h
 .cases hv
 .cases hv
 .cases hv
 .cases hv
 .cases hv
 .cases hv
 .cases hv
 .cases hv
 .split at h
  .rename_i es c hg;exact⟨_,_,hg⟩
  .cases h
 .cases h
theorem kind_conv{E:Env}{s d:TypeId}{x:Operand}(h:kind_ E (.convert s d x)=1):E.under d=some .string:=by
 simp only[kind_]at h
 split at h
 .cases h
 .assumption
 .cases h
theorem read_rd{E:Env}{ρs:Operand→SV}{ρ:Operand→Value}{op:Op}{u w t:State}(ht:t=u∨t=w)(U:u.ok)(W:w.ok)(S:u.to w)(hρ:∀x,VRs t.F t.ι (ρs x) (ρ x))(hk:kind_ E op=1){r:List Nat×Nat}(hr:reads1_ ρs op=some r)(hst:zdC r u.sh w.sh=true){v:SV}{sh2:SH}
  (hs:(sop E ρs op t.sh).sel=some (v,sh2)):Rd E ρ op u.h w.h:=by
 have T:t.ok:=by rcases ht with rfl|rfl<;>assumption
 cases op
 case load ty a=>
  simp only[sop]at hs
  split at hs
  .rename_i x hl
   have hth:there t.sh (ρs a):=by
    unfold load1_ at hl
    split at hl
    .rename_i hc
     rw[hc]
     split at hl
     .rename_i b hb
      split at hl
      .rename_i r hr2;exact rowAt_live hb hr2
      .cases hl
     .cases hl
    .rename_i hc;rw[hc];trivial
    .rename_i hc
     rw[hc]
     split at hl
     .rename_i b hb _
      split at hl
      .rename_i r hr2;exact rowAt_live hb hr2
      .cases hl
     .cases hl
    .cases hl
   have hsame:=(zcr ht U W S (hρ a) hr hst hth).1
   refine⟨fun g=>match addr_ (ρ a)with|some ad=>za8 E g ty ad|none=>none,fun g=>?_,?_⟩
   .simp only[aop]
    cases addr_ (ρ a)with
    | none=>rfl
    | some ad=>rfl
   .cases he:addr_ (ρ a)with
    | none=>rfl
    | some ad=>
     simp only
     refine SameB.loadVar ?_
     unfold addr_ at he
     split at he
     .rename_i b o hv;injection he with he;subst he;rw[hv]at hsame;exact hsame
     .cases he
  .cases hs
 case slice ty x lo hi mx=>
  cases mx with
  | some m=>cases hr
  | none=>
   have hth:there t.sh (ρs x)∧(∀st k n e i o,ρs x≠.fptr st k n e i o)∧(∀id k c i o N j,ρs x≠.aptr id k c i o N j):=by
    simp only[sop,slice1_,zS]at hs
    split at hs
    .rename_i hc;rw[hc];exact⟨trivial,(fun _ _ _ _ _ _ e=>by cases e),fun _ _ _ _ _ _ _ e=>by cases e⟩
    .rename_i hc;rw[hc];exact⟨trivial,(fun _ _ _ _ _ _ e=>by cases e),fun _ _ _ _ _ _ _ e=>by cases e⟩
    .rename_i e id k c s n z hu hc
     rw[hc]
     refine⟨?_,(fun _ _ _ _ _ _ e=>by cases e),fun _ _ _ _ _ _ _ e=>by cases e⟩
     cases hb:(zcs E e k&&live1 t.sh id&&zI z 1)with
     | false=>rw[hb]at hs;cases hs
     | true=>rw[zC,zC]at hb;exact hb.1.2
    .rename_i hc;rw[hc];exact⟨trivial,(fun _ _ _ _ _ _ e=>by cases e),fun _ _ _ _ _ _ _ e=>by cases e⟩
    .rename_i e id k c i o N cj j n hu hc
     rw[hc]
     refine⟨?_,(fun _ _ _ _ _ _ e=>by cases e),fun _ _ _ _ _ _ _ e=>by cases e⟩
     cases hb:(zcs E e 1&&live1 t.sh id)with
     | false=>rw[hb]at hs;cases hs
     | true=>rw[zC]at hb;exact hb.2
    .rename_i N e id k c i o hu hc
     rw[hc]
     refine⟨?_,(fun _ _ _ _ _ _ e=>by cases e),fun _ _ _ _ _ _ _ e=>by cases e⟩
     cases hb:(zcs E e 1&&(live1 t.sh id&&zI (o+N) k))with
     | false=>rw[hb]at hs;cases hs
     | true=>rw[zC,zC]at hb;exact hb.2.1
    .cases hs
   obtain⟨q1,q2⟩:=zcr ht U W S (hρ x) hr hst hth.1
   refine⟨fun g=>(zaE E ty (ρ x) (lo.map ρ) (hi.map ρ) none g).map (·.1),fun g=>?_,?_⟩
   .simp only[aop,zS]
    exact slice_keeps g
   .refine slice_alike q1 fun a ha=>q2 ?_ a ha
    have hv:=hρ x
    rw[ha]at hv
    have hr':of1_ (ρs x)=some r:=hr
    generalize ρs x=y at hv hth hr'
    cases hv with
    | lost=>cases hr'
    | ptr=>exact⟨_,_,_,_,_,rfl⟩
    | aptr=>exact absurd rfl (hth.2.2 _ _ _ _ _ _ _)
    | fptr=>exact absurd rfl (hth.2.1 _ _ _ _ _ _)
    | raw _ _ hb=>cases hb
 case lookup ty x k ok=>
  simp only[sop]at hs
  obtain⟨z,hs,_⟩:=zah hs
  have hth:there t.sh (ρs x):=by
   unfold lookupR_ at hs
   split at hs
   .split at hs
    .rename_i kt et r' hu hc
     rw[hc]
     split at hs
     .rename_i k2 es clock hd hb hg;exact⟨_,_,hg⟩
     .cases hs
    .cases hs
   .split at hs
    .rename_i y hl
     unfold lookup1_ at hl
     split at hl
     .rename_i kt et kk hu hkk
      split at hl
      .rename_i d es hd he
       split at he
       .rename_i hc;rw[hc];trivial
       .rename_i r' hc
        rw[hc]
        split at he
        .rename_i es2 c hg;exact⟨_,_,hg⟩
        .cases he
       .cases he
      .cases hl
     .cases hl
    .cases hs
  have hsame:=(zcr ht U W S (hρ x) hr hst hth).1
  exact⟨fun g=>zbK E ty (ρ x) (ρ k) ok g,fun g=>rfl,lookup_alike fun r' e=>by rw[e]at hsame;exact hsame⟩
 case convert s d x=>
  have hd:=kind_conv hk
  have hth:there t.sh (ρs x):=conv_there hd hs
  have hsame:=(zcr ht U W S (hρ x) hr hst hth).1
  exact⟨fun g=>(conv_ E s d (ρ x) g).map (·.1),(fun g=>by simp only[aop];exact conv_keeps hd g),conv_alike hd hsame⟩
 case call c=>
  obtain⟨callee,args,argTypes⟩:=c
  cases callee with
  | value f=>cases hr
  | invoke a m=>cases hr
  | builtin b=>
   cases b
   case len=>
    unfold reads1_ at hr
    simp only at hr
    split at hr
    .rename_i x hx
     have hsame:∀r',ρ x=.map (some r')→u.h.get r'=w.h.get r':=fun r' e=>by
      simp only[sop,hx]at hs
      split at hs
      .rename_i x2 ty e1 e2
       injection e1 with e1;subst e1
       split at hs
       .rename_i y hl
        have hv:=hρ x
        rw[e]at hv
        have hth:there t.sh (ρs x):=len_there hl hv (fun _ _=>trivial) (fun e9=>by rw[e9]at hr;cases hr)
        have:=(zcr ht U W S (hρ x) hr hst hth).1
        rw[e]at this
        exact this
       .cases hs
      all_goals first|cases hs|contradiction
     refine⟨fun g=>match argTypes.toList with|[ty]=>len_ E ty (ρ x) g|_=>none,fun g=>?_,?_⟩
     .simp only[aop,hx]
      cases argTypes.toList with
      | nil=>rfl
      | cons a l=>cases l<;>rfl
     .cases argTypes.toList with
      | nil=>rfl
      | cons a l=>cases l with
       | nil=>exact len_alike hsame
       | cons=>rfl
    .cases hr
   case min=>exact⟨fun g=>match args.toList with|x::l=>mm_ false (ρ x) (l.map ρ)|[]=>none,fun g=>by simp only[aop];cases args.toList<;>rfl,rfl⟩
   case max=>exact⟨fun g=>match args.toList with|x::l=>mm_ true (ρ x) (l.map ρ)|[]=>none,fun g=>by simp only[aop];cases args.toList<;>rfl,rfl⟩
   all_goals cases hr
 all_goals cases hr
theorem told_veq1{F:Fz}{ι:Im}{s:SV}{v:Value}(h:VRs F ι s v)(k:told1_ s=true):veq1_ v v=true∧(∀a,v≠.agg a)∧(∀a,v≠.tuple a)∧∀f a b,v≠.func f a b:=by
 cases h with
 | lost=>cases k
 | agg=>cases k
 | tup=>cases k
 | fn=>cases k
 | raw _ _ hb=>
  unfold bareS_ at hb
  split at hb
  .cases k
  .cases k
  .unfold bare_ at hb
   split at hb<;>first
    | (cases hb;done)
    | exact⟨by simp[veq1_,aeq_],(fun a e=>by cases e),(fun a e=>by cases e),fun f a b e=>by cases e⟩
 | _=>exact⟨by simp[veq1_,aeq_],(fun a e=>by cases e),(fun a e=>by cases e),fun f a b e=>by cases e⟩
theorem tolds_leq{F:Fz}{ι:Im}:∀ {l:List SV} {l':List Value},LRs F ι l l'→tolds1_ l=true→leq_ veq1_ l' l'=true
 | [],l',h,_=>by rw[h.nil_inv];rfl
 | x::l,l',h,k=>by
  obtain⟨y,l',rfl,h1,h2⟩:=h.cons_inv
  unfold tolds1_ at k
  split at k
  .rename_i hx
   unfold leq_
   rw[(told_veq1 h1 hx).1]
   exact tolds_leq h2 k
  .cases k
theorem told_veq{F:Fz}{ι:Im}{s:SV}{v:Value}(h:VRs F ι s v)(k:toldV_ s=true):veq_ v v=true:=by
 unfold toldV_ at k
 split at k
 .obtain⟨l',rfl,L⟩:=h.agg_inv;exact tolds_leq L k
 .obtain⟨l',rfl,L⟩:=h.tup_inv;exact tolds_leq L k
 .obtain⟨h1,h2,h3,h4⟩:=told_veq1 h k
  unfold veq_
  split
  .exact absurd rfl (h2 _)
  .exact absurd rfl (h3 _)
  .exact absurd rfl (h4 _ _ _)
  .cases h1
  .cases h1
  .exact h1
theorem read_keeps{E:Env}{ρs:Operand→SV}{ρ:Operand→Value}{op:Op}{r:List Nat×Nat}{g g':Hp}{v:Value}(hk:kind_ E op=1)(hr:reads1_ ρs op=some r)(h:aop E ρ op g=some (v,g')):g'=g:=by
 have of:∀X:Option Value,aop E ρ op g=(match X with|some x=>some (x,g)|none=>none)→g'=g:=fun X e=>by
  rw[e]at h
  cases X with
  | none=>cases h
  | some x=>injection h with h;injection h with _ h;exact h.symm
 cases op
 case load ty a=>exact of (match addr_ (ρ a)with|some ad=>za8 E g ty ad|none=>none) (by simp only[aop];cases addr_ (ρ a)<;>rfl)
 case slice ty x lo hi mx=>
  cases mx with
  | some m=>cases hr
  | none=>exact of _ (by simp only[aop,zS];exact slice_keeps g)
 case lookup ty x k ok=>exact of (zbK E ty (ρ x) (ρ k) ok g) rfl
 case convert s d x=>exact of _ (by simp only[aop];exact conv_keeps (kind_conv hk) g)
 case call c=>
  obtain⟨callee,args,argTypes⟩:=c
  cases callee with
  | value f=>cases hr
  | invoke a m=>cases hr
  | builtin b=>
   cases b
   case len=>exact of (match args.toList,argTypes.toList with|[x],[ty]=>len_ E ty (ρ x) g|_,_=>none) (by
    simp only[aop]
    cases args.toList with
    | nil=>rfl
    | cons a l=>
     cases l with
     | nil=>
      cases argTypes.toList with
      | nil=>rfl
      | cons b l=>cases l<;>rfl
     | cons=>rfl)
   case min=>exact of (match args.toList with|x::l=>mm_ false (ρ x) (l.map ρ)|[]=>none) (by simp only[aop];cases args.toList<;>rfl)
   case max=>exact of (match args.toList with|x::l=>mm_ true (ρ x) (l.map ρ)|[]=>none) (by simp only[aop];cases args.toList<;>rfl)
   all_goals cases hr
 all_goals cases hr
section
variable {E:Env} {callS:FuncId→List SV→SH→RT (SV×SH)} {callH:Nat→FuncId→List Value→Hp→Option (Value×Hp)}
structure At(E:Env)(callS:FuncId→List SV→SH→RT (SV×SH))(callH:Nat→FuncId→List Value→Hp→Option (Value×Hp))(s s1:State)(o:Oper)(t:Tc1)(u:Tc):Prop where
 sh:t.h=s.sh
 h:u.h=s.h
 fr:FRs s.F s.ι t.a u.a
 did:t.did=u.did
 next:s.h.next≤s1.h.next
 val:u.did=true→VRs s1.F s1.ι t.v u.v∧(oneOp1 E callS t.a.eval o.op t.h).sel=some (t.v,s1.sh)∧∃n,oneOp E (callH n) u.a.eval o.op u.h=some (u.v,s1.h)
inductive Tr2(E:Env)(callS:FuncId→List SV→SH→RT (SV×SH))(callH:Nat→FuncId→List Value→Hp→Option (Value×Hp)):State→List Oper→List Tc1→List Tc→(Nat→State)→State→Prop
 | nil (s):s.ok→Tr2 E callS callH s [] [] [] (fun _=>s) s
 | cons (s s1 o rest t u tr tr' S e):s.ok→At E callS callH s s1 o t u→s.to s1→Tr2 E callS callH s1 rest tr tr' S e→Tr2 E callS callH s (o::rest) (t::tr) (u::tr') (fun i=>match i with|0=>s|i+1=>S i) e
theorem wanted_sel{α:Type}{a:Fs}{ops:List Oper}{o:Oper}{f:Bool→Fs→RT α}{r:α}(hs:(zdj a ops o f).sel=some r):∃did a2,(f did a2).sel=some r:=by
 unfold zdj at hs
 split at hs
 .exact⟨_,_,hs⟩
 .split at hs
  .split at hs
   .exact⟨_,_,hs⟩
   .split at hs
    .simp only[RT.sel,Bool.cond_eq_ite]at hs
     split at hs
     .exact⟨_,_,hs⟩
     .exact⟨_,_,hs⟩
    .cases hs
   .exact⟨_,_,hs⟩
   .cases hs
  .cases hs
theorem strace_acc{all:List Oper}:∀ {rest:List Oper} {a:Fs} {sh:SH} {acc tr:List Tc1} {a':Fs} {sh':SH},(strace E callS all rest a sh acc).sel=some (tr,a',sh')→∃tr1,tr=acc.reverse++tr1:=by
 intro rest
 induction rest with
 | nil=>
  intro a sh acc tr a' sh' h
  unfold strace at h
  simp only[RT.sel,zB,zD]at h
  exact⟨[],by rw[List.append_nil];exact h.1.symm⟩
 | cons o rest ih=>
  intro a sh acc tr a' sh' h
  unfold strace at h
  obtain⟨did,a2,hh⟩:=wanted_sel h
  cases did with
  | true=>
   simp only at hh
   obtain⟨r,_,h2⟩:=zah hh
   split at h2
   .obtain⟨tr1,e⟩:=ih h2
    exact⟨⟨a2,sh,true,r.1⟩::tr1,by rw[e];simp⟩
   .cases h2
  | false=>
   simp only at hh
   split at hh
   .obtain⟨tr1,e⟩:=ih hh
    exact⟨⟨a2,sh,false,.tup []⟩::tr1,by rw[e];simp⟩
   .cases hh
theorem strace_rel{Q:Fz→Hp→Prop}(hS:Steps Q)(hc:CallR Q callS callH){all:List Oper}:∀ {rest:List Oper} {s:State} {a a':Fs} {b:Fr} {sh':SH} {acc tr:List Tc1},Q s.F s.h→s.ok→FRs s.F s.ι a b→(strace E callS all rest a s.sh acc).sel=some (acc.reverse++tr,a',sh')→
  ∃N tr' b' S e,(∀n,N≤n→zbt E (callH n) all rest b s.h=some (tr',b',e.h))∧FRs e.F e.ι a' b'∧e.sh=sh'∧Tr2 E callS callH s rest tr tr' S e
 | [],s,a,a',b,sh',acc,tr,h0,U,hf,hs=>by
  unfold strace at hs
  simp only[RT.sel,zB,zD]at hs
  obtain⟨h1,rfl,rfl⟩:=hs
  have:tr=[]:=by
   have:=congrArg List.length h1
   simp at this
   exact this
  subst this
  exact⟨0,[],b,_,s,fun _ _=>rfl,hf,rfl,.nil s U⟩
 | o::rest,s,a,a',b,sh',acc,tr,h0,U,hf,hs=>by
  unfold strace at hs
  obtain⟨did,a2,w1,w2,w3⟩:=wanted_rel hf hs
  cases did with
  | true=>
   simp only at w3
   obtain⟨⟨v,sh1⟩,o1,o2⟩:=zah w3
   obtain⟨N,v',h1,F1,ι1,q1,q2,q3,q4⟩:=oneOp_rel hc h0 U w2.eval o1
   simp only at o2
   split at o2
   .rename_i a3 hput
    let s1:State:=⟨F1,ι1,sh1,h1⟩
    obtain⟨b3,p1,p2⟩:=(w2.mono q4.fm (q4.le U)).put q2 hput
    obtain⟨tr1,etr⟩:=strace_acc o2
    have etr2:tr=⟨a2,s.sh,true,v⟩::tr1:=by
     simp at etr;exact etr
    subst etr2
    obtain⟨N2,tr',b',S,e,r1,r2,r3,r4⟩:=strace_rel hS hc (s:=s1) (acc:=⟨a2,s.sh,true,v⟩::acc) (tr:=tr1) (hS h0 U q4) q3 p2 (by rw[etr]at o2;exact o2)
    refine⟨max N N2,⟨b,s.h,true,v'⟩::tr',b',_,e,fun n hn=>?_,r2,r3,.cons s s1 o rest _ _ tr1 tr' S e U ⟨rfl,rfl,w2,rfl,q4.hnext,fun _=>⟨q2,o1,N,by have:=q1 N (zM _);simp only at this;exact this⟩⟩ q4 r4⟩
    have e1:=q1 n (by omega)
    have e2:=r1 n (by omega)
    simp only at e1
    unfold zbt
    have e2':zbt E (callH n) all rest b3 h1=some (tr',b',e.h):=e2
    simp only[w1,e1,p1,e2']
   .cases o2
  | false=>
   simp only at w3
   split at w3
   .rename_i a3 hput
    obtain⟨b3,p1,p2⟩:=w2.put (v:=.tup []) (v':=undef) (VRs.tup_of (.nil ..)) hput
    obtain⟨tr1,etr⟩:=strace_acc w3
    have etr2:tr=⟨a2,s.sh,false,.tup []⟩::tr1:=by
     simp at etr;exact etr
    subst etr2
    obtain⟨N2,tr',b',S,e,r1,r2,r3,r4⟩:=strace_rel hS hc (s:=s) (acc:=⟨a2,s.sh,false,.tup []⟩::acc) (tr:=tr1) h0 U p2 (by rw[etr]at w3;exact w3)
    refine⟨N2,⟨b,s.h,false,undef⟩::tr',b',_,e,fun n hn=>?_,r2,r3,.cons s s o rest _ _ tr1 tr' S e U ⟨rfl,rfl,w2,rfl,zM _,fun e=>by cases e⟩ (Stp.refl _ U) r4⟩
    have e2:=r1 n hn
    unfold zbt
    simp only[w1,p1,e2]
   .cases w3
theorem Tr2.len{s e:State}{rest:List Oper}{tr:List Tc1}{tr':List Tc}{S:Nat→State}(T:Tr2 E callS callH s rest tr tr' S e):tr.length=rest.length∧tr'.length=rest.length:=by
 induction T with
 | nil=>exact⟨rfl,rfl⟩
 | cons _ _ _ _ _ _ _ _ _ _ _ _ _ _ ih=>exact⟨by simp[ih.1],by simp[ih.2]⟩
theorem Tr2.first{s e:State}{rest:List Oper}{tr:List Tc1}{tr':List Tc}{S:Nat→State}(T:Tr2 E callS callH s rest tr tr' S e):S 0=s∧S rest.length=e:=by
 induction T with
 | nil=>exact⟨rfl,rfl⟩
 | cons _ _ _ _ _ _ _ _ _ _ _ _ _ _ ih=>exact⟨rfl,ih.2⟩
theorem Tr2.ok{s e:State}{rest:List Oper}{tr:List Tc1}{tr':List Tc}{S:Nat→State}(T:Tr2 E callS callH s rest tr tr' S e):∀i,i≤rest.length→(S i).ok:=by
 induction T with
 | nil s h=>intro i _;exact h
 | cons s s1 o rest t u tr tr' S e h1 h2 h3 h4 ih=>
  intro i hi
  cases i with
  | zero=>exact h1
  | succ i=>exact ih i (by simpa using hi)
theorem Tr2.step{s e:State}{rest:List Oper}{tr:List Tc1}{tr':List Tc}{S:Nat→State}(T:Tr2 E callS callH s rest tr tr' S e):∀i,i<rest.length→(S i).to (S (i+1)):=by
 induction T with
 | nil s h=>intro i hi;simp at hi
 | cons s s1 o rest t u tr tr' S e h1 h2 h3 h4 ih=>
  intro i hi
  cases i with
  | zero=>
   have:=h4.first.1
   show s.to (S 0)
   rw[this];exact h3
  | succ i=>exact ih i (by simpa using hi)
theorem Tr2.steps{s e:State}{rest:List Oper}{tr:List Tc1}{tr':List Tc}{S:Nat→State}(T:Tr2 E callS callH s rest tr tr' S e):∀j i,i≤j→j≤rest.length→(S i).to (S j)
 | 0,i,h1,h2=>by
  obtain rfl:i=0:=by omega
  exact Stp.refl _ (T.ok 0 h2)
 | j+1,i,h1,h2=>by
  by_cases h:i=j+1
  .subst h;exact Stp.refl _ (T.ok _ h2)
  .exact Stp.trans (T.steps j i (by omega) (by omega)) (T.step j (by omega))
theorem Tr2.at_{s e:State}{rest:List Oper}{tr:List Tc1}{tr':List Tc}{S:Nat→State}(T:Tr2 E callS callH s rest tr tr' S e):∀ {i:Nat} {o:Oper} {t:Tc1} {u:Tc},rest[i]?=some o→tr[i]?=some t→tr'[i]?=some u→At E callS callH (S i) (S (i+1)) o t u:=by
 induction T with
 | nil s h=>intro i o t u h1;simp at h1
 | cons s s1 o rest t u tr tr' S e h1 h2 h3 h4 ih=>
  intro i o' t' u' g1 g2 g3
  cases i with
  | zero=>
   simp at g1 g2 g3
   subst g1;subst g2;subst g3
   show At E callS callH s (S 0) _ _ _
   rw[h4.first.1];exact h2
  | succ i=>exact ih (by simpa using g1) (by simpa using g2) (by simpa using g3)
theorem reads_rel{m:Bool}{all:List Oper}{an:List Nat}{s e:State}{tr:List Tc1}{tr':List Tc}{S:Nat→State}(T:Tr2 E callS callH s all tr tr' S e)(hr:readsOk1_ E m all an tr e.sh=true):zbD E m all an tr' e.h=true:=by
 obtain⟨l1,l2⟩:=T.len
 unfold readsOk1_ at hr
 unfold zbD
 rw[List.all_eq_true]at hr ⊢
 rintro⟨⟨x,t'⟩,i⟩ hm
 have hz:=List.mem_zipIdx_iff_getElem?.1 hm
 simp only at hz
 obtain⟨hx,ht'⟩:=List.getElem?_zip_eq_some.1 hz
 have hi:i<all.length:=(List.getElem?_eq_some_iff.1 hx).1
 obtain⟨t,ht⟩:∃t,tr[i]?=some t:=⟨tr[i]'(by omega),List.getElem?_eq_getElem _⟩
 have A:=T.at_ hx ht ht'
 have hr1:=hr ((x,t),i) (List.mem_zipIdx_iff_getElem?.2 (List.getElem?_zip_eq_some.2 ⟨hx,ht⟩))
 simp only at hr1 ⊢
 rw[A.did]at hr1
 cases hd:(t'.did&&zG (kd_ E m x.op) 1)with
 | false=>simp
 | true=>
  rw[hd]at hr1
  simp only[Bool.not_true,Bool.false_or]at hr1 ⊢
  rw[zC]at hd
  obtain⟨hv,ho,nn,hoH⟩:=A.val hd.1
  have hkd:kd_ E m x.op=1:=zF hd.2
  have hk:kind_ E x.op=1:=by
   unfold kd_ at hkd
   cases hmf:(m&&zbM x.op)with
   | true=>rw[hmf]at hkd;cases hkd
   | false=>rw[hmf]at hkd;exact hkd
  split at hr1
  .cases hr1
  .rename_i r hrd
   rw[zC]at hr1
   obtain⟨htold,hr2⟩:=hr1
   have hop:(sop E t.a.eval x.op (S i).sh).sel=some (t.v,(S (i+1)).sh):=by
    rw[←A.sh]
    cases hxop:x.op with
    | call c=>
     rw[hxop]at ho hrd
     unfold oneOp1 at ho
     simp only at ho
     split at ho
     .rename_i g hcal
      obtain⟨callee,args,argTypes⟩:=c
      simp only at hcal
      subst hcal
      cases hrd
     .exact ho
    | _=>rw[hxop]at ho;exact ho
   have hH:aop E t'.a.eval x.op t'.h=some (t'.v,(S (i+1)).h):=by
    cases hxop:x.op with
    | call c=>
     rw[hxop]at hoH hrd
     unfold oneOp at hoH
     simp only at hoH
     split at hoH
     .rename_i g hcal
      obtain⟨callee,args,argTypes⟩:=c
      simp only at hcal
      subst hcal
      cases hrd
     .rename_i y nm hcal
      obtain⟨callee,args,argTypes⟩:=c
      simp only at hcal
      subst hcal
      cases hrd
     .exact hoH
    | _=>rw[hxop]at hoH;exact hoH
   obtain⟨w,h2,ι2,b1,b2,b3,b4⟩:=sop_rel (T.ok i (by omega)) A.fr.eval hop
   have again:∀(u w':State),(S i=u∨S i=w')→u.ok→w'.ok→u.to w'→zdC r u.sh w'.sh=true→zcl E t' x.op u.h=true∧zcl E t' x.op w'.h=true:=by
    intro u w' hor U W hto hst
    have R:=read_rd hor U W hto A.fr.eval hk hrd hst hop
    have hv':t'.v=w:=by rw[A.h]at hH;rw[b1]at hH;injection hH with hH;injection hH with hH;exact hH.symm
    obtain⟨r1,r2⟩:=R.use (v:=w) (h':=h2) (by rcases hor with e|e;rw[e]at b1;exact .inl b1;rw[e]at b1;exact .inr b1)
    have hq:veq_ w t'.v=true:=by rw[←hv'];exact told_veq hv htold
    unfold zcl
    rw[r1,r2]
    simp only[hq]
    simp
   have self:zcl E t' x.op t'.h=true:=by
    have hkeep:=read_keeps hk hrd hH
    unfold zcl
    rw[hH]
    simp only[told_veq hv htold,hkeep]
    simp
   rw[self,Bool.true_and]
   rw[List.all_eq_true]at hr2 ⊢
   rintro⟨⟨y,u'⟩,e'⟩ hm2
   have hz2:=List.mem_zipIdx_iff_getElem?.1 hm2
   simp only at hz2
   obtain⟨hy,hu'⟩:=List.getElem?_zip_eq_some.1 hz2
   have he:e'<all.length:=(List.getElem?_eq_some_iff.1 hy).1
   obtain⟨u,hu⟩:∃u,tr[e']?=some u:=⟨tr[e']'(by omega),List.getElem?_eq_getElem _⟩
   have A2:=T.at_ hy hu hu'
   have hr3:=hr2 ((y,u),e') (List.mem_zipIdx_iff_getElem?.2 (List.getElem?_zip_eq_some.2 ⟨hy,hu⟩))
   simp only at hr3 ⊢
   rw[A2.did]at hr3
   cases hd2:(u'.did&&zE 1 (kd_ E m y.op))with
   | false=>simp
   | true=>
    rw[hd2]at hr3
    simp only[Bool.not_true,Bool.false_or]at hr3 ⊢
    cases hlt:zE e' i with
    | true=>
     rw[hlt]at hr3
     simp only[cond_true,Bool.or_eq_true]at hr3 ⊢
     have hle:e'<i:=by simpa [zH]using hlt
     rcases hr3 with hr3|hr3
     .exact .inl hr3
     .right
      rw[A2.sh,A.sh]at hr3
      rw[A2.h]
      exact(again (S e') (S i) (.inr rfl) (T.ok _ (by omega)) (T.ok _ (by omega)) (T.steps i e' (by omega) (by omega)) hr3).1
    | false=>
     rw[hlt]at hr3
     simp only[cond_false,Bool.or_eq_true]at hr3 ⊢
     have hge:i≤e':=by
      by_cases hq:e'<i
      .have:zE e' i=true:=by simpa [zH]using hq
       rw[this]at hlt;cases hlt
      .omega
     rcases hr3 with hr3|hr3
     .exact .inl hr3
     .right
      have hto:=T.steps (e'+1) i (by omega) (by omega)
      by_cases hlast:e'+1<all.length
      .obtain⟨u2,hu2⟩:∃u,tr[e'+1]?=some u:=⟨tr[e'+1]'(by omega),List.getElem?_eq_getElem _⟩
       obtain⟨u2',hu2'⟩:∃u,tr'[e'+1]?=some u:=⟨tr'[e'+1]'(by omega),List.getElem?_eq_getElem _⟩
       obtain⟨o2,ho2⟩:∃o,all[e'+1]?=some o:=⟨all[e'+1]'(by omega),List.getElem?_eq_getElem _⟩
       have A3:=T.at_ ho2 hu2 hu2'
       rw[hu2]at hr3
       rw[hu2']
       simp only at hr3 ⊢
       rw[A3.sh,A.sh]at hr3
       rw[A3.h]
       exact(again (S i) (S (e'+1)) (.inl rfl) (T.ok _ (by omega)) (T.ok _ (by omega)) hto hr3).2
      .have n1:tr[e'+1]?=none:=by rw[List.getElem?_eq_none];omega
       have n2:tr'[e'+1]?=none:=by rw[List.getElem?_eq_none];omega
       rw[n1]at hr3
       rw[n2]
       simp only at hr3 ⊢
       have hend:S (e'+1)=e:=by rw[show e'+1=all.length by omega];exact T.first.2
       rw[A.sh]at hr3
       have:=(again (S i) (S (e'+1)) (.inl rfl) (T.ok _ (by omega)) (T.ok _ (by omega)) hto (by rw[hend];exact hr3)).2
       rw[hend]at this
       exact this
end
end Go.Proofs.YtponjccgpbgnoaaGreatDoor.Se
