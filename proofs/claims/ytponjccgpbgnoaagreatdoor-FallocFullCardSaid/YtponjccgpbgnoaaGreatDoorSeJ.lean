/- The symbolic evaluator's new blocks, beside the evaluator's; what is built of values. -/
import Derived.Test.YtponjccgpbgnoaaGreatDoorSeE
set_option linter.unusedVariables false
set_option linter.unusedSimpArgs false
set_option linter.unusedSectionVars false
open Nat renaming le_refl→zA,add_mul→zB,beq→zC,min→zD,eq_of_beq_eq_true→zF,ble→zG,mul_le_mul_right→zI,blt→zJ,blt_eq→zL,zero_add→zM,le_of_ble_eq_true→zN,min_le_left→zO,ble_eq_true_of_le→zP,zero_le→zQ,add_assoc→zS,add_zero→zV
open Option.some renaming injEq→zE
open Prod.mk renaming injEq→zH
open Bool renaming and_eq_true→zK
open List renaming eq_nil_of_length_eq_zero→zR,mem_of_mem_drop→zT,mem_of_mem_take→zU,take_of_length_le→zW,length_append→zY
namespace Go.Proofs.YtponjccgpbgnoaaGreatDoor.Se
open Go Go.Proofs.YtponjccgpbgnoaaGreatDoor
set_option maxRecDepth 20000
section
variable {F:Fz} {ι:Im} {sh sh':SH} {h:Hp}
theorem Hp.new_ok{h:Hp}{x:Blk}(hlt:h.next<9223372036854775808):∃h',h.new x=some (h.next,h')∧h'.next=h.next+1∧∀j,h'.get j=if j=h.next then some x else h.get j:=by
 have:h.new x=some (h.next,(h.t.set 24 h.next x).force fun t=>(⟨h.next+1,t⟩:Hp)):=by
  rw[Hp.new_eq]
  have:zJ h.next 9223372036854775808=true:=by simpa [zL]using hlt
  rw[this]
  simp only[cond_true,Tr.force_eq]
 refine⟨_,this,?_⟩
 obtain⟨_,h2,_,h3⟩:=Hp.new_some this
 exact⟨h2,h3⟩
theorem new_exact(H:HRs F ι sh h){sb:SB}{id:Nat}(hs:sh.new sb=some (id,sh')){cs:List Value}{t:TypeId}(h1:ones_ cs=true){m k:Nat}(hmk:m*k≤cs.length)
  (hok:∀ι':Im,ι.le ι'→ι' id=some ⟨h.next,0,m,k,cs.length,true⟩→(∀h',zas h' ⟨h.next,0,m,k,cs.length,true⟩ cs t→SbOk F ι' h' id sb)) :
  ∃h' ι',zat h t cs true=some (⟨h.next,0,none⟩,h')∧ι' id=some ⟨h.next,0,m,k,cs.length,true⟩∧HRs F ι' sh' h'∧Stp F ι sh h F ι' sh' h':=by
 obtain⟨_,_,_,_,_,n6,_⟩:=SH.new_some hs
 have:=H.most
 obtain⟨h',e1,e2,e3⟩:=Hp.new_ok (h:=h) (x:=.cells cs t true false) (by omega)
 obtain⟨ι',q1,q2,q3⟩:=HRs.new H hs (B:=⟨h.next,0,m,k,cs.length,true⟩) (h':=h') (zA _) (by simp only;omega) (by omega) (by omega) (fun j hj=>by rw[e3,if_neg (by omega)])
  (fun ι' hle hi=>hok ι' hle hi h' ⟨by simp only;rw[e3,if_pos rfl],rfl,h1,by simp only;omega,(fun e=>by cases e),by simp only;omega,(fun e=>by cases e)⟩)
 exact⟨h',ι',by unfold zat;rw[e1],q1,q2,q3⟩
theorem new_loose(H:HRs F ι sh h){sb:SB}{id:Nat}(hs:sh.new sb=some (id,sh')){cs:List Value}{t:TypeId}(h1:ones_ cs=true){m k n c:Nat}(hmk:m*k≤cs.length)
  (hok:∀ι':Im,ι.le ι'→ι' id=some ⟨h.next,0,m,k,cs.length,false⟩→(∀h',zas h' ⟨h.next,0,m,k,cs.length,false⟩ cs t→SbOk F ι' h' id sb)) :
  ∃h1 h' ι',zat h t cs false=some (⟨h.next,0,none⟩,h1)∧zdD (.slice (some ⟨h.next,0,none⟩) n c) h1=some (.slice (some ⟨h.next,0,none⟩) n c,h')∧ι' id=some ⟨h.next,0,m,k,cs.length,false⟩∧HRs F ι' sh' h'∧Stp F ι sh h F ι' sh' h':=by
 obtain⟨_,_,_,_,_,n6,_⟩:=SH.new_some hs
 have:=H.most
 obtain⟨ha,e1,e2,e3⟩:=Hp.new_ok (h:=h) (x:=.cells cs t false false) (by omega)
 obtain⟨h',f1,f2,f3⟩:=Hp.new_ok (h:=ha) (x:=.view h.next) (by omega)
 obtain⟨ι',q1,q2,q3⟩:=HRs.new H hs (B:=⟨h.next,0,m,k,cs.length,false⟩) (h':=h') (zA _) (by simp only;omega) (by omega) (by omega) (fun j hj=>by rw[f3,if_neg (by omega),e3,if_neg (by omega)])
  (fun ι' hle hi=>hok ι' hle hi h' ⟨by simp only;rw[f3,if_neg (by omega),e3,if_pos rfl],rfl,h1,by simp only;omega,fun _=>by simp only;rw[f3,if_pos (by omega)],by simp only;omega,fun _=>by simp only;omega⟩)
 refine⟨ha,h',ι',by unfold zat;rw[e1],?_,q1,q2,q3⟩
 unfold zdD
 have hx:zaw ha h.next=some false:=by unfold zaw;rw[e3,if_pos rfl]
 have hb:zC (h.next+1) ha.next=true:=by rw[e2];simp
 simp only[hx,hb,f1]
theorem HRs.gone(H:HRs F ι sh h){id:Nat}(hl:Live sh id):HRs F ι (sh.put id .gone) h∧Stp F ι sh h F ι (sh.put id .gone) h:=by
 have hid:id<sh.next:=by obtain⟨s,q,_⟩:=hl;exact H.get_lt q
 have h8:id<9223372036854775808:=by have:=H.smost;omega
 have hsg:∀j,(sh.put id .gone).get j=if j=id then some .gone else sh.get j:=fun j=>SH.get_put h8
 have live:∀j,Live (sh.put id .gone) j→Live sh j:=by
  rintro j ⟨s,hs1,hs2⟩
  rw[hsg]at hs1
  split at hs1
  .injection hs1 with e;exact absurd e.symm hs2
  .exact⟨s,hs1,hs2⟩
 refine⟨⟨by rw[SH.put_room];exact H.most,by rw[SH.put_next];exact H.smost,fun j hj=>?_,fun j s hj=>?_,fun j j' C C' hne l1 l2 e1 e2=>H.apart j j' C C' hne (live j l1) (live j' l2) e1 e2,fun b cs t e=>by rw[SH.put_clk];exact H.frz b cs t e,fun b y j C e l e2=>H.fap b y j C e (live j l) e2⟩,
  ⟨fun _ _=>rfl,Fz.le.refl _,fun _ _ _ e=>.inl e,by rw[SH.put_next];exact zA _,by rw[SH.put_clk];exact zA _,zA _,by rw[SH.put_room];exact zA _,[id],by rw[SH.put_log];rfl,fun j hj hno=>?_,fun j hj hlt=>?_,fun b hb hno=>rfl,fun j C hj e=>?_⟩⟩
 .rw[SH.put_next]at hj
  rw[hsg,if_neg (by omega)]
  exact H.sdom j hj
 .rw[hsg]at hj
  split at hj
  .injection hj with hj;subst hj;trivial
  .exact H.ok j s hj
 .rw[hsg,if_neg (by simpa using hno)]
 .simp at hj;subst hj;exact hl
 .rw[(H.sdom j hj).2]at e;cases e
theorem HRs.moved(H:HRs F ι sh h){id id':Nat}{B B':Bl}{sb:SB}(hl:Live sh id)(hi:ι id=some B)(hlt:B.b<h.next)(hnv:∀v,h.get B.b≠some (.view v))(hs:(sh.put id .gone).new sb=some (id',sh'))(hb:B'.b=B.b){h':Hp}(hn':h'.next=h.next)(hg:∀j,j≠B.b→h'.get j=h.get j)
  (hok:∀ι':Im,ι.le ι'→ι' id'=some B'→SbOk F ι' h' id' sb):∃ι',ι' id'=some B'∧HRs F ι' sh' h'∧Stp F ι sh h F ι' sh' h':=by
 have hid:id<sh.next:=H.id_lt hi
 have h8:id<9223372036854775808:=by have:=H.smost;omega
 have hb8:B.b<9223372036854775808:=by have:=H.most;omega
 obtain⟨e0,n1,n2,n3,n4,n6,n5⟩:=SH.new_some hs
 rw[SH.put_next]at e0 n1
 rw[SH.put_clk]at n2
 rw[SH.put_log]at n3
 rw[SH.put_room]at n6
 subst e0
 have hsg:∀j,sh'.get j=if j=sh.next then some sb else if j=id then some .gone else sh.get j:=fun j=>by
  rw[n5,SH.put_next,SH.get_put h8]
 let ι':Im:=fun j=>if j=sh.next then some B' else ι j
 have hi':ι' sh.next=some B':=if_pos rfl
 have hle:ι.le ι':=fun j C e=>by
  have:j<sh.next:=H.id_lt e
  show(if j=sh.next then _ else _)=_
  rw[if_neg (by omega)];exact e
 have hold:∀j,j≠sh.next→ι' j=ι j:=fun j hj=>if_neg hj
 have live:∀j,j≠sh.next→Live sh' j→Live sh j∧j≠id:=by
  rintro j hj ⟨s,hs1,hs2⟩
  rw[hsg,if_neg hj]at hs1
  split at hs1
  .injection hs1 with e;exact absurd e.symm hs2
  .rename_i hne;exact⟨⟨s,hs1,hs2⟩,hne⟩
 have hmost:=H.most
 refine⟨ι',hi',⟨by rw[hn'];omega,by rw[n1];have:=SH.put_next (h:=sh) (id:=id) (b:=.gone);omega,fun j hj=>?_,fun j s hj=>?_,fun j j' C C' hne l1 l2 e1 e2=>?_,fun b cs t e=>?_,fun b y j C e l e2=>?_⟩,
  ⟨fun j hj=>hold j (by omega),Fz.le.refl _,fun _ _ _ e=>.inl e,by rw[n1];omega,by rw[n2];exact zA _,by rw[hn'];exact zA _,by rw[hn'];omega,[id],by rw[n3];rfl,fun j hj hno=>?_,fun j hj hlt=>?_,fun b hbb hno=>?_,fun j C hj e=>?_⟩⟩
 .rw[n1]at hj
  rw[hsg,if_neg (by omega),if_neg (by omega),hold j (by omega)]
  exact H.sdom j (by omega)
 .rw[hsg]at hj
  split at hj
  .rename_i e;subst e;injection hj with hj;subst hj;exact hok ι' hle hi'
  .rename_i hne
   split at hj
   .injection hj with hj;subst hj;trivial
   .rename_i hne2
    by_cases hg':s=.gone
    .subst hg';trivial
    refine(H.ok j s hj).keep (Fz.le.refl _) hle (hold j hne) (by rw[hn'];exact zA _) fun C hC=>?_
    have hne3:C.b≠B.b:=H.apart j id C B hne2 ⟨s,hj,hg'⟩ hl hC hi
    refine⟨hg _ hne3,fun _ _ hv=>hg _ fun e=>?_⟩
    rw[e]at hv
    exact hnv _ hv
 .by_cases q1:j=sh.next
  .have q2:j'≠sh.next:=fun e=>hne (by rw[q1,e])
   rw[q1,hi']at e1
   injection e1 with e1;subst e1
   rw[hold j' q2]at e2
   obtain⟨r1,r2⟩:=live j' q2 l2
   rw[hb]
   exact H.apart id j' B C' (fun e=>r2 e.symm) hl r1 hi e2
  .rw[hold j q1]at e1
   obtain⟨r1,r2⟩:=live j q1 l1
   by_cases q2:j'=sh.next
   .rw[q2,hi']at e2
    injection e2 with e2;subst e2
    rw[hb]
    exact H.apart j id C B r2 r1 hl e1 hi
   .rw[hold j' q2]at e2
    exact H.apart j j' C C' hne r1 (live j' q2 l2).1 e1 e2
 .obtain⟨f1,f2,f4,e',x',ro,f3⟩:=H.frz b cs t e
  rw[n2,hn']
  refine⟨f1,f2,f4,e',x',ro,?_⟩
  rw[hg b (fun e2=>H.fap b _ id B e hl hi e2.symm)]
  exact f3
 .by_cases q:j=sh.next
  .rw[q,hi']at e2
   injection e2 with e2;subst e2
   rw[hb]
   exact H.fap b y id B e hl hi
  .rw[hold j q]at e2
   exact H.fap b y j C e (live j q l).1 e2
 .rw[hsg,if_neg (by omega),if_neg (by simpa using hno)]
 .simp at hj;subst hj;exact hl
 .refine hg b fun e=>?_
  exact hno id B (by simp) hid hi e.symm
 .by_cases q:j=sh.next
  .rw[q,hi']at e
   injection e with e;subst e
   exact .inr ⟨id,B,by simp,hid,hi,hb.symm⟩
  .rw[hold j q,(H.sdom j hj).2]at e;cases e
theorem zcD{E:Env}{t:TypeId}{z:List SV}(hz:zero1_ E t=some z):∃v,E.zero t=some v∧LRs F ι z v.cells.toList∧ones_ v.cells.toList=true∧zbO z=true:=by
 unfold zero1_ at hz
 split at hz
 .rename_i v hv
  have hf:∀ {l:List Value} {z:List SV},ofVs l=some z→ones_ l=true∧zbO z=true:=by
   intro l
   induction l with
   | nil=>intro z h;injection h with h;subst h;exact⟨rfl,rfl⟩
   | cons x l ih=>
    intro z h
    unfold ofVs at h
    split at h
    .rename_i s r hs hr
     injection h with h;subst h
     obtain⟨i1,i2⟩:=ih hr
     have h1:one_ x=true∧free_ s=true:=by
      unfold ofV at hs
      split at hs<;>first|cases hs|skip
      all_goals first|(injection hs with hs;subst hs;exact⟨rfl,rfl⟩)|exact⟨rfl,rfl⟩
     exact⟨by unfold ones_;rw[h1.1];exact i1,by unfold zbO;rw[h1.2];exact i2⟩
    .cases h
  obtain⟨i1,i2⟩:=hf hz
  exact⟨v,hv,ofVs_rel hz,i1,i2⟩
 .cases hz
theorem put_rel{l r xs:List SV}{cs vs:List Value}{o:Nat}(h:LRs F ι l cs)(hx:LRs F ι xs vs)(hp:zaz l xs o=some r):∃cs',zaz cs vs o=some cs'∧LRs F ι r cs':=by
 have h1:=(zbk hp).1
 obtain⟨cs',hc⟩:=za1 o cs vs (by rw[←h.1,←hx.1];exact h1)
 refine⟨cs',hc,by rw[zaB hp,zaB hc,h.1],fun i x y hxi hyi=>?_⟩
 rw[zax hp i]at hxi
 rw[zax hc i]at hyi
 by_cases hj:o≤i∧i<o+xs.length
 .rw[if_pos hj]at hxi
  rw[if_pos (by rw[←hx.1];exact hj)]at hyi
  exact hx.2 _ x y hxi hyi
 .rw[if_neg hj]at hxi
  rw[if_neg (by rw[←hx.1];exact hj)]at hyi
  exact h.2 _ x y hxi hyi
theorem fill_rel{place:Nat→Option (Nat×Nat)}:∀ {l:List (Nat×SV)} {l':List (Nat×Value)} {cells r:List SV} {cs:List Value},l.length=l'.length→(∀(i:Nat) (p:Nat×SV) (q:Nat×Value),l[i]?=some p→l'[i]?=some q→p.1=q.1∧VRs F ι p.2 q.2)→
  LRs F ι cells cs→ones_ cs=true→fill1_ place cells l=some r→∃cs',fill_ place cs l'=some cs'∧LRs F ι r cs'∧ones_ cs'=true
 | [],l',cells,r,cs,hl,hr,hc,h1,h=>by
  have:l'=[]:=zR hl.symm
  subst this
  injection h with h;subst h
  exact⟨cs,rfl,hc,h1⟩
 | (i,v)::l,[],cells,r,cs,hl,hr,hc,h1,h=>by simp at hl
 | (i,v)::l,(i',v')::l',cells,r,cs,hl,hr,hc,h1,h=>by
  obtain⟨e1,hv⟩:=hr 0 _ _ rfl rfl
  simp only at e1 hv
  subst e1
  unfold fill1_ at h
  unfold fill_
  split at h
  .cases h
  .rename_i off size hp
   rw[hp]
   cases hb:(zC v.cells.length size&&zc0 v.cells)with
   | false=>rw[hb]at h;cases h
   | true=>
    rw[hb]at h
    simp only[cond_true]at h
    rw[zK]at hb
    obtain⟨L,o1,o2⟩:=cells_rel hv hb.2
    have hb2:(zC v'.cells.toList.length size&&!isAny v')=true:=by rw[←L.1,hb.1,o2];rfl
    simp only[hb2,cond_true]
    split at h
    .rename_i cells' hc'
     obtain⟨cs',q1,q2⟩:=put_rel hc L hc'
     simp only[q1]
     exact fill_rel (by simpa using hl) (fun j p q a b=>hr (j+1) p q a b) q2 (zby h1 o1 q1) h
    .cases h
theorem parts_rel{ρs:Operand→SV}{ρ:Operand→Value}(hρ:∀x,VRs F ι (ρs x) (ρ x))(l:List (Nat×Operand)) :
  (l.map fun p=>(p.1,ρs p.2)).length=(l.map fun p=>(p.1,ρ p.2)).length∧∀(i:Nat) (p:Nat×SV) (q:Nat×Value),(l.map fun p=>(p.1,ρs p.2))[i]?=some p→(l.map fun p=>(p.1,ρ p.2))[i]?=some q→p.1=q.1∧VRs F ι p.2 q.2:=by
 refine⟨by simp,fun i p q hp hq=>?_⟩
 rw[List.getElem?_map]at hp hq
 cases hl:l[i]? with
 | none=>rw[hl]at hp;cases hp
 | some z=>
  rw[hl]at hp hq
  simp at hp hq
  subst hp;subst hq
  exact⟨rfl,hρ _⟩
theorem build_rel{E:Env}{t:TypeId}{l:List (Nat×SV)}{l':List (Nat×Value)}{v:SV}(hl:l.length=l'.length)(hr:∀(i:Nat) (p:Nat×SV) (q:Nat×Value),l[i]?=some p→l'[i]?=some q→p.1=q.1∧VRs F ι p.2 q.2)(hb:build1_ E t l=some v):∃v',build_ E t l'=some v'∧VRs F ι v v':=by
 unfold build1_ at hb
 split at hb
 .rename_i z fields hz hu
  obtain⟨zv,hzv,Z,o1,_⟩:=zcD (F:=F) (ι:=ι) hz
  unfold build_
  rw[hzv,hu]
  split at hb
  .rename_i pl hpl
   simp only[hpl]
   split at hb
   .rename_i c hc
    injection hb with hb;subst hb
    obtain⟨cs',q1,q2,_⟩:=fill_rel hl hr Z o1 hc
    simp only[q1]
    exact⟨_,rfl,.agg_of q2⟩
   .cases hb
  .cases hb
 .rename_i z n e hz hu
  obtain⟨zv,hzv,Z,o1,_⟩:=zcD (F:=F) (ι:=ι) hz
  unfold build_
  rw[hzv,hu]
  split at hb
  .rename_i s hs
   simp only[hs]
   split at hb
   .rename_i c hc
    injection hb with hb;subst hb
    obtain⟨cs',q1,q2,_⟩:=fill_rel hl hr Z o1 hc
    simp only[q1]
    exact⟨_,rfl,.agg_of q2⟩
   .cases hb
  .cases hb
 .cases hb
theorem rep_rel{z:List SV}{v:List Value}(h:LRs F ι z v):∀n,LRs F ι (rep_ z n) (rep_ v n)
 | 0=>.nil ..
 | n+1=>by unfold rep_;exact h.append (rep_rel h n)
theorem zbI{α:Type}(z:List α):∀n,(rep_ z n).length=n*z.length
 | 0=>by simp[rep_]
 | n+1=>by simp[rep_,zbI z n,zB];omega
theorem rep_ones{v:List Value}(h:ones_ v=true):∀n,ones_ (rep_ v n)=true
 | 0=>rfl
 | n+1=>by unfold rep_;exact zbZ h (rep_ones h n)
theorem rows_rel{k:Nat}:∀ {n:Nat} {l:List SV} {cs:List Value},LRs F ι l cs→l.length=n*k→(rows_ k n l).length=n∧∀i r,(rows_ k n l)[i]?=some r→RowR F ι cs (i*k) k r
 | 0,l,cs,h,hl=>⟨rfl,fun i r hr=>by simp[rows_]at hr⟩
 | n+1,l,cs,h,hl=>by
  rw[zB]at hl
  have hd:∀ {α:Type} (l:List α) (n:Nat),n≤l.length→ldrop n l=some (l.drop n):=by
   intro α l n
   induction n generalizing l with
   | zero=>intro _;rfl
   | succ n ih=>intro hn;cases l with|nil=>simp at hn|cons x l=>simp at hn;simpa [ldrop]using ih l hn
  have ht:∀ {α:Type} (l:List α) (n:Nat),n≤l.length→ltake n l=some (l.take n):=by
   intro α l n
   induction n generalizing l with
   | zero=>intro _;simp[ltake]
   | succ n ih=>intro hn;cases l with|nil=>simp at hn|cons x l=>simp at hn;simp[ltake,ih l hn]
  have hk:k≤l.length:=by omega
  unfold rows_
  rw[ht l k hk,hd l k hk]
  simp only
  obtain⟨i1,i2⟩:=rows_rel (k:=k) (n:=n) (h.drop k) (by simp;omega)
  refine⟨by simp[i1],fun i r hr=>?_⟩
  cases i with
  | zero=>
   simp at hr;subst hr
   refine⟨by simp;omega,fun j x y hx hy=>?_⟩
   rw[List.getElem?_take]at hx
   split at hx
   .exact h.2 j x y hx (by simpa using hy)
   .cases hx
  | succ i=>
   simp at hr
   have:=i2 i r hr
   refine⟨this.1,fun j x y hx hy=>this.2 j x y hx ?_⟩
   rw[List.getElem?_drop]
   rw[show k+(i*k+j)=(i+1)*k+j by rw[zB];omega]
   exact hy
end
section
variable {F:Fz} {ι:Im} {sh sh':SH} {h:Hp}
theorem ldrop_ok{α:Type}:∀(n:Nat) (l:List α),n≤l.length→ldrop n l=some (l.drop n)
 | 0,l,_=>rfl
 | n+1,[],h=>by simp at h
 | n+1,x::l,h=>by simpa [ldrop]using ldrop_ok n l (by simpa using h)
theorem ltake_ok{α:Type}:∀(n:Nat) (l:List α),n≤l.length→ltake n l=some (l.take n)
 | 0,l,_=>by simp[ltake]
 | n+1,[],h=>by simp at h
 | n+1,x::l,h=>by simp[ltake,ltake_ok n l (by simpa using h)]
theorem zc6{α:Type}{l:List α}{o n:Nat}(h:o+n≤l.length):lcut l o n=some ((l.drop o).take n):=by
 unfold lcut
 rw[ldrop_ok o l (by omega)]
 exact ltake_ok _ _ (by simp;omega)
theorem RowR.shift{cs:List Value}{off i k n:Nat}{r:List SV}(R:RowR F ι cs (off+i*k) k r)(hi:i<n):RowR F ι ((cs.drop off).take (n*k)) (i*k) k r:=by
 refine⟨R.1,fun j x y hx hy=>R.2 j x y hx ?_⟩
 have hj:j<k:=by have:=(List.getElem?_eq_some_iff.1 hx).1;rw[R.1]at this;exact this
 rw[List.getElem?_take]at hy
 split at hy
 .rw[List.getElem?_drop]at hy;rw[zS];exact hy
 .cases hy
theorem ahead_rel{cs:List Value}{k:Nat}{e:Nat→List SV}:∀ {l:List (List SV)} {p i:Nat},(∀j r,l[j]?=some r→RowR F ι cs (p+j*k) k r)→(l.length≤i→RowR F ι cs (p+i*k) k (e (i-l.length)))→RowR F ι cs (p+i*k) k (ahead k l e i)
 | [],p,i,h,he=>by unfold ahead;exact he (zQ _)
 | r::l,p,i,h,he=>by
  unfold ahead
  refine RowR.mux (fun e'=>?_) (fun e'=>?_)
  .obtain rfl:=zF e'
   exact h 0 r rfl
  .cases i with
   | zero=>cases e'
   | succ i=>
    have:=ahead_rel (l:=l) (p:=p+k) (i:=i) (fun j r' hj=>by
     have:=h (j+1) r' (by simpa using hj)
     rw[zB]at this
     rw[show p+k+j*k=p+(j*k+1*k) by omega];exact this) (fun hl=>by
     have:=he (by simp;omega)
     rw[zB,show p+(i*k+1*k)=p+k+i*k by omega]at this
     simpa using this)
    rw[zB,show p+(i*k+1*k)=p+k+i*k by omega]
    exact this
theorem byteLit_len:∀(s:List UInt8),(zcp s).length=s.length
 | []=>rfl
 | b::s=>by simp[zcp,byteLit_len s]
theorem byteLit_at:∀(s:List UInt8) (i:Nat),(zcp s)[i]?=(s[i]?).map fun b=>[SV.int .u8 true (.ofNat b.toNat)]
 | [],i=>by simp[zcp]
 | b::s,0=>by simp[zcp]
 | b::s,i+1=>by simpa [zcp]using byteLit_at s i
def zaH(s:List UInt8):List Value:=s.map fun b=>.int .u8 (.ofNat b.toNat)
theorem zcq(s:List UInt8):ones_ (zaH s)=true:=ones_mem.2 fun v hv=>by
 obtain⟨b,_,rfl⟩:=List.mem_map.1 hv;rfl
theorem zb4(s:List UInt8){i:Nat}(hi:i<s.length):RowR F ι (zaH s) (i*1) 1 (byteRow s i):=by
 refine⟨rfl,fun j x y hx hy=>?_⟩
 cases j with
 | zero=>
  simp[byteRow]at hx
  subst hx
  simp[zaH,hi]at hy
  subst hy
  have:s[i]?.getD 0=s[i]:=by simp[hi]
  rw[this]
  exact .int ..
 | succ j=>simp[byteRow]at hx
theorem zco(s:List UInt8){i:Nat}{r:List SV}(hr:(zcp s)[i]?=some r):RowR F ι (zaH s) (i*1) 1 r:=by
 rw[byteLit_at]at hr
 cases hs:s[i]? with
 | none=>rw[hs]at hr;cases hr
 | some b=>
  rw[hs]at hr
  simp at hr;subst hr
  refine⟨rfl,fun j x y hx hy=>?_⟩
  cases j with
  | zero=>
   simp at hx;subst hx
   simp[zaH,hs]at hy
   subst hy
   exact .int ..
  | succ j=>simp at hx
structure SrcOk(F:Fz)(ι:Im)(q:Src)(k:Nat)(cs:List Value):Prop where
 len:cs.length=q.n*k
 one:ones_ cs=true
 rows:∀i,i<q.n→RowR F ι cs (i*k) k (q.e i)
 free:q.fr=true→∀i,i<q.n→RowR F Im0 cs (i*k) k (q.e i)
 lit:∀l,q.l=some l→q.c=true∧l.length=q.n∧(∀i r,l[i]?=some r→RowR F ι cs (i*k) k r)∧(q.fr=true→∀i r,l[i]?=some r→RowR F Im0 cs (i*k) k r)
theorem take_min{α:Type}(l:List α)(n m k:Nat):(l.take (n*k)).take (zD n m*k)=l.take (zD n m*k):=by
 rw[List.take_take]
 have:zD n m*k≤n*k:=zI _ (zO ..)
 rw[Nat.min_eq_left this]
theorem free_lrs{l:List SV}{vs:List Value}(h:LRs F ι l vs)(hf:zbO l=true):LRs F Im0 l vs:=frees_rel h hf
theorem RowR.free{cs:List Value}{p k:Nat}{r:List SV}(h:RowR F ι cs p k r)(hf:zbO r=true)(hl:p+k≤cs.length):RowR F Im0 cs p k r:=by
 have:=free_lrs (h.lrs hl) hf
 refine RowR.of_lrs this h.1 fun j hj=>?_
 rw[List.getElem?_take,if_pos hj,List.getElem?_drop]
theorem src_rel{k:Nat}{x:SV}{x':Value}{q:Src}(H:HRs F ι sh h)(hx:VRs F ι x x')(hs:src_ sh k x=some q) :
  ∃cs,SrcOk F ι q k cs∧(∀most,news_ h k most x'=some (zD q.n most,cs.take (zD q.n most*k)))∧lenV_ x'=q.n:=by
 have hz:∀m k,zD 0 m*k=0:=fun m k=>by simp
 have empty:∀ {q:Src},q.n=0→(∀l,q.l=some l→q.c=true∧l.length=0)→SrcOk F ι q k []:=fun h0 hl=>
  ⟨by rw[h0];simp,rfl,fun i hi=>by omega,fun _ i hi=>by omega,fun l e=>⟨(hl l e).1,by rw[h0];exact(hl l e).2,fun i r hr=>by rw[zR (hl l e).2]at hr;simp at hr,fun _ i r hr=>by rw[zR (hl l e).2]at hr;simp at hr⟩⟩
 unfold src_ at hs
 split at hs
 .injection hs with hs;subst hs
  obtain⟨rfl,_⟩:=hx.raw_inv
  exact⟨[],empty rfl (fun l e=>by injection e with e;subst e;exact⟨rfl,rfl⟩),fun most=>by simp[news_],rfl⟩
 .rename_i id k' c s n z
  have main:zC k' k=true→(∀B cs t,ι id=some B→zas h B cs t→B.k=k→s+n≤B.m→0<n→q.n=n∧(∀off,off=B.o+s*k→SrcOk F ι q k ((cs.drop off).take (n*k))))→(n=0→q.n=0∧(∀l,q.l=some l→q.c=true∧l.length=0))→
    ((∃sb,sh.get id=some sb∧∀es c,sb≠.mp es c∧sb≠.gone))→
    ∃cs,SrcOk F ι q k cs∧(∀most,news_ h k most x'=some (zD q.n most,cs.take (zD q.n most*k)))∧lenV_ x'=q.n:=by
   intro hkk hm h0 hex
   obtain rfl:=zF hkk
   cases hx with
   | nsl _ _ _ _ _ _ _ B off cap h1 h2 h3 h4 h5 h6 h7=>
    obtain⟨sb,hsb,hne⟩:=hex
    have hst:∃cs t,zas h B cs t:=by
     have:=H.ok id sb hsb
     cases sb with
     | lst=>obtain⟨B',cs,q1,_,_,q4,_⟩:=this;rw[h1]at q1;injection q1 with q1;subst q1;exact⟨_,_,q4⟩
     | row=>
      rcases this with⟨_,q⟩|⟨B',cs,q1,_,_,q4,_⟩
      .rw[h1]at q;cases q
      .rw[h1]at q1;injection q1 with q1;subst q1;exact⟨_,_,q4⟩
     | mp es c=>exact absurd rfl (hne es c).1
     | gone=>exact absurd rfl (hne [] 0).2
    obtain⟨cs,t,S⟩:=hst
    have hoff:off+n*k'≤cs.length:=by
     have:n*k'≤cap*k':=zI _ h4
     rw[S.len];omega
    have hload:∀m,m≤n→zaj h ⟨B.b,off,none⟩ (m*k')=some ((cs.drop off).take (m*k')):=fun m hm'=>by
     rw[zaP S (.inl rfl)]
     have:m*k'≤n*k':=zI _ hm'
     exact zc6 (by omega)
    by_cases hn:n=0
    .obtain⟨e1,e2⟩:=h0 hn
     refine⟨[],empty e1 e2,fun most=>?_,by rw[e1,←hn];rfl⟩
     unfold news_
     simp only[hload (zD n most) (zO ..)]
     rw[e1,hn];simp
    .obtain⟨e1,e2⟩:=hm B cs t h1 S h2 h3 (by omega)
     have ho:off=B.o+s*k':=by rcases h5 with h5|h5;exact absurd h5 hn;exact h5
     refine⟨_,e2 off ho,fun most=>?_,by rw[e1];rfl⟩
     unfold news_
     simp only[hload (zD n most) (zO ..)]
     rw[e1,take_min]
   | nslN _ _ _ _ _ _ _=>
    obtain⟨e1,e2⟩:=h0 rfl
    exact⟨[],empty e1 e2,fun most=>by rw[e1];simp[news_],by rw[e1];rfl⟩
   | nslE _ _ _ _ _ _ _=>
    obtain⟨e1,e2⟩:=h0 rfl
    exact⟨[],empty e1 e2,fun most=>by rw[e1];simp[news_],by rw[e1];rfl⟩
  split at hs
  .rename_i k2 rows t hkk hget
   split at hs
   .split at hs
    .rename_i l hl
     injection hs with hs;subst hs
     obtain⟨g1,g2,g3⟩:=zav hl
     refine main hkk (fun B cs t' h1 S h2 h3 hn=>⟨rfl,fun off ho=>?_⟩) (fun hn=>⟨hn,fun l' e=>by injection e with e;subst e;exact⟨rfl,by rw[g3];exact hn⟩⟩) ⟨_,hget,fun es c=>⟨(by intro e;cases e),by intro e;cases e⟩⟩
     obtain⟨B',cs2,q1,q2,q3,q4,q5⟩:=H.ok id _ hget
     rw[h1]at q1;injection q1 with q1;subst q1
     have hcs:=S.got;rw[q4.got]at hcs;injection hcs with hcs;injection hcs with c1 c2;subst c1
     have hlen:off+n*k≤cs2.length:=by
      have:(s+n)*B.k≤B.m*B.k:=zI _ h3
      rw[zB]at this
      have:=S.fit
      rw[S.len,ho,←h2];omega
     have hrows:∀i r,l[i]?=some r→RowR F ι ((cs2.drop off).take (n*k)) (i*k) k r:=fun i r hr=>by
      have hi:i<n:=by have:=(List.getElem?_eq_some_iff.1 hr).1;omega
      rw[zaW hl i hi]at hr
      have:=q5 (s+i) r hr
      rw[←q2,h2]at this
      refine RowR.shift (n:=n) ?_ hi
      rw[ho,show B.o+s*k+i*k=B.o+(s+i)*k by rw[zB];omega]
      exact this
     have hrows0:l.all zbO=true→∀i r,l[i]?=some r→RowR F Im0 ((cs2.drop off).take (n*k)) (i*k) k r:=fun hf i r hr=>by
      have hi:i<n:=by have:=(List.getElem?_eq_some_iff.1 hr).1;omega
      refine(hrows i r hr).free (List.all_eq_true.1 hf r (List.mem_of_getElem? hr)) ?_
      simp
      have:(i+1)*k≤n*k:=zI _ hi
      rw[zB]at this;omega
     refine⟨by simp;omega,zca S.one fun v hv=>zT (zU hv),fun i hi=>?_,fun hf i hi=>?_,fun l' e=>by injection e with e;subst e;exact⟨rfl,g3,hrows,hrows0⟩⟩
     .have:=nth_rel (p:=0) (i:=i) (cs:=(cs2.drop off).take (n*k)) (k:=k) (l:=l) (fun j r hj=>by rw[zM];exact hrows j r hj) (by rw[g3];exact hi)
      rw[zM]at this;exact this
     .have:=nth_rel (F:=F) (ι:=Im0) (p:=0) (i:=i) (cs:=(cs2.drop off).take (n*k)) (k:=k) (l:=l) (fun j r hj=>by rw[zM];exact hrows0 hf j r hj) (by rw[g3];exact hi)
      rw[zM]at this;exact this
    .cases hs
   .cases hs
  .rename_i k2 n2 e t hkk hget
   injection hs with hs;subst hs
   refine main hkk (fun B cs t' h1 S h2 h3 hn=>⟨rfl,fun off ho=>?_⟩) (fun hn=>⟨hn,fun l' e=>by cases e⟩) ⟨_,hget,fun es c=>⟨(by intro e;cases e),by intro e;cases e⟩⟩
   rcases H.ok id _ hget with⟨_,q⟩|⟨B',cs2,q1,q2,q3,q4,q5⟩
   .rw[h1]at q;cases q
   rw[h1]at q1;injection q1 with q1;subst q1
   have hcs:=S.got;rw[q4.got]at hcs;injection hcs with hcs;injection hcs with c1 c2;subst c1
   have hlen:off+n*k≤cs2.length:=by
    have:(s+n)*B.k≤B.m*B.k:=zI _ h3
    rw[zB]at this
    have:=S.fit
    rw[S.len,ho,←h2];omega
   have hrows:∀i,i<n→RowR F Im0 ((cs2.drop off).take (n*k)) (i*k) k (e (s+i)):=fun i hi=>by
    have:=q5 (s+i) (by omega)
    rw[←q2,h2]at this
    refine RowR.shift (n:=n) ?_ hi
    rw[ho,show B.o+s*k+i*k=B.o+(s+i)*k by rw[zB];omega]
    exact this
   exact⟨by simp;omega,zca S.one fun v hv=>zT (zU hv),fun i hi=>(hrows i hi).mono (Fz.le.refl _) (Im0.le _),fun _=>hrows,fun l' e=>by cases e⟩
  .cases hs
 .rename_i id k' c i o N cj j n
  split at hs
  .rename_i b hkk hb
   obtain rfl:=zF hkk
   split at hs
   .rename_i r hr
    split at hs
    .rename_i l hl
     injection hs with hs;subst hs
     cases hx with
     | asl _ _ _ _ _ _ _ _ _ _ B a off cap h1 h2 h3 h4 h5 h6 h7 h8=>
      have hat:B.at a:=by
       rcases h8 with⟨_,h8⟩|⟨h8,h9⟩
       .exact .inl h8
       .exact .inr ⟨h8,h9⟩
      obtain⟨cs,t,S,R⟩:=block_row H h1 h2 h3 hb hr
      have hin:=Bl.row_in S h3
      rw[h2]at hin
      obtain⟨vs,q1,q2⟩:=R.cut hl (by omega)
      obtain⟨g1,g2,g3⟩:=zav q1
      by_cases hn:n=0
      .subst hn
       refine⟨[],empty rfl (fun l e=>by cases e),fun most=>?_,rfl⟩
       simp only[hz,List.take_nil]
       unfold news_
       have h0:zD 0 most=0:=by simp
       have:zaj h ⟨a,off,none⟩ (zD 0 most*1)=some []:=by
        rw[zaP S hat,h0,zc6 (by have:=S.len;omega)];rfl
       simp only[this]
      .have ho:off=B.o+i*k'+o+j:=by rcases h7 with h7|h7;exact absurd h7 hn;exact h7
       have hlen:off+n≤cs.length:=by omega
       have hrow:∀ {ι0:Im},LRs F ι0 l vs→∀q,q<n→RowR F ι0 ((cs.drop off).take (n*1)) (q*1) 1 [pick_ l (j+q)]:=by
        intro ι0 L q hq
        refine⟨rfl,fun jj x y hx hy=>?_⟩
        cases jj with
        | zero=>
         simp at hx;subst hx
         rw[List.getElem?_take,if_pos (by omega),List.getElem?_drop]at hy
         refine pick_rel L ?_
         rw[zaW q1 (j+q) (by omega),←hy]
         congr 1;omega
        | succ jj=>simp at hx
       refine⟨(cs.drop off).take (n*1),⟨by simp;omega,zca S.one fun v hv=>zT (zU hv),hrow q2,fun hf=>hrow (free_lrs q2 hf),fun l e=>by cases e⟩,fun most=>?_,rfl⟩
       unfold news_
       have hle:zD n most≤n:=zO ..
       simp only[zaP S hat,zc6 (l:=cs) (o:=off) (n:=zD n most*1) (by omega)]
       rw[take_min]
    .cases hs
   .cases hs
  .cases hs
 .rename_i st k' n nl e
  split at hs
  .rename_i hkk
   obtain rfl:=zF hkk
   injection hs with hs;subst hs
   cases hx with
   | fsl _ _ _ _ _ _ b o cs t cap h1 h2 h3 h4 h5 h6 h7=>
    obtain⟨f1,f2,f3,e',x',ro,f4⟩:=H.frz b cs t h1
    have hm:n*k'≤cap*k':=zI _ h4
    have hrows:∀i,i<n→RowR F Im0 ((cs.drop o).take (n*k')) (i*k') k' (e i):=fun i hi=>RowR.shift (n:=n) ⟨h6 i hi,fun j x y a b=>h7 i j x y hi a b⟩ hi
    refine⟨(cs.drop o).take (n*k'),⟨by simp;omega,zca f3 fun v hv=>zT (zU hv),fun i hi=>(hrows i hi).mono (Fz.le.refl _) (Im0.le _),fun _=>hrows,fun l e=>by cases e⟩,fun most=>?_,rfl⟩
    unfold news_
    have hle:zD n most*k'≤n*k':=zI _ (zO ..)
    have:zaj h ⟨b,o,none⟩ (zD n most*k')=some ((cs.drop o).take (zD n most*k')):=by
     unfold zaj;simp only[f4];exact zc6 (by omega)
    simp only[this]
    rw[take_min]
   | fslN=>exact⟨[],empty rfl (fun l e=>by cases e),fun most=>by simp[news_],rfl⟩
   | fslE=>exact⟨[],empty rfl (fun l e=>by cases e),fun most=>by simp[news_],rfl⟩
  .cases hs
 .rename_i c s
  obtain rfl:=hx.str_inv
  have hnews:∀most,news_ h 1 most (.string ⟨⟨s⟩⟩)=some (zD s.length most,(zaH s).take (zD s.length most*1)):=fun most=>by
   unfold news_
   have hle:zD s.length most≤s.length:=zO ..
   have:ltake (zD (⟨⟨s⟩⟩:ByteArray).data.toList.length most) (⟨⟨s⟩⟩:ByteArray).data.toList=some (s.take (zD s.length most)):=ltake_ok _ _ hle
   simp only[this]
   simp[zaH,List.map_take]
  split at hs
  .rename_i hkk
   obtain rfl:=zF hkk
   injection hs with hs;subst hs
   exact⟨zaH s,⟨by simp[zaH],zcq s,fun i hi=>zb4 s hi,fun _ i hi=>zb4 s hi,fun l e=>by injection e with e;subst e;exact⟨rfl,byteLit_len s,fun i r hr=>zco s hr,fun _ i r hr=>zco s hr⟩⟩,hnews,rfl⟩
  .rename_i hkk
   obtain rfl:=zF hkk
   injection hs with hs;subst hs
   exact⟨zaH s,⟨by simp[zaH],zcq s,fun i hi=>zb4 s hi,fun _ i hi=>zb4 s hi,fun l e=>by cases e⟩,hnews,rfl⟩
  .cases hs
 .cases hs
end
section
variable {F:Fz} {ι:Im} {sh sh':SH} {h:Hp}
def ORs(F:Fz)(ι:Im):Option SV→Option Value→Prop
 | none,none=>True
 | some a,some b=>VRs F ι a b
 | _,_=>False
theorem ORs.map{ρs:Operand→SV}{ρ:Operand→Value}(hρ:∀x,VRs F ι (ρs x) (ρ x))(o:Option Operand):ORs F ι (o.map ρs) (o.map ρ):=by
 cases o with
 | none=>trivial
 | some x=>exact hρ x
theorem zbW{α:Type}{cn:Bool}{n:Nat}{lo hi:Option SV}{lo' hi':Option Value}{f:Bool→Nat→Bool→Nat→RT α}{x:α}(hlo:ORs F ι lo lo')(hhi:ORs F ι hi hi')(hs:(zcj cn n lo hi f).sel=some x) :
  ∃cl l ch hv,l≤hv∧hv≤n∧(f cl l ch hv).sel=some x∧∀cap,n≤cap→zaU n cap lo' hi' none=some (l,hv,cap):=by
 have bhi:∀ {k:IntKind} {hv cap:Nat},hv≤n→n≤cap→zbG (some (.int k (.ofNat hv))) n cap=some hv:=fun h1 h2=>by
  unfold zbG;simp only[zP (Nat.le_trans h1 h2),cond_true]
 have blo:∀ {k:IntKind} {l hv:Nat},l≤hv→zbG (some (.int k (.ofNat l))) 0 hv=some l:=fun h1=>by
  unfold zbG;simp only[zP h1,cond_true]
 unfold zcj at hs
 split at hs
 .cases hi' with
  | some _=>exact hhi.elim
  | none=>
   split at hs
   .cases lo' with
    | some _=>exact hlo.elim
    | none=>exact⟨_,_,_,_,zQ _,zA _,hs,fun cap hc=>by unfold zaU;simp[zbG]⟩
   .cases lo' with
    | none=>exact hlo.elim
    | some v=>
     obtain⟨k,c,c',l,rfl,h2⟩:=zaZ hs
     obtain rfl:=VRs.int_inv hlo
     obtain⟨hq,h3⟩:=zbf h2
     have hle:=zN hq
     refine⟨_,_,_,_,hle,zA _,h3,fun cap hc=>?_⟩
     unfold zaU
     simp only[show zbG none cap cap=some cap from rfl,show zbG none n cap=some n from rfl,blo hle]
 .cases hi' with
  | none=>exact hhi.elim
  | some w=>
   obtain⟨k,c,ch,hv,rfl,h2⟩:=zaZ hs
   obtain rfl:=VRs.int_inv hhi
   obtain⟨hq,h3⟩:=zbf h2
   have hle:=zN hq
   split at h3
   .cases lo' with
    | some _=>exact hlo.elim
    | none=>
     refine⟨_,_,_,_,zQ _,hle,h3,fun cap hc=>?_⟩
     unfold zaU
     simp only[show zbG none cap cap=some cap from rfl,bhi hle hc]
     rfl
   .cases lo' with
    | none=>exact hlo.elim
    | some v=>
     obtain⟨k2,c2,c3,l,rfl,h4⟩:=zaZ h3
     obtain rfl:=VRs.int_inv hlo
     obtain⟨hq2,h5⟩:=zbf h4
     have hle2:=zN hq2
     refine⟨_,_,_,_,hle2,hle,h5,fun cap hc=>?_⟩
     unfold zaU
     simp only[show zbG none cap cap=some cap from rfl,bhi hle hc,blo hle2]
theorem isZero_true{c:Bool}{n:Nat}(h:isZero c n=true):n=0:=by
 unfold isZero at h
 split at h
 .exact zF h
 .cases h
theorem za4(H:HRs F ι sh h){id:Nat}(hl:live1 sh id=true){B:Bl}(hi:ι id=some B):∃cs t,zas h B cs t:=by
 unfold live1 at hl
 split at hl
 .rename_i k rows t hg
  obtain⟨B',cs,q1,_,_,q4,_⟩:=H.ok id _ hg
  rw[hi]at q1;injection q1 with q1;subst q1;exact⟨_,_,q4⟩
 .rename_i k n e t hg
  rcases H.ok id _ hg with⟨_,q⟩|⟨B',cs,q1,_,_,q4,_⟩
  .rw[hi]at q;cases q
  .rw[hi]at q1;injection q1 with q1;subst q1;exact⟨_,_,q4⟩
 .cases hl
theorem zbV{B:Bl}{cs:List Value}{t:TypeId}(S:zas h B cs t):zaw h B.b=some B.x:=by unfold zaw;rw[S.got]
theorem zc9{B:Bl}{cs:List Value}{t:TypeId}(S:zas h B cs t)(hx:B.x=false):zaw h (B.b+1)=some true:=by unfold zaw;rw[S.view hx]
theorem sizeIs_eq{E:Env}{e:TypeId}{k:Nat}(h:zcs E e k=true):E.size e=some k:=by
 unfold zcs at h
 split at h
 .rename_i q hq;rw[hq,zF h]
 .cases h
theorem cut_exact{E:Env}{t e:TypeId}{a off n cap l hv k:Nat}{lo' hi':Option Value}(hu:E.under t=some (.slice e))(hs:E.size e=some k)(hx:zaw h a=some true)(hb:zaU n cap lo' hi' none=some (l,hv,cap)) :
  zaE E t (.slice (some ⟨a,off,none⟩) n cap) lo' hi' none h=some (.slice (some (bif zC cap l then⟨a,off,none⟩else⟨a,off+l*k,none⟩)) (hv-l) (cap-l),h):=by
 unfold zaE
 simp only[hu,hs,hx,hb,add_]
theorem cut_loose{E:Env}{t e:TypeId}{a off n cap l hv k:Nat}{lo' hi':Option Value}(hu:E.under t=some (.slice e))(hs:E.size e=some k)(hx:zaw h a=some false)(hb:zaU n cap lo' hi' none=some (l,hv,cap))(hc:hv≤cap) :
  zaE E t (.slice (some ⟨a,off,none⟩) n cap) lo' hi' none h=some (bif zJ l cap then .slice (some ⟨a,off+l*k,none⟩) (hv-l) (cap-l)else noneLeft,h):=by
 unfold zaE
 simp only[hu,hs,hx,hb,add_]
 rw[show zG hv cap=true from zP hc]
 cases zJ l cap<;>rfl
theorem slice_rel{E:Env}{t:TypeId}{x v:SV}{x':Value}{lo hi mx:Option SV}{lo' hi' mx':Option Value}(H:HRs F ι sh h)(hx:VRs F ι x x')(hlo:ORs F ι lo lo')(hhi:ORs F ι hi hi')(hmx:ORs F ι mx mx')
  (hs:(slice1_ E t x lo hi mx sh).sel=some (v,sh')):sh'=sh∧∃v',zaE E t x' lo' hi' mx' h=some (v',h)∧VRs F ι v v':=by
 unfold slice1_ at hs
 split at hs
 .cases hs
 .cases mx' with
  | some _=>exact hmx.elim
  | none=>
  split at hs
  .rename_i c s hu
   obtain rfl:=hx.str_inv
   obtain⟨cl,l,ch,hv,h1,h2,h3,h4⟩:=zbW hlo hhi hs
   simp only[RT.sel,zE,zH]at h3
   obtain⟨rfl,rfl⟩:=h3
   refine⟨rfl,_,?_,.str ..⟩
   unfold zaE
   simp only[hu]
   have hb:=h4 s.length (zA _)
   have hc:lcut s l (hv-l)=some ((s.drop l).take (hv-l)):=zc6 (by omega)
   have hb2:zaU (⟨⟨s⟩⟩:ByteArray).data.toList.length (⟨⟨s⟩⟩:ByteArray).data.toList.length lo' hi' none=some (l,hv,s.length):=hb
   have hc2:lcut (⟨⟨s⟩⟩:ByteArray).data.toList l (hv-l)=some ((s.drop l).take (hv-l)):=hc
   simp only[hb2,hc2]
  .rename_i e hu
   obtain⟨rfl,_⟩:=hx.raw_inv
   split at hs
   .rename_i sz hsz
    obtain⟨cl,l,ch,hv,h1,h2,h3,h4⟩:=zbW hlo hhi hs
    simp only[RT.sel,zE,zH]at h3
    obtain⟨rfl,rfl⟩:=h3
    obtain rfl:hv=0:=by omega
    obtain rfl:l=0:=by omega
    refine⟨rfl,_,?_,.raw _ _ rfl⟩
    unfold zaE
    simp only[hu,hsz,h4 0 (zA _)]
   .cases hs
  .rename_i e id k c s n z hu
   cases hck:(zcs E e k&&live1 sh id&&zG z 1)with
   | false=>rw[hck]at hs;cases hs
   | true=>
    rw[hck]at hs
    simp only[cond_true]at hs
    rw[zK,zK]at hck
    have hsz:=sizeIs_eq hck.1.1
    have hz1:z≤1:=zN hck.2
    obtain⟨cl,l,ch,hv,h1,h2,h3,h4⟩:=zbW hlo hhi hs
    cases hx with
    | nsl _ _ _ _ _ _ _ B off cap g1 g2 g3 g4 g5 g6 g7=>
     obtain⟨cs,t',S⟩:=za4 H hck.1.2 g1
     have hb:=h4 cap g4
     have key:∀z',(l=0→z'=z∨z'=2∨l<n)→(z'<2→l=0∨l<n)→∃v',zaE E t (.slice (some ⟨B.b,off,none⟩) n cap) lo' hi' none h=some (v',h)∧∀c',VRs F ι (.nsl id k c' (s+l) (hv-l) z') v':=by
      intro z' _ hz'
      have hmul:l*k+(cap-l)*k=cap*k:=by rw[←zB];congr 1;omega
      have hoff:(hv-l=0∨off+l*k=B.o+(s+l)*k):=by
       by_cases hn:hv-l=0
       .exact .inl hn
       .right
        rcases g5 with g5|g5
        .omega
        .rw[g5,zB];omega
      cases hx:B.x with
      | true=>
       refine⟨_,cut_exact hu hsz (by rw[zbV S,hx]) hb,fun c'=>?_⟩
       cases hcl:zC cap l with
       | true=>
        obtain rfl:=zF hcl
        exact .nsl _ _ _ _ _ _ _ B off _ g1 g2 (by omega) (by omega) (.inl (by omega)) (by have:=zQ (cap*k);simp;omega) (.inl hx)
       | false=>exact .nsl _ _ _ _ _ _ _ B _ _ g1 g2 (by omega) (by omega) hoff (by omega) (.inl hx)
      | false=>
       refine⟨_,cut_loose hu hsz (by rw[zbV S,hx]) hb (by omega),fun c'=>?_⟩
       cases hcl:zJ l cap with
       | true=>
        have:l<cap:=by simpa [zL]using hcl
        exact .nsl _ _ _ _ _ _ _ B _ _ g1 g2 (by omega) (by omega) hoff (by omega) (.inr (.inl (by omega)))
       | false=>
        have hge:cap≤l:=by
         by_cases hq:l<cap
         .have:zJ l cap=true:=by simpa [zL]using hq
          rw[this]at hcl;cases hcl
         .omega
        have hz2:2≤z':=by
         by_cases hq:z'<2
         .rcases hz' hq with r|r
          .rcases g7 with g7|g7
           .rw[hx]at g7;cases g7
           .omega
          .omega
         .omega
        have:hv-l=0:=by omega
        rw[this]
        exact .nslE _ _ _ _ _ _ hz2
     split at h3
     .rename_i hzz
      have hl:=isZero_true hzz
      simp only[RT.sel,zE,zH]at h3
      obtain⟨rfl,rfl⟩:=h3
      obtain⟨v',q1,q2⟩:=key z (fun _=>.inl rfl) (fun _=>.inl hl)
      refine⟨rfl,v',q1,?_⟩
      have:=q2 (c&&ch)
      rw[hl]at this
      exact this
     .rw[zdl]at h3
      cases hlt:zJ l n with
      | true=>
       rw[hlt]at h3
       simp only[cond_true,RT.sel,zE,zH]at h3
       obtain⟨rfl,rfl⟩:=h3
       have:l<n:=by simpa [zL]using hlt
       obtain⟨v',q1,q2⟩:=key 0 (fun _=>.inr (.inr this)) (fun _=>.inr this)
       exact⟨rfl,v',q1,q2 _⟩
      | false=>
       rw[hlt]at h3
       simp only[cond_false,RT.sel,zE,zH]at h3
       obtain⟨rfl,rfl⟩:=h3
       obtain⟨v',q1,q2⟩:=key 2 (fun _=>.inr (.inl rfl)) (fun e=>by omega)
       exact⟨rfl,v',q1,q2 _⟩
    | nslN _ _ _ _ _ _ hz=>
     obtain rfl:hv=0:=by omega
     obtain rfl:l=0:=by omega
     have hsl:zaE E t (.slice none 0 0) lo' hi' none h=some (.slice none 0 0,h):=by
      unfold zaE
      simp only[hu,hsz,h4 0 (zA _)]
     split at h3
     .simp only[RT.sel,zE,zH]at h3
      obtain⟨rfl,rfl⟩:=h3
      exact⟨rfl,_,hsl,.nslN _ _ _ _ _ _ hz⟩
     .rw[zdl]at h3
      have:zJ 0 0=false:=rfl
      rw[this]at h3
      simp only[cond_false,RT.sel,zE,zH]at h3
      obtain⟨rfl,rfl⟩:=h3
      exact⟨rfl,_,hsl,.nslN _ _ _ _ _ _ (by omega)⟩
    | nslE _ _ _ _ _ _ hz=>omega
  .rename_i e' st k n nl e hu
   cases hck:zcs E e' k with
   | false=>rw[hck]at hs;cases hs
   | true=>
    rw[hck]at hs
    simp only[cond_true]at hs
    have hsz:=sizeIs_eq hck
    obtain⟨cl,l,ch,hv,h1,h2,h3,h4⟩:=zbW hlo hhi hs
    cases hx with
    | fsl _ _ _ _ _ _ b o cs t' cap g1 g2 g3 g4 g5 g6 g7=>
     obtain⟨f1,f2,f3,e2,x2,ro,f4⟩:=H.frz b cs t' g1
     have hb:=h4 cap g4
     have hex:zaw h b=some x2:=by unfold zaw;rw[f4]
     have hmul:l*k+(cap-l)*k=cap*k:=by rw[←zB];congr 1;omega
     have key:∀(nl':Option Bool),(nl'=none∨nl'=some false∧(l=0∧0<cap∨l<n∨x2=true))→∃v',zaE E t (.slice (some ⟨b,o,none⟩) n cap) lo' hi' none h=some (v',h)∧VRs F ι (.fsl st k (hv-l) nl' fun i=>e (l+i)) v':=by
      intro nl' hnl'
      have mk:∀off',(hv-l=0∨off'=o+l*k)→off'+(cap-l)*k≤cs.length→VRs F ι (.fsl st k (hv-l) nl' fun i=>e (l+i)) (.slice (some ⟨b,off',none⟩) (hv-l) (cap-l)):=by
       intro off' ho hl
       refine .fsl _ _ _ _ _ _ b off' cs t' (cap-l) g1 g2 (by rcases hnl' with r|r;exact .inl r;exact .inr r.1) (by omega) hl (fun i hi=>g6 (l+i) (by omega)) fun i j x y hi hx hy=>?_
       rcases ho with ho|ho
       .omega
       .refine g7 (l+i) j x y (by omega) hx ?_
        rw[ho]at hy
        rw[show o+(l+i)*k+j=o+l*k+i*k+j by rw[zB];omega]
        exact hy
      cases x2 with
      | true=>
       refine⟨_,cut_exact hu hsz hex hb,?_⟩
       cases hcl:zC cap l with
       | true=>
        obtain rfl:=zF hcl
        exact mk o (.inl (by omega)) (by have:=zQ (cap*k);simp;omega)
       | false=>exact mk _ (.inr rfl) (by omega)
      | false=>
       refine⟨_,cut_loose hu hsz hex hb (by omega),?_⟩
       cases hcl:zJ l cap with
       | true=>exact mk _ (.inr rfl) (by omega)
       | false=>
        have hge:cap≤l:=by
         by_cases hq:l<cap
         .have:zJ l cap=true:=by simpa [zL]using hq
          rw[this]at hcl;cases hcl
         .omega
        have:hv-l=0:=by omega
        rw[this]
        rcases hnl' with r|⟨r,r2⟩
        .rw[r];exact .fslE _ _ _ _ _ (.inl rfl)
        .rcases r2 with r2|r2|r2
         .omega
         .omega
         .cases r2
     cases hlt:zJ l n with
     | true=>
      rw[hlt]at h3
      simp only[RT.sel,cond_true,zE,zH]at h3
      obtain⟨rfl,rfl⟩:=h3
      have:l<n:=by simpa [zL]using hlt
      obtain⟨v',q1,q2⟩:=key (some false) (.inr ⟨rfl,.inr (.inl this)⟩)
      exact⟨rfl,v',q1,q2⟩
     | false=>
      rw[hlt]at h3
      simp only[RT.sel,cond_false,zE,zH]at h3
      obtain⟨rfl,rfl⟩:=h3
      obtain⟨v',q1,q2⟩:=key none (.inl rfl)
      exact⟨rfl,v',q1,q2⟩
    | fslN _ _ _ _ _ hz=>
     obtain rfl:hv=0:=by omega
     obtain rfl:l=0:=by omega
     have hsl:zaE E t (.slice none 0 0) lo' hi' none h=some (.slice none 0 0,h):=by
      unfold zaE
      simp only[hu,hsz,h4 0 (zA _)]
     have:zJ 0 0=false:=rfl
     simp only[RT.sel,this,cond_false,zE,zH]at h3
     obtain⟨rfl,rfl⟩:=h3
     exact⟨rfl,_,hsl,.fslN _ _ _ _ _ (.inl rfl)⟩
    | fslE _ _ _ _ _ hz=>
     obtain rfl:hv=0:=by omega
     obtain rfl:l=0:=by omega
     have hsl:zaE E t (.chan none) lo' hi' none h=some (noneLeft,h):=by
      unfold zaE
      simp only[hu,hsz,h4 0 (zA _)]
     have:zJ 0 0=false:=rfl
     simp only[RT.sel,this,cond_false,zE,zH]at h3
     obtain⟨rfl,rfl⟩:=h3
     exact⟨rfl,_,hsl,.fslE _ _ _ _ _ (.inl rfl)⟩
  .rename_i e id k c i o N cj j n hu
   cases hck:(zcs E e 1&&live1 sh id)with
   | false=>rw[hck]at hs;cases hs
   | true=>
    rw[hck]at hs
    simp only[cond_true]at hs
    rw[zK]at hck
    have hsz:=sizeIs_eq hck.1
    obtain⟨cl,l,ch,hv,h1,h2,h3,h4⟩:=zbW hlo hhi hs
    simp only[RT.sel,zE,zH]at h3
    obtain⟨rfl,rfl⟩:=h3
    cases hx with
    | asl _ _ _ _ _ _ _ _ _ _ B a off cap g1 g2 g3 g4 g5 g6 g7 g8=>
     obtain⟨cs,t',S⟩:=za4 H hck.2 g1
     have hex:zaw h a=some true:=by
      rcases g8 with⟨r1,r2⟩|⟨r1,r2⟩
      .rw[r2,zbV S,r1]
      .rw[r2];exact zc9 S r1
     refine⟨rfl,_,cut_exact hu hsz hex (h4 cap g6.1),?_⟩
     cases hcl:zC cap l with
     | true=>
      obtain rfl:=zF hcl
      exact .asl _ _ _ _ _ _ _ _ _ _ B a off _ g1 g2 g3 g4 (by omega) ⟨by omega,by omega⟩ (.inl (by omega)) g8
     | false=>
      refine .asl _ _ _ _ _ _ _ _ _ _ B a _ _ g1 g2 g3 g4 (by omega) ⟨by omega,by omega⟩ ?_ g8
      by_cases hn:hv-l=0
      .exact .inl hn
      .right
       rcases g7 with g7|g7
       .omega
       .rw[g7];omega
  .rename_i N e id k c i o hu
   cases hck:(zcs E e 1&&(live1 sh id&&zG (o+N) k))with
   | false=>rw[hck]at hs;cases hs
   | true=>
    rw[hck]at hs
    simp only[cond_true]at hs
    rw[zK,zK]at hck
    have hsz:=sizeIs_eq hck.1
    have hoN:o+N≤k:=zN hck.2.2
    obtain⟨cl,l,ch,hv,h1,h2,h3,h4⟩:=zbW hlo hhi hs
    simp only[RT.sel,zE,zH]at h3
    obtain⟨rfl,rfl⟩:=h3
    cases hx with
    | ptr _ _ _ _ _ _ B a g1 g2 g3 g4=>
     obtain⟨cs,t',S⟩:=za4 H hck.2.1 g1
     have hin:=Bl.row_in S g3
     rw[g2,S.len]at hin
     have hb:=h4 N (zA _)
     have mk:∀a' off',B.sure a'→(hv-l=0∨off'=B.o+i*k+o+l)→off'+(N-l)≤B.T→VRs F ι (.asl id k c i o N (cl&&ch) l (hv-l)) (.slice (some ⟨a',off',none⟩) (hv-l) (N-l)):=fun a' off' r1 r2 r3=>
      .asl _ _ _ _ _ _ _ _ _ _ B a' off' _ g1 g2 g3 hoN (by omega) ⟨by omega,r3⟩ r2 r1
     refine⟨rfl,?_⟩
     unfold zaE
     simp only[hu,hsz,hb]
     rcases g4 with rfl|⟨r1,rfl⟩
     .rw[zbV S]
      cases hx:B.x with
      | true=>
       refine⟨_,rfl,?_⟩
       cases hcl:zC N l with
       | true=>
        have:=zF hcl
        exact mk _ _ (.inl ⟨hx,rfl⟩) (.inl (by omega)) (by omega)
       | false=>exact mk _ _ (.inl ⟨hx,rfl⟩) (.inr (by omega)) (by omega)
      | false=>
       simp only[S.view hx]
       rw[show zC B.b B.b=true by simp]
       refine⟨_,rfl,?_⟩
       cases hcl:zC N l with
       | true=>
        have:=zF hcl
        exact mk _ _ (.inr ⟨hx,rfl⟩) (.inl (by omega)) (by omega)
       | false=>exact mk _ _ (.inr ⟨hx,rfl⟩) (.inr (by omega)) (by omega)
     .rw[zc9 S r1]
      refine⟨_,rfl,?_⟩
      cases hcl:zC N l with
      | true=>
       have:=zF hcl
       exact mk _ _ (.inr ⟨r1,rfl⟩) (.inl (by omega)) (by omega)
      | false=>exact mk _ _ (.inr ⟨r1,rfl⟩) (.inr (by omega)) (by omega)
  .cases hs
end
section
variable {F:Fz} {ι:Im} {sh sh':SH} {h:Hp}
theorem RowR.carry{c C:List Value}{p p' k:Nat}{r:List SV}(R:RowR F ι c p k r)(hc:∀q,q<k→C[p'+q]?=c[p+q]?):RowR F ι C p' k r:=by
 refine⟨R.1,fun j x y hx hy=>R.2 j x y hx ?_⟩
 have hj:j<k:=by have:=(List.getElem?_eq_some_iff.1 hx).1;rw[R.1]at this;exact this
 rw[←hc j hj];exact hy
theorem joined_rel{p q:Src}{k base:Nat}{C:List Value}(hp:∀i,i<p.n→RowR F ι C (base+i*k) k (p.e i))(hpl:∀l,p.l=some l→l.length=p.n∧∀i r,l[i]?=some r→RowR F ι C (base+i*k) k r)
  (hq:∀i,i<q.n→RowR F ι C (base+(p.n+i)*k) k (q.e i)) {i:Nat} (hi:i<p.n+q.n):RowR F ι C (base+i*k) k (joinedE k p q i):=by
 unfold joinedE
 cases hl:p.l with
 | some l=>
  obtain⟨h1,h2⟩:=hpl l hl
  simp only
  refine ahead_rel h2 fun hle=>?_
  have:=hq (i-l.length) (by omega)
  rw[h1,show p.n+(i-p.n)=i by omega]at this
  rw[h1];exact this
 | none=>
  simp only
  refine RowR.mux (fun e=>?_) (fun e=>?_)
  .exact hp i (by simpa [zL]using e)
  .have hge:¬i<p.n:=fun hlt=>by
    have:zJ i p.n=true:=by simpa [zL]using hlt
    rw[this]at e;cases e
   have:=hq (i-p.n) (by omega)
   rw[show p.n+(i-p.n)=i by omega]at this
   exact this
theorem sight_same{v:Value}(h1:∀a n c,v=.slice (some a) n c→zaw h a.block=some false→a.block+1<h.next):zdD v h=some (v,h):=by
 unfold zdD
 split
 .rename_i a n c
  split
  .rename_i hx hb
   have:=h1 a n c rfl hx
   have hb2:=zF hb
   omega
  .rfl
 .rfl
theorem HRs.newNone(H:HRs F ι sh h){k:Nat}{e:Nat→List SV}{t:TypeId}{id:Nat}(hs:sh.new (.row k 0 e t)=some (id,sh')):HRs F ι sh' h∧Stp F ι sh h F ι sh' h:=by
 obtain⟨rfl,n1,n2,n3,n4,n6,n5⟩:=SH.new_some hs
 have hmost:=H.most
 have live:∀j,j≠sh.next→Live sh' j→Live sh j:=by
  rintro j hj ⟨s,hs1,hs2⟩
  rw[n5,if_neg hj]at hs1
  exact⟨s,hs1,hs2⟩
 have hno:ι sh.next=none:=(H.sdom _ (zA _)).2
 have ne:∀ {j B},ι j=some B→j≠sh.next:=fun e e2=>by rw[e2,hno]at e;cases e
 refine⟨⟨by omega,by rw[n1];omega,fun j hj=>?_,fun j s hj=>?_,fun j j' C C' hne l1 l2 e1 e2=>H.apart j j' C C' hne (live j (ne e1) l1) (live j' (ne e2) l2) e1 e2,fun b cs t e=>by rw[n2];exact H.frz b cs t e,fun b y j C e l e2=>H.fap b y j C e (live j (ne e2) l) e2⟩,
  ⟨fun _ _=>rfl,Fz.le.refl _,fun _ _ _ e=>.inl e,by rw[n1];omega,by rw[n2];exact zA _,zA _,by omega,[],by rw[n3];rfl,fun j hj _=>?_,fun j hj=>by simp at hj,fun b hb _=>rfl,fun j C hj e=>?_⟩⟩
 .rw[n1]at hj
  rw[n5,if_neg (by omega)]
  exact H.sdom j (by omega)
 .rw[n5]at hj
  split at hj
  .rename_i e;subst e;injection hj with hj;subst hj;exact .inl ⟨rfl,hno⟩
  .exact H.ok j s hj
 .rw[n5,if_neg (by omega)]
 .rw[(H.sdom j hj).2]at e;cases e
theorem base_live{e:TypeId}{id k s n z:Nat}{c:Bool}(hb:base_ sh e (.nsl id k c s n z)=true):z≤1∧live1 sh id=true∧Live sh id∧∀sb,sh.get id=some sb→(∃k rows,sb=.lst k rows e)∨∃k n f,sb=.row k n f e:=by
 unfold base_ at hb
 rw[zK]at hb
 refine⟨zN hb.1,?_⟩
 have h2:=hb.2
 split at h2
 .rename_i k' rows t hg
  refine⟨by unfold live1;rw[hg],⟨_,hg,by intro e;cases e⟩,fun sb hsb=>?_⟩
  rw[hg]at hsb;injection hsb with hsb;subst hsb
  exact .inl ⟨_,_,by rw[zF h2]⟩
 .rename_i k' n' f t hg
  refine⟨by unfold live1;rw[hg],⟨_,hg,by intro e;cases e⟩,fun sb hsb=>?_⟩
  rw[hg]at hsb;injection hsb with hsb;subst hsb
  exact .inr ⟨_,_,_,by rw[zF h2]⟩
 .cases h2
theorem stands_type(H:HRs F ι sh h){id:Nat}{B:Bl}{cs:List Value}{t e:TypeId}(hi:ι id=some B)(S:zas h B cs t)(hl:Live sh id)(hb:∀sb,sh.get id=some sb→(∃k rows,sb=.lst k rows e)∨∃k n f,sb=.row k n f e):t=e:=by
 obtain⟨sb,hg,_⟩:=hl
 rcases hb sb hg with⟨k,rows,rfl⟩|⟨k,n,f,rfl⟩
 .obtain⟨B',cs',q1,_,_,q4,_⟩:=H.ok id _ hg
  rw[hi]at q1;injection q1 with q1;subst q1
  have:=S.got;rw[q4.got]at this;injection this with this;injection this with c1 c2;exact c2.symm
 .rcases H.ok id _ hg with⟨_,q⟩|⟨B',cs',q1,_,_,q4,_⟩
  .rw[hi]at q;cases q
  .rw[hi]at q1;injection q1 with q1;subst q1
   have:=S.got;rw[q4.got]at this;injection this with this;injection this with c1 c2;exact c2.symm
section
variable {E:Env} {t1 t2 e:TypeId} {u:TypeDesc} {k b:Nat} {zv x':Value}
theorem app_nil0(hu1:E.under t1=some (.slice e))(hu2:E.under t2=some u)(hune:∀kk,u≠.int kk)(hk:E.size e=some k)(hby:E.bytes e=some b)(hz:E.zero e=some zv)(hzl:zC zv.cells.toList.length k=true)
  {c:List Value} (hn:news_ h k (lenV_ x') x'=some (0,c)):zaX E t1 t2 (.slice none 0 0) x' h=some (.slice none 0 0,h):=by
 unfold zaX
 cases u<;>first|exact absurd rfl (hune _)|simp only[hu1,hu2,hk,hby,hz,hn,hzl]
theorem app_nil(hu1:E.under t1=some (.slice e))(hu2:E.under t2=some u)(hune:∀kk,u≠.int kk)(hk:E.size e=some k)(hby:E.bytes e=some b)(hz:E.zero e=some zv)(hzl:zC zv.cells.toList.length k=true)
  {c:List Value} {n:Nat} (hn:news_ h k (lenV_ x') x'=some (n+1,c)) (hc:(zG ((n+1)*b) 140737488355328&&zG (n+1) 9223372036854775807)=true) {a:Addr} {h':Hp} (hr:zat h e c false=some (a,h')) :
  zaX E t1 t2 (.slice none 0 0) x' h=some (.slice (some a) (n+1) (n+1),h'):=by
 unfold zaX
 cases u<;>first|exact absurd rfl (hune _)|simp only[hu1,hu2,hk,hby,hz,hn,hzl,hc,cond_true,hr]
theorem app_fit0(hu1:E.under t1=some (.slice e))(hu2:E.under t2=some u)(hune:∀kk,u≠.int kk)(hk:E.size e=some k)(hby:E.bytes e=some b)(hz:E.zero e=some zv)(hzl:zC zv.cells.toList.length k=true)
  {c:List Value} (hn:news_ h k (lenV_ x') x'=some (0,c)) {a:Addr} {len cap:Nat} (hl:len≤cap):zaX E t1 t2 (.slice (some a) len cap) x' h=some (.slice (some a) len cap,h):=by
 unfold zaX
 cases u<;>first|exact absurd rfl (hune _)|simp only[hu1,hu2,hk,hby,hz,hn,hzl,zV,zP hl,cond_true]
theorem app_fit(hu1:E.under t1=some (.slice e))(hu2:E.under t2=some u)(hune:∀kk,u≠.int kk)(hk:E.size e=some k)(hby:E.bytes e=some b)(hz:E.zero e=some zv)(hzl:zC zv.cells.toList.length k=true)
  {c:List Value} {n:Nat} (hn:news_ h k (lenV_ x') x'=some (n+1,c)) {a:Addr} {len cap:Nat} (hl:len+(n+1)≤cap) {h':Hp} (hr:zao h (add_ a (len*k)) c=some h') :
  zaX E t1 t2 (.slice (some a) len cap) x' h=some (.slice (some a) (len+(n+1)) cap,h'):=by
 unfold zaX
 cases u<;>first|exact absurd rfl (hune _)|simp only[hu1,hu2,hk,hby,hz,hn,hzl,zP hl,cond_true,hr]
theorem ble_no{a b:Nat}(h:¬a≤b):zG a b=false:=by
 cases e:zG a b with
 | false=>rfl
 | true=>exact absurd (zN e) h
theorem app_exact(hu1:E.under t1=some (.slice e))(hu2:E.under t2=some u)(hune:∀kk,u≠.int kk)(hk:E.size e=some k)(hby:E.bytes e=some b)(hz:E.zero e=some zv)(hzl:zC zv.cells.toList.length k=true)
  {c:List Value} {n:Nat} (hn:news_ h k (lenV_ x') x'=some (n,c)) {a:Addr} {len cap:Nat} (hl:¬len+n≤cap) {old l:List Value} {e':TypeId} {ro:Bool} (hg:h.get a.block=some (.cells old e' true ro)) (hcut:lcut old a.off (len*k)=some l)
  (hc:(zG ((len+n)*b) 140737488355328&&zG (len+n) 9223372036854775807)=true) {a':Addr} {h':Hp} (hr:zat h e (l++c) false=some (a',h')) :
  zaX E t1 t2 (.slice (some a) len cap) x' h=some (.slice (some a') (len+n) (len+n),h'):=by
 unfold zaX
 cases u<;>first|exact absurd rfl (hune _)|simp only[hu1,hu2,hk,hby,hz,hn,hzl,ble_no hl,cond_false,hg,hcut,hc,cond_true,hr]
theorem app_loose(hu1:E.under t1=some (.slice e))(hu2:E.under t2=some u)(hune:∀kk,u≠.int kk)(hk:E.size e=some k)(hby:E.bytes e=some b)(hz:E.zero e=some zv)(hzl:zC zv.cells.toList.length k=true)
  {c:List Value} {n:Nat} (hn:news_ h k (lenV_ x') x'=some (n,c)) {a:Addr} {len cap:Nat} (hl:¬len+n≤cap) {old l:List Value} (hg:h.get a.block=some (.cells old e false false)) (hcut:lcut old a.off (len*k)=some l)
  (hc:(zG ((len+n)*b) 140737488355328&&zG (len+n) 9223372036854775807)=true) (ho:a.off+cap*k≤old.length) (h1:ones_ c=true) {a':Addr} {h':Hp} (hr:zat (h.put a.block .dead) e (l++c) false=some (a',h')) :
  zaX E t1 t2 (.slice (some a) len cap) x' h=some (.slice (some a') (len+n) (len+n),h'):=by
 unfold zaX
 have hb:(zC e e&&zG (a.off+cap*k) old.length)=true:=by rw[zP ho];simp
 cases u<;>first|exact absurd rfl (hune _)|simp only[hu1,hu2,hk,hby,hz,hn,hzl,ble_no hl,cond_false,hg,hcut,hc,cond_true,hb,h1,hr]
end
theorem src_k{k id k' s n z:Nat}{c:Bool}{p:Src}(h:src_ sh k (.nsl id k' c s n z)=some p):k'=k:=by
 simp only[src_]at h
 cases hb:zC k' k with
 | true=>exact zF hb
 | false=>rw[hb]at h;simp at h
theorem put_at{l xs r:List Value}{n m:Nat}(hp:zaz l xs n=some r)(hm:xs.length=m):∀j,j<m→r[n+j]?=xs[j]?:=fun j hj=>by
 rw[zax hp (n+j),if_pos (by omega),Nat.add_sub_cancel_left]
set_option maxHeartbeats 1000000 in
theorem append_rel{E:Env}{t1 t2:TypeId}{s x v:SV}{s' x':Value}(H:HRs F ι sh h)(hs:VRs F ι s s')(hx:VRs F ι x x')(ha:(append1_ E t1 t2 s x sh).sel=some (v,sh')) :
  ∃v' h' ι',append_ E t1 t2 s' x' h=some (v',h')∧VRs F ι' v v'∧HRs F ι' sh' h'∧Stp F ι sh h F ι' sh' h':=by
 unfold append1_ at ha
 split at ha
 .cases ha
 .rename_i e u hne hu1 hu2
  split at ha
  .rename_i k b z hk hby hz
   split at ha
   .rename_i p q hp hq hb
    rw[zK]at hb
    obtain⟨hb,hzk⟩:=hb
    obtain⟨zv,hzv,Z,z1,_⟩:=zcD (F:=F) (ι:=ι) hz
    have hzl:zC zv.cells.toList.length k=true:=by rw[←Z.1];exact hzk
    obtain⟨cp,P,pn,pl⟩:=src_rel H hs hp
    obtain⟨cx,Q,qn,ql⟩:=src_rel H hx hq
    have hnx:news_ h k (lenV_ x') x'=some (q.n,cx):=by
     rw[ql,qn q.n]
     have:zD q.n q.n=q.n:=Nat.min_self _
     rw[this,zW (by rw[Q.len];exact zA _)]
    have hune:∀kk,u≠.int kk:=fun kk e=>hne kk e
    have hbase:s'=.slice none 0 0∧p.n=0∨∃id c s0 n z' B off cap cs,s=.nsl id k c s0 n z'∧s'=.slice (some ⟨B.b,off,none⟩) n cap∧p.n=n∧ι id=some B∧B.k=k∧s0+n≤B.m∧n≤cap∧off+cap*k≤B.T∧(B.x=true∨1≤cap)∧Live sh id∧zas h B cs e∧lcut cs off (n*k)=some cp:=by
     have hk':∀ {id k' c s0 n z'},s=.nsl id k' c s0 n z'→k'=k:=fun e=>by
      subst e
      exact src_k hp
     cases hs with
     | nsl _ id k' c s0 n z' B off cap g1 g2 g3 g4 g5 g6 g7=>
      obtain⟨b1,b2,b3,b4⟩:=base_live hb
      obtain rfl:=hk' rfl
      obtain⟨cs,t',S⟩:=za4 H b2 g1
      obtain rfl:=stands_type H g1 S b3 b4
      refine .inr ⟨id,c,s0,n,z',B,off,cap,cs,rfl,rfl,pl.symm,g1,g2,g3,g4,g6,(by rcases g7 with g7|g7|g7;exact .inl g7;exact .inr g7;omega),b3,S,?_⟩
      have h2:=pn n
      have hpn:p.n=n:=pl.symm
      rw[hpn]at h2
      unfold news_ at h2
      have hmin:zD n n=n:=Nat.min_self _
      rw[hmin]at h2
      simp only[zaP S (.inl rfl)]at h2
      rw[zW (by rw[P.len,hpn];exact zA _)]at h2
      split at h2
      .rename_i c' hc';injection h2 with h2;injection h2 with _ h2;rw[hmin]at hc';rw[hc',h2]
      .cases h2
     | nslN _ id k' c s0 z' hz'=>exact .inl ⟨rfl,pl.symm⟩
     | nslE _ id k' c s0 z' hz'=>have:=(base_live hb).1;omega
     | raw _ _ hr=>
      left
      unfold base_ at hb
      split at hb
      .rename_i e;injection e with e;subst e;exact⟨rfl,pl.symm⟩
      .rename_i e;cases e
      .cases hb
     | lost=>cases hb
     | int=>cases hb
     | bool=>cases hb
     | str=>cases hb
     | agg=>cases hb
     | tup=>cases hb
     | ptr=>cases hb
     | aptr=>cases hb
     | asl=>cases hb
     | fsl=>cases hb
     | fslN=>cases hb
     | fslE=>cases hb
     | fptr=>cases hb
     | mp=>cases hb
     | fn=>cases hb
    have hsame:zdD s' h=some (s',h):=by
     rcases hbase with⟨rfl,_⟩|⟨id,c,s0,n,z',B,off,cap,cs,_,rfl,_,_,_,_,_,_,_,_,S,_⟩
     .rfl
     .refine sight_same fun a n' c' e1 e2=>?_
      injection e1 with e1 e3 e4
      injection e1 with e1
      subst e1
      simp only at e2 ⊢
      rw[zbV S]at e2
      injection e2 with e2
      exact S.vlt e2
    cases hz0:isZero q.c q.n with
    | true=>
     rw[hz0]at ha
     simp only[cond_true,RT.sel,zE,zH]at ha
     obtain⟨rfl,rfl⟩:=ha
     have h0:=isZero_true hz0
     rw[h0]at hnx
     refine⟨s',h,ι,?_,hs,H,Stp.refl F H⟩
     unfold append_
     rcases hbase with⟨rfl,_⟩|⟨id,c,s0,n,z',B,off,cap,cs,_,rfl,_,_,_,_,hcap,_⟩
     .rw[app_nil0 hu1 hu2 hune hk hby hzv hzl hnx];exact hsame
     .rw[app_fit0 hu1 hu2 hune hk hby hzv hzl hnx hcap];exact hsame
    | false=>
     rw[hz0]at ha
     simp only[cond_false]at ha
     obtain⟨hchk,ha⟩:=zbf ha
     have hdrop:HRs F ι (sh.drop s) h∧Stp F ι sh h F ι (sh.drop s) h:=by
      cases s with
      | nsl id k' c s0 n z'=>exact H.gone (base_live hb).2.2.1
      | raw r=>exact⟨H,Stp.refl F H⟩
      | _=>cases hb
     have main:∀(id:Nat) (sbn:SB) (c0:Bool) (z':Nat),(sh.drop s).new sbn=some (id,sh')→v=.nsl id k c0 0 (p.n+q.n) z'→(p.n+q.n=0→z'=1∧∃f,sbn=.row k (p.n+q.n) f e)→
       (∀(ι':Im) h' B' C,ι.le ι'→ι' id=some B'→B'.k=k→B'.m=p.n+q.n→zas h' B' C e→(∀j,j<p.n*k→C[B'.o+j]?=cp[j]?)→(∀j,j<q.n*k→C[B'.o+p.n*k+j]?=cx[j]?)→SbOk F ι' h' id sbn)→
       ∃v' h' ι',append_ E t1 t2 s' x' h=some (v',h')∧VRs F ι' v v'∧HRs F ι' sh' h'∧Stp F ι sh h F ι' sh' h':=by
      intro id sbn c0 z' hnew hv hnone hok
      subst hv
      have fresh:∀(ι1:Im) (sh1:SH) (h1:Hp),HRs F ι1 sh1 h1→ι.le ι1→sh1.new sbn=some (id,sh')→∃ha h' ι',zat h1 e (cp++cx) false=some (⟨h1.next,0,none⟩,ha)∧zdD (.slice (some ⟨h1.next,0,none⟩) (p.n+q.n) (p.n+q.n)) ha=some (.slice (some ⟨h1.next,0,none⟩) (p.n+q.n) (p.n+q.n),h')∧
        VRs F ι' (.nsl id k c0 0 (p.n+q.n) z') (.slice (some ⟨h1.next,0,none⟩) (p.n+q.n) (p.n+q.n))∧HRs F ι' sh' h'∧Stp F ι1 sh1 h1 F ι' sh' h'∨p.n+q.n=0:=by
       intro ι1 sh1 h1 H1 hle hn1
       by_cases hm0:p.n+q.n=0
       .exact⟨h1,h1,ι1,.inr hm0⟩
       have hlen:(cp++cx).length=(p.n+q.n)*k:=by rw[zY,P.len,Q.len,zB]
       obtain⟨ha',h',ι',r1,r2,r3,r4,r5⟩:=new_loose H1 hn1 (cs:=cp++cx) (t:=e) (zbZ P.one Q.one) (m:=p.n+q.n) (k:=k) (n:=p.n+q.n) (c:=p.n+q.n) (by rw[hlen];exact zA _)
        (fun ι' hle' hi' h' S=>hok ι' h' _ _ (hle.trans hle') hi' rfl rfl S
         (fun j hj=>by simp only[zM];rw[List.getElem?_append_left (by rw[P.len];exact hj)])
         (fun j hj=>by simp only[zM];rw[List.getElem?_append_right (by rw[P.len];omega),P.len];congr 1;omega))
       refine⟨ha',h',ι',.inl ⟨r1,r2,?_,r4,r5⟩⟩
       refine .nsl _ _ _ _ _ _ _ _ 0 _ r3 rfl (by simp) (zA _) (.inr (by simp)) (by simp only;rw[hlen];omega) (.inr (.inl (by omega)))
      rcases hbase with⟨rfl,hp0⟩|⟨idb,cb,s0,n,zb,B,off,cap,cs,rfl,rfl,hpn,hi,hBk,hs0,hcap,hT,hx1,hlive,S,hcut⟩
      ·
       by_cases hq0:q.n=0
       .obtain⟨rfl,f,rfl⟩:=hnone (by omega)
        rw[show p.n+q.n=0 by omega]at hnew ⊢
        obtain⟨r1,r2⟩:=HRs.newNone hdrop.1 hnew
        rw[hq0]at hnx
        refine⟨_,h,ι,?_,.nslN _ _ _ _ _ _ (zA _),r1,hdrop.2.trans r2⟩
        unfold append_
        rw[app_nil0 hu1 hu2 hune hk hby hzv hzl hnx];exact hsame
       .obtain⟨n,hn⟩:∃n,q.n=n+1:=⟨q.n-1,by omega⟩
        obtain⟨ha',h',ι',r⟩:=fresh ι (sh.drop s) h hdrop.1 (Im.le.refl _) hnew
        rcases r with⟨r1,r2,r3,r4,r5⟩|r
        .have hcp:cp=[]:=zR (by rw[P.len,hp0];simp)
         have hm:p.n+q.n=n+1:=by omega
         rw[hn]at hnx
         rw[hcp,List.nil_append]at r1
         rw[hm]at r2 r3 ⊢
         refine⟨_,h',ι',?_,r3,r4,hdrop.2.trans r5⟩
         unfold append_
         rw[hm]at hchk
         rw[app_nil hu1 hu2 hune hk hby hzv hzl hnx hchk r1]
         exact r2
        .omega
      ·
       obtain⟨g1,g2,g3⟩:=zav hcut
       have hcpat:∀j,j<n*k→cs[off+j]?=cp[j]?:=fun j hj=>(zaW hcut j hj).symm
       by_cases hfit:n+q.n≤cap
       ·
        have hT2:off+(n+q.n)*k≤B.T:=by
         have:(n+q.n)*k≤cap*k:=zI _ hfit
         omega
        obtain⟨cs',hcs'⟩:=za1 (off+n*k) cs cx (by rw[Q.len,S.len];rw[zB]at hT2;omega)
        have hb8:B.b<9223372036854775808:=by have:=H.most;have:=S.lt;omega
        have hg:∀j,(h.put B.b (.cells cs' e B.x false)).get j=if j=B.b then some (.cells cs' e B.x false)else h.get j:=fun j=>Hp.get_put hb8
        have moved:∀(C:List Value) (h':Hp),h'.next=h.next→(∀j,j≠B.b→h'.get j=h.get j)→h'.get B.b=some (.cells C e B.x false)→C.length=B.T→ones_ C=true→(∀j,j<n*k→C[off+j]?=cp[j]?)→(∀j,j<q.n*k→C[off+n*k+j]?=cx[j]?)→
          ∃ι',VRs F ι' (.nsl id k c0 0 (p.n+q.n) z') (.slice (some ⟨B.b,off,none⟩) (n+q.n) cap)∧HRs F ι' sh' h'∧Stp F ι sh h F ι' sh' h':=by
         intro C h' e1 e2 e3 e4 e5 e6 e7
         have S':zas h' ⟨B.b,off,p.n+q.n,k,B.T,B.x⟩ C e:=⟨e3,e4,e5,by simp only;rw[hpn];exact hT2,fun hx=>by simp only;rw[e2 _ (by omega)];exact S.view hx,by simp only;rw[e1];exact S.lt,fun hx=>by simp only;rw[e1];exact S.vlt hx⟩
         obtain⟨ι',q1,q2,q3⟩:=HRs.moved H hlive hi S.lt (fun v e=>by rw[S.got]at e;cases e) hnew (B':=⟨B.b,off,p.n+q.n,k,B.T,B.x⟩) rfl e1 e2 (fun ι' hle' hi'=>hok ι' h' _ C hle' hi' rfl rfl S' (fun j hj=>e6 j (by rw[←hpn];exact hj)) (fun j hj=>by simp only;rw[hpn];exact e7 j hj))
         refine⟨ι',?_,q2,q3⟩
         rw[show n+q.n=p.n+q.n by omega]
         exact .nsl _ _ _ _ _ _ _ ⟨B.b,off,p.n+q.n,k,B.T,B.x⟩ off cap q1 rfl (by simp) (by omega) (.inr (by simp)) hT (by rcases hx1 with r|r;exact .inl r;exact .inr (.inl r))
        cases hqn:q.n with
        | zero=>
         rw[hqn]at hnx moved
         obtain⟨ι',r1,r2,r3⟩:=moved cs h rfl (fun _ _=>rfl) S.got S.len S.one hcpat (fun j hj=>by omega)
         refine⟨_,h,ι',?_,by simpa [hqn]using r1,r2,r3⟩
         unfold append_
         rw[app_fit0 hu1 hu2 hune hk hby hzv hzl hnx hcap];exact hsame
        | succ m=>
         have hput:=zba S (a:=B.b) (.inl rfl) Q.one hcs'
         rw[hqn]at hnx moved hfit
         obtain⟨ι',r1,r2,r3⟩:=moved cs' (h.put B.b (.cells cs' e B.x false)) Hp.put_next (fun j hj=>by rw[hg,if_neg hj]) (by rw[hg,if_pos rfl]) (by rw[zaB hcs'];exact S.len) (zby S.one Q.one hcs')
          (fun j hj=>by rw[zax hcs' (off+j),if_neg (by omega)];exact hcpat j hj)
          (put_at hcs' (by rw[Q.len,hqn]))
         refine⟨_,_,ι',?_,r1,r2,r3⟩
         unfold append_
         rw[app_fit (a:=⟨B.b,off,none⟩) (len:=n) (cap:=cap) hu1 hu2 hune hk hby hzv hzl hnx hfit (h':=h.put B.b (.cells cs' e B.x false)) hput]
         simp only
         refine sight_same fun a n' c' e1 e2=>?_
         injection e1 with e1 e3 e4
         injection e1 with e1
         subst e1
         unfold zaw at e2
         simp only[hg,if_pos rfl]at e2
         injection e2 with e2
         rw[Hp.put_next]
         exact S.vlt e2
       ·
        have hchk2:(zG ((n+q.n)*b) 140737488355328&&zG (n+q.n) 9223372036854775807)=true:=by rw[←hpn];exact hchk
        cases hx:B.x with
        | true=>
         obtain⟨ha',h',ι',r⟩:=fresh ι _ h hdrop.1 (Im.le.refl _) hnew
         rcases r with⟨r1,r2,r3,r4,r5⟩|r
         .refine⟨_,h',ι',?_,r3,r4,hdrop.2.trans r5⟩
          unfold append_
          rw[app_exact hu1 hu2 hune hk hby hzv hzl hnx hfit (a:=⟨B.b,off,none⟩) (by have:=S.got;rw[hx]at this;exact this) hcut hchk2 r1]
          simp only
          rw[←hpn];exact r2
         .omega
        | false=>
         obtain⟨d1,d2⟩:=HRs.put H hlive hi S.lt (fun v e=>by rw[S.got]at e;cases e) (x:=.dead) (sb:=.gone) trivial
         obtain⟨ha',h',ι',r⟩:=fresh ι _ _ d1 (Im.le.refl _) hnew
         rcases r with⟨r1,r2,r3,r4,r5⟩|r
         .refine⟨_,h',ι',?_,r3,r4,d2.trans r5⟩
          unfold append_
          rw[app_loose hu1 hu2 hune hk hby hzv hzl hnx hfit (a:=⟨B.b,off,none⟩) (by have:=S.got;rw[hx]at this;exact this) hcut hchk2 (by simp only;rw[S.len];exact hT) Q.one r1]
          simp only
          rw[←hpn];exact r2
         .omega
     cases hj:joined p q with
     | some l=>
      rw[hj]at ha
      simp only at ha
      split at ha
      .rename_i id sh2 hnew
       simp only[RT.sel,zE,zH]at ha
       obtain⟨rfl,rfl⟩:=ha
       unfold joined at hj
       split at hj
       .rename_i pl' ql' hpl hql
        injection hj with hj;subst hj
        obtain⟨pc,pe,pr,_⟩:=P.lit _ hpl
        obtain⟨qc,qe,qr,_⟩:=Q.lit _ hql
        have hq0:q.n≠0:=fun e=>by rw[qc]at hz0;unfold isZero at hz0;rw[e]at hz0;cases hz0
        refine main id _ true 0 hnew rfl (fun e=>by omega) fun ι' h' B' C hle hi' hBk hBm S hc1 hc2=>?_
        refine⟨B',C,hi',hBk,by rw[hBm,zY,pe,qe],S,fun i r hr=>?_⟩
        by_cases hlt:i<p.n
        .rw[List.getElem?_append_left (by omega)]at hr
         refine((pr i r hr).mono (Fz.le.refl _) hle).carry fun j hj=>?_
         have:(i+1)*k≤p.n*k:=zI _ hlt
         rw[zB]at this
         rw[zS];exact hc1 _ (by omega)
        .rw[List.getElem?_append_right (by omega)]at hr
         have hi2:i-pl'.length<q.n:=by have:=(List.getElem?_eq_some_iff.1 hr).1;omega
         refine((qr _ r hr).mono (Fz.le.refl _) hle).carry fun j hj=>?_
         have:(i-pl'.length+1)*k≤q.n*k:=zI _ hi2
         rw[zB]at this
         have hh:B'.o+i*k+j=B'.o+p.n*k+((i-pl'.length)*k+j):=by
          have:i*k=p.n*k+(i-pl'.length)*k:=by rw[←zB];congr 1;omega
          omega
         rw[hh];exact hc2 _ (by omega)
       .cases hj
      .cases ha
     | none=>
      rw[hj]at ha
      simp only at ha
      split at ha
      .rename_i id sh2 hfr hnew
       simp only[RT.sel,zE,zH]at ha
       obtain⟨rfl,rfl⟩:=ha
       rw[zK]at hfr
       refine main id _ _ 1 hnew rfl (fun e=>⟨rfl,_,rfl⟩) fun ι' h' B' C hle hi' hBk hBm S hc1 hc2=>?_
       refine .inr ⟨B',C,hi',hBk,hBm,S,fun i hi=>?_⟩
       refine joined_rel (fun i hi=>?_) (fun l hl=>?_) (fun i hi=>?_) hi
       .refine(P.free hfr.1 i hi).carry fun j hj=>?_
        have:(i+1)*k≤p.n*k:=zI _ hi
        rw[zB]at this
        rw[zS];exact hc1 _ (by omega)
       .obtain⟨pc,pe,_,pr⟩:=P.lit _ hl
        refine⟨pe,fun i r hr=>(pr hfr.1 i r hr).carry fun j hj=>?_⟩
        have hi2:i<p.n:=by have:=(List.getElem?_eq_some_iff.1 hr).1;omega
        have:(i+1)*k≤p.n*k:=zI _ hi2
        rw[zB]at this
        rw[zS];exact hc1 _ (by omega)
       .refine(Q.free hfr.2 i hi).carry fun j hj=>?_
        have:(i+1)*k≤q.n*k:=zI _ hi
        rw[zB]at this
        have hh:B'.o+(p.n+i)*k+j=B'.o+p.n*k+(i*k+j):=by rw[zB];omega
        rw[hh];exact hc2 _ (by omega)
      .cases ha
   .cases ha
  .cases ha
 .cases ha
end
section
variable {F:Fz} {ι:Im} {sh sh':SH} {h:Hp}
theorem var_rel{e:TypeId}{k:Nat}{z:List SV}{vs:List Value}{id:Nat}(H:HRs F ι sh h)(L:LRs F ι z vs)(hk:z.length=k)(h1:ones_ vs=true)(hn:sh.new (.lst k [z] e)=some (id,sh')) :
  ∃h' ι',zat h e vs true=some (⟨h.next,0,none⟩,h')∧VRs F ι' (.ptr id k true 0 0) (.pointer (some ⟨h.next,0,none⟩))∧HRs F ι' sh' h'∧Stp F ι sh h F ι' sh' h':=by
 obtain⟨h',ι',q1,q2,q3,q4⟩:=new_exact H hn (cs:=vs) (t:=e) h1 (m:=1) (k:=k) (by rw[←L.1];omega)
  (fun ι' hle hi h' S=>⟨_,vs,hi,rfl,rfl,S,fun i r hr=>by
   cases i with
   | zero=>
    simp at hr;subst hr
    refine⟨hk,fun j x y hx hy=>(L.2 j x y hx ?_).up hle⟩
    simpa using hy
   | succ i=>simp at hr⟩)
 refine⟨h',ι',q1,?_,q3,q4⟩
 have:=VRs.ptr (F:=F) ι' id k true 0 0 _ h.next q2 rfl (by simp) (.inl rfl)
 simpa using this
theorem buildSlice_rel{E:Env}{t:TypeId}{len:Nat}{l:List (Nat×SV)}{l':List (Nat×Value)}{v:SV}(H:HRs F ι sh h)(hl:l.length=l'.length)
  (hr:∀(i:Nat) (p:Nat×SV) (q:Nat×Value),l[i]?=some p→l'[i]?=some q→p.1=q.1∧VRs F ι p.2 q.2) (hb:zdf E t len l sh=some (v,sh')) :
  ∃v' h' ι',zbB E t len l' h=some (v',h')∧VRs F ι' v v'∧HRs F ι' sh' h'∧Stp F ι sh h F ι' sh' h':=by
 unfold zdf at hb
 split at hb
 .rename_i e hu
  split at hb
  .rename_i s z hs hz
   cases hc:(zG (len*s) 16777216&&zC z.length s)with
   | false=>rw[hc]at hb;cases hb
   | true=>
    rw[hc]at hb
    simp only[cond_true]at hb
    obtain⟨zv,hzv,Z,o1,_⟩:=zcD (F:=F) (ι:=ι) hz
    split at hb
    .rename_i c hcf
     obtain⟨cs',q1,q2,q3⟩:=fill_rel hl hr (rep_rel Z len) (rep_ones o1 len) hcf
     split at hb
     .rename_i id sh2 hn
      injection hb with hb;injection hb with e1 e2;subst e1;subst e2
      rw[zK]at hc
      have hzs:=zF hc.2
      have hclen:c.length=len*s:=by
       have:∀ {place:Nat→Option (Nat×Nat)} {l:List (Nat×SV)} {cells r:List SV},fill1_ place cells l=some r→r.length=cells.length:=by
        intro place l
        induction l with
        | nil=>intro cells r h;injection h with h;rw[h]
        | cons p l ih=>
         intro cells r h
         unfold fill1_ at h
         split at h
         .cases h
         .rename_i off size _
          cases hq:(zC p.2.cells.length size&&zc0 p.2.cells)with
          | false=>rw[hq]at h;cases h
          | true=>
           rw[hq]at h
           simp only[cond_true]at h
           split at h
           .rename_i c2 hc2
            rw[ih h,zaB hc2]
           .cases h
       rw[this hcf,zbI,hzs]
      obtain⟨r1,r2⟩:=rows_rel (k:=s) (n:=len) q2 hclen
      obtain⟨h',ι',g1,g2,g3,g4⟩:=new_exact H hn (cs:=cs') (t:=e) q3 (m:=len) (k:=s) (by rw[←q2.1,hclen];exact zA _)
       (fun ι' hle hi h' S=>⟨_,cs',hi,rfl,by simp only;rw[r1],S,fun i r hr=>by simp only[zM];exact(r2 i r hr).mono (Fz.le.refl _) hle⟩)
      refine⟨.slice (some ⟨h.next,0,none⟩) len len,h',ι',?_,?_,g3,g4⟩
      .unfold zbB
       rw[hu]
       have hc2:(zG (len*s) 16777216&&zC zv.cells.toList.length s)=true:=by rw[hc.1,←Z.1,hc.2];rfl
       simp only[hs,hzv,hc2,cond_true,q1,g1]
      .exact .nsl _ _ _ _ _ _ _ _ 0 len g2 rfl (by simp) (zA _) (.inr (by simp)) (by simp only;rw[←q2.1,hclen];omega) (.inl rfl)
     .cases hb
    .cases hb
  .cases hb
 .cases hb
theorem makeSlice_rel{E:Env}{t:TypeId}{l c v:SV}{l' c':Value}(H:HRs F ι sh h)(hl:VRs F ι l l')(hc:VRs F ι c c')(hm:(makeSlice1_ E t l c sh).sel=some (v,sh')) :
  ∃v' h' ι',zbU E t l' c' h=some (v',h')∧VRs F ι' v v'∧HRs F ι' sh' h'∧Stp F ι sh h F ι' sh' h':=by
 unfold makeSlice1_ at hm
 split at hm
 .rename_i e hu
  split at hm
  .rename_i s b z hs hb hz
   obtain⟨k1,c1,cl,n,rfl,h2⟩:=zaZ hm
   obtain⟨k2,c2,cc,m,rfl,h3⟩:=zaZ h2
   obtain rfl:=hl.int_inv
   obtain rfl:=hc.int_inv
   obtain⟨hq,h4⟩:=zbf h3
   obtain⟨zv,hzv,Z,o1,fz⟩:=zcD (F:=F) (ι:=ι) hz
   have hnm:n≤m:=by
    rw[zK,zK]at hq
    exact zN hq.1.1
   split at h4
   .rename_i hzs
    split at h4
    .rename_i id sh2 hn
     simp only[RT.sel,zE,zH]at h4
     obtain⟨rfl,rfl⟩:=h4
     have hzs':=zF hzs
     have hlen:(rep_ zv.cells.toList m).length=m*s:=by rw[zbI,←Z.1,hzs']
     have hrow:∀i,i<m→RowR F Im0 (rep_ zv.cells.toList m) (i*s) s z:=by
      intro i hi
      have Z0:LRs F Im0 z zv.cells.toList:=free_lrs Z fz
      have:∀(m i:Nat),i<m→∀j,j<s→(rep_ zv.cells.toList m)[i*s+j]?=zv.cells.toList[j]?:=by
       intro m
       induction m with
       | zero=>intro i hi;omega
       | succ m ih=>
        intro i hi j hj
        unfold rep_
        have hzl:zv.cells.toList.length=s:=by rw[←Z.1,hzs']
        cases i with
        | zero=>rw[List.getElem?_append_left (by omega)];congr 1;omega
        | succ i=>
         rw[List.getElem?_append_right (by rw[zB];omega),hzl]
         rw[show(i+1)*s+j-s=i*s+j by rw[zB];omega]
         exact ih i (by omega) j hj
      exact RowR.of_lrs Z0 hzs' (this m i hi)
     obtain⟨h',ι',g1,g2,g3,g4⟩:=new_exact H hn (cs:=rep_ zv.cells.toList m) (t:=e) (rep_ones o1 m) (m:=n) (k:=s) (by rw[hlen];exact zI _ hnm)
      (fun ι' hle hi h' S=>.inr ⟨_,_,hi,rfl,rfl,S,fun i hi=>by simp only[zM];exact hrow i (by omega)⟩)
     refine⟨.slice (some ⟨h.next,0,none⟩) n m,h',ι',?_,?_,g3,g4⟩
     .unfold zbU
      have hq2:(zG n m&&zG (m*b) 140737488355328&&zG m 9223372036854775807&&zC zv.cells.toList.length s)=true:=by rw[hq,←Z.1,hzs];rfl
      simp only[hu,hs,hb,hzv,hq2,cond_true,g1]
     .exact .nsl _ _ _ _ _ _ _ _ 0 m g2 rfl (by simp) hnm (.inr (by simp)) (by simp only;rw[hlen];omega) (.inl rfl)
    .cases h4
   .cases h4
  .cases hm
 .cases hm
theorem len_rel{E:Env}{t:TypeId}{x v:SV}{x':Value}(H:HRs F ι sh h)(hx:VRs F ι x x')(hl:len1_ E t x sh=some v):∃v',len_ E t x' h=some v'∧VRs F ι v v':=by
 unfold len1_ at hl
 split at hl
 .rename_i c s hu;injection hl with hl;subst hl;obtain rfl:=hx.str_inv;unfold len_;rw[hu,zbv];exact⟨_,rfl,.int ..⟩
 .rename_i n e _ hu;injection hl with hl;subst hl;unfold len_;rw[hu]
  refine⟨_,?_,.int ..⟩
  cases x'<;>rfl
 .rename_i n e _ _ _ _ _ hu;injection hl with hl;subst hl;unfold len_;rw[hu]
  refine⟨_,?_,.int ..⟩
  cases x'<;>rfl
 .rename_i e hu;injection hl with hl;subst hl;obtain⟨rfl,_⟩:=hx.raw_inv;unfold len_;rw[hu];exact⟨_,rfl,.int ..⟩
 .rename_i e _ _ c _ n _ hu;injection hl with hl;subst hl
  unfold len_;rw[hu,zbv]
  cases hx<;>exact⟨_,rfl,.int ..⟩
 .rename_i hu;injection hl with hl;subst hl
  unfold len_;rw[hu,zbv]
  cases hx;exact⟨_,rfl,.int ..⟩
 .rename_i hu;injection hl with hl;subst hl
  unfold len_;rw[hu]
  cases hx<;>exact⟨_,rfl,.int ..⟩
 .rename_i hu;injection hl with hl;subst hl;obtain⟨rfl,_⟩:=hx.raw_inv;unfold len_;rw[hu];exact⟨_,rfl,.int ..⟩
 .rename_i r hu
  split at hl
  .rename_i es c hg
   injection hl with hl;subst hl
   cases hx with
   | mp _ _ B hB=>
    obtain⟨B',q1,q2,q3⟩:=H.ok r _ hg
    rw[hB]at q1;injection q1 with q1;subst q1
    unfold len_;rw[hu];simp only[q2]
    exact⟨_,rfl,.int ..⟩
  .cases hl
 .cases hl
theorem entries_rel{m:SV}{m':Value}{es:List MapEntry}(H:HRs F ι sh h)
  (he:(match m with|.raw (.map none)=>some []|.mp r=>(match sh.get r with|some (.mp es _)=>some es|_=>none)|_=>none)=some es) (hm:VRs F ι m m'):zbS h m'=some es:=by
 split at he
 .obtain⟨rfl,_⟩:=hm.raw_inv;injection he with he;subst he;rfl
 .rename_i r
  split at he
  .rename_i es2 c hg
   injection he with he;subst he
   cases hm with
   | mp _ _ B hB=>
    obtain⟨B',q1,q2,q3⟩:=H.ok r _ hg
    rw[hB]at q1;injection q1 with q1;subst q1
    unfold zbS;simp only[q2]
  .cases he
 .cases he
theorem lookup_rel{E:Env}{t:TypeId}{m k v:SV}{m' k':Value}{ok:Bool}(H:HRs F ι sh h)(hm:VRs F ι m m')(hk:VRs F ι k k')(hl:lookup1_ E t m k ok sh=some v):∃v',zbK E t m' k' ok h=some v'∧VRs F ι v v':=by
 unfold lookup1_ at hl
 split at hl
 .rename_i kt et kk hu hkk
  obtain rfl:=val_rel hk hkk
  split at hl
  .rename_i d es hd he
   have he':=entries_rel H he hm
   unfold zbK
   simp only[hu,hd,he']
   cases hkey:zbw d k' with
   | false=>rw[hkey]at hl;cases hl
   | true=>
    rw[hkey]at hl
    simp only[cond_true]at hl ⊢
    split at hl
    .rename_i i w hf
     simp only[hf]
     split at hl
     .rename_i w' hw
      injection hl with hl;subst hl
      refine⟨_,rfl,?_⟩
      cases ok with
      | true=>exact .tup_of (.cons (ofV_rel hw) (.cons (.bool ..) (.nil ..)))
      | false=>exact ofV_rel hw
     .cases hl
    .rename_i hf
     simp only[hf]
     split at hl
     .rename_i z hz
      simp only[hz]
      split at hl
      .rename_i z' hz'
       injection hl with hl;subst hl
       refine⟨_,rfl,?_⟩
       cases ok with
       | true=>exact .tup_of (.cons (ofV_rel hz') (.cons (.bool ..) (.nil ..)))
       | false=>exact ofV_rel hz'
      .cases hl
     .cases hl
    .cases hl
  .cases hl
 .cases hl
theorem mapUpdate_rel{E:Env}{t:TypeId}{m k v:SV}{m' k' v':Value}(H:HRs F ι sh h)(hm:VRs F ι m m')(hk:VRs F ι k k')(hv:VRs F ι v v')(hl:mapUpdate1_ E t m k v sh=some sh') :
  ∃h',zbm E t m' k' v' h=some h'∧HRs F ι sh' h'∧Stp F ι sh h F ι sh' h':=by
 unfold mapUpdate1_ at hl
 split at hl
 .rename_i kt et r kk vv hu hkk hvv
  obtain rfl:=val_rel hk hkk
  obtain rfl:=val_rel hv hvv
  split at hl
  .rename_i d es clock hd hg
   cases hm with
   | mp _ _ B hB=>
    obtain⟨B',q1,q2,q3⟩:=H.ok r _ hg
    rw[hB]at q1;injection q1 with q1;subst q1
    have hb8:B.b<9223372036854775808:=by have:=H.most;omega
    have put:∀es' c',HRs F ι (sh.put r (.mp es' c')) (h.put B.b (.map es' c'))∧Stp F ι sh h F ι (sh.put r (.mp es' c')) (h.put B.b (.map es' c')):=fun es' c'=>
     HRs.put H ⟨_,hg,by intro e;cases e⟩ hB q3 (fun v e=>by rw[q2]at e;cases e) ⟨B,hB,by rw[Hp.get_put hb8,if_pos rfl],by rw[Hp.put_next];exact q3⟩
    unfold zbm
    simp only[hu,hd,q2]
    cases hkey:(zbw d k'&&zcv v')with
    | false=>rw[hkey]at hl;cases hl
    | true=>
     rw[hkey]at hl
     simp only[cond_true]at hl ⊢
     split at hl
     .rename_i hf
      simp only[hf]
      injection hl with hl;subst hl
      exact⟨_,rfl,put _ _⟩
     .rename_i i w hf
      simp only[hf]
      split at hl
      .rename_i en hen
       simp only[hen]
       split at hl
       .rename_i es' hes
        simp only[hes]
        cases hsame:same1_ en.key k' with
        | false=>rw[hsame]at hl;cases hl
        | true=>
         rw[hsame]at hl
         simp only[cond_true]at hl ⊢
         injection hl with hl;subst hl
         exact⟨_,rfl,put _ _⟩
       .cases hl
      .cases hl
     .cases hl
  .cases hl
 .cases hl
theorem lookupR_rel{E:Env}{t:TypeId}{m k v:SV}{m' k':Value}{ok:Bool}(H:HRs F ι sh h)(hm:VRs F ι m m')(hk:VRs F ι k k')(hl:(lookupR_ E t m k ok sh).sel=some v):∃v',zbK E t m' k' ok h=some v'∧VRs F ι v v':=by
 unfold lookupR_ at hl
 split at hl
 .rename_i kk x
  obtain rfl:=hk.int_inv
  split at hl
  .rename_i kt et r hu
   split at hl
   .rename_i k2 es clock hd hb hg
    split at hl
    .rename_i hkk hz
     have hkk:=of_decide_eq_true hkk
     subst hkk
     cases hm with
     | mp _ _ B hB=>
      obtain⟨B',q1,q2,q3⟩:=H.ok r _ hg
      rw[hB]at q1;injection q1 with q1;subst q1
      have he:zbS h (.map (some B.b))=some es:=by unfold zbS;simp only[q2]
      have hkey:zbw (.int kk) (.int kk x)=true:=by simp[zbw]
      cases hok:hasOk_ (.int kk) (.int kk x) es with
      | false=>rw[hok]at hl;cases ok<;>cases hl
      | true=>
       rw[hok]at hl
       unfold zbK
       simp only[hu,hd,he,hkey,cond_true,hz]
       unfold hasOk_ at hok
       unfold zbR hasKey_ at hl
       split at hok
       .rename_i hf
        simp only[hf]at hl ⊢
        cases ok with
        | true=>simp only[RT.sel,cond_true,zE]at hl;subst hl;exact⟨_,rfl,.tup_of (.cons (.bool ..) (.cons (.bool ..) (.nil ..)))⟩
        | false=>simp only[RT.sel,cond_true,zE]at hl;subst hl;exact⟨_,rfl,.bool ..⟩
       .rename_i i b hf
        simp only[hf]at hl ⊢
        cases ok with
        | true=>simp only[RT.sel,cond_true,zE]at hl;subst hl;exact⟨_,rfl,.tup_of (.cons (.bool ..) (.cons (.bool ..) (.nil ..)))⟩
        | false=>simp only[RT.sel,cond_true,zE]at hl;subst hl;exact⟨_,rfl,.bool ..⟩
       .cases hok
    .cases hl
   .cases hl
  .cases hl
 .split at hl
  .rename_i y hy
   injection hl with hl;subst hl
   exact lookup_rel H hm hk hy
  .cases hl
theorem mapUpdateR_rel{E:Env}{t:TypeId}{m k v:SV}{m' k' v':Value}(H:HRs F ι sh h)(hm:VRs F ι m m')(hk:VRs F ι k k')(hv:VRs F ι v v')(hl:(mapUpdateR_ E t m k v sh).sel=some sh') :
  ∃h',zbm E t m' k' v' h=some h'∧HRs F ι sh' h'∧Stp F ι sh h F ι sh' h':=by
 unfold mapUpdateR_ at hl
 split at hl
 .rename_i kk x c b
  obtain rfl:=hk.int_inv
  obtain rfl:=hv.bool_inv
  split at hl
  .rename_i kt et r hu
   split at hl
   .rename_i k2 es clock hd hg
    split at hl
    .rename_i hkk
     have hkk:=of_decide_eq_true hkk
     subst hkk
     cases hm with
     | mp _ _ B hB=>
      obtain⟨B',q1,q2,q3⟩:=H.ok r _ hg
      rw[hB]at q1;injection q1 with q1;subst q1
      have hb8:B.b<9223372036854775808:=by have:=H.most;omega
      have put:∀es' c',HRs F ι (sh.put r (.mp es' c')) (h.put B.b (.map es' c'))∧Stp F ι sh h F ι (sh.put r (.mp es' c')) (h.put B.b (.map es' c')):=fun es' c'=>
       HRs.put H ⟨_,hg,by intro e;cases e⟩ hB q3 (fun v e=>by rw[q2]at e;cases e) ⟨B,hB,by rw[Hp.get_put hb8,if_pos rfl],by rw[Hp.put_next];exact q3⟩
      have hkey:(zbw (.int kk) (.int kk x)&&zcv (.bool b))=true:=by simp[zbw,zcv]
      cases hok:isNew_ (.int kk) (.int kk x) es with
      | false=>rw[hok]at hl;cases hl
      | true=>
       rw[hok]at hl
       simp only[RT.sel,cond_true,zE]at hl
       subst hl
       unfold zbm
       unfold isNew_ at hok
       split at hok
       .rename_i hf
        simp only[hu,hd,q2,hkey,cond_true,hf]
        exact⟨_,rfl,put _ _⟩
       .cases hok
    .cases hl
   .cases hl
  .cases hl
 .split at hl
  .rename_i y hy
   injection hl with hl;subst hl
   exact mapUpdate_rel H hm hk hv hy
  .cases hl
theorem makeMap_rel{id:Nat}(H:HRs F ι sh h)(hn:sh.new (.mp [] 0)=some (id,sh')):∃b h' ι',h.new (.map [] 0)=some (b,h')∧VRs F ι' (.mp id) (.map (some b))∧HRs F ι' sh' h'∧Stp F ι sh h F ι' sh' h':=by
 obtain⟨_,_,_,_,_,n6,_⟩:=SH.new_some hn
 have:=H.most
 obtain⟨h',e1,e2,e3⟩:=Hp.new_ok (h:=h) (x:=.map [] 0) (by omega)
 obtain⟨ι',q1,q2,q3⟩:=HRs.new H hn (B:=⟨h.next,0,0,0,0,true⟩) (h':=h') (zA _) (by simp only;omega) (by omega) (by omega) (fun j hj=>by rw[e3,if_neg (by omega)])
  (fun ι' hle hi=>⟨_,hi,by simp only;rw[e3,if_pos rfl],by simp only;omega⟩)
 exact⟨_,h',ι',e1,.mp _ _ _ q1,q2,q3⟩
theorem bytesL_rel:∀ {l:List (List SV)} {s:List UInt8} {cs:List Value} {p:Nat},bytesL l=some s→(∀i r,l[i]?=some r→RowR F ι cs (p+i*1) 1 r)→p+l.length≤cs.length→zbe ((cs.drop p).take l.length)=some s
 | [],s,cs,p,h,hr,hl=>by injection h with h;subst h;simp[zbe]
 | r::l,s,cs,p,h,hr,hl=>by
  unfold bytesL at h
  split at h
  .cases ‹_::_=[]›
  .rename_i n l2 heq
   injection heq with e1 e2;subst e1;subst e2
   split at h
   .rename_i s2 hs2
    injection h with h;subst h
    simp only[List.length_cons]at hl ⊢
    have hp:p<cs.length:=by omega
    have h0:=hr 0 _ rfl
    have hv:cs[p]?=some cs[p]:=List.getElem?_eq_getElem hp
    have:=h0.2 0 _ cs[p] rfl (by simp only[Nat.zero_mul,zV];exact hv)
    have hi:=this.int_inv
    rw[List.drop_eq_getElem_cons hp,List.take_succ_cons,hi]
    unfold zbe
    rw[bytesL_rel (p:=p+1) hs2 (fun i r hi=>by
     have:=hr (i+1) r (by simpa using hi)
     rw[show p+1+i*1=p+(i+1)*1 by omega];exact this) (by omega)]
   .cases h
  .cases h
theorem bytes1_rel{e:Nat→List SV}:∀ {n:Nat} {cs:List Value} {p:Nat},(∀i,i<n→RowR F ι cs (p+i) 1 (e i))→(∀i,i<n→isByte (e i)=true)→p+n≤cs.length→zbe ((cs.drop p).take n)=some ((List.range n).map fun i=>byteOf (e i)):=by
 have one:∀ {cs:List Value} {p i:Nat} {r:List SV},RowR F ι cs p 1 r→isByte r=true→p<cs.length→∃m:Nat,cs[p]?=some (.int .u8 (.ofNat m))∧byteOf r=UInt8.ofNat m:=by
  intro cs p i r R hb hp
  unfold isByte at hb
  split at hb
  .rename_i c x
   have hv:cs[p]?=some cs[p]:=List.getElem?_eq_getElem hp
   have:=(R.2 0 _ cs[p] rfl (by simp only[zV];exact hv)).int_inv
   have hx:0≤x:=of_decide_eq_true hb
   obtain⟨m,rfl⟩:=Int.eq_ofNat_of_zero_le hx
   exact⟨m,by rw[hv,this];rfl,rfl⟩
  .cases hb
 intro n
 induction n with
 | zero=>intro cs p _ _ _;simp[zbe]
 | succ n ih=>
  intro cs p hr hb hl
  have hsnoc:∀(l:List Value) (m:Nat) (s:List UInt8),zbe l=some s→zbe (l++[.int .u8 (.ofNat m)])=some (s++[UInt8.ofNat m]):=by
   intro l m
   induction l with
   | nil=>intro s h;injection h with h;subst h;rfl
   | cons x l ih2=>
    intro s h
    unfold zbe at h
    split at h
    .cases ‹_::_=[]›
    .rename_i n2 l2 heq
     injection heq with e1 e2;subst e1;subst e2
     split at h
     .rename_i s2 hs2
      injection h with h;subst h
      simp only[List.cons_append]
      unfold zbe
      rw[ih2 _ hs2]
     .cases h
    .cases h
  obtain⟨m,q1,q2⟩:=one (i:=n) (hr n (by omega)) (hb n (by omega)) (by omega)
  have h1:=ih (fun i hi=>hr i (by omega)) (fun i hi=>hb i (by omega)) (by omega:p+n≤cs.length)
  rw[List.range_succ,List.map_append,List.take_add_one,List.getElem?_drop,q1]
  simp only[Option.toList_some,List.map_cons,List.map_nil]
  rw[q2]
  exact hsnoc _ _ _ h1
end
end Go.Proofs.YtponjccgpbgnoaaGreatDoor.Se
