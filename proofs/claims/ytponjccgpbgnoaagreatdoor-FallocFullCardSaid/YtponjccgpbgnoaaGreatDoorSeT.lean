/- What code leaves alone: temps that it does not write. -/
import Derived.Test.YtponjccgpbgnoaaGreatDoorAbR
import Derived.Test.YtponjccgpbgnoaaGreatDoorSeR
set_option linter.unusedVariables false
set_option linter.unusedSimpArgs false
set_option linter.unusedSectionVars false
open Option.some renaming injEq→zA
open Nat renaming beq→zB,le_refl→zC,blt→zE,le_of_ble_eq_true→zF,lt_of_le_of_lt→zG,ble_eq_true_of_le→zJ
open Prod.mk renaming injEq→zD
open List renaming mem_append_left→zH,mem_append_right→zI
namespace Go.Proofs.YtponjccgpbgnoaaGreatDoor.Se
open Go Go.Proofs.YtponjccgpbgnoaaGreatDoor
set_option maxRecDepth 20000
structure Keeps(W:List Nat)(b b':Fr):Prop where
 n:b'.n=b.n
 gl:b'.gl=b.gl
 at_:∀t,t∉W→b'.t.get t=b.t.get t
 has:∀t v,b.t.get t=some v→∃v',b'.t.get t=some v'
theorem Keeps.refl(W:List Nat)(b:Fr):Keeps W b b:=⟨rfl,rfl,fun _ _=>rfl,fun t v e=>⟨v,e⟩⟩
theorem Keeps.trans{W:List Nat}{a b c:Fr}(h:Keeps W a b)(k:Keeps W b c):Keeps W a c:=
 ⟨k.n.trans h.n,k.gl.trans h.gl,fun t ht=>(k.at_ t ht).trans (h.at_ t ht),fun t v e=>by obtain⟨v',e'⟩:=h.has t v e;exact k.has t v' e'⟩
theorem Keeps.mono{W W':List Nat}{a b:Fr}(h:Keeps W a b)(hs:∀t,t∈W→t∈W'):Keeps W' a b:=
 ⟨h.n,h.gl,fun t ht=>h.at_ t fun q=>ht (hs t q),h.has⟩
theorem put_keeps{W:List Nat}{b b':Fr}{d:Option Tmp}{v:Value}(hn:b.n≤100000)(hd:∀t,d=some t→t∈W)(h:b.put d v=some b'):Keeps W b b':=by
 rw[Fr.put_eq]at h
 cases d with
 | none=>simp only[zA]at h;subst h;exact .refl _ _
 | some d=>
  simp only at h
  cases hb:zE d b.n with
  | false=>rw[hb]at h;cases h
  | true=>
   rw[hb,cond_true,Tr.force_eq]at h
   injection h with h
   subst h
   have hlt:Nat.lt d b.n:=zF hb
   have h24:Nat.lt (d+1) (2 ^ 64):=zG hlt (zG hn (by decide))
   refine⟨rfl,rfl,fun t ht=>?_,fun t w e=>?_⟩
   .show(b.t.set 24 d v).get t=_
    rw[Tr.get_set _ _ _ _ _ h24,if_neg]
    rintro rfl
    exact ht (hd _ rfl)
   .show ∃v',(b.t.set 24 d v).get t=some v'
    rw[Tr.get_set _ _ _ _ _ h24]
    split
    .exact⟨_,rfl⟩
    .exact⟨_,e⟩
def dstsOf(l:List Oper):List Nat:=l.filterMap fun o=>o.dst
theorem dsts_mem{l:List Oper}{o:Oper}{t:Nat}(h:o∈l)(e:o.dst=some t):t∈dstsOf l:=List.mem_filterMap.2 ⟨o,h,e⟩
section
variable {E:Env} {call:FuncId→List Value→Hp→Option (Value×Hp)}
theorem ops_keeps{W:List Nat}{all:List Oper}:∀ {rest:List Oper} {b b':Fr} {h h':Hp} {ex:Ex},b.n≤100000→(∀o∈rest,∀t,o.dst=some t→t∈W)→ops_ E call all rest b h=.ok ex b' h'→Keeps W b b'
 | [],b,b',h,h',ex,hn,hw,e=>by unfold ops_ at e;cases e;exact .refl _ _
 | o::rest,b,b',h,h',ex,hn,hw,e=>by
  unfold ops_ at e
  split at e
  .split at e
   .split at e
    .rename_i b2 hp
     have k:=put_keeps (W:=W) hn (hw o (by simp)) hp
     exact k.trans (ops_keeps (by rw[k.n];exact hn) (fun o ho=>hw o (by simp[ho])) e)
    .cases e
   .cases e
  .split at e
   .rename_i b2 hp
    have k:=put_keeps (W:=W) hn (hw o (by simp)) hp
    exact k.trans (ops_keeps (by rw[k.n];exact hn) (fun o ho=>hw o (by simp[ho])) e)
   .cases e
  .cases e
theorem trace_keeps{W:List Nat}{all:List Oper}:∀ {rest:List Oper} {b b':Fr} {h h':Hp} {tr:List Tc},b.n≤100000→(∀o∈rest,∀t,o.dst=some t→t∈W)→zbt E call all rest b h=some (tr,b',h')→Keeps W b b'
 | [],b,b',h,h',tr,hn,hw,e=>by unfold zbt at e;cases e;exact .refl _ _
 | o::rest,b,b',h,h',tr,hn,hw,e=>by
  unfold zbt at e
  split at e
  .split at e
   .split at e
    .rename_i b2 hp
     have k:=put_keeps (W:=W) hn (hw o (by simp)) hp
     split at e
     .rename_i l r hr
      simp only[zA,zD]at e
      obtain⟨_,rfl⟩:=e
      exact k.trans (trace_keeps (by rw[k.n];exact hn) (fun o ho=>hw o (by simp[ho])) hr)
     .cases e
    .cases e
   .cases e
  .split at e
   .rename_i b2 hp
    have k:=put_keeps (W:=W) hn (hw o (by simp)) hp
    split at e
    .rename_i l r hr
     simp only[zA,zD]at e
     obtain⟨_,rfl⟩:=e
     exact k.trans (trace_keeps (by rw[k.n];exact hn) (fun o ho=>hw o (by simp[ho])) hr)
    .cases e
   .cases e
  .cases e
theorem zdc{W:List Nat}{m:Bool}{all:List Oper}{an:List Nat}{b b':Fr}{h h':Hp}{ex:Ex}(hn:b.n≤100000)(hw:∀o∈all,∀t,o.dst=some t→t∈W)(e:zb3 E call m all an b h=.ok ex b' h'):Keeps W b b':=by
 unfold zb3 at e
 split at e
 .rename_i tr a2 h2 ht
  have k:=trace_keeps hn hw ht
  cases hc:(zbD E m all an tr h2&&(bif m then ups_ tr h2 else true))with
  | false=>rw[hc]at e;cases e
  | true=>
   rw[hc,cond_true]at e
   injection e with _ e _
   subst e
   exact k
 .cases e
theorem other_dst{all:List Oper}{ord:List Nat}{o:Oper}(h:o∈za0 all ord):∃o'∈all,o.dst=o'.dst:=by
 unfold za0 at h
 obtain⟨i,_,hi⟩:=List.mem_filterMap.1 h
 split at hi
 .rename_i o' ho
  simp only[zA]at hi
  subst hi
  exact⟨o',List.mem_of_getElem? ho,rfl⟩
 .cases hi
theorem draws_keeps{W:List Nat}{all:List Oper}{b b':Fr}{h h':Hp}{ex:Ex}(hn:b.n≤100000)(hw:∀o∈all,∀t,o.dst=some t→t∈W)(e:draws_ E call all b h=.ok ex b' h'):Keeps W b b':=by
 unfold draws_ at e
 simp only at e
 cases h1:zaT E false all (anc_ all [])with
 | true=>rw[h1,cond_true]at e;exact zdc hn hw e
 | false=>
  rw[h1,cond_false]at e
  cases h2:(zaT E true all (anc_ all [])&&zbl E all (anc_ all []))with
  | true=>rw[h2,cond_true]at e;exact zdc hn hw e
  | false=>
   rw[h2,cond_false]at e
   cases h3:ordOk_ all (late_ all all.zipIdx [])with
   | false=>rw[h3]at e;cases e
   | true=>
    rw[h3,cond_true]at e
    unfold draws2_ at e
    cases h4:(zaT E true (za0 all (late_ all all.zipIdx [])) (anc_ (za0 all (late_ all all.zipIdx [])) [])&&zbl E (za0 all (late_ all all.zipIdx [])) (anc_ (za0 all (late_ all all.zipIdx [])) []))with
    | true=>
     rw[h4,cond_true]at e
     exact zdc hn (fun o ho t et=>by
      obtain⟨o',h1,h2⟩:=other_dst ho
      exact hw o' h1 t (h2▸et)) e
    | false=>rw[h4]at e;cases e
end
def wr:Code→List Nat
 | .region _ ops _=>dstsOf ops.toList
 | .seq x y=>wr x++wr y
 | .cond _ x y=>wr x++wr y
 | .block _ x=>wr x
 | .loop x=>wr x
 | _=>[]
theorem zdy{E:Env}{sp:Sp}:∀(n:Nat) (c:Code) (b b':Fr) (h h':Hp) (ex:Ex),b.n≤100000→zae E sp n (.inl c) b h=.ok ex b' h'→Keeps (wr c) b b':=by
 intro n
 induction n with
 | zero=>intro c b b' h h' ex _ e;cases e
 | succ n ih=>
  intro c b b' h h' ex hn e
  cases c with
  | skip=>unfold zae at e;cases e;exact .refl _ _
  | label l=>unfold zae at e;cases e;exact .refl _ _
  | exit i=>unfold zae at e;cases e;exact .refl _ _
  | ret=>unfold zae at e;cases e;exact .refl _ _
  | region id ops draw=>
   unfold zae at e
   simp only at e
   cases draw with
   | false=>exact ops_keeps hn (fun o ho t et=>dsts_mem ho et) e
   | true=>exact draws_keeps hn (fun o ho t et=>dsts_mem ho et) e
  | seq x y=>
   unfold zae at e
   simp only at e
   have l:∀t,t∈wr x→t∈wr (.seq x y):=fun t ht=>by unfold wr;exact zH _ ht
   have r:∀t,t∈wr y→t∈wr (.seq x y):=fun t ht=>by unfold wr;exact zI _ ht
   split at e
   .rename_i b2 h2 e1
    have k1:=ih x b b2 h h2 .normal hn e1
    have k2:=ih y b2 b' h2 h' ex (by rw[k1.n];exact hn) e
    exact(k1.mono l).trans (k2.mono r)
   .exact(ih x b b' h h' ex hn e).mono l
  | cond cc x y=>
   unfold zae at e
   simp only at e
   split at e
   .exact(ih x b b' h h' ex hn e).mono fun t ht=>by unfold wr;exact zH _ ht
   .exact(ih y b b' h h' ex hn e).mono fun t ht=>by unfold wr;exact zI _ ht
   .cases e
  | block id x=>
   unfold zae at e
   simp only at e
   have l:∀t,t∈wr x→t∈wr (.block id x):=fun t ht=>by unfold wr;exact ht
   split at e
   .rename_i i b2 h2 e1
    have k1:=(ih x b b2 h h2 _ hn e1).mono l
    cases hi:zB i id with
    | true=>rw[hi,cond_true]at e;injection e with _ e _;subst e;exact k1
    | false=>rw[hi,cond_false]at e;injection e with _ e _;subst e;exact k1
   .exact(ih x b b' h h' ex hn e).mono l
  | loop x=>
   unfold zae at e
   simp only at e
   have l:∀t,t∈wr x→t∈wr (.loop x):=fun t ht=>by unfold wr;exact ht
   split at e
   .rename_i b2 h2 e1
    have k1:=ih x b b2 h h2 .normal hn e1
    exact(k1.mono l).trans (ih (.loop x) b2 b' h2 h' ex (by rw[k1.n];exact hn) e)
   .exact(ih x b b' h h' ex hn e).mono l
  | rangeFunc f ps az x=>unfold zae at e;cases e
  | scope x=>unfold zae at e;cases e
  | goto l=>unfold zae at e;cases e
  | refuse w=>unfold zae at e;cases e
theorem follow_sel{α:Type}:∀ {t:RT α} {l:List Bool} {cs:List (Bool×Bool)} {x:α},t.follow l=some (cs,x)→(∀p∈cs,p.1=p.2)→t.sel=some x
 | .bad,l,cs,x,h,_=>by cases h
 | .ret y,l,cs,x,h,_=>by simp only[RT.follow,zA,zD]at h;rw[RT.sel,h.2]
 | .br b t f,[],cs,x,h,_=>by cases h
 | .br b t f,d::l,cs,x,h,hc=>by
  simp only[RT.follow]at h
  cases d with
  | true=>
   simp only at h
   split at h
   .rename_i cs2 y hf
    simp only[zA,zD]at h
    obtain⟨rfl,rfl⟩:=h
    have hb:b=true:=hc (b,true) (by simp)
    subst hb
    simp only[RT.sel,cond_true]
    exact follow_sel hf fun p hp=>hc p (by simp[hp])
   .cases h
  | false=>
   simp only at h
   split at h
   .rename_i cs2 y hf
    simp only[zA,zD]at h
    obtain⟨rfl,rfl⟩:=h
    have hb:b=false:=hc (b,false) (by simp)
    subst hb
    simp only[RT.sel,cond_false]
    exact follow_sel hf fun p hp=>hc p (by simp[hp])
   .cases h
section
variable {E:Env} {callS:FuncId→List SV→SH→RT (SV×SH)} {callH:Nat→FuncId→List Value→Hp→Option (Value×Hp)}
theorem Tr2.ups{s e:State}{rest:List Oper}{tr:List Tc1}{tr':List Tc}{S:Nat→State}(T:Tr2 E callS callH s rest tr tr' S e):ups_ tr' e.h=true:=by
 induction T with
 | nil=>rfl
 | cons s s1 o rest t u tr tr' S e h1 h2 h3 h4 ih=>
  unfold ups_
  have hle:s.h.next≤s1.h.next:=h2.next
  cases h4 with
  | nil=>
   simp only
   rw[h2.h,zJ hle]
   rfl
  | cons _ s2 o2 rest2 t2 u2 tr2 tr2' S2 _ g1 g2 g3 g4=>
   simp only
   rw[h2.h,g2.h,zJ hle]
   exact ih
inductive Sits(root:Code):Nat→Code→Prop
 | root:Sits root 1 root
 | seqL {p x y}:Sits root p (.seq x y)→Sits root (2*p) x
 | seqR {p x y}:Sits root p (.seq x y)→Sits root (2*p+1) y
 | condL {p c x y}:Sits root p (.cond c x y)→Sits root (2*p) x
 | condR {p c x y}:Sits root p (.cond c x y)→Sits root (2*p+1) y
 | block {p id x}:Sits root p (.block id x)→Sits root (2*p) x
 | loop {p x}:Sits root p (.loop x)→Sits root (2*p) x
def zdI(root:Code):Nat→Nat→Option Code
 | 0,_=>none
 | n+1,p=>match zB p 1 with
  | true=>some root
  | false=>match zdI root n (p / 2),zB (p % 2) 0 with
   | some (.seq x _),true=>some x
   | some (.seq _ y),false=>some y
   | some (.cond _ x _),true=>some x
   | some (.cond _ _ y),false=>some y
   | some (.block _ x),true=>some x
   | some (.loop x),true=>some x
   | _,_=>none
theorem at_code{root:Code}{p:Nat}{c:Code}(h:Sits root p c):1≤p∧∀n,p<2 ^ n→zdI root n p=some c:=by
 have dbl:∀p,(2*p) / 2=p∧zB ((2*p) % 2) 0=true:=fun p=>⟨by omega,by rw[Nat.mul_mod_right];rfl⟩
 have odd:∀p,(2*p+1) / 2=p∧zB ((2*p+1) % 2) 0=false:=fun p=>⟨by omega,by rw[show(2*p+1) % 2=1 by omega];rfl⟩
 have ne:∀q,2≤q→zB q 1=false:=fun q hq=>by
  cases hb:zB q 1 with
  | false=>rfl
  | true=>have:=Nat.eq_of_beq_eq_true hb;omega
 have ne2:∀p,1≤p→zB (2*p) 1=false:=fun p hp=>ne _ (by omega)
 have ne3:∀p,1≤p→zB (2*p+1) 1=false:=fun p hp=>ne _ (by omega)
 induction h with
 | root=>
  refine⟨zC _,fun n hn=>?_⟩
  cases n with
  | zero=>simp at hn
  | succ n=>rfl
 | seqL h ih|condL h ih|block h ih|loop h ih=>
  refine⟨by omega,fun n hn=>?_⟩
  cases n with
  | zero=>have:=ih.1;simp at hn;omega
  | succ n=>
   have:=ih.2 n (by rw[Nat.pow_succ]at hn;omega)
   unfold zdI
   simp only[ne2 _ ih.1,(dbl _).1,(dbl _).2,this]
 | seqR h ih|condR h ih=>
  refine⟨by omega,fun n hn=>?_⟩
  cases n with
  | zero=>simp at hn
  | succ n=>
   have:=ih.2 n (by rw[Nat.pow_succ]at hn;omega)
   unfold zdI
   simp only[ne3 _ ih.1,(odd _).1,(odd _).2,this]
def InCode(E:Env)(f p:Nat)(c:Code)(n:Nat):Prop:=∃fn root,E.funcs.get f=some fn∧fn.body=some root∧Sits root p c∧n=fn.ntmps
def valsB(b:Fr):List Tmp→Option (List Value)
 | []=>some []
 | t::l=>(match b.t.get t,valsB b l with|some v,some r=>some (v::r)|_,_=>none)
def RegR(s:State)(a':Fs)(sh':SH)(r:Nat→Rs):Prop:=
 ∃N b' e,(∀n,N≤n→r n=.ok .normal b' e.h)∧FRs e.F e.ι a' b'∧e.sh=sh'∧e.ok∧s.to e
theorem draws1_rel{Q:Fz→Hp→Prop}(hS:Steps Q)(hc:CallR Q callS callH){m:Bool}{all:List Oper}{an:List Nat}{s:State}{a a':Fs}{b:Fr}{sh':SH}(h0:Q s.F s.h)(U:s.ok)(hf:FRs s.F s.ι a b)(hs:(sdraws1 E callS m all an a s.sh).sel=some (a',sh')) :
  RegR s a' sh' fun n=>zb3 E (callH n) m all an b s.h:=by
 unfold sdraws1 at hs
 obtain⟨⟨tr,a1,sh1⟩,h1,h2⟩:=zah hs
 simp only at h2
 cases hr:readsOk1_ E m all an tr sh1 with
 | false=>rw[hr]at h2;cases h2
 | true=>
  rw[hr]at h2
  simp only[cond_true,RT.sel,zA,zD]at h2
  obtain⟨rfl,rfl⟩:=h2
  obtain⟨N,tr',b',S,e,q1,q2,q3,q4⟩:=strace_rel hS hc (acc:=[]) (tr:=tr) h0 U hf (by simpa using h1)
  have hreads:=reads_rel q4 (an:=an) (m:=m) (by rw[q3];exact hr)
  have hsteps:=q4.steps all.length 0 (Nat.zero_le _) (zC _)
  rw[q4.first.1,q4.first.2]at hsteps
  have hok:=q4.ok all.length (zC _)
  rw[q4.first.2]at hok
  refine⟨N,b',e,fun n hn=>?_,q2,q3,hok,hsteps⟩
  unfold zb3
  have hups:=q4.ups
  simp only[q1 n hn,hreads,hups]
  cases m<;>rfl
theorem draws_rel{Q:Fz→Hp→Prop}(hS:Steps Q)(hc:CallR Q callS callH){all:List Oper}{s:State}{a a':Fs}{b:Fr}{sh':SH}(h0:Q s.F s.h)(U:s.ok)(hf:FRs s.F s.ι a b)(hs:(sdraws E callS all a s.sh).sel=some (a',sh')) :
  RegR s a' sh' fun n=>draws_ E (callH n) all b s.h:=by
 unfold sdraws at hs
 simp only at hs
 unfold draws_
 simp only
 cases h1:zaT E false all (anc_ all [])with
 | true=>
  rw[h1]at hs
  simp only[cond_true]at hs ⊢
  exact draws1_rel hS hc h0 U hf hs
 | false=>
  rw[h1]at hs
  simp only[cond_false]at hs ⊢
  cases h2:(zaT E true all (anc_ all [])&&zbl E all (anc_ all []))with
  | true=>
   rw[h2]at hs
   simp only[cond_true]at hs ⊢
   exact draws1_rel hS hc h0 U hf hs
  | false=>
   rw[h2]at hs
   simp only[cond_false]at hs ⊢
   cases h3:ordOk_ all (late_ all all.zipIdx [])with
   | false=>rw[h3]at hs;cases hs
   | true=>
    rw[h3]at hs
    simp only[cond_true]at hs ⊢
    unfold sdraws2 at hs
    unfold draws2_
    cases h4:(zaT E true (za0 all (late_ all all.zipIdx [])) (anc_ (za0 all (late_ all all.zipIdx [])) [])&&zbl E (za0 all (late_ all all.zipIdx [])) (anc_ (za0 all (late_ all all.zipIdx [])) []))with
    | false=>rw[h4]at hs;cases hs
    | true=>
     rw[h4]at hs
     simp only[cond_true]at hs ⊢
     exact draws1_rel hS hc h0 U hf hs
end
def Job.both(E:Env)(F:Fz)(ι:Im)(a:Fs)(b:Fr):Job→Code ⊕ (FuncId×List Value)→Prop
 | .code f p c,.inl c'=>c=c'∧FRs F ι a b∧InCode E f p c a.n
 | .call f args,.inr (f',args')=>f=f'∧LRs F ι args args'
 | _,_=>False
theorem zcE{E:Env}{F:Fz}{ι:Im}{sh:SH}{h:Hp}{a:Fs}{b:Fr}(H:HRs F ι sh h)(hf:FRs F ι a b):∀ {l:List ResultVar} {r:List SV},zct E a sh l=some r→∃r',zbc E b h l=some r'∧LRs F ι r r'
 | [],r,e=>by injection e with e;subst e;exact⟨[],rfl,.nil ..⟩
 | .tmp t::l,r,e=>by
  unfold zct at e
  split at e
  .rename_i r2 h2
   injection e with e;subst e
   obtain⟨r',q1,q2⟩:=zcE H hf h2
   unfold zbc
   rw[q1]
   exact⟨_,rfl,.cons (hf.eval _) q2⟩
  .cases e
 | .cell t ty::l,r,e=>by
  unfold zct at e
  split at e
  .rename_i v r2 h1 h2
   injection e with e;subst e
   obtain⟨r',q1,q2⟩:=zcE H hf h2
   obtain⟨ad,v',p1,p2,p3⟩:=load_rel H (hf.eval (.tmp t)) h1
   unfold zbc
   simp only[p1,p2,q1]
   exact⟨_,rfl,.cons p3 q2⟩
  .cases e
theorem result_rel{E:Env}{F:Fz}{ι:Im}{sh:SH}{h:Hp}{a:Fs}{b:Fr}(H:HRs F ι sh h)(hf:FRs F ι a b){l:List ResultVar}{v:SV}(e:results1_ E a sh l=some v):∃v',zcF E b h l=some v'∧VRs F ι v v':=by
 unfold results1_ at e
 unfold zcF
 split at e
 .rename_i w hw
  injection e with e;subst e
  obtain⟨r',q1,q2⟩:=zcE H hf hw
  obtain⟨y,l',rfl,q3,q4⟩:=q2.cons_inv
  rw[q4.nil_inv]at q1
  rw[q1]
  exact⟨_,rfl,q3⟩
 .rename_i vs hne hw
  injection e with e;subst e
  obtain⟨r',q1,q2⟩:=zcE H hf hw
  rw[q1]
  cases r' with
  | nil=>exact⟨_,rfl,.tup_of q2⟩
  | cons y r'=>
   cases r' with
   | nil=>
    exfalso
    have:=q2.1
    cases vs with
    | nil=>simp at this
    | cons x vs=>
     cases vs with
     | nil=>exact hne x rfl
     | cons=>simp at this
   | cons z r'=>exact⟨_,rfl,.tup_of q2⟩
 .cases e
theorem frame_one{F:Fz}{ι:Im}{v:SV}{v':Value}(h:VRs F ι v v'):FRs F ι ⟨1,.node (some v) .nil .nil⟩ ⟨1,0,.node (some v') .nil .nil⟩:=by
 refine⟨rfl,by simp,fun t w hw=>?_⟩
 simp only at hw ⊢
 rw[Tr.get_eqN]at hw ⊢
 rw[Tr.getN_node]at hw ⊢
 by_cases h0:t=0
 .rw[if_pos h0]at hw ⊢
  injection hw with hw;subst hw
  exact⟨v',rfl,h⟩
 .rw[if_neg h0]at hw
  rw[Tr.getN_nil,Tr.getN_nil]at hw
  split at hw<;>cases hw
theorem ofArgs_rel{F:Fz}{ι:Im}:∀ {l:List SV} {l':List Value} {k:Nat} {t:Tr SV} {t':Tr Value},LRs F ι l l'→k+l.length<2 ^ 63→(∀i v,t.get i=some v→∃v',t'.get i=some v'∧VRs F ι v v')→
  ∀i v,(Fs.ofArgs l k t).get i=some v→∃v',(Fr.ofArgs l' k t').get i=some v'∧VRs F ι v v'
 | [],l',k,t,t',hl,hk,ht,i,v,hv=>by rw[hl.nil_inv];exact ht i v hv
 | x::l,l',k,t,t',hl,hk,ht,i,v,hv=>by
  obtain⟨y,l',rfl,h1,h2⟩:=hl.cons_inv
  simp only[List.length_cons]at hk
  unfold Fs.ofArgs at hv
  unfold Fr.ofArgs
  refine ofArgs_rel (k:=k+1) h2 (by omega) (fun j w hw=>?_) i v hv
  rw[Tr.get_set 24 _ _ _ _ (by omega)]at hw ⊢
  by_cases hj:j=k
  .rw[if_pos hj]at hw ⊢
   injection hw with hw;subst hw
   exact⟨y,rfl,h1⟩
  .rw[if_neg hj]at hw ⊢
   exact ht j w hw
theorem pay_some{sh sh':SH}{c:Nat}(h:sh.pay c=some sh'):c≤sh.room∧sh'=⟨sh.next,sh.clk+1,sh.room-c,sh.log,sh.t⟩:=by
 unfold SH.pay at h
 cases hb:Nat.ble c sh.room with
 | false=>rw[hb]at h;cases h
 | true=>
  rw[hb]at h
  simp only[cond_true,zA]at h
  exact⟨zF hb,h.symm⟩
theorem plain_rel{F F':Fz}{ι ι':Im}{s:SV}{v:Value}(h:VRs F ι s v)(k:plain1_ s=true):VRs F' ι' s v:=by
 cases h with
 | int=>exact .int ..
 | bool=>exact .bool ..
 | str=>exact .str ..
 | raw _ _ h=>exact .raw _ _ h
 | _=>cases k
theorem plains_rel{F F':Fz}{ι ι':Im}:∀ {l:List SV} {l':List Value},LRs F ι l l'→plains_ l=true→LRs F' ι' l l'
 | [],l',h,_=>by rw[h.nil_inv];exact .nil ..
 | x::l,l',h,k=>by
  obtain⟨y,l',rfl,h1,h2⟩:=h.cons_inv
  unfold plains_ at k
  split at k
  .rename_i hx;exact .cons (plain_rel h1 hx) (plains_rel h2 k)
  .cases k
theorem plainA_rel{F F':Fz}{ι ι':Im}{s:SV}{v:Value}(h:VRs F ι s v)(k:plainA_ s=true):VRs F' ι' s v:=by
 unfold plainA_ at k
 split at k
 .obtain⟨l',rfl,L⟩:=h.agg_inv;exact .agg_of (plains_rel L k)
 .exact plain_rel h k
theorem plainAs_rel{F F':Fz}{ι ι':Im}:∀ {l:List SV} {l':List Value},LRs F ι l l'→plainAs_ l=true→LRs F' ι' l l'
 | [],l',h,_=>by rw[h.nil_inv];exact .nil ..
 | x::l,l',h,k=>by
  obtain⟨y,l',rfl,h1,h2⟩:=h.cons_inv
  unfold plainAs_ at k
  split at k
  .rename_i hx;exact .cons (plainA_rel h1 hx) (plainAs_rel h2 k)
  .cases k
theorem plainT_rel{F F':Fz}{ι ι':Im}{s:SV}{v:Value}(h:VRs F ι s v)(k:plainT_ s=true):VRs F' ι' s v:=by
 unfold plainT_ at k
 split at k
 .obtain⟨l',rfl,L⟩:=h.tup_inv;exact .tup_of (plainAs_rel L k)
 .exact plainA_rel h k
theorem HRs.more{F:Fz}{ι:Im}{sh sh':SH}{h h':Hp}(H:HRs F ι sh h){c:Nat}(hp:sh.pay c=some sh')(hn:h.next≤h'.next)(hm:h'.next≤h.next+c)(hg:∀b,b<h.next→h'.get b=h.get b):HRs F ι sh' h'∧Stp F ι sh h F ι sh' h':=by
 obtain⟨hc,rfl⟩:=pay_some hp
 have hmost:=H.most
 refine⟨⟨by simp only;omega,H.smost,H.sdom,fun id sb e=>?_,H.apart,fun b cs t e=>?_,H.fap⟩,
  ⟨fun _ _=>rfl,Fz.le.refl _,fun _ _ _ e=>.inl e,zC _,by simp only;omega,hn,by simp only;omega,[],rfl,fun _ _ _=>rfl,fun id e=>by simp at e,fun b hb _=>hg b hb,fun id B e1 e2=>by rw[(H.sdom id e1).2]at e2;cases e2⟩⟩
 .have e':sh.get id=some sb:=e
  by_cases hgone:sb=.gone
  .subst hgone;trivial
  refine(H.ok id sb e').keep (Fz.le.refl _) (Im.le.refl _) rfl hn fun C hC=>?_
  have hlt:C.b<h.next:=by
   have:=H.ok id sb e'
   cases sb with
   | lst k rows t=>obtain⟨D,cs,q1,_,_,q2,_⟩:=this;rw[q1]at hC;injection hC with hC;subst hC;exact q2.lt
   | row k n f t=>
    rcases this with⟨_,q⟩|⟨D,cs,q1,_,_,q2,_⟩
    .rw[q]at hC;cases hC
    .rw[q1]at hC;injection hC with hC;subst hC;exact q2.lt
   | mp es c=>obtain⟨D,q1,_,q2⟩:=this;rw[q1]at hC;injection hC with hC;subst hC;exact q2
   | gone=>exact absurd rfl hgone
  exact⟨hg _ hlt,fun _ hv _=>hg _ hv⟩
 .obtain⟨f1,f2,f3,f4⟩:=H.frz b cs t e
  exact⟨by simp only;omega,by omega,f3,by rw[hg b f2];exact f4⟩
def calm(F:Fz)(h:Hp)(k:Nat):Fz:=fun b=>match F b with
 | some x=>some x
 | none=>match h.get b with
  | some (.cells cs _ _ _)=>bif zE b h.next&&ones_ cs then some (cs,k)else none
  | _=>none
theorem calm_le(F:Fz)(h:Hp)(k:Nat):F.le (calm F h k):=fun b x e=>by unfold calm;rw[e]
theorem calm_at{F:Fz}{ι:Im}{sh:SH}{h:Hp}(H:HRs F ι sh h){b:Nat}{cs:List Value}{e:TypeId}{x ro:Bool}(hg:h.get b=some (.cells cs e x ro))(hb:b<h.next)(h1:ones_ cs=true):∃t,calm F h sh.clk b=some (cs,t)∧t≤sh.clk:=by
 unfold calm
 cases hF:F b with
 | some y=>
  obtain⟨cs2,t⟩:=y
  obtain⟨f1,f2,f3,e2,x2,ro2,f4⟩:=H.frz b cs2 t hF
  rw[hg]at f4
  injection f4 with f4;injection f4 with f4
  subst f4
  exact⟨t,rfl,f1⟩
 | none=>
  have:(zE b h.next&&ones_ cs)=true:=by rw[h1,Bool.and_true];simpa [Nat.blt_eq]using hb
  simp only[hg,this,cond_true]
  exact⟨sh.clk,rfl,zC _⟩
theorem calm_hr{F:Fz}{ι:Im}{sh:SH}{h:Hp}(H:HRs F ι sh h){c:Nat}(hc:c≤sh.room):HRs (calm F h sh.clk) Im0 ⟨0,sh.clk,c,[],.nil⟩ h where
 most:=by have:=H.most;simp only;omega
 smost:=by simp only;omega
 sdom:=fun id _=>⟨rfl,rfl⟩
 ok:=fun id sb e=>by cases e
 apart:=fun id id' B B' _ l=>by obtain⟨sb,e,_⟩:=l;cases e
 frz:=fun b cs t e=>by
  unfold calm at e
  cases hF:F b with
  | some y=>
   rw[hF]at e
   injection e with e;subst e
   obtain⟨f1,f2,f3,f4⟩:=H.frz b cs t hF
   exact⟨f1,f2,f3,f4⟩
  | none=>
   rw[hF]at e
   simp only at e
   split at e
   .rename_i cs2 e2 x2 ro2 hg
    cases hb:(zE b h.next&&ones_ cs2)with
    | false=>rw[hb]at e;cases e
    | true=>
     rw[hb]at e
     simp only[cond_true,zA,zD]at e
     obtain⟨rfl,rfl⟩:=e
     rw[Bool.and_eq_true]at hb
     exact⟨zC _,by simpa [Nat.blt_eq]using hb.1,hb.2,_,_,_,hg⟩
   .cases e
 fap:=fun b x id B _ l=>by obtain⟨sb,e,_⟩:=l;cases e
theorem view_rel{F:Fz}{ι:Im}{sh:SH}{h:Hp}(H:HRs F ι sh h){x y:SV}{x':Value}(hx:VRs F ι x x')(hv:view_ sh x=some y):VRs (calm F h sh.clk) Im0 y x':=by
 unfold view_ at hv
 split at hv
 .rename_i id k c s n z
  split at hv
  .rename_i q hq
   split at hv
   .rename_i hfr
    injection hv with hv;subst hv
    obtain⟨cx,Q,qn,ql⟩:=src_rel H hx hq
    have hth:live1 sh id=true:=src_there hq
    cases hx with
    | nsl _ _ _ _ _ _ _ B off cap h1 h2 h3 h4 h5 h6 h7=>
     obtain⟨cs,t',S⟩:=za4 H hth h1
     obtain⟨t,c1,c2⟩:=calm_at H S.got S.lt S.one
     have hn:q.n=n:=ql.symm
     have hload:lcut cs off (n*k)=some cx:=by
      have h2':=qn n
      rw[hn]at h2'
      unfold news_ at h2'
      have hmin:Nat.min n n=n:=Nat.min_self _
      simp only[hmin,zaP S (.inl rfl)]at h2'
      rw[List.take_of_length_le (by rw[Q.len,hn];exact zC _)]at h2'
      split at h2'
      .rename_i c' hc';injection h2' with h2';injection h2' with _ h2';rw[hc',h2']
      .cases h2'
     have hrow:∀i,i<n→RowR F Im0 cs (off+i*k) k (q.e i):=fun i hi=>(Q.free hfr i (by omega)).carry fun j hj=>by
      have:(i+1)*k≤n*k:=Nat.mul_le_mul_right _ hi
      rw[Nat.add_mul]at this
      rw[zaW hload (i*k+j) (by omega),Nat.add_assoc]
     refine .fsl _ _ _ _ _ _ B.b off cs t cap c1 c2 ?_ h4 (by rw[S.len];exact h6) (fun i hi=>(hrow i hi).1) fun i j x y hi a b=>((hrow i hi).2 j x y a b).mono (calm_le _ _ _) (Im.le.refl _)
     cases z with
     | zero=>exact .inr rfl
     | succ z=>exact .inl rfl
    | nslN _ _ _ _ _ _ hz=>
     refine .fslN _ _ _ _ _ ?_
     cases z with
     | zero=>omega
     | succ z=>exact .inl rfl
    | nslE _ _ _ _ _ _ hz=>
     cases z with
     | zero=>omega
     | succ z=>exact .fslE _ _ _ _ _ (.inl rfl)
   .cases hv
  .cases hv
 .injection hv with hv;subst hv;obtain⟨rfl,hb⟩:=hx.raw_inv;exact .raw _ _ hb
 .injection hv with hv;subst hv;rw[hx.int_inv];exact .int ..
 .injection hv with hv;subst hv;rw[hx.bool_inv];exact .bool ..
 .injection hv with hv;subst hv;rw[hx.str_inv];exact .str ..
 .injection hv with hv;subst hv;exact(hx.free (ι':=Im0) rfl).mono (calm_le _ _ _) (Im.le.refl _)
 .cases hv
theorem views_rel{F:Fz}{ι:Im}{sh:SH}{h:Hp}(H:HRs F ι sh h):∀ {l r:List SV} {l':List Value},LRs F ι l l'→views_ sh l=some r→LRs (calm F h sh.clk) Im0 r l'
 | [],r,l',hl,hv=>by injection hv with hv;subst hv;rw[hl.nil_inv];exact .nil ..
 | x::l,r,l',hl,hv=>by
  obtain⟨y,l',rfl,h1,h2⟩:=hl.cons_inv
  unfold views_ at hv
  split at hv
  .rename_i x2 l2 e1 e2
   injection hv with hv;subst hv
   exact .cons (view_rel H h1 e1) (views_rel H h2 e2)
  .cases hv
theorem viewA_rel{F:Fz}{ι:Im}{sh:SH}{h:Hp}(H:HRs F ι sh h){x y:SV}{x':Value}(hx:VRs F ι x x')(hv:viewA_ sh x=some y):VRs (calm F h sh.clk) Im0 y x':=by
 unfold viewA_ at hv
 split at hv
 .obtain⟨l',rfl,L⟩:=hx.agg_inv
  split at hv
  .rename_i l2 e2
   injection hv with hv;subst hv
   exact .agg_of (views_rel H L e2)
  .cases hv
 .exact view_rel H hx hv
theorem viewAs_rel{F:Fz}{ι:Im}{sh:SH}{h:Hp}(H:HRs F ι sh h):∀ {l r:List SV} {l':List Value},LRs F ι l l'→viewAs_ sh l=some r→LRs (calm F h sh.clk) Im0 r l'
 | [],r,l',hl,hv=>by injection hv with hv;subst hv;rw[hl.nil_inv];exact .nil ..
 | x::l,r,l',hl,hv=>by
  obtain⟨y,l',rfl,h1,h2⟩:=hl.cons_inv
  unfold viewAs_ at hv
  split at hv
  .rename_i x2 l2 e1 e2
   injection hv with hv;subst hv
   exact .cons (viewA_rel H h1 e1) (viewAs_rel H h2 e2)
  .cases hv
def zbh(E:Env)(sp:Sp)(b:Fr)(n:Nat)(f:FuncId)(args:List Value)(h:Hp):Option (Value×Hp):=
 match sp f with
 | some g=>g args h
 | none=>match zae E sp n (.inr (f,args)) b h with
  | .ok _ r h=>some (r.eval (.tmp 0),h)
  | .bad=>none
theorem run_frame{E:Env}{sp:Sp}{n:Nat}{x:FuncId×List Value}{b b':Fr}{h:Hp}:zae E sp n (.inr x) b h=zae E sp n (.inr x) b' h:=by
 cases n<;>rfl
def RunR(F:Fz)(ι:Im)(sh:SH)(h:Hp)(r:Ex×Fs×SH)(run:Nat→Rs):Prop:=
 ∃N b' h' F' ι',(∀m,N≤m→run m=.ok r.1 b' h')∧FRs F' ι' r.2.1 b'∧HRs F' ι' r.2.2 h'∧Stp F ι sh h F' ι' r.2.2 h'
structure ToldQ(Q:Fz→Hp→Prop)(E:Env)(sp:Sp)(T:Told):Prop where
 run:∀f,T.pf f=none→sp f=none
 pf:∀f q,T.pf f=some q→∀args sh v sh' F ι h args' b,Q F h→HRs F ι sh h→LRs F ι args args'→(q args sh).sel=some (v,sh')→Out F ι sh h v sh' fun n=>zbh E sp b n f args' h
 lp:∀f p q,T.lp f p=some q→∀x n,InCode E f p (.loop x) n→∀a sh r F ι b h,Q F h→HRs F ι sh h→FRs F ι a b→a.n=n→(q a sh).sel=some r→RunR F ι sh h r fun m=>zae E sp m (.inl (.loop x)) b h
abbrev ToldOk(F0:Fz)(E:Env)(sp:Sp)(T:Told):Prop:=ToldQ (fun F _=>F0.le F) E sp T
theorem ToldQ.le{Q Q':Fz→Hp→Prop}{E:Env}{sp:Sp}{T:Told}(hT:ToldQ Q E sp T)(h:∀F h,Q' F h→Q F h):ToldQ Q' E sp T:=⟨hT.run,fun f q e args sh v sh' F ι hh args' b h0=>hT.pf f q e args sh v sh' F ι hh args' b (h _ _ h0),fun f p q e x n hx a sh r F ι b hh h0=>hT.lp f p q e x n hx a sh r F ι b hh (h _ _ h0)⟩
def zaA(F0:Fz)(E:Env)(sp:Sp)(f:FuncId)(c:Nat)(g:List SV→RT SV):Prop:=
 ∀F k h args args' v,F0.le F→HRs F Im0 ⟨0,k,c,[],.nil⟩ h→LRs F Im0 args args'→(g args).sel=some v→plainT_ v=true→
  ∃N v' h',(∀n,N≤n→(match sp f with|some q=>q args' h|none=>match zae E sp n (.inr (f,args')) ⟨0,0,.nil⟩ h with|.ok _ r h=>some (r.eval (.tmp 0),h)|.bad=>none)=some (v',h'))∧
   VRs (fun _=>none) Im0 v v'∧h.next≤h'.next∧h'.next≤h.next+c∧∀b,b<h.next→h'.get b=h.get b
theorem told_rel{E:Env}{sp:Sp}{F0:Fz}{f:FuncId}{c:Nat}{g:List SV→RT SV}(hf:zaA F0 E sp f c g){F:Fz}(h0:F0.le F){ι:Im}{sh sh':SH}{h:Hp}{args:List SV}{args':List Value}{v:SV}{b:Fr}(H:HRs F ι sh h)(hl:LRs F ι args args')
  (hs:(zaq c g args sh).sel=some (v,sh')):Out F ι sh h v sh' fun n=>zbh E sp b n f args' h:=by
 unfold zaq at hs
 split at hs
 .rename_i az sh1 hv hp
  obtain⟨r,h1,h2⟩:=zah hs
  split at h2
  .rename_i hplain
   obtain⟨rfl,rfl⟩:=zam h2
   obtain⟨hc,_⟩:=pay_some hp
   obtain⟨N,v',h',q1,q2,q3,q4,q5⟩:=hf _ _ h az args' r (h0.trans (calm_le F h sh.clk)) (calm_hr H hc) (viewAs_rel H hl hv) h1 hplain
   obtain⟨r1,r2⟩:=H.more hp q3 q4 q5
   refine⟨N,v',h',F,ι,fun n hn=>?_,plainT_rel q2 hplain,r1,r2⟩
   have:=q1 n hn
   show zbh E sp b n f args' h=_
   unfold zbh
   rw[run_frame (b':=⟨0,0,.nil⟩)]
   exact this
  .cases h2
 .cases hs
theorem cond_sel{α:Type}{c b:Bool}{t f:RT α}{x:α}(h:(test_ c b t f).sel=some x):(b=true∧t.sel=some x)∨(b=false∧f.sel=some x):=by
 rw[zdl]at h
 cases b with
 | true=>exact .inl ⟨rfl,h⟩
 | false=>exact .inr ⟨rfl,h⟩
theorem vals_rel{F:Fz}{ι:Im}{a:Fs}{b:Fr}(hf:FRs F ι a b):∀ {l:List Tmp} {vs:List SV},vals_ a l=some vs→∃vs',valsB b l=some vs'∧LRs F ι vs vs'
 | [],vs,e=>by injection e with e;subst e;exact⟨[],rfl,.nil ..⟩
 | t::l,vs,e=>by
  unfold vals_ at e
  split at e
  .rename_i v r h1 h2
   injection e with e;subst e
   obtain⟨v',p1,p2⟩:=hf.at_ t v h1
   obtain⟨r',q1,q2⟩:=vals_rel hf h2
   exact⟨v'::r',by unfold valsB;rw[p1,q1],.cons p2 q2⟩
  .cases e
theorem lostAll_get{n:Nat}(hn:n≤100000):∀ {ws:List Tmp} {t t':Tr SV},lostAll n ws t=some t'→∀ {d:Tmp} {v:SV},t'.get d=some v→((v=.lost∧∃v0,t.get d=some v0)∨(d∉ws∧t.get d=some v))
 | [],t,t',hl,d,v,e=>by injection hl with hl;subst hl;exact .inr ⟨by simp,e⟩
 | w::ws,t,t',hl,d,v,e=>by
  unfold lostAll at hl
  cases hw:t.get w with
  | none=>
   rw[hw]at hl
   rcases lostAll_get hn hl e with h|⟨h1,h2⟩
   .exact .inl h
   .refine .inr ⟨fun q=>?_,h2⟩
    rcases List.mem_cons.1 q with rfl|q
    .rw[hw]at h2;cases h2
    .exact h1 q
  | some w0=>
   rw[hw]at hl
   simp only at hl
   cases hb:zE w n with
   | false=>rw[hb]at hl;cases hl
   | true=>
    rw[hb,cond_true,Tr.force_eq]at hl
    have hwn:Nat.lt w n:=zF hb
    have h24:Nat.lt (w+1) (2 ^ 64):=zG hwn (zG hn (by decide))
    have get:∀d,(t.set 24 w .lost).get d=if d=w then some .lost else t.get d:=fun d=>Tr.get_set _ _ _ _ _ h24
    rcases lostAll_get hn hl e with⟨h1,v0,h2⟩|⟨h1,h2⟩
    .rw[get]at h2
     split at h2
     .rename_i q;subst q;exact .inl ⟨h1,_,hw⟩
     .exact .inl ⟨h1,v0,h2⟩
    .rw[get]at h2
     split at h2
     .rename_i q;subst q;injection h2 with h2;exact .inl ⟨h2.symm,_,hw⟩
     .rename_i q
      exact .inr ⟨fun z=>by rcases List.mem_cons.1 z with z|z;exact q z;exact h1 z,h2⟩
theorem lost_rel{F:Fz}{ι:Im}{a:Fs}{b b':Fr}{W ws:List Nat}(hf:FRs F ι a b){t:Tr SV}(hl:lostAll a.n ws a.t=some t)(hk:Keeps W b b')(hw:∀t,t∈W→t∈ws):FRs F ι ⟨a.n,t⟩ b':=by
 refine⟨hf.n.trans hk.n.symm,hf.small,fun t v e=>?_⟩
 rcases lostAll_get hf.small hl e with⟨rfl,v0,h1⟩|⟨h1,h2⟩
 .obtain⟨v',q1,_⟩:=hf.at_ t v0 h1
  obtain⟨v2,q2⟩:=hk.has t v' q1
  exact⟨v2,q2,.lost ..⟩
 .obtain⟨v',q1,q2⟩:=hf.at_ t v h2
  exact⟨v',by rw[hk.at_ t (fun q=>h1 (hw t q))];exact q1,q2⟩
theorem srun_soundQ{E:Env}{sp:Sp}{T:Told}{Q:Fz→Hp→Prop}(hS:Steps Q)(hT:ToldQ Q E sp T):∀(n:Nat) (job:Job) (a:Fs) (sh:SH) (r:Ex×Fs×SH),(srun E T n job a sh).sel=some r→
  ∀(F:Fz) (ι:Im) (b:Fr) (h:Hp) (x:Code ⊕ (FuncId×List Value)),Q F h→HRs F ι sh h→job.both E F ι a b x→RunR F ι sh h r fun m=>zae E sp m x b h:=by
 intro n
 induction n with
 | zero=>intro job a sh r hs;cases hs
 | succ n ih=>
  intro job a sh r hs F ι b h x h0 H hb
  cases job with
  | call f args=>
   cases x with
   | inl c=>exact hb.elim
   | inr fa=>
    obtain⟨f',args'⟩:=fa
    obtain⟨rfl,hl⟩:=hb
    unfold srun at hs
    split at hs
    .rename_i fn hfn
     split at hs
     .rename_i c hbody hsz
      obtain⟨⟨ex,a1,sh1⟩,h1,h2⟩:=zah hs
      have hsz2:=hsz
      rw[Bool.and_eq_true]at hsz2
      have hle:args.length≤fn.ntmps:=zF hsz2.1
      have hbig:fn.ntmps≤100000:=zF hsz2.2
      have hf0:FRs F ι ⟨fn.ntmps,Fs.ofArgs args 0 .nil⟩ ⟨fn.ntmps,E.gl,Fr.ofArgs args' 0 .nil⟩:=
       ⟨rfl,hbig,ofArgs_rel hl (by omega) (fun i v e=>by rw[Tr.get_nil]at e;cases e)⟩
      obtain⟨N,b',h',F',ι',q1,q2,q3,q4⟩:=ih _ _ _ _ h1 F ι _ h (.inl c) h0 H ⟨rfl,hf0,fn,c,hfn,hbody,.root,rfl⟩
      have hsz':(Nat.ble args'.length fn.ntmps&&Nat.ble fn.ntmps 100000)=true:=by rw[←hl.1];exact hsz
      have fin:∀(hne:∀i,ex≠.exit i) (v:SV),results1_ E a1 sh1 fn.results.toList=some v→r=(.ret,⟨1,.node (some v) .nil .nil⟩,sh1)→RunR F ι sh h r fun m=>zae E sp m (.inr (f,args')) b h:=by
       intro hne v hv hr
       subst hr
       obtain⟨v',p1,p2⟩:=result_rel q3 q2 hv
       refine⟨N+1,⟨1,0,.node (some v') .nil .nil⟩,h',F',ι',fun m hm=>?_,frame_one p2,q3,q4⟩
       obtain⟨m,rfl⟩:∃k,m=k+1:=⟨m-1,by omega⟩
       have e1:=q1 m (by omega)
       show zae E sp (m+1) (.inr (f,args')) b h=_
       unfold zae
       simp only at e1
       cases ex with
       | exit i=>exact absurd rfl (hne i)
       | normal=>simp only[hfn,hbody,hsz',e1,p1]
       | ret=>simp only[hfn,hbody,hsz',e1,p1]
      split at h2
      .cases h2
      .rename_i hne
       split at h2
       .rename_i v hv
        simp only[RT.sel,zA]at h2
        exact fin (fun i e=>hne i e) v hv h2.symm
       .cases h2
     .cases hs
    .cases hs
  | code f p c=>
   cases x with
   | inr fa=>exact hb.elim
   | inl c'=>
    obtain⟨rfl,hf,hat⟩:=hb
    have same:∀(ex:Ex),r=(ex,a,sh)→(∀m,zae E sp (m+1) (.inl c) b h=.ok ex b h)→RunR F ι sh h r fun m=>zae E sp m (.inl c) b h:=by
     intro ex hr hrun
     subst hr
     refine⟨1,b,h,F,ι,fun m hm=>?_,hf,H,Stp.refl F H⟩
     obtain⟨m,rfl⟩:∃k,m=k+1:=⟨m-1,by omega⟩
     exact hrun m
    cases c with
    | skip=>unfold srun at hs;simp only[RT.sel,zA]at hs;exact same .normal hs.symm fun m=>rfl
    | label l=>unfold srun at hs;simp only[RT.sel,zA]at hs;exact same .normal hs.symm fun m=>rfl
    | exit i=>unfold srun at hs;simp only[RT.sel,zA]at hs;exact same (.exit i) hs.symm fun m=>rfl
    | ret=>unfold srun at hs;simp only[RT.sel,zA]at hs;exact same .ret hs.symm fun m=>rfl
    | region id ops draw=>
     unfold srun at hs
     simp only at hs
     have hcall:CallR Q (fun g args h=>(match T.pf g with|some q=>q args h|none=>(srun E T n (.call g args) a h).bind fun r=>.ret (r.2.1.eval (.tmp 0),r.2.2))) (zbh E sp b):=by
      intro g args sh2 v sh3 F2 ι2 h2 args' h02 H2 hl hs2
      cases hpf:T.pf g with
      | some q=>
       simp only[hpf]at hs2
       exact hT.pf g q hpf _ _ _ _ _ _ _ _ _ h02 H2 hl hs2
      | none=>
       simp only[hpf]at hs2
       obtain⟨⟨ex,a3,sh4⟩,s1,s2⟩:=zah hs2
       obtain⟨rfl,rfl⟩:=zam s2
       obtain⟨N,b',h',F',ι',q1,q2,q3,q4⟩:=ih _ _ _ _ s1 F2 ι2 b h2 (.inr (g,args')) h02 H2 ⟨rfl,hl⟩
       refine⟨N,b'.eval (.tmp 0),h',F',ι',fun m hm=>?_,q2.eval _,q3,q4⟩
       have e1:=q1 m hm
       simp only at e1
       show zbh E sp b m g args' h2=_
       unfold zbh
       rw[hT.run g hpf]
       simp only[e1]
     cases draw with
     | false=>
      simp only at hs
      obtain⟨⟨a1,sh1⟩,s1,s2⟩:=zah hs
      simp only[RT.sel,zA]at s2
      subst s2
      obtain⟨N,b',h',F',ι',q1,q2,q3,q4⟩:=ops_rel hS hcall h0 H hf s1
      refine⟨N+1,b',h',F',ι',fun m hm=>?_,q2,q3,q4⟩
      obtain⟨m,rfl⟩:∃k,m=k+1:=⟨m-1,by omega⟩
      exact q1 m (by omega)
     | true=>
      simp only at hs
      obtain⟨⟨a1,sh1⟩,s1,s2⟩:=zah hs
      simp only[RT.sel,zA]at s2
      subst s2
      obtain⟨N,b',e,q1,q2,q3,q4,q5⟩:=draws_rel hS hcall (s:=⟨F,ι,sh,h⟩) h0 H hf s1
      subst q3
      refine⟨N+1,b',e.h,e.F,e.ι,fun m hm=>?_,q2,q4,q5⟩
      obtain⟨m,rfl⟩:∃k,m=k+1:=⟨m-1,by omega⟩
      exact q1 m (by omega)
    | seq x y=>
     unfold srun at hs
     simp only at hs
     obtain⟨⟨ex,a1,sh1⟩,s1,s2⟩:=zah hs
     obtain⟨N,b',h',F',ι',q1,q2,q3,q4⟩:=ih _ _ _ _ s1 F ι b h (.inl x) h0 H ⟨rfl,hf,by obtain⟨fn,root,i1,i2,i3,i4⟩:=hat;exact⟨fn,root,i1,i2,.seqL i3,i4⟩⟩
     simp only at q1 s2
     have stop:∀(hne:ex≠.normal),r=(ex,a1,sh1)→RunR F ι sh h r fun m=>zae E sp m (.inl (.seq x y)) b h:=by
      intro hne hr
      subst hr
      refine⟨N+1,b',h',F',ι',fun m hm=>?_,q2,q3,q4⟩
      obtain⟨m,rfl⟩:∃k,m=k+1:=⟨m-1,by omega⟩
      show zae E sp (m+1) (.inl (.seq x y)) b h=_
      unfold zae
      simp only[q1 m (by omega)]
      cases ex with
      | normal=>exact absurd rfl hne
      | exit i=>rfl
      | ret=>rfl
     cases ex with
     | normal=>
      obtain⟨N2,b2,h2,F2,ι2,r1,r2,r3,r4⟩:=ih _ _ _ _ s2 F' ι' b' h' (.inl y) (hS h0 H q4) q3 ⟨rfl,q2,by obtain⟨fn,root,i1,i2,i3,i4⟩:=hat;exact⟨fn,root,i1,i2,.seqR i3,(q2.n.trans ((zdy N x b b' h h' _ (by rw[←hf.n];exact hf.small) (q1 N (zC _))).n.trans hf.n.symm)).trans i4⟩⟩
      refine⟨max N N2+1,b2,h2,F2,ι2,fun m hm=>?_,r2,r3,q4.trans r4⟩
      obtain⟨m,rfl⟩:∃k,m=k+1:=⟨m-1,by omega⟩
      show zae E sp (m+1) (.inl (.seq x y)) b h=_
      unfold zae
      simp only[q1 m (by omega)]
      exact r1 m (by omega)
     | exit i=>simp only[RT.sel,zA]at s2;exact stop (by intro e;cases e) s2.symm
     | ret=>simp only[RT.sel,zA]at s2;exact stop (by intro e;cases e) s2.symm
    | cond cc x y=>
     unfold srun at hs
     simp only at hs
     split at hs
     .rename_i c0 b0 hcc
      have hv:=(hcc▸hf.eval cc:VRs F ι (.bool c0 b0) (b.eval cc)).bool_inv
      rcases cond_sel hs with⟨rfl,s1⟩|⟨rfl,s1⟩
      .obtain⟨N,b',h',F',ι',q1,q2,q3,q4⟩:=ih _ _ _ _ s1 F ι b h (.inl x) h0 H ⟨rfl,hf,by obtain⟨fn,root,i1,i2,i3,i4⟩:=hat;exact⟨fn,root,i1,i2,.condL i3,i4⟩⟩
       refine⟨N+1,b',h',F',ι',fun m hm=>?_,q2,q3,q4⟩
       obtain⟨m,rfl⟩:∃k,m=k+1:=⟨m-1,by omega⟩
       show zae E sp (m+1) (.inl (.cond cc x y)) b h=_
       unfold zae
       simp only[hv]
       exact q1 m (by omega)
      .obtain⟨N,b',h',F',ι',q1,q2,q3,q4⟩:=ih _ _ _ _ s1 F ι b h (.inl y) h0 H ⟨rfl,hf,by obtain⟨fn,root,i1,i2,i3,i4⟩:=hat;exact⟨fn,root,i1,i2,.condR i3,i4⟩⟩
       refine⟨N+1,b',h',F',ι',fun m hm=>?_,q2,q3,q4⟩
       obtain⟨m,rfl⟩:∃k,m=k+1:=⟨m-1,by omega⟩
       show zae E sp (m+1) (.inl (.cond cc x y)) b h=_
       unfold zae
       simp only[hv]
       exact q1 m (by omega)
     .cases hs
    | block id x=>
     unfold srun at hs
     simp only at hs
     obtain⟨⟨ex,a1,sh1⟩,s1,s2⟩:=zah hs
     obtain⟨N,b',h',F',ι',q1,q2,q3,q4⟩:=ih _ _ _ _ s1 F ι b h (.inl x) h0 H ⟨rfl,hf,by obtain⟨fn,root,i1,i2,i3,i4⟩:=hat;exact⟨fn,root,i1,i2,.block i3,i4⟩⟩
     simp only at q1 s2
     have fin:∀ex2,r=(ex2,a1,sh1)→(∀m,N≤m→zae E sp (m+1) (.inl (.block id x)) b h=.ok ex2 b' h')→RunR F ι sh h r fun m=>zae E sp m (.inl (.block id x)) b h:=by
      intro ex2 hr hrun
      subst hr
      refine⟨N+1,b',h',F',ι',fun m hm=>?_,q2,q3,q4⟩
      obtain⟨m,rfl⟩:∃k,m=k+1:=⟨m-1,by omega⟩
      exact hrun m (by omega)
     cases ex with
     | normal=>
      simp only[RT.sel,zA]at s2
      exact fin .normal s2.symm fun m hm=>by unfold zae;simp only[q1 m hm]
     | ret=>
      simp only[RT.sel,zA]at s2
      exact fin .ret s2.symm fun m hm=>by unfold zae;simp only[q1 m hm]
     | exit i=>
      simp only at s2
      cases hi:zB i id with
      | true=>
       rw[hi]at s2
       simp only[cond_true,RT.sel,zA]at s2
       exact fin .normal s2.symm fun m hm=>by unfold zae;simp only[q1 m hm,hi,cond_true]
      | false=>
       rw[hi]at s2
       simp only[cond_false,RT.sel,zA]at s2
       exact fin (.exit i) s2.symm fun m hm=>by unfold zae;simp only[q1 m hm,hi,cond_false]
    | loop x=>
     unfold srun at hs
     simp only at hs
     cases hlp:T.lp f p with
     | some q=>
      simp only[hlp]at hs
      exact hT.lp f p q hlp x a.n hat _ _ _ _ _ _ _ h0 H hf rfl hs
     | none=>
      simp only[hlp]at hs
      obtain⟨⟨ex,a1,sh1⟩,s1,s2⟩:=zah hs
      obtain⟨N,b',h',F',ι',q1,q2,q3,q4⟩:=ih _ _ _ _ s1 F ι b h (.inl x) h0 H ⟨rfl,hf,by obtain⟨fn,root,i1,i2,i3,i4⟩:=hat;exact⟨fn,root,i1,i2,.loop i3,i4⟩⟩
      simp only at q1 s2
      have stop:∀(hne:ex≠.normal),r=(ex,a1,sh1)→RunR F ι sh h r fun m=>zae E sp m (.inl (.loop x)) b h:=by
       intro hne hr
       subst hr
       refine⟨N+1,b',h',F',ι',fun m hm=>?_,q2,q3,q4⟩
       obtain⟨m,rfl⟩:∃k,m=k+1:=⟨m-1,by omega⟩
       show zae E sp (m+1) (.inl (.loop x)) b h=_
       unfold zae
       simp only[q1 m (by omega)]
       cases ex with
       | normal=>exact absurd rfl hne
       | exit i=>rfl
       | ret=>rfl
      cases ex with
      | normal=>
       obtain⟨N2,b2,h2,F2,ι2,r1,r2,r3,r4⟩:=ih _ _ _ _ s2 F' ι' b' h' (.inl (.loop x)) (hS h0 H q4) q3 ⟨rfl,q2,by obtain⟨fn,root,i1,i2,i3,i4⟩:=hat;exact⟨fn,root,i1,i2,i3,(q2.n.trans ((zdy N x b b' h h' _ (by rw[←hf.n];exact hf.small) (q1 N (zC _))).n.trans hf.n.symm)).trans i4⟩⟩
       refine⟨max N N2+1,b2,h2,F2,ι2,fun m hm=>?_,r2,r3,q4.trans r4⟩
       obtain⟨m,rfl⟩:∃k,m=k+1:=⟨m-1,by omega⟩
       show zae E sp (m+1) (.inl (.loop x)) b h=_
       unfold zae
       simp only[q1 m (by omega)]
       exact r1 m (by omega)
      | exit i=>simp only[RT.sel,zA]at s2;exact stop (by intro e;cases e) s2.symm
      | ret=>simp only[RT.sel,zA]at s2;exact stop (by intro e;cases e) s2.symm
    | rangeFunc f ps az x=>unfold srun at hs;cases hs
    | scope x=>unfold srun at hs;cases hs
    | goto l=>unfold srun at hs;cases hs
    | refuse w=>unfold srun at hs;cases hs
theorem srun_sound{E:Env}{sp:Sp}{T:Told}{F0:Fz}(hT:ToldOk F0 E sp T)(n:Nat)(job:Job)(a:Fs)(sh:SH)(r:Ex×Fs×SH)(hs:(srun E T n job a sh).sel=some r)
  (F:Fz) (ι:Im) (b:Fr) (h:Hp) (x:Code ⊕ (FuncId×List Value)) (h0:F0.le F) (H:HRs F ι sh h) (hb:job.both E F ι a b x):RunR F ι sh h r fun m=>zae E sp m x b h:=
 srun_soundQ steps_le hT n job a sh r hs F ι b h x h0 H hb
theorem sanswer_relQ{E:Env}{sp:Sp}{T:Told}{Q:Fz→Hp→Prop}(hS:Steps Q)(hT:ToldQ Q E sp T){n:Nat}{f:FuncId}{args:List SV}{sh sh':SH}{v:SV}(hs:(sanswer E T n f args sh).sel=some (v,sh')){F:Fz}{ι:Im}{h:Hp}{args':List Value}
  (h0:Q F h) (H:HRs F ι sh h) (hl:LRs F ι args args') :
  ∃N v' h' F' ι',(∀m,N≤m→zb6 E sp m f args' h=some (v',h'))∧VRs F' ι' v v'∧HRs F' ι' sh' h'∧Stp F ι sh h F' ι' sh' h':=by
 unfold sanswer at hs
 obtain⟨⟨ex,a3,sh4⟩,s1,s2⟩:=zah hs
 obtain⟨rfl,rfl⟩:=zam s2
 obtain⟨N,b',h',F',ι',q1,q2,q3,q4⟩:=srun_soundQ hS hT n _ _ _ _ s1 F ι ⟨0,0,.nil⟩ h (.inr (f,args')) h0 H ⟨rfl,hl⟩
 refine⟨N,b'.eval (.tmp 0),h',F',ι',fun m hm=>?_,q2.eval _,q3,q4⟩
 have e1:=q1 m hm
 simp only at e1
 unfold zb6
 simp only[e1]
theorem sanswer_rel{E:Env}{sp:Sp}{T:Told}{F0:Fz}(hT:ToldOk F0 E sp T){n:Nat}{f:FuncId}{args:List SV}{sh sh':SH}{v:SV}(hs:(sanswer E T n f args sh).sel=some (v,sh')){F:Fz}{ι:Im}{h:Hp}{args':List Value}
  (h0:F0.le F) (H:HRs F ι sh h) (hl:LRs F ι args args') :
  ∃N v' h' F' ι',(∀m,N≤m→zb6 E sp m f args' h=some (v',h'))∧VRs F' ι' v v'∧HRs F' ι' sh' h'∧Stp F ι sh h F' ι' sh' h':=
 sanswer_relQ steps_le hT hs h0 H hl
end Go.Proofs.YtponjccgpbgnoaaGreatDoor.Se
