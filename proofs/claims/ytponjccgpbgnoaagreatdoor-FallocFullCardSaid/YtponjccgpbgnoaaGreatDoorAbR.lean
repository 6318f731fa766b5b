/- Regions whose order is open: the machine's answer is the evaluator's, whatever is drawn. -/
import Derived.Test.YtponjccgpbgnoaaGreatDoorAbN
import Derived.LoopN
import Derived.Below
set_option linter.unusedVariables false
set_option linter.unusedSimpArgs false
set_option linter.unusedSectionVars false
open Option.some renaming injEq→zA
open Bool renaming and_eq_true→zB,false_eq_true→zV
open Prod.mk renaming injEq→zC
open Nat renaming ble→zD,le_of_ble_eq_true→zE,eq_of_beq_eq_true→zF,le_refl→zG,le_of_lt→zI,beq→zJ,lt_of_lt_of_le→zK,lt_or_ge→zL,lt_trichotomy→zP,zero_le→zQ
open Array renaming replicate→zH,range→zN,toList_map→zO,all_toList→zS
open Option renaming getD_some→zM,map_some→zR,bind_some→zU
open List renaming eq_nil_of_length_eq_zero→zT
namespace Go.Proofs.YtponjccgpbgnoaaGreatDoor
open Go Go.RowKit
theorem zc1{E:Env}{call:FuncId→List Value→Hp→Option (Value×Hp)}{ρ:Operand→Value}{op:Op}{h:Hp}(hk:kind_ E op≠2):oneOp E call ρ op h=aop E ρ op h:=by
 unfold oneOp
 split
 .rename_i c
  split
  .rename_i f hc
   exfalso
   apply hk
   obtain⟨callee,args,tys⟩:=c
   simp only at hc
   subst hc
   rfl
  .rename_i x m hc
   exfalso
   apply hk
   obtain⟨callee,args,tys⟩:=c
   simp only at hc
   subst hc
   rfl
  .rfl
 .rfl
theorem zbE{ops:Array Oper}{listed:Array Bool}{i:Nat}:i∈Region.ready .any ops listed↔i<ops.size∧listed.getD i true=false∧∃o,ops[i]?=some o∧∀e∈o.after.toList,Region.binds .any e=true→lst listed e.on=true:=by
 unfold Region.ready lst
 rw[List.mem_filter,List.mem_range,zB,Bool.not_eq_true']
 constructor
 .rintro⟨h1,h2,h3⟩
  refine⟨h1,h2,?_⟩
  cases ho:ops[i]? with
  | none=>rw[ho]at h3;cases h3
  | some o=>
   rw[ho]at h3
   simp only[zR,zM]at h3
   refine⟨o,rfl,fun e he hb=>?_⟩
   rw[←zS]at h3
   have:=List.all_eq_true.1 h3 e he
   rw[hb]at this
   simpa using this
 .rintro⟨h1,h2,o,ho,h3⟩
  refine⟨h1,h2,?_⟩
  rw[ho]
  simp only[zR,zM]
  rw[←zS,List.all_eq_true]
  intro e he
  cases hb:Region.binds .any e with
  | false=>rfl
  | true=>rw[h3 e he hb];rfl
theorem zb0{listed:Array Bool}{i:Nat}(hi:i<listed.size):(listed.getD i true=false)↔lst listed i=false:=by
 unfold lst
 simp[Array.getD_eq_getD_getElem?,hi]
section
variable {E:Env} {call:FuncId→List Value→Hp→Option (Value×Hp)} {ops:Array Oper} {a aN:Fr} {h hN:Hp} {tr:List Tc}
theorem Run.frames(R:Run E call ops.toList ops.toList a h tr aN hN)(hm:a.n≤100000)(t:Tmp):∀i,i≤ops.size→(frAt tr aN i).get t=cur (dstOf ops) (valOf tr) a.get (fun _=>true) t i∧(frAt tr aN i).n=a.n∧(frAt tr aN i).gl=a.gl:=by
 intro i
 induction i with
 | zero=>intro _;rw[R.a0];exact⟨rfl,rfl,rfl⟩
 | succ i ih=>
  intro hi
  obtain⟨h1,h2,h3⟩:=ih (by omega)
  have ho:ops.toList[i]?=some ops[i]:=by simp
  obtain⟨u,hu,_,_,_,hput⟩:=R.step i _ ho
  have hfr:frAt tr aN i=u.a:=by unfold frAt;rw[hu]
  rw[hfr]at h1 h2 h3
  obtain⟨p1,p2,p3⟩:=put_get hput (by rw[h2];exact hm) t
  refine⟨?_,p2.trans h2,p3.trans h3⟩
  rw[p1]
  have hd:dstOf ops i=ops[i].dst:=by simp[dstOf,show i<ops.size from hi]
  have hv:valOf tr i=u.v:=by unfold valOf;rw[hu]
  simp only[cur,hd,hv,true_and]
  by_cases hc:ops[i].dst=some t
  .rw[if_pos hc,if_pos hc]
  .rw[if_neg hc,if_neg hc,h1]
theorem Run.quiet(R:Run E call ops.toList ops.toList a h tr aN hN){m:Bool}{an:List Nat}(hrd:zbD E m ops.toList an tr hN=true){i:Nat}(hi:i<ops.size)(hne:¬effOf E m ops tr i):hpAt tr hN (i+1)=hpAt tr hN i:=by
 have ho:ops.toList[i]?=some ops[i]:=by simp
 have ho':ops[i]?=some ops[i]:=by simp
 obtain⟨u,hu,_,hdo,hno,_⟩:=R.step i _ ho
 have hh:hpAt tr hN i=u.h:=by unfold hpAt;rw[hu]
 rw[hh]
 cases hd:u.did with
 | false=>exact(hno hd).2
 | true=>
  have h1:=hdo hd
  rcases kds (E:=E) (m:=m) ops[i].op with⟨_,hk⟩|⟨hk1,hk⟩|hk|⟨hk,_⟩
  .rw[zc1 (by rw[hk];decide)]at h1
   exact(kind0 hk h1).1
  .rw[zc1 (by rw[hk];decide)]at h1
   have h2:=(reads_of hrd ho' hu hd hk1).1
   unfold zcl at h2
   rw[h1]at h2
   simp only[zB]at h2
   exact kind1 hk h1 (zF h2.2)
  .exact absurd ⟨_,u,ho',hu,hd,by omega⟩ hne
  .exact absurd ⟨_,u,ho',hu,hd,by omega⟩ hne
theorem Run.still(R:Run E call ops.toList ops.toList a h tr aN hN){m:Bool}{an:List Nat}(hrd:zbD E m ops.toList an tr hN=true){i:Nat}:∀ {k:Nat},i≤k→k≤ops.size→(∀e,i≤e→e<k→¬effOf E m ops tr e)→hpAt tr hN k=hpAt tr hN i:=by
 intro k
 induction k with
 | zero=>
  intro h1 _ _;have:i=0:=by omega
  subst this;rfl
 | succ k ih=>
  intro h1 h2 h3
  by_cases he:i=k+1
  .subst he;rfl
  .rw[R.quiet hrd (by omega) (h3 k (by omega) (by omega))]
   exact ih (by omega) (by omega) (fun e q1 q2=>h3 e q1 (by omega))
end
theorem least_eff{E:Env}{md:Bool}{ops:Array Oper}{tr:List Tc}(m:Nat):∀d,(∀e,m≤e→e<m+d→¬effOf E md ops tr e)∨∃e,m≤e∧e<m+d∧effOf E md ops tr e∧∀e',m≤e'→e'<e→¬effOf E md ops tr e':=by
 intro d
 induction d with
 | zero=>exact .inl fun e h1 h2=>by omega
 | succ d ih=>
  rcases ih with h|⟨e,h1,h2,h3,h4⟩
  .by_cases he:effOf E md ops tr (m+d)
   .exact .inr ⟨m+d,by omega,by omega,he,fun e' q1 q2=>h e' q1 q2⟩
   .refine .inl fun e q1 q2=>?_
    by_cases hh:e=m+d
    .subst hh;exact he
    .exact h e q1 (by omega)
  .exact .inr ⟨e,h1,by omega,h3,h4⟩
theorem last_eff{E:Env}{md:Bool}{ops:Array Oper}{tr:List Tc}(i:Nat):∀d,(∀e,i≤e→e<i+d→¬effOf E md ops tr e)∨∃e,i≤e∧e<i+d∧effOf E md ops tr e∧∀e',e<e'→e'<i+d→¬effOf E md ops tr e':=by
 intro d
 induction d with
 | zero=>exact .inl fun e h1 h2=>by omega
 | succ d ih=>
  by_cases he:effOf E md ops tr (i+d)
  .exact .inr ⟨i+d,by omega,by omega,he,fun e' q1 q2=>by omega⟩
  .rcases ih with h|⟨e,h1,h2,h3,h4⟩
   .refine .inl fun e q1 q2=>?_
    by_cases hh:e=i+d
    .subst hh;exact he
    .exact h e q1 (by omega)
   .refine .inr ⟨e,h1,by omega,h3,fun e' q1 q2=>?_⟩
    by_cases hh:e'=i+d
    .subst hh;exact he
    .exact h4 e' q1 (by omega)
theorem HR.pushed{P:Program}{β:Bt}{h:Hp}{w:World}(H:HR P β h w)(o:Obj):HR P β h { w with heap:=w.heap.push o } where
 most:=H.most
 dom:=H.dom
 has:=H.has
 ok:=fun b x i a c=>zaK (H.ok b x i a c) (fun he=>zbQ (blk_lt (H.ok b x i a c) he))
 apart:=H.apart
theorem St.pushed{β:Bt}{h:Hp}{w:World}(o:Obj):St β h w β h { w with heap:=w.heap.push o }:=
 ⟨.refl _,rfl,rfl,rfl,by simp,fun k hk _=>zbQ hk,fun _ h=>.inl h,fun _ h=>.inl h⟩
theorem HR.unheld{P:Program}{β:Bt}{h:Hp}{w:World}(H:HR P β h w):¬Held β h w.heap.size:=by
 rintro⟨b,i,x,h1,h2,h3,h4⟩
 have:=blk_lt (H.ok _ _ _ h1 h3) h2
 omega
theorem oneOp_float{E:Env}{call:FuncId→List Value→Hp→Option (Value×Hp)}{ρ:Operand→Value}{op:Op}{h:Hp}(hf:zbM op=true):oneOp E call ρ op h=aop E ρ op h:=by
 unfold oneOp
 split
 .cases hf
 .rfl
theorem const_vr(β:Bt)(v:Value):VR β (zcf v) v:=by
 unfold zcf
 split
 .rename_i cs
  cases hb:zdg cs.toList with
  | true=>
   have hl:=bares_ok (β:=β) hb
   exact .agg rfl (fun i x y hx hy=>hl.2 i x y (by simpa using hx) (by simpa using hy))
  | false=>exact .any _
 .cases hb:bare_ v with
  | true=>exact bare_ok hb
  | false=>exact .any _
theorem const_int{v:Value}{k:IntKind}{n:Int}(h:zcf v=.int k n):v=.int k n:=by
 have:=const_vr (fun _=>none) v
 rw[h]at this
 exact this.int_inv
theorem constOf_eval{x:Operand}(hx:zcd x=true)(a:Fr):a.eval x=zcM x:=by
 cases x<;>first|rfl|cases hx
def cvalOf:Operand→Value
 | .const v=>v
 | _=>undef
theorem cvalOf_eval{x:Operand}(hx:zcd x=true)(a:Act):a.eval x=cvalOf x:=by
 cases x<;>first|rfl|cases hx
theorem constOf_vr(β:Bt){x:Operand}(hx:zcd x=true):VR β (zcM x) (cvalOf x):=by
 cases x with
 | const v=>exact const_vr β v
 | _=>cases hx
theorem flo_aop{E:Env}{a:Fr}{op:Op}(hf:zbM op=true){h h':Hp}{v:Value}(ha:aop E a.eval op h=some (v,h')):∃blk k b,flo_ E op=some (blk,k)∧h.new blk=some (b,h')∧v=k.v b:=by
 cases op with
 | alloc e=>
  simp only[aop]at ha
  cases hz:E.zero e with
  | none=>rw[hz]at ha;cases ha
  | some z=>
   rw[hz]at ha
   simp only at ha
   unfold zat at ha
   cases hn:h.new (.cells z.cells.toList e true false)with
   | none=>rw[hn]at ha;cases ha
   | some q=>
    obtain⟨b,h3⟩:=q
    rw[hn]at ha
    simp only[zA,zC]at ha
    obtain⟨rfl,rfl⟩:=ha
    exact⟨_,.ptr,b,by simp only[flo_,hz],hn,rfl⟩
 | makeMap t r=>
  cases r with
  | some r=>cases hf
  | none=>
   simp only[aop]at ha
   cases hn:h.new (.map [] 0)with
   | none=>rw[hn]at ha;cases ha
   | some q=>
    obtain⟨b,h3⟩:=q
    rw[hn]at ha
    simp only[zA,zC]at ha
    obtain⟨rfl,rfl⟩:=ha
    exact⟨_,.map,b,rfl,hn,rfl⟩
 | makeSlice t l c=>
  cases l with
  | const l=>
   cases c with
   | const c=>
    simp only[aop,zbU]at ha
    have e1:a.eval (.const l)=zcf l:=rfl
    have e2:a.eval (.const c)=zcf c:=rfl
    rw[e1,e2]at ha
    split at ha
    .rename_i e k1 n k2 m hu h1 h2
     split at ha
     .rename_i s b z hs hb hz
      cases hcc:(zD n m&&zD (m*b) 140737488355328&&zD m 9223372036854775807&&zJ z.cells.toList.length s)with
      | false=>rw[hcc]at ha;cases ha
      | true=>
       rw[hcc,cond_true]at ha
       unfold zat at ha
       cases hn:h.new (.cells (rep_ z.cells.toList m) e true false)with
       | none=>rw[hn]at ha;cases ha
       | some q=>
        obtain⟨b2,h3⟩:=q
        rw[hn]at ha
        simp only[zA,zC]at ha
        obtain⟨rfl,rfl⟩:=ha
        exact⟨_,.slice n m,b2,by simp only[flo_,hu,h1,h2,hs,hb,hz,hcc,cond_true],hn,rfl⟩
     .cases ha
    .cases ha
   | _=>cases hf
  | _=>cases hf
 | buildSlice t len ps=>
  simp only[aop,zbB]at ha
  have hps:(ps.toList.map fun p=>(p.1,a.eval p.2))=ps.toList.map fun p=>(p.1,zcM p.2):=List.map_congr_left fun p hp=>by
   rw[constOf_eval (List.all_eq_true.1 hf p hp)]
  rw[hps]at ha
  split at ha
  .rename_i e hu
   split at ha
   .rename_i s z hs hz
    cases hcc:(zD (len*s) 16777216&&zJ z.cells.toList.length s)with
    | false=>rw[hcc]at ha;cases ha
    | true=>
     rw[hcc,cond_true]at ha
     cases hfl:fill_ (fun i=>some (i*s,s)) (rep_ z.cells.toList len) (ps.toList.map fun p=>(p.1,zcM p.2))with
     | none=>rw[hfl]at ha;cases ha
     | some c=>
      rw[hfl]at ha
      simp only at ha
      unfold zat at ha
      cases hn:h.new (.cells c e true false)with
      | none=>rw[hn]at ha;cases ha
      | some q=>
       obtain⟨b2,h3⟩:=q
       rw[hn]at ha
       simp only[zA,zC]at ha
       obtain⟨rfl,rfl⟩:=ha
       exact⟨_,.slice len len,b2,by simp only[flo_,hu,hs,hz,hcc,hfl,cond_true],hn,rfl⟩
   .cases ha
  .cases ha
 | _=>cases hf
theorem Way.vr{β:Bt}{b k:Nat}(h:β b=some ⟨k,0,0⟩)(y:Way):VR β (y.v b) (y.v k):=by
 cases y with
 | ptr=>exact VR.ptr 0 h
 | map=>exact VR.map h
 | slice l c=>exact VR.slice 0 l c h
theorem cells_blk{P:Program}{l:List Value}{l':Array Value}{e:TypeId}(hl:∀β,LR β l l'.toList)(β:Bt)(w:World)(j:Nat)(hb:w.heap[j]?=some (.cells l' e (0,0))):BlkOk P β w ⟨j,0,0⟩ (.cells l e true false):=by
 have hs:l.length=l'.size:=by simpa using(hl β).1
 refine .inr ⟨l',e,(0,0),hb,by simp[hs],fun k x y hx hy=>(hl β).2 k x y hx (by simpa using hy),fun _=>⟨rfl,rfl,hs.symm⟩,fun _=>⟨rfl,.inl rfl,by simp[hs]⟩⟩
section
variable {P:Program} {eqs:List TypeId} (hp:P.types.size<4000)
include hp
theorem flo_run{op:Op}{blk:Blk}{y:Way}(hf:zbM op=true)(hfl:flo_ (Env.of P eqs) op=some (blk,y)):∃obj,(∀(a:Act) (o:Oper) w,o.op=op→(execOp a.eval o).run P w=.ok (.value (y.v w.heap.size)) { w with heap:=w.heap.push obj })∧
  ∀β w j,w.heap[j]?=some obj→BlkOk P β w ⟨j,0,0⟩ blk:=by
 cases op with
 | alloc e=>
  simp only[flo_]at hfl
  cases hz:(Env.of P eqs).zero e with
  | none=>rw[hz]at hfl;cases hfl
  | some z=>
   rw[hz]at hfl
   simp only[zA,zC]at hfl
   obtain⟨rfl,rfl⟩:=hfl
   refine⟨.cells z.cells e (0,0),fun a o w ho=>?_,cells_blk fun β=>((zbj hp hz).2 β).cells (zaR hz)⟩
   unfold execOp
   rw[ho]
   simp only[Instr.alloc,Sem.run_bind,zbb hp hz,Result.andThen_ok]
   rfl
 | makeMap t r=>
  cases r with
  | some r=>cases hf
  | none=>
   simp only[flo_,zA,zC]at hfl
   obtain⟨rfl,rfl⟩:=hfl
   refine⟨.map #[] 0,fun a o w ho=>?_,fun β w j hb=>⟨hb,fun e he=>by cases he⟩⟩
   unfold execOp
   rw[ho]
   rfl
 | makeSlice t l c=>
  cases l with
  | const l=>
   cases c with
   | const c=>
    simp only[flo_]at hfl
    split at hfl
    .rename_i e k1 n k2 m hu h1 h2
     split at hfl
     .rename_i s b z hs hby hz
      cases hcc:(zD n m&&zD (m*b) 140737488355328&&zD m 9223372036854775807&&zJ z.cells.toList.length s)with
      | false=>rw[hcc]at hfl;cases hfl
      | true=>
       rw[hcc,cond_true]at hfl
       simp only[zA,zC]at hfl
       obtain⟨rfl,rfl⟩:=hfl
       simp only[zB]at hcc
       obtain⟨⟨⟨q1,q2⟩,q3⟩,q4⟩:=hcc
       have hzs:z.cells.toList.length=s:=zF q4
       have harr:((zN (m*s)).map ((if m*s=0 then #[]else z.cells)[· % (if m*s=0 then #[]else z.cells).size]!)).toList=rep_ z.cells.toList m:=by
        by_cases h0:m*s=0
        .rw[h0]
         have:rep_ z.cells.toList m=[]:=zT (by rw[zbI,hzs];exact h0)
         rw[this]
         simp
        .simp only[if_neg h0]
         exact zcW z.cells m _ (by simp at hzs;rw[hzs])
       refine⟨.cells ((zN (m*s)).map ((if m*s=0 then #[]else z.cells)[· % (if m*s=0 then #[]else z.cells).size]!)) e (0,0),fun a o w ho=>?_,cells_blk fun β=>?_⟩
       .unfold execOp
        rw[ho]
        have e1:a.eval (.const l)=.int k1 (.ofNat n):=const_int h1
        have e2:a.eval (.const c)=.int k2 (.ofNat m):=const_int h2
        simp only[e1,e2]
        have:=makeSlice_runs hp (w:=w) (n:=n) (m:=m) (k1:=k1) (k2:=k2) hu hs hby hz (zE q1) (zE q2) (zE q3)
        simp only[Sem.run_bind,this,Result.andThen_ok,Sem.run_pure]
        rfl
       .rw[harr]
        exact(((zbj hp hz).2 β).cells (zaR hz)).rep m
     .cases hfl
    .cases hfl
   | _=>cases hf
  | _=>cases hf
 | buildSlice t len ps=>
  simp only[flo_]at hfl
  split at hfl
  .rename_i e hu
   split at hfl
   .rename_i s z hs hz
    cases hcc:(zD (len*s) 16777216&&zJ z.cells.toList.length s)with
    | false=>rw[hcc]at hfl;cases hfl
    | true=>
     rw[hcc,cond_true]at hfl
     obtain⟨hc1,hc2⟩:=Bool.and_eq_true_iff.1 hcc
     have hle:=zE hc1
     have hzs:z.cells.toList.length=s:=zF hc2
     cases hfi:fill_ (fun i=>some (i*s,s)) (rep_ z.cells.toList len) (ps.toList.map fun p=>(p.1,zcM p.2))with
     | none=>rw[hfi]at hfl;cases hfl
     | some c=>
      rw[hfi]at hfl
      simp only[zA,zC]at hfl
      obtain⟨rfl,rfl⟩:=hfl
      have hpr:∀β,PR β (ps.toList.map fun p=>(p.1,zcM p.2)) (ps.map fun p=>(p.1,cvalOf p.2)).toList:=fun β=>by
       rw[zO]
       refine⟨by simp,fun i p q h1 h2=>?_⟩
       rw[List.getElem?_map]at h1 h2
       cases hq:ps.toList[i]? with
       | none=>rw[hq]at h1;cases h1
       | some x=>
        rw[hq]at h1 h2
        cases h1;cases h2
        exact⟨rfl,constOf_vr β (List.all_eq_true.1 hf x (List.mem_of_getElem? hq))⟩
      have hbase:∀β,LR β (rep_ z.cells.toList len) ((zN (len*s)).map ((if len*s=0 then #[]else z.cells)[· % (if len*s=0 then #[]else z.cells).size]!)).toList:=fun β=>by
       by_cases h0:len*s=0
       .have:rep_ z.cells.toList len=[]:=zT (by rw[zbI,hzs];exact h0)
        rw[this,h0]
        simpa using LR.nil β
       .simp only[if_neg h0]
        rw[zcW z.cells len _ (by simp at hzs;rw[hzs])]
        exact(((zbj hp hz).2 β).cells (zaR hz)).rep len
      obtain⟨r',hr',_⟩:=zdw (β:=fun _=>none) (place':=fun i=>some (i*s,s)) (fun i p hp'=>hp') hfi (hbase _) (hpr _)
      refine⟨.cells r' e (0,0),fun a o w ho=>?_,cells_blk fun β=>?_⟩
      .unfold execOp
       rw[ho]
       have hmap:(ps.map fun p=>(p.1,a.eval p.2))=ps.map fun p=>(p.1,cvalOf p.2):=Array.map_congr_left fun p hp=>by
        rw[cvalOf_eval (List.all_eq_true.1 hf p (by simpa using hp))]
       have:=buildSlice_runs hp (w:=w) (len:=len) hu hs hz hle hr'
       simp only[hmap]
       simp only[Sem.run_bind,this,Result.andThen_ok,Sem.run_pure]
       rfl
      .obtain⟨r2,hr2,hR⟩:=zdw (β:=β) (place':=fun i=>some (i*s,s)) (fun i p hp'=>hp') hfi (hbase _) (hpr _)
       rw[hr']at hr2
       cases hr2
       exact hR
   .cases hfl
  .cases hfl
 | _=>cases hf
end
structure Wait(P:Program)(E:Env)(ops:Array Oper)(w0:World)(β:Bt)(h:Hp)(w:World)(f k:Nat):Prop where
 lo:w0.heap.size≤k
 hi:k<w.heap.size
 free:¬Held β h k
 what:∀o blk y,ops[f]?=some o→flo_ E o.op=some (blk,y)→∃obj,w.heap[k]?=some obj∧∀β w j,w.heap[j]?=some obj→BlkOk P β w ⟨j,0,0⟩ blk
theorem Wait.on{P:Program}{E:Env}{ops:Array Oper}{w0:World}{β β2:Bt}{h h2:Hp}{w w2:World}{f k:Nat}(W:Wait P E ops w0 β h w f k)(S:St β h w β2 h2 w2):Wait P E ops w0 β2 h2 w2 f k where
 lo:=W.lo
 hi:=zK W.hi S.size
 free:=fun hh=>by
  rcases S.held k hh with h1|h1
  .exact W.free h1
  .have:=W.hi;omega
 what:=fun o blk y h1 h2=>by
  obtain⟨obj,h3,h4⟩:=W.what o blk y h1 h2
  exact⟨obj,by rw[S.keep k W.hi (fun ho=>W.free ho.held)];exact h3,h4⟩
section
variable {P:Program} {eqs:List TypeId} (hp:P.types.size<4000) (hs:∀t∈eqs,P.stoodInHeld t=false) (hg:∀t∈eqs,P.eqGuardType P.depth t=false)
include hp hs hg
theorem draws1_wp{md:Bool}{call:FuncId→List Value→Hp→Option (Value×Hp)}(hcall:zbx P call P.globals.size)(ops:Array Oper){r:Option Nat}{n:Nat}{Q:Exit→Act→World→Prop}{β:Bt}{a:Fr}{a':Act}{h:Hp}{w:World}{e:Ex}{a2:Fr}{h2:Hp}{an:List Nat}
  (han:anc_ ops.toList []=an) (hd:zaT (Env.of P eqs) md ops.toList an=true) (hlate:md=true→zbl (Env.of P eqs) ops.toList an=true)
  (hF:FR β a a') (hgl:a.gl=P.globals.size) (H:HR P β h w) (hr:zb3 (Env.of P eqs) call md ops.toList an a h=.ok e a2 h2)
  (hq:∀β2 a2' w2,HR P β2 h2 w2→St β h w β2 h2 w2→FR β2 a2 a2'→a2.gl=P.globals.size→Q .normal a2' w2):wpAnyIn (Fz r) n P .any ops Q ops.size (zH ops.size false) a' { w with drawn:=w.drawn+1 }:=by
 unfold zb3 at hr
 cases ht:zbt (Env.of P eqs) call ops.toList ops.toList a h with
 | none=>rw[ht]at hr;cases hr
 | some q=>
  obtain⟨tr,aN,hN⟩:=q
  rw[ht]at hr
  simp only at hr
  cases hrd0:(zbD (Env.of P eqs) md ops.toList an tr hN&&(bif md then ups_ tr hN else true))with
  | false=>rw[hrd0]at hr;cases hr
  | true=>
   rw[hrd0,cond_true]at hr
   obtain⟨hrd,hup⟩:=Bool.and_eq_true_iff.1 hrd0
   simp only[Rs.ok.injEq]at hr
   obtain⟨rfl,rfl,rfl⟩:=hr
   have R:=trace_run ht
   have F:=fixed_of hd
   have A:=(zdA ops.toList []).2.2
   rw[han]at A
   have hlen:tr.length=ops.size:=by rw[R.len];simp
   have hEnd:hpAt tr hN ops.size=hN:=by unfold hpAt;rw[List.getElem?_eq_none (by omega)]
   have aEnd:frAt tr aN ops.size=aN:=by unfold frAt;rw[List.getElem?_eq_none (by omega)]
   have float3:∀f,eff3 (Env.of P eqs) md ops tr f→md=true∧f<ops.size∧∃o u blk y b,ops[f]?=some o∧tr[f]?=some u∧zbM o.op=true∧flo_ (Env.of P eqs) o.op=some (blk,y)∧(hpAt tr hN f).new blk=some (b,hpAt tr hN (f+1))∧u.v=y.v b∧
     (∃d,o.dst=some d∧∀j y,ops[j]?=some y→j≠f→y.dst≠some d):=by
    rintro f ⟨o,u,ho,hu,hdd,hk⟩
    have hfs:=(Array.getElem?_eq_some_iff.1 ho).1
    rcases kds (E:=Env.of P eqs) (m:=md) o.op with⟨h1,_⟩|⟨h1,_⟩|h1|⟨_,hm,hfl⟩
    .omega
    .omega
    .omega
    .subst hm
     obtain⟨u',hu',_,hdo,_,_⟩:=R.step f o (by simpa using ho)
     rw[hu]at hu'
     injection hu' with hu'
     subst hu'
     have h1:=hdo hdd
     rw[oneOp_float hfl]at h1
     obtain⟨blk,y,b,e1,e2,e3⟩:=flo_aop hfl h1
     refine⟨rfl,hfs,o,u,blk,y,b,ho,hu,hfl,e1,?_,e3,(late_of (hlate rfl) ho hk).1⟩
     have:hpAt tr hN f=u.h:=by unfold hpAt;rw[hu]
     rw[this];exact e2
   let pend:Array Bool→Nat→Nat→Prop:=fun listed mm f=>eff3 (Env.of P eqs) md ops tr f∧lst listed f=true∧mm≤f
   let bk:Nat→Nat:=fun f=>(hpAt tr hN f).next
   let dep:Array Bool→Tmp→Nat→Prop:=fun listed t f=>∃k,k<ops.size∧lst listed k=true∧dstOf ops k=some t∧(k=f∨ancB an k f=true)
   let At:Array Bool→Act→World→Nat→Prop:=fun listed a1 w1 mm=>∃(β1:Bt) (kf:Nat→Nat),HR P β1 (hpAt tr hN mm) w1∧St β h w β1 (hpAt tr hN mm) w1∧
    (∀t β',β1.total β'→(∀f,pend listed mm f→dep listed t f→β' (bk f)=some ⟨kf f,0,0⟩)→VR β' (cur (dstOf ops) (valOf tr) a.get (lst listed) t ops.size) (a1.tmps.getD t undef))∧
    (∀f,pend listed mm f→Wait P (Env.of P eqs) ops w β1 (hpAt tr hN mm) w1 f (kf f))∧(∀f g,pend listed mm f→pend listed mm g→f≠g→kf f≠kf g)
   have stepAt:∀listed a1 w1 mm,At listed a1 w1 mm→mm<ops.size→¬eff2 (Env.of P eqs) md ops mm→(eff3 (Env.of P eqs) md ops tr mm→lst listed mm=true)→At listed a1 w1 (mm+1):=by
    rintro listed a1 w1 mm ⟨β1,kf,H1,S1,V1,W1,D1⟩ hlt hne2 hl3
    by_cases h3:eff3 (Env.of P eqs) md ops tr mm
    .obtain⟨hmd,_,o,u,blk,y,b,ho,hu,hfo,hfy,hn,hv,d,hdd,honly⟩:=float3 mm h3
     have hpd:pend listed mm mm:=⟨h3,hl3 h3,zG _⟩
     have W:=W1 mm hpd
     obtain⟨obj,hob,hbk⟩:=W.what o blk y ho hfy
     have hdst:dstOf ops mm=some d:=by simp[dstOf,ho,hdd]
     have hbo:BlkOk P (β1.put (hpAt tr hN mm).next ⟨kf mm,0,0⟩) w1 ⟨kf mm,0,0⟩ blk:=hbk _ _ _ hob
     have H2:=H1.grow hn ⟨kf mm,0,0⟩ (fun _ _ _ _ _ _=>rfl) hbo (fun _ b' y j e ej he hh=>W.free ⟨b',j,y,e,he,ej,hh⟩)
     have hbn:=(Hp.new_some hn).1
     have hle:=H1.le_put ⟨kf mm,0,0⟩
     have sub:∀f,pend listed (mm+1) f→pend listed mm f∧f≠mm:=fun f hf=>⟨⟨hf.1,hf.2.1,by have:=hf.2.2;omega⟩,by have:=hf.2.2;omega⟩
     refine⟨_,kf,H2,⟨S1.le.trans hle,S1.os,S1.tape,S1.output,S1.size,S1.keep,fun k hk=>?_,fun k hk=>?_⟩,fun t=>?_,fun f hf=>?_,fun f g hf hg=>D1 f g (sub f hf).1 (sub g hg).1⟩
     .rcases own_grow H1 hn _ hk with h5|⟨_,h5⟩
      .exact S1.own k h5
      .have:=W.lo
       exact .inr (by rw[←h5];exact this)
     .rcases zda H1 hn _ hk with h5|⟨_,h5⟩
      .exact S1.held k h5
      .have:=W.lo
       exact .inr (by rw[←h5];exact this)
     .intro β' ht hT
      refine V1 t β' ⟨hle.trans ht.1,ht.2⟩ (fun f hf hd=>?_)
      by_cases hfm:f=mm
      .subst hfm
       exact ht.1 _ _ (Bt.put_same β1 (hpAt tr hN f).next ⟨kf f,0,0⟩)
      .exact hT f ⟨hf.1,hf.2.1,by have:=hf.2.2;omega⟩ hd
     .have Wf:=W1 f (sub f hf).1
      refine⟨Wf.lo,Wf.hi,fun hh=>?_,Wf.what⟩
      rcases zda H1 hn _ hh with h5|⟨_,h5⟩
      .exact Wf.free h5
      .exact D1 mm f hpd (sub f hf).1 (Ne.symm (sub f hf).2) h5
    .have hnE:¬effOf (Env.of P eqs) md ops tr mm:=by
      rintro⟨o,u,ho,hu,hdd,hk⟩
      rcases kds (E:=Env.of P eqs) (m:=md) o.op with⟨h1,_⟩|⟨h1,_⟩|h1|⟨h1,_⟩
      .omega
      .omega
      .exact hne2 ⟨o,ho,h1⟩
      .exact h3 ⟨o,u,ho,hu,hdd,h1⟩
     have hh:=R.quiet hrd hlt hnE
     have same:∀f,pend listed (mm+1) f↔pend listed mm f:=fun f=>⟨fun hf=>⟨hf.1,hf.2.1,by have:=hf.2.2;omega⟩,fun hf=>⟨hf.1,hf.2.1,by
      have:=hf.2.2
      by_cases hfm:f=mm
      .subst hfm;exact absurd hf.1 h3
      .omega⟩⟩
     refine⟨β1,kf,by rw[hh];exact H1,by rw[hh];exact S1,fun t β' ht hT=>V1 t β' ht (fun f hf hd=>hT f ((same f).2 hf) hd),fun f hf=>by rw[hh];exact W1 f ((same f).1 hf),fun f g hf hg=>D1 f g ((same f).1 hf) ((same g).1 hg)⟩
   have toAt:∀listed a1 w1 mm d,At listed a1 w1 mm→mm+d≤ops.size→(∀k,mm≤k→k<mm+d→¬eff2 (Env.of P eqs) md ops k)→(∀k,mm≤k→k<mm+d→eff3 (Env.of P eqs) md ops tr k→lst listed k=true)→At listed a1 w1 (mm+d):=by
    intro listed a1 w1 mm d
    induction d with
    | zero=>intro hA _ _ _;exact hA
    | succ d ih=>
     intro hA h1 h2 h3
     exact stepAt listed a1 w1 (mm+d) (ih hA (by omega) (fun k q1 q2=>h2 k q1 (by omega)) (fun k q1 q2=>h3 k q1 (by omega))) (by omega) (h2 _ (by omega) (by omega)) (h3 _ (by omega) (by omega))
   let Inv:Array Bool→Act→World→Prop:=fun listed a1 w1=>∃m,listed.size=ops.size∧m≤ops.size∧(∀e,eff2 (Env.of P eqs) md ops e→(lst listed e=true↔e<m))∧(∀f,eff3 (Env.of P eqs) md ops tr f→f<m→lst listed f=true)∧
    (∀i j,i<ops.size→lst listed i=true→ancB an i j=true→lst listed j=true)∧a1.defers=[]∧a1.tmps.size=a.n∧At listed a1 w1 m
   have fin:∀listed a1 w1,Inv listed a1 w1→(∀j,j<ops.size→lst listed j=true)→Q .normal a1 w1:=by
    rintro listed a1 w1 ⟨m,i0,i1,i2,i2',i3,d1,s1,hA⟩ hall
    have hA2:=toAt listed a1 w1 m (ops.size-m) hA (by omega) (fun k q1 q2 he=>by
     have:=(i2 k he).1 (hall k (by omega))
     omega) (fun k q1 q2 _=>hall k (by omega))
    rw[show m+(ops.size-m)=ops.size by omega]at hA2
    obtain⟨β1,kf,H1,S1,V1,_,_⟩:=hA2
    rw[hEnd]at H1 S1
    have hfr:=R.frames hF.most
    refine hq β1 a1 w1 H1 S1 ⟨d1,?_,?_,fun g hgg=>?_,fun t=>?_⟩ ?_
    .rw[s1,←aEnd];exact((hfr 0 _ (zG _)).2.1).symm
    .rw[←aEnd,(hfr 0 _ (zG _)).2.1];exact hF.most
    .rw[←aEnd,(hfr 0 _ (zG _)).2.2]at hgg
     exact S1.le _ _ (hF.glob g hgg)
    .have e1:aN.get t=cur (dstOf ops) (valOf tr) a.get (lst listed) t ops.size:=by
      rw[←aEnd,(hfr t _ (zG _)).1]
      exact cur_congr fun k hk _=>(hall k hk).symm
     rw[e1]
     refine VR.of_total (fun b i hb=>zK (H1.dom b i hb) H1.most) (fun β' ht=>V1 t β' ht (fun f hf _=>?_))
     obtain⟨_,hfs,_⟩:=float3 f hf.1
     exact absurd hf.2.2 (by omega)
    .rw[←aEnd,(hfr 0 _ (zG _)).2.2];exact hgl
   have full:∀listed:Array Bool,listed.size=ops.size→Region.ready .any ops listed=[]→∀j,j<ops.size→lst listed j=true:=by
    intro listed hsz hrd0 j
    induction j using Nat.strongRecOn with
    | _ j ih=>
     intro hj
     cases hl:lst listed j with
     | true=>rfl
     | false=>
      exfalso
      have:j∈Region.ready .any ops listed:=zbE.2 ⟨hj,(zb0 (by omega)).2 hl,ops[j],by simp,fun e he hb=>by
       have:=F.edge j ops[j] (by simp) e he hb
       exact ih e.on this (by omega)⟩
      rw[hrd0]at this
      cases this
   have key:∀(fuel:Nat) (listed:Array Bool) (a1:Act) (w1:World),Inv listed a1 w1→todo listed ops.size=fuel→wpAnyIn (Fz r) n P .any ops Q fuel listed a1 w1:=by
    intro fuel
    induction fuel with
    | zero=>
     intro listed a1 w1 hI htd
     have hall:=todo_zero htd
     refine⟨?_,fin listed a1 w1 hI hall⟩
     obtain⟨m,i0,_⟩:=hI
     apply List.eq_nil_iff_forall_not_mem.2
     intro i hi
     obtain⟨h1,h2,_⟩:=zbE.1 hi
     rw[zb0 (by omega),hall i h1]at h2
     cases h2
    | succ fuel ih=>
     intro listed a1 w1 hI htd
     refine⟨fun hr0=>fin listed a1 w1 hI (full listed hI.choose_spec.1 hr0),fun i hi=>?_⟩
     obtain⟨m,i0,i1,i2,i2',i3,d1,s1,hA⟩:=hI
     obtain⟨hin,hil,o,ho,hedge⟩:=zbE.1 hi
     rw[zb0 (by omega)]at hil
     have ho2:ops.toList[i]?=some o:=by simpa using ho
     obtain⟨u,hu,hw,hdo,hno,hput⟩:=R.step i o ho2
     have huf:frAt tr aN i=u.a:=by unfold frAt;rw[hu]
     have huh:hpAt tr hN i=u.h:=by unfold hpAt;rw[hu]
     have hdi:dstOf ops i=o.dst:=by simp[dstOf,ho]
     have hvi:valOf tr i=u.v:=by unfold valOf;rw[hu]
     have anc:∀j,ancB an i j=true→lst listed j=true:=by
      intro j hj
      have h0:([]:List Nat).length+i=i:=by simp
      obtain⟨e,he,hb,h5⟩:=A i o ho2 j (by rw[h0];exact hj)
      have hon:=hedge e he hb
      rcases h5 with rfl|h5
      .exact hon
      .have hlt:=F.edge i o ho e he hb
       exact i3 e.on j (by omega) hon h5
     have behind:∀k,i<k→k<ops.size→lst listed k=true→ancB an k i=false:=by
      intro k hk hkn hkl
      cases hb:ancB an k i with
      | false=>rfl
      | true=>rw[i3 k i hkn hkl hb]at hil;cases hil
     have looks:∀t,t∈zcz ops.toList o→cur (dstOf ops) (valOf tr) a.get (lst listed) t ops.size=u.a.get t:=by
      intro t htl
      have hlt:∀k,k<ops.size→dstOf ops k=some t→(lst listed k=true↔k<i):=by
       intro k hk hdk
       have hk1:ops[k]?=some ops[k]:=by simp
       have hdk':ops[k].dst=some t:=by simpa [dstOf,hk]using hdk
       rcases zP k i with hki|hki|hki
       .refine⟨fun _=>hki,fun _=>?_⟩
        rcases F.pair k i _ o hk1 ho hki with hp1|⟨hp1,_⟩
        .exact anc k hp1
        .exact absurd htl (clash_left hp1 hdk').1
       .subst hki
        exact⟨(fun h=>by rw[hil]at h;cases h),(fun h=>by omega)⟩
       .refine⟨fun h=>?_,fun h=>by omega⟩
        exfalso
        rcases F.pair i k o _ ho hk1 hki with hp1|⟨hp1,_⟩
        .rw[behind k hki hk h]at hp1;cases hp1
        .exact absurd htl (clash_right hp1 hdk')
      have e1:=cur_stop (val:=valOf tr) (t0:=a.get) (S:=lst listed) (zI hin) (fun k q1 q2 q3=>by
       cases hb:lst listed k with
       | false=>rfl
       | true=>have:=(hlt k q2 q3).1 hb;omega)
      rw[e1,←huf,(R.frames hF.most t i (zI hin)).1]
      exact cur_congr fun k hk hdk=>(hlt k (by omega) hdk).2 hk
     obtain⟨m',hm',hmn,hcase,e2',e3',hA'⟩:∃m',m≤m'∧m'≤ops.size∧((kd_ (Env.of P eqs) md o.op=2∧m'=i)∨(kd_ (Env.of P eqs) md o.op≠2∧m'=m))∧
       (∀e,eff2 (Env.of P eqs) md ops e→e≠i→(lst listed e=true↔e<m'))∧(∀f,eff3 (Env.of P eqs) md ops tr f→f<m'→lst listed f=true)∧At listed a1 w1 m':=by
      by_cases hk2:kd_ (Env.of P eqs) md o.op=2
      .have he2:eff2 (Env.of P eqs) md ops i:=⟨o,ho,hk2⟩
       have him:m≤i:=by
        rcases zL i m with hh|hh
        .rw[(i2 i he2).2 hh]at hil;cases hil
        .exact hh
       have before:∀k ok,ops[k]?=some ok→k<i→2≤kd_ (Env.of P eqs) md ok.op→lst listed k=true:=by
        intro k ok hok hki hkk
        rcases F.pair k i ok o hok ho hki with hp1|⟨_,hp1⟩
        .exact anc k hp1
        .exact absurd ⟨hkk,hk2⟩ hp1
       have l3:∀f,eff3 (Env.of P eqs) md ops tr f→f<i→lst listed f=true:=by
        rintro f ⟨of,uf,hof,_,_,hkf⟩ hfi
        exact before f of hof hfi (by omega)
       have hA2:=toAt listed a1 w1 m (i-m) hA (by omega) (fun k q1 q2 he=>by
        obtain⟨ok,hok,hkk⟩:=he
        have h1:=before k ok hok (by omega) (by omega)
        have:=(i2 k ⟨ok,hok,hkk⟩).1 h1
        omega) (fun k q1 q2 he=>l3 k he (by omega))
       rw[show m+(i-m)=i by omega]at hA2
       refine⟨i,him,by omega,.inl ⟨hk2,rfl⟩,fun e he hne=>?_,l3,hA2⟩
       refine⟨fun hl=>by have:=(i2 e he).1 hl;omega,fun hlt=>?_⟩
       obtain⟨oe,hoe,hke⟩:=he
       exact before e oe hoe hlt (by omega)
      .exact⟨m,zG _,i1,.inr ⟨hk2,rfl⟩,fun e he _=>i2 e he,i2',hA⟩
     clear hA
     obtain⟨β1,kf,H1,S1,V1,W1,D1⟩:=hA'
     have hd1:∀b i,β1 b=some i→b<9223372036854775808:=fun b i hb=>zK (H1.dom b i hb) H1.most
     have under:∀t,t∈zcz ops.toList o→∀f,dep listed t f→ancB an i f=true:=by
      rintro t htl f ⟨k,hk,hkl,hdk,hkf⟩
      have hk1:ops[k]?=some ops[k]:=by simp
      have hdk':ops[k].dst=some t:=by simpa [dstOf,hk]using hdk
      have hik:ancB an i k=true:=by
       rcases zP k i with hki|hki|hki
       .rcases F.pair k i _ o hk1 ho hki with hp1|⟨hp1,_⟩
        .exact hp1
        .exact absurd htl (clash_left hp1 hdk').1
       .subst hki;rw[hil]at hkl;cases hkl
       .exfalso
        rcases F.pair i k o _ ho hk1 hki with hp1|⟨hp1,_⟩
        .rw[behind k hki hk hkl]at hp1;cases hp1
        .exact absurd htl (clash_right hp1 hdk')
      rcases hkf with rfl|hkf
      .exact hik
      .exact anc_trans han F i k f hik hkf
     have calm:kd_ (Env.of P eqs) md o.op≠0→∀f,pend listed m' f→ancB an i f=false:=by
      rintro hk0 f ⟨hf3,hfl,hmf⟩
      cases hb:ancB an i f with
      | false=>rfl
      | true=>
       exfalso
       have hfi:=(anc_lt han F i f hb).1
       rcases hcase with⟨_,he⟩|⟨hk2,he⟩
       .omega
       .obtain⟨hmd,hfs,_⟩:=float3 f hf3
        obtain⟨of,uf,hof,_,_,hkf⟩:=hf3
        subst hmd
        obtain⟨e,z,hz,q1,q2,q3,q4⟩:=(late_of (hlate rfl) hof hkf).2 i o ho hfi hk2 hk0 hb
        have:=(i2 e ⟨z,hz,q3⟩).1 (anc e q4)
        omega
     have pos:∀f,pend listed m' f→(hpAt tr hN m').next≤bk f∧bk f<9223372036854775808∧(hpAt tr hN (f+1)).next=bk f+1∧f<ops.size∧ups_ tr hN=true:=by
      rintro f ⟨hf3,hfl,hmf⟩
      obtain⟨hmd,hfs,_,_,_,_,_,_,_,_,_,hn,_⟩:=float3 f hf3
      have hu:ups_ tr hN=true:=by rw[hmd]at hup;exact hup
      obtain⟨_,n2,n3,_⟩:=Hp.new_some hn
      exact⟨ups_mono hu hmf (by omega),n3,n2,hfs,hu⟩
     have inj:∀f g,pend listed m' f→pend listed m' g→bk f=bk g→f=g:=by
      intro f g hf hg he
      obtain⟨_,_,f3,f4,f5⟩:=pos f hf
      obtain⟨_,_,g3,g4,_⟩:=pos g hg
      rcases zP f g with h|h|h
      .have:(hpAt tr hN (f+1)).next≤bk g:=ups_mono f5 (show f+1≤g from h) (by omega)
       omega
      .exact h
      .have:(hpAt tr hN (g+1)).next≤bk f:=ups_mono f5 (show g+1≤f from h) (by omega)
       omega
     obtain⟨βt,htt,htf⟩:∃β',β1.total β'∧∀f,pend listed m' f→β' (bk f)=some ⟨kf f,0,0⟩:=by
      classical
      refine⟨fun b=>if h:∃f,pend listed m' f∧bk f=b then some ⟨kf h.choose,0,0⟩else β1.fill 0 b,⟨fun b j hb=>?_,fun b=>?_⟩,fun f hf=>?_⟩
      .have hn:¬ ∃f,pend listed m' f∧bk f=b:=by
        rintro⟨f,hf,hfb⟩
        have h1:=H1.dom b j hb
        have h2:=(pos f hf).1
        omega
       show(if h:∃f,pend listed m' f∧bk f=b then _ else _)=_
       rw[dif_neg hn]
       exact(Bt.fill_total hd1 0).1 b j hb
      .show(∃i,(if h:∃f,pend listed m' f∧bk f=b then _ else _)=some i)↔_
       by_cases h:∃f,pend listed m' f∧bk f=b
       .have hb:b<9223372036854775808:=by
         obtain⟨f,hf,rfl⟩:=h
         exact(pos f hf).2.1
        rw[dif_pos h]
        exact⟨fun _=>hb,fun _=>⟨_,rfl⟩⟩
       .rw[dif_neg h]
        exact(Bt.fill_total hd1 0).2 b
      .have h:∃g,pend listed m' g∧bk g=bk f:=⟨f,hf,rfl⟩
       show(if h:∃g,pend listed m' g∧bk g=bk f then _ else _)=_
       rw[dif_pos h,inj h.choose f h.choose_spec.1 hf h.choose_spec.2]
     let ρ:Operand→Value:=fun x=>match x with
      | .tmp t=>@ite _ (t∈zcz ops.toList o) (Classical.propDecidable _) (cur (dstOf ops) (valOf tr) a.get (lst listed) t ops.size) anyV
      | .const v=>zcf v
      | .func f=>.func (.func f) #[] #[]
      | .global g=>bif Nat.blt g a.gl then .pointer (some ⟨g,0,none⟩)else lost
     have hρt:∀β',β1.total β'→(∀f,pend listed m' f→ancB an i f=true→β' (bk f)=some ⟨kf f,0,0⟩)→∀x,VR β' (ρ x) (a1.eval x):=by
      intro β' ht hpf x
      cases x with
      | tmp t=>
       show VR β' (@ite _ (t∈zcz ops.toList o) (Classical.propDecidable _) _ _) _
       split
       .rename_i hl
        exact V1 t β' ht (fun f hf hd=>hpf f hf (under t hl f hd))
       .exact .any _
      | const v=>exact(hF.mono (S1.le.trans ht.1)).eval (.const v)
      | func f=>exact(hF.mono (S1.le.trans ht.1)).eval (.func f)
      | global g=>exact(hF.mono (S1.le.trans ht.1)).eval (.global g)
     have hρ:kd_ (Env.of P eqs) md o.op≠0→∀x,VR β1 (ρ x) (a1.eval x):=fun hk0 x=>
      VR.of_total hd1 (fun β' ht=>hρt β' ht (fun f hf ha=>by rw[calm hk0 f hf]at ha;cases ha) x)
     have hρu:∀x∈o.op.operands,ρ x=u.a.eval x:=by
      intro x hx
      cases x with
      | tmp t=>
       have hl:t∈zcz ops.toList o:=List.mem_append_left _ (List.mem_filterMap.2 ⟨.tmp t,by simpa using hx,rfl⟩)
       show(@ite _ (t∈zcz ops.toList o) (Classical.propDecidable _) _ _)=_
       rw[if_pos hl]
       exact looks t hl
      | const v=>rfl
      | func f=>rfl
      | global g=>
       have:=(R.frames hF.most 0 i (zI hin)).2.2
       rw[huf]at this
       show(bif Nat.blt g a.gl then _ else _)=(bif Nat.blt g u.a.gl then _ else _)
       rw[this]
     have hwt:Region.wanted o (yielded ops a1.tmps)=u.did:=by
      refine wanted_run (a:=u.a) (β:=βt) (fun j ww d hgj hdj=>?_) hw
      have:d∈zcz ops.toList o:=by
       unfold zcz
       refine List.mem_append_right _ ?_
       rw[hgj]
       simp only
       cases hj:ops.toList[j]? with
       | none=>rw[hj]at hdj;cases hdj
       | some oj=>
        rw[hj]at hdj
        obtain⟨dst,op,type,pos,after,guard⟩:=oj
        simp only[zU]at hdj
        subst hdj
        simp
      rw[←looks d this]
      exact V1 d βt htt (fun f hf _=>htf f hf)
     have next:∀(β2:Bt) (w2:World) (v':Value) (m2:Nat) (kf2:Nat→Nat),m2≤ops.size→(∀e,eff2 (Env.of P eqs) md ops e→(lst (listed.setIfInBounds i true) e=true↔e<m2))→(∀f,eff3 (Env.of P eqs) md ops tr f→f<m2→lst (listed.setIfInBounds i true) f=true)→
       HR P β2 (hpAt tr hN m2) w2→St β h w β2 (hpAt tr hN m2) w2→β1.le β2→(∀f,pend listed m' f→pend (listed.setIfInBounds i true) m2 f∧kf2 f=kf f)→
       (∀β',β2.total β'→(∀f,pend (listed.setIfInBounds i true) m2 f→(i=f∨ancB an i f=true)→β' (bk f)=some ⟨kf2 f,0,0⟩)→VR β' u.v v')→
       (∀f,pend (listed.setIfInBounds i true) m2 f→Wait P (Env.of P eqs) ops w β2 (hpAt tr hN m2) w2 f (kf2 f))→(∀f g,pend (listed.setIfInBounds i true) m2 f→pend (listed.setIfInBounds i true) m2 g→f≠g→kf2 f≠kf2 g)→
       wpAnyIn (Fz r) n P .any ops Q fuel (listed.setIfInBounds i true) (a1.put o.dst v') w2:=by
      intro β2 w2 v' m2 kf2 hm2 he2 he3 H2 S2 hle hpn hv W2 D2
      refine ih _ _ _ ⟨m2,by simp[i0],hm2,he2,he3,?_,?_,?_,β2,kf2,H2,S2,?_,W2,D2⟩ ?_
      .intro k j hk hkl hkj
       rw[zbz _ _ _ (by omega)]at hkl ⊢
       by_cases hki:k=i
       .subst hki
        by_cases hji:j=k
        .rw[if_pos hji]
        .rw[if_neg hji];exact anc j hkj
       .rw[if_neg hki]at hkl
        by_cases hji:j=i
        .rw[if_pos hji]
        .rw[if_neg hji];exact i3 k j hk hkl hkj
      .cases hdd:o.dst<;>exact d1
      .cases hdd:o.dst with
       | none=>exact s1
       | some d=>simp[Act.put,s1]
      .intro t β' ht hT
       by_cases hdt:o.dst=some t
       .have hv:=hv β' ht (fun f hf hfa=>hT f hf ⟨i,hin,by rw[zbz _ _ _ (by omega),if_pos rfl],hdi.trans hdt,hfa⟩)
        have e1:cur (dstOf ops) (valOf tr) a.get (lst (listed.setIfInBounds i true)) t ops.size=u.v:=by
         rw[cur_stop (i:=i+1) hin (fun k q1 q2 q3=>?_)]
         .simp only[cur,zbz _ _ _ (show i<listed.size by omega),hdi,hdt,if_true,and_self,hvi]
         .have hk1:ops[k]?=some ops[k]:=by simp
          have hdk':ops[k].dst=some t:=by simpa [dstOf,q2]using q3
          rw[zbz _ _ _ (by omega),if_neg (by omega)]
          cases hb:lst listed k with
          | false=>rfl
          | true=>
           exfalso
           rcases F.pair i k o _ ho hk1 (by omega)with hp1|⟨hp1,_⟩
           .rw[behind k (by omega) q2 hb]at hp1;cases hp1
           .exact(clash_left hp1 hdt).2 hdk'
        rw[e1]
        have hlt:t<a1.tmps.size:=by
         rw[Fr.put_eq]at hput
         rw[hdt]at hput
         simp only at hput
         cases hb:Nat.blt t u.a.n with
         | false=>rw[hb]at hput;cases hput
         | true=>
          have h1:@LT.lt Nat _ t u.a.n:=zK (Nat.lt_succ_self _) (zE hb)
          have h2:=(R.frames hF.most 0 i (zI hin)).2.1
          rw[huf]at h2
          rw[s1,←h2]
          exact h1
        rw[hdt]
        simp only[Act.put,Array.getD_eq_getD_getElem?,Array.getElem?_setIfInBounds,if_true,hlt,zM]
        exact hv
       .have e1:cur (dstOf ops) (valOf tr) a.get (lst (listed.setIfInBounds i true)) t ops.size=cur (dstOf ops) (valOf tr) a.get (lst listed) t ops.size:=by
         refine cur_congr fun k hk hdk=>?_
         rw[zbz _ _ _ (by omega),if_neg]
         rintro rfl
         rw[hdi]at hdk
         exact hdt hdk
        rw[e1]
        have e2:(a1.put o.dst v').tmps.getD t undef=a1.tmps.getD t undef:=by
         cases hdd:o.dst with
         | none=>rfl
         | some d=>
          have hne:d≠t:=fun e=>hdt (by rw[hdd,e])
          simp[Act.put,Array.getElem?_setIfInBounds_ne hne]
        rw[e2]
        refine V1 t β' ⟨hle.trans ht.1,ht.2⟩ (fun f hf hd=>?_)
        obtain⟨k,hk,hkl,hdk,hkf⟩:=hd
        rw[←(hpn f hf).2]
        refine hT f (hpn f hf).1 ⟨k,hk,?_,hdk,hkf⟩
        rw[zbz _ _ _ (by omega)]
        split
        .rfl
        .exact hkl
      .have:=todo_set listed i (by omega) hil ops.size
       rw[if_pos hin]at this
       omega
     have stay:∀(β2:Bt) (h2:Hp) (w2:World),St β1 (hpAt tr hN m') w1 β2 h2 w2→∀f,pend listed m' f→Wait P (Env.of P eqs) ops w β2 h2 w2 f (kf f):=fun β2 h2 w2 S2 f hf=>(W1 f hf).on S2
     have pendSame:∀m2,(m2=m'∨m2=i+1∧m'=i)→¬eff3 (Env.of P eqs) md ops tr i→∀f,pend (listed.setIfInBounds i true) m2 f↔pend listed m' f:=by
      intro m2 hm2 hn3 f
      have hsf:lst (listed.setIfInBounds i true) f=if f=i then true else lst listed f:=zbz _ _ _ (by omega)
      constructor
      .rintro⟨h1,h2,h3⟩
       have hfi:f≠i:=by rintro rfl;exact hn3 h1
       rw[hsf,if_neg hfi]at h2
       exact⟨h1,h2,by omega⟩
      .rintro⟨h1,h2,h3⟩
       have hfi:f≠i:=by rintro rfl;exact hn3 h1
       exact⟨h1,by rw[hsf,if_neg hfi];exact h2,by omega⟩
     have done2:∀m2,(kd_ (Env.of P eqs) md o.op=2→m2=i+1)→(kd_ (Env.of P eqs) md o.op≠2→m2=m')→(∀e,eff2 (Env.of P eqs) md ops e→(lst (listed.setIfInBounds i true) e=true↔e<m2))∧(∀f,eff3 (Env.of P eqs) md ops tr f→f<m2→lst (listed.setIfInBounds i true) f=true):=by
      intro m2 q1 q2
      refine⟨fun e he=>?_,fun f hf hlt=>?_⟩
      .rw[zbz _ _ _ (by omega)]
       by_cases hei:e=i
       .subst hei
        obtain⟨oe,hoe,hke⟩:=he
        rw[ho]at hoe
        injection hoe with hoe
        subst hoe
        rw[if_pos rfl,q1 hke]
        exact⟨fun _=>by omega,fun _=>rfl⟩
       .rw[if_neg hei,e2' e he hei]
        rcases hcase with⟨hk,hmi⟩|⟨hk,hmi⟩
        .rw[q1 hk];omega
        .rw[q2 hk]
      .rw[zbz _ _ _ (by omega)]
       by_cases hfi:f=i
       .rw[if_pos hfi]
       .rw[if_neg hfi]
        refine e3' f hf ?_
        rcases hcase with⟨hk,hmi⟩|⟨hk,hmi⟩
        .rw[q1 hk]at hlt;omega
        .rw[q2 hk]at hlt;exact hlt
     have run:∀m2,(kd_ (Env.of P eqs) md o.op=2→m2=i+1)→(kd_ (Env.of P eqs) md o.op≠2→m2=m')→¬eff3 (Env.of P eqs) md ops tr i→m2≤ops.size→∀β2 w2 v',HR P β2 (hpAt tr hN m2) w2→St β1 (hpAt tr hN m') w1 β2 (hpAt tr hN m2) w2→(∀β',β2.total β'→(∀f,pend listed m' f→ancB an i f=true→β' (bk f)=some ⟨kf f,0,0⟩)→VR β' u.v v')→wpAnyIn (Fz r) n P .any ops Q fuel (listed.setIfInBounds i true) (a1.put o.dst v') w2:=by
      intro m2 q1 q2 hn3 hm2 β2 w2 v' H2 S2 hv
      obtain⟨q3,q4⟩:=done2 m2 q1 q2
      have hps:=pendSame m2 (by
       rcases hcase with⟨hk,hmi⟩|⟨hk,hmi⟩
       .exact .inr ⟨q1 hk,hmi⟩
       .exact .inl (q2 hk)) hn3
      exact next β2 w2 v' m2 kf hm2 q3 q4 H2 (S1.trans S2) S2.le (fun f hf=>⟨(hps f).2 hf,rfl⟩) (fun β' ht hx=>hv β' ht (fun f hf ha=>hx f ((hps f).2 hf) (.inr ha))) (fun f hf=>stay β2 _ w2 S2 f ((hps f).1 hf)) (fun f g hf hg=>D1 f g ((hps f).1 hf) ((hps g).1 hg))
     unfold wpOpIn
     rw[ho]
     simp only
     rw[hwt]
     cases hdid:u.did with
     | false=>
      simp only[zV,if_false]
      refine⟨fun _ _=>trivial,?_⟩
      obtain⟨hv,hh⟩:=hno hdid
      have hn3:¬eff3 (Env.of P eqs) md ops tr i:=by
       rintro⟨o',u',ho',hu',hd',_⟩
       rw[hu]at hu'
       injection hu' with hu'
       rw[←hu',hdid]at hd'
       cases hd'
      rcases hcase with⟨hk,hmi⟩|⟨hk,hmi⟩
      .subst hmi
       have hh2:hpAt tr hN (m'+1)=hpAt tr hN m':=by rw[hh,huh]
       exact run (m'+1) (fun _=>rfl) (fun h=>absurd hk h) hn3 (by omega) β1 w1 undef (by rw[hh2];exact H1) (by rw[hh2];exact .refl _ _ _) (fun β' _ _=>by rw[hv];exact .undef β')
      .exact run m' (fun h=>absurd h hk) (fun _=>rfl) hn3 hmn β1 w1 undef H1 (.refl _ _ _) (fun β' _ _=>by rw[hv];exact .undef β')
     | true=>
      simp only[if_true]
      have h1:=hdo hdid
      rw[←huh]at h1
      have hglob:∀g,g<P.globals.size→β1 g=some ⟨g,0,0⟩:=fun g hgg=>S1.le _ _ (hF.glob g (by rw[hgl];exact hgg))
      rcases kds (E:=Env.of P eqs) (m:=md) o.op with⟨hkd,hk⟩|⟨hkd,hk⟩|hkd|⟨hkd,hmd,hflo⟩
      ·
       have hn3:¬eff3 (Env.of P eqs) md ops tr i:=by
        rintro⟨o',u',ho',_,_,hk'⟩
        rw[ho]at ho'
        injection ho' with ho'
        rw[←ho',hkd]at hk'
        cases hk'
       rw[zc1 (by rw[hk];decide)]at h1
       have h3:=(kind0 hk h1).2 ⟨9223372036854775808,.nil⟩
       rw[←aop_congr (ρ:=ρ) hρu]at h3
       have none0:∀b,(⟨9223372036854775808,.nil⟩:Hp).get b=none:=fun b=>Tr.get_nil b
       have notOwn:∀(β':Bt) k,¬Own β' ⟨9223372036854775808,.nil⟩ k:=by
        rintro β' k ⟨b,j,x,hx,_⟩
        rw[none0]at hx
        cases hx
       have dummy:∀β',β1.total β'→HR P β' ⟨9223372036854775808,.nil⟩ w1:=fun β' ht=>
        ⟨zG _,fun b j hb=>(ht.2 b).1 ⟨j,hb⟩,(fun b x hx=>by rw[none0]at hx;cases hx),(fun b x j hx=>by rw[none0]at hx;cases hx),(fun b b' j j' x y hx=>by rw[none0]at hx;cases hx)⟩
       have key0:∀β',β1.total β'→(∀f,pend listed m' f→ancB an i f=true→β' (bk f)=some ⟨kf f,0,0⟩)→
         ∃nx v' w',(execOp a1.eval o).run P w1=.ok nx w'∧(nx=.value v'∨nx=.skip∧v'=undef)∧St β' ⟨9223372036854775808,.nil⟩ w1 β' ⟨9223372036854775808,.nil⟩ w'∧VR β' u.v v':=by
        intro β' ht hx
        obtain⟨nx,v',w',β3,hr3,hnn,H',S',hR⟩:=aop_does hp hs hg (dummy β' ht) (hρt β' ht hx) h3
        have e:β3=β':=by
         funext b
         cases hb:β' b with
         | some j=>exact S'.le _ _ hb
         | none=>
          cases h3b:β3 b with
          | none=>rfl
          | some j=>
           obtain⟨q,hq⟩:=(ht.2 b).2 (H'.dom b j h3b)
           rw[hb]at hq
           cases hq
        subst e
        exact⟨nx,v',w',hr3,hnn,S',hR⟩
       obtain⟨nx,v',w',hr3,hnn,S',hR⟩:=key0 βt htt (fun f hf _=>htf f hf)
       have H1':HR P β1 (hpAt tr hN m') w':=⟨H1.most,H1.dom,H1.has,fun b x j hx hj=>zaK (H1.ok b x j hx hj) (fun he=>S'.keep _ (blk_lt (H1.ok b x j hx hj) he) (notOwn _ _)),H1.apart⟩
       have S1':St β1 (hpAt tr hN m') w1 β1 (hpAt tr hN m') w':=⟨.refl _,S'.os,S'.tape,S'.output,S'.size,fun k hk _=>S'.keep k hk (notOwn _ _),fun _ h=>.inl h,fun _ h=>.inl h⟩
       have fin0:=run m' (fun h=>by omega) (fun _=>rfl) hn3 hmn β1 w' v' H1' S1' (fun β' ht hx=>by
        obtain⟨nx2,v2,w2,hr2,hnn2,_,hR2⟩:=key0 β' ht hx
        rw[hr3]at hr2
        injection hr2 with e1 e2
        have:v2=v':=by
         rcases hnn with rfl|⟨rfl,rfl⟩<;>rcases hnn2 with rfl|⟨rfl,rfl⟩
         .injection e1 with e1;exact e1.symm
         .cases e1
         .cases e1
         .rfl
        rw[←this]
        exact hR2)
       refine⟨fun _ _=>trivial,?_⟩
       rw[Oper.semAt_eq _ _ _ (fun c hc=>by rw[hc]at h3;simp[aop]at h3),hr3]
       rcases hnn with rfl|⟨rfl,rfl⟩<;>exact fin0
      ·
       have hmm:m'=m:=by
        rcases hcase with⟨hk2,_⟩|⟨_,hh⟩
        .omega
        .exact hh
       have hne:¬effOf (Env.of P eqs) md ops tr i:=by
        rintro⟨o',u',ho',_,_,hk'⟩
        rw[ho]at ho'
        injection ho' with ho'
        rw[←ho',hkd]at hk'
        omega
       have hn3:¬eff3 (Env.of P eqs) md ops tr i:=by
        rintro⟨o',u',ho',hu',hd',hk'⟩
        exact hne ⟨o',u',ho',hu',hd',by omega⟩
       obtain⟨_,hreads⟩:=reads_of hrd ho hu hdid hkd
       have from_again:∀q,zcl (Env.of P eqs) u o.op (hpAt tr hN q)=true→aop (Env.of P eqs) u.a.eval o.op (hpAt tr hN q)=some (u.v,hpAt tr hN q):=by
        intro q hq2
        unfold zcl at hq2
        cases hq3:aop (Env.of P eqs) u.a.eval o.op (hpAt tr hN q)with
        | none=>rw[hq3]at hq2;cases hq2
        | some r=>
         obtain⟨v2,h4⟩:=r
         rw[hq3]at hq2
         simp only[zB]at hq2
         rw[veq_eq hq2.1,kind1 hk hq3 (zF hq2.2)]
       have sort:∀e,effOf (Env.of P eqs) md ops tr e→eff2 (Env.of P eqs) md ops e∨eff3 (Env.of P eqs) md ops tr e:=by
        rintro e ⟨oe,ue,hoe,hue,hde,hke⟩
        rcases kds (E:=Env.of P eqs) (m:=md) oe.op with⟨h1,_⟩|⟨h1,_⟩|h1|⟨h1,_⟩
        .omega
        .omega
        .exact .inl ⟨oe,hoe,h1⟩
        .exact .inr ⟨oe,ue,hoe,hue,hde,h1⟩
       have h3:aop (Env.of P eqs) u.a.eval o.op (hpAt tr hN m)=some (u.v,hpAt tr hN m):=by
        have hself:aop (Env.of P eqs) u.a.eval o.op (hpAt tr hN i)=some (u.v,hpAt tr hN i):=by
         rw[zc1 (by rw[hk];decide)]at h1
         rw[h1,R.quiet hrd hin hne]
        rcases zL i m with him|him
        .rcases last_eff (E:=Env.of P eqs) (md:=md) (ops:=ops) (tr:=tr) i (m-i)with hno2|⟨e,q1,q2,q3,q4⟩
         .rw[R.still hrd (zI him) i1 (fun e q1 q2=>hno2 e q1 (by omega))]
          exact hself
         .have hie:i<e:=by
           rcases zL i e with h|h
           .exact h
           .have:e=i:=by omega
            subst this
            exact absurd q3 hne
          have hel:lst listed e=true:=by
           rcases sort e q3 with h5|h5
           .exact(i2 e h5).2 (by omega)
           .exact i2' e h5 (by omega)
          have hen:e<ops.size:=by omega
          rcases(hreads e q3).2 hie with h5|h5
          .rw[behind e hie hen hel]at h5;cases h5
          .rw[R.still hrd (show e+1≤m by omega) i1 (fun e' r1 r2=>q4 e' (by omega) (by omega))]
           exact from_again _ h5
        .rcases least_eff (E:=Env.of P eqs) (md:=md) (ops:=ops) (tr:=tr) m (i-m)with hno2|⟨e,q1,q2,q3,q4⟩
         .rw[←R.still hrd him (zI hin) (fun e q1 q2=>hno2 e q1 (by omega))]
          exact hself
         .have hei:e<i:=by omega
          rcases(hreads e q3).1 hei with h5|h5
          .exfalso
           rcases sort e q3 with h6|h6
           .have:=(i2 e h6).1 (anc e h5)
            omega
           .have h7:=h6
            obtain⟨oe,ue,hoe,hue,hde,hke⟩:=h6
            obtain⟨hmd,_⟩:=float3 e h7
            subst hmd
            obtain⟨e2,z,hz,r1,r2,r3,r4⟩:=(late_of (hlate rfl) hoe hke).2 i o ho hei (by omega) (by omega) h5
            have:=(i2 e2 ⟨z,hz,r3⟩).1 (anc e2 r4)
            omega
          .rw[←R.still hrd q1 (show e≤ops.size by omega) (fun e' r1 r2=>q4 e' r1 r2)]
           exact from_again _ h5
       rw[←hmm]at h3
       rw[←aop_congr (ρ:=ρ) hρu]at h3
       exact one_wp hp hs hg hcall (hρ (by omega)) hglob H1 (by rw[zc1 (by rw[hk];decide)];exact h3) (fun β2 w2 v' H2 S2 hv=>run m' (fun h=>by omega) (fun _=>rfl) hn3 hmn β2 w2 v' H2 S2 (fun β' ht _=>hv.mono ht.1))
      ·
       have hmi:m'=i:=by
        rcases hcase with⟨_,hh⟩|⟨hk2,_⟩
        .exact hh
        .exact absurd hkd hk2
       have hn3:¬eff3 (Env.of P eqs) md ops tr i:=by
        rintro⟨o',u',ho',_,_,hk'⟩
        rw[ho]at ho'
        injection ho' with ho'
        rw[←ho',hkd]at hk'
        cases hk'
       rw[←oneOp_congr (ρ:=ρ) hρu,←hmi]at h1
       exact one_wp hp hs hg hcall (hρ (by omega)) hglob H1 h1 (fun β2 w2 v' H2 S2 hv=>run (m'+1) (fun _=>by rw[hmi]) (fun h=>absurd hkd h) hn3 (by omega) β2 w2 v' H2 S2 (fun β' ht _=>hv.mono ht.1))
      ·
       have hmm:m'=m:=by
        rcases hcase with⟨hk2,_⟩|⟨_,hh⟩
        .omega
        .exact hh
       have he3:eff3 (Env.of P eqs) md ops tr i:=⟨o,u,ho,hu,hdid,hkd⟩
       have him:m'≤i:=by
        rcases zL i m' with hh|hh
        .rw[e3' i he3 hh]at hil;cases hil
        .exact hh
       obtain⟨_,_,o',u',blk,y,b,ho',hu',hfo,hfy,hn,hv,d,hdd,honly⟩:=float3 i he3
       rw[ho]at ho'
       injection ho' with ho'
       subst ho'
       obtain⟨obj,hexec,hobj⟩:=flo_run hp hfo hfy
       have hrun:=hexec a1 o w1 rfl
       refine⟨fun _ _=>trivial,?_⟩
       rw[Oper.semAt_eq _ _ _ (fun c hc=>by rw[hc]at hfo;cases hfo),hrun]
       show wpAnyIn (Fz r) n P .any ops Q fuel (listed.setIfInBounds i true) (a1.put o.dst (y.v w1.heap.size)) { w1 with heap:=w1.heap.push obj }
       have S2:St β1 (hpAt tr hN m') w1 β1 (hpAt tr hN m') { w1 with heap:=w1.heap.push obj }:=St.pushed _
       obtain⟨q3,q4⟩:=done2 m' (fun h=>by omega) (fun _=>rfl)
       have hsf:∀f,lst (listed.setIfInBounds i true) f=if f=i then true else lst listed f:=fun f=>zbz _ _ _ (by omega)
       have old:∀f,pend (listed.setIfInBounds i true) m' f→f≠i→pend listed m' f:=by
        rintro f ⟨r1,r2,r3⟩ hfi
        rw[hsf,if_neg hfi]at r2
        exact⟨r1,r2,r3⟩
       have hpi:pend (listed.setIfInBounds i true) m' i:=⟨he3,by rw[hsf,if_pos rfl],him⟩
       refine next β1 _ _ m' (fun f=>if f=i then w1.heap.size else kf f) hmn q3 q4 (H1.pushed _) (S1.trans S2) (.refl _) (fun f hf=>⟨?_,?_⟩) (fun β' ht hx=>?_) ?_ ?_
       .obtain⟨r1,r2,r3⟩:=hf
        refine⟨r1,?_,r3⟩
        rw[hsf]
        split
        .rfl
        .exact r2
       .have hfi:f≠i:=by rintro rfl;have:=hf.2.1;rw[hil]at this;cases this
        exact if_neg hfi
       .have h5:=hx i hpi (.inl rfl)
        rw[if_pos rfl]at h5
        have hu2:u'=u:=by rw[hu]at hu';injection hu' with hu';exact hu'.symm
        rw[←hu2,hv,(Hp.new_some hn).1]
        exact Way.vr h5 y
       .intro f hf
        by_cases hfi:f=i
        .subst hfi
         rw[if_pos rfl]
         refine⟨S1.size,by simp,?_,?_⟩
         .intro hh
          exact H1.unheld hh
         .intro o2 blk2 y2 r1 r2
          rw[ho]at r1
          injection r1 with r1
          subst r1
          rw[hfy]at r2
          injection r2 with r2
          injection r2 with r2 r3
          subst r2
          exact⟨obj,zcI,hobj⟩
        .rw[if_neg hfi]
         exact stay β1 _ _ S2 f (old f hf hfi)
       .intro f g hf hg hfg
        by_cases hfi:f=i
        .have hgi:g≠i:=fun e=>hfg (by rw[hfi,e])
         rw[if_pos hfi,if_neg hgi]
         have:=(W1 g (old g hg hgi)).hi
         omega
        .rw[if_neg hfi]
         by_cases hgi:g=i
         .rw[if_pos hgi]
          have:=(W1 f (old f hf hfi)).hi
          omega
         .rw[if_neg hgi]
          exact D1 f g (old f hf hfi) (old g hg hgi) hfg
   have hl0:∀e,lst (zH ops.size false) e=false:=fun e=>by unfold lst;simp[Array.getD_eq_getD_getElem?,Array.getElem?_replicate];split<;>rfl
   refine key ops.size (zH ops.size false) a' { w with drawn:=w.drawn+1 } ⟨0,by simp,zQ _,?_,?_,?_,hF.defers,hF.size,β,fun _=>0,?_,?_,?_,?_,?_⟩ ?_
   .intro e he
    rw[hl0]
    exact⟨(fun h=>by cases h),(fun h=>by omega)⟩
   .intro f _ h;omega
   .intro i j _ hl
    rw[hl0]at hl
    cases hl
   .rw[R.h0];exact H.drawn rfl
   .rw[R.h0];exact St.drawn rfl rfl rfl rfl
   .intro t β' ht _
    have:cur (dstOf ops) (valOf tr) a.get (lst (zH ops.size false)) t ops.size=a.get t:=by
     rw[cur_stop (i:=0) (zQ _) (fun k _ _ _=>hl0 k)]
     rfl
    rw[this]
    exact(hF.tmps t).mono ht.1
   .rintro f ⟨_,hf,_⟩
    rw[hl0]at hf
    cases hf
   .rintro f g ⟨_,hf,_⟩
    rw[hl0]at hf
    cases hf
   .have:∀k,k≤ops.size→todo (zH ops.size false) k=k:=by
     intro k
     induction k with
     | zero=>intro _;rfl
     | succ k ih=>
      intro hk
      simp only[todo,hl0,ih (by omega)]
      simp
    exact this _ (zG _)
end
theorem filterMap_get{α γ:Type}{f:α→Option γ}:∀ {l:List α},(∀x∈l,∃y,f x=some y)→∀k:Nat,(l.filterMap f)[k]?=(l[k]?).bind f:=by
 intro l
 induction l with
 | nil=>intro _ k;simp
 | cons x l ih=>
  intro h k
  obtain⟨y,hy⟩:=h x (List.mem_cons_self ..)
  rw[List.filterMap_cons_some hy]
  cases k with
  | zero=>simp[hy]
  | succ k=>simpa using ih (fun z hz=>h z (List.mem_cons_of_mem _ hz)) k
theorem ren_wp{F:Fence}{n:Nat}{P:Program}{p:Nat→Nat}{o:Oper}{a:Act}{w:World}{K:Act→World→Prop}{Q:Exit→Act→World→Prop}:(ren_ p o).wpIn F n P a w K Q=o.wpIn F n P a w K Q:=by
 obtain⟨dst,op,type,pos,after,guard⟩:=o
 rfl
theorem ren_about{P:Program}{p:Nat→Nat}{o:Oper}{w:World}{ρ:Operand→Value}:(ren_ p o).about P w ρ=o.about P w ρ:=by
 obtain⟨dst,op,type,pos,after,guard⟩:=o
 rfl
structure Moved(ops ops':Array Oper)(p q:Nat→Nat):Prop where
 size:ops'.size=ops.size
 into:∀i:Nat,i<ops.size→p i<ops.size∧q (p i)=i
 back:∀k:Nat,k<ops.size→q k<ops.size∧p (q k)=k
 get:∀(i:Nat) (o:Oper),ops[i]?=some o→ops'[p i]?=some (ren_ p o)
 edge:∀(i:Nat) (o:Oper),ops[i]?=some o→∀e∈o.after.toList,e.on<ops.size
 guard:∀(i:Nat) (o:Oper) (j:Nat) (w:Bool),ops[i]?=some o→o.guard=some (j,w)→j<ops.size
theorem Moved.wanted{ops ops':Array Oper}{p q:Nat→Nat}(S:Moved ops ops' p q){i:Nat}{o:Oper}(ho:ops[i]?=some o)(tmps:Array Value):Region.wanted (ren_ p o) (yielded ops' tmps)=Region.wanted o (yielded ops tmps):=by
 obtain⟨dst,op,type,pos,after,guard⟩:=o
 cases guard with
 | none=>rfl
 | some g=>
  obtain⟨j,w⟩:=g
  have hj:=S.guard i _ j w ho rfl
  have h1:ops[j]?=some ops[j]:=by simp
  have h2:=S.get j _ h1
  show(yielded ops' tmps (p j)==some w)=(yielded ops tmps j==some w)
  have:yielded ops' tmps (p j)=yielded ops tmps j:=by
   unfold yielded
   rw[h1,h2]
   rfl
  rw[this]
theorem Moved.ready{ops ops':Array Oper}{p q:Nat→Nat}(S:Moved ops ops' p q){listed listed':Array Bool}(h1:listed.size=ops.size)(h2:listed'.size=ops.size)(hl:∀i,i<ops.size→lst listed i=lst listed' (p i)){i:Nat}(hi:i<ops.size) :
  i∈Region.ready .any ops listed↔p i∈Region.ready .any ops' listed':=by
 have hpi:=(S.into i hi).1
 have ho:ops[i]?=some ops[i]:=by simp
 rw[zbE,zbE,zb0 (by omega),zb0 (by omega),hl i hi,S.size]
 constructor
 .rintro⟨_,h3,o,ho',h4⟩
  rw[ho]at ho'
  injection ho' with ho'
  subst ho'
  refine⟨hpi,h3,_,S.get i _ ho,fun e he hb=>?_⟩
  have he:e∈(ops[i].after.map fun e=>({ e with on:=p e.on }:Edge)).toList:=he
  rw[zO]at he
  obtain⟨e0,he0,rfl⟩:=List.mem_map.1 he
  have:=h4 e0 he0 (by simpa [Region.binds]using hb)
  rw[hl e0.on (S.edge i _ ho e0 he0)]at this
  exact this
 .rintro⟨_,h3,o,ho',h4⟩
  rw[S.get i _ ho]at ho'
  injection ho' with ho'
  subst ho'
  refine⟨hi,h3,_,ho,fun e he hb=>?_⟩
  rw[hl e.on (S.edge i _ ho e he)]
  have hm:({ e with on:=p e.on }:Edge)∈(ren_ p ops[i]).after.toList:=by
   show _∈(ops[i].after.map fun e=>({ e with on:=p e.on }:Edge)).toList
   rw[zO]
   exact List.mem_map.2 ⟨e,he,rfl⟩
  exact h4 _ hm (by simpa [Region.binds]using hb)
theorem Moved.wp{P:Program}{ops ops':Array Oper}{p q:Nat→Nat}(S:Moved ops ops' p q){F:Fence}{n:Nat}{Q:Exit→Act→World→Prop}:∀(fuel:Nat) (listed listed':Array Bool) (a:Act) (w:World),listed.size=ops.size→listed'.size=ops.size→(∀i,i<ops.size→lst listed i=lst listed' (p i))→
  wpAnyIn F n P .any ops' Q fuel listed' a w→wpAnyIn F n P .any ops Q fuel listed a w:=by
 intro fuel
 induction fuel with
 | zero=>
  intro listed listed' a w h1 h2 hl ⟨h3,h4⟩
  refine⟨?_,h4⟩
  apply List.eq_nil_iff_forall_not_mem.2
  intro i hi
  have hin:=(zbE.1 hi).1
  rw[S.ready h1 h2 hl hin,h3]at hi
  cases hi
 | succ fuel ih=>
  intro listed listed' a w h1 h2 hl ⟨h3,h4⟩
  refine⟨fun h0=>h3 ?_,fun i hi=>?_⟩
  .apply List.eq_nil_iff_forall_not_mem.2
   intro k hk
   have hkn:k<ops.size:=by have:=(zbE.1 hk).1;rw[S.size]at this;exact this
   obtain⟨hq,hpq⟩:=S.back k hkn
   rw[←hpq,←S.ready h1 h2 hl hq,h0]at hk
   cases hk
  .have hin:=(zbE.1 hi).1
   have hi':=(S.ready h1 h2 hl hin).1 hi
   have h5:=h4 _ hi'
   have ho:ops[i]?=some ops[i]:=by simp
   have next:∀a w,wpAnyIn F n P .any ops' Q fuel (listed'.setIfInBounds (p i) true) a w→wpAnyIn F n P .any ops Q fuel (listed.setIfInBounds i true) a w:=fun a w h=>by
    refine ih _ _ a w (by simp[h1]) (by simp[h2]) (fun k hk=>?_) h
    rw[zbz _ _ _ (by omega),zbz _ _ _ (by have:=(S.into i hin).1;omega)]
    by_cases hki:k=i
    .subst hki;rw[if_pos rfl,if_pos rfl]
    .rw[if_neg hki,if_neg (fun e=>hki (by rw[←(S.into k hk).2,e,(S.into i hin).2])),hl k hk]
   unfold wpOpIn at h5 ⊢
   rw[S.get i _ ho]at h5
   rw[ho]
   simp only at h5 ⊢
   rw[S.wanted ho]at h5
   split
   .rename_i hwt
    rw[if_pos hwt]at h5
    rw[ren_wp]at h5
    exact Oper.wpIn_mono next h5
   .rename_i hwt
    rw[if_neg hwt]at h5
    rw[ren_about]at h5
    exact⟨h5.1,next _ _ h5.2⟩
theorem same_of{ops:Array Oper}{ord:List Nat}(h:ordOk_ ops.toList ord=true):Moved ops (za0 ops.toList ord).toArray (at_ ord) (fun k=>match ord[k]? with|some j=>j|none=>0):=by
 unfold ordOk_ at h
 simp only[zB]at h
 obtain⟨⟨⟨h1,h2⟩,h3⟩,h4⟩:=h
 have h1:=zF h1
 have h2:=zF h2
 have hn:ops.toList.length=ops.size:=by simp
 have key:∀i,i<ops.size→ord[at_ ord i]?=some i∧∃j,ord[i]?=some j∧at_ ord j=i∧j<ops.size:=fun i hi=>by
  have h5:=List.all_eq_true.1 h3 i (by simpa using hi)
  rw[zB]at h5
  obtain⟨h5,h6⟩:=h5
  constructor
  .cases hq:ord[at_ ord i]? with
   | none=>rw[hq]at h5;cases h5
   | some j=>rw[hq]at h5;rw[zF h5]
  .cases hq:ord[i]? with
   | none=>rw[hq]at h6;cases h6
   | some j=>
    rw[hq]at h6
    simp only[zB]at h6
    refine⟨j,rfl,zF h6.1,?_⟩
    have:=zE h6.2
    rw[hn]at this
    exact this
 have allo:∀x∈ord,∃y,(match ops.toList[x]? with|some o=>some (ren_ (at_ ord) o)|none=>none)=some y:=fun x hx=>by
  obtain⟨k,hk,hkx⟩:=List.mem_iff_getElem.1 hx
  obtain⟨_,j,hj,_,hjn⟩:=key k (by omega)
  have:j=x:=by
   rw[List.getElem?_eq_getElem hk]at hj
   injection hj with hj
   rw[←hj];exact hkx
  subst this
  have:ops.toList[j]?=some ops[j]:=by simp[hjn]
  rw[this]
  exact⟨_,rfl⟩
 refine⟨by show(za0 ops.toList ord).length=_;rw[h1,hn],fun i hi=>?_,fun k hk=>?_,fun i o ho=>?_,fun i o ho e he=>?_,fun i o j w ho hgd=>?_⟩
 .obtain⟨h5,_⟩:=key i hi
  have:=(List.getElem?_eq_some_iff.1 h5).1
  refine⟨by omega,?_⟩
  rw[h5]
 .obtain⟨_,j,hj,h5,h6⟩:=key k hk
  rw[hj]
  exact⟨h6,h5⟩
 .have hi:=(Array.getElem?_eq_some_iff.1 ho).1
  obtain⟨h5,_⟩:=key i hi
  rw[List.getElem?_toArray]
  refine(filterMap_get allo (at_ ord i)).trans ?_
  rw[h5]
  simp only[zU]
  have:ops.toList[i]?=some o:=by simpa using ho
  rw[this]
 .have h5:=List.all_eq_true.1 h4 o (List.mem_of_getElem? (i:=i) (by simpa using ho))
  rw[zB]at h5
  have h6:=zE (List.all_eq_true.1 h5.1 e he)
  rw[hn]at h6
  exact h6
 .have h5:=List.all_eq_true.1 h4 o (List.mem_of_getElem? (i:=i) (by simpa using ho))
  rw[zB]at h5
  have h6:=h5.2
  rw[hgd]at h6
  have h6:=zE h6
  rw[hn]at h6
  exact h6
section
variable {P:Program} {eqs:List TypeId} (hp:P.types.size<4000) (hs:∀t∈eqs,P.stoodInHeld t=false) (hg:∀t∈eqs,P.eqGuardType P.depth t=false) (hmix:P.follows .mixedOrders=true)
include hp hs hg hmix
theorem draws_wp{call:FuncId→List Value→Hp→Option (Value×Hp)}(hcall:zbx P call P.globals.size)(ops:Array Oper){r:Option Nat}{n:Nat}{Q:Exit→Act→World→Prop}{β:Bt}{a:Fr}{a':Act}{h:Hp}{w:World}{e:Ex}{a2:Fr}{h2:Hp}
  (hF:FR β a a') (hgl:a.gl=P.globals.size) (H:HR P β h w) (hr:draws_ (Env.of P eqs) call ops.toList a h=.ok e a2 h2)
  (hq:∀β2 a2' w2,HR P β2 h2 w2→St β h w β2 h2 w2→FR β2 a2 a2'→a2.gl=P.globals.size→Q .normal a2' w2) (id:Nat):(Code.region id ops true).wpIn (Fz r) n P Q a' w:=by
 unfold draws_ at hr
 simp only at hr
 refine wpIn_region_any hmix ?_
 cases hd:zaT (Env.of P eqs) false ops.toList (anc_ ops.toList [])with
 | true=>
  rw[hd,cond_true]at hr
  exact draws1_wp hp hs hg hcall ops rfl hd (fun h=>by cases h) hF hgl H hr hq
 | false=>
  rw[hd,cond_false]at hr
  cases hdt:zaT (Env.of P eqs) true ops.toList (anc_ ops.toList [])&&zbl (Env.of P eqs) ops.toList (anc_ ops.toList [])with
  | true=>
   rw[hdt,cond_true]at hr
   rw[zB]at hdt
   exact draws1_wp hp hs hg hcall ops rfl hdt.1 (fun _=>hdt.2) hF hgl H hr hq
  | false=>
  rw[hdt,cond_false]at hr
  generalize late_ ops.toList ops.toList.zipIdx []=ord at hr
  cases ho:ordOk_ ops.toList ord with
  | false=>rw[ho]at hr;cases hr
  | true=>
   rw[ho,cond_true]at hr
   have S:=same_of ho
   unfold draws2_ at hr
   cases hdl:zaT (Env.of P eqs) true (za0 ops.toList ord) (anc_ (za0 ops.toList ord) [])&&zbl (Env.of P eqs) (za0 ops.toList ord) (anc_ (za0 ops.toList ord) [])with
   | false=>rw[hdl]at hr;cases hr
   | true=>
    rw[hdl,cond_true]at hr
    rw[zB]at hdl
    have h1:=draws1_wp (r:=r) (n:=n) hp hs hg hcall (za0 ops.toList ord).toArray (an:=anc_ (za0 ops.toList ord) []) rfl hdl.1 (fun _=>hdl.2) hF hgl H hr hq
    rw[S.size]at h1
    refine S.wp ops.size _ _ a' _ (by simp) (by simp) (fun i hi=>?_) h1
    have:∀e,lst (zH ops.size false) e=false:=fun e=>by unfold lst;simp[Array.getD_eq_getD_getElem?,Array.getElem?_replicate];split<;>rfl
    rw[this,this]
end
def toExit:Ex→Exit
 | .normal=>.normal
 | .exit id=>.exit id
 | .ret=>.ret
def zb8(sp:Sp):FuncId→List Value→Hp→Option (Value×Hp):=fun f args h=>match sp f with|some g=>g args h|none=>none
theorem zcL{E:Env}{call:FuncId→List Value→Hp→Option (Value×Hp)}{m:Bool}{all:List Oper}{an:List Nat}{a:Fr}{h:Hp}{e:Ex}{a2:Fr}{h2:Hp}(hr:zb3 E call m all an a h=.ok e a2 h2):e=.normal:=by
 unfold zb3 at hr
 cases ht:zbt E call all all a h with
 | none=>rw[ht]at hr;cases hr
 | some q=>
  obtain⟨tr,aN,hN⟩:=q
  rw[ht]at hr
  simp only at hr
  cases hrd:(zbD E m all an tr hN&&(bif m then ups_ tr hN else true))with
  | false=>rw[hrd]at hr;cases hr
  | true=>
   rw[hrd,cond_true]at hr
   simp only[Rs.ok.injEq]at hr
   exact hr.1.symm
theorem draws_normal{E:Env}{call:FuncId→List Value→Hp→Option (Value×Hp)}{all:List Oper}{a:Fr}{h:Hp}{e:Ex}{a2:Fr}{h2:Hp}(hr:draws_ E call all a h=.ok e a2 h2):e=.normal:=by
 unfold draws_ at hr
 simp only at hr
 cases hd:zaT E false all (anc_ all [])with
 | true=>rw[hd,cond_true]at hr;exact zcL hr
 | false=>
  rw[hd,cond_false]at hr
  cases hdt:zaT E true all (anc_ all [])&&zbl E all (anc_ all [])with
  | true=>rw[hdt,cond_true]at hr;exact zcL hr
  | false=>
  rw[hdt,cond_false]at hr
  generalize late_ all all.zipIdx []=ord at hr
  cases ho:ordOk_ all ord with
  | false=>rw[ho]at hr;cases hr
  | true=>
   rw[ho,cond_true]at hr
   unfold draws2_ at hr
   cases hdl:zaT E true (za0 all ord) (anc_ (za0 all ord) [])&&zbl E (za0 all ord) (anc_ (za0 all ord) [])with
   | false=>rw[hdl]at hr;cases hr
   | true=>rw[hdl,cond_true]at hr;exact zcL hr
theorem ofArgs_get:∀(l:List Value) (k:Nat) (t:Tr Value) (j:Nat),k+l.length<2 ^ 64→(Fr.ofArgs l k t).get j=if k≤j∧j<k+l.length then l[j-k]? else t.get j:=by
 intro l
 induction l with
 | nil=>intro k t j _;simp only[Fr.ofArgs,List.length_nil];rw[if_neg (by omega)]
 | cons x l ih=>
  intro k t j h
  simp only[List.length_cons]at h
  simp only[Fr.ofArgs]
  rw[ih (k+1) _ j (by omega),Tr.get_set _ _ _ _ _ (by omega)]
  simp only[List.length_cons]
  by_cases h1:k+1≤j∧j<k+1+l.length
  .rw[if_pos h1,if_pos (by omega)]
   obtain⟨d,rfl⟩:∃d,j=k+1+d:=⟨j-(k+1),by omega⟩
   rw[show k+1+d-(k+1)=d from by omega,show k+1+d-k=d+1 from by omega]
   rfl
  .rw[if_neg h1]
   by_cases h2:j=k
   .subst h2;rw[if_pos rfl,if_pos (by omega)];simp
   .rw[if_neg h2,if_neg (by omega)]
theorem enter_fr{β:Bt}{args args':List Value}{n gl:Nat}(hl:LR β args args')(hn:args.length≤n)(hm:n≤100000)(hgl:∀g,g<gl→β g=some ⟨g,0,0⟩) :
  FR β ⟨n,gl,Fr.ofArgs args 0 .nil⟩ { tmps:=args'.toArray++zH (n-args'.toArray.size) undef,defers:=[] }:=by
 refine⟨rfl,?_,hm,hgl,fun t=>?_⟩
 .have:=hl.1
  simp
  omega
 .have hlen:=hl.1
  show VR β (match(Fr.ofArgs args 0 .nil).get t with|some v=>v|none=>undef) _
  rw[ofArgs_get _ _ _ _ (by omega)]
  simp only[zQ,true_and,Nat.zero_add,Nat.sub_zero,Array.getD_eq_getD_getElem?]
  by_cases ht:t<args.length
  .rw[if_pos ht,Array.getElem?_append_left (by simpa using hlen▸ht)]
   have h1:=List.getElem?_eq_getElem ht
   obtain⟨y,hy,hR⟩:=hl.get h1
   have:args'.toArray[t]?=some y:=by simpa using hy
   rw[h1,this]
   exact hR
  .rw[if_neg ht,Array.getElem?_append_right (by simp;omega)]
   simp only[Tr.get_nil]
   have:((zH (n-args'.toArray.size) undef)[t-args'.toArray.size]?).getD undef=undef:=by
    rw[Array.getElem?_replicate]
    split<;>rfl
   rw[this]
   exact .undef β
section
variable {P:Program} {eqs:List TypeId} (hp:P.types.size<4000) (hs:∀t∈eqs,P.stoodInHeld t=false) (hg:∀t∈eqs,P.eqGuardType P.depth t=false) (hmix:P.follows .mixedOrders=true)
include hp
theorem results_run{β:Bt}{a:Fr}{a':Act}{h:Hp}{w:World}(hF:FR β a a')(H:HR P β h w):∀ {l:List ResultVar} {r:List Value},zbc (Env.of P eqs) a h l=some r→
  ∃r':List Value,(l.mapM (fun(q:ResultVar)=>(match q with|.tmp t=>pure (a'.tmps.getD t undef)|.cell x t=>do loadVar t (←asAddr (a'.tmps.getD x undef)):Sem Value))).run P w=.ok r' w∧LR β r r':=by
 intro l
 induction l with
 | nil=>intro r hr;simp only[zbc,zA]at hr;subst hr;exact⟨[],rfl,LR.nil β⟩
 | cons x l ih=>
  intro r hr
  cases x with
  | tmp t=>
   simp only[zbc]at hr
   cases hq:zbc (Env.of P eqs) a h l with
   | none=>rw[hq]at hr;cases hr
   | some r2=>
    rw[hq]at hr
    simp only[zA]at hr
    subst hr
    obtain⟨r',h1,h2⟩:=ih hq
    refine⟨a'.tmps.getD t undef::r',?_,LR.cons (hF.tmps t) h2⟩
    rw[List.mapM_cons]
    simp only[Sem.run_bind,Sem.run_pure,Result.andThen_ok,h1]
  | cell x t=>
   simp only[zbc]at hr
   cases ha:addr_ (a.eval (.tmp x))with
   | none=>rw[ha]at hr;cases hr
   | some ad=>
    rw[ha]at hr
    simp only at hr
    cases hv:za8 (Env.of P eqs) h t ad with
    | none=>rw[hv]at hr;cases hr
    | some v=>
     cases hq:zbc (Env.of P eqs) a h l with
     | none=>rw[hv,hq]at hr;cases hr
     | some r2=>
      rw[hv,hq]at hr
      simp only[zA]at hr
      subst hr
      obtain⟨r',h1,h2⟩:=ih hq
      obtain⟨i,_,hi,he⟩:=VR.of_addr ha (hF.eval (.tmp x))
      obtain⟨v',h3,h4⟩:=loadVar_run hp H hv hi
      refine⟨v'::r',?_,LR.cons h4 h2⟩
      rw[List.mapM_cons]
      have he':a'.tmps.getD x undef=.pointer (some ⟨i.blk,i.off+ad.off,none⟩):=he
      have h7:(asAddr (a'.tmps.getD x undef)).run P w=.ok ⟨i.blk,i.off+ad.off,none⟩ w:=by rw[he'];rfl
      simp only[Sem.run_bind,h7,Sem.run_pure,Result.andThen_ok,h3,h1]
theorem result_run{β:Bt}{a:Fr}{a':Act}{h:Hp}{w:World}(hF:FR β a a')(H:HR P β h w){fn:Func}{v:Value}(hr:zcF (Env.of P eqs) a h fn.results.toList=some v) :
  ∃v',(results fn a'.tmps).run P w=.ok v' w∧VR β v v':=by
 unfold zcF at hr
 cases hq:zbc (Env.of P eqs) a h fn.results.toList with
 | none=>rw[hq]at hr;cases hr
 | some r=>
  obtain⟨r',h1,h2⟩:=results_run hp hF H hq
  rw[hq]at hr
  unfold results
  simp only[Array.mapM_eq_mapM_toList,Sem.run_bind,Sem.run_map]
  erw [h1]
  simp only[Result.andThen_ok,Sem.run_pure]
  have hlen:=h2.1
  split at hr
  .rename_i x heq
   injection heq with heq
   subst heq
   injection hr with hr
   subst hr
   match r',h2,hlen with
   | [y],h2,_=>exact⟨y,rfl,h2.head⟩
  .rename_i vs hne heq
   injection heq with heq
   subst heq
   injection hr with hr
   subst hr
   refine⟨.tuple r'.toArray,?_,VR.of_tuple h2⟩
   have:r'.toArray.size≠1:=by
    intro h1
    have h3:r'.length=1:=by simpa using h1
    have h4:r.length=1:=by omega
    match r,h4,hne with
    | [x],_,hne=>exact hne x rfl
   rw[dif_neg this]
  .rename_i heq;cases heq
include hs hg hmix
theorem run_sound(hf:P.funcs.size<4000)(hname:∀(f:FuncId) (fn:Func),P.funcs[f]?=some fn→(fn.name== "runtime.NumGoroutine")=false) {sp:Sp} (hsp:zbx P (zb8 sp) P.globals.size):∀n,
  (∀c a h e a2 h2,zae (Env.of P eqs) sp n (.inl c) a h=.ok e a2 h2→∀β a' w Q,FR β a a'→a.gl=P.globals.size→HR P β h w→
   (∀β2 a2' w2,HR P β2 h2 w2→St β h w β2 h2 w2→FR β2 a2 a2'→a2.gl=P.globals.size→Q (toExit e) a2' w2)→c.wp P Q a' w)∧
  (∀x a h e a2 h2,zae (Env.of P eqs) sp n (.inl (.loop x)) a h=.ok e a2 h2→∀β a' w Q,FR β a a'→a.gl=P.globals.size→HR P β h w→
   (∀β2 a2' w2,HR P β2 h2 w2→St β h w β2 h2 w2→FR β2 a2 a2'→a2.gl=P.globals.size→Q (toExit e) a2' w2)→Code.rounds P x Q n a' w)∧
  (∀f args a h e r h2,zae (Env.of P eqs) sp n (.inr (f,args)) a h=.ok e r h2→∀β args' w,LR β args args'→HR P β h w→(∀g,g<P.globals.size→β g=some ⟨g,0,0⟩)→
   (∃fn c,P.funcs[f]?=some fn∧fn.body=some c)∧Calls P f args'.toArray w fun en w2=>∃v' β2,en=.returned v'∧HR P β2 h2 w2∧St β h w β2 h2 w2∧VR β2 (r.eval (.tmp 0)) v'):=by
 intro n
 induction n with
 | zero=>exact⟨fun c a h e a2 h2 hr=>by simp[zae]at hr,fun x a h e a2 h2 hr=>by simp[zae]at hr,fun f args a h e r h2 hr=>by simp[zae]at hr⟩
 | succ n ih=>
  obtain⟨ihc,ihl,ihf⟩:=ih
  have loop:∀x a h e a2 h2,zae (Env.of P eqs) sp (n+1) (.inl (.loop x)) a h=.ok e a2 h2→∀β a' w Q,FR β a a'→a.gl=P.globals.size→HR P β h w→
    (∀β2 a2' w2,HR P β2 h2 w2→St β h w β2 h2 w2→FR β2 a2 a2'→a2.gl=P.globals.size→Q (toExit e) a2' w2)→Code.rounds P x Q (n+1) a' w:=by
   intro x a h e a2 h2 hr β a' w Q hF hgl H hq
   simp only[zae]at hr
   rw[rounds_succ]
   cases h1:zae (Env.of P eqs) sp n (.inl x) a h with
   | bad=>rw[h1]at hr;cases hr
   | ok e1 a1 h3=>
    rw[h1]at hr
    cases e1 with
    | normal=>
     simp only at hr
     exact ihc x a h _ a1 h3 h1 β a' w _ hF hgl H fun β1 a1' w1 H1 S1 F1 g1=>ihl x a1 h3 e a2 h2 hr β1 a1' w1 Q F1 g1 H1 fun β2 a2' w2 H2 S2 F2 g2=>hq β2 a2' w2 H2 (S1.trans S2) F2 g2
    | exit id=>
     simp only[Rs.ok.injEq]at hr
     obtain⟨rfl,rfl,rfl⟩:=hr
     exact ihc x a h _ a1 h3 h1 β a' w _ hF hgl H hq
    | ret=>
     simp only[Rs.ok.injEq]at hr
     obtain⟨rfl,rfl,rfl⟩:=hr
     exact ihc x a h _ a1 h3 h1 β a' w _ hF hgl H hq
  have callOk:zbx P (fun f args h=>match sp f with|some g=>g args h|none=>match zae (Env.of P eqs) sp n (.inr (f,args)) ⟨0,0,.nil⟩ h with|.ok _ r h=>some (r.eval (.tmp 0),h)|.bad=>none) P.globals.size:=by
   intro f args args' h h2 v β w hc hl H hgb
   cases hsf:sp f with
   | some g=>
    simp only[hsf]at hc
    exact hsp f args args' h h2 v β w (by unfold zb8;rw[hsf];exact hc) hl H hgb
   | none=>
    simp only[hsf]at hc
    cases hr:zae (Env.of P eqs) sp n (.inr (f,args)) ⟨0,0,.nil⟩ h with
    | bad=>rw[hr]at hc;cases hc
    | ok e r h3=>
     rw[hr]at hc
     simp only[zA,zC]at hc
     obtain⟨rfl,rfl⟩:=hc
     obtain⟨⟨fn,c,hfn,hb⟩,hcalls⟩:=ihf f args _ h e r h3 hr β args' w hl H hgb
     have hrun:(callFunc f args'.toArray).run P w=.ok (.enter f args'.toArray) w:=by
      have hnm:=hname f fn hfn
      simp only[callFunc,Sem.run_bind,run_program,Result.andThen_ok,hfn,hnm,zV,if_false,hb,Option.isNone_some,Sem.run_pure]
     exact .inr ⟨f,args'.toArray,hrun,hcalls⟩
  refine⟨?_,loop,?_⟩
  .intro c a h e a2 h2 hr β a' w Q hF hgl H hq
   cases c with
   | skip=>
    simp only[zae,Rs.ok.injEq]at hr
    obtain⟨rfl,rfl,rfl⟩:=hr
    exact wp_skip (hq β a' w H (.refl _ _ _) hF hgl)
   | label l=>
    simp only[zae,Rs.ok.injEq]at hr
    obtain⟨rfl,rfl,rfl⟩:=hr
    exact wp_label (hq β a' w H (.refl _ _ _) hF hgl)
   | exit id=>
    simp only[zae,Rs.ok.injEq]at hr
    obtain⟨rfl,rfl,rfl⟩:=hr
    exact wp_exit (hq β a' w H (.refl _ _ _) hF hgl)
   | ret=>
    simp only[zae,Rs.ok.injEq]at hr
    obtain⟨rfl,rfl,rfl⟩:=hr
    exact wp_ret (hq β a' w H (.refl _ _ _) hF hgl)
   | seq x y=>
    simp only[zae]at hr
    refine wp_seq ?_
    cases h1:zae (Env.of P eqs) sp n (.inl x) a h with
    | bad=>rw[h1]at hr;cases hr
    | ok e1 a1 h3=>
     rw[h1]at hr
     cases e1 with
     | normal=>
      simp only at hr
      exact ihc x a h _ a1 h3 h1 β a' w _ hF hgl H fun β1 a1' w1 H1 S1 F1 g1=>ihc y a1 h3 e a2 h2 hr β1 a1' w1 Q F1 g1 H1 fun β2 a2' w2 H2 S2 F2 g2=>hq β2 a2' w2 H2 (S1.trans S2) F2 g2
     | exit id=>
      simp only[Rs.ok.injEq]at hr
      obtain⟨rfl,rfl,rfl⟩:=hr
      exact ihc x a h _ a1 h3 h1 β a' w _ hF hgl H hq
     | ret=>
      simp only[Rs.ok.injEq]at hr
      obtain⟨rfl,rfl,rfl⟩:=hr
      exact ihc x a h _ a1 h3 h1 β a' w _ hF hgl H hq
   | cond x y z=>
    simp only[zae]at hr
    split at hr
    .rename_i hx
     have:=hF.eval x
     rw[hx]at this
     exact wp_cond_true this.bool_inv (ihc y a h e a2 h2 hr β a' w Q hF hgl H hq)
    .rename_i hx
     have:=hF.eval x
     rw[hx]at this
     exact wp_cond_false this.bool_inv (ihc z a h e a2 h2 hr β a' w Q hF hgl H hq)
    .cases hr
   | block id x=>
    simp only[zae]at hr
    refine wp_block ?_
    cases h1:zae (Env.of P eqs) sp n (.inl x) a h with
    | bad=>rw[h1]at hr;cases hr
    | ok e1 a1 h3=>
     rw[h1]at hr
     cases e1 with
     | normal=>
      simp only[Rs.ok.injEq]at hr
      obtain⟨rfl,rfl,rfl⟩:=hr
      exact ihc x a h _ a1 h3 h1 β a' w _ hF hgl H hq
     | ret=>
      simp only[Rs.ok.injEq]at hr
      obtain⟨rfl,rfl,rfl⟩:=hr
      exact ihc x a h _ a1 h3 h1 β a' w _ hF hgl H hq
     | exit id'=>
      simp only at hr
      refine ihc x a h _ a1 h3 h1 β a' w _ hF hgl H fun β2 a2' w2 H2 S2 F2 g2=>?_
      cases hb:zJ id' id with
      | true=>
       rw[hb,cond_true]at hr
       simp only[Rs.ok.injEq]at hr
       obtain⟨rfl,rfl,rfl⟩:=hr
       have:=zF hb
       simp only[toExit,Exit.inBlock,this,if_true]
       exact hq β2 a2' w2 H2 S2 F2 g2
      | false=>
       rw[hb,cond_false]at hr
       simp only[Rs.ok.injEq]at hr
       obtain⟨rfl,rfl,rfl⟩:=hr
       have hne:¬id'=id:=fun e=>by subst e;rw[Nat.beq_refl]at hb;cases hb
       simp only[toExit,Exit.inBlock,hne,if_false]
       exact hq β2 a2' w2 H2 S2 F2 g2
   | loop x=>exact wp_loop_rounds (n+1) (loop x a h e a2 h2 hr β a' w Q hF hgl H hq)
   | region id ops draw=>
    simp only[zae]at hr
    have hgn:∀a3:Fr,zae (Env.of P eqs) sp n=zae (Env.of P eqs) sp n:=fun _=>rfl
    have callOk':zbx P (fun f args h=>match sp f with|some g=>g args h|none=>match zae (Env.of P eqs) sp n (.inr (f,args)) a h with|.ok _ r h=>some (r.eval (.tmp 0),h)|.bad=>none) P.globals.size:=by
     have hsame:∀f args h,zae (Env.of P eqs) sp n (.inr (f,args)) a h=zae (Env.of P eqs) sp n (.inr (f,args)) ⟨0,0,.nil⟩ h:=by
      intro f args h
      cases n<;>rfl
     have:(fun f args h=>match sp f with|some g=>g args h|none=>match zae (Env.of P eqs) sp n (.inr (f,args)) a h with|.ok _ r h=>some (r.eval (.tmp 0),h)|.bad=>none) =
       (fun f args h=>match sp f with|some g=>g args h|none=>match zae (Env.of P eqs) sp n (.inr (f,args)) ⟨0,0,.nil⟩ h with|.ok _ r h=>some (r.eval (.tmp 0),h)|.bad=>none):=by
      funext f args h
      rw[hsame]
     rw[this]
     exact callOk
    cases draw with
    | false=>
     simp only at hr
     obtain⟨he,hw⟩:=ops_wp (r:=none) (n:=3) hp hs hg callOk' ops (Q:=Q) ops.toList 0 (fun j=>by simp) hF hgl H hr (fun β2 a2' w2 H2 S2 F2 g2=>by
      have he:e=.normal:=by
       have:=ops_wp (r:=none) (n:=3) hp hs hg callOk' ops (Q:=fun _ _ _=>True) ops.toList 0 (fun j=>by simp) hF hgl H hr (fun _ _ _ _ _ _ _=>trivial)
       exact this.1
      have:=hq β2 a2' w2 H2 S2 F2 g2
      rw[he]at this
      exact this)
     refine wpIn_wide.1 (wpIn_region (n:=3) ?_)
     show wpOpsIn (Fz none) 3 P ops Q (List.range ops.size) a' w
     rw[List.range_eq_range']
     simpa using hw
    | true=>
     simp only at hr
     have he:e=.normal:=by
      exact draws_normal hr
     subst he
     exact wpIn_wide.1 (draws_wp (r:=none) (n:=3) hp hs hg hmix callOk' ops hF hgl H hr hq id)
   | _=>simp[zae]at hr
  .intro f args a h e r h2 hr β args' w hl H hgb
   simp only[zae]at hr
   cases hfn:(Env.of P eqs).funcs.get f with
   | none=>rw[hfn]at hr;cases hr
   | some fn=>
    rw[hfn]at hr
    simp only at hr
    have hfn':=env_func hf hfn
    cases hb:fn.body with
    | none=>rw[hb]at hr;cases hr
    | some c=>
     cases hle:(zD args.length fn.ntmps&&zD fn.ntmps 100000)with
     | false=>rw[hb,hle]at hr;cases hr
     | true=>
      rw[hb,hle]at hr
      simp only at hr
      obtain⟨hle1,hle2⟩:=Bool.and_eq_true_iff.1 hle
      refine⟨⟨fn,c,hfn',hb⟩,calls_of_wp hfn' hb ?_⟩
      have hF:=enter_fr hl (zE hle1) (zE hle2) hgb
      cases h1:zae (Env.of P eqs) sp n (.inl c) ⟨fn.ntmps,(Env.of P eqs).gl,Fr.ofArgs args 0 .nil⟩ h with
      | bad=>rw[h1]at hr;cases hr
      | ok e1 a1 h3=>
       rw[h1]at hr
       have fin:∀ex:Exit,(ex=.normal∨ex=.ret)→(match zcF (Env.of P eqs) a1 h3 fn.results.toList with|some v=>Rs.ok .ret ⟨1,0,.node (some v) .nil .nil⟩ h3|none=>.bad)=.ok e r h2→
         ∀β2 a2' w2,HR P β2 h3 w2→St β h w β2 h3 w2→FR β2 a1 a2'→bodyPost P fn (fun en w2=>∃v' β2,en=.returned v'∧HR P β2 h2 w2∧St β h w β2 h2 w2∧VR β2 (r.eval (.tmp 0)) v') ex a2' w2:=by
        intro ex hex hr2 β2 a2' w2 H2 S2 F2
        cases hv:zcF (Env.of P eqs) a1 h3 fn.results.toList with
        | none=>rw[hv]at hr2;cases hr2
        | some v=>
         rw[hv]at hr2
         simp only[Rs.ok.injEq]at hr2
         obtain⟨rfl,rfl,rfl⟩:=hr2
         obtain⟨v',h5,h6⟩:=result_run hp F2 H2 hv
         rcases hex with rfl|rfl
         .exact⟨F2.defers,v',h5,v',β2,rfl,H2,S2,h6⟩
         .exact⟨F2.defers,v',h5,v',β2,rfl,H2,S2,h6⟩
       cases e1 with
       | exit id=>cases hr
       | normal=>exact ihc c _ h _ a1 h3 h1 β _ w _ hF rfl H fun β2 a2' w2 H2 S2 F2 _=>fin .normal (.inl rfl) hr β2 a2' w2 H2 S2 F2
       | ret=>exact ihc c _ h _ a1 h3 h1 β _ w _ hF rfl H fun β2 a2' w2 H2 S2 F2 _=>fin .ret (.inr rfl) hr β2 a2' w2 H2 S2 F2
end
def globB(n:Nat):Bt:=fun b=>if b<n then some ⟨b,0,0⟩else none
theorem glob_hr{P:Program}{w:World}{n:Nat}(hn:n≤9223372036854775808):HR P (globB n) ⟨n,.nil⟩ w:=by
 refine⟨hn,fun b i h=>?_,fun b x h=>?_,fun b x i h=>?_,fun b b' i i' x y h=>?_⟩
 .unfold globB at h
  split at h
  .assumption
  .cases h
 .cases h
 .cases h
 .cases h
theorem glob_st{w w':World}{n:Nat}{β:Bt}{h:Hp}(s:St (globB n) ⟨n,.nil⟩ w β h w'):Below w.heap.size w w':=
 ⟨s.os,s.tape,s.output,s.size,fun k hk=>s.keep k hk (by rintro⟨b,i,x,h,_⟩;cases h)⟩
section
variable {P:Program} {eqs:List TypeId} (hp:P.types.size<4000) (hs:∀t∈eqs,P.stoodInHeld t=false) (hg:∀t∈eqs,P.eqGuardType P.depth t=false) (hmix:P.follows .mixedOrders=true)
 (hf:P.funcs.size<4000) (hname:∀(f:FuncId) (fn:Func),P.funcs[f]?=some fn→(fn.name== "runtime.NumGoroutine")=false) {sp:Sp} (hsp:zbx P (zb8 sp) P.globals.size)
include hp hs hg hmix hf hname hsp
theorem zck{n:Nat}{f:FuncId}{args:List Value}{h h2:Hp}{v:Value}(hr:zb6 (Env.of P eqs) sp n f args h=some (v,h2)){β:Bt}{args':List Value}{w:World}(hl:LR β args args')(H:HR P β h w)(hgb:∀g,g<P.globals.size→β g=some ⟨g,0,0⟩) :
  Calls P f args'.toArray w fun en w2=>∃v' β2,en=.returned v'∧HR P β2 h2 w2∧St β h w β2 h2 w2∧VR β2 v v':=by
 unfold zb6 at hr
 cases h1:zae (Env.of P eqs) sp n (.inr (f,args)) ⟨0,0,.nil⟩ h with
 | bad=>rw[h1]at hr;cases hr
 | ok e r h3=>
  rw[h1]at hr
  simp only[zA,zC]at hr
  obtain⟨rfl,rfl⟩:=hr
  exact((run_sound hp hs hg hmix hf hname hsp n).2.2 f args _ h e r h3 h1 β args' w hl H hgb).2
theorem closed_calls{n:Nat}{f:FuncId}{h2:Hp}(hn:P.globals.size≤9223372036854775808)(hr:zb6 (Env.of P eqs) sp n f [] ⟨P.globals.size,.nil⟩=some (.bool true,h2))(w:World) :
  Calls P f #[] w fun e w'=>e=.returned (.bool true)∧Below w.heap.size w w':=by
 refine(zck hp hs hg hmix hf hname hsp hr (β:=globB P.globals.size) (LR.nil _) (glob_hr hn) (fun g hg=>if_pos hg)).mono ?_
 rintro en w2 ⟨v',β2,rfl,_,S,hR⟩
 exact⟨by rw[hR.bool_inv],glob_st S⟩
end
def saysTrue:Option (Value×Hp)→Bool
 | some (.bool true,_)=>true
 | _=>false
theorem saysTrue_some{r:Option (Value×Hp)}(h:saysTrue r=true):∃h2,r=some (.bool true,h2):=by
 unfold saysTrue at h
 split at h
 .exact⟨_,rfl⟩
 .cases h
end Go.Proofs.YtponjccgpbgnoaaGreatDoor
