/- Regions whose order is open: in whatever order, as the evaluator says. -/
import Derived.Test.YtponjccgpbgnoaaGreatDoorAbK
set_option linter.unusedVariables false
set_option linter.unusedSimpArgs false
set_option linter.unusedSectionVars false
open Option.some renaming injEq→zA
open Prod.mk renaming injEq→zB
open Bool renaming and_eq_true→zC,not_true→zG,or_eq_true→zK,false_or→zM,or_eq_false_iff→yA
open Nat renaming eq_of_beq_eq_true→zD,blt→zE,testBit→zF,beq→zH,testBit_or→zJ,le_of_ble_eq_true→zL,ble_eq_true_of_le→zO,beq_refl→zP,le_refl→zQ,lt_of_lt_of_le→zR,lt_succ_self→zS,testBit_two_pow→zY
open Array renaming ext'→zI,mem_append→zT,map_congr_left→zW
open List renaming map_congr_left→zN,foldl_cons→zU,all_eq_true→zV,mem_cons_self→zZ
namespace Go.Proofs.YtponjccgpbgnoaaGreatDoor
open Go Go.RowKit
theorem bounds_map{x:Option Operand}{ρ ρ2:Operand→Value}(h:∀y∈x.toArray,ρ y=ρ2 y):x.map ρ=x.map ρ2:=by
 cases x with
 | none=>rfl
 | some x=>simp only[Option.map_some];rw[h x (by simp)]
theorem aop_congr{E:Env}{ρ ρ2:Operand→Value}{op:Op}{h:Hp}(hc:∀x∈op.operands,ρ x=ρ2 x):aop E ρ op h=aop E ρ2 op h:=by
 have pairs:∀ps:Array (Nat×Operand),(∀x∈(ps.toList.map (·.2)).toArray,ρ x=ρ2 x)→(ps.toList.map fun p=>(p.1,ρ p.2))=(ps.toList.map fun p=>(p.1,ρ2 p.2)):=fun ps hp=>
  zN fun p hm=>by rw[hp p.2 (by simpa using⟨p.1,by simpa using hm⟩)]
 cases op<;>simp only[Op.operands]at hc<;>simp only[aop]
 case build t ps=>rw[pairs ps hc]
 case buildSlice t n ps=>rw[pairs ps hc]
 case makeFunc fn first captured=>
  rw[zW (xs:=first) fun x hx=>hc x (by simp[hx]),zW (xs:=captured) fun x hx=>hc x (by simp[hx])]
 case slice t x lo hi mx=>
  rw[hc x (by simp),bounds_map (x:=lo) fun y hy=>hc y (by simp only[zT];exact .inl (.inl (.inr hy))),bounds_map (x:=hi) fun y hy=>hc y (by simp only[zT];exact .inl (.inr hy)),bounds_map (x:=mx) fun y hy=>hc y (by simp only[zT];exact .inr hy)]
 case makeMap t r=>cases r<;>rfl
 case call c=>
  obtain⟨callee,args,argTypes⟩:=c
  cases callee with
  | value f=>rfl
  | invoke r m=>rfl
  | builtin b=>
   have ha:∀x∈args.toList,ρ x=ρ2 x:=fun x hx=>hc x (by simp[Call.operands];simpa using hx)
   simp only
   split
   .rename_i x t hargs _;rw[ha x (by rw[hargs];simp)]
   .rename_i s x t u hargs _;rw[ha s (by rw[hargs];simp),ha x (by rw[hargs];simp)]
   .rename_i d s t r hargs _;rw[ha d (by rw[hargs];simp),ha s (by rw[hargs];simp)]
   .rename_i x t r hargs _;rw[ha x (by rw[hargs];simp)]
   .rename_i x hargs;rw[ha x (by rw[hargs];simp)]
   .rename_i x n t u hargs _;rw[ha x (by rw[hargs];simp),ha n (by rw[hargs];simp)]
   .rename_i x l hargs;rw[ha x (by rw[hargs];simp),zN (l:=l) fun y hy=>ha y (by rw[hargs];simp[hy])]
   .rename_i x l hargs;rw[ha x (by rw[hargs];simp),zN (l:=l) fun y hy=>ha y (by rw[hargs];simp[hy])]
   .rfl
 all_goals (first|rfl|(simp at hc;simp only[hc];done)|(simp at hc;simp[hc];done))
theorem oneOp_congr{E:Env}{call:FuncId→List Value→Hp→Option (Value×Hp)}{ρ ρ2:Operand→Value}{op:Op}{h:Hp}(hc:∀x∈op.operands,ρ x=ρ2 x):oneOp E call ρ op h=oneOp E call ρ2 op h:=by
 unfold oneOp
 split
 .rename_i c
  obtain⟨callee,args,argTypes⟩:=c
  cases callee with
  | value f=>
   have h1:ρ f=ρ2 f:=hc f (by simp[Op.operands,Call.operands])
   have h2:args.toList.map ρ=args.toList.map ρ2:=zN fun x hx=>hc x (by simp[Op.operands,Call.operands];right;simpa using hx)
   simp only[zcn,h1,h2]
  | invoke r m=>
   have h1:ρ r=ρ2 r:=hc r (by simp[Op.operands,Call.operands])
   have h2:args.toList.map ρ=args.toList.map ρ2:=zN fun x hx=>hc x (by simp[Op.operands,Call.operands];right;simpa using hx)
   simp only[zcn,h1,h2]
  | builtin b=>exact aop_congr hc
 .exact aop_congr hc
theorem conv_pure{E:Env}{s d:TypeId}{x v:Value}{h h':Hp}{k:IntKind}(hd:E.under d=some (.int k))(hc:conv_ E s d x h=some (v,h')):h'=h∧∀h2,conv_ E s d x h2=some (v,h2):=by
 unfold conv_ at hc
 simp only[hd]at hc
 split at hc
 .rename_i ds q k' n hs hd2
  injection hd2 with hd2
  injection hd2 with hd2
  subst hd2
  simp only[zA,zB]at hc
  obtain⟨rfl,rfl⟩:=hc
  refine⟨rfl,fun h2=>?_⟩
  unfold conv_
  rw[hs,hd]
 .rename_i ds q n hs hd2
  injection hd2 with hd2
  injection hd2 with hd2
  subst hd2
  simp only[zA,zB]at hc
  obtain⟨rfl,rfl⟩:=hc
  refine⟨rfl,fun h2=>?_⟩
  unfold conv_
  rw[hs,hd]
  rfl
 all_goals (first|(cases hc;done)|(rename_i hd2;cases hd2;done)|(rename_i hs hd2;cases hd2;done))
theorem kind0{E:Env}{ρ:Operand→Value}{op:Op}{v:Value}{h h':Hp}(hk:kind_ E op=0)(ha:aop E ρ op h=some (v,h')):h'=h∧∀h2,aop E ρ op h2=some (v,h2):=by
 have plain:∀ {x:Option Value} {h2:Hp} {u:Value} {h:Hp},(match x with|some x=>some (x,h)|none=>none)=some (u,h2)→x=some u∧h2=h:=by
  intro x h2 u h e
  cases x with
  | none=>cases e
  | some x=>simp only[zA,zB]at e;exact⟨by rw[e.1],e.2.symm⟩
 cases op<;>simp only[kind_]at hk<;>try (exact absurd hk (by decide))
 case move x=>simp only[aop,zA,zB]at ha ⊢;exact⟨ha.2.symm,fun h2=>⟨ha.1,by trivial⟩⟩
 case assign x=>simp only[aop,zA,zB]at ha ⊢;exact⟨ha.2.symm,fun h2=>⟨ha.1,by trivial⟩⟩
 case makeFunc fn a b=>simp only[aop,zA,zB]at ha ⊢;exact⟨ha.2.symm,fun h2=>⟨ha.1,by trivial⟩⟩
 case pick c a b=>
  simp only[aop]at ha ⊢
  split at ha<;>first|(cases ha;done)|(simp only[zA,zB]at ha ⊢;exact⟨ha.2.symm,fun h2=>⟨ha.1,by trivial⟩⟩)|(simp only[zA,zB]at ha ⊢;exact⟨ha.2.symm,fun h2=>⟨ha.1,by trivial⟩⟩)
 case nilCheck x=>
  simp only[aop]at ha ⊢
  split at ha<;>first|(cases ha;done)|(simp only[zA,zB]at ha ⊢;exact⟨ha.2.symm,fun h2=>⟨ha.1,by trivial⟩⟩)|(simp only[zA,zB]at ha ⊢;exact⟨ha.2.symm,fun h2=>⟨ha.1,by trivial⟩⟩)
 case binOp op t x y yt=>
  simp only[aop]at ha ⊢
  cases hb:bin_ op (ρ x) (ρ y)with
  | some z=>rw[hb]at ha;simp only[zA,zB]at ha ⊢;exact⟨ha.2.symm,fun h2=>⟨ha.1,by trivial⟩⟩
  | none=>
   rw[hb]at ha
   simp only at ha ⊢
   cases hni:nils_ E t x y (ρ x) (ρ y)<;>cases op<;>simp only[hni]at ha ⊢<;>first
    | (injection ha with ha;injection ha with e1 e2;subst e1 e2;exact⟨rfl,fun _=>rfl⟩)
    | (cases ha;done)
    | (split at ha<;>first|(cases ha;done)|(simp only[zA,zB]at ha ⊢;exact⟨ha.2.symm,fun h2=>⟨ha.1,by trivial⟩⟩)|(simp only[zA,zB]at ha ⊢;exact⟨ha.2.symm,fun h2=>⟨ha.1,by trivial⟩⟩))
 case makeInterface t x=>
  simp only[aop]at ha ⊢
  split at ha<;>first|(cases ha;done)|(simp only[zA,zB]at ha ⊢;exact⟨ha.2.symm,fun h2=>⟨ha.1,by trivial⟩⟩)|(simp only[zA,zB]at ha ⊢;exact⟨ha.2.symm,fun h2=>⟨ha.1,by trivial⟩⟩)
 case convert s d x=>
  simp only[aop]at ha ⊢
  split at hk
  .rename_i k hd;exact conv_pure hd ha
  .exact absurd hk (by decide)
  .exact absurd hk (by decide)
 case extract t i=>
  simp only[aop]at ha ⊢
  split at ha
  .split at ha
   .simp only[zA,zB]at ha ⊢;exact⟨ha.2.symm,fun h2=>⟨ha.1,by trivial⟩⟩
   .cases ha
  .cases ha
 case call c=>
  exfalso
  obtain⟨callee,args,tys⟩:=c
  cases callee with
  | value f=>cases hk
  | invoke r m=>cases hk
  | builtin b=>cases b<;>cases hk
 all_goals (simp only[aop]at ha ⊢;obtain⟨h1,rfl⟩:=plain ha;refine⟨rfl,fun h2=>?_⟩;rw[h1])
theorem kind1{E:Env}{ρ:Operand→Value}{op:Op}{v:Value}{h h':Hp}(hk:kind_ E op=1)(ha:aop E ρ op h=some (v,h'))(hn:h'.next=h.next):h'=h:=by
 have plain:∀ {x:Option Value} {h2:Hp} {u:Value} {h:Hp},(match x with|some x=>some (x,h)|none=>none)=some (u,h2)→x=some u∧h2=h:=by
  intro x h2 u h e
  cases x with
  | none=>cases e
  | some x=>simp only[zA,zB]at e;exact⟨by rw[e.1],e.2.symm⟩
 cases op<;>simp only[kind_]at hk<;>try (exact absurd hk (by decide))
 case load t a=>
  simp only[aop]at ha
  split at ha
  .exact(plain ha).2
  .cases ha
 case lookup t x k ok=>simp only[aop]at ha;exact(plain ha).2
 case convert s d x=>
  simp only[aop]at ha
  split at hk
  .exact absurd hk (by decide)
  .rename_i hd
   unfold conv_ at ha
   simp only[hd]at ha
   split at ha
   .exact absurd ‹some TypeDesc.string=some (TypeDesc.int _)› (by simp)
   .exact absurd ‹some TypeDesc.string=some (TypeDesc.int _)› (by simp)
   .simp only[zA,zB]at ha;exact ha.2.symm
   .simp only[zA,zB]at ha;exact ha.2.symm
   .split at ha
    .split at ha
     .split at ha
      .simp only[zA,zB]at ha;exact ha.2.symm
      .cases ha
     .cases ha
    .cases ha
   .split at ha
    .simp only[zA,zB]at ha;exact ha.2.symm
    .cases ha
   .split at ha
    .simp only[zA,zB]at ha;exact ha.2.symm
    .cases ha
   .exact absurd ‹some TypeDesc.string=some (TypeDesc.slice _)› (by simp)
   .exact absurd ‹some TypeDesc.string=some (TypeDesc.slice _)› (by simp)
   .cases ha
  .exact absurd hk (by decide)
 case slice t x lo hi mx=>
  simp only[aop]at ha
  unfold zaE at ha
  split at ha
  .split at ha
   .split at ha
    .simp only[zA,zB]at ha;exact ha.2.symm
    .cases ha
   .cases ha
  .split at ha
   .simp only[zA,zB]at ha;exact ha.2.symm
   .cases ha
  .split at ha
   .split at ha
    .simp only[zA,zB]at ha;exact ha.2.symm
    .cases ha
   .split at ha
    .rename_i l hv q hmx hb
     cases h1:Nat.ble hv _ with
     | false=>rw[h1]at ha;cases ha
     | true=>
      rw[h1,cond_true]at ha
      cases h2:zE l _ with
      | true=>rw[h2,cond_true]at ha;simp only[zA,zB]at ha;exact ha.2.symm
      | false=>
       rw[h2,cond_false]at ha;simp only[zA,zB]at ha;exact ha.2.symm
    .split at ha
     .rename_i v2 l hv m hq hb
      cases hb2:zH v2 _ with
      | false=>rw[hb2]at ha;cases ha
      | true=>rw[hb2,cond_true]at ha;simp only[zA,zB]at ha;exact ha.2.symm
     .cases ha
    .cases ha
   .cases ha
  .split at ha
   .simp only[zA,zB]at ha;exact ha.2.symm
   .cases ha
  .split at ha
   .split at ha
    .simp only[zA,zB]at ha;exact ha.2.symm
    .split at ha
     .rename_i v2 hq
      cases hb2:zH v2 _ with
      | false=>rw[hb2]at ha;cases ha
      | true=>rw[hb2,cond_true]at ha;simp only[zA,zB]at ha;exact ha.2.symm
     .cases ha
    .cases ha
   .cases ha
  .cases ha
 case call c=>
  obtain⟨callee,args,tys⟩:=c
  cases callee with
  | value f=>cases hk
  | invoke r m=>cases hk
  | builtin b=>
   cases b<;>first|(cases hk;done)|skip
   all_goals
    simp only[aop]at ha
    split at ha<;>first
     | (rename_i he;cases he;done)
     | (rename_i he _;cases he;done)
     | (rename_i he _ _;cases he;done)
     | exact(plain ha).2
     | (cases ha;done)
theorem leq_eq{α:Type}{q:α→α→Bool}(hq:∀a b,q a b=true→a=b):∀ {l m:List α},leq_ q l m=true→l=m:=by
 intro l
 induction l with
 | nil=>intro m h;cases m with|nil=>rfl|cons y m=>cases h
 | cons x l ih=>
  intro m h
  cases m with
  | nil=>cases h
  | cons y m=>
   simp only[leq_]at h
   cases hx:q x y with
   | false=>rw[hx]at h;cases h
   | true=>rw[hx]at h;rw[hq _ _ hx,ih h]
theorem aeq_eq{a b:Option Addr}(h:aeq_ a b=true):a=b:=by
 unfold aeq_ at h
 split at h
 .rfl
 .rename_i a b
  obtain⟨a1,a2,a3⟩:=a
  obtain⟨b1,b2,b3⟩:=b
  simp only[zC]at h
  obtain⟨⟨h1,h2⟩,h3⟩:=h
  have e1:=zD h1
  have e2:=zD h2
  subst e1 e2
  cases a3 with
  | some s=>cases h3
  | none=>cases b3 with
   | none=>rfl
   | some s=>cases h3
 .cases h
theorem veq1_eq:∀(a b:Value),veq1_ a b=true→a=b:=by
 intro a b h
 unfold veq1_ at h
 split at h
 .rw[eq_of_beq h]
 .simp only[zC,decide_eq_true_eq]at h;rw[h.1,eq_of_beq h.2]
 .have:=eq_of_beq h
  congr 1
  apply ByteArray.ext
  apply zI
  exact this
 .rw[aeq_eq h]
 .simp only[zC]at h
  rw[aeq_eq h.1.1,zD h.1.2,zD h.2]
 .rw[zD h]
 .rfl
 .rfl
 .rfl
 .rfl
 .rfl
 .cases h
theorem veq_eq{a b:Value}(h:veq_ a b=true):a=b:=by
 unfold veq_ at h
 split at h
 .have:=leq_eq veq1_eq h
  congr 1
  exact zI this
 .have:=leq_eq veq1_eq h
  congr 1
  exact zI this
 .simp only[zC]at h
  rw[zD h.1.1,zI (leq_eq veq1_eq h.1.2),zI (leq_eq veq1_eq h.2)]
 .simp only[zC]at h
  rw[zD h.1,zI (leq_eq veq1_eq h.2)]
 .simp only[zC]at h
  rw[zD h.1,veq1_eq _ _ h.2]
 .exact veq1_eq _ _ h
def ancB(an:List Nat)(i j:Nat):Bool:=zF (match an[i]? with|some k=>k|none=>0) j
theorem fold_bits(acc:List Nat):∀(es:List Edge) (m j:Nat),zF (es.foldl (fun m e=>bif Region.binds .any e then m ||| 2 ^ e.on ||| (match acc[e.on]? with|some k=>k|none=>0)else m) m) j=true→
  zF m j=true∨∃e∈es,Region.binds .any e=true∧(j=e.on∨∃k,acc[e.on]?=some k∧zF k j=true):=by
 intro es
 induction es with
 | nil=>intro m j h;exact .inl h
 | cons e es ih=>
  intro m j h
  rw[zU]at h
  rcases ih _ _ h with h1|⟨e',h1,h2,h3⟩
  .cases hb:Region.binds .any e with
   | false=>rw[hb,cond_false]at h1;exact .inl h1
   | true=>
    rw[hb,cond_true,zJ,zJ,zK,zK]at h1
    rcases h1 with(h1|h1)|h1
    .exact .inl h1
    .rw[zY]at h1
     exact .inr ⟨e,zZ ..,hb,.inl (by simpa using(of_decide_eq_true h1).symm)⟩
    .cases hk:acc[e.on]? with
     | none=>rw[hk]at h1;simp at h1
     | some k=>rw[hk]at h1;exact .inr ⟨e,zZ ..,hb,.inr ⟨k,hk,h1⟩⟩
  .exact .inr ⟨e',List.mem_cons_of_mem _ h1,h2,h3⟩
theorem zdA:∀(l:List Oper) (acc:List Nat),(anc_ l acc).length=acc.length+l.length∧(∀i,i<acc.length→(anc_ l acc)[i]?=acc[i]?)∧
  ∀p o,l[p]?=some o→∀j,ancB (anc_ l acc) (acc.length+p) j=true→∃e∈o.after.toList,Region.binds .any e=true∧(j=e.on∨ancB (anc_ l acc) e.on j=true):=by
 intro l
 induction l with
 | nil=>intro acc;exact⟨rfl,fun i _=>rfl,fun p o h=>by simp at h⟩
 | cons o l ih=>
  intro acc
  simp only[anc_]
  generalize hm:(o.after.toList.foldl (fun m e=>bif Region.binds .any e then m ||| 2 ^ e.on ||| (match acc[e.on]? with|some k=>k|none=>0)else m) 0)=m
  obtain⟨h1,h2,h3⟩:=ih (acc++[m])
  refine⟨by rw[h1];simp;omega,fun i hi=>by rw[h2 i (by simp;omega),List.getElem?_append_left hi],fun p o' ho j hj=>?_⟩
  cases p with
  | zero=>
   simp only[List.getElem?_cons_zero,zA]at ho
   subst ho
   unfold ancB at hj
   rw[Nat.add_zero,h2 _ (by simp),List.getElem?_append_right (zQ _)]at hj
   simp only[Nat.sub_self,List.getElem?_cons_zero]at hj
   rw[←hm]at hj
   rcases fold_bits acc _ _ _ hj with h|⟨e,h4,h5,h6⟩
   .simp at h
   .refine⟨e,h4,h5,?_⟩
    rcases h6 with h6|⟨k,h6,h7⟩
    .exact .inl h6
    .refine .inr ?_
     have hlt:e.on<acc.length:=(List.getElem?_eq_some_iff.1 h6).1
     unfold ancB
     rw[h2 _ (by simp;omega),List.getElem?_append_left hlt,h6]
     exact h7
  | succ p=>
   have:=h3 p o' (by simpa using ho) j (by rw[show(acc++[m]).length+p=acc.length+(p+1)from by simp;omega];exact hj)
   exact this
theorem fold_mono(acc:List Nat):∀(es:List Edge) (m j:Nat),zF m j=true→zF (es.foldl (fun m e=>bif Region.binds .any e then m ||| 2 ^ e.on ||| (match acc[e.on]? with|some k=>k|none=>0)else m) m) j=true:=by
 intro es
 induction es with
 | nil=>intro m j h;exact h
 | cons e es ih=>
  intro m j h
  rw[zU]
  refine ih _ _ ?_
  cases hb:Region.binds .any e with
  | false=>exact h
  | true=>rw[cond_true,zJ,zJ,h];rfl
theorem fold_has(acc:List Nat):∀(es:List Edge) (m j:Nat) (e:Edge),e∈es→Region.binds .any e=true→(j=e.on∨∃k,acc[e.on]?=some k∧zF k j=true)→zF (es.foldl (fun m e=>bif Region.binds .any e then m ||| 2 ^ e.on ||| (match acc[e.on]? with|some k=>k|none=>0)else m) m) j=true:=by
 intro es
 induction es with
 | nil=>intro m j e h;cases h
 | cons e0 es ih=>
  intro m j e he hb hj
  rw[zU]
  rcases List.mem_cons.1 he with rfl|he
  .refine fold_mono acc es _ j ?_
   rw[hb,cond_true,zJ,zJ]
   rcases hj with rfl|⟨k,hk,hkj⟩
   .simp[zY]
   .rw[hk];simp[hkj]
  .exact ih _ j e he hb hj
theorem anc_back:∀(l:List Oper) (acc:List Nat) (p:Nat) (o:Oper),l[p]?=some o→∀e∈o.after.toList,Region.binds .any e=true→e.on<acc.length+p→∀j,(j=e.on∨ancB (anc_ l acc) e.on j=true)→ancB (anc_ l acc) (acc.length+p) j=true:=by
 intro l
 induction l with
 | nil=>intro acc p o h;simp at h
 | cons o l ih=>
  intro acc p o' ho e he hb hlt j hj
  have hspec:=(zdA (o::l) acc).2.1
  simp only[anc_]at hj hspec ⊢
  generalize hm:(o.after.toList.foldl (fun m e=>bif Region.binds .any e then m ||| 2 ^ e.on ||| (match acc[e.on]? with|some k=>k|none=>0)else m) 0)=m at hj hspec ⊢
  obtain⟨h1,h2,h3⟩:=zdA l (acc++[m])
  cases p with
  | zero=>
   simp only[List.getElem?_cons_zero,zA]at ho
   subst ho
   unfold ancB
   rw[Nat.add_zero,h2 _ (by simp),List.getElem?_append_right (zQ _)]
   simp only[Nat.sub_self,List.getElem?_cons_zero]
   rw[←hm]
   refine fold_has acc _ 0 j e he hb ?_
   rcases hj with hj|hj
   .exact .inl hj
   .unfold ancB at hj
    rw[hspec e.on (by omega)]at hj
    cases hk:acc[e.on]? with
    | none=>rw[hk]at hj;simp at hj
    | some k=>rw[hk]at hj;exact .inr ⟨k,rfl,hj⟩
  | succ p=>
   have:=ih (acc++[m]) p o' (by simpa using ho) e he hb (by simp;omega) j hj
   rw[show(acc++[m]).length+p=acc.length+(p+1)from by simp;omega]at this
   exact this
def frAt(tr:List Tc)(last:Fr)(i:Nat):Fr:=match tr[i]? with|some t=>t.a|none=>last
def hpAt(tr:List Tc)(last:Hp)(i:Nat):Hp:=match tr[i]? with|some t=>t.h|none=>last
structure Run(E:Env)(call:FuncId→List Value→Hp→Option (Value×Hp))(all l:List Oper)(a:Fr)(h:Hp)(tr:List Tc)(aN:Fr)(hN:Hp):Prop where
 len:tr.length=l.length
 a0:frAt tr aN 0=a
 h0:hpAt tr hN 0=h
 step:∀i o,l[i]?=some o→∃t,tr[i]?=some t∧zbX t.a all o=some t.did∧(t.did=true→oneOp E call t.a.eval o.op t.h=some (t.v,hpAt tr hN (i+1)))∧
  (t.did=false→t.v=undef∧hpAt tr hN (i+1)=t.h)∧t.a.put o.dst t.v=some (frAt tr aN (i+1))
theorem trace_run{E:Env}{call:FuncId→List Value→Hp→Option (Value×Hp)}{all:List Oper}:∀ {l:List Oper} {a:Fr} {h:Hp} {tr:List Tc} {aN:Fr} {hN:Hp},zbt E call all l a h=some (tr,aN,hN)→Run E call all l a h tr aN hN:=by
 intro l
 induction l with
 | nil=>
  intro a h tr aN hN ht
  simp only[zbt,zA,zB]at ht
  obtain⟨rfl,rfl,rfl⟩:=ht
  exact⟨rfl,rfl,rfl,fun i o h=>by simp at h⟩
 | cons o l ih=>
  intro a h tr aN hN ht
  simp only[zbt]at ht
  have mk:∀(d:Bool) (v:Value) (a2:Fr) (h2:Hp) (tr2:List Tc),zbX a all o=some d→a.put o.dst v=some a2→zbt E call all l a2 h2=some (tr2,aN,hN)→tr=⟨a,h,d,v⟩::tr2→
    (d=true→oneOp E call a.eval o.op h=some (v,h2))→(d=false→v=undef∧h2=h)→Run E call all (o::l) a h tr aN hN:=by
   intro d v a2 h2 tr2 hw hput ht2 htr h5 h6
   subst htr
   have R:=ih ht2
   have e1:hpAt (⟨a,h,d,v⟩::tr2) hN 1=h2:=by
    have:=R.h0
    unfold hpAt at this ⊢
    simpa using this
   have e2:frAt (⟨a,h,d,v⟩::tr2) aN 1=a2:=by
    have:=R.a0
    unfold frAt at this ⊢
    simpa using this
   refine⟨by simp[R.len],rfl,rfl,fun i o' ho=>?_⟩
   cases i with
   | zero=>
    simp only[List.getElem?_cons_zero,zA]at ho
    subst ho
    refine⟨⟨a,h,d,v⟩,rfl,hw,fun hd=>?_,fun hd=>?_,?_⟩
    .show oneOp E call a.eval o.op h=some (v,hpAt _ hN 1)
     rw[e1];exact h5 hd
    .show v=undef∧hpAt _ hN 1=h
     rw[e1];exact h6 hd
    .show a.put o.dst v=some (frAt _ aN 1)
     rw[e2];exact hput
   | succ i=>exact R.step i o' (by simpa using ho)
  cases hw:zbX a all o with
  | none=>rw[hw]at ht;cases ht
  | some d=>
   rw[hw]at ht
   cases d with
   | true=>
    simp only at ht
    cases h1:oneOp E call a.eval o.op h with
    | none=>rw[h1]at ht;cases ht
    | some q=>
     obtain⟨v,h2⟩:=q
     rw[h1]at ht
     simp only at ht
     cases hput:a.put o.dst v with
     | none=>rw[hput]at ht;cases ht
     | some a2=>
      rw[hput]at ht
      simp only at ht
      cases ht2:zbt E call all l a2 h2 with
      | none=>rw[ht2]at ht;cases ht
      | some q=>
       obtain⟨tr2,aN2,hN2⟩:=q
       rw[ht2]at ht
       simp only[zA,zB]at ht
       obtain⟨rfl,rfl,rfl⟩:=ht
       exact mk true v a2 h2 tr2 hw hput ht2 rfl (fun _=>h1) (fun h=>by cases h)
   | false=>
    simp only at ht
    cases hput:a.put o.dst undef with
    | none=>rw[hput]at ht;cases ht
    | some a2=>
     rw[hput]at ht
     simp only at ht
     cases ht2:zbt E call all l a2 h with
     | none=>rw[ht2]at ht;cases ht
     | some q=>
      obtain⟨tr2,aN2,hN2⟩:=q
      rw[ht2]at ht
      simp only[zA,zB]at ht
      obtain⟨rfl,rfl,rfl⟩:=ht
      exact mk false undef a2 h tr2 hw hput ht2 rfl (fun h=>by cases h) (fun _=>⟨rfl,rfl⟩)
theorem put_get{a a2:Fr}{d:Option Tmp}{v:Value}(hp:a.put d v=some a2)(hm:a.n≤100000)(t:Tmp):a2.get t=(if d=some t then v else a.get t)∧a2.n=a.n∧a2.gl=a.gl:=by
 rw[Fr.put_eq]at hp
 cases d with
 | none=>simp only[zA]at hp;subst hp;exact⟨by rw[if_neg (by simp)],rfl,rfl⟩
 | some d=>
  simp only at hp
  cases hb:zE d a.n with
  | false=>rw[hb]at hp;cases hp
  | true=>
   rw[hb,cond_true,Tr.force_eq]at hp
   injection hp with hp
   subst hp
   have hlt:@LT.lt Nat _ d a.n:=zR (zS _) (zL hb)
   refine⟨?_,rfl,rfl⟩
   show(match(a.t.set 24 d v).get t with|some v=>v|none=>undef)=_
   rw[Tr.get_set 24 _ _ _ _ (by omega)]
   by_cases ht:t=d
   .subst ht;rw[if_pos rfl,if_pos rfl]
   .rw[if_neg ht,if_neg (by intro e;injection e with e;exact ht e.symm)]
    rfl
def cur(dst:Nat→Option Tmp)(val:Nat→Value)(t0:Tmp→Value)(S:Nat→Bool)(t:Tmp):Nat→Value
 | 0=>t0 t
 | k+1=>if S k=true∧dst k=some t then val k else cur dst val t0 S t k
theorem cur_congr{dst:Nat→Option Tmp}{val:Nat→Value}{t0:Tmp→Value}{S S':Nat→Bool}{t:Tmp}:∀ {K:Nat},(∀k,k<K→dst k=some t→S k=S' k)→cur dst val t0 S t K=cur dst val t0 S' t K:=by
 intro K
 induction K with
 | zero=>intro _;rfl
 | succ K ih=>
  intro h
  simp only[cur]
  rw[ih fun k hk=>h k (by omega)]
  by_cases hd:dst K=some t
  .rw[h K (by omega) hd]
  .rw[if_neg (fun hh=>hd hh.2),if_neg (fun hh=>hd hh.2)]
theorem cur_stop{dst:Nat→Option Tmp}{val:Nat→Value}{t0:Tmp→Value}{S:Nat→Bool}{t:Tmp}{i:Nat}:∀ {K:Nat},i≤K→(∀k,i≤k→k<K→dst k=some t→S k=false)→cur dst val t0 S t K=cur dst val t0 S t i:=by
 intro K
 induction K with
 | zero=>
  intro h _;have:i=0:=by omega
  subst this;rfl
 | succ K ih=>
  intro h hs
  by_cases he:i=K+1
  .subst he;rfl
  .simp only[cur]
   rw[if_neg,ih (by omega) (fun k h1 h2=>hs k h1 (by omega))]
   rintro⟨h1,h2⟩
   rw[hs K (by omega) (by omega) h2]at h1
   cases h1
theorem kinds{E:Env}(op:Op):kind_ E op=0∨kind_ E op=1∨kind_ E op=2:=by
 unfold kind_
 split
 .split<;>simp
 all_goals simp
theorem kds{E:Env}{m:Bool}(op:Op):(kd_ E m op=0∧kind_ E op=0)∨(kd_ E m op=1∧kind_ E op=1)∨kd_ E m op=2∨(kd_ E m op=3∧m=true∧zbM op=true):=by
 unfold kd_
 cases hb:m&&zbM op with
 | false=>
  simp only[cond_false]
  rcases kinds (E:=E) op with h|h|h
  .exact .inl ⟨h,h⟩
  .exact .inr (.inl ⟨h,h⟩)
  .exact .inr (.inr (.inl h))
 | true=>
  simp only[cond_true]
  rw[zC]at hb
  exact .inr (.inr (.inr ⟨trivial,hb.1,hb.2⟩))
def dstOf(ops:Array Oper)(k:Nat):Option Tmp:=(ops[k]?).bind (·.dst)
def valOf(tr:List Tc)(k:Nat):Value:=match tr[k]? with|some t=>t.v|none=>undef
def effOf(E:Env)(m:Bool)(ops:Array Oper)(tr:List Tc)(k:Nat):Prop:=∃o t,ops[k]?=some o∧tr[k]?=some t∧t.did=true∧2≤kd_ E m o.op
def eff2(E:Env)(m:Bool)(ops:Array Oper)(k:Nat):Prop:=∃o,ops[k]?=some o∧kd_ E m o.op=2
def eff3(E:Env)(m:Bool)(ops:Array Oper)(tr:List Tc)(k:Nat):Prop:=∃o t,ops[k]?=some o∧tr[k]?=some t∧t.did=true∧kd_ E m o.op=3
def lst(listed:Array Bool)(k:Nat):Bool:=listed.getD k false
def todo(listed:Array Bool):Nat→Nat
 | 0=>0
 | k+1=>todo listed k+(if lst listed k=true then 0 else 1)
theorem zbz(listed:Array Bool)(i k:Nat)(hi:i<listed.size):lst (listed.setIfInBounds i true) k=if k=i then true else lst listed k:=by
 unfold lst
 simp only[Array.getD_eq_getD_getElem?,Array.getElem?_setIfInBounds]
 by_cases h:k=i
 .subst h;simp[hi]
 .rw[if_neg (Ne.symm h),if_neg h]
theorem todo_set(listed:Array Bool)(i:Nat)(hi:i<listed.size)(hl:lst listed i=false):∀k,todo (listed.setIfInBounds i true) k+(if i<k then 1 else 0)=todo listed k:=by
 intro k
 induction k with
 | zero=>rfl
 | succ k ih=>
  simp only[todo,zbz listed i k hi]
  by_cases h:k=i
  .subst h
   rw[if_neg (by omega)]at ih
   rw[if_pos rfl,if_pos rfl,if_pos (by omega),hl]
   simp only[Bool.false_eq_true,if_false]
   omega
  .rw[if_neg h]
   by_cases h2:i<k
   .rw[if_pos h2]at ih
    have e:(if i<k+1 then 1 else 0)=1:=if_pos (by omega)
    rw[e];omega
   .rw[if_neg h2]at ih
    have e:(if i<k+1 then 1 else 0)=0:=if_neg (by omega)
    rw[e];omega
theorem todo_zero{listed:Array Bool}:∀ {k:Nat},todo listed k=0→∀j,j<k→lst listed j=true:=by
 intro k
 induction k with
 | zero=>intro _ j h;omega
 | succ k ih=>
  intro h j hj
  simp only[todo]at h
  by_cases hk:lst listed k=true
  .rw[if_pos hk]at h
   by_cases e:j=k
   .subst e;exact hk
   .exact ih h j (by omega)
  .rw[if_neg hk]at h
   omega
structure Fixed(E:Env)(m:Bool)(ops:Array Oper)(an:List Nat):Prop where
 edge:∀(j:Nat) (y:Oper),ops[j]?=some y→∀e∈y.after.toList,Region.binds .any e=true→e.on<j
 pair:∀(i j:Nat) (x y:Oper),ops[i]?=some x→ops[j]?=some y→i<j→ancB an j i=true∨(clash_ ops.toList x y=false∧¬(2≤kd_ E m x.op∧kd_ E m y.op=2))
theorem fixed_of{E:Env}{m:Bool}{ops:Array Oper}{an:List Nat}(h:zaT E m ops.toList an=true):Fixed E m ops an:=by
 unfold zaT at h
 rw[zV]at h
 have key:∀(j:Nat) (y:Oper),ops[j]?=some y→(y,j)∈ops.toList.zipIdx:=fun j y hy=>by
  rw[List.mem_zipIdx_iff_getElem?];simpa using hy
 refine⟨fun j y hy e he hb=>?_,fun i j x y hx hy hij=>?_⟩
 .have h1:=h _ (key j y hy)
  simp only[zC]at h1
  have h2:=List.all_eq_true.1 h1.1 e he
  rw[hb]at h2
  simp only[zG,zM]at h2
  exact zR (zS _) (zL h2)
 .have h1:=h _ (key j y hy)
  simp only[zC]at h1
  have h2:=List.all_eq_true.1 h1.2 _ (key i x hx)
  have h3:zE i j=true:=zO hij
  simp only[h3,zG,zM,zK,zC,Bool.not_eq_true']at h2
  rcases h2 with h2|⟨h2,h4⟩
  .exact .inl h2
  .refine .inr ⟨h2,fun⟨k1,k2⟩=>?_⟩
   have h5:zE 1 (kd_ E m x.op)=true:=zO k1
   rw[h5,k2]at h4
   cases h4
theorem late_of{E:Env}{ops:Array Oper}{an:List Nat}(h:zbl E ops.toList an=true){f:Nat}{x:Oper}(hx:ops[f]?=some x)(hk:kd_ E true x.op=3) :
  (∃d,x.dst=some d∧∀j y,ops[j]?=some y→j≠f→y.dst≠some d)∧
  ∀j y,ops[j]?=some y→f<j→kd_ E true y.op≠2→kd_ E true y.op≠0→ancB an j f=true→∃e z,ops[e]?=some z∧f<e∧e<j∧kd_ E true z.op=2∧ancB an j e=true:=by
 unfold zbl at h
 rw[zV]at h
 have key:∀(j:Nat) (y:Oper),ops[j]?=some y→(y,j)∈ops.toList.zipIdx:=fun j y hy=>by
  rw[List.mem_zipIdx_iff_getElem?];simpa using hy
 have hfl:zbM x.op=true:=by
  unfold kd_ at hk
  cases hf:zbM x.op with
  | true=>rfl
  | false=>
   rw[hf]at hk
   simp only[Bool.and_false,cond_false]at hk
   rcases kinds (E:=E) x.op with h|h|h<;>omega
 have h1:=h _ (key f x hx)
 simp only[hfl,zG,zM,zC]at h1
 obtain⟨h1,h2⟩:=h1
 refine⟨?_,fun j y hy hfj hkj hkj0 hanc=>?_⟩
 .cases hd:x.dst with
  | none=>rw[hd]at h1;cases h1
  | some d=>
   rw[hd]at h1
   refine⟨d,rfl,fun j y hy hne he=>?_⟩
   have h3:=List.all_eq_true.1 h1 _ (key j y hy)
   simp only[he,zK,zP,zG,Bool.or_false]at h3
   exact hne (zD h3)
 .have h3:=List.all_eq_true.1 h2 _ (key j y hy)
  have e1:zE f j=true:=zO hfj
  have e2:zH (kd_ E true y.op) 2=false:=by
   cases hb:zH (kd_ E true y.op) 2 with
   | false=>rfl
   | true=>exact absurd (zD hb) hkj
  have e4:zH (kd_ E true y.op) 0=false:=by
   cases hb:zH (kd_ E true y.op) 0 with
   | false=>rfl
   | true=>exact absurd (zD hb) hkj0
  have e3:bitOf_ an j f=true:=hanc
  simp only[e1,e2,e3,e4,zG,zM]at h3
  obtain⟨⟨z,e⟩,hm,h4⟩:=List.any_eq_true.1 h3
  simp only[zC]at h4
  obtain⟨⟨⟨h5,h6⟩,h7⟩,h8⟩:=h4
  rw[List.mem_zipIdx_iff_getElem?]at hm
  refine⟨e,z,by simpa using hm,zR (zS _) (zL h5),zR (zS _) (zL h6),zD h7,h8⟩
theorem clash_left{all:List Oper}{x y:Oper}(h:clash_ all x y=false){d:Tmp}(hd:x.dst=some d):d∉zcz all y∧y.dst≠some d:=by
 unfold clash_ at h
 rw[hd]at h
 simp only[yA]at h
 refine⟨fun hm=>?_,fun he=>?_⟩
 .have:=List.any_eq_true.2 ⟨d,hm,zP d⟩
  rw[this]at h
  cases h.1.1
 .have h2:=h.1.2
  rw[he]at h2
  simp only at h2
  rw[zP d]at h2
  cases h2
theorem clash_right{all:List Oper}{x y:Oper}(h:clash_ all x y=false){d:Tmp}(hd:y.dst=some d):d∉zcz all x:=by
 unfold clash_ at h
 rw[hd]at h
 simp only[yA]at h
 intro hm
 have:=List.any_eq_true.2 ⟨d,hm,zP d⟩
 rw[this]at h
 cases h.2
theorem reads_of{E:Env}{m:Bool}{ops:Array Oper}{an:List Nat}{tr:List Tc}{hN:Hp}(h:zbD E m ops.toList an tr hN=true){i:Nat}{x:Oper}{t:Tc}(hx:ops[i]?=some x)(ht:tr[i]?=some t)(hd:t.did=true)(hk:kd_ E m x.op=1) :
  zcl E t x.op t.h=true∧∀e,effOf E m ops tr e→(e<i→ancB an i e=true∨zcl E t x.op (hpAt tr hN e)=true)∧(i<e→ancB an e i=true∨zcl E t x.op (hpAt tr hN (e+1))=true):=by
 unfold zbD at h
 rw[zV]at h
 have key:∀(j:Nat) (y:Oper) (u:Tc),ops[j]?=some y→tr[j]?=some u→((y,u),j)∈(ops.toList.zip tr).zipIdx:=fun j y u hy hu=>by
  rw[List.mem_zipIdx_iff_getElem?]
  simp only
  rw[List.getElem?_zip_eq_some]
  exact⟨by simpa using hy,hu⟩
 have h1:=h _ (key i x t hx ht)
 simp only[hd,hk,zP,Bool.and_self,zG,zM,zC]at h1
 refine⟨h1.1,fun e he=>?_⟩
 obtain⟨y,u,hy,hu,hdu,hku⟩:=he
 have h2:=List.all_eq_true.1 h1.2 _ (key e y u hy hu)
 have hku':zE 1 (kd_ E m y.op)=true:=zO hku
 simp only[hdu,hku',Bool.and_self,zG,zM]at h2
 refine⟨fun hlt=>?_,fun hlt=>?_⟩
 .have h3:zE e i=true:=zO hlt
  rw[h3,cond_true,zK]at h2
  have:hpAt tr hN e=u.h:=by unfold hpAt;rw[hu]
  rw[this]
  exact h2
 .have h3:zE e i=false:=by
   rw[Bool.eq_false_iff]
   intro hb
   have:=zL hb
   omega
  rw[h3,cond_false,zK]at h2
  exact h2
theorem anc_lt{E:Env}{md:Bool}{ops:Array Oper}{an:List Nat}(han:anc_ ops.toList []=an)(F:Fixed E md ops an):∀i j,ancB an i j=true→j<i∧i<ops.size:=by
 intro i
 induction i using Nat.strongRecOn with
 | _ i ih=>
  intro j hj
  have hi:i<ops.size:=by
   unfold ancB at hj
   cases hk:an[i]? with
   | none=>rw[hk]at hj;simp at hj
   | some k=>
    have h1:=(List.getElem?_eq_some_iff.1 hk).1
    rw[←han,(zdA ops.toList []).1]at h1
    simpa using h1
  have ho:ops.toList[i]?=some ops[i]:=by simp
  have h0:([]:List Nat).length+i=i:=by simp
  have A:=(zdA ops.toList []).2.2 i _ ho j
  rw[h0,han]at A
  obtain⟨e,he,hb,h5⟩:=A hj
  have hlt:=F.edge i ops[i] (by simp) e he hb
  refine⟨?_,hi⟩
  rcases h5 with rfl|h5
  .exact hlt
  .have:=(ih e.on hlt j h5).1;omega
theorem anc_trans{E:Env}{md:Bool}{ops:Array Oper}{an:List Nat}(han:anc_ ops.toList []=an)(F:Fixed E md ops an):∀i k j,ancB an i k=true→ancB an k j=true→ancB an i j=true:=by
 intro i
 induction i using Nat.strongRecOn with
 | _ i ih=>
  intro k j hk hj
  have hi:=(anc_lt han F i k hk).2
  have ho:ops.toList[i]?=some ops[i]:=by simp
  have h0:([]:List Nat).length+i=i:=by simp
  have A:=(zdA ops.toList []).2.2 i _ ho k
  rw[h0,han]at A
  obtain⟨e,he,hb,h5⟩:=A hk
  have hlt:=F.edge i ops[i] (by simp) e he hb
  have B:=anc_back ops.toList [] i _ ho e he hb (by rw[h0];exact hlt) j
  rw[h0,han]at B
  refine B (.inr ?_)
  rcases h5 with rfl|h5
  .exact hj
  .exact ih e.on hlt k j h5 hj
theorem ups_le:∀ {tr:List Tc} {last:Hp},ups_ tr last=true→∀i,i<tr.length→(hpAt tr last i).next≤(hpAt tr last (i+1)).next:=by
 intro tr
 induction tr with
 | nil=>intro last _ i hi;simp at hi
 | cons t l ih=>
  intro last h i hi
  simp only[ups_]at h
  split at h
  .rename_i hb
   cases i with
   | zero=>
    have:=zL hb
    cases l with
    | nil=>exact this
    | cons u l=>exact this
   | succ i=>
    have:=ih h i (by simpa using hi)
    simpa [hpAt]using this
  .cases h
theorem ups_mono{tr:List Tc}{last:Hp}(h:ups_ tr last=true){i:Nat}:∀ {k:Nat},i≤k→k≤tr.length→(hpAt tr last i).next≤(hpAt tr last k).next:=by
 intro k
 induction k with
 | zero=>
  intro h1 _;have:i=0:=by omega
  subst this;exact zQ _
 | succ k ih=>
  intro h1 h2
  by_cases he:i=k+1
  .subst he;exact zQ _
  .exact Nat.le_trans (ih (by omega) (by omega)) (ups_le h k (by omega))
theorem VR.ptr_inv'{β:Bt}{b o:Nat}{y:Value}(h:VR β (.pointer (some ⟨b,o,none⟩)) y):∃i,β b=some i∧y=.pointer (some ⟨i.blk,i.off+o,none⟩):=by cases h with|ptr o h=>exact⟨_,h,rfl⟩
theorem VR.slice_inv'{β:Bt}{b o n c:Nat}{y:Value}(h:VR β (.slice (some ⟨b,o,none⟩) n c) y):∃i,β b=some i∧y=.slice (some ⟨i.blk,i.off+o,none⟩) n (c+i.ex):=by cases h with|slice o n c h=>exact⟨_,h,rfl⟩
theorem VR.map_inv'{β:Bt}{b:Nat}{y:Value}(h:VR β (.map (some b)) y):∃i,β b=some i∧y=.map (some i.blk):=by cases h with|map h=>exact⟨_,h,rfl⟩
theorem VR.iface_inv'{β:Bt}{t:TypeId}{x y:Value}(h:VR β (.iface t x) (.iface t y)):VR β x y:=by cases h with|iface t h=>exact h
theorem VR.agg_inv'{β:Bt}{xs ys:Array Value}(h:VR β (.agg xs) (.agg ys)):∀(i:Nat) (x y:Value),xs[i]?=some x→ys[i]?=some y→VR β x y:=by cases h with|agg h1 h2=>exact h2
theorem VR.tuple_inv'{β:Bt}{xs ys:Array Value}(h:VR β (.tuple xs) (.tuple ys)):∀(i:Nat) (x y:Value),xs[i]?=some x→ys[i]?=some y→VR β x y:=by cases h with|tuple h1 h2=>exact h2
theorem VR.func_inv'{β:Bt}{fn:Fn}{xs ys cs ds:Array Value}(h:VR β (.func fn xs cs) (.func fn ys ds)):(∀(i:Nat) (x y:Value),xs[i]?=some x→ys[i]?=some y→VR β x y)∧∀(i:Nat) (x y:Value),cs[i]?=some x→ds[i]?=some y→VR β x y:=by cases h with|func fn h1 h2 h3 h4=>exact⟨h2,h4⟩
theorem VR.meet{β βA βB:Bt}(hm:∀b i j,βA b=some i→βB b=some j→i.blk=j.blk→β b=some i){x y:Value}(hA:VR βA x y):VR βB x y→VR β x y:=by
 induction hA with
 | lost v h=>intro _;exact .lost v h
 | any v=>intro _;exact .any v
 | rest8 c a h ha=>intro _;exact .rest8 c a h ha
 | rest64 c a h ha=>intro _;exact .rest64 c a h ha
 | noneLeft a c=>intro _;exact .noneLeft a c
 | bool b=>intro _;exact .bool b
 | int k n=>intro _;exact .int k n
 | string s=>intro _;exact .string s
 | nilPtr=>intro _;exact .nilPtr
 | ptr o h=>
  intro hB
  obtain⟨j,h1,h2⟩:=hB.ptr_inv'
  injection h2 with h2
  injection h2 with h2
  injection h2 with h2 _
  exact .ptr o (hm _ _ _ h h1 h2)
 | nilSlice n c=>intro _;exact .nilSlice n c
 | slice o n c h=>
  intro hB
  obtain⟨j,h1,h2⟩:=hB.slice_inv'
  injection h2 with h2
  injection h2 with h2
  injection h2 with h2 _
  exact .slice o n c (hm _ _ _ h h1 h2)
 | nilMap=>intro _;exact .nilMap
 | map h=>
  intro hB
  obtain⟨j,h1,h2⟩:=hB.map_inv'
  injection h2 with h2
  injection h2 with h2
  exact .map (hm _ _ _ h h1 h2)
 | func fn h1 _ h3 _ ih1 ih2=>
  intro hB
  exact .func fn h1 (fun i x y hx hy=>ih1 i x y hx hy (hB.func_inv'.1 i x y hx hy)) h3 (fun i x y hx hy=>ih2 i x y hx hy (hB.func_inv'.2 i x y hx hy))
 | nilFunc=>intro _;exact .nilFunc
 | nilIface=>intro _;exact .nilIface
 | iface t _ ih=>intro hB;exact .iface t (ih hB.iface_inv')
 | agg h1 _ ih=>intro hB;exact .agg h1 (fun i x y hx hy=>ih i x y hx hy (hB.agg_inv' i x y hx hy))
 | tuple h1 _ ih=>intro hB;exact .tuple h1 (fun i x y hx hy=>ih i x y hx hy (hB.tuple_inv' i x y hx hy))
def Bt.total(β β':Bt):Prop:=β.le β'∧∀b,(∃i,β' b=some i)↔b<9223372036854775808
def Bt.fill(β:Bt)(k:Nat):Bt:=fun b=>if b<9223372036854775808 then(match β b with|some i=>some i|none=>some ⟨k,0,0⟩)else none
theorem Bt.fill_total{β:Bt}(hd:∀b i,β b=some i→b<9223372036854775808)(k:Nat):β.total (β.fill k):=by
 refine⟨fun b i h=>?_,fun b=>?_⟩
 .unfold Bt.fill;rw[if_pos (hd b i h),h]
 .unfold Bt.fill
  by_cases hb:b<9223372036854775808
  .rw[if_pos hb]
   refine⟨fun _=>hb,fun _=>?_⟩
   cases β b with
   | none=>exact⟨_,rfl⟩
   | some i=>exact⟨_,rfl⟩
  .rw[if_neg hb]
   exact⟨fun⟨i,h⟩=>(by cases h),fun h=>absurd h hb⟩
theorem VR.of_total{β:Bt}(hd:∀b i,β b=some i→b<9223372036854775808){x y:Value}(h:∀β',β.total β'→VR β' x y):VR β x y:=by
 refine VR.meet (βA:=β.fill 0) (βB:=β.fill 1) (fun b i j h1 h2 h3=>?_) (h _ (Bt.fill_total hd 0)) (h _ (Bt.fill_total hd 1))
 unfold Bt.fill at h1 h2
 by_cases hb:b<9223372036854775808
 .rw[if_pos hb]at h1 h2
  cases hq:β b with
  | some q=>rw[hq]at h1;exact h1
  | none=>
   rw[hq]at h1 h2
   simp only[zA]at h1 h2
   subst h1 h2
   cases h3
 .rw[if_neg hb]at h1;cases h1
end Go.Proofs.YtponjccgpbgnoaaGreatDoor
