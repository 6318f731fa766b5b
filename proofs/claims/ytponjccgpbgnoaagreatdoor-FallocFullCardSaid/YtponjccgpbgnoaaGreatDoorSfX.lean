/- Told steps over blocks: blocks named anew, frozen for good, and told of a part of a heap (definitions). -/
import Derived.Test.YtponjccgpbgnoaaGreatDoorSeT
set_option linter.unusedVariables false
set_option linter.unusedSimpArgs false
set_option linter.unusedSectionVars false
open Option.some renaming injEq→zA
open Nat renaming le_refl→zB,beq→zC,blt→zE,zero_le→zF,eq_of_beq_eq_true→zG,mul_add→zJ,mul_one→zK,lt_of_le_of_lt→zL,blt_eq→zN,le_of_ble_eq_true→zO,le_trans→zP
open Prod.mk renaming injEq→zD
open Bool renaming and_eq_true→zH
open List renaming range→zI
open Option renaming map_some→zM
namespace Go.Proofs.YtponjccgpbgnoaaGreatDoor.Se
open Go Go.Proofs.YtponjccgpbgnoaaGreatDoor
set_option maxRecDepth 20000
def mapO{α β:Type}(q:α→Option β):List α→Option (List β)
 | []=>some []
 | x::l=>(match q x with|some y=>(match mapO q l with|some r=>some (y::r)|none=>none)|none=>none)
def ren(m:Nat→Option Nat):Nat→SV→Option SV
 | 0,_=>none
 | d+1,v=>match v with
  | .lost=>some .lost
  | .int k c x=>some (.int k c x)
  | .bool c b=>some (.bool c b)
  | .str c s=>some (.str c s)
  | .raw v=>some (.raw v)
  | .agg l=>(match mapO (ren m d) l with|some l=>some (.agg l)|none=>none)
  | .tup l=>(match mapO (ren m d) l with|some l=>some (.tup l)|none=>none)
  | .ptr id k c i o=>(match m id with|some j=>some (.ptr j k c i o)|none=>none)
  | .aptr id k c i o N q=>(match m id with|some j=>some (.aptr j k c i o N q)|none=>none)
  | .nsl id k c s n z=>(match m id with|some j=>some (.nsl j k c s n z)|none=>none)
  | .asl id k c i o N cj q n=>(match m id with|some j=>some (.asl j k c i o N cj q n)|none=>none)
  | .fsl st k n nl e=>some (.fsl st k n nl e)
  | .fptr st k n e i o=>some (.fptr st k n e i o)
  | .mp id=>(match m id with|some j=>some (.mp j)|none=>none)
  | .fn f a b=>(match mapO (ren m d) a,mapO (ren m d) b with|some a,some b=>some (.fn f a b)|_,_=>none)
def renB(m:Nat→Option Nat):SB→Option SB
 | .lst k rows t=>(match mapO (mapO (ren m 6)) rows with|some rows=>some (.lst k rows t)|none=>none)
 | .row k n e t=>some (.row k n e t)
 | .mp es c=>some (.mp es c)
 | .gone=>none
def idsV:Nat→SV→List Nat→List Nat
 | 0,_,acc=>acc
 | d+1,v,acc=>match v with
  | .ptr id _ _ _ _=>id::acc
  | .aptr id _ _ _ _ _ _=>id::acc
  | .nsl id _ _ _ _ _=>id::acc
  | .asl id _ _ _ _ _ _ _ _=>id::acc
  | .mp id=>id::acc
  | .agg l=>l.foldr (idsV d) acc
  | .tup l=>l.foldr (idsV d) acc
  | .fn _ a b=>a.foldr (idsV d) (b.foldr (idsV d) acc)
  | _=>acc
def idsB:Option SB→List Nat
 | some (.lst _ rows _)=>rows.foldr (fun r acc=>r.foldr (idsV 6) acc) []
 | _=>[]
def collect(sh:SH):Nat→List Nat→List Nat→List Nat
 | 0,_,acc=>acc
 | n+1,w,acc=>match w with
  | []=>acc
  | id::w=>(match acc.any (zC id)with
   | true=>collect sh n w acc
   | false=>collect sh n (idsB (sh.get id)++w) (acc++[id]))
def zbu:List Nat→Nat→Option Nat
 | [],_=>none
 | y::l,x=>(match zC y x with|true=>some 0|false=>(match zbu l x with|some i=>some (i+1)|none=>none))
def blocks_(sh:SH)(m:Nat→Option Nat):List Nat→Option (List SB)
 | []=>some []
 | id::l=>(match sh.get id with
  | some b=>(match renB m b with
   | some b=>(match blocks_ sh m l with|some r=>some (b::r)|none=>none)
   | none=>none)
  | none=>none)
def distinct_:List Nat→Bool
 | []=>true
 | x::l=>(match l.any (zC x)with|true=>false|false=>distinct_ l)
def canon_(sh:SH)(first:List Nat)(args:List SV):Option (List SV×List SB×List Nat):=
 let ids:=collect sh 200 (first++args.foldr (idsV 6) []) []
 match distinct_ ids&&zE ids.length 4000,mapO (ren (zbu ids) 6) args,blocks_ sh (zbu ids) ids with
 | true,some a,some bs=>some (a,bs,ids)
 | _,_,_=>none
def shOf(k c:Nat)(log:List Nat)(bs:List SB):SH:=⟨bs.length,k,c,log,Tr.ofList bs 0 .nil⟩
structure Left(α:Type) where
 v:α
 bs:List SB
 kp:List (Option (Nat×Bool))
def kpos:List (Option (Nat×Bool))→Nat→Nat→Option Nat
 | [],_,_=>none
 | some (j',_)::l,j,i=>(match zC j' j with|true=>some i|false=>kpos l j (i+1))
 | none::l,j,i=>kpos l j (i+1)
def bk_(ids:List Nat)(kp:List (Option (Nat×Bool)))(nx j:Nat):Option Nat:=
 match kpos kp j 0 with
 | some i=>ids[i]?
 | none=>some (nx+j)
def okK(all:List (Option (Nat×Bool)))(n:Nat):List (Option (Nat×Bool))→Nat→Bool
 | [],_=>true
 | none::l,i=>okK all n l (i+1)
 | some (j,_)::l,i=>(match kpos all j 0 with
  | some i'=>(match zC i' i&&zE j n with|true=>okK all n l (i+1)|false=>false)
  | none=>false)
def updK(m:Nat→Option Nat)(bs:List SB):List Nat→List (Option (Nat×Bool))→Option (List (Nat×SB))
 | [],[]=>some []
 | id::ids,none::kp=>(match updK m bs ids kp with|some r=>some ((id,.gone)::r)|none=>none)
 | id::ids,some (j,s)::kp=>(match updK m bs ids kp with
  | some r=>(match s with
   | true=>some r
   | false=>(match bs[j]? with
    | some b=>(match renB m b with|some b=>some ((id,b)::r)|none=>none)
    | none=>none))
  | none=>none)
 | _,_=>none
def updN(m:Nat→Option Nat)(kp:List (Option (Nat×Bool)))(nx:Nat):List SB→Nat→Option (List (Nat×SB))
 | [],_=>some []
 | b::l,j=>(match updN m kp nx l (j+1)with
  | some r=>(match kpos kp j 0 with
   | some _=>some r
   | none=>(match renB m b with|some b=>some ((nx+j,b)::r)|none=>none))
  | none=>none)
def setAll:List (Nat×SB)→Tr SB→Tr SB
 | [],t=>t
 | p::l,t=>(setAll l t).set 24 p.1 p.2
def back_{α:Type}(ids:List Nat)(L:Left α)(sh:SH):Option SH:=
 match okK L.kp L.bs.length L.kp 0&&(Nat.ble (sh.next+L.bs.length) 9223372036854775800&&zE L.bs.length 4000),updK (bk_ ids L.kp sh.next) L.bs ids L.kp,updN (bk_ ids L.kp sh.next) L.kp sh.next L.bs 0 with
 | true,some u,some n=>some ⟨sh.next+L.bs.length,sh.clk,sh.room,u.map (·.1)++sh.log,setAll (u++n) sh.t⟩
 | _,_,_=>none
def SH.frz(h:SH)(x:SV):Option (SV×SH):=
 match x with
 | .nsl id k c s n z=>(match src_ h k (.nsl id k c s n z)with
  | some q=>(match q.fr with
   | true=>some (.fsl (h.clk+1) k n (match z with|0=>some false|_=>none) q.e,⟨h.next,h.clk+1,h.room,id::h.log,h.t.set 24 id .gone⟩)
   | false=>none)
  | none=>none)
 | x=>some (x,h)
def SH.frzs(h:SH):List SV→Option (List SV×SH)
 | []=>some ([],h)
 | x::l=>(match h.frz x with
  | some (x,h)=>(match h.frzs l with|some (l,h)=>some (x::l,h)|none=>none)
  | none=>none)
def SH.frzA(h:SH)(x:SV):Option (SV×SH):=
 match x with
 | .agg l=>(match h.frzs l with|some (l,h)=>some (.agg l,h)|none=>none)
 | x=>h.frz x
def SH.frzL(h:SH):List Bool→List SV→Option (List SV×SH)
 | true::ms,x::l=>(match h.frzA x with
  | some (x,h)=>(match h.frzL ms l with|some (l,h)=>some (x::l,h)|none=>none)
  | none=>none)
 | _::ms,x::l=>(match h.frzL ms l with|some (l,h)=>some (x::l,h)|none=>none)
 | _,l=>some (l,h)
def zan(c:Nat)(ms:List Bool)(g:Nat→List SV→List SB→RT (Left SV))(args:List SV)(sh:SH):RT (SV×SH):=
 match sh.frzL ms args with
 | some (args,sh)=>(match canon_ sh [] args,sh.pay c with
  | some (args,bs,ids),some sh1=>(g sh.clk args bs).bind fun L=>(match ren (bk_ ids L.kp sh1.next) 6 L.v,back_ ids L sh1 with
   | some v,some sh2=>.ret (v,sh2)
   | _,_=>.bad)
  | _,_=>.bad)
 | none=>.bad
def regs2:List (Tmp×SV)→Fs→Option Fs
 | [],a=>some a
 | (t,v)::l,a=>(match a.put (some t) v with|some a=>regs2 l a|none=>none)
def zaD(c:Nat)(live ws:List Tmp)(g:Nat→List SV→List SB→RT (Left (Ex×List (Tmp×SV))))(a:Fs)(sh:SH):RT (Ex×Fs×SH):=
 match vals_ a live with
 | some vs=>(match canon_ sh [] vs,sh.pay c with
  | some (vs,bs,ids),some sh1=>(g sh.clk vs bs).bind fun L=>(match lostAll a.n ws a.t,mapO (fun p=>(match ren (bk_ ids L.kp sh1.next) 6 p.2 with|some v=>some (p.1,v)|none=>none)) L.v.2,back_ ids L sh1 with
   | some t,some rs,some sh2=>(match regs2 rs ⟨a.n,t⟩with
    | some a=>.ret (L.v.1,a,sh2)
    | none=>.bad)
   | _,_,_=>.bad)
  | _,_=>.bad)
 | none=>.bad
theorem zcx{α β:Type}{q:α→Option β}:∀ {l:List α} {r:List β},mapO q l=some r→r.length=l.length∧∀(i:Nat) (y:β),r[i]?=some y→∃x,l[i]?=some x∧q x=some y
 | [],r,h=>by injection h with h;subst h;exact⟨rfl,fun i y e=>by simp at e⟩
 | x::l,r,h=>by
  unfold mapO at h
  split at h
  .rename_i y hy
   split at h
   .rename_i r2 hr
    injection h with h;subst h
    obtain⟨h1,h2⟩:=zcx hr
    refine⟨by simp[h1],fun i z e=>?_⟩
    cases i with
    | zero=>simp at e;subst e;exact⟨x,rfl,hy⟩
    | succ i=>obtain⟨x2,e1,e2⟩:=h2 i z (by simpa using e);exact⟨x2,by simpa using e1,e2⟩
   .cases h
  .cases h
theorem ren_rel{F:Fz}{ι ι2:Im}{m:Nat→Option Nat}(hm:∀id j,m id=some j→ι2 j=ι id):∀(d:Nat) {v v2:SV} {w:Value},ren m d v=some v2→VRs F ι v w→VRs F ι2 v2 w
 | 0,v,v2,w,h,_=>by cases h
 | d+1,v,v2,w,h,hv=>by
  have hl:∀ {l l2:List SV} {l':List Value},mapO (ren m d) l=some l2→LRs F ι l l'→LRs F ι2 l2 l':=fun e hl=>by
   obtain⟨h1,h2⟩:=zcx e
   exact⟨h1.trans hl.1,fun i x y hx hy=>by obtain⟨x0,e1,e2⟩:=h2 i x hx;exact ren_rel hm d e2 (hl.2 i x0 y e1 hy)⟩
  unfold ren at h
  cases hv with
  | lost=>injection h with h;subst h;exact .lost ..
  | int=>injection h with h;subst h;exact .int ..
  | bool=>injection h with h;subst h;exact .bool ..
  | str=>injection h with h;subst h;exact .str ..
  | raw _ _ hb=>injection h with h;subst h;exact .raw _ _ hb
  | agg _ l l' h1 h2=>
   simp only at h
   split at h
   .rename_i l2 e;injection h with h;subst h;exact .agg_of (hl e ⟨h1,h2⟩)
   .cases h
  | tup _ l l' h1 h2=>
   simp only at h
   split at h
   .rename_i l2 e;injection h with h;subst h;exact .tup_of (hl e ⟨h1,h2⟩)
   .cases h
  | ptr _ id k c i o B a h1 h2 h3 h4=>
   simp only at h
   split at h
   .rename_i j hj;injection h with h;subst h;exact .ptr _ _ _ _ _ _ B _ ((hm _ _ hj).trans h1) h2 h3 h4
   .cases h
  | aptr _ id k c i o N j B a h1 h2 h3 h4 h5=>
   simp only at h
   split at h
   .rename_i j hj;injection h with h;subst h;exact .aptr _ _ _ _ _ _ _ _ B _ ((hm _ _ hj).trans h1) h2 h3 h4 h5
   .cases h
  | nsl _ id k c s n z B off cap h1 h2 h3 h4 h5 h6 h7=>
   simp only at h
   split at h
   .rename_i j hj;injection h with h;subst h;exact .nsl _ _ _ _ _ _ _ B _ _ ((hm _ _ hj).trans h1) h2 h3 h4 h5 h6 h7
   .cases h
  | nslN _ id k c s z hz=>
   simp only at h
   split at h
   .injection h with h;subst h;exact .nslN _ _ _ _ _ _ hz
   .cases h
  | nslE _ id k c s z hz=>
   simp only at h
   split at h
   .injection h with h;subst h;exact .nslE _ _ _ _ _ _ hz
   .cases h
  | asl _ id k c i o N cj j n B a off cap h1 h2 h3 h4 h5 h6 h7 h8=>
   simp only at h
   split at h
   .rename_i j hj;injection h with h;subst h;exact .asl _ _ _ _ _ _ _ _ _ _ B _ _ _ ((hm _ _ hj).trans h1) h2 h3 h4 h5 h6 h7 h8
   .cases h
  | fsl _ st k n nl e b o cs t cap h1 h2 h3 h4 h5 h6 h7=>injection h with h;subst h;exact .fsl _ _ _ _ _ _ b o cs t cap h1 h2 h3 h4 h5 h6 h7
  | fslN _ st k nl e hn=>injection h with h;subst h;exact .fslN _ _ _ _ _ hn
  | fslE _ st k nl e hn=>injection h with h;subst h;exact .fslE _ _ _ _ _ hn
  | fptr _ st k n e i o b q cs t h1 h2 h3 h4 h5 h6=>injection h with h;subst h;exact .fptr _ _ _ _ _ _ _ b q cs t h1 h2 h3 h4 h5 h6
  | mp _ id B h1=>
   simp only at h
   split at h
   .rename_i j hj;injection h with h;subst h;exact .mp _ _ B ((hm _ _ hj).trans h1)
   .cases h
  | fn _ f a b a' b' h1 h2 h3 h4=>
   simp only at h
   split at h
   .rename_i a2 b2 ea eb
    injection h with h;subst h
    obtain⟨p1,p2⟩:=hl ea ⟨h1,h2⟩
    obtain⟨q1,q2⟩:=hl eb ⟨h3,h4⟩
    exact .fn _ _ _ _ _ _ p1 p2 q1 q2
   .cases h
theorem renB_ok{F:Fz}{ι ι2:Im}{h:Hp}{m:Nat→Option Nat}(hm:∀id j,m id=some j→ι2 j=ι id){id j:Nat}(hid:ι2 j=ι id){b b2:SB}(h0:renB m b=some b2)(S:SbOk F ι h id b):SbOk F ι2 h j b2:=by
 cases b with
 | lst k rows t=>
  simp only[renB]at h0
  split at h0
  .rename_i rows2 hr
   injection h0 with h0;subst h0
   obtain⟨B,cs,h1,h2,h3,h4,h5⟩:=S
   obtain⟨r1,r2⟩:=zcx hr
   refine⟨B,cs,hid.trans h1,h2,h3.trans r1.symm,h4,fun i r e=>?_⟩
   obtain⟨r0,e1,e2⟩:=r2 i r e
   obtain⟨q1,q2⟩:=zcx e2
   obtain⟨p1,p2⟩:=h5 i r0 e1
   exact⟨q1.trans p1,fun j x y hx hy=>by obtain⟨x0,g1,g2⟩:=q2 j x hx;exact ren_rel hm 6 g2 (p2 j x0 y g1 hy)⟩
  .cases h0
 | row k n e t=>
  injection h0 with h0;subst h0
  rcases S with⟨h1,h2⟩|⟨B,cs,h1,h2⟩
  .exact .inl ⟨h1,hid.trans h2⟩
  .exact .inr ⟨B,cs,hid.trans h1,h2⟩
 | mp es c=>
  injection h0 with h0;subst h0
  obtain⟨B,h1,h2⟩:=S
  exact⟨B,hid.trans h1,h2⟩
 | gone=>cases h0
theorem zcX{m:Nat→Option Nat}{b b2:SB}(h:renB m b=some b2):b≠.gone∧b2≠.gone:=by
 cases b with
 | lst k rows t=>
  simp only[renB]at h
  split at h
  .injection h with h;subst h;exact⟨by simp,by simp⟩
  .cases h
 | row=>injection h with h;subst h;exact⟨by simp,by simp⟩
 | mp=>injection h with h;subst h;exact⟨by simp,by simp⟩
 | gone=>cases h
theorem zay{k c:Nat}{log:List Nat}{bs:List SB}(hb:bs.length<4000)(j:Nat):(shOf k c log bs).get j=bs[j]?:=by
 unfold shOf SH.get
 simp only
 rw[Tr.get_ofList _ _ _ _ (by omega)]
 split
 .simp
 .rw[Tr.get_nil,List.getElem?_eq_none (by omega)]
theorem zdq:∀ {l:List Nat} {x i:Nat},zbu l x=some i→l[i]?=some x
 | [],x,i,h=>by cases h
 | y::l,x,i,h=>by
  unfold zbu at h
  split at h
  .rename_i hb;injection h with h;subst h;rw[zG hb];rfl
  .split at h
   .rename_i j hj;injection h with h;subst h;simpa using zdq hj
   .cases h
theorem blocks_some{sh:SH}{m:Nat→Option Nat}:∀ {ids:List Nat} {bs:List SB},blocks_ sh m ids=some bs→bs.length=ids.length∧∀(i:Nat) (b:SB),bs[i]?=some b→∃id sb,ids[i]?=some id∧sh.get id=some sb∧renB m sb=some b
 | [],bs,h=>by injection h with h;subst h;exact⟨rfl,fun i b e=>by simp at e⟩
 | id::ids,bs,h=>by
  unfold blocks_ at h
  split at h
  .rename_i sb hsb
   split at h
   .rename_i b2 hb2
    split at h
    .rename_i r hr
     injection h with h;subst h
     obtain⟨h1,h2⟩:=blocks_some hr
     refine⟨by simp[h1],fun i b e=>?_⟩
     cases i with
     | zero=>simp at e;subst e;exact⟨id,sb,rfl,hsb,hb2⟩
     | succ i=>obtain⟨id2,sb2,q1,q2⟩:=h2 i b (by simpa using e);exact⟨id2,sb2,by simpa using q1,q2⟩
    .cases h
   .cases h
  .cases h
theorem distinct_inj:∀ {l:List Nat},distinct_ l=true→∀ {i j x:Nat},l[i]?=some x→l[j]?=some x→i=j
 | [],_,i,j,x,h1,_=>by simp at h1
 | y::l,h,i,j,x,h1,h2=>by
  unfold distinct_ at h
  split at h
  .cases h
  .rename_i hn
   have no:∀q,l[q]?≠some y:=fun q e=>by
    have:l.any (zC y)=true:=List.any_eq_true.2 ⟨y,List.mem_of_getElem? e,by simp⟩
    rw[hn]at this;cases this
   cases i with
   | zero=>
    cases j with
    | zero=>rfl
    | succ j=>simp at h1 h2;subst h1;exact absurd h2 (no j)
   | succ i=>
    cases j with
    | zero=>simp at h1 h2;subst h2;exact absurd h1 (no i)
    | succ j=>have:=distinct_inj h (i:=i) (j:=j) (x:=x) (by simpa using h1) (by simpa using h2);omega
def subI(ι:Im)(ids:List Nat):Im:=fun j=>match ids[j]? with|some id=>ι id|none=>none
theorem subI_place{ι:Im}{ids:List Nat}{id j:Nat}(h:zbu ids id=some j):subI ι ids j=ι id:=by unfold subI;rw[zdq h]
structure Part(sh:SH)(bs:List SB)(ids:List Nat):Prop where
 len:bs.length=ids.length
 small:bs.length<4000
 inj:∀ {i j x:Nat},ids[i]?=some x→ids[j]?=some x→i=j
 at_:∀(i:Nat) (b:SB),bs[i]?=some b→∃id sb,ids[i]?=some id∧sh.get id=some sb∧renB (zbu ids) sb=some b
 live:∀(i id:Nat),ids[i]?=some id→Live sh id
theorem zcC{sh:SH}{first:List Nat}{args a:List SV}{bs:List SB}{ids:List Nat}(h:canon_ sh first args=some (a,bs,ids)):Part sh bs ids∧mapO (ren (zbu ids) 6) args=some a:=by
 unfold canon_ at h
 simp only at h
 generalize collect sh 200 (first++args.foldr (idsV 6) []) []=ids0 at h
 split at h
 .rename_i a2 bs2 h1 h2 h3
  simp only[zA,zD]at h
  obtain⟨rfl,rfl,rfl⟩:=h
  rw[zH]at h1
  obtain⟨b1,b2⟩:=blocks_some h3
  have hl:ids0.length<4000:=by simpa [zN]using h1.2
  refine⟨⟨b1,by omega,fun p q=>distinct_inj h1.1 p q,b2,fun i id hi=>?_⟩,h2⟩
  have hlt:i<bs2.length:=by rw[b1];exact(List.getElem?_eq_some_iff.1 hi).1
  obtain⟨id2,sb,q1,q2,q3⟩:=b2 i bs2[i] (by simp[hlt])
  rw[hi]at q1;injection q1 with q1;subst q1
  exact⟨sb,q2,(zcX q3).1⟩
 .cases h
theorem part_hr{F:Fz}{ι:Im}{sh:SH}{h:Hp}{bs:List SB}{ids:List Nat}(H:HRs F ι sh h)(P:Part sh bs ids){c:Nat}(hc:c≤sh.room){log:List Nat}:HRs F (subI ι ids) (shOf sh.clk c log bs) h where
 most:=by have:=H.most;show h.next+c≤_;omega
 smost:=by have:=P.small;show bs.length≤_;omega
 sdom:=fun id hid=>by
  have hid:bs.length≤id:=hid
  refine⟨by rw[zay P.small,List.getElem?_eq_none hid],?_⟩
  unfold subI
  rw[List.getElem?_eq_none (by rw[←P.len];exact hid)]
 ok:=fun i b e=>by
  rw[zay P.small]at e
  obtain⟨id,sb,q1,q2,q3⟩:=P.at_ i b e
  exact renB_ok (fun id j hj=>subI_place hj) (by unfold subI;rw[q1]) q3 (H.ok id sb q2)
 apart:=fun i j B B' hne l1 l2 e1 e2=>by
  obtain⟨b1,p1,_⟩:=l1
  obtain⟨b2,p2,_⟩:=l2
  rw[zay P.small]at p1 p2
  obtain⟨id1,sb1,q1,q2,q3⟩:=P.at_ i b1 p1
  obtain⟨id2,sb2,r1,r2,r3⟩:=P.at_ j b2 p2
  unfold subI at e1 e2
  rw[q1]at e1
  rw[r1]at e2
  refine H.apart id1 id2 B B' (fun e=>?_) ⟨sb1,q2,(zcX q3).1⟩ ⟨sb2,r2,(zcX r3).1⟩ e1 e2
  subst e
  exact hne (P.inj q1 r1)
 frz:=fun b cs t e=>H.frz b cs t e
 fap:=fun b x i B e l e2=>by
  obtain⟨b1,p1,_⟩:=l
  rw[zay P.small]at p1
  obtain⟨id1,sb1,q1,q2,q3⟩:=P.at_ i b1 p1
  unfold subI at e2
  rw[q1]at e2
  exact H.fap b x id1 B e ⟨sb1,q2,(zcX q3).1⟩ e2
theorem part_args{F:Fz}{ι:Im}{ids:List Nat}{args a:List SV}(h:mapO (ren (zbu ids) 6) args=some a){args':List Value}(hl:LRs F ι args args'):LRs F (subI ι ids) a args':=by
 obtain⟨h1,h2⟩:=zcx h
 exact⟨h1.trans hl.1,fun i x y hx hy=>by obtain⟨x0,e1,e2⟩:=h2 i x hx;exact ren_rel (fun id j hj=>subI_place hj) 6 e2 (hl.2 i x0 y e1 hy)⟩
def zaG(kp:List (Option (Nat×Bool)))(i:Nat):Prop:=kp[i]?=some none∨∃j,kp[i]?=some (some (j,false))
structure Frm(F:Fz)(ι:Im)(h:Hp)(n:Nat)(kp:List (Option (Nat×Bool)))(k:Nat)(F':Fz)(ι':Im)(h':Hp)(c:Nat):Prop where
 fm:F.le F'
 fnew:∀b cs t,F' b=some (cs,t)→F b=some (cs,t)∨(k≤t∧(h.next≤b∨∃i B,zaG kp i∧ι i=some B∧B.b=b))
 hnext:h.next≤h'.next
 room:h'.next≤h.next+c
 keep:∀b,b<h.next→(∀i B,zaG kp i→ι i=some B→B.b≠b)→h'.get b=h.get b
 kept:∀i j s,kp[i]?=some (some (j,s))→ι' j=ι i
 new:∀j B,ι' j=some B→kpos kp j 0=none→h.next≤B.b∨∃i B0,zaG kp i∧ι i=some B0∧B0.b=B.b
 len:kp.length=n
theorem zb1:∀ {l:List (Option (Nat×Bool))} {j i0 i:Nat},kpos l j i0=some i→i0≤i∧∃s,l[i-i0]?=some (some (j,s))
 | [],j,i0,i,h=>by cases h
 | none::l,j,i0,i,h=>by
  unfold kpos at h
  obtain⟨h1,s,h2⟩:=zb1 h
  refine⟨by omega,s,?_⟩
  rw[show i-i0=i-(i0+1)+1 by omega]
  simpa using h2
 | some (j',s')::l,j,i0,i,h=>by
  unfold kpos at h
  split at h
  .rename_i hb
   injection h with h;subst h
   have:=zG hb
   subst this
   exact⟨zB _,s',by simp⟩
  .obtain⟨h1,s,h2⟩:=zb1 h
   refine⟨by omega,s,?_⟩
   rw[show i-i0=i-(i0+1)+1 by omega]
   simpa using h2
theorem okK_at{all:List (Option (Nat×Bool))}{n:Nat}:∀ {l:List (Option (Nat×Bool))} {i0:Nat},okK all n l i0=true→∀ {i j:Nat} {s:Bool},l[i]?=some (some (j,s))→kpos all j 0=some (i0+i)∧j<n
 | [],i0,_,i,j,s,e=>by simp at e
 | none::l,i0,h,i,j,s,e=>by
  unfold okK at h
  cases i with
  | zero=>simp at e
  | succ i=>
   have:=okK_at h (i:=i) (by simpa using e)
   rw[show i0+(i+1)=i0+1+i by omega];exact this
 | some (j',s')::l,i0,h,i,j,s,e=>by
  unfold okK at h
  split at h
  .rename_i i' hi
   split at h
   .rename_i hb
    rw[zH]at hb
    cases i with
    | zero=>
     simp at e
     obtain⟨rfl,rfl⟩:=e
     have:=zG hb.1
     subst this
     exact⟨hi,by simpa [zN]using hb.2⟩
    | succ i=>
     have:=okK_at h (i:=i) (by simpa using e)
     rw[show i0+(i+1)=i0+1+i by omega];exact this
   .cases h
  .cases h
def look:List (Nat×SB)→Nat→Option SB
 | [],_=>none
 | p::l,j=>if j=p.1 then some p.2 else look l j
theorem setAll_get:∀ {l:List (Nat×SB)} {t:Tr SB},(∀p∈l,p.1<9223372036854775808)→∀j,(setAll l t).get j=match look l j with|some b=>some b|none=>t.get j
 | [],t,_,j=>rfl
 | p::l,t,h,j=>by
  unfold setAll look
  have hp:p.1<9223372036854775808:=h p (by simp)
  rw[Tr.get_set 24 _ _ _ _ (by omega)]
  by_cases e:j=p.1
  .rw[if_pos e,if_pos e]
  .rw[if_neg e,if_neg e]
   exact setAll_get (fun q hq=>h q (by simp[hq])) j
theorem look_app:∀ {a b:List (Nat×SB)} {j:Nat},look (a++b) j=match look a j with|some x=>some x|none=>look b j
 | [],b,j=>rfl
 | p::a,b,j=>by
  simp only[List.cons_append,look]
  by_cases e:j=p.1
  .rw[if_pos e,if_pos e]
  .rw[if_neg e,if_neg e];exact look_app
theorem zdu:∀ {l:List (Nat×SB)} {j:Nat},(∃b,look l j=some b)↔j∈l.map (·.1)
 | [],j=>by simp[look]
 | p::l,j=>by
  unfold look
  by_cases e:j=p.1
  .rw[if_pos e];simp[e]
  .rw[if_neg e,zdu];simp[e]
theorem updK_look{m:Nat→Option Nat}{bs:List SB}:∀ {ids:List Nat} {kp:List (Option (Nat×Bool))} {u:List (Nat×SB)},updK m bs ids kp=some u→ids.length=kp.length∧
  (∀id b,look u id=some b→∃i:Nat,ids[i]?=some id∧((kp[i]?=some none∧b=.gone)∨∃j b0,kp[i]?=some (some (j,false))∧bs[j]?=some b0∧renB m b0=some b))∧
  (∀i id:Nat,ids[i]?=some id→zaG kp i→∃b,look u id=some b)
 | [],[],u,h=>by injection h with h;subst h;exact⟨rfl,fun id b e=>by simp[look]at e,fun i id e=>by simp at e⟩
 | [],_::_,u,h=>by simp[updK]at h
 | _::_,[],u,h=>by simp[updK]at h
 | id0::ids,none::kp,u,h=>by
  unfold updK at h
  split at h
  .rename_i r hr
   injection h with h;subst h
   obtain⟨h1,h2,h3⟩:=updK_look hr
   refine⟨by simp[h1],fun id b e=>?_,fun i id e t=>?_⟩
   .unfold look at e
    by_cases hq:id=id0
    .rw[if_pos hq]at e;injection e with e;subst e;exact⟨0,by simp[hq],.inl ⟨rfl,rfl⟩⟩
    .rw[if_neg hq]at e
     obtain⟨i,q1,q2⟩:=h2 id b e
     exact⟨i+1,by simpa using q1,by simpa using q2⟩
   .unfold look
    by_cases hq:id=id0
    .rw[if_pos hq];exact⟨_,rfl⟩
    .rw[if_neg hq]
     cases i with
     | zero=>simp at e;exact absurd e.symm hq
     | succ i=>exact h3 i id (by simpa using e) (by simpa [zaG]using t)
  .cases h
 | id0::ids,some (j0,s0)::kp,u,h=>by
  unfold updK at h
  split at h
  .rename_i r hr
   obtain⟨h1,h2,h3⟩:=updK_look hr
   split at h
   .injection h with h;subst h
    refine⟨by simp[h1],fun id b e=>?_,fun i id e t=>?_⟩
    .obtain⟨i,q1,q2⟩:=h2 id b e
     exact⟨i+1,by simpa using q1,by simpa using q2⟩
    .cases i with
     | zero=>rcases t with t|⟨j,t⟩<;>simp at t
     | succ i=>exact h3 i id (by simpa using e) (by simpa [zaG]using t)
   .split at h
    .rename_i b0 hb0
     split at h
     .rename_i b2 hb2
      injection h with h;subst h
      refine⟨by simp[h1],fun id b e=>?_,fun i id e t=>?_⟩
      .unfold look at e
       by_cases hq:id=id0
       .rw[if_pos hq]at e;injection e with e;subst e;exact⟨0,by simp[hq],.inr ⟨j0,b0,rfl,hb0,hb2⟩⟩
       .rw[if_neg hq]at e
        obtain⟨i,q1,q2⟩:=h2 id b e
        exact⟨i+1,by simpa using q1,by simpa using q2⟩
      .unfold look
       by_cases hq:id=id0
       .rw[if_pos hq];exact⟨_,rfl⟩
       .rw[if_neg hq]
        cases i with
        | zero=>simp at e;exact absurd e.symm hq
        | succ i=>exact h3 i id (by simpa using e) (by simpa [zaG]using t)
     .cases h
    .cases h
  .cases h
theorem updN_look{m:Nat→Option Nat}{kp:List (Option (Nat×Bool))}{nx:Nat}:∀ {l:List SB} {j0:Nat} {u:List (Nat×SB)},updN m kp nx l j0=some u→
  ∀id b,look u id=some b→∃(j:Nat) (b0:SB),id=nx+(j0+j)∧l[j]?=some b0∧kpos kp (j0+j) 0=none∧renB m b0=some b
 | [],j0,u,h,id,b,e=>by injection h with h;subst h;simp[look]at e
 | x::l,j0,u,h,id,b,e=>by
  unfold updN at h
  split at h
  .rename_i r hr
   have ih:=updN_look hr
   have next:look r id=some b→∃(j:Nat) (b0:SB),id=nx+(j0+j)∧(x::l)[j]?=some b0∧kpos kp (j0+j) 0=none∧renB m b0=some b:=fun e=>by
    obtain⟨j,b0,q1,q2,q3,q4⟩:=ih id b e
    rw[show j0+1+j=j0+(j+1) by omega]at q1 q3
    exact⟨j+1,b0,q1,by simpa using q2,q3,q4⟩
   split at h
   .injection h with h;subst h;exact next e
   .rename_i hk
    split at h
    .rename_i b2 hb2
     injection h with h;subst h
     unfold look at e
     by_cases hq:id=nx+j0
     .rw[if_pos hq]at e;injection e with e;subst e;exact⟨0,x,by simp[hq],rfl,by simpa using hk,hb2⟩
     .rw[if_neg hq]at e;exact next e
    .cases h
  .cases h
theorem HRs.blk_lt{F:Fz}{ι:Im}{sh:SH}{h:Hp}(H:HRs F ι sh h){j:Nat}{C:Bl}(hl:Live sh j)(e:ι j=some C):C.b<h.next∧(∀v,h.get C.b≠some (.view v)):=by
 obtain⟨s,hs1,hs2⟩:=hl
 have:=H.ok j s hs1
 cases s with
 | lst k rows t=>obtain⟨D,cs,q1,_,_,q2,_⟩:=this;rw[q1]at e;injection e with e;subst e;exact⟨q2.lt,fun v e2=>by rw[q2.got]at e2;cases e2⟩
 | row k n f t=>
  rcases this with⟨_,q⟩|⟨D,cs,q1,_,_,q2,_⟩
  .rw[q]at e;cases e
  .rw[q1]at e;injection e with e;subst e;exact⟨q2.lt,fun v e2=>by rw[q2.got]at e2;cases e2⟩
 | mp es c=>obtain⟨D,q1,q2,q3⟩:=this;rw[q1]at e;injection e with e;subst e;exact⟨q3,fun v e2=>by rw[q2]at e2;cases e2⟩
 | gone=>exact absurd rfl hs2
theorem back_ok{F:Fz}{ι:Im}{sh:SH}{h:Hp}(H:HRs F ι sh h){bs:List SB}{ids:List Nat}(P:Part sh bs ids){c:Nat}{sh1:SH}(hp:sh.pay c=some sh1){α:Type}{L:Left α}{F':Fz}{ι':Im}{h':Hp}
  (H':HRs F' ι' (shOf (sh.clk+1) 0 [] L.bs) h') (M:Frm F (subI ι ids) h ids.length L.kp (sh.clk+1) F' ι' h' c) {sh2:SH} (hb:back_ ids L sh1=some sh2) :
  ∃ι2,HRs F' ι2 sh2 h'∧Stp F ι sh h F' ι2 sh2 h'∧∀v v2 w,ren (bk_ ids L.kp sh1.next) 6 v=some v2→VRs F' ι' v w→VRs F' ι2 v2 w:=by
 obtain⟨hc,rfl⟩:=pay_some hp
 unfold back_ at hb
 simp only at hb ⊢
 split at hb
 .rename_i u n hok hu hn
  injection hb with hb
  rw[zH,zH]at hok
  obtain⟨ok1,ok2,ok3⟩:=hok
  have ok2:sh.next+L.bs.length≤9223372036854775800:=zO ok2
  have ok3:L.bs.length<4000:=by simpa [zN]using ok3
  obtain⟨u1,u2,u3⟩:=updK_look hu
  have n2:=updN_look hn
  have idlt:∀ {i id:Nat},ids[i]?=some id→id<sh.next:=fun e=>by
   obtain⟨sb,q1,_⟩:=P.live _ _ e
   exact H.get_lt q1
  have usm:∀p∈u++n,p.1<9223372036854775808:=fun p hp=>by
   have hm:p.1∈(u++n).map (·.1):=List.mem_map_of_mem hp
   obtain⟨b,hb⟩:=zdu.2 hm
   rw[look_app]at hb
   split at hb
   .rename_i x hx
    obtain⟨i,q1,_⟩:=u2 _ _ hx
    have:=idlt q1
    omega
   .obtain⟨j,b0,q1,q2,_⟩:=n2 _ _ hb
    have:j<L.bs.length:=(List.getElem?_eq_some_iff.1 q2).1
    omega
  have hget:∀id,sh2.get id=match look (u++n) id with|some b=>some b|none=>sh.get id:=fun id=>by
   rw[←hb];exact setAll_get usm id
  have hnext:sh2.next=sh.next+L.bs.length:=by rw[←hb]
  have hclk:sh2.clk=sh.clk+1:=by rw[←hb]
  have hroom:sh2.room=sh.room-c:=by rw[←hb]
  have hlog:sh2.log=u.map (·.1)++sh.log:=by rw[←hb]
  let ι2:Im:=fun id=>if id<sh.next then ι id else(if id<sh.next+L.bs.length then(match kpos L.kp (id-sh.next) 0 with|none=>ι' (id-sh.next)|some _=>none)else none)
  have iold:∀id,id<sh.next→ι2 id=ι id:=fun id hid=>if_pos hid
  have hle:ι.le ι2:=fun id B e=>by rw[iold id (H.id_lt e)];exact e
  have hbk:∀j id,bk_ ids L.kp sh.next j=some id→ι2 id=ι' j:=fun j id e=>by
   unfold bk_ at e
   split at e
   .rename_i i hi
    obtain⟨_,s,hk⟩:=zb1 hi
    rw[iold id (idlt e),M.kept i j s (by simpa using hk)]
    unfold subI
    rw[e]
   .rename_i hi
    injection e with e;subst e
    show(if sh.next+j<sh.next then _ else _)=_
    rw[if_neg (by omega)]
    by_cases hj:j<L.bs.length
    .rw[if_pos (by omega),show sh.next+j-sh.next=j by omega,hi]
    .rw[if_neg (by omega)]
     exact((H'.sdom j (by show L.bs.length≤j;omega)).2).symm
  have src:∀id sb,sh2.get id=some sb→sb≠.gone→(sh.get id=some sb∧id<sh.next∧∀i,ids[i]?=some id→¬zaG L.kp i)∨
    (∃j b0,L.bs[j]?=some b0∧renB (bk_ ids L.kp sh.next) b0=some sb∧bk_ ids L.kp sh.next j=some id∧((∃i,ids[i]?=some id)∨kpos L.kp j 0=none)):=fun id sb e hne=>by
   rw[hget,look_app]at e
   split at e
   .rename_i b hlb
    injection e with e;subst e
    split at hlb
    .rename_i x hx
     injection hlb with hlb;subst hlb
     obtain⟨i,q1,⟨q2,q3⟩|⟨j,b0,q2,q3,q4⟩⟩:=u2 _ _ hx
     .exact absurd q3 hne
     .right
      refine⟨j,b0,q3,q4,?_,.inl ⟨i,q1⟩⟩
      have:=(okK_at ok1 q2).1
      unfold bk_
      rw[this]
      simpa using q1
    .obtain⟨j,b0,q1,q2,q3,q4⟩:=n2 _ _ hlb
     simp only[Nat.zero_add]at q1 q3
     right
     refine⟨j,b0,q2,q4,?_,.inr q3⟩
     unfold bk_
     rw[q3,q1]
   .rename_i hlb
    left
    refine⟨e,H.get_lt e,fun i hi ht=>?_⟩
    obtain⟨b,hb2⟩:=u3 i id hi ht
    rw[hb2]at hlb
    cases hlb
  have tlive:∀i B,zaG L.kp i→subI ι ids i=some B→∃id,ids[i]?=some id∧ι id=some B∧Live sh id:=fun i B ht e=>by
   unfold subI at e
   split at e
   .rename_i id hi;exact⟨id,hi,e,P.live i id hi⟩
   .cases e
  have keepB:∀b,b<h.next→(∀id B,(∃i,ids[i]?=some id∧zaG L.kp i)→ι id=some B→B.b≠b)→h'.get b=h.get b:=fun b hlt hno=>
   M.keep b hlt fun i B ht e=>by
    obtain⟨id,q1,q2,_⟩:=tlive i B ht e
    exact hno id B ⟨i,q1,ht⟩ q2
  have blive:∀j b0,L.bs[j]?=some b0→∀sb,renB (bk_ ids L.kp sh.next) b0=some sb→Live (shOf (sh.clk+1) 0 [] L.bs) j:=fun j b0 e sb e2=>⟨b0,by rw[zay ok3];exact e,(zcX e2).1⟩
  have aB:∀id C,Live sh id→(∀i,ids[i]?=some id→¬zaG L.kp i)→ι id=some C→∀j id' B,bk_ ids L.kp sh.next j=some id'→((∃i,ids[i]?=some id')∨kpos L.kp j 0=none)→id≠id'→ι' j=some B→C.b≠B.b:=fun id C hl hnt e j id' B hj ho hne e2=>by
   have e3:=hbk j id' hj
   rcases ho with⟨i,hi⟩|hk
   .rw[iold id' (idlt hi),e2]at e3
    exact H.apart id id' C B hne hl (P.live i id' hi) e e3
   .rcases M.new j B e2 hk with q|⟨i,B0,q1,q2,q3⟩
    .have:=(H.blk_lt hl e).1;omega
    .obtain⟨id0,p1,p2,p3⟩:=tlive i B0 q1 q2
     rw[←q3]
     refine H.apart id id0 C B0 (fun e0=>?_) hl p3 e p2
     subst e0
     exact hnt i p1 q1
  refine⟨ι2,⟨?_,by rw[hnext];omega,fun id hid=>?_,fun id sb e=>?_,fun id id' B B' hne l1 l2 e1 e2=>?_,fun b cs t e=>?_,fun b x id B e l e2=>?_⟩,
   ⟨iold,M.fm,fun b cs t e=>?_,by rw[hnext];omega,by rw[hclk];omega,M.hnext,by have:=M.room;rw[hroom];omega,u.map (·.1),hlog,fun id hid hno=>?_,fun id hid hlt=>?_,fun b hlt hno=>?_,fun id B hid e=>?_⟩,
   fun v v2 w e hv=>ren_rel hbk 6 e hv⟩
  .have:=M.room;have:=H.most;rw[hroom];omega
  .rw[hnext]at hid
   have hl:look (u++n) id=none:=by
    cases hq:look (u++n) id with
    | none=>rfl
    | some b=>
     rw[look_app]at hq
     split at hq
     .rename_i x hx
      obtain⟨i,q1,_⟩:=u2 _ _ hx
      have:=idlt q1;omega
     .obtain⟨j,b0,q1,q2,_⟩:=n2 _ _ hq
      have:j<L.bs.length:=(List.getElem?_eq_some_iff.1 q2).1
      omega
   refine⟨by rw[hget,hl];exact(H.sdom id (by omega)).1,?_⟩
   show(if id<sh.next then _ else _)=_
   rw[if_neg (by omega),if_neg (by omega)]
  .by_cases hg:sb=.gone
   .subst hg;trivial
   rcases src id sb e hg with⟨q1,q2,q3⟩|⟨j,b0,q1,q2,q3,q4⟩
   .refine(H.ok id sb q1).keep M.fm hle (iold id q2) M.hnext fun B hB=>?_
    have hl:Live sh id:=⟨sb,q1,hg⟩
    obtain⟨k1,k2⟩:=H.blk_lt hl hB
    refine⟨keepB _ k1 fun id' B' ⟨i,hi,ht⟩ e'=>H.apart id' id B' B (fun e0=>by subst e0;exact q3 i hi ht) (P.live i id' hi) hl e' hB,fun _ hv hw=>keepB _ hv fun id' B' ⟨i,hi,ht⟩ e' e0=>?_⟩
    have:=(H.blk_lt (P.live i id' hi) e').2 B.b
    rw[e0]at this
    exact this hw
   .exact renB_ok hbk (hbk j id q3) q2 (H'.ok j b0 (by rw[zay ok3];exact q1))
  .obtain⟨s1,a1,a2⟩:=l1
   obtain⟨s2,b1,b2⟩:=l2
   rcases src id s1 a1 a2 with⟨q1,q2,q3⟩|⟨j,c0,q1,q2,q3,q4⟩
   .rw[iold id q2]at e1
    rcases src id' s2 b1 b2 with⟨r1,r2,r3⟩|⟨j',d0,r1,r2,r3,r4⟩
    .rw[iold id' r2]at e2
     exact H.apart id id' B B' hne ⟨s1,q1,a2⟩ ⟨s2,r1,b2⟩ e1 e2
    .exact aB id B ⟨s1,q1,a2⟩ q3 e1 j' id' B' r3 r4 hne (by rw[←hbk j' id' r3];exact e2)
   .rcases src id' s2 b1 b2 with⟨r1,r2,r3⟩|⟨j',d0,r1,r2,r3,r4⟩
    .rw[iold id' r2]at e2
     exact(aB id' B' ⟨s2,r1,b2⟩ r3 e2 j id B q3 q4 (Ne.symm hne) (by rw[←hbk j id q3];exact e1)).symm
    .rw[hbk j id q3]at e1
     rw[hbk j' id' r3]at e2
     refine H'.apart j j' B B' (fun e0=>?_) (blive j c0 q1 _ q2) (blive j' d0 r1 _ r2) e1 e2
     subst e0
     rw[q3]at r3
     injection r3 with r3
     exact hne r3
  .rw[hclk];exact H'.frz b cs t e
  .obtain⟨s1,a1,a2⟩:=l
   rcases src id s1 a1 a2 with⟨q1,q2,q3⟩|⟨j,c0,q1,q2,q3,q4⟩
   .rw[iold id q2]at e2
    have hl:Live sh id:=⟨s1,q1,a2⟩
    obtain⟨cs,t⟩:=x
    rcases M.fnew b cs t e with r|⟨_,r|⟨i,B0,r1,r2,r3⟩⟩
    .exact H.fap b _ id B r hl e2
    .have:=(H.blk_lt hl e2).1;omega
    .obtain⟨id0,p1,p2,p3⟩:=tlive i B0 r1 r2
     rw[←r3]
     exact H.apart id id0 B B0 (fun e0=>by subst e0;exact q3 i p1 r1) hl p3 e2 p2
   .rw[hbk j id q3]at e2
    exact H'.fap b x j B e (blive j c0 q1 _ q2) e2
  .rcases M.fnew b cs t e with r|⟨r0,r|⟨i,B0,r1,r2,r3⟩⟩
   .exact .inl r
   .exact .inr ⟨r0,.inl r⟩
   .obtain⟨id0,p1,p2,p3⟩:=tlive i B0 r1 r2
    exact .inr ⟨r0,.inr ⟨id0,B0,idlt p1,p3,p2,r3⟩⟩
  .rw[hget,look_app]
   have h1:look u id=none:=by
    cases hq:look u id with
    | none=>rfl
    | some b=>exact absurd (zdu.1 ⟨b,hq⟩) hno
   rw[h1]
   simp only
   have h2:look n id=none:=by
    cases hq:look n id with
    | none=>rfl
    | some b=>obtain⟨j,b0,q1,_⟩:=n2 _ _ hq;omega
   rw[h2]
  .obtain⟨b,hb2⟩:=zdu.2 hid
   obtain⟨i,q1,_⟩:=u2 _ _ hb2
   exact P.live i id q1
  .refine keepB b hlt fun id B ⟨i,hi,ht⟩ e=>hno id B ?_ (idlt hi) e
   exact zdu.1 (u3 i id hi ht)
  .have hq:ι2 id=some B:=e
   have hd:ι2 id=if id<sh.next+L.bs.length then(match kpos L.kp (id-sh.next) 0 with|none=>ι' (id-sh.next)|some _=>none)else none:=if_neg (by omega)
   rw[hd]at hq
   split at hq
   .split at hq
    .rename_i hk
     rcases M.new _ B hq hk with r|⟨i,B0,r1,r2,r3⟩
     .exact .inl r
     .obtain⟨id0,p1,p2,p3⟩:=tlive i B0 r1 r2
      exact .inr ⟨id0,B0,zdu.1 (u3 i id0 p1 r1),idlt p1,p2,r3⟩
    .cases hq
   .cases hq
 .cases hb
def frzH(sh:SH)(id:Nat):SH:=⟨sh.next,sh.clk+1,sh.room,id::sh.log,sh.t.set 24 id .gone⟩
theorem frz_hr{F:Fz}{ι:Im}{sh:SH}{h:Hp}(H:HRs F ι sh h){id:Nat}(hl:live1 sh id=true) :
  ∃F',F.le F'∧(∀B cs t,ι id=some B→zas h B cs t→F' B.b=some (cs,sh.clk+1))∧HRs F' ι (frzH sh id) h∧Stp F ι sh h F' ι (frzH sh id) h:=by
 have hL:=live1_live hl
 have hid:id<sh.next:=by obtain⟨sb,q,_⟩:=hL;exact H.get_lt q
 have hsm:=H.smost
 have hget:∀j,(frzH sh id).get j=if j=id then some .gone else sh.get j:=fun j=>by
  unfold frzH SH.get
  exact Tr.get_set 24 _ _ _ _ (by omega)
 have live:∀j,Live (frzH sh id) j→j≠id∧Live sh j:=by
  rintro j ⟨s,h1,h2⟩
  rw[hget]at h1
  split at h1
  .injection h1 with h1;exact absurd h1.symm h2
  .rename_i hne;exact⟨hne,s,h1,h2⟩
 obtain⟨F',f1,f2,f3,f4,f5⟩:∃F':Fz,F.le F'∧(∀B cs t,ι id=some B→zas h B cs t→F' B.b=some (cs,sh.clk+1))∧
   (∀b cs t,F' b=some (cs,t)→F b=some (cs,t)∨(t=sh.clk+1∧∃B,ι id=some B∧B.b=b))∧
   (∀b cs t,F' b=some (cs,t)→t≤sh.clk+1∧b<h.next∧ones_ cs=true∧∃e x ro,h.get b=some (.cells cs e x ro))∧True:=by
  cases hi:ι id with
  | none=>exact⟨F,Fz.le.refl _,fun B cs t e=>(by cases e),fun b cs t e=>.inl e,fun b cs t e=>by obtain⟨q1,q2⟩:=H.frz b cs t e;exact⟨by omega,q2⟩,trivial⟩
  | some B=>
   obtain⟨cs,t,S⟩:=za4 H hl hi
   refine⟨fun b=>if b=B.b then some (cs,sh.clk+1)else F b,fun b x e=>?_,fun B2 cs2 t2 e S2=>?_,fun b cs2 t2 e=>?_,fun b cs2 t2 e=>?_,trivial⟩
   .show(if b=B.b then _ else _)=_
    rw[if_neg (fun q=>H.fap b x id B e hL hi q.symm)];exact e
   .injection e with e;subst e
    show(if B.b=B.b then _ else _)=_
    rw[if_pos rfl]
    have:=S.got
    rw[S2.got]at this
    injection this with this;injection this with this;rw[this]
   .have e:(if b=B.b then some (cs,sh.clk+1)else F b)=some (cs2,t2):=e
    split at e
    .rename_i hb
     simp only[zA,zD]at e
     exact .inr ⟨e.2.symm,B,rfl,hb.symm⟩
    .exact .inl e
   .have e:(if b=B.b then some (cs,sh.clk+1)else F b)=some (cs2,t2):=e
    split at e
    .rename_i hb
     simp only[zA,zD]at e
     obtain⟨rfl,rfl⟩:=e
     subst hb
     exact⟨zB _,S.lt,S.one,_,_,_,S.got⟩
    .obtain⟨q1,q2⟩:=H.frz b cs2 t2 e;exact⟨by omega,q2⟩
 refine⟨F',f1,f2,⟨H.most,H.smost,fun j hj=>?_,fun j s e=>?_,fun j j' B B' hne l1 l2 e1 e2=>H.apart j j' B B' hne (live j l1).2 (live j' l2).2 e1 e2,fun b cs t e=>f4 b cs t e,fun b x j C e l e2=>?_⟩,
  ⟨fun _ _=>rfl,f1,fun b cs t e=>?_,zB _,Nat.le_succ _,zB _,zB _,[id],rfl,fun j hj hno=>?_,fun j hj hlt=>?_,fun _ _ _=>rfl,fun j C hj e=>?_⟩⟩
 .have hj:sh.next≤j:=hj
  rw[hget,if_neg (by omega)]
  exact H.sdom j hj
 .rw[hget]at e
  split at e
  .injection e with e;subst e;trivial
  .exact(H.ok j s e).keep f1 (Im.le.refl _) rfl (zB _) fun B _=>⟨rfl,fun _ _ _=>rfl⟩
 .obtain⟨hne,l2⟩:=live j l
  obtain⟨cs,t⟩:=x
  rcases f3 b cs t e with q|⟨_,B,q1,q2⟩
  .exact H.fap b _ j C q l2 e2
  .rw[←q2];exact H.apart j id C B hne l2 hL e2 q1
 .rcases f3 b cs t e with q|⟨q0,B,q1,q2⟩
  .exact .inl q
  .exact .inr ⟨by omega,.inr ⟨id,B,hid,hL,q1,q2⟩⟩
 .rw[hget,if_neg (by simpa using hno)]
 .simp at hj;subst hj;exact hL
 .rw[(H.sdom j hj).2]at e;cases e
theorem frz_rel{F:Fz}{ι:Im}{sh sh':SH}{h:Hp}(H:HRs F ι sh h){x y:SV}{x':Value}(hx:VRs F ι x x')(hv:sh.frz x=some (y,sh')) :
  ∃F',VRs F' ι y x'∧HRs F' ι sh' h∧Stp F ι sh h F' ι sh' h:=by
 unfold SH.frz at hv
 split at hv
 .rename_i id k c s n z
  split at hv
  .rename_i q hq
   split at hv
   .rename_i hfr
    simp only[zA,zD]at hv
    obtain⟨rfl,rfl⟩:=hv
    obtain⟨cx,Q,qn,ql⟩:=src_rel H hx hq
    have hth:live1 sh id=true:=src_there hq
    obtain⟨F',f1,f2,f3,f4⟩:=frz_hr H hth
    refine⟨F',?_,f3,f4⟩
    cases hx with
    | nsl _ _ _ _ _ _ _ B off cap h1 h2 h3 h4 h5 h6 h7=>
     obtain⟨cs,t',S⟩:=za4 H hth h1
     have c1:=f2 B cs t' h1 S
     have hn:q.n=n:=ql.symm
     have hload:lcut cs off (n*k)=some cx:=by
      have h2':=qn n
      rw[hn]at h2'
      unfold news_ at h2'
      have hmin:Nat.min n n=n:=Nat.min_self _
      simp only[hmin,zaP S (.inl rfl)]at h2'
      rw[List.take_of_length_le (by rw[Q.len,hn];exact zB _)]at h2'
      split at h2'
      .rename_i c' hc';injection h2' with h2';injection h2' with _ h2';rw[hc',h2']
      .cases h2'
     have hrow:∀i,i<n→RowR F Im0 cs (off+i*k) k (q.e i):=fun i hi=>(Q.free hfr i (by omega)).carry fun j hj=>by
      have:(i+1)*k≤n*k:=Nat.mul_le_mul_right _ hi
      rw[Nat.add_mul]at this
      rw[zaW hload (i*k+j) (by omega),Nat.add_assoc]
     refine .fsl _ _ _ _ _ _ B.b off cs _ cap c1 (zB _) ?_ h4 (by rw[S.len];exact h6) (fun i hi=>(hrow i hi).1) fun i j x y hi a b=>((hrow i hi).2 j x y a b).mono f1 (Im.le.refl _)
     cases z with
     | zero=>exact .inr rfl
     | succ z=>exact .inl rfl
    | nslN _ _ _ _ _ _ hz=>
     refine .fslN _ _ _ _ _ ?_
     cases z with
     | zero=>omega
     | succ z=>exact .inl rfl
    | nslE _ _ _ _ _ _ hz=>
     cases z with
     | zero=>omega
     | succ z=>exact .fslE _ _ _ _ _ (.inl rfl)
   .cases hv
  .cases hv
 .simp only[zA,zD]at hv
  obtain⟨rfl,rfl⟩:=hv
  exact⟨F,hx,H,Stp.refl F H⟩
theorem frzs_rel{F:Fz}{ι:Im}{sh sh':SH}{h:Hp}(H:HRs F ι sh h):∀ {l r:List SV} {l':List Value},LRs F ι l l'→sh.frzs l=some (r,sh')→
  ∃F',LRs F' ι r l'∧HRs F' ι sh' h∧Stp F ι sh h F' ι sh' h:=by
 intro l
 induction l generalizing F sh with
 | nil=>
  intro r l' hl hv
  unfold SH.frzs at hv
  simp only[zA,zD]at hv
  obtain⟨rfl,rfl⟩:=hv
  exact⟨F,hl,H,Stp.refl F H⟩
 | cons x l ih=>
  intro r l' hl hv
  obtain⟨y,l',rfl,h1,h2⟩:=hl.cons_inv
  unfold SH.frzs at hv
  split at hv
  .rename_i x2 sh2 e1
   obtain⟨F1,p1,p2,p3⟩:=frz_rel H h1 e1
   split at hv
   .rename_i l2 sh3 e2
    simp only[zA,zD]at hv
    obtain⟨rfl,rfl⟩:=hv
    obtain⟨F2,q1,q2,q3⟩:=ih p2 (h2.mono p3.fm (Im.le.refl _)) e2
    exact⟨F2,.cons (p1.mono q3.fm (Im.le.refl _)) q1,q2,p3.trans q3⟩
   .cases hv
  .cases hv
theorem frzA_rel{F:Fz}{ι:Im}{sh sh':SH}{h:Hp}(H:HRs F ι sh h){x y:SV}{x':Value}(hx:VRs F ι x x')(hv:sh.frzA x=some (y,sh')) :
  ∃F',VRs F' ι y x'∧HRs F' ι sh' h∧Stp F ι sh h F' ι sh' h:=by
 unfold SH.frzA at hv
 split at hv
 .obtain⟨l',rfl,L⟩:=hx.agg_inv
  split at hv
  .rename_i l2 sh2 e2
   simp only[zA,zD]at hv
   obtain⟨rfl,rfl⟩:=hv
   obtain⟨F',q1,q2,q3⟩:=frzs_rel H L e2
   exact⟨F',.agg_of q1,q2,q3⟩
  .cases hv
 .exact frz_rel H hx hv
theorem frzL_rel{F:Fz}{ι:Im}{sh sh':SH}{h:Hp}(H:HRs F ι sh h):∀ {ms:List Bool} {l r:List SV} {l':List Value},LRs F ι l l'→sh.frzL ms l=some (r,sh')→
  ∃F',LRs F' ι r l'∧HRs F' ι sh' h∧Stp F ι sh h F' ι sh' h:=by
 intro ms
 induction ms generalizing F sh with
 | nil=>
  intro l r l' hl hv
  unfold SH.frzL at hv
  simp only[zA,zD]at hv
  obtain⟨rfl,rfl⟩:=hv
  exact⟨F,hl,H,Stp.refl F H⟩
 | cons m ms ih=>
  intro l r l' hl hv
  cases l with
  | nil=>
   have:sh.frzL (m::ms) []=some ([],sh):=by cases m<;>rfl
   rw[this]at hv
   simp only[zA,zD]at hv
   obtain⟨rfl,rfl⟩:=hv
   exact⟨F,hl,H,Stp.refl F H⟩
  | cons x l=>
   obtain⟨y,l',rfl,h1,h2⟩:=hl.cons_inv
   cases m with
   | true=>
    unfold SH.frzL at hv
    split at hv
    .rename_i x2 sh2 e1
     obtain⟨F1,p1,p2,p3⟩:=frzA_rel H h1 e1
     split at hv
     .rename_i l2 sh3 e2
      simp only[zA,zD]at hv
      obtain⟨rfl,rfl⟩:=hv
      obtain⟨F2,q1,q2,q3⟩:=ih p2 (h2.mono p3.fm (Im.le.refl _)) e2
      exact⟨F2,.cons (p1.mono q3.fm (Im.le.refl _)) q1,q2,p3.trans q3⟩
     .cases hv
    .cases hv
   | false=>
    unfold SH.frzL at hv
    split at hv
    .rename_i l2 sh3 e2
     simp only[zA,zD]at hv
     obtain⟨rfl,rfl⟩:=hv
     obtain⟨F2,q1,q2,q3⟩:=ih H h2 e2
     exact⟨F2,.cons (h1.mono q3.fm (Im.le.refl _)) q1,q2,q3⟩
    .cases hv
def SubQ(Q:Fz→Hp→Prop)(E:Env)(sp:Sp)(f:FuncId)(c:Nat)(g:Nat→List SV→List SB→RT (Left SV)):Prop:=
 ∀F ι k h args args' bs L b,Q F h→HRs F ι (shOf k c [] bs) h→bs.length<4000→LRs F ι args args'→(g k args bs).sel=some L→
  ∃N v' h' F' ι',(∀n,N≤n→zbh E sp b n f args' h=some (v',h'))∧VRs F' ι' L.v v'∧HRs F' ι' (shOf (k+1) 0 [] L.bs) h'∧Frm F ι h bs.length L.kp (k+1) F' ι' h' c
abbrev SubOk(F0:Fz)(E:Env)(sp:Sp)(f:FuncId)(c:Nat)(g:Nat→List SV→List SB→RT (Left SV)):Prop:=SubQ (fun F _=>F0.le F) E sp f c g
theorem sub_relQ{Q:Fz→Hp→Prop}(hS:Steps Q){E:Env}{sp:Sp}{f:FuncId}{c:Nat}{ms:List Bool}{g:Nat→List SV→List SB→RT (Left SV)}(hg:SubQ Q E sp f c g){args:List SV}{sh:SH}{v:SV}{sh':SH}{F:Fz}{ι:Im}{h:Hp}{args':List Value}{b:Fr}
  (h0:Q F h) (H:HRs F ι sh h) (hl:LRs F ι args args') (hs:(zan c ms g args sh).sel=some (v,sh')):Out F ι sh h v sh' fun n=>zbh E sp b n f args' h:=by
 unfold zan at hs
 split at hs
 .rename_i args1 sh1 hf
  obtain⟨F1,p1,p2,p3⟩:=frzL_rel H hl hf
  split at hs
  .rename_i args2 bs ids sh2 hcan hpay
   obtain⟨L,g1,g2⟩:=zah hs
   split at g2
   .rename_i v2 sh3 hren hback
    obtain⟨rfl,rfl⟩:=zam g2
    obtain⟨P,ha⟩:=zcC hcan
    obtain⟨hc,_⟩:=pay_some hpay
    obtain⟨N,v',h',F',ι',q1,q2,q3,q4⟩:=hg F1 _ _ h args2 args' bs L b (hS h0 H p3) (part_hr p2 P hc) P.small (part_args ha p1) g1
    rw[P.len]at q4
    obtain⟨ι2,r1,r2,r3⟩:=back_ok p2 P hpay q3 q4 hback
    exact⟨N,v',h',F',ι2,q1,r3 _ _ _ hren q2,r1,p3.trans r2⟩
   .cases g2
  .cases hs
 .cases hs
theorem sub_rel{F0:Fz}{E:Env}{sp:Sp}{f:FuncId}{c:Nat}{ms:List Bool}{g:Nat→List SV→List SB→RT (Left SV)}(hg:SubOk F0 E sp f c g){args:List SV}{sh:SH}{v:SV}{sh':SH}{F:Fz}{ι:Im}{h:Hp}{args':List Value}{b:Fr}
  (h0:F0.le F) (H:HRs F ι sh h) (hl:LRs F ι args args') (hs:(zan c ms g args sh).sel=some (v,sh')):Out F ι sh h v sh' fun n=>zbh E sp b n f args' h:=
 sub_relQ steps_le hg h0 H hl hs
def Tm(K:Nat)(F F2:Fz):Prop:=∀b cs t,F b=some (cs,t)→∃t',t'≤K∧F2 b=some (cs,t')
def Wk(K:Nat)(v v2:SV):Prop:=∀F F2 ι w,Tm K F F2→VRs F ι v w→VRs F2 ι v2 w
structure WkL(K:Nat)(l l2:List SV):Prop where
 len:l.length=l2.length
 at_:∀(i:Nat) x x2,l[i]?=some x→l2[i]?=some x2→Wk K x x2
theorem WkL.nil{K:Nat}:WkL K [] []:=⟨rfl,fun i x x2 h=>by simp at h⟩
theorem WkL.cons{K:Nat}{x x2:SV}{l l2:List SV}(h:Wk K x x2)(k:WkL K l l2):WkL K (x::l) (x2::l2):=
 ⟨by simp[k.len],fun i a b ha hb=>by
  cases i with
  | zero=>simp at ha hb;subst ha hb;exact h
  | succ i=>exact k.at_ i a b (by simpa using ha) (by simpa using hb)⟩
theorem WkL.rel{K:Nat}{l l2:List SV}(h:WkL K l l2){F F2:Fz}{ι:Im}{ws:List Value}(ht:Tm K F F2)(hl:LRs F ι l ws):LRs F2 ι l2 ws:=
 ⟨h.len.symm.trans hl.1,fun i x2 y hx hy=>by
  have hi:i<l.length:=by rw[h.len];exact(List.getElem?_eq_some_iff.1 hx).1
  exact h.at_ i l[i] x2 (by simp[hi]) hx F F2 ι y ht (hl.2 i l[i] y (by simp[hi]) hy)⟩
theorem Wk.int{K:Nat}{k:IntKind}{c c2:Bool}{x:Int}:Wk K (.int k c x) (.int k c2 x):=fun F F2 ι w _ h=>by rw[h.int_inv];exact .int ..
theorem Wk.bool{K:Nat}{c c2 b:Bool}:Wk K (.bool c b) (.bool c2 b):=fun F F2 ι w _ h=>by rw[h.bool_inv];exact .bool ..
theorem Wk.str{K:Nat}{c c2:Bool}{s:List UInt8}:Wk K (.str c s) (.str c2 s):=fun F F2 ι w _ h=>by rw[h.str_inv];exact .str ..
theorem Wk.raw{K:Nat}{v:Value}:Wk K (.raw v) (.raw v):=fun F F2 ι w _ h=>by obtain⟨rfl,hb⟩:=h.raw_inv;exact .raw _ _ hb
theorem Wk.lost{K:Nat}{v:SV}:Wk K v .lost:=fun F F2 ι w _ h=>.lost ..
theorem Wk.agg{K:Nat}{l l2:List SV}(h:WkL K l l2):Wk K (.agg l) (.agg l2):=fun F F2 ι w ht hv=>by
 obtain⟨l',rfl,L⟩:=hv.agg_inv;exact .agg_of (h.rel ht L)
theorem Wk.tup{K:Nat}{l l2:List SV}(h:WkL K l l2):Wk K (.tup l) (.tup l2):=fun F F2 ι w ht hv=>by
 obtain⟨l',rfl,L⟩:=hv.tup_inv;exact .tup_of (h.rel ht L)
theorem Wk.ptr{K:Nat}{id k:Nat}{c c2:Bool}{i o:Nat}:Wk K (.ptr id k c i o) (.ptr id k c2 i o):=fun F F2 ι w _ h=>by
 cases h with|ptr _ _ _ _ _ _ B a h1 h2 h3 h4=>exact .ptr _ _ _ _ _ _ B a h1 h2 h3 h4
theorem Wk.mp{K:Nat}{id:Nat}:Wk K (.mp id) (.mp id):=fun F F2 ι w _ h=>by
 cases h with|mp _ _ B h1=>exact .mp _ _ B h1
theorem Wk.nsl{K:Nat}{id k:Nat}{c c2:Bool}{s n z z2:Nat}(hz:z≤z2):Wk K (.nsl id k c s n z) (.nsl id k c2 s n z2):=fun F F2 ι w _ h=>by
 cases h with
 | nsl _ _ _ _ _ _ _ B off cap h1 h2 h3 h4 h5 h6 h7=>exact .nsl _ _ _ _ _ _ _ B off cap h1 h2 h3 h4 h5 h6 (by rcases h7 with q|q|q;exact .inl q;exact .inr (.inl q);exact .inr (.inr (by omega)))
 | nslN _ _ _ _ _ _ h=>exact .nslN _ _ _ _ _ _ (by omega)
 | nslE _ _ _ _ _ _ h=>exact .nslE _ _ _ _ _ _ (by omega)
def WkR(K k n:Nat)(e e2:Nat→List SV):Prop:=∀i,i<n→(e i).length=k→(e2 i).length=k∧WkL K (e i) (e2 i)
theorem WkR.row{K k n:Nat}{e e2:Nat→List SV}(h:WkR K k n e e2){F F2:Fz}{ι:Im}(ht:Tm K F F2){cs:List Value}{p i:Nat}(hi:i<n)(hr:RowR F ι cs p k (e i)):RowR F2 ι cs p k (e2 i):=by
 obtain⟨h1,h2⟩:=h i hi hr.1
 refine⟨h1,fun j x2 y hx hy=>?_⟩
 have hj:j<(e i).length:=by rw[h2.len];exact(List.getElem?_eq_some_iff.1 hx).1
 exact h2.at_ j (e i)[j] x2 (by simp[hj]) hx F F2 ι y ht (hr.2 j _ y (by simp[hj]) hy)
theorem Wk.fsl{K:Nat}{st st2 k n:Nat}{nl nl2:Option Bool}{e e2:Nat→List SV}(hs:K≤st2)(hn:nl2=none∨nl2=nl)(h:WkR K k n e e2):Wk K (.fsl st k n nl e) (.fsl st2 k n nl2 e2):=fun F F2 ι w ht hv=>by
 cases hv with
 | fsl _ _ _ _ _ _ b o cs t cap h1 h2 h3 h4 h5 h6 h7=>
  obtain⟨t',q1,q2⟩:=ht b cs t h1
  have hrow:∀i,i<n→RowR F2 Im0 cs (o+i*k) k (e2 i):=fun i hi=>h.row ht hi ⟨h6 i hi,fun j x y a b=>h7 i j x y hi a b⟩
  refine .fsl _ _ _ _ _ _ b o cs t' cap q2 (by omega) ?_ h4 h5 (fun i hi=>(hrow i hi).1) fun i j x y hi a b=>(hrow i hi).2 j x y a b
  rcases hn with rfl|rfl
  .exact .inl rfl
  .exact h3
 | fslN _ _ _ _ _ h3=>
  refine .fslN _ _ _ _ _ ?_
  rcases hn with rfl|rfl
  .exact .inl rfl
  .exact h3
 | fslE _ _ _ _ _ h3=>
  refine .fslE _ _ _ _ _ ?_
  rcases hn with rfl|rfl
  .exact .inl rfl
  .exact h3
theorem Wk.nil_fsl{K st k:Nat}{nl:Option Bool}{e:Nat→List SV}(h:nl=none∨nl=some true):Wk K (.raw (.slice none 0 0)) (.fsl st k 0 nl e):=fun F F2 ι w _ hv=>by
 obtain⟨rfl,_⟩:=hv.raw_inv;exact .fslN _ _ _ _ _ h
def WkB(K:Nat)(b b2:SB):Prop:=∀F F2 ι h id,Tm K F F2→SbOk F ι h id b→SbOk F2 ι h id b2
theorem WkB.row{K k n:Nat}{e e2:Nat→List SV}{t:TypeId}(h:WkR K k n e e2):WkB K (.row k n e t) (.row k n e2 t):=fun F F2 ι hh id ht S=>by
 rcases S with S|⟨B,cs,h1,h2,h3,h4,h5⟩
 .exact .inl S
 .exact .inr ⟨B,cs,h1,h2,h3,h4,fun i hi=>h.row ht hi (h5 i hi)⟩
theorem WkB.lst{K k:Nat}{rows rows2:List (List SV)}{t:TypeId}(hl:rows.length=rows2.length)(h:∀(i:Nat) r r2,rows[i]?=some r→rows2[i]?=some r2→WkL K r r2):WkB K (.lst k rows t) (.lst k rows2 t):=fun F F2 ι hh id ht S=>by
 obtain⟨B,cs,h1,h2,h3,h4,h5⟩:=S
 refine⟨B,cs,h1,h2,h3.trans hl,h4,fun i r2 e=>?_⟩
 have hi:i<rows.length:=by rw[hl];exact(List.getElem?_eq_some_iff.1 e).1
 have W:=h i rows[i] r2 (by simp[hi]) e
 have R:=h5 i rows[i] (by simp[hi])
 refine⟨W.len.symm.trans R.1,fun j x2 y hx hy=>?_⟩
 have hj:j<rows[i].length:=by rw[W.len];exact(List.getElem?_eq_some_iff.1 hx).1
 exact W.at_ j rows[i][j] x2 (by simp[hj]) hx F F2 ι y ht (R.2 j _ y (by simp[hj]) hy)
theorem WkB.lst1{K k:Nat}{r r2:List SV}{t:TypeId}(h:WkL K r r2):WkB K (.lst k [r] t) (.lst k [r2] t):=.lst rfl fun i a b ha hb=>by
 cases i with
 | zero=>simp at ha hb;subst ha hb;exact h
 | succ i=>simp at ha
theorem WkB.mp{K:Nat}{es:List MapEntry}{c:Nat}:WkB K (.mp es c) (.mp es c):=fun F F2 ι hh id ht S=>S
structure WkBs(K:Nat)(l l2:List SB):Prop where
 len:l.length=l2.length
 at_:∀(i:Nat) x x2,l[i]?=some x→l2[i]?=some x2→WkB K x x2∧(x2≠.gone→x≠.gone)
theorem WkBs.nil{K:Nat}:WkBs K [] []:=⟨rfl,fun i x x2 h=>by simp at h⟩
theorem WkBs.cons{K:Nat}{x x2:SB}{l l2:List SB}(h:WkB K x x2)(hg:x2≠.gone→x≠.gone)(k:WkBs K l l2):WkBs K (x::l) (x2::l2):=
 ⟨by simp[k.len],fun i a b ha hb=>by
  cases i with
  | zero=>simp at ha hb;subst ha hb;exact⟨h,hg⟩
  | succ i=>exact k.at_ i a b (by simpa using ha) (by simpa using hb)⟩
theorem HRs.wk{K k k2 c:Nat}{log:List Nat}{bs bs2:List SB}{F F2:Fz}{ι:Im}{h:Hp}(H:HRs F ι (shOf k c log bs) h)(hs:bs.length<4000)(W:WkBs K bs bs2)(ht:Tm K F F2)(hb:∀b cs t,F2 b=some (cs,t)→t≤k2∧∃t0,F b=some (cs,t0)):HRs F2 ι (shOf k2 c log bs2) h:=by
 have hs2:bs2.length<4000:=by rw[←W.len];exact hs
 have back:∀(i:Nat) b2,bs2[i]?=some b2→∃b,bs[i]?=some b∧WkB K b b2∧(b2≠.gone→b≠.gone):=fun i b2 e=>by
  have hi:i<bs.length:=by rw[W.len];exact(List.getElem?_eq_some_iff.1 e).1
  have he:bs[i]?=some bs[i]:=by simp[hi]
  exact⟨bs[i],he,W.at_ i _ _ he e⟩
 have live:∀i,Live (shOf k2 c log bs2) i→Live (shOf k c log bs) i:=by
  rintro i ⟨b2,p1,p2⟩
  rw[zay hs2]at p1
  obtain⟨b,q1,q2,q3⟩:=back i b2 p1
  exact⟨b,by rw[zay hs];exact q1,q3 p2⟩
 refine⟨H.most,by show bs2.length≤_;omega,fun id hid=>?_,fun i b2 e=>?_,fun i j B B' hne l1 l2 e1 e2=>H.apart i j B B' hne (live i l1) (live j l2) e1 e2,fun b cs t e=>?_,fun b x i B e l e2=>?_⟩
 .have hid:bs2.length≤id:=hid
  refine⟨by rw[zay hs2,List.getElem?_eq_none hid],(H.sdom id ?_).2⟩
  show bs.length≤id
  rw[W.len];exact hid
 .rw[zay hs2]at e
  obtain⟨b,q1,q2,q3⟩:=back i b2 e
  exact q2 F F2 ι h i ht (H.ok i b (by rw[zay hs];exact q1))
 .obtain⟨h1,t0,h2⟩:=hb b cs t e
  obtain⟨_,f2⟩:=H.frz b cs t0 h2
  exact⟨h1,f2⟩
 .obtain⟨cs,t⟩:=x
  obtain⟨_,t0,h2⟩:=hb b cs t e
  exact H.fap b _ i B h2 (live i l) e2
def fin_(m:Nat)(vs:List SV)(sh:SH):Option (List SV×List SB×List (Option (Nat×Bool))):=
 match canon_ sh ((zI m).filter fun i=>match sh.get i with|some .gone=>false|some _=>true|none=>false) vs with
 | some (a,bs,ids)=>some (a,bs,(zI m).map fun i=>match zbu ids i with|some j=>some (j,!(sh.log.any (zC i)))|none=>none)
 | none=>none
theorem place_find:∀ {l:List Nat} {x:Nat},x∈l→∃j,zbu l x=some j
 | [],x,h=>by simp at h
 | y::l,x,h=>by
  unfold zbu
  cases hb:zC y x with
  | true=>exact⟨0,rfl⟩
  | false=>
   have hx:x∈l:=by
    rcases List.mem_cons.1 h with q|q
    .subst q;simp at hb
    .exact q
   obtain⟨j,hj⟩:=place_find hx
   exact⟨j+1,by simp only[hj]⟩
theorem zc7:∀ {l:List (Option (Nat×Bool))} {j i0:Nat},kpos l j i0=none→∀(i:Nat) s,l[i]?≠some (some (j,s))
 | [],j,i0,h,i,s,e=>by simp at e
 | none::l,j,i0,h,i,s,e=>by
  unfold kpos at h
  cases i with
  | zero=>simp at e
  | succ i=>exact zc7 h i s (by simpa using e)
 | some (j',s')::l,j,i0,h,i,s,e=>by
  unfold kpos at h
  split at h
  .cases h
  .rename_i hb
   cases i with
   | zero=>simp at e;rw[e.1]at hb;simp at hb
   | succ i=>exact zc7 h i s (by simpa using e)
theorem fin_ok{F F':Fz}{ι ι':Im}{c k:Nat}{bs0:List SB}{h h':Hp}{sh1:SH}(H1:HRs F' ι' sh1 h')(S:Stp F ι (shOf k c [] bs0) h F' ι' sh1 h'){vs a:List SV}{bs:List SB}{kp:List (Option (Nat×Bool))}(hf:fin_ bs0.length vs sh1=some (a,bs,kp)) :
  ∃ι2,(∀ws,LRs F' ι' vs ws→LRs F' ι2 a ws)∧HRs F' ι2 (shOf sh1.clk 0 [] bs) h'∧Frm F ι h bs0.length kp (k+1) F' ι2 h' c∧bs.length<4000:=by
 unfold fin_ at hf
 split at hf
 .rename_i a2 bs2 ids hcan
  simp only[zA,zD]at hf
  obtain⟨rfl,rfl,rfl⟩:=hf
  obtain⟨P,ha⟩:=zcC hcan
  have hkp:∀i,i<bs0.length→((zI bs0.length).map fun i=>match zbu ids i with|some j=>some (j,!(sh1.log.any (zC i)))|none=>none)[i]?=some (match zbu ids i with|some j=>some (j,!(sh1.log.any (zC i)))|none=>none):=fun i hi=>by
   simp[hi]
  have hlt:∀ {i:Nat} {x},((zI bs0.length).map fun i=>match zbu ids i with|some j=>some (j,!(sh1.log.any (zC i)))|none=>none)[i]?=some x→i<bs0.length:=fun e=>by
   have:=(List.getElem?_eq_some_iff.1 e).1
   simpa using this
  obtain⟨nw,l1,l2,l3,l4,l5⟩:=S.log
  have l1:sh1.log=nw:=by rw[l1];exact List.append_nil _
  have touched:∀id,id∈nw→id<bs0.length→zaG ((zI bs0.length).map fun i=>match zbu ids i with|some j=>some (j,!(sh1.log.any (zC i)))|none=>none) id:=fun id hid hlt=>by
   have:=hkp id hlt
   cases hp:zbu ids id with
   | none=>rw[hp]at this;exact .inl this
   | some j=>
    rw[hp]at this
    have hany:sh1.log.any (zC id)=true:=by rw[l1];exact List.any_eq_true.2 ⟨id,hid,by simp⟩
    rw[hany]at this
    exact .inr ⟨j,this⟩
  refine⟨subI ι' ids,fun ws hl=>part_args ha hl,part_hr H1 P (zF _),⟨S.fm,fun b cs t e=>?_,S.hnext,?_,fun b hb hno=>?_,fun i j s e=>?_,fun j B e hk=>?_,by simp⟩,P.small⟩
  .rcases S.fnew b cs t e with q|⟨q0,q|⟨id,B,q1,q2,q3,q4⟩⟩
   .exact .inl q
   .exact .inr ⟨q0,.inl q⟩
   .have q1:id<bs0.length:=q1
    refine .inr ⟨q0,.inr ⟨id,B,?_,q3,q4⟩⟩
    have:=hkp id q1
    cases hp:zbu ids id with
    | none=>rw[hp]at this;exact .inl this
    | some j=>
     exact absurd q4 (H1.fap b _ id B e (P.live j id (zdq hp)) (by rw[S.im id q1];exact q3))
  .have:=S.room
   have e:(shOf k c [] bs0).room=c:=rfl
   rw[e]at this
   omega
  .exact l4 b hb fun id B hid hlt' e=>hno id B (touched id hid hlt') e
  .have hi:=hlt e
   rw[hkp i hi]at e
   injection e with e
   split at e
   .rename_i j' hp
    injection e with e
    injection e with e1 e2
    subst e1
    rw[subI_place hp]
    exact S.im i hi
   .cases e
  .unfold subI at e
   split at e
   .rename_i id hid
    by_cases hm:id<bs0.length
    .exfalso
     obtain⟨j',hj'⟩:=place_find (List.mem_of_getElem? hid)
     have:=P.inj (zdq hj') hid
     subst this
     have h1:=hkp id hm
     rw[hj']at h1
     exact zc7 hk id _ h1
    .rcases l5 id B (by show bs0.length≤id;omega) e with q|⟨id0,B0,q1,q2,q3,q4⟩
     .exact .inl q
     .exact .inr ⟨id0,B0,touched id0 q1 q2,q3,q4⟩
   .cases e
 .cases hf
def calm0(F:Fz):Fz:=fun b=>match F b with|some (cs,_)=>some (cs,0)|none=>none
def later(F F':Fz)(k:Nat):Fz:=fun b=>match F b with|some x=>some x|none=>match F' b with|some (cs,_)=>some (cs,k)|none=>none
theorem zcO(F:Fz):Tm 0 F (calm0 F):=fun b cs t e=>⟨0,zB _,by unfold calm0;rw[e]⟩
def regsTr:List Tmp→List SV→Tr SV
 | t::l,v::vs=>(regsTr l vs).set 24 t v
 | _,_=>.nil
def frameOf(n:Nat)(l:List Tmp)(vs:List SV):Fs:=⟨n,regsTr l vs⟩
theorem regsTr_get{n:Nat}(hn:n≤100000):∀ {l:List Tmp} {vs:List SV},(l.all fun t=>zE t n)=true→∀ {t:Tmp} {v:SV},(regsTr l vs).get t=some v→∃i:Nat,l[i]?=some t∧vs[i]?=some v
 | [],vs,hl,t,v,e=>by unfold regsTr at e;rw[Tr.get_nil]at e;cases e
 | u::l,[],hl,t,v,e=>by unfold regsTr at e;rw[Tr.get_nil]at e;cases e
 | u::l,w::vs,hl,t,v,e=>by
  rw[List.all_cons,zH]at hl
  have hlt:Nat.lt u n:=zO hl.1
  have h24:Nat.lt (u+1) (2 ^ 64):=zL hlt (zL hn (by decide))
  unfold regsTr at e
  rw[Tr.get_set _ _ _ _ _ h24]at e
  split at e
  .rename_i q;subst q;injection e with e;subst e;exact⟨0,rfl,rfl⟩
  .obtain⟨i,h1,h2⟩:=regsTr_get hn hl.2 e
   exact⟨i+1,by simpa using h1,by simpa using h2⟩
theorem valsB_at:∀ {l:List Tmp} {b:Fr} {vs:List Value},valsB b l=some vs→l.length=vs.length∧∀ {i:Nat} {t:Tmp} {v:Value},l[i]?=some t→vs[i]?=some v→b.t.get t=some v
 | [],b,vs,e=>by injection e with e;subst e;exact⟨rfl,fun h1 h2=>by simp at h1⟩
 | u::l,b,vs,e=>by
  unfold valsB at e
  split at e
  .rename_i w r q1 q2
   injection e with e;subst e
   obtain⟨k1,k2⟩:=valsB_at q2
   refine⟨by simp[k1],fun {i t v} h1 h2=>?_⟩
   cases i with
   | zero=>simp only[List.getElem?_cons_zero,zA]at h1 h2;subst h1 h2;exact q1
   | succ i=>exact k2 (by simpa using h1) (by simpa using h2)
  .cases e
theorem frame_rel{F:Fz}{ι:Im}{n:Nat}(hn:n≤100000){l:List Tmp}{vs:List SV}{vs':List Value}(hl:(l.all fun t=>zE t n)=true){b:Fr}(h1:b.n=n)(h2:valsB b l=some vs')(h3:LRs F ι vs vs'):FRs F ι (frameOf n l vs) b:=
 ⟨h1.symm,hn,fun t v e=>by
  obtain⟨i,q1,q2⟩:=regsTr_get hn hl e
  obtain⟨k1,k2⟩:=valsB_at h2
  have hi:i<vs'.length:=by rw[←k1];exact(List.getElem?_eq_some_iff.1 q1).1
  exact⟨vs'[i],k2 q1 (List.getElem?_eq_getElem hi),h3.2 i v _ q2 (List.getElem?_eq_getElem hi)⟩⟩
def zc8(a b:List (Option (Nat×Bool))):List (Option (Nat×Bool)):=a.map fun x=>match x with
 | none=>none
 | some (j,s)=>(match b[j]? with|some (some (j2,s2))=>some (j2,s&&s2)|_=>none)
theorem kpComp_at{a b:List (Option (Nat×Bool))}(i:Nat):(zc8 a b)[i]?=(a[i]?).map fun x=>match x with
 | none=>none
 | some (j,s)=>(match b[j]? with|some (some (j2,s2))=>some (j2,s&&s2)|_=>none):=by
 unfold zc8;rw[List.getElem?_map]
theorem zcN{a b:List (Option (Nat×Bool))}{i:Nat}(h:zaG a i):zaG (zc8 a b) i:=by
 unfold zaG
 rw[kpComp_at]
 rcases h with h|⟨j,h⟩
 .rw[h];exact .inl rfl
 .rw[h]
  simp only[zM]
  split
  .rename_i j2 s2 _;exact .inr ⟨j2,by simp⟩
  .exact .inl rfl
theorem comp_touch2{a b:List (Option (Nat×Bool))}{i j:Nat}{s:Bool}(h:a[i]?=some (some (j,s)))(k:zaG b j):zaG (zc8 a b) i:=by
 unfold zaG
 rw[kpComp_at,h]
 simp only[zM]
 rcases k with k|⟨j2,k⟩
 .rw[k];exact .inl rfl
 .rw[k];exact .inr ⟨j2,by simp⟩
theorem comp_kept{a b:List (Option (Nat×Bool))}{i j2:Nat}{s:Bool}(h:(zc8 a b)[i]?=some (some (j2,s))):∃j s1 s2,a[i]?=some (some (j,s1))∧b[j]?=some (some (j2,s2)):=by
 rw[kpComp_at]at h
 cases ha:a[i]? with
 | none=>rw[ha]at h;cases h
 | some x=>
  rw[ha]at h
  cases x with
  | none=>cases h
  | some p=>
   obtain⟨j,s1⟩:=p
   simp only[zM,zA]at h
   split at h
   .rename_i j3 s2 hb
    injection h with h;injection h with e1 e2
    subst e1
    exact⟨j,s1,s2,rfl,hb⟩
   .cases h
theorem comp_of{a b:List (Option (Nat×Bool))}{i j j2:Nat}{s1 s2:Bool}(h:a[i]?=some (some (j,s1)))(k:b[j]?=some (some (j2,s2))):(zc8 a b)[i]?=some (some (j2,s1&&s2)):=by
 rw[kpComp_at,h]
 simp only[zM,k]
theorem Frm.comp{F:Fz}{ι:Im}{h:Hp}{n:Nat}{a:List (Option (Nat×Bool))}{k:Nat}{F1:Fz}{ι1:Im}{h1:Hp}{c1 n1:Nat}{b:List (Option (Nat×Bool))}{F2:Fz}{ι2:Im}{h2:Hp}{c2:Nat}
  (hF:∀b cs t,F b=some (cs,t)→t=0) (A:Frm F ι h n a k F1 ι1 h1 c1) (B:Frm (calm0 F1) ι1 h1 n1 b 0 F2 ι2 h2 c2):Frm F ι h n (zc8 a b) 0 F2 ι2 h2 (c1+c2):=by
 have two:∀j B0,zaG b j→ι1 j=some B0→h.next≤B0.b∨∃i B1,zaG (zc8 a b) i∧ι i=some B1∧B1.b=B0.b:=fun j B0 ht e=>by
  cases hk:kpos a j 0 with
  | some i=>
   obtain⟨_,s,q⟩:=zb1 hk
   have q:a[i]?=some (some (j,s)):=by simpa using q
   exact .inr ⟨i,B0,comp_touch2 q ht,by rw[←A.kept i j s q];exact e,rfl⟩
  | none=>
   rcases A.new j B0 e hk with q|⟨i,B1,q1,q2,q3⟩
   .exact .inl q
   .exact .inr ⟨i,B1,zcN q1,q2,q3⟩
 refine⟨fun b x e=>?_,fun b cs t e=>?_,zP A.hnext B.hnext,by have:=A.room;have:=B.room;omega,fun b hb hno=>?_,fun i j s e=>?_,fun j B0 e hk=>?_,by rw[←A.len];simp[zc8]⟩
 .obtain⟨cs,t⟩:=x
  have:=hF b cs t e
  subst this
  exact B.fm b _ (by unfold calm0;rw[A.fm b _ e])
 .rcases B.fnew b cs t e with q|⟨_,q|⟨j,B0,q1,q2,q3⟩⟩
  .unfold calm0 at q
   split at q
   .rename_i cs1 t1 h1
    injection q with q;injection q with e1 e2
    subst e1 e2
    rcases A.fnew b cs1 t1 h1 with r|⟨_,r|⟨i,B0,r1,r2,r3⟩⟩
    .have:=hF b cs1 t1 r
     subst this
     exact .inl r
    .exact .inr ⟨zF _,.inl r⟩
    .exact .inr ⟨zF _,.inr ⟨i,B0,zcN r1,r2,r3⟩⟩
   .cases q
  .exact .inr ⟨zF _,.inl (zP A.hnext q)⟩
  .rcases two j B0 q1 q2 with r|⟨i,B1,r1,r2,r3⟩
   .exact .inr ⟨zF _,.inl (by omega)⟩
   .exact .inr ⟨zF _,.inr ⟨i,B1,r1,r2,r3.trans q3⟩⟩
 .rw[B.keep b (Nat.lt_of_lt_of_le hb A.hnext) fun j B0 ht e e2=>?_,A.keep b hb fun i B0 ht e=>hno i B0 (zcN ht) e]
  rcases two j B0 ht e with q|⟨i,B1,q1,q2,q3⟩
  .omega
  .exact hno i B1 q1 q2 (q3.trans e2)
 .obtain⟨j1,s1,s2,q1,q2⟩:=comp_kept e
  rw[B.kept j1 j s2 q2,A.kept i j1 s1 q1]
 .cases hb:kpos b j 0 with
  | some j1=>
   obtain⟨_,s,q⟩:=zb1 hb
   have q:b[j1]?=some (some (j,s)):=by simpa using q
   rw[B.kept j1 j s q]at e
   cases ha:kpos a j1 0 with
   | some i=>
    obtain⟨_,s2,q2⟩:=zb1 ha
    have q2:a[i]?=some (some (j1,s2)):=by simpa using q2
    exact absurd (comp_of q2 q) (zc7 hk i _)
   | none=>
    rcases A.new j1 B0 e ha with r|⟨i,B1,r1,r2,r3⟩
    .exact .inl r
    .exact .inr ⟨i,B1,zcN r1,r2,r3⟩
  | none=>
   rcases B.new j B0 e hb with r|⟨j1,B1,r1,r2,r3⟩
   .exact .inl (zP A.hnext r)
   .rcases two j1 B1 r1 r2 with q|⟨i,B2,q1,q2,q3⟩
    .exact .inl (by omega)
    .exact .inr ⟨i,B2,q1,q2,q3.trans r3⟩
def kpLe:List (Option (Nat×Bool))→List (Option (Nat×Bool))→Bool
 | [],[]=>true
 | _::a,none::b=>kpLe a b
 | some (j,s)::a,some (j2,s2)::b=>(match zC j j2&&(s || !s2)with|true=>kpLe a b|false=>false)
 | _,_=>false
theorem kpLe_at:∀ {a b:List (Option (Nat×Bool))},kpLe a b=true→a.length=b.length∧∀(i:Nat) y,b[i]?=some y→y=none∨∃j s s2,a[i]?=some (some (j,s))∧y=some (j,s2)∧(s2=true→s=true)
 | [],[],_=>⟨rfl,fun i y e=>by simp at e⟩
 | [],_::_,h=>by simp[kpLe]at h
 | _::_,[],h=>by simp[kpLe]at h
 | x::a,none::b,h=>by
  have h:kpLe a b=true:=by cases x<;>simpa [kpLe]using h
  obtain⟨h1,h2⟩:=kpLe_at h
  refine⟨by simp[h1],fun i y e=>?_⟩
  cases i with
  | zero=>simp at e;exact .inl e.symm
  | succ i=>simpa using h2 i y (by simpa using e)
 | none::a,some _::b,h=>by simp[kpLe]at h
 | some (j,s)::a,some (j2,s2)::b,h=>by
  unfold kpLe at h
  split at h
  .rename_i hb
   rw[zH]at hb
   obtain⟨h1,h2⟩:=kpLe_at h
   refine⟨by simp[h1],fun i y e=>?_⟩
   cases i with
   | zero=>
    simp at e
    have:=zG hb.1
    subst this
    exact .inr ⟨j,s,s2,rfl,e.symm,fun q=>by subst q;simpa using hb.2⟩
   | succ i=>simpa using h2 i y (by simpa using e)
  .cases h
theorem Frm.le{F:Fz}{ι:Im}{h:Hp}{n:Nat}{a b:List (Option (Nat×Bool))}{k:Nat}{F1:Fz}{ι1:Im}{h1:Hp}{c c2:Nat}(A:Frm F ι h n a k F1 ι1 h1 c)(hl:kpLe a b=true)(hc:c≤c2):Frm F ι h n b k F1 ι1 h1 c2:=by
 obtain⟨l1,l2⟩:=kpLe_at hl
 have tch:∀i,zaG a i→zaG b i:=fun i ht=>by
  have hi:i<b.length:=by
   rw[←l1]
   rcases ht with e|⟨j,e⟩<;>exact(List.getElem?_eq_some_iff.1 e).1
  rcases l2 i b[i] (by simp[hi])with q|⟨j,s,s2,q1,q2,q3⟩
  .exact .inl (by rw[←q];simp[hi])
  .rcases ht with e|⟨j2,e⟩
   .rw[e]at q1;cases q1
   .rw[e]at q1
    injection q1 with q1;injection q1 with q1;injection q1 with e1 e2
    subst e1 e2
    have:s2=false:=by
     cases s2 with
     | false=>rfl
     | true=>exact absurd (q3 rfl) (by simp)
    subst this
    exact .inr ⟨j2,by rw[←q2];simp[hi]⟩
 refine⟨A.fm,fun b cs t e=>?_,A.hnext,by have:=A.room;omega,fun b hb hno=>A.keep b hb fun i B ht e=>hno i B (tch i ht) e,fun i j s e=>?_,fun j B e hk=>?_,by rw[←l1,A.len]⟩
 .rcases A.fnew b cs t e with q|⟨q0,q|⟨i,B,q1,q2⟩⟩
  .exact .inl q
  .exact .inr ⟨q0,.inl q⟩
  .exact .inr ⟨q0,.inr ⟨i,B,tch i q1,q2⟩⟩
 .rcases l2 i _ e with q|⟨j2,s1,s2,q1,q2,_⟩
  .cases q
  .injection q2 with q2;injection q2 with e1 e2
   subst e1
   exact A.kept i j s1 q1
 .cases ha:kpos a j 0 with
  | none=>
   rcases A.new j B e ha with q|⟨i,B1,q1,q2⟩
   .exact .inl q
   .exact .inr ⟨i,B1,tch i q1,q2⟩
  | some i=>
   obtain⟨_,s,q⟩:=zb1 ha
   have q:a[i]?=some (some (j,s)):=by simpa using q
   have hi:i<b.length:=by rw[←l1];exact(List.getElem?_eq_some_iff.1 q).1
   rcases l2 i b[i] (by simp[hi])with r|⟨j2,s1,s2,r1,r2,_⟩
   .exact .inr ⟨i,B,.inl (by rw[←r];simp[hi]),by rw[←A.kept i j s q];exact e,rfl⟩
   .rw[q]at r1
    injection r1 with r1;injection r1 with r1;injection r1 with e1 e2
    subst e1
    exact absurd (by rw[←r2];simp[hi]) (zc7 hk i s2)
theorem HRs.less{F:Fz}{ι:Im}{k c c2:Nat}{log:List Nat}{bs:List SB}{h:Hp}(H:HRs F ι (shOf k c log bs) h)(hc:h.next+c2≤9223372036854775808):HRs F ι (shOf k c2 log bs) h:=⟨hc,H.smost,H.sdom,H.ok,H.apart,H.frz,H.fap⟩
theorem zde{F:Fz}:∀b cs t,calm0 F b=some (cs,t)→t≤0∧∃t0,F b=some (cs,t0):=fun b cs t e=>by
 unfold calm0 at e
 split at e
 .rename_i cs2 t2 hF;injection e with e;injection e with e1 e2;subst e1 e2;exact⟨zB _,t2,hF⟩
 .cases e
structure Lf where
 ex:Ex
 vs:List SV
 bs:List SB
 kp:List (Option (Nat×Bool))
def lfOf(m:Nat)(ts:Ex→List Tmp)(r:Ex×Fs×SH):RT Lf:=
 match vals_ r.2.1 (ts r.1)with
 | some vs=>(match fin_ m vs r.2.2 with
  | some q=>.ret ⟨r.1,q.1,q.2.1,q.2.2⟩
  | none=>.bad)
 | none=>.bad
def zaJ(E:Env)(T:Told)(f p:Nat)(body:Code)(n0:Nat)(live:List Tmp)(ts:Ex→List Tmp)(r:Nat)(va:List SV)(bl:List SB):RT Lf:=
 (srun E T 100 (.code f (2*p) body) (frameOf n0 live va) (shOf 0 r [] bl)).bind (lfOf bl.length ts)
theorem roundT_sel{E:Env}{T:Told}{f p:Nat}{body:Code}{n0:Nat}{live:List Tmp}{ts:Ex→List Tmp}{r:Nat}{va:List SV}{bl:List SB}{lf:Lf}(h:(zaJ E T f p body n0 live ts r va bl).sel=some lf) :
  ∃a' sh' vs,(srun E T 100 (.code f (2*p) body) (frameOf n0 live va) (shOf 0 r [] bl)).sel=some (lf.ex,a',sh')∧vals_ a' (ts lf.ex)=some vs∧fin_ bl.length vs sh'=some (lf.vs,lf.bs,lf.kp):=by
 unfold zaJ at h
 obtain⟨⟨ex,a',sh'⟩,h1,h2⟩:=zah h
 unfold lfOf at h2
 split at h2
 .rename_i vs hv
  split at h2
  .rename_i q hq
   simp only[RT.sel,zA]at h2
   subst h2
   exact⟨a',sh',vs,h1,hv,hq⟩
  .cases h2
 .cases h2
structure za5(E:Env)(T:Told)(f p:Nat)(body:Code)(n0:Nat)(live:List Tmp)(ts:Ex→List Tmp)(r K:Nat)(S:Type) where
 va:S→List SV
 bl:S→List SB
 μ:S→Nat
 out:S→Lf
 tsn:ts .normal=live
 small:∀s,(bl s).length<4000
 step:∀s,∃lf,(zaJ E T f p body n0 live ts r (va s) (bl s)).sel=some lf∧
  ((lf.ex=.normal∧∃s',WkL 0 lf.vs (va s')∧WkBs 0 lf.bs (bl s')∧μ s'<μ s∧(out s').ex=(out s).ex∧(out s').vs=(out s).vs∧(out s').bs=(out s).bs∧kpLe (zc8 lf.kp (out s').kp) (out s).kp=true)∨
   (lf.ex≠.normal∧lf.ex=(out s).ex∧WkL K lf.vs (out s).vs∧WkBs K lf.bs (out s).bs∧kpLe lf.kp (out s).kp=true))
theorem rounds_run{E:Env}{sp:Sp}{T:Told}{F0:Fz}(hT:ToldOk F0 E sp T){f p:Nat}{body:Code}{n0:Nat}(hat:InCode E f (2*p) body n0){live:List Tmp}{ts:Ex→List Tmp}(hlv:(live.all fun t=>zE t n0)=true)(hn0:n0≤100000){r K:Nat}{S:Type}
  (R:za5 E T f p body n0 live ts r K S):∀(q:Nat) (s:S),R.μ s≤q→∀(F:Fz) (ι:Im) (b:Fr) (h:Hp),(∀b cs t,F b=some (cs,t)→t=0)→F0.le F→HRs F ι (shOf 0 (r*(R.μ s+1)) [] (R.bl s)) h→FRs F ι (frameOf n0 live (R.va s)) b→
  ∃N b' h' F' ι' k1 vs1 bs1,(∀m,N≤m→zae E sp m (.inl (.loop body)) b h=.ok (R.out s).ex b' h')∧(∀(i:Nat) t v,(ts (R.out s).ex)[i]?=some t→vs1[i]?=some v→∃v',b'.t.get t=some v'∧VRs F' ι' v v')∧
   HRs F' ι' (shOf k1 0 [] bs1) h'∧bs1.length<4000∧Frm F ι h (R.bl s).length (R.out s).kp 0 F' ι' h' (r*(R.μ s+1))∧WkL K vs1 (R.out s).vs∧WkBs K bs1 (R.out s).bs:=by
 intro q
 induction q with
 | zero=>
  intro s hm F ι b h hF h0 H hf
  obtain⟨lf,hlf,hcase⟩:=R.step s
  obtain⟨a',sh',vs,h2,h3,h4⟩:=roundT_sel hlf
  rcases hcase with⟨_,s',_,_,h7,_⟩|⟨h1,he,h5,h6,h7⟩
  .omega
  .have Hr:HRs F ι (shOf 0 r [] (R.bl s)) h:=H.less (by have:=H.most;have e:(shOf 0 (r*(R.μ s+1)) [] (R.bl s)).room=r*(R.μ s+1):=rfl;rw[e,zJ,zK]at this;omega)
   obtain⟨N,b',h',F',ι',q1,q2,q3,q4⟩:=srun_sound hT 100 _ _ _ _ h2 F ι b h (.inl body) h0 Hr ⟨rfl,hf,by exact hat⟩
   obtain⟨ι2,r1,r2,r3,r4⟩:=fin_ok q3 q4 h4
   obtain⟨ws,w1,w2⟩:=vals_rel q2 h3
   rw[he]at w1
   refine⟨N+1,b',h',F',ι2,_,lf.vs,lf.bs,fun m hm=>?_,fun i t v e1 e2=>?_,r2,r4,?_,h5,h6⟩
   .obtain⟨m,rfl⟩:∃k,m=k+1:=⟨m-1,by omega⟩
    have e1:=q1 m (by omega)
    simp only at e1 ⊢
    unfold zae
    simp only[e1]
    rw[←he]
    split
    .rename_i e;injection e with e;exact absurd e h1
    .rfl
   .obtain⟨k1,k2⟩:=valsB_at w1
    obtain⟨y,g1,g2⟩:=(r1 ws w2).get e2
    exact⟨y,k2 e1 g1,g2⟩
   .have:=r3.le h7 (zB _)
    exact⟨this.fm,fun b cs t e=>by rcases this.fnew b cs t e with z|⟨_,z⟩;exact .inl z;exact .inr ⟨zF _,z⟩,this.hnext,by have:=this.room;rw[zJ,zK];omega,this.keep,this.kept,this.new,this.len⟩
 | succ q ih=>
  intro s hm F ι b h hF h0 H hf
  have Hr:HRs F ι (shOf 0 r [] (R.bl s)) h:=H.less (by have:=H.most;have e:(shOf 0 (r*(R.μ s+1)) [] (R.bl s)).room=r*(R.μ s+1):=rfl;rw[e,zJ,zK]at this;omega)
  obtain⟨lf,hlf,hcase⟩:=R.step s
  obtain⟨a',sh',vs,h2,h3,h4⟩:=roundT_sel hlf
  obtain⟨N,b',h',F',ι',q1,q2,q3,q4⟩:=srun_sound hT 100 _ _ _ _ h2 F ι b h (.inl body) h0 Hr ⟨rfl,hf,by exact hat⟩
  obtain⟨ι2,r1,r2,r3,r4⟩:=fin_ok q3 q4 h4
  obtain⟨ws,w1,w2⟩:=vals_rel q2 h3
  rcases hcase with⟨h1,s',h5,h6,h7,h8,h10,h11,h12⟩|⟨h1,he,h5,h6,h7⟩
  .rw[h1,R.tsn]at w1
   have h00:F0.le (calm0 F'):=fun b x e=>by
    obtain⟨cs,t⟩:=x
    have e1:=h0 b _ e
    have:=hF b cs t e1
    subst this
    unfold calm0
    rw[q4.fm b _ e1]
   have mle:r*(R.μ s'+1)+r≤r*(R.μ s+1):=by
    have:R.μ s'+1+1≤R.μ s+1:=by omega
    have:=Nat.mul_le_mul_left r this
    rw[zJ r (R.μ s'+1) 1,zK]at this
    exact this
   have hmost:h'.next+r*(R.μ s'+1)≤9223372036854775808:=by
    have:=H.most
    have e:(shOf 0 (r*(R.μ s+1)) [] (R.bl s)).room=r*(R.μ s+1):=rfl
    rw[e]at this
    have:=r3.room
    omega
   have H2:HRs (calm0 F') ι2 (shOf 0 (r*(R.μ s'+1)) [] (R.bl s')) h':=(HRs.wk r2 r4 h6 (zcO F') zde).less hmost
   have hbn:b'.n=n0:=(zdy N body b b' h h' _ (by rw[←hf.n];exact hf.small) (q1 N (zB _))).n.trans hf.n.symm
   have hfr:FRs (calm0 F') ι2 (frameOf n0 live (R.va s')) b':=frame_rel hn0 hlv hbn w1 (h5.rel (zcO F') (r1 ws w2))
   obtain⟨N2,b2,h2',F2,ι3,k1,vs2,bs2,p1,p2,p3,p4,p5,p6,p7⟩:=ih s' (by omega) (calm0 F') ι2 b' h' (fun b cs t e=>by have:=(zde b cs t e).1;omega) h00 H2 hfr
   rw[h8]at p1 p2
   rw[h10]at p6
   rw[h11]at p7
   refine⟨max N N2+1,b2,h2',F2,ι3,k1,vs2,bs2,fun m hm=>?_,p2,p3,p4,?_,p6,p7⟩
   .obtain⟨m,rfl⟩:∃k,m=k+1:=⟨m-1,by omega⟩
    have e1:=q1 m (by omega)
    rw[h1]at e1
    simp only at e1 ⊢
    unfold zae
    simp only[e1]
    exact p1 m (by omega)
   .exact(Frm.comp hF r3 p5).le h12 (by omega)
  .rw[he]at w1
   refine⟨N+1,b',h',F',ι2,_,lf.vs,lf.bs,fun m hm=>?_,fun i t v e1 e2=>?_,r2,r4,?_,h5,h6⟩
   .obtain⟨m,rfl⟩:∃k,m=k+1:=⟨m-1,by omega⟩
    have e1:=q1 m (by omega)
    simp only at e1 ⊢
    unfold zae
    simp only[e1]
    rw[←he]
    split
    .rename_i e;injection e with e;exact absurd e h1
    .rfl
   .obtain⟨k1,k2⟩:=valsB_at w1
    obtain⟨y,g1,g2⟩:=(r1 ws w2).get e2
    exact⟨y,k2 e1 g1,g2⟩
   .have:=r3.le h7 (zB _)
    exact⟨this.fm,fun b cs t e=>by rcases this.fnew b cs t e with z|⟨_,z⟩;exact .inl z;exact .inr ⟨zF _,z⟩,this.hnext,by have:=this.room;rw[zJ,zK];omega,this.keep,this.kept,this.new,this.len⟩
def SubLp(F0:Fz)(E:Env)(sp:Sp)(x:Code)(n c:Nat)(live ws:List Tmp)(g:Nat→List SV→List SB→RT (Left (Ex×List (Tmp×SV)))):Prop:=
 (∀t,t∈wr x→t∈ws)∧
  ∀F ι k h vs vs' bs (b:Fr) L,F0.le F→HRs F ι (shOf k c [] bs) h→bs.length<4000→b.n=n→n≤100000→valsB b live=some vs'→LRs F ι vs vs'→(g k vs bs).sel=some L→
   ∃N b' h' F' ι',(∀m,N≤m→zae E sp m (.inl (.loop x)) b h=.ok L.v.1 b' h')∧(∀t v,(t,v)∈L.v.2→∃v',b'.t.get t=some v'∧VRs F' ι' v v')∧HRs F' ι' (shOf (k+1) 0 [] L.bs) h'∧Frm F ι h bs.length L.kp (k+1) F' ι' h' c
theorem regs2_rel{F:Fz}{ι:Im}{b:Fr}:∀ {rs:List (Tmp×SV)} {a a':Fs},FRs F ι a b→(∀t v,(t,v)∈rs→∃v',b.t.get t=some v'∧VRs F ι v v')→regs2 rs a=some a'→FRs F ι a' b
 | [],a,a',hf,hr,e=>by injection e with e;subst e;exact hf
 | (t,v)::l,a,a',hf,hr,e=>by
  unfold regs2 at e
  split at e
  .rename_i a2 hput
   obtain⟨v',q1,hv⟩:=hr t v (by simp)
   refine regs2_rel (a:=a2) ?_ (fun t v h=>hr t v (by simp[h])) e
   unfold Fs.put at hput
   simp only at hput
   cases hb:zE t a.n with
   | false=>rw[hb]at hput;cases hput
   | true=>
    rw[hb,cond_true,Tr.force_eq]at hput
    injection hput with hput
    subst hput
    have hlt:Nat.lt t a.n:=zO hb
    have h24:Nat.lt (t+1) (2 ^ 64):=zL hlt (zL hf.small (by decide))
    refine⟨hf.n,hf.small,fun u x hx=>?_⟩
    have:(a.t.set 24 t v).get u=some x:=hx
    rw[Tr.get_set _ _ _ _ _ h24]at this
    split at this
    .rename_i q;subst q;injection this with this;subst this;exact⟨v',q1,hv⟩
    .exact hf.at_ u x this
  .cases e
theorem subLp_rel{E:Env}{sp:Sp}{F0:Fz}{c:Nat}{live ws:List Tmp}{g:Nat→List SV→List SB→RT (Left (Ex×List (Tmp×SV)))}{x:Code}{n:Nat}(hl:SubLp F0 E sp x n c live ws g){F:Fz}(h0:F0.le F){ι:Im}{sh:SH}{h:Hp}{a:Fs}{b:Fr}{r:Ex×Fs×SH}
  (H:HRs F ι sh h) (hf:FRs F ι a b) (han:a.n=n) (hs:(zaD c live ws g a sh).sel=some r):RunR F ι sh h r fun m=>zae E sp m (.inl (.loop x)) b h:=by
 unfold zaD at hs
 split at hs
 .rename_i vs hv
  split at hs
  .rename_i vs1 bs ids sh1 hcan hpay
   obtain⟨L,g1,g2⟩:=zah hs
   split at g2
   .rename_i t rs sh2 ht hren hback
    split at g2
    .rename_i a2 hput
     simp only[RT.sel,zA]at g2
     subst g2
     obtain⟨P,ha⟩:=zcC hcan
     obtain⟨hc,_⟩:=pay_some hpay
     obtain⟨vs',v1,v2⟩:=vals_rel hf hv
     obtain⟨hw,hrun⟩:=hl
     obtain⟨N,b',h',F',ι',q1,q2,q3,q4⟩:=hrun F _ _ h vs1 vs' bs b L h0 (part_hr H P hc) P.small (hf.n.symm.trans han) (by rw[←han];exact hf.small) v1 (part_args ha v2) g1
     rw[P.len]at q4
     obtain⟨ι2,r1,r2,r3⟩:=back_ok H P hpay q3 q4 hback
     have hk:=zdy N (.loop x) b b' h h' L.v.1 (by rw[←hf.n];exact hf.small) (q1 N (zB _))
     have hf2:FRs F' ι2 ⟨a.n,t⟩ b':=(lost_rel hf ht hk hw).mono r2.fm (r2.le H)
     refine⟨N,b',h',F',ι2,q1,regs2_rel hf2 (fun t v hm=>?_) hput,r1,r2⟩
     obtain⟨e1,e2⟩:=zcx hren
     obtain⟨i,hi⟩:=List.getElem?_of_mem hm
     obtain⟨p0,f1,f2⟩:=e2 i _ hi
     split at f2
     .rename_i v0 hv0
      simp only[zA,zD]at f2
      obtain⟨rfl,rfl⟩:=f2
      obtain⟨v',k1,k2⟩:=q2 p0.1 p0.2 (List.mem_of_getElem? f1)
      exact⟨v',k1,r3 _ _ _ hv0 k2⟩
     .cases f2
    .cases g2
   .cases g2
  .cases hs
 .cases hs
theorem code_sits{root:Code}:∀ {n p:Nat} {c:Code},zdI root n p=some c→Sits root p c
 | 0,p,c,h=>by cases h
 | n+1,p,c,h=>by
  unfold zdI at h
  cases hp:zC p 1 with
  | true=>
   rw[hp]at h
   have:=zG hp
   subst this
   injection h with h;subst h
   exact .root
  | false=>
   rw[hp]at h
   simp only at h
   cases hq:zC (p % 2) 0 with
   | true=>
    have e:p=2*(p / 2):=by have:=zG hq;omega
    rw[hq]at h
    cases hc:zdI root n (p / 2)with
    | none=>rw[hc]at h;cases h
    | some d=>
     have ih:=code_sits hc
     rw[hc]at h
     rw[e]
     cases d<;>simp only[zA,reduceCtorEq]at h<;>subst h
     .exact .seqL ih
     .exact .condL ih
     .exact .block ih
     .exact .loop ih
   | false=>
    have e:p=2*(p / 2)+1:=by
     have:p % 2≠0:=fun q=>by rw[q]at hq;cases hq
     omega
    rw[hq]at h
    cases hc:zdI root n (p / 2)with
    | none=>rw[hc]at h;cases h
    | some d=>
     have ih:=code_sits hc
     rw[hc]at h
     rw[e]
     cases d<;>simp only[zA,reduceCtorEq]at h<;>subst h
     .exact .seqR ih
     .exact .condR ih
theorem lp_of{E:Env}{sp:Sp}{T:Told}{F0:Fz}(hT:ToldOk F0 E sp T)(hF0:∀b cs t,F0 b=some (cs,t)→t=0){f p:Nat}{body:Code}{n0:Nat}(hat:InCode E f (2*p) body n0){live:List Tmp}{ts:Ex→List Tmp}(hlv:(live.all fun t=>zE t n0)=true)(hn0:n0≤100000){r k c:Nat}{S:Type}
  (R:za5 E T f p body n0 live ts r (k+1) S) (s:S) (hc:r*(R.μ s+1)≤c) {vs:List SV} {bs:List SB} (hbs:bs.length<4000) (wa:WkL 0 vs (R.va s)) (wb:WkBs 0 bs (R.bl s)) {L:Left (Ex×List (Tmp×SV))} (hL:L=⟨((R.out s).ex,(ts (R.out s).ex).zip (R.out s).vs),(R.out s).bs,(R.out s).kp⟩)
  {F:Fz} {ι:Im} {h:Hp} {vs':List Value} {b:Fr} (h0:F0.le F) (H:HRs F ι (shOf k c [] bs) h) (hbn:b.n=n0) (hv:valsB b live=some vs') (hl:LRs F ι vs vs') :
  ∃N b' h' F' ι',(∀m,N≤m→zae E sp m (.inl (.loop body)) b h=.ok L.v.1 b' h')∧(∀t v,(t,v)∈L.v.2→∃v',b'.t.get t=some v'∧VRs F' ι' v v')∧HRs F' ι' (shOf (k+1) 0 [] L.bs) h'∧Frm F ι h bs.length L.kp (k+1) F' ι' h' c:=by
 subst hL
 have h00:F0.le (calm0 F):=fun b x e=>by
  obtain⟨cs,t⟩:=x
  have:=hF0 b cs t e
  subst this
  unfold calm0
  rw[h0 b _ e]
 have hmost:h.next+r*(R.μ s+1)≤9223372036854775808:=by
  have:=H.most
  have e:(shOf k c [] bs).room=c:=rfl
  rw[e]at this
  omega
 have H0:HRs (calm0 F) ι (shOf 0 (r*(R.μ s+1)) [] (R.bl s)) h:=(H.wk hbs wb (zcO F) zde).less hmost
 obtain⟨N,b',h',F1,ι2,k1,vs1,bs1,p1,p2,p3,p4,p5,p6,p7⟩:=rounds_run hT hat hlv hn0 R (R.μ s) s (zB _) (calm0 F) ι b h (fun b cs t e=>by have:=(zde b cs t e).1;omega) h00 H0 (frame_rel hn0 hlv hbn hv (wa.rel (zcO F) hl))
 have tm:Tm (k+1) F1 (later F F1 (k+1)):=fun b cs t e=>by
  unfold later
  cases hF:F b with
  | some x=>
   obtain⟨cs0,t0⟩:=x
   have:=p5.fm b (cs0,0) (by unfold calm0;rw[hF])
   rw[e]at this
   injection this with this
   injection this with e1 e2
   subst e1
   have:=(H.frz b cs t0 hF).1
   exact⟨t0,by have:t0≤k:=this;omega,rfl⟩
  | none=>rw[e];exact⟨k+1,zB _,rfl⟩
 refine⟨N,b',h',later F F1 (k+1),ι2,p1,fun t v hm=>?_,?_,?_⟩
 .obtain⟨i,hi⟩:=List.getElem?_of_mem hm
  obtain⟨q1,q2⟩:(ts (R.out s).ex)[i]?=some t∧(R.out s).vs[i]?=some v:=by
   rw[List.getElem?_zip_eq_some]at hi
   exact hi
  have hi1:i<vs1.length:=by rw[p6.len];exact(List.getElem?_eq_some_iff.1 q2).1
  obtain⟨v',g1,g2⟩:=p2 i t vs1[i] q1 (by simp[hi1])
  exact⟨v',g1,p6.at_ i vs1[i] v (by simp[hi1]) q2 _ _ _ _ tm g2⟩
 .refine HRs.wk p3 p4 p7 tm fun b cs t e=>?_
  unfold later at e
  cases hF:F b with
  | some x=>
   obtain⟨cs0,t0⟩:=x
   rw[hF]at e
   injection e with e;injection e with e1 e2
   subst e1 e2
   have:=(H.frz b cs0 t0 hF).1
   exact⟨by have:t0≤k:=this;omega,0,p5.fm b (cs0,0) (by unfold calm0;rw[hF])⟩
  | none=>
   rw[hF]at e
   simp only at e
   split at e
   .rename_i cs2 t2 h2
    injection e with e;injection e with e1 e2
    subst e1 e2
    exact⟨zB _,t2,h2⟩
   .cases e
 .have hlen:(R.bl s).length=bs.length:=wb.len.symm
  rw[←hlen]
  refine⟨fun b x e=>by unfold later;rw[e],fun b cs t e=>?_,p5.hnext,by have:=p5.room;omega,p5.keep,p5.kept,p5.new,p5.len⟩
  unfold later at e
  cases hF:F b with
  | some x=>rw[hF]at e;exact .inl e
  | none=>
   rw[hF]at e
   simp only at e
   split at e
   .rename_i cs2 t2 h2
    injection e with e;injection e with e1 e2
    subst e1 e2
    rcases p5.fnew b _ t2 h2 with q|⟨q0,q⟩
    .unfold calm0 at q
     rw[hF]at q
     cases q
    .exact .inr ⟨zB _,q⟩
   .cases e
def fnT(E:Env)(T:Told)(f:FuncId)(c:Nat)(args:List SV)(bs:List SB):RT Lf:=
 (sanswer E T 400 f args (shOf 0 c [] bs)).bind fun r=>(match fin_ bs.length [r.1] r.2 with
  | some q=>.ret ⟨.ret,q.1,q.2.1,q.2.2⟩
  | none=>.bad)
theorem za3{E:Env}{sp:Sp}{T:Told}{F0:Fz}(hT:ToldOk F0 E sp T)(hF0:∀b cs t,F0 b=some (cs,t)→t=0){f:FuncId}(hf:T.pf f=none){k c:Nat}{args args0:List SV}{lf:Lf}
  (hs:(fnT E T f c args0 []).sel=some lf) (wa:WkL 0 args args0) {v:SV} (hv:WkL (k+1) lf.vs [v]) (hp:plainT_ v=true)
  {F:Fz} {h:Hp} {args':List Value} (h0:F0.le F) (H:HRs F Im0 ⟨0,k,c,[],.nil⟩ h) (hl:LRs F Im0 args args') :
  ∃N v' h',(∀n,N≤n→(match sp f with|some q=>q args' h|none=>match zae E sp n (.inr (f,args')) ⟨0,0,.nil⟩ h with|.ok _ r h=>some (r.eval (.tmp 0),h)|.bad=>none)=some (v',h'))∧
   VRs (fun _=>none) Im0 v v'∧h.next≤h'.next∧h'.next≤h.next+c∧∀b,b<h.next→h'.get b=h.get b:=by
 have h00:F0.le (calm0 F):=fun b x e=>by
  obtain⟨cs,t⟩:=x
  have:=hF0 b cs t e
  subst this
  unfold calm0
  rw[h0 b _ e]
 have H0:HRs (calm0 F) Im0 (shOf 0 c [] []) h:=by
  refine⟨H.most,H.smost,fun id _=>⟨rfl,rfl⟩,fun id sb e=>(by cases e),fun id id' B B' _ l=>(by obtain⟨sb,e,_⟩:=l;cases e),fun b cs t e=>?_,fun b x id B _ l=>(by obtain⟨sb,e,_⟩:=l;cases e)⟩
  obtain⟨e1,t0,e2⟩:=zde b cs t e
  obtain⟨_,f2⟩:=H.frz b cs t0 e2
  exact⟨e1,f2⟩
 unfold fnT at hs
 obtain⟨⟨v1,sh1⟩,h1,h2⟩:=zah hs
 simp only at h2
 split at h2
 .rename_i q hq
  simp only[RT.sel,zA]at h2
  subst h2
  obtain⟨vs,bs1,kp⟩:=q
  simp only at hv
  obtain⟨N,v',h',F',ι',q1,q2,q3,q4⟩:=sanswer_rel hT h1 h00 H0 (wa.rel (zcO F) hl)
  obtain⟨ι2,r1,r2,r3,r4⟩:=fin_ok q3 q4 hq
  refine⟨N,v',h',fun m hm=>?_,?_,r3.hnext,r3.room,fun b hb=>r3.keep b hb fun i B ht=>?_⟩
  .rw[hT.run f hf];exact q1 m hm
  .have hl1:=hv.len
   match vs,hl1,hv,r1 with
   | [a1],_,hv,r1=>
    have one:=(r1 [v'] (.cons q2 (.nil ..))).head
    have tm:Tm (k+1) F' (fun b=>match F' b with|some (cs,_)=>some (cs,k+1)|none=>none):=fun b cs t e=>⟨k+1,zB _,by simp only[e]⟩
    exact plainT_rel (hv.at_ 0 a1 v rfl rfl _ _ _ _ tm one) hp
  .have hlen:=r3.len
   rcases ht with e|⟨j,e⟩<;>exact absurd (List.getElem?_eq_some_iff.1 e).1 (by rw[hlen];simp)
 .cases h2
theorem HRs.addEmpty{F:Fz}{ι:Im}{k c:Nat}{log:List Nat}{bs:List SB}{h:Hp}(H:HRs F ι (shOf k c log bs) h)(hs:bs.length+1<4000){kk:Nat}{e:Nat→List SV}{t:TypeId}:HRs F ι (shOf k c log (bs++[.row kk 0 e t])) h:=by
 have hs1:bs.length<4000:=by omega
 have hs2:(bs++[SB.row kk 0 e t]).length<4000:=by simp;omega
 have at_:∀i sb,(bs++[SB.row kk 0 e t])[i]?=some sb→bs[i]?=some sb∨(i=bs.length∧sb=.row kk 0 e t):=fun i sb hi=>by
  by_cases hlt:i<bs.length
  .rw[List.getElem?_append_left hlt]at hi;exact .inl hi
  .rw[List.getElem?_append_right (by omega)]at hi
   have:i-bs.length=0:=by
    by_cases q:i-bs.length=0
    .exact q
    .rw[List.getElem?_eq_none (by simp;omega)]at hi;cases hi
   rw[this]at hi
   simp at hi
   exact .inr ⟨by omega,hi.symm⟩
 have inone:∀i,bs.length≤i→ι i=none:=fun i hi=>(H.sdom i hi).2
 have live:∀i B,Live (shOf k c log (bs++[SB.row kk 0 e t])) i→ι i=some B→Live (shOf k c log bs) i:=by
  rintro i B ⟨b2,p1,p2⟩ e2
  rw[zay hs2]at p1
  rcases at_ i b2 p1 with q|⟨q,_⟩
  .exact⟨b2,by rw[zay hs1];exact q,p2⟩
  .rw[inone i (by omega)]at e2;cases e2
 refine⟨H.most,by show(bs++[SB.row kk 0 e t]).length≤_;omega,fun id hid=>?_,fun i sb hi=>?_,fun i j B B' hne l1 l2 e1 e2=>H.apart i j B B' hne (live i B l1 e1) (live j B' l2 e2) e1 e2,H.frz,fun b x i B ef l e2=>H.fap b x i B ef (live i B l e2) e2⟩
 .have hid:(bs++[SB.row kk 0 e t]).length≤id:=hid
  refine⟨by rw[zay hs2,List.getElem?_eq_none hid],inone id ?_⟩
  simp at hid;omega
 .rw[zay hs2]at hi
  rcases at_ i sb hi with q|⟨q1,q2⟩
  .exact H.ok i sb (by rw[zay hs1];exact q)
  .subst q2;exact .inl ⟨rfl,inone i (by omega)⟩
theorem Wk.nil_nsl{K id k:Nat}{c:Bool}{s z:Nat}(hz:1≤z):Wk K (.raw (.slice none 0 0)) (.nsl id k c s 0 z):=fun F F2 ι w _ hv=>by
 obtain⟨rfl,_⟩:=hv.raw_inv;exact .nslN _ _ _ _ _ _ hz
def SH.frzT(h:SH)(x:SV):Option (SV×SH):=
 match x with
 | .tup l=>(match h.frzL (l.map fun _=>true) l with|some (l,h)=>some (.tup l,h)|none=>none)
 | x=>h.frzA x
theorem frzT_rel{F:Fz}{ι:Im}{sh sh':SH}{h:Hp}(H:HRs F ι sh h){x y:SV}{x':Value}(hx:VRs F ι x x')(hv:sh.frzT x=some (y,sh')) :
  ∃F',VRs F' ι y x'∧HRs F' ι sh' h∧Stp F ι sh h F' ι sh' h:=by
 unfold SH.frzT at hv
 split at hv
 .obtain⟨l',rfl,L⟩:=hx.tup_inv
  split at hv
  .rename_i l2 sh2 e2
   simp only[zA,zD]at hv
   obtain⟨rfl,rfl⟩:=hv
   obtain⟨F',q1,q2,q3⟩:=frzL_rel H L e2
   exact⟨F',.tup_of q1,q2,q3⟩
  .cases hv
 .exact frzA_rel H hx hv
def SH.frzIf(z:Bool)(h:SH)(x:SV):Option (SV×SH):=match z with|true=>h.frzT x|false=>some (x,h)
theorem frzIf_rel{z:Bool}{F:Fz}{ι:Im}{sh sh':SH}{h:Hp}(H:HRs F ι sh h){x y:SV}{x':Value}(hx:VRs F ι x x')(hv:sh.frzIf z x=some (y,sh')) :
  ∃F',VRs F' ι y x'∧HRs F' ι sh' h∧Stp F ι sh h F' ι sh' h:=by
 cases z with
 | true=>exact frzT_rel H hx hv
 | false=>
  simp only[SH.frzIf,zA,zD]at hv
  obtain⟨rfl,rfl⟩:=hv
  exact⟨F,hx,H,Stp.refl F H⟩
def fnZ(z:Bool)(E:Env)(T:Told)(f:FuncId)(c:Nat)(args:List SV)(bs:List SB):RT Lf:=
 (sanswer E T 400 f args (shOf 0 c [] bs)).bind fun r=>(match r.2.frzIf z r.1 with
  | some s=>(match fin_ bs.length [s.1] s.2 with
   | some q=>.ret ⟨.ret,q.1,q.2.1,q.2.2⟩
   | none=>.bad)
  | none=>.bad)
theorem sub_of_z{z:Bool}{E:Env}{sp:Sp}{T:Told}{F0:Fz}(hT:ToldOk F0 E sp T)(hF0:∀b cs t,F0 b=some (cs,t)→t=0){f:FuncId}(hf:T.pf f=none){k c:Nat}{args args0:List SV}{bs bs0:List SB}{lf:Lf}
  (hs:(fnZ z E T f c args0 bs0).sel=some lf) (hbs:bs.length<4000) (wa:WkL 0 args args0) (wb:WkBs 0 bs bs0)
  {L:Left SV} (hv:WkL (k+1) lf.vs [L.v]) (hb:WkBs (k+1) lf.bs L.bs) (hk:kpLe lf.kp L.kp=true)
  {F:Fz} {ι:Im} {h:Hp} {args':List Value} (h0:F0.le F) (H:HRs F ι (shOf k c [] bs) h) (hl:LRs F ι args args') (b:Fr) :
  ∃N v' h' F' ι',(∀n,N≤n→zbh E sp b n f args' h=some (v',h'))∧VRs F' ι' L.v v'∧HRs F' ι' (shOf (k+1) 0 [] L.bs) h'∧Frm F ι h bs.length L.kp (k+1) F' ι' h' c:=by
 have h00:F0.le (calm0 F):=fun b x e=>by
  obtain⟨cs,t⟩:=x
  have:=hF0 b cs t e
  subst this
  unfold calm0
  rw[h0 b _ e]
 have H0:HRs (calm0 F) ι (shOf 0 c [] bs0) h:=H.wk hbs wb (zcO F) fun b cs t e=>by
  unfold calm0 at e
  split at e
  .rename_i cs2 t2 hF;injection e with e;injection e with e1 e2;subst e1 e2;exact⟨zB _,t2,hF⟩
  .cases e
 unfold fnZ at hs
 obtain⟨⟨v,sh1⟩,h1,h2⟩:=zah hs
 simp only at h2
 split at h2
 .rename_i s hfz
  obtain⟨v2,sh2⟩:=s
  simp only at h2
  split at h2
  .rename_i q hq
   simp only[RT.sel,zA]at h2
   subst h2
   obtain⟨vs,bs1,kp⟩:=q
   simp only at hv hb hk
   obtain⟨N,v',h',F1,ι1,q1,q2,q3,q4⟩:=sanswer_rel hT h1 h00 H0 (wa.rel (zcO F) hl)
   obtain⟨F2,z2,z3,z4⟩:=frzIf_rel q3 q2 hfz
   obtain⟨ι2,r1,r2,r3,r4⟩:=fin_ok z3 (q4.trans z4) hq
   have r3:=r3.le hk (zB _)
   have tm:Tm (k+1) F2 (later F F2 (k+1)):=fun b cs t e=>by
    unfold later
    cases hF:F b with
    | some x=>
     obtain⟨cs0,t0⟩:=x
     have:=r3.fm b (cs0,0) (by unfold calm0;rw[hF])
     rw[e]at this
     injection this with this
     injection this with e1 e2
     subst e1
     have:=(H.frz b cs t0 hF).1
     exact⟨t0,by have:t0≤k:=this;omega,rfl⟩
    | none=>rw[e];exact⟨k+1,zB _,rfl⟩
   refine⟨N,v',h',later F F2 (k+1),ι2,fun m hm=>?_,?_,?_,?_⟩
   .unfold zbh
    rw[hT.run f hf,run_frame (b':=⟨0,0,.nil⟩)]
    exact q1 m hm
   .have one:=r1 [v'] (.cons z2 (.nil ..))
    have one2:=hv.rel tm one
    exact one2.head
   .refine HRs.wk r2 r4 hb tm fun b cs t e=>?_
    unfold later at e
    cases hF:F b with
    | some x=>
     obtain⟨cs0,t0⟩:=x
     rw[hF]at e
     injection e with e;injection e with e1 e2
     subst e1 e2
     have:=(H.frz b cs0 t0 hF).1
     exact⟨by have:t0≤k:=this;omega,0,r3.fm b (cs0,0) (by unfold calm0;rw[hF])⟩
    | none=>
     rw[hF]at e
     simp only at e
     split at e
     .rename_i cs2 t2 h2
      injection e with e;injection e with e1 e2
      subst e1 e2
      exact⟨zB _,t2,h2⟩
     .cases e
   .have hlen:bs0.length=bs.length:=wb.len.symm
    rw[←hlen]
    refine⟨fun b x e=>by unfold later;rw[e],fun b cs t e=>?_,r3.hnext,r3.room,r3.keep,r3.kept,r3.new,r3.len⟩
    unfold later at e
    cases hF:F b with
    | some x=>rw[hF]at e;exact .inl e
    | none=>
     rw[hF]at e
     simp only at e
     split at e
     .rename_i cs2 t2 h2
      injection e with e;injection e with e1 e2
      subst e1 e2
      rcases r3.fnew b _ t2 h2 with q|⟨q0,q⟩
      .unfold calm0 at q
       rw[hF]at q
       cases q
      .exact .inr ⟨zB _,q⟩
     .cases e
  .cases h2
 .cases h2
def gSub{ρ:Type}(dec:List SV→List SB→Option ρ)(pre:ρ→Bool)(out:Nat→ρ→Left SV)(k:Nat)(a:List SV)(b:List SB):RT (Left SV):=
 match dec a b with
 | some r=>.br (pre r) (.ret (out k r)) .bad
 | none=>.bad
theorem zaF{z:Bool}{E:Env}{sp:Sp}{T:Told}{F0:Fz}(hT:ToldOk F0 E sp T)(hF0:∀b cs t,F0 b=some (cs,t)→t=0){f:FuncId}(hf:T.pf f=none){c:Nat}{ρ:Type}{dec:List SV→List SB→Option ρ}{pre:ρ→Bool}{out:Nat→ρ→Left SV}
  (hrun:∀k a b r,dec a b=some r→pre r=true→∃a0 b0 lf,WkL 0 a a0∧WkBs 0 b b0∧(fnZ z E T f c a0 b0).sel=some lf∧WkL (k+1) lf.vs [(out k r).v]∧WkBs (k+1) lf.bs (out k r).bs∧kpLe lf.kp (out k r).kp=true) :
  SubOk F0 E sp f c (gSub dec pre out):=fun F ι k h args args' bs L b h0 H hbs hl hg=>by
 unfold gSub at hg
 split at hg
 .rename_i r hr
  cases hp:pre r with
  | false=>rw[hp]at hg;cases hg
  | true=>
   rw[hp]at hg
   simp only[RT.sel,cond_true,zA]at hg
   subst hg
   obtain⟨a0,b0,lf,w1,w2,w3,w4,w5,w6⟩:=hrun k args bs r hr hp
   exact sub_of_z hT hF0 hf w3 hbs w1 w2 w4 w5 w6 h0 H hl b
 .cases hg
def gPl{ρ:Type}(dec:List SV→Option ρ)(pre:ρ→Bool)(out:ρ→SV)(a:List SV):RT SV:=
 match dec a with
 | some r=>.br (pre r) (.ret (out r)) .bad
 | none=>.bad
theorem za6{E:Env}{sp:Sp}{T:Told}{F0:Fz}(hT:ToldOk F0 E sp T)(hF0:∀b cs t,F0 b=some (cs,t)→t=0){f:FuncId}(hf:T.pf f=none){c:Nat}{ρ:Type}{dec:List SV→Option ρ}{pre:ρ→Bool}{out:ρ→SV}
  (hrun:∀K a r,dec a=some r→pre r=true→∃a0 lf,WkL 0 a a0∧(fnT E T f c a0 []).sel=some lf∧WkL K lf.vs [out r]) :
  zaA F0 E sp f c (gPl dec pre out):=fun F k h args args' v h0 H hl hg hpl=>by
 unfold gPl at hg
 split at hg
 .rename_i r hr
  cases hp:pre r with
  | false=>rw[hp]at hg;cases hg
  | true=>
   rw[hp]at hg
   simp only[RT.sel,cond_true,zA]at hg
   subst hg
   obtain⟨a0,lf,w1,w2,w3⟩:=hrun (k+1) args r hr hp
   exact za3 hT hF0 hf w2 w1 w3 hpl h0 H hl
 .cases hg
def gLp{ρ:Type}(dec:List SV→List SB→Option ρ)(pre:ρ→Bool)(out:Nat→ρ→Left (Ex×List (Tmp×SV)))(k:Nat)(a:List SV)(b:List SB):RT (Left (Ex×List (Tmp×SV))):=
 match dec a b with
 | some r=>.br (pre r) (.ret (out k r)) .bad
 | none=>.bad
theorem zbg{E:Env}{sp:Sp}{T:Told}{F0:Fz}(hT:ToldOk F0 E sp T)(hF0:∀b cs t,F0 b=some (cs,t)→t=0){f p:Nat}{body:Code}{n0:Nat}(hat:InCode E f (2*p) body n0){live ws:List Tmp}(hws:∀t,t∈wr body→t∈ws){ts:Ex→List Tmp}(hlv:(live.all fun t=>zE t n0)=true)(hn0:n0≤100000){rr c:Nat}{ρ:Type}{dec:List SV→List SB→Option ρ}{pre:ρ→Bool}{out:Nat→ρ→Left (Ex×List (Tmp×SV))}
  (hrun:∀k a b r,dec a b=some r→pre r=true→∃(S:Type) (R:za5 E T f p body n0 live ts rr (k+1) S) (s:S),rr*(R.μ s+1)≤c∧WkL 0 a (R.va s)∧WkBs 0 b (R.bl s)∧out k r=⟨((R.out s).ex,(ts (R.out s).ex).zip (R.out s).vs),(R.out s).bs,(R.out s).kp⟩) :
  SubLp F0 E sp body n0 c live ws (gLp dec pre out):=
 ⟨hws,fun F ι k h vs vs' bs b L h0 H hbs hbn hn hv hl hg=>by
  unfold gLp at hg
  split at hg
  .rename_i r hr
   cases hp:pre r with
   | false=>rw[hp]at hg;cases hg
   | true=>
    rw[hp]at hg
    simp only[RT.sel,cond_true,zA]at hg
    subst hg
    obtain⟨S,R,s,w1,w2,w3,w4⟩:=hrun k vs bs r hr hp
    exact lp_of hT hF0 hat hlv hn0 R s w1 hbs w2 w3 w4 h0 H hbn hv hl
  .cases hg⟩
theorem VRs.nl_split{F:Fz}{ι:Im}{st k n:Nat}{e:Nat→List SV}{v:Value}{nl:Option Bool}(h:VRs F ι (.fsl st k n nl e) v):VRs F ι (.fsl st k n (some false) e) v∨(n=0∧VRs F ι (.raw (.slice none 0 0)) v):=by
 cases h with
 | fsl _ _ _ _ _ _ b o cs t cap h1 h2 h3 h4 h5 h6 h7=>exact .inl (.fsl _ _ _ _ _ _ b o cs t cap h1 h2 (.inr rfl) h4 h5 h6 h7)
 | fslN _ _ _ _ _ h=>exact .inr ⟨rfl,.raw _ _ rfl⟩
 | fslE _ _ _ _ _ h=>exact .inl (.fslE _ _ _ _ _ (.inr rfl))
end Go.Proofs.YtponjccgpbgnoaaGreatDoor.Se
