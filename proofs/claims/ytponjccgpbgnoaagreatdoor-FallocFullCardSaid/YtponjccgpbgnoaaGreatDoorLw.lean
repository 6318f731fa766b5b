/- The package-level variables that are laid, in the evaluator's first heap. -/
import Derived.Test.YtponjccgpbgnoaaGreatDoorSpX
import Derived.OpenShut
import Derived.Test.YtponjccgpbgnoaaGreatDoorSeT
import Derived.KernelRfl
import Derived.Test.YtponjccgpbgnoaaGreatDoorInT
import Derived.WalkKit
import Derived.ProofKit
import Derived.Lay
import Derived.LaidMore
import Derived.ChangeSlices
set_option linter.unusedVariables false
set_option linter.unusedSimpArgs false
set_option linter.unusedSectionVars false
open Prod.mk renaming injEq→zA
open Option.some renaming injEq→zB
open Nat renaming le_refl→zC,eq_zero_or_pos→zE
open Int renaming ofNat→zD
namespace Go.Proofs.YtponjccgpbgnoaaGreatDoor
open Go Go.RowKit
def litV:DataW Unit→Option Value
 | .lit (.int k n)=>some (.int k n)
 | .lit (.bool b)=>some (.bool b)
 | .lit (.string s)=>some (.string ⟨⟨s⟩⟩)
 | .iface _ _=>some lost
 | .ptr _=>some lost
 | _=>none
def litVs:List (DataW Unit)→Option (List Value)
 | []=>some []
 | d::l=>match litV d,litVs l with
  | some v,some r=>some (v::r)
  | _,_=>none
def laidCells(P:Program)(t:Option TypeId)(d:DataW Unit):Option (List Value):=
 match d with
 | .agg ds=>match t with
  | some t=>match P.underlying t with
   | some (.array _ e)=>bif Nat.beq (P.cellsOf e) 1 then litVs ds else none
   | _=>none
  | none=>none
 | d=>match litV d with|some v=>some [v]|none=>none
section
variable {P:Program} {w:World} {base:Nat} {spare:Nat→Bool} {β:Bt}
theorem lit_trod{fuel:Nat}{t:TypeId}{cs:List Value}{d:DataW Unit}{p:List MemPlace}(h:DataW.trod (fun _=>()) P w base spare false fuel t cs=some (d,p)){v:Value}(hv:litV d=some v):∃u,cs=[u]∧VR β v u:=by
 cases fuel with
 | zero=>simp[DataW.trod]at h
 | succ m=>
  unfold DataW.trod at h
  split at h
  all_goals try (simp at h;done)
  .simp only[zB,zA]at h;obtain⟨rfl,_⟩:=h
   cases hv;exact⟨_,rfl,.bool _⟩
  .split at h
   .rename_i hk;obtain⟨rfl,_⟩:=hk
    simp only[zB,zA]at h;obtain⟨rfl,_⟩:=h
    cases hv;exact⟨_,rfl,.int _ _⟩
   .cases h
  .split at h
   .simp only[zB,zA]at h;obtain⟨rfl,_⟩:=h
    cases hv
   .cases h
  .split at h
   .simp only[zB,zA]at h;obtain⟨rfl,_⟩:=h
    cases hv;exact⟨_,rfl,.string _⟩
   .cases h
  .simp only[zB,zA]at h;obtain⟨rfl,_⟩:=h
   cases hv
  .obtain⟨x,_,hx⟩:=Option.map_eq_some_iff.1 h
   simp only[zA]at hx;obtain⟨rfl,_⟩:=hx
   cases hv;exact⟨_,rfl,.lost _ rfl⟩
  .simp only[zB,zA]at h;obtain⟨rfl,_⟩:=h
   cases hv
  .dsimp only at h
   split at h
   .obtain⟨x,_,hx⟩:=Option.bind_eq_some_iff.1 h
    obtain⟨y,_,hy⟩:=Option.map_eq_some_iff.1 hx
    simp only[zA]at hy;obtain⟨rfl,_⟩:=hy
    cases hv
   .cases h
  .split at h
   .obtain⟨x,_,hx⟩:=Option.map_eq_some_iff.1 h
    simp only[zA]at hx;obtain⟨rfl,_⟩:=hx
    cases hv
   .cases h
  .split at h
   .obtain⟨x,_,hx⟩:=Option.map_eq_some_iff.1 h
    simp only[zA]at hx;obtain⟨rfl,_⟩:=hx
    cases hv
   .cases h
  .simp only[zB,zA]at h;obtain⟨rfl,_⟩:=h
   cases hv
  .split at h
   .rename_i hh;cases hh
   .obtain⟨x,_,hx⟩:=Option.map_eq_some_iff.1 h
    simp only[zA]at hx;obtain⟨rfl,_⟩:=hx
    cases hv;exact⟨_,rfl,.lost _ rfl⟩
   .cases h
  .simp only[zB,zA]at h;obtain⟨rfl,_⟩:=h
   cases hv
  .split at h
   .split at h
    .obtain⟨x,_,hx⟩:=Option.bind_eq_some_iff.1 h
     dsimp only at hx
     split at hx
     .simp only[zB,zA]at hx;obtain⟨rfl,_⟩:=hx
      cases hv
     .cases hx
    .cases h
   .cases h
  all_goals (simp only[zB,zA]at h;obtain⟨rfl,_⟩:=h;cases hv)
theorem litVs_at:∀ {ds:List (DataW Unit)} {c:List Value},litVs ds=some c→c.length=ds.length∧∀(k:Nat) (d:DataW Unit),ds[k]?=some d→∃v,c[k]?=some v∧litV d=some v:=by
 intro ds
 induction ds with
 | nil=>intro c h;cases h;exact⟨rfl,fun k d h=>by simp at h⟩
 | cons d l ih=>
  intro c h
  simp only[litVs]at h
  split at h
  .rename_i v r hv hr
   cases h
   obtain⟨h1,h2⟩:=ih hr
   refine⟨by simp[h1],fun k e hk=>?_⟩
   cases k with
   | zero=>simp only[List.getElem?_cons_zero,zB]at hk;subst hk;exact⟨v,rfl,hv⟩
   | succ k=>exact h2 k e (by simpa using hk)
  .cases h
theorem one_cut{cs:List Value}{i:Nat}{u:Value}(h:(cs.drop i).take 1=[u]):cs[i]?=some u:=by
 have:((cs.drop i).take 1)[0]?=some u:=by rw[h];rfl
 simpa [List.getElem?_take,List.getElem?_drop]using this
theorem cells_trod{fuel:Nat}{t:TypeId}{cs:List Value}{d:DataW Unit}{p:List MemPlace}(h:DataW.trod (fun _=>()) P w base spare false fuel t cs=some (d,p)){c:List Value}(hc:laidCells P (some t) d=some c) :
  c.length≤cs.length∧∀(k:Nat) (x y:Value),c[k]?=some x→cs[k]?=some y→VR β x y:=by
 have one:∀v,litV d=some v→c=[v]→c.length≤cs.length∧∀(k:Nat) (x y:Value),c[k]?=some x→cs[k]?=some y→VR β x y:=by
  rintro v hv rfl
  obtain⟨u,rfl,hu⟩:=lit_trod (β:=β) h hv
  refine⟨zC _,fun k x y hx hy=>?_⟩
  cases k with
  | zero=>simp only[List.getElem?_cons_zero,zB]at hx hy;subst hx hy;exact hu
  | succ k=>simp at hx
 unfold laidCells at hc
 split at hc
 .rename_i ds
  split at hc
  .rename_i t' ht
   cases ht
   split at hc
   .rename_i n e hu
    cases he:Nat.beq (P.cellsOf e) 1 with
    | false=>rw[he]at hc;cases hc
    | true=>
     rw[he,cond_true]at hc
     have he1:=Nat.eq_of_beq_eq_true he
     obtain⟨xs,m,_,hx,_,hn,hi⟩:=DataW.trod_array hu h
     simp only[zA,DataW.agg.injEq]at hx
     obtain⟨rfl,_⟩:=hx
     obtain⟨hl,hat⟩:=litVs_at hc
     have key:∀k,k<n→∃v u,c[k]?=some v∧cs[k]?=some u∧VR β v u:=fun k hk=>by
      have h1:=hi k hk
      have hxk:xs[k]?=some (xs[k]'(by omega)):=List.getElem?_eq_getElem (by omega)
      obtain⟨v,hv,hv2⟩:=hat k (xs[k]'(by omega)).1 (by simp[hxk])
      rw[hxk,he1,Nat.mul_one]at h1
      obtain⟨u,hu1,hu2⟩:=lit_trod (β:=β) h1 hv2
      exact⟨v,u,hv,one_cut hu1,hu2⟩
     have hcn:c.length=n:=by rw[hl,List.length_map];exact hn
     refine⟨?_,fun k x y hx hy=>?_⟩
     .rcases zE n with h0|h0
      .omega
      .obtain⟨v,u,_,hu2,_⟩:=key (n-1) (by omega)
       have:=(List.getElem?_eq_some_iff.1 hu2).1
       omega
     .have hk:k<n:=by have:=(List.getElem?_eq_some_iff.1 hx).1;omega
      obtain⟨v,u,h1,h2,h3⟩:=key k hk
      rw[h1]at hx;rw[h2]at hy;cases hx;cases hy;exact h3
   .cases hc
  .cases hc
 .split at hc
  .rename_i v hv
   cases hc
   exact one v hv rfl
  .cases hc
end
def zbF(P:Program):List (String×DataW Unit)→List (Nat×List Value)
 | []=>[]
 | (n,d)::l=>match P.globalNamed n with
  | some g=>match laidCells P ((P.globals[g]?).map (·.type)) d with
   | some c=>(g,c)::zbF P l
   | none=>zbF P l
  | none=>zbF P l
def gsTr:List (Nat×List Value)→Tr Blk
 | []=>.nil
 | (g,c)::l=>(gsTr l).set 24 g (.cells c 0 false true)
theorem laidGs_ok{P:Program}{w:World}{β:Bt}:∀ {laid:List (String×DataW Unit)} {ps:List MemPlace},DataW.LaidVars P w laid ps→∀ {g:Nat} {c:List Value},(g,c)∈zbF P laid→
  g<P.globals.size∧∃cc t fr,w.heap[g]?=some (.cells cc t fr)∧c.length≤cc.size∧∀(k:Nat) (x y:Value),c[k]?=some x→cc[k]?=some y→VR β x y:=by
 intro laid
 induction laid with
 | nil=>intro ps _ g c h;cases h
 | cons nd l ih=>
  obtain⟨n,d⟩:=nd
  intro ps h g c hm
  obtain⟨g',t,cs,fuel,p,q,hg,ht,hv,htr,hr,_⟩:=h
  simp only[zbF,hg,ht]at hm
  split at hm
  .rename_i c' hc
   rcases List.mem_cons.1 hm with he|hm
   .cases he
    obtain⟨h1,h2⟩:=cells_trod (β:=β) htr hc
    have hlt:g<P.globals.size:=by
     cases hq:P.globals[g]? with
     | none=>rw[hq]at ht;cases ht
     | some _=>exact(Array.getElem?_eq_some_iff.1 hq).1
    refine⟨hlt,?_⟩
    unfold World.var? at hv
    rw[hg]at hv
    simp only[Option.bind_some]at hv
    split at hv
    .rename_i cc t fr hh
     cases hv
     exact⟨cs,t,fr,hh,by simpa using h1,fun k x y a b=>h2 k x y a (by simpa using b)⟩
    .cases hv
   .exact ih hr hm
  .exact ih hr hm
theorem gsTr_get:∀ {l:List (Nat×List Value)},(∀g c,(g,c)∈l→g<9223372036854775808)→∀ {b:Nat} {x:Blk},(gsTr l).get b=some x→∃c,(b,c)∈l∧x=.cells c 0 false true:=by
 intro l
 induction l with
 | nil=>intro _ b x h;cases h
 | cons gc l ih=>
  obtain⟨g,c⟩:=gc
  intro hl b x h
  have hg:=hl g c (by simp)
  simp only[gsTr]at h
  rw[Tr.get_set _ _ _ _ _ (by omega)]at h
  split at h
  .rename_i e;subst e;cases h;exact⟨c,by simp,rfl⟩
  .obtain⟨c',h1,h2⟩:=ih (fun g c hm=>hl g c (by simp[hm])) h
   exact⟨c',by simp[h1],h2⟩
theorem laid_hr{P:Program}{w:World}{laid:List (String×DataW Unit)}{ps:List MemPlace}(hn:P.globals.size≤9223372036854775808)(h:DataW.LaidVars P w laid ps):HR P (globB P.globals.size) ⟨P.globals.size,gsTr (zbF P laid)⟩ w:=by
 have hsm:∀g c,(g,c)∈zbF P laid→g<9223372036854775808:=fun g c hm=>by
  have:=(laidGs_ok (β:=globB P.globals.size) h hm).1
  omega
 refine⟨hn,fun b i h=>?_,fun b x hx=>?_,fun b x i hx hi=>?_,fun b b' i i' x y hx _ _ _ _ hm=>?_⟩
 .unfold globB at h
  split at h
  .assumption
  .cases h
 .obtain⟨c,hm,rfl⟩:=gsTr_get hsm hx
  exact⟨⟨b,0,0⟩,if_pos (laidGs_ok (β:=globB P.globals.size) h hm).1⟩
 .obtain⟨c,hm,rfl⟩:=gsTr_get hsm hx
  obtain⟨hlt,cc,t,fr,h1,h2,h3⟩:=laidGs_ok (β:=globB P.globals.size) h hm
  obtain rfl:i=⟨b,0,0⟩:=by
   have:globB P.globals.size b=some ⟨b,0,0⟩:=if_pos hlt
   rw[this]at hi;cases hi;rfl
  exact .inr ⟨cc,t,fr,h1,by simpa using h2,fun k x y a b=>h3 k x y a (by simpa using b),fun e=>(by cases e),fun e=>by cases e⟩
 .obtain⟨c,_,rfl⟩:=gsTr_get hsm hx
  cases hm
theorem laidVars_some{P:Program}{w:World}(q:String×DataW Unit→Bool):∀ {laid:List (String×DataW Unit)} {ps:List MemPlace},DataW.LaidVars P w laid ps→∃ps',DataW.LaidVars P w (laid.filter q) ps':=by
 intro laid
 induction laid with
 | nil=>intro ps h;exact⟨ps,h⟩
 | cons nd l ih=>
  obtain⟨n,d⟩:=nd
  intro ps h
  obtain⟨g,t,cs,fuel,p,r,h1,h2,h3,h4,h5,h6⟩:=h
  obtain⟨ps',h7⟩:=ih h5
  cases hq:q (n,d)with
  | true=>
   rw[List.filter_cons_of_pos hq]
   exact⟨_,g,t,cs,fuel,p,ps',h1,h2,h3,h4,h7,rfl⟩
  | false=>
   rw[List.filter_cons_of_neg (by simp[hq])]
   exact⟨ps',h7⟩
end Go.Proofs.YtponjccgpbgnoaaGreatDoor
namespace Go.Proofs.YtponjccgpbgnoaaGreatDoor.Se
open Go Go.Proofs.YtponjccgpbgnoaaGreatDoor Go.RowKit
set_option maxRecDepth 20000
def allF(h:Hp):Fz:=fun b=>match h.get b with
 | some (.cells cs _ _ _)=>bif ones_ cs then some (cs,0)else none
 | _=>none
theorem allF_of{h:Hp}{b:Nat}{cs:List Value}{e:TypeId}{x ro:Bool}(hg:h.get b=some (.cells cs e x ro))(h1:ones_ cs=true):allF h b=some (cs,0):=by
 unfold allF;simp only[hg,h1,cond_true]
theorem allF_inv{h:Hp}{b:Nat}{cs:List Value}{t:Nat}(e:allF h b=some (cs,t)):t=0∧ones_ cs=true∧∃e x ro,h.get b=some (.cells cs e x ro):=by
 unfold allF at e
 split at e
 .rename_i cs2 e2 x2 ro2 hg
  cases hb:ones_ cs2 with
  | false=>rw[hb]at e;cases e
  | true=>
   rw[hb]at e
   simp only[cond_true,zB,zA]at e
   obtain⟨rfl,rfl⟩:=e
   exact⟨rfl,hb,_,_,_,hg⟩
 .cases e
theorem all_hr{P:Program}{β:Bt}{h:Hp}{w:World}(H:HR P β h w){c:Nat}(hc:h.next+c≤9223372036854775808):HRs (allF h) Im0 ⟨0,0,c,[],.nil⟩ h where
 most:=hc
 smost:=by simp only;omega
 sdom:=fun id _=>⟨rfl,rfl⟩
 ok:=fun id sb e=>by cases e
 apart:=fun id id' B B' _ l=>by obtain⟨sb,e,_⟩:=l;cases e
 frz:=fun b cs t e=>by
  obtain⟨rfl,h1,e2,x2,ro2,h2⟩:=allF_inv e
  obtain⟨i,hi⟩:=H.has b _ h2
  exact⟨zC _,H.dom b i hi,h1,_,_,_,h2⟩
 fap:=fun b x id B _ l=>by obtain⟨sb,e,_⟩:=l;cases e
theorem ro_st{β β2:Bt}{h h2:Hp}{w w':World}(hro:∀b x,h.get b=some x→¬x.mine)(s:St β h w β2 h2 w'):Below w.heap.size w w':=
 ⟨s.os,s.tape,s.output,s.size,fun k hk=>s.keep k hk (by
  rintro⟨b,i,x,hx,hm,_⟩
  exact hro b x hx hm)⟩
theorem gs_ro{gs:List (Nat×List Value)}(hl:∀g c,(g,c)∈gs→g<9223372036854775808):∀b x,(gsTr gs).get b=some x→¬x.mine:=fun b x hx hm=>by
 obtain⟨c,_,rfl⟩:=gsTr_get hl hx
 exact hm
theorem se_trueQ{sp:Sp}(hsp:zbx Tryz.prog (zb8 sp) Tryz.prog.globals.size){T:Told}{Q:Fz→Hp→Prop}(hS:Steps Q)(hT:ToldQ Q env sp T){β:Bt}{h:Hp}{w:World}(H:HR Tryz.prog β h w)(hro:∀b x,h.get b=some x→¬x.mine)
  (hc:h.next+9000000000000000000≤9223372036854775808) (hF0:Q (allF h) h) (hgb:∀g,g<Tryz.prog.globals.size→β g=some ⟨g,0,0⟩) {args:List SV} {args1 args':List Value} (hl1:LRs (allF h) Im0 args args1) (hl2:LR β args1 args')
  {n:Nat} {f:FuncId} {c:Bool} {sh':SH} (hs:(sanswer env T n f args sh0).sel=some (.bool c true,sh')) :
  Calls Tryz.prog f args'.toArray w fun e w'=>e=.returned (.bool true)∧Below w.heap.size w w':=by
 obtain⟨N,v',h',F',ι',q1,q2,q3,q4⟩:=sanswer_relQ hS hT hs hF0 (all_hr H hc) hl1
 have hr:=q1 N (zC _)
 rw[q2.bool_inv]at hr
 unfold env at hr
 refine(zck (P:=Tryz.prog) (eqs:=eqList) (sp:=sp) (f:=f) (n:=N) (h2:=h') zdm prog_eqs zcG prog_mix zdo zdn (by with_reducible exact hsp) hr hl2 H hgb).mono ?_
 rintro en w2 ⟨v2,β2,rfl,_,S,hR⟩
 exact⟨by rw[hR.bool_inv],ro_st hro S⟩
def argB(n:Nat)(i:Info):Bt:=fun b=>if b=n then some i else globB n b
theorem arg_hr{P:Program}{w:World}{laid:List (String×DataW Unit)}{ps:List MemPlace}(hn:P.globals.size<9223372036854775808)(h:DataW.LaidVars P w laid ps){cs:List Value}{i:Info}{cc:Array Value}{e':TypeId}{fr:Nat×Nat}
  (hw:w.heap[i.blk]?=some (.cells cc e' fr)) (hc:i.off+cs.length≤cc.size) (hv:∀(k:Nat) (x y:Value),cs[k]?=some x→cc[i.off+k]?=some y→VR (fun _=>none) x y) :
  HR P (argB P.globals.size i) ⟨P.globals.size+1,(gsTr (zbF P laid)).set 24 P.globals.size (.cells cs 0 false true)⟩ w:=by
 have H:=laid_hr (by omega) h
 have hle:(globB P.globals.size).le (argB P.globals.size i):=fun b j e=>by
  unfold argB
  have:=H.dom b j e
  simp only at this
  rw[if_neg (by omega)];exact e
 have got:∀b x,Hp.get ⟨P.globals.size+1,(gsTr (zbF P laid)).set 24 P.globals.size (.cells cs 0 false true)⟩ b=some x→(b=P.globals.size∧x=.cells cs 0 false true)∨(b≠P.globals.size∧Hp.get ⟨P.globals.size,gsTr (zbF P laid)⟩ b=some x):=fun b x e=>by
  unfold Hp.get at e ⊢
  simp only at e ⊢
  rw[Tr.get_set _ _ _ _ _ (by omega)]at e
  split at e
  .rename_i q;cases e;exact .inl ⟨q.symm▸rfl,rfl⟩
  .rename_i q;exact .inr ⟨fun q'=>q (by omega),e⟩
 have hsm:∀g c,(g,c)∈zbF P laid→g<9223372036854775808:=fun g c hm=>by
  have:=(laidGs_ok (β:=globB P.globals.size) h hm).1
  omega
 refine⟨by simp only;omega,fun b j e=>?_,fun b x hx=>?_,fun b x j hx hj=>?_,fun b b' j j' x y hx hy hne hj hj' hm he=>?_⟩
 .unfold argB at e
  split at e
  .rename_i q;simp only;omega
  .have:=H.dom b j e;simp only at this ⊢;omega
 .rcases got b x hx with⟨rfl,rfl⟩|⟨h1,h2⟩
  .exact⟨i,if_pos rfl⟩
  .obtain⟨j,hj⟩:=H.has b x h2
   exact⟨j,hle _ _ hj⟩
 .rcases got b x hx with⟨rfl,rfl⟩|⟨h1,h2⟩
  .obtain rfl:i=j:=by
    unfold argB at hj
    rw[if_pos rfl]at hj;cases hj;rfl
   exact .inr ⟨cc,e',fr,hw,hc,fun k x y a b=>(hv k x y a b).mono (fun _ _ e=>by cases e),fun e=>(by cases e),fun e=>by cases e⟩
  .unfold argB at hj
   rw[if_neg h1]at hj
   exact blkOk_mono hle (H.ok b x j h2 hj)
 .rcases got b x hx with⟨rfl,rfl⟩|⟨h1,h2⟩
  .cases hm
  .exact absurd hm (gs_ro hsm b x h2)
theorem arg_ro{n:Nat}(hn:n<9223372036854775808){gs:List (Nat×List Value)}(hl:∀g c,(g,c)∈gs→g<9223372036854775808){cs:List Value}:∀b x,Hp.get ⟨n+1,(gsTr gs).set 24 n (.cells cs 0 false true)⟩ b=some x→¬x.mine:=fun b x e hm=>by
 unfold Hp.get at e
 simp only at e
 rw[Tr.get_set _ _ _ _ _ (by omega)]at e
 split at e
 .cases e;exact hm
 .exact gs_ro hl b x e hm
theorem arg_le{n:Nat}(hn:n<9223372036854775808){gs:List (Nat×List Value)}(hl:∀g c,(g,c)∈gs→g<n){cs:List Value}:(allF ⟨n,gsTr gs⟩).le (allF ⟨n+1,(gsTr gs).set 24 n (.cells cs 0 false true)⟩):=fun b x e=>by
 obtain⟨c,t⟩:=x
 obtain⟨rfl,h1,e2,x2,ro2,h2⟩:=allF_inv e
 refine allF_of (e:=e2) (x:=x2) (ro:=ro2) ?_ h1
 obtain⟨c',hm,_⟩:=gsTr_get (fun g c hm=>by have:=hl g c hm;omega) h2
 have:=hl _ _ hm
 unfold Hp.get at h2 ⊢
 simp only at h2 ⊢
 rw[Tr.get_set _ _ _ _ _ (by omega),if_neg (by omega)]
 exact h2
end Go.Proofs.YtponjccgpbgnoaaGreatDoor.Se
namespace Go.Proofs.YtponjccgpbgnoaaGreatDoor.Se
open Go Go.RowKit Go.ChangeShapes Go.WideShapes Go.ChangeAt Go.Proofs.YtponjccgpbgnoaaGreatDoor
set_option maxRecDepth 100000
def Bys(w:World)(v:Value):Prop:=v=.slice none 0 0∨(∃a cap,v=.slice (some a) 0 cap)∨
 ∃(b o n cap:Nat) (bs:List UInt8) (cc:Array Value) (t:TypeId) (fr:Nat×Nat),v=.slice (some ⟨b,o,none⟩) n cap∧0<n∧n≤cap∧w.heap[b]?=some (.cells cc t fr)∧o+n≤cc.size∧bs.length=n∧
  ∀i,i<n→cc[o+i]?=some (.int .u8 (zD (bs.getD i 0).toNat))
theorem zero_all{h:Hp}:∀b cs t,allF h b=some (cs,t)→t=0:=fun b cs t e=>(allF_inv e).1
theorem top_ro{h:Hp}(hro:∀b x,h.get b=some x→¬x.mine):Top (allF h) (allF h) h:=⟨Se.Fz.le.refl _,fun b cs e=>e,fun b cs e=>by
 obtain⟨_,h1,e2,x2,ro2,h2⟩:=allF_inv e
 cases ro2 with
 | true=>exact⟨_,_,h2⟩
 | false=>exact absurd trivial (hro _ _ h2)⟩
theorem arg_fz{P:Program}(h:P.globals.size<9223372036854775808){cs:List Value}(hone:ones_ cs=true)(t:Tr Blk):allF ⟨P.globals.size+1,t.set 24 P.globals.size (.cells cs 0 false true)⟩ P.globals.size=some (cs,0):=allF_of (e:=0) (x:=false) (ro:=true) (by
   unfold Hp.get
   simp only
   rw[Tr.get_set _ _ _ _ _ (by omega),if_pos rfl]) hone
theorem arg_at(n:Nat)(i:Info):argB n i n=some i:=if_pos rfl
theorem arg_lt(n:Nat)(i:Info)(g:Nat)(hg:g<n):argB n i g=some ⟨g,0,0⟩:=by
 unfold argB;rw[if_neg (by omega)];exact if_pos hg
theorem arg_sl(n0:Nat)(b o n cap:Nat)(hcap:n≤cap):VR (argB n0 ⟨b,o,cap-n⟩) (.slice (some ⟨n0,0,none⟩) n n) (.slice (some ⟨b,o,none⟩) n cap):=by
 have:=VR.slice (β:=argB n0 ⟨b,o,cap-n⟩) (b:=n0) (i:=⟨b,o,cap-n⟩) 0 n n (arg_at _ _)
 simp only[Nat.add_zero]at this
 rw[show n+(cap-n)=cap by omega]at this
 exact this
structure AtTop(w:World)(gs:List (Nat×List Value))(v:Value)(β:Bt)(h:Hp)(b:List UInt8)(u:Value):Prop where
 hr:HR Tryz.prog β h w
 ro:∀b x,h.get b=some x→¬x.mine
 room:h.next+9000000000000000000≤9223372036854775808
 le:∀g x,allF ⟨Tryz.prog.globals.size,gsTr gs⟩ g=some x→allF h g=some x
 base:∀g,g<Tryz.prog.globals.size→β g=some ⟨g,0,0⟩
 sl:VRs (allF h) Im0 (.fsl 0 1 b.length none (byE b)) u
 vr:VR β u v
theorem at_top{w:World}{laidE:List (String×DataW Unit)}{ps:List MemPlace}(hroom:Tryz.prog.globals.size+1+9000000000000000000≤9223372036854775808)(hE:DataW.LaidVars Tryz.prog w laidE ps)(gs_lt:∀g c,(g,c)∈zbF Tryz.prog laidE→g<Tryz.prog.globals.size){v:Value}(hv:Bys w v) :
  ∃β h b u,AtTop w (zbF Tryz.prog laidE) v β h b u:=by
 have lt63:Tryz.prog.globals.size<9223372036854775808:=by omega
 have gs_lt63:∀g c,(g,c)∈zbF Tryz.prog laidE→g<9223372036854775808:=fun g c hm=>Nat.lt_trans (gs_lt g c hm) lt63
 have none_:∀(u:Value),VRs (allF ⟨Tryz.prog.globals.size,gsTr (zbF Tryz.prog laidE)⟩) Im0 (.fsl 0 1 ([]:List UInt8).length none (byE [])) u→(∀β,VR β u v)→∃β h b u,AtTop w (zbF Tryz.prog laidE) v β h b u:=fun u h1 h2=>
  ⟨_,_,_,_,laid_hr (w:=w) (Nat.le_of_lt lt63) hE,gs_ro gs_lt63,by show Tryz.prog.globals.size+9000000000000000000≤_;omega,fun g x e=>e,fun g hg=>if_pos hg,h1,h2 _⟩
 rcases hv with rfl|⟨a,cap,rfl⟩|⟨b,o,m,cap,bs,cc,t,fr,rfl,h0,hcap,hw,hsz,hlen,hat⟩
 .exact none_ (.slice none 0 0) (.fslN _ _ _ _ _ (.inl rfl)) fun β=>.nilSlice 0 0
 .exact none_ (.chan none) (.fslE _ _ _ _ _ (.inl rfl)) fun β=>.noneLeft a cap
 .obtain⟨cs,hcs⟩:∃cs:List Value,cs=(List.range m).map fun i=>.int .u8 (zD (bs.getD i 0).toNat):=⟨_,rfl⟩
  have hcl:cs.length=m:=by rw[hcs];simp
  have hcg:∀k,k<m→cs[k]?=some (.int .u8 (zD (bs.getD k 0).toNat)):=fun k hk=>by rw[hcs];simp[hk]
  have H:=arg_hr (i:=⟨b,o,cap-m⟩) (cs:=cs) lt63 hE hw (by rw[hcl];exact hsz) (fun k x y hx hy=>by
   have hk:k<m:=by have:=(List.getElem?_eq_some_iff.1 hx).1;omega
   rw[hcg k hk]at hx
   simp only at hy
   rw[hat k hk]at hy
   cases hx;cases hy
   exact .int _ _)
  have hone:ones_ cs=true:=ones_mem.2 fun x hx=>by
   rw[hcs]at hx
   obtain⟨i,_,rfl⟩:=List.mem_map.1 hx
   rfl
  refine⟨_,_,bs,_,H,arg_ro lt63 gs_lt63,hroom,fun g x e=>arg_le lt63 gs_lt (cs:=cs) _ _ e,arg_lt _ _,?_,arg_sl _ b o m cap hcap⟩
  rw[hlen]
  refine .fsl _ 0 1 m none _ Tryz.prog.globals.size 0 cs 0 m (arg_fz lt63 hone _) (zC _) (.inl rfl) (zC _) (by omega) (fun i _=>rfl) (fun i j x y hi hx hy=>?_)
  cases j with
  | zero=>
   rw[show 0+i*1+0=i by omega,hcg i hi]at hy
   cases hy
   have e:x=.int .u8 false (zD (bs.getD i 0).toNat):=(Option.some.inj hx).symm
   rw[e]
   exact .int _ _ _ _
  | succ j=>simp[byE]at hx
theorem byte_cells:Tryz.prog.cellsOf 5=1:=by kernel_rfl
set_option maxRecDepth 100000 in
theorem bys_of{H:Type}{enc:TypeId×Value→H}{w:World}{sp:Nat→Bool}{held:Bool}{v:Value}{d:DataW H}{ps:List MemPlace}{r:Reach}{b0:Nat}(hval:Value.okWide Tryz.prog w r b0 22 v)(h:DataW.Trod enc Tryz.prog w 0 sp held 22 v d ps):Bys w v:=by
 obtain⟨a',n',c',rfl⟩:=okWide_slice Tryz.underlying22 hval
 obtain⟨fuel,hf⟩:=h
 rcases open_ints Tryz.underlying22 Tryz.underlying5 byte_cells hf with⟨hc,_⟩|⟨a,len,cap,zs,hc,_,hle,_,hlen,_,hat,hwf⟩
 .obtain⟨rfl,rfl,rfl⟩:a'=none∧n'=0∧c'=0:=by simpa [Value.cells]using hc
  exact .inl rfl
 .obtain⟨rfl,rfl,rfl⟩:a'=some a∧n'=len∧c'=cap:=by simpa [Value.cells]using hc
  rcases zE n' with h0|h0
  .subst h0;exact .inr (.inl ⟨a,c',rfl⟩)
  .have hll:n'≤zs.length:=by rw[hlen];split<;>omega
   have cell:∀i,i<n'→∃cc t fr,w.heap[a.block]?=some (.cells cc t fr)∧a.spot=none∧cc[a.off+i]?=some (.int .u8 (zs.getD i 0)):=fun i hi=>by
    have h1:=hat i (by omega)
    have h2:=hat 0 (by omega)
    have ea:a.add 0=a:=rfl
    rw[ea]at h2
    unfold World.cell? at h1 h2
    have eb:(a.add i).block=a.block:=by unfold Addr.add;split<;>rfl
    rw[eb]at h1
    split at h2
    .rename_i cc t fr hh
     rw[hh]at h1
     simp only at h1
     cases hsp:a.spot with
     | some x=>rw[hsp]at h2;simp at h2
     | none=>
      refine⟨cc,t,fr,hh,rfl,?_⟩
      have e1:(a.add i).spot=none:=by unfold Addr.add;split;exact hsp;rfl
      have e2:(a.add i).off=a.off+i:=by unfold Addr.add;split;omega;rfl
      rw[e1,e2]at h1
      simpa using h1
    .cases h2
   obtain⟨cc,t,fr,hh,hsp,_⟩:=cell 0 h0
   obtain⟨b,o,sp'⟩:=a
   obtain rfl:sp'=none:=hsp
   have all:∀i,i<n'→cc[o+i]?=some (.int .u8 (zs.getD i 0)):=fun i hi=>by
    obtain⟨cc2,t2,fr2,hh2,_,hc2⟩:=cell i hi
    rw[hh]at hh2
    cases hh2
    exact hc2
   refine .inr (.inr ⟨b,o,n',c',(zs.take n').map fun z=>UInt8.ofNat z.toNat,cc,t,fr,rfl,h0,hle,hh,?_,by simp;omega,fun i hi=>?_⟩)
   .have:=(Array.getElem?_eq_some_iff.1 (all (n'-1) (by omega))).1
    omega
   .rw[all i hi]
    have hi2:i<zs.length:=by omega
    have e1:zs.getD i 0=zs[i]:=by simp[List.getD,List.getElem?_eq_getElem hi2]
    have hz:=hwf _ (List.getElem_mem hi2)
    have hz:0≤zs[i]∧zs[i]≤255:=by
     simpa only[Lit.wf,Bool.and_eq_true,decide_eq_true_eq,show IntKind.u8.min=0 from rfl,show IntKind.u8.max=255 from rfl]using hz
    have e2:((zs.take n').map fun z=>UInt8.ofNat z.toNat).getD i 0=UInt8.ofNat zs[i].toNat:=by
     simp[List.getD,List.getElem?_take,hi,List.getElem?_eq_getElem hi2]
    rw[e1,e2]
    congr 2
    rw[UInt8.toNat_ofNat']
    simp only[Int.ofNat_eq_natCast]
    omega
end Go.Proofs.YtponjccgpbgnoaaGreatDoor.Se
