/- The symbolic evaluator's values beside the evaluator's. -/
import Derived.Test.YtponjccgpbgnoaaGreatDoorSe
set_option linter.unusedVariables false
set_option linter.unusedSimpArgs false
set_option linter.unusedSectionVars false
open Option.some renaming injEq→zA
open Nat renaming eq_of_beq_eq_true→zB,le_refl→zC,beq→zD,blt_eq→zE,add_mul→zF,le_trans→zG,add_assoc→zH,mul_le_mul_right→zI,le_of_ble_eq_true→zM
open List renaming length_set→zJ,mem_append_right→zK,mem_append_left→zN
open Bool renaming and_eq_true→zL
namespace Go.Proofs.YtponjccgpbgnoaaGreatDoor.Se
open Go Go.Proofs.YtponjccgpbgnoaaGreatDoor
set_option maxRecDepth 20000
theorem sel_bind{α β:Type}(t:RT α)(k:α→RT β):(t.bind k).sel=t.sel.bind fun x=>(k x).sel:=by
 induction t with
 | bad=>rfl
 | ret x=>rfl
 | br b t f iht ihf=>cases b<;>simpa [RT.bind,RT.sel]using by assumption
theorem zah{α β:Type}{t:RT α}{k:α→RT β}{y:β}(h:(t.bind k).sel=some y):∃x,t.sel=some x∧(k x).sel=some y:=by
 rw[sel_bind]at h
 cases ht:t.sel with
 | none=>rw[ht]at h;cases h
 | some x=>rw[ht]at h;exact⟨x,rfl,h⟩
theorem zdl{α:Type}{c b:Bool}{t f:RT α}:(test_ c b t f).sel=bif b then t.sel else f.sel:=by
 cases c<;>cases b<;>rfl
theorem zbf{α:Type}{c b:Bool}{r:RT α}{x:α}(h:(chk c b r).sel=some x):b=true∧r.sel=some x:=by
 rw[chk,zdl]at h
 cases b with
 | true=>exact⟨rfl,h⟩
 | false=>cases h
theorem sel_lift{α:Type}{o:Option α}{x:α}(h:(lift o).sel=some x):o=some x:=by
 cases o with
 | none=>cases h
 | some y=>exact h
theorem zaZ{α:Type}{v:SV}{f:Bool→Nat→RT α}{x:α}(h:(asNat v f).sel=some x):∃k c c' n,v=.int k c (.ofNat n)∧(f c' n).sel=some x:=by
 cases v with
 | int k c n=>
  cases c with
  | true=>
   cases n with
   | ofNat n=>exact⟨k,true,true,n,rfl,h⟩
   | negSucc n=>cases h
  | false=>
   cases n with
   | ofNat n=>exact⟨k,false,false,n,rfl,h⟩
   | negSucc n=>cases h
 | _=>cases h
theorem zbv(k:IntKind)(c:Bool)(x:Int):mkI k c x=.int k c x:=by cases c<;>cases x<;>rfl
theorem mkB_eq(c b:Bool):mkB c b=.bool c b:=by cases c<;>cases b<;>rfl
structure Bl where
 b:Nat
 o:Nat
 m:Nat
 k:Nat
 T:Nat
 x:Bool
abbrev Im:=Nat→Option Bl
def Im0:Im:=fun _=>none
abbrev Fz:=Nat→Option (List Value×Nat)
def Im.le(ι ι':Im):Prop:=∀id B,ι id=some B→ι' id=some B
def Fz.le(F F':Fz):Prop:=∀b x,F b=some x→F' b=some x
theorem Im.le.refl(ι:Im):ι.le ι:=fun _ _ h=>h
theorem Im.le.trans{a b c:Im}(h:a.le b)(k:b.le c):a.le c:=fun x i e=>k x i (h x i e)
theorem Fz.le.refl(F:Fz):F.le F:=fun _ _ h=>h
theorem Fz.le.trans{a b c:Fz}(h:a.le b)(k:b.le c):a.le c:=fun x i e=>k x i (h x i e)
theorem Im0.le(ι:Im):Im0.le ι:=fun _ _ h=>by cases h
def Bl.at(B:Bl)(a:Nat):Prop:=a=B.b∨(B.x=false∧a=B.b+1)
def Bl.sure(B:Bl)(a:Nat):Prop:=(B.x=true∧a=B.b)∨(B.x=false∧a=B.b+1)
def bareS_:Value→Bool
 | .iface _ (.int _ _)=>true
 | .iface _ (.complex .f32 1 0)=>true
 | v=>bare_ v
inductive VRs(F:Fz):Im→SV→Value→Prop
 | lost (ι v):VRs F ι .lost v
 | int (ι k c x):VRs F ι (.int k c x) (.int k x)
 | bool (ι c b):VRs F ι (.bool c b) (.bool b)
 | str (ι c s):VRs F ι (.str c s) (.string ⟨⟨s⟩⟩)
 | raw (ι v):bareS_ v=true→VRs F ι (.raw v) v
 | agg (ι l l'):l.length=l'.length→(∀(i:Nat) (x:SV) (y:Value),l[i]?=some x→l'[i]?=some y→VRs F ι x y)→VRs F ι (.agg l) (.agg ⟨l'⟩)
 | tup (ι l l'):l.length=l'.length→(∀(i:Nat) (x:SV) (y:Value),l[i]?=some x→l'[i]?=some y→VRs F ι x y)→VRs F ι (.tup l) (.tuple ⟨l'⟩)
 | ptr (ι id k c i o B a):ι id=some B→B.k=k→i<B.m→B.at a→VRs F ι (.ptr id k c i o) (.pointer (some ⟨a,B.o+i*k+o,none⟩))
 | aptr (ι id k c i o N j B a):ι id=some B→B.k=k→i<B.m→j<N→B.at a→VRs F ι (.aptr id k c i o N j) (.pointer (some ⟨a,B.o+i*k+o+j,none⟩))
 | nsl (ι id k c s n z B off cap):ι id=some B→B.k=k→s+n≤B.m→n≤cap→(n=0∨off=B.o+s*k)→off+cap*k≤B.T→(B.x=true∨1≤cap∨2≤z)→
   VRs F ι (.nsl id k c s n z) (.slice (some ⟨B.b,off,none⟩) n cap)
 | nslN (ι id k c s z):1≤z→VRs F ι (.nsl id k c s 0 z) (.slice none 0 0)
 | nslE (ι id k c s z):2≤z→VRs F ι (.nsl id k c s 0 z) (.chan none)
 | asl (ι id k c i o N cj j n B a off cap):ι id=some B→B.k=k→i<B.m→o+N≤k→j+n≤N→n≤cap∧off+cap≤B.T→(n=0∨off=B.o+i*k+o+j)→B.sure a→
   VRs F ι (.asl id k c i o N cj j n) (.slice (some ⟨a,off,none⟩) n cap)
 | fsl (ι st k n nl e b o cs t cap):F b=some (cs,t)→t≤st→(nl=none∨nl=some false)→n≤cap→o+cap*k≤cs.length→(∀i,i<n→(e i).length=k)→
   (∀(i j:Nat) (x:SV) (y:Value),i<n→(e i)[j]?=some x→cs[o+i*k+j]?=some y→VRs F Im0 x y)→
   VRs F ι (.fsl st k n nl e) (.slice (some ⟨b,o,none⟩) n cap)
 | fslN (ι st k nl e):(nl=none∨nl=some true)→VRs F ι (.fsl st k 0 nl e) (.slice none 0 0)
 | fslE (ι st k nl e):(nl=none∨nl=some false)→VRs F ι (.fsl st k 0 nl e) (.chan none)
 | fptr (ι st k n e i o b q cs t):F b=some (cs,t)→t≤st→i<n→q+n*k≤cs.length→(∀i,i<n→(e i).length=k)→
   (∀(i j:Nat) (x:SV) (y:Value),i<n→(e i)[j]?=some x→cs[q+i*k+j]?=some y→VRs F Im0 x y)→
   VRs F ι (.fptr st k n e i o) (.pointer (some ⟨b,q+i*k+o,none⟩))
 | mp (ι id B):ι id=some B→VRs F ι (.mp id) (.map (some B.b))
 | fn (ι f a b a' b'):a.length=a'.length→(∀(i:Nat) (x:SV) (y:Value),a[i]?=some x→a'[i]?=some y→VRs F ι x y)→
   b.length=b'.length→(∀(i:Nat) (x:SV) (y:Value),b[i]?=some x→b'[i]?=some y→VRs F ι x y)→VRs F ι (.fn f a b) (.func (.func f) ⟨a'⟩ ⟨b'⟩)
theorem VRs.mono{F F':Fz}(hF:F.le F'){ι:Im}{s:SV}{v:Value}(h:VRs F ι s v):∀ {ι':Im},ι.le ι'→VRs F' ι' s v:=by
 induction h with
 | lost ι v=>intro ι' _;exact .lost ..
 | int=>intro ι' _;exact .int ..
 | bool=>intro ι' _;exact .bool ..
 | str=>intro ι' _;exact .str ..
 | raw ι v h=>intro ι' _;exact .raw _ _ h
 | agg ι l l' h1 h2 ih=>intro ι' hi;exact .agg _ _ _ h1 fun i x y hx hy=>ih i x y hx hy hi
 | tup ι l l' h1 h2 ih=>intro ι' hi;exact .tup _ _ _ h1 fun i x y hx hy=>ih i x y hx hy hi
 | ptr ι id k c i o B a h1 h2 h3 h4=>intro ι' hi;exact .ptr _ _ _ _ _ _ B _ (hi _ _ h1) h2 h3 h4
 | aptr ι id k c i o N j B a h1 h2 h3 h4 h5=>intro ι' hi;exact .aptr _ _ _ _ _ _ _ _ B _ (hi _ _ h1) h2 h3 h4 h5
 | nsl ι id k c s n z B off cap h1 h2 h3 h4 h5 h6 h7=>intro ι' hi;exact .nsl _ _ _ _ _ _ _ B _ _ (hi _ _ h1) h2 h3 h4 h5 h6 h7
 | nslN ι id k c s z h=>intro ι' _;exact .nslN _ _ _ _ _ _ h
 | nslE ι id k c s z h=>intro ι' _;exact .nslE _ _ _ _ _ _ h
 | asl ι id k c i o N cj j n B a off cap h1 h2 h3 h4 h5 h6 h7 h8=>intro ι' hi;exact .asl _ _ _ _ _ _ _ _ _ _ B _ _ _ (hi _ _ h1) h2 h3 h4 h5 h6 h7 h8
 | fsl ι st k n nl e b o cs t cap h1 h2 h3 h4 h5 h6 h7 ih=>intro ι' hi;exact .fsl _ _ _ _ _ _ b o cs t cap (hF _ _ h1) h2 h3 h4 h5 h6 fun i j x y a b c=>ih i j x y a b c (Im.le.refl _)
 | fslN ι st k nl e h=>intro ι' _;exact .fslN _ _ _ _ _ h
 | fslE ι st k nl e h=>intro ι' _;exact .fslE _ _ _ _ _ h
 | fptr ι st k n e i o b q cs t h1 h2 h3 h4 h5 h6 ih=>intro ι' hi;exact .fptr _ _ _ _ _ _ _ b q cs t (hF _ _ h1) h2 h3 h4 h5 fun i j x y a b c=>ih i j x y a b c (Im.le.refl _)
 | mp ι id B h=>intro ι' hi;exact .mp _ _ B (hi _ _ h)
 | fn ι f a b a' b' h1 h2 h3 h4 iha ihb=>intro ι' hi;exact .fn _ _ _ _ _ _ h1 (fun i x y hx hy=>iha i x y hx hy hi) h3 fun i x y hx hy=>ihb i x y hx hy hi
theorem VRs.up{F:Fz}{ι ι':Im}{s:SV}{v:Value}(h:VRs F ι s v)(k:ι.le ι'):VRs F ι' s v:=h.mono (Fz.le.refl _) k
theorem VRs.free{F:Fz}{ι ι':Im}{s:SV}{v:Value}(h:VRs F ι s v)(k:free_ s=true):VRs F ι' s v:=by
 cases h with
 | int=>exact .int ..
 | bool=>exact .bool ..
 | str=>exact .str ..
 | raw _ _ h=>exact .raw _ _ h
 | fsl _ st k n nl e b o cs t cap h1 h2 h3 h4 h5 h6 h7=>exact .fsl _ _ _ _ _ _ b o cs t cap h1 h2 h3 h4 h5 h6 h7
 | fslN _ st k nl e h=>exact .fslN _ _ _ _ _ h
 | fslE _ st k nl e h=>exact .fslE _ _ _ _ _ h
 | _=>cases k
def LRs(F:Fz)(ι:Im)(l:List SV)(l':List Value):Prop:=l.length=l'.length∧∀(i:Nat) (x:SV) (y:Value),l[i]?=some x→l'[i]?=some y→VRs F ι x y
theorem LRs.mono{F F':Fz}(hF:F.le F'){ι ι':Im}(hi:ι.le ι'){l:List SV}{l':List Value}(h:LRs F ι l l'):LRs F' ι' l l':=⟨h.1,fun i x y a b=>(h.2 i x y a b).mono hF hi⟩
theorem LRs.nil(F:Fz)(ι:Im):LRs F ι [] []:=⟨rfl,fun i x y h=>by simp at h⟩
theorem LRs.cons{F:Fz}{ι:Im}{x:SV}{y:Value}{l:List SV}{l':List Value}(h:VRs F ι x y)(k:LRs F ι l l'):LRs F ι (x::l) (y::l'):=by
 refine⟨by simp[k.1],fun i a b ha hb=>?_⟩
 cases i with
 | zero=>simp at ha hb;subst ha;subst hb;exact h
 | succ i=>simp at ha hb;exact k.2 i a b ha hb
theorem LRs.head{F:Fz}{ι:Im}{x:SV}{y:Value}{l:List SV}{l':List Value}(h:LRs F ι (x::l) (y::l')):VRs F ι x y:=h.2 0 x y rfl rfl
theorem LRs.tail{F:Fz}{ι:Im}{x:SV}{y:Value}{l:List SV}{l':List Value}(h:LRs F ι (x::l) (y::l')):LRs F ι l l':=
 ⟨by have:=h.1;simpa using this,fun i a b ha hb=>h.2 (i+1) a b (by simpa using ha) (by simpa using hb)⟩
theorem LRs.get{F:Fz}{ι:Im}{a:List SV}{b:List Value}(h:LRs F ι a b){i:Nat}{x:SV}(hx:a[i]?=some x):∃y,b[i]?=some y∧VRs F ι x y:=by
 have hl:i<b.length:=by rw[←h.1];exact(List.getElem?_eq_some_iff.1 hx).1
 exact⟨b[i],by simp[hl],h.2 i x _ hx (by simp[hl])⟩
theorem LRs.nil_inv{F:Fz}{ι:Im}{b:List Value}(h:LRs F ι [] b):b=[]:=List.eq_nil_of_length_eq_zero h.1.symm
theorem LRs.cons_inv{F:Fz}{ι:Im}{x:SV}{l:List SV}{b:List Value}(h:LRs F ι (x::l) b):∃y l',b=y::l'∧VRs F ι x y∧LRs F ι l l':=by
 cases b with
 | nil=>have:=h.1;simp at this
 | cons y l'=>exact⟨y,l',rfl,h.head,h.tail⟩
theorem LRs.append{F:Fz}{ι:Im}{a c:List SV}{b d:List Value}(h:LRs F ι a b)(k:LRs F ι c d):LRs F ι (a++c) (b++d):=by
 induction a generalizing b with
 | nil=>rw[h.nil_inv];exact k
 | cons x a ih=>obtain⟨y,l',rfl,h1,h2⟩:=h.cons_inv;exact .cons h1 (ih h2)
theorem LRs.drop{F:Fz}{ι:Im}{a:List SV}{b:List Value}(h:LRs F ι a b)(n:Nat):LRs F ι (a.drop n) (b.drop n):=
 ⟨by simp[h.1],fun i x y hx hy=>h.2 (n+i) x y (by simpa using hx) (by simpa using hy)⟩
theorem VRs.agg_of{F:Fz}{ι:Im}{l:List SV}{l':List Value}(h:LRs F ι l l'):VRs F ι (.agg l) (.agg ⟨l'⟩):=.agg _ _ _ h.1 h.2
theorem VRs.tup_of{F:Fz}{ι:Im}{l:List SV}{l':List Value}(h:LRs F ι l l'):VRs F ι (.tup l) (.tuple ⟨l'⟩):=.tup _ _ _ h.1 h.2
theorem VRs.agg_inv{F:Fz}{ι:Im}{l:List SV}{v:Value}(h:VRs F ι (.agg l) v):∃l',v=.agg ⟨l'⟩∧LRs F ι l l':=by
 cases h with|agg _ _ l' h1 h2=>exact⟨l',rfl,h1,h2⟩
theorem VRs.tup_inv{F:Fz}{ι:Im}{l:List SV}{v:Value}(h:VRs F ι (.tup l) v):∃l',v=.tuple ⟨l'⟩∧LRs F ι l l':=by
 cases h with|tup _ _ l' h1 h2=>exact⟨l',rfl,h1,h2⟩
theorem VRs.int_inv{F:Fz}{ι:Im}{k:IntKind}{c:Bool}{x:Int}{v:Value}(h:VRs F ι (.int k c x) v):v=.int k x:=by cases h;rfl
theorem VRs.bool_inv{F:Fz}{ι:Im}{c b:Bool}{v:Value}(h:VRs F ι (.bool c b) v):v=.bool b:=by cases h;rfl
theorem VRs.str_inv{F:Fz}{ι:Im}{c:Bool}{s:List UInt8}{v:Value}(h:VRs F ι (.str c s) v):v=.string ⟨⟨s⟩⟩:=by cases h;rfl
theorem VRs.raw_inv{F:Fz}{ι:Im}{r v:Value}(h:VRs F ι (.raw r) v):v=r∧bareS_ r=true:=by cases h with|raw _ _ h=>exact⟨rfl,h⟩
theorem ofV_rel{F:Fz}{ι:Im}{v:Value}{s:SV}(h:ofV v=some s):VRs F ι s v:=by
 unfold ofV at h
 split at h<;>first|cases h|skip
 all_goals first|(injection h with h;subst h)|skip
 all_goals first|exact .int ..|exact .bool ..|exact .raw _ _ rfl|skip
 .rename_i s
  have:Value.string s=.string ⟨⟨s.data.toList⟩⟩:=by simp
  rw[this];exact .str ..
theorem ofVs_rel{F:Fz}{ι:Im}:∀ {l:List Value} {s:List SV},ofVs l=some s→LRs F ι s l
 | [],s,h=>by injection h with h;subst h;exact .nil ..
 | v::l,s,h=>by
  unfold ofVs at h
  cases hv:ofV v with
  | none=>rw[hv]at h;cases h
  | some x=>
   cases hl:ofVs l with
   | none=>rw[hv,hl]at h;cases h
   | some r=>
    rw[hv,hl]at h
    injection h with h
    subst h
    exact .cons (ofV_rel hv) (ofVs_rel hl)
theorem val_rel{F:Fz}{ι:Im}{s:SV}{v w:Value}(h:VRs F ι s v)(k:val? s=some w):v=w:=by
 unfold val? at k
 split at k<;>first|cases k|skip
 .exact h.int_inv
 .exact h.bool_inv
 .exact h.str_inv
 .exact h.raw_inv.1
theorem cells_rel{F:Fz}{ι:Im}{s:SV}{v:Value}(h:VRs F ι s v)(k:zc0 s.cells=true):LRs F ι s.cells v.cells.toList∧ones_ v.cells.toList=true∧isAny v=false:=by
 have one:∀ {s:SV} {v:Value},VRs F ι s v→one1_ s=true→one_ v=true∧(∀a,v≠.agg a)∧isAny v=false:=by
  intro s v h k
  cases h with
  | raw _ _ hb=>cases v<;>simp_all [bareS_,bare_,one_,isAny]
  | lost=>cases k
  | agg=>cases k
  | tup=>cases k
  | _=>exact⟨rfl,fun a e=>(by cases e),rfl⟩
 have ones:∀ {l:List SV} {l':List Value},LRs F ι l l'→zc0 l=true→ones_ l'=true:=by
  intro l
  induction l with
  | nil=>intro l' h _;rw[h.nil_inv];rfl
  | cons x l ih=>
   intro l' h k
   obtain⟨y,l',rfl,h1,h2⟩:=h.cons_inv
   unfold zc0 at k
   split at k
   .rename_i hx
    unfold ones_
    rw[(one h1 hx).1]
    exact ih h2 k
   .cases k
 by_cases ha:∃l,s=.agg l
 .obtain⟨l,rfl⟩:=ha
  obtain⟨l',rfl,hl⟩:=h.agg_inv
  exact⟨by simpa [SV.cells,Value.cells]using hl,by simpa [Value.cells]using ones hl k,rfl⟩
 .have hsc:s.cells=[s]:=by cases s<;>first|rfl|exact absurd ⟨_,rfl⟩ ha
  rw[hsc]at k ⊢
  unfold zc0 at k
  cases hk:one1_ s with
  | false=>rw[hk]at k;cases k
  | true=>
   obtain⟨o1,o2,o3⟩:=one h hk
   have hc:v.cells.toList=[v]:=by
    cases v<;>first|rfl|(exfalso;exact o2 _ rfl)
   rw[hc]
   refine⟨.cons h (.nil ..),?_,o3⟩
   unfold ones_;rw[o1];rfl
def RowR(F:Fz)(ι:Im)(cs:List Value)(p k:Nat)(r:List SV):Prop:=r.length=k∧∀(j:Nat) (x:SV) (y:Value),r[j]?=some x→cs[p+j]?=some y→VRs F ι x y
theorem RowR.mono{F F':Fz}(hF:F.le F'){ι ι':Im}(hi:ι.le ι'){cs:List Value}{p k:Nat}{r:List SV}(h:RowR F ι cs p k r):RowR F' ι' cs p k r:=⟨h.1,fun j x y a b=>(h.2 j x y a b).mono hF hi⟩
theorem RowR.of_lrs{F:Fz}{ι:Im}{r:List SV}{vs:List Value}(h:LRs F ι r vs){k:Nat}(hk:r.length=k){cs:List Value}{p:Nat}(hc:∀j,j<k→cs[p+j]?=vs[j]?):RowR F ι cs p k r:=by
 refine⟨hk,fun j x y hx hy=>h.2 j x y hx ?_⟩
 have:j<r.length:=(List.getElem?_eq_some_iff.1 hx).1
 rw[←hc j (by omega)];exact hy
theorem RowR.lrs{F:Fz}{ι:Im}{cs:List Value}{p k:Nat}{r:List SV}(h:RowR F ι cs p k r)(hl:p+k≤cs.length):LRs F ι r ((cs.drop p).take k):=by
 refine⟨by simp[h.1];omega,fun j x y hx hy=>h.2 j x y hx ?_⟩
 have:j<r.length:=(List.getElem?_eq_some_iff.1 hx).1
 simp only[List.getElem?_take,List.getElem?_drop]at hy
 split at hy
 .exact hy
 .cases hy
theorem RowR.cut{F:Fz}{ι:Im}{cs:List Value}{p k:Nat}{r:List SV}(h:RowR F ι cs p k r){o n:Nat}{l:List SV}(hc:lcut r o n=some l)(hl:p+k≤cs.length):∃vs,lcut cs (p+o) n=some vs∧LRs F ι l vs:=by
 obtain⟨h1,h2,h3⟩:=zav hc
 rw[h.1]at h1
 have hex:∃vs,lcut cs (p+o) n=some vs:=by
  have hd:∀ {α:Type} (l:List α) (n:Nat),n≤l.length→ldrop n l=some (l.drop n):=by
   intro α l n
   induction n generalizing l with
   | zero=>intro _;rfl
   | succ n ih=>intro hn;cases l with|nil=>simp at hn|cons x l=>simp at hn;simpa [ldrop]using ih l hn
  have ht:∀ {α:Type} (l:List α) (n:Nat),n≤l.length→ltake n l=some (l.take n):=by
   intro α l n
   induction n generalizing l with
   | zero=>intro _;simp[ltake]
   | succ n ih=>intro hn;cases l with|nil=>simp at hn|cons x l=>simp at hn;simp[ltake,ih l hn]
  refine⟨(cs.drop (p+o)).take n,?_⟩
  unfold lcut
  rw[hd cs (p+o) (by omega)]
  exact ht _ _ (by simp;omega)
 obtain⟨vs,hvs⟩:=hex
 obtain⟨g1,g2,g3⟩:=zav hvs
 refine⟨vs,hvs,by rw[h3,g3],fun i x y hx hy=>?_⟩
 have hi:i<n:=by have:=(List.getElem?_eq_some_iff.1 hx).1;omega
 rw[zaW hc i hi]at hx
 rw[zaW hvs i hi]at hy
 exact h.2 (o+i) x y hx (by rw[←zH];exact hy)
theorem RowR.put{F:Fz}{ι:Im}{cs cs':List Value}{p k:Nat}{r r':List SV}(h:RowR F ι cs p k r){o:Nat}{xs:List SV}{vs:List Value}(hx:LRs F ι xs vs)(hr:zaz r xs o=some r')(hc:zaz cs vs (p+o)=some cs'):RowR F ι cs' p k r':=by
 refine⟨by rw[zaB hr,h.1],fun j x y hxj hyj=>?_⟩
 rw[zax hr j]at hxj
 rw[zax hc (p+j)]at hyj
 by_cases hj:o≤j∧j<o+xs.length
 .rw[if_pos hj]at hxj
  rw[if_pos (by rw[←hx.1];omega)]at hyj
  exact hx.2 (j-o) x y hxj (by rw[show p+j-(p+o)=j-o by omega]at hyj;exact hyj)
 .rw[if_neg hj]at hxj
  rw[if_neg (by rw[←hx.1];omega)]at hyj
  exact h.2 j x y hxj hyj
theorem zips_at{F:Fz}{ι:Im}{q:SV→SV→SV}:∀ {x y:List SV} (j:Nat) (z:SV),(mux.zips q x y)[j]?=some z→∃a b,x[j]?=some a∧y[j]?=some b∧z=q a b
 | [],_,j,z,h=>by simp[mux.zips]at h
 | a::x,[],j,z,h=>by simp[mux.zips]at h
 | a::x,b::y,0,z,h=>by simp[mux.zips]at h;exact⟨a,b,rfl,rfl,h.symm⟩
 | a::x,b::y,j+1,z,h=>by
  simp[mux.zips]at h
  simpa using zips_at (F:=F) (ι:=ι) j z h
theorem zips_len{q:SV→SV→SV}:∀ {x y:List SV},(mux.zips q x y).length=min x.length y.length
 | [],_=>by simp[mux.zips]
 | a::x,[]=>by simp[mux.zips]
 | a::x,b::y=>by simp only[mux.zips,List.length_cons,zips_len (x:=x) (y:=y)];omega
theorem muxs_len{k:Nat}{q:SV→SV→SV}{x y:List SV}:(mux.muxs k q x y).length=k:=by
 unfold mux.muxs
 split
 .rename_i h1 h2;rw[zips_len,zB h1,zB h2];omega
 .rename_i h1 h2;exact zB h1
 .rename_i h1 h2;exact zB h2
 .simp
theorem RowR.mux1{F:Fz}{ι:Im}{cs:List Value}{p k:Nat}{x y:List SV}{q:SV→SV→SV}(h:RowR F ι cs p k x)(hq:∀a b v,VRs F ι a v→VRs F ι (q a b) v):RowR F ι cs p k (mux.muxs k q x y):=by
 refine⟨muxs_len,fun j z v hz hv=>?_⟩
 unfold mux.muxs at hz
 have hk:zD x.length k=true:=by rw[h.1];simp
 rw[hk]at hz
 split at hz
 .obtain⟨a,b,ha,hb,rfl⟩:=zips_at (F:=F) (ι:=ι) j z hz
  exact hq _ _ _ (h.2 j a v ha hv)
 .exact h.2 j z v hz hv
 .rename_i e _;cases e
 .rename_i e _;cases e
theorem RowR.mux2{F:Fz}{ι:Im}{cs:List Value}{p k:Nat}{x y:List SV}{q:SV→SV→SV}(h:RowR F ι cs p k y)(hq:∀a b v,VRs F ι b v→VRs F ι (q a b) v):RowR F ι cs p k (mux.muxs k q x y):=by
 refine⟨muxs_len,fun j z v hz hv=>?_⟩
 unfold mux.muxs at hz
 have hk:zD y.length k=true:=by rw[h.1];simp
 rw[hk]at hz
 split at hz
 .obtain⟨a,b,ha,hb,rfl⟩:=zips_at (F:=F) (ι:=ι) j z hz
  exact hq _ _ _ (h.2 j b v hb hv)
 .rename_i e;cases e
 .exact h.2 j z v hz hv
 .rename_i e;cases e
theorem mux_t{F:Fz}:∀(d:Nat) {ι:Im} {x y:SV} {v:Value},VRs F ι x v→VRs F ι (mux true x y d) v
 | 0,ι,x,y,v,h=>by unfold mux;exact .lost ..
 | d+1,ι,x,y,v,h=>by
  unfold mux
  split
  .split
   .rw[h.int_inv];exact .int ..
   .exact .lost ..
  .rw[h.bool_inv];exact .bool ..
  .rw[h.str_inv];exact .str ..
  .split
   .rename_i st k n nl e st' k' n' nl' e' _ hk
    cases h with
    | fsl _ _ _ _ _ _ b o cs t cap h1 h2 h3 h4 h5 h6 h7=>
     refine .fsl _ _ _ _ _ _ b o cs t cap h1 (zG h2 (Nat.le_max_left ..)) ?_ h4 h5 (fun i hi=>muxs_len) fun i j x y hi hx hy=>?_
     .rcases h3 with rfl|rfl
      .left;rfl
      .cases nl'<;>simp
     .exact(RowR.mux1 (cs:=cs) (p:=o+i*k) (k:=k) (x:=e i) ⟨h6 i hi,fun j x y a b=>h7 i j x y hi a b⟩ (fun a b v hv=>mux_t d hv)).2 j x y hx hy
    | fslN _ _ _ _ _ h3=>
     refine .fslN _ _ _ _ _ ?_
     rcases h3 with rfl|rfl
     .left;rfl
     .cases nl'<;>simp
    | fslE _ _ _ _ _ h3=>
     refine .fslE _ _ _ _ _ ?_
     rcases h3 with rfl|rfl
     .left;rfl
     .cases nl'<;>simp
   .exact .lost ..
  .exact h
  .rename_i st k n nl e
   obtain⟨rfl,_⟩:=h.raw_inv
   refine .fslN _ _ _ _ _ ?_
   cases nl<;>simp
  .rename_i st k n nl e
   cases h with
   | fsl _ _ _ _ _ _ b o cs t cap h1 h2 h3 h4 h5 h6 h7=>
    refine .fsl _ _ _ _ _ _ b o cs t cap h1 h2 ?_ h4 h5 h6 h7
    rcases h3 with rfl|rfl<;>simp
   | fslN _ _ _ _ _ h3=>
    refine .fslN _ _ _ _ _ ?_
    rcases h3 with rfl|rfl<;>simp
   | fslE _ _ _ _ _ h3=>
    refine .fslE _ _ _ _ _ ?_
    rcases h3 with rfl|rfl<;>simp
  .exact .lost ..
theorem mux_f{F:Fz}:∀(d:Nat) {ι:Im} {x y:SV} {v:Value},VRs F ι y v→VRs F ι (mux false x y d) v
 | 0,ι,x,y,v,h=>by unfold mux;exact .lost ..
 | d+1,ι,x,y,v,h=>by
  unfold mux
  split
  .split
   .rename_i hk;rw[h.int_inv,←of_decide_eq_true hk];exact .int ..
   .exact .lost ..
  .rw[h.bool_inv];exact .bool ..
  .rw[h.str_inv];exact .str ..
  .split
   .rename_i st k n nl e st' k' n' nl' e' _ hk
    obtain rfl:=zB hk
    cases h with
    | fsl _ _ _ _ _ _ b o cs t cap h1 h2 h3 h4 h5 h6 h7=>
     refine .fsl _ _ _ _ _ _ b o cs t cap h1 (zG h2 (Nat.le_max_right ..)) ?_ h4 h5 (fun i hi=>muxs_len) fun i j x y hi hx hy=>?_
     .rcases h3 with rfl|rfl
      .left;cases nl<;>rfl
      .cases nl<;>simp
     .exact(RowR.mux2 (cs:=cs) (p:=o+i*k) (k:=k) (y:=e' i) ⟨h6 i hi,fun j x y a b=>h7 i j x y hi a b⟩ (fun a b v hv=>mux_f d hv)).2 j x y hx hy
    | fslN _ _ _ _ _ h3=>
     refine .fslN _ _ _ _ _ ?_
     rcases h3 with rfl|rfl
     .left;cases nl<;>rfl
     .cases nl<;>simp
    | fslE _ _ _ _ _ h3=>
     refine .fslE _ _ _ _ _ ?_
     rcases h3 with rfl|rfl
     .left;cases nl<;>rfl
     .cases nl<;>simp
   .exact .lost ..
  .exact h
  .rename_i st k n nl e
   cases h with
   | fsl _ _ _ _ _ _ b o cs t cap h1 h2 h3 h4 h5 h6 h7=>
    refine .fsl _ _ _ _ _ _ b o cs t cap h1 h2 ?_ h4 h5 h6 h7
    rcases h3 with rfl|rfl<;>simp
   | fslN _ _ _ _ _ h3=>
    refine .fslN _ _ _ _ _ ?_
    rcases h3 with rfl|rfl<;>simp
   | fslE _ _ _ _ _ h3=>
    refine .fslE _ _ _ _ _ ?_
    rcases h3 with rfl|rfl<;>simp
  .rename_i st k n nl e
   obtain⟨rfl,_⟩:=h.raw_inv
   refine .fslN _ _ _ _ _ ?_
   cases nl<;>simp
  .exact .lost ..
theorem mux_rel{F:Fz}{ι:Im}{b:Bool}{x y:SV}{v:Value}{d:Nat}(ht:b=true→VRs F ι x v)(hf:b=false→VRs F ι y v):VRs F ι (mux b x y d) v:=by
 cases b with
 | true=>exact mux_t d (ht rfl)
 | false=>exact mux_f d (hf rfl)
theorem RowR.mux{F:Fz}{ι:Im}{cs:List Value}{p k:Nat}{b:Bool}{x y:List SV}(ht:b=true→RowR F ι cs p k x)(hf:b=false→RowR F ι cs p k y):RowR F ι cs p k (muxR k b x y):=by
 cases b with
 | true=>exact(ht rfl).mux1 fun a b v h=>mux_t 3 h
 | false=>exact(hf rfl).mux2 fun a b v h=>mux_f 3 h
theorem pick_rel{F:Fz}{ι:Im}:∀ {l:List SV} {vs:List Value} {j:Nat} {v:Value},LRs F ι l vs→vs[j]?=some v→VRs F ι (pick_ l j) v
 | [],vs,j,v,h,hv=>by rw[h.nil_inv]at hv;simp at hv
 | [x],vs,j,v,h,hv=>by
  obtain⟨y,l',rfl,h1,h2⟩:=h.cons_inv
  rw[h2.nil_inv]at hv
  cases j with
  | zero=>simp at hv;subst hv;exact h1
  | succ j=>simp at hv
 | x::x2::l,vs,j,v,h,hv=>by
  obtain⟨y,l',rfl,h1,h2⟩:=h.cons_inv
  unfold pick_
  refine mux_rel (fun e=>?_) (fun e=>?_)
  .obtain rfl:=zB e
   simp at hv;subst hv;exact h1
  .cases j with
   | zero=>cases e
   | succ j=>simp at hv;exact pick_rel h2 hv
theorem poke_len:∀ {l:List SV} {q j:Nat} {y:SV},(poke_ l q j y).length=l.length
 | [],q,j,y=>rfl
 | x::l,q,j,y=>by simp[poke_,poke_len]
theorem poke_at:∀ {l:List SV} {q j:Nat} {y:SV} (i:Nat),(poke_ l q j y)[i]?=(l[i]?).map fun x=>mux (zD j (q+i)) y x 3
 | [],q,j,y,i=>by simp[poke_]
 | x::l,q,j,y,0=>by simp[poke_]
 | x::l,q,j,y,i+1=>by
  simp only[poke_,List.getElem?_cons_succ]
  rw[poke_at i,show q+1+i=q+(i+1) by omega]
theorem poke_rel{F:Fz}{ι:Im}{l:List SV}{vs:List Value}{j:Nat}{y:SV}{v:Value}(h:LRs F ι l vs)(hy:VRs F ι y v):LRs F ι (poke_ l 0 j y) (vs.set j v):=by
 refine⟨by rw[poke_len,zJ];exact h.1,fun i a b ha hb=>?_⟩
 rw[poke_at]at ha
 cases hl:l[i]? with
 | none=>rw[hl]at ha;cases ha
 | some x=>
  rw[hl]at ha
  simp only[Option.map_some,zA,Nat.zero_add]at ha
  subst ha
  rw[List.getElem?_set]at hb
  refine mux_rel (fun e=>?_) (fun e=>?_)
  .obtain rfl:=zB e
   rw[if_pos rfl]at hb
   split at hb
   .injection hb with hb;subst hb;exact hy
   .cases hb
  .have hne:¬j=i:=fun e2=>by rw[e2]at e;simp at e
   rw[if_neg hne]at hb
   exact h.2 i x b hl hb
structure zas(h:Hp)(B:Bl)(cs:List Value)(t:TypeId):Prop where
 got:h.get B.b=some (.cells cs t B.x false)
 len:cs.length=B.T
 one:ones_ cs=true
 fit:B.o+B.m*B.k≤B.T
 view:B.x=false→h.get (B.b+1)=some (.view B.b)
 lt:B.b<h.next
 vlt:B.x=false→B.b+1<h.next
def SbOk(F:Fz)(ι:Im)(h:Hp)(id:Nat):SB→Prop
 | .lst k rows t=>∃B cs,ι id=some B∧B.k=k∧B.m=rows.length∧zas h B cs t∧∀i r,rows[i]?=some r→RowR F ι cs (B.o+i*k) k r
 | .row k n e t=>(n=0∧ι id=none)∨∃B cs,ι id=some B∧B.k=k∧B.m=n∧zas h B cs t∧∀i,i<n→RowR F Im0 cs (B.o+i*k) k (e i)
 | .mp es c=>∃B,ι id=some B∧h.get B.b=some (.map es c)∧B.b<h.next
 | .gone=>True
def Live(sh:SH)(id:Nat):Prop:=∃sb,sh.get id=some sb∧sb≠.gone
structure HRs(F:Fz)(ι:Im)(sh:SH)(h:Hp):Prop where
 most:h.next+sh.room≤9223372036854775808
 smost:sh.next≤9223372036854775808
 sdom:∀id,sh.next≤id→sh.get id=none∧ι id=none
 ok:∀id sb,sh.get id=some sb→SbOk F ι h id sb
 apart:∀id id' B B',id≠id'→Live sh id→Live sh id'→ι id=some B→ι id'=some B'→B.b≠B'.b
 frz:∀b cs t,F b=some (cs,t)→t≤sh.clk∧b<h.next∧ones_ cs=true∧∃e x ro,h.get b=some (.cells cs e x ro)
 fap:∀b x id B,F b=some x→Live sh id→ι id=some B→B.b≠b
theorem HRs.id_lt{F:Fz}{ι:Im}{sh:SH}{h:Hp}(H:HRs F ι sh h){id:Nat}{B:Bl}(e:ι id=some B):id<sh.next:=by
 by_cases hlt:id<sh.next
 .exact hlt
 .rw[(H.sdom id (by omega)).2]at e;cases e
theorem HRs.get_lt{F:Fz}{ι:Im}{sh:SH}{h:Hp}(H:HRs F ι sh h){id:Nat}{sb:SB}(e:sh.get id=some sb):id<sh.next:=by
 by_cases hlt:id<sh.next
 .exact hlt
 .rw[(H.sdom id (by omega)).1]at e;cases e
structure Stp(F:Fz)(ι:Im)(sh:SH)(h:Hp)(F':Fz)(ι':Im)(sh':SH)(h':Hp):Prop where
 im:∀id,id<sh.next→ι' id=ι id
 fm:F.le F'
 fnew:∀b cs t,F' b=some (cs,t)→F b=some (cs,t)∨(sh.clk<t∧(h.next≤b∨∃id B,id<sh.next∧Live sh id∧ι id=some B∧B.b=b))
 next:sh.next≤sh'.next
 clk:sh.clk≤sh'.clk
 hnext:h.next≤h'.next
 room:h'.next+sh'.room≤h.next+sh.room
 log:∃nw,sh'.log=nw++sh.log∧(∀id,id<sh.next→id∉nw→sh'.get id=sh.get id)∧(∀id,id∈nw→id<sh.next→Live sh id)∧
  (∀b,b<h.next→(∀id B,id∈nw→id<sh.next→ι id=some B→B.b≠b)→h'.get b=h.get b)∧
  (∀id B,sh.next≤id→ι' id=some B→h.next≤B.b∨∃id0 B0,id0∈nw∧id0<sh.next∧ι id0=some B0∧B0.b=B.b)
theorem Stp.refl(F:Fz){ι:Im}{sh:SH}{h:Hp}(H:HRs F ι sh h):Stp F ι sh h F ι sh h:=
 ⟨fun _ _=>rfl,Fz.le.refl _,fun _ _ _ e=>.inl e,zC _,zC _,zC _,zC _,
  [],rfl,fun _ _ _=>rfl,fun id e=>by simp at e,fun _ _ _=>rfl,fun id B e1 e2=>by rw[(H.sdom id e1).2]at e2;cases e2⟩
theorem Stp.le{F:Fz}{ι:Im}{sh:SH}{h:Hp}{F':Fz}{ι':Im}{sh':SH}{h':Hp}(S:Stp F ι sh h F' ι' sh' h')(H:HRs F ι sh h):ι.le ι':=fun id B e=>by rw[S.im id (H.id_lt e)];exact e
theorem Stp.trans{F:Fz}{ι:Im}{sh:SH}{h:Hp}{F1:Fz}{ι1:Im}{sh1:SH}{h1:Hp}{F2:Fz}{ι2:Im}{sh2:SH}{h2:Hp}(S:Stp F ι sh h F1 ι1 sh1 h1)(T:Stp F1 ι1 sh1 h1 F2 ι2 sh2 h2):Stp F ι sh h F2 ι2 sh2 h2:=by
 obtain⟨nw,l1,l2,l3,l4,l5⟩:=S.log
 obtain⟨nw2,m1,m2,m3,m4,m5⟩:=T.log
 refine⟨fun id hid=>by rw[T.im id (by have:=S.next;omega),S.im id hid],S.fm.trans T.fm,fun b cs t e=>?_,zG S.next T.next,zG S.clk T.clk,zG S.hnext T.hnext,zG T.room S.room,
  nw2++nw,by rw[m1,l1,List.append_assoc],fun id hid hno=>?_,fun id hid hlt=>?_,fun b hb hno=>?_,fun id B hid e=>?_⟩
 .rcases T.fnew b cs t e with e|⟨e,q⟩
  .exact S.fnew b cs t e
  .right
   refine⟨by have:=S.clk;omega,?_⟩
   rcases q with q|⟨id,B,q1,q2,q3,q4⟩
   .left;have:=S.hnext;omega
   .by_cases hl:id<sh.next
    .right
     rw[S.im id hl]at q3
     refine⟨id,B,hl,?_,q3,q4⟩
     by_cases hn:id∈nw
     .exact l3 id hn hl
     .obtain⟨sb,r1,r2⟩:=q2
      rw[l2 id hl hn]at r1;exact⟨sb,r1,r2⟩
    .rcases l5 id B (by omega) q3 with r|⟨id0,B0,r1,r2,r3,r4⟩
     .left;omega
     .right;exact⟨id0,B0,r2,l3 id0 r1 r2,r3,r4.trans q4⟩
 .rw[List.mem_append,not_or]at hno
  rw[m2 id (by have:=S.next;omega) hno.1,l2 id hid hno.2]
 .rcases List.mem_append.1 hid with e|e
  .obtain⟨sb,q1,q2⟩:=m3 id e (by have:=S.next;omega)
   by_cases hn:id∈nw
   .exact l3 id hn hlt
   .rw[l2 id hlt hn]at q1;exact⟨sb,q1,q2⟩
  .exact l3 id e hlt
 .rw[m4 b (by have:=S.hnext;omega) fun id B hid hlt e=>?_,l4 b hb fun id B hid hlt e=>hno id B (zK _ hid) hlt e]
  by_cases hl:id<sh.next
  .rw[S.im id hl]at e
   exact hno id B (zN _ hid) hl e
  .rcases l5 id B (by omega) e with q|⟨id0,B0,q1,q2,q3,q4⟩
   .omega
   .rw[←q4];exact hno id0 B0 (zK _ q1) q2 q3
 .by_cases hl:id<sh1.next
  .rw[T.im id hl]at e
   rcases l5 id B hid e with q|⟨id0,B0,q1,q2,q3,q4⟩
   .exact .inl q
   .exact .inr ⟨id0,B0,zK _ q1,q2,q3,q4⟩
  .rcases m5 id B (by omega) e with q|⟨id0,B0,q1,q2,q3,q4⟩
   .left;have:=S.hnext;omega
   .by_cases hl0:id0<sh.next
    .rw[S.im id0 hl0]at q3
     exact .inr ⟨id0,B0,zN _ q1,hl0,q3,q4⟩
    .rcases l5 id0 B0 (by omega) q3 with r|⟨id1,B1,r1,r2,r3,r4⟩
     .left;omega
     .exact .inr ⟨id1,B1,zK _ r1,r2,r3,by rw[r4,q4]⟩
theorem zas.same{h h':Hp}{B:Bl}{cs:List Value}{t:TypeId}(S:zas h B cs t)(hn:h.next=h'.next)(hg:∀j,h.get j=h'.get j):zas h' B cs t:=
 ⟨by rw[←hg];exact S.got,S.len,S.one,S.fit,fun e=>by rw[←hg];exact S.view e,by rw[←hn];exact S.lt,fun e=>by rw[←hn];exact S.vlt e⟩
theorem HRs.same{F:Fz}{ι:Im}{sh:SH}{h h':Hp}(H:HRs F ι sh h)(hn:h.next=h'.next)(hg:∀j,h.get j=h'.get j):HRs F ι sh h' where
 most:=by rw[←hn];exact H.most
 smost:=H.smost
 sdom:=H.sdom
 ok:=fun id sb e=>by
  have:=H.ok id sb e
  cases sb with
  | lst k rows t=>obtain⟨B,cs,h1,h2,h3,h4,h5⟩:=this;exact⟨B,cs,h1,h2,h3,h4.same hn hg,h5⟩
  | row k n e t=>
   rcases this with q|⟨B,cs,h1,h2,h3,h4,h5⟩
   .exact .inl q
   .exact .inr ⟨B,cs,h1,h2,h3,h4.same hn hg,h5⟩
  | mp es c=>obtain⟨B,h1,h2,h3⟩:=this;exact⟨B,h1,by rw[←hg];exact h2,by rw[←hn];exact h3⟩
  | gone=>trivial
 apart:=H.apart
 frz:=fun b cs t e=>by obtain⟨f1,f2,f3,f4⟩:=H.frz b cs t e;exact⟨f1,by rw[←hn];exact f2,f3,by rw[←hg];exact f4⟩
 fap:=H.fap
theorem Stp.same{F:Fz}{ι:Im}{sh:SH}{h:Hp}{F':Fz}{ι':Im}{sh':SH}{h1 h2:Hp}(S:Stp F ι sh h F' ι' sh' h1)(hn:h1.next=h2.next)(hg:∀j,h1.get j=h2.get j):Stp F ι sh h F' ι' sh' h2:=
 ⟨S.im,S.fm,S.fnew,S.next,S.clk,by rw[←hn];exact S.hnext,by rw[←hn];exact S.room,by
  obtain⟨nw,l1,l2,l3,l4,l5⟩:=S.log
  exact⟨nw,l1,l2,l3,fun b hb hno=>by rw[←hg];exact l4 b hb hno,l5⟩⟩
theorem SH.get_put{h:SH}{id j:Nat}{b:SB}(hid:id<9223372036854775808):(h.put id b).get j=if j=id then some b else h.get j:=by
 unfold SH.put SH.get
 rw[Tr.force_eq]
 exact Tr.get_set 24 _ _ _ _ (by omega)
theorem SH.put_next{h:SH}{id:Nat}{b:SB}:(h.put id b).next=h.next:=by unfold SH.put;rw[Tr.force_eq]
theorem SH.put_clk{h:SH}{id:Nat}{b:SB}:(h.put id b).clk=h.clk:=by unfold SH.put;rw[Tr.force_eq]
theorem SH.put_room{h:SH}{id:Nat}{b:SB}:(h.put id b).room=h.room:=by unfold SH.put;rw[Tr.force_eq]
theorem SH.put_log{h:SH}{id:Nat}{b:SB}:(h.put id b).log=id::h.log:=by unfold SH.put;rw[Tr.force_eq]
theorem SH.new_some{h h':SH}{id:Nat}{b:SB}(e:h.new b=some (id,h')):id=h.next∧h'.next=h.next+1∧h'.clk=h.clk∧h'.log=h.log∧h.next<9223372036854775808∧h'.room+2=h.room∧∀j,h'.get j=if j=h.next then some b else h.get j:=by
 unfold SH.new at e
 cases hb:(Nat.blt h.next 9223372036854775808&&Nat.ble 2 h.room)with
 | false=>rw[hb]at e;cases e
 | true=>
  rw[hb]at e
  simp only[cond_true,Tr.force_eq,zA,Prod.mk.injEq]at e
  obtain⟨rfl,rfl⟩:=e
  rw[zL]at hb
  have hlt:h.next<9223372036854775808:=by simpa [zE]using hb.1
  have h2:2≤h.room:=zM hb.2
  exact⟨rfl,rfl,rfl,rfl,hlt,by show h.room-2+2=h.room;omega,fun j=>Tr.get_set 24 _ _ _ _ (by omega)⟩
theorem zas.keep{h h':Hp}{B:Bl}{cs:List Value}{t:TypeId}(S:zas h B cs t)(hb:h'.get B.b=h.get B.b)(hv:B.x=false→h'.get (B.b+1)=h.get (B.b+1))(hn:h.next≤h'.next):zas h' B cs t:=
 ⟨by rw[hb];exact S.got,S.len,S.one,S.fit,fun e=>by rw[hv e];exact S.view e,by have:=S.lt;omega,fun e=>by have:=S.vlt e;omega⟩
theorem SbOk.keep{F F':Fz}{ι ι':Im}{h h':Hp}{id:Nat}{sb:SB}(S:SbOk F ι h id sb)(hF:F.le F')(hi:ι.le ι')(hid:ι' id=ι id)(hn:h.next≤h'.next)
  (hk:∀B,ι id=some B→h'.get B.b=h.get B.b∧(B.x=false→B.b+1<h.next→h.get (B.b+1)=some (.view B.b)→h'.get (B.b+1)=h.get (B.b+1))):SbOk F' ι' h' id sb:=by
 cases sb with
 | lst k rows t=>
  obtain⟨B,cs,h1,h2,h3,h4,h5⟩:=S
  obtain⟨k1,k2⟩:=hk B h1
  exact⟨B,cs,hi _ _ h1,h2,h3,h4.keep k1 (fun e=>k2 e (h4.vlt e) (h4.view e)) hn,fun i r hr=>(h5 i r hr).mono hF hi⟩
 | row k n e t=>
  rcases S with⟨h1,h2⟩|⟨B,cs,h1,h2,h3,h4,h5⟩
  .exact .inl ⟨h1,by rw[hid];exact h2⟩
  .obtain⟨k1,k2⟩:=hk B h1
   exact .inr ⟨B,cs,hi _ _ h1,h2,h3,h4.keep k1 (fun e=>k2 e (h4.vlt e) (h4.view e)) hn,fun i hr=>(h5 i hr).mono hF (Im.le.refl _)⟩
 | mp es c=>
  obtain⟨B,h1,h2,h3⟩:=S
  exact⟨B,hi _ _ h1,by rw[(hk B h1).1];exact h2,by omega⟩
 | gone=>trivial
theorem HRs.putH{F:Fz}{ι:Im}{sh:SH}{h h':Hp}(H:HRs F ι sh h){id:Nat}{B:Bl}(hl:Live sh id)(hi:ι id=some B)(hlt:B.b<h.next)(hnv:∀v,h.get B.b≠some (.view v))(hn:h'.next=h.next)(hg:∀j,j≠B.b→h'.get j=h.get j){sb:SB}
  (hs:SbOk F ι h' id sb):HRs F ι (sh.put id sb) h'∧Stp F ι sh h F ι (sh.put id sb) h':=by
 have hid:id<sh.next:=H.id_lt hi
 have h8:id<9223372036854775808:=by have:=H.smost;omega
 have hsg:∀j,(sh.put id sb).get j=if j=id then some sb else sh.get j:=fun j=>SH.get_put h8
 have live:∀j,Live (sh.put id sb) j→Live sh j:=by
  rintro j ⟨s,hs1,hs2⟩
  rw[hsg]at hs1
  split at hs1
  .rename_i e;subst e;exact hl
  .exact⟨s,hs1,hs2⟩
 refine⟨⟨by rw[hn,SH.put_room];exact H.most,by rw[SH.put_next];exact H.smost,fun j hj=>?_,fun j s hj=>?_,fun j j' C C' hne l1 l2 e1 e2=>H.apart j j' C C' hne (live j l1) (live j' l2) e1 e2,fun b cs t e=>?_,fun b y j C e l e2=>H.fap b y j C e (live j l) e2⟩,
  ⟨fun _ _=>rfl,Fz.le.refl _,fun _ _ _ e=>.inl e,by rw[SH.put_next];exact zC _,by rw[SH.put_clk];exact zC _,by rw[hn];exact zC _,by rw[hn,SH.put_room];exact zC _,[id],by rw[SH.put_log];rfl,fun j hj hno=>?_,fun j hj hlt=>?_,fun b hb hno=>?_,fun j C hj e=>?_⟩⟩
 .rw[SH.put_next]at hj
  rw[hsg,if_neg (by omega)]
  exact H.sdom j hj
 .rw[hsg]at hj
  split at hj
  .rename_i e;subst e;injection hj with hj;subst hj;exact hs
  .rename_i hne
   by_cases hg':s=.gone
   .subst hg';trivial
   refine(H.ok j s hj).keep (Fz.le.refl _) (Im.le.refl _) rfl (by rw[hn];exact zC _) fun C hC=>?_
   have hne2:C.b≠B.b:=H.apart j id C B hne ⟨s,hj,hg'⟩ hl hC hi
   refine⟨hg _ hne2,fun _ _ hv=>hg _ fun e=>?_⟩
   rw[e]at hv
   exact hnv _ hv
 .obtain⟨f1,f2,f4,e',x',ro,f3⟩:=H.frz b cs t e
  rw[SH.put_clk,hn]
  refine⟨f1,f2,f4,e',x',ro,?_⟩
  rw[hg b (fun e2=>H.fap b _ id B e hl hi e2.symm)]
  exact f3
 .rw[hsg,if_neg (by simpa using hno)]
 .simp at hj;subst hj;exact hl
 .refine hg b fun e=>?_
  exact hno id B (by simp) hid hi e.symm
 .rw[(H.sdom j hj).2]at e;cases e
theorem HRs.put{F:Fz}{ι:Im}{sh:SH}{h:Hp}(H:HRs F ι sh h){id:Nat}{B:Bl}(hl:Live sh id)(hi:ι id=some B)(hlt:B.b<h.next)(hnv:∀v,h.get B.b≠some (.view v)){x:Blk}{sb:SB}
  (hs:SbOk F ι (h.put B.b x) id sb):HRs F ι (sh.put id sb) (h.put B.b x)∧Stp F ι sh h F ι (sh.put id sb) (h.put B.b x):=
 H.putH hl hi hlt hnv Hp.put_next (fun j hj=>by rw[Hp.get_put (by have:=H.most;omega),if_neg hj]) hs
theorem HRs.new{F:Fz}{ι:Im}{sh sh':SH}{h h':Hp}(H:HRs F ι sh h){sb:SB}{id:Nat}(hs:sh.new sb=some (id,sh')){B:Bl}(hb:h.next≤B.b)(hblt:B.b<h'.next)(hn:h.next≤h'.next)(hm:h'.next≤h.next+2)
  (hg:∀j,j<h.next→h'.get j=h.get j)
  (hok:∀ι':Im,ι.le ι'→ι' id=some B→SbOk F ι' h' id sb):∃ι',ι' id=some B∧HRs F ι' sh' h'∧Stp F ι sh h F ι' sh' h':=by
 obtain⟨rfl,n1,n2,n3,n4,n6,n5⟩:=SH.new_some hs
 have hmost:=H.most
 let ι':Im:=fun j=>if j=sh.next then some B else ι j
 have hi:ι' sh.next=some B:=if_pos rfl
 have hle:ι.le ι':=fun j C e=>by
  have:j<sh.next:=H.id_lt e
  show(if j=sh.next then _ else _)=_
  rw[if_neg (by omega)];exact e
 have hold:∀j,j<sh.next→ι' j=ι j:=fun j hj=>if_neg (by omega)
 have hblk:∀j C,j<sh.next→Live sh j→ι j=some C→C.b<h.next:=by
  rintro j C hj ⟨s,hs1,hs2⟩ e
  have:=H.ok j s hs1
  cases s with
  | lst k rows t=>obtain⟨D,cs,q1,_,_,q2,_⟩:=this;rw[q1]at e;injection e with e;subst e;exact q2.lt
  | row k n f t=>
   rcases this with⟨_,q⟩|⟨D,cs,q1,_,_,q2,_⟩
   .rw[q]at e;cases e
   .rw[q1]at e;injection e with e;subst e;exact q2.lt
  | mp es c=>obtain⟨D,q1,_,q2⟩:=this;rw[q1]at e;injection e with e;subst e;exact q2
  | gone=>exact absurd rfl hs2
 have live:∀j,j≠sh.next→Live sh' j→Live sh j:=by
  rintro j hj ⟨s,hs1,hs2⟩
  rw[n5,if_neg hj]at hs1
  exact⟨s,hs1,hs2⟩
 refine⟨ι',hi,⟨by omega,by rw[n1];omega,fun j hj=>?_,fun j s hj=>?_,fun j j' C C' hne l1 l2 e1 e2=>?_,fun b cs t e=>?_,fun b y j C e l e2=>?_⟩,
  ⟨hold,Fz.le.refl _,fun _ _ _ e=>.inl e,by rw[n1];omega,by rw[n2];exact zC _,hn,by omega,[],by rw[n3];rfl,fun j hj _=>?_,fun j hj=>by simp at hj,fun b hb _=>hg b hb,fun j C hj e=>?_⟩⟩
 .rw[n1]at hj
  rw[n5,if_neg (by omega)]
  refine⟨(H.sdom j (by omega)).1,?_⟩
  show(if j=sh.next then _ else _)=_
  rw[if_neg (by omega)];exact(H.sdom j (by omega)).2
 .rw[n5]at hj
  split at hj
  .rename_i e;subst e;injection hj with hj;subst hj;exact hok ι' hle hi
  .rename_i hne
   by_cases hg':s=.gone
   .subst hg';trivial
   have hlt:=H.get_lt hj
   refine(H.ok j s hj).keep (Fz.le.refl _) hle (hold j hlt) hn fun C hC=>?_
   have hc:=hblk j C hlt ⟨s,hj,hg'⟩ hC
   exact⟨hg _ hc,fun _ hv _=>hg _ hv⟩
 .by_cases q1:j=sh.next
  .have q2:j'≠sh.next:=fun e=>hne (by rw[q1,e])
   rw[q1,hi]at e1
   injection e1 with e1;subst e1
   have hj':ι j'=some C':=by
    have:ι' j'=ι j':=if_neg q2
    rw[←this];exact e2
   have:=hblk j' C' (H.id_lt hj') (live j' q2 l2) hj'
   omega
  .have hj:ι j=some C:=by
    have:ι' j=ι j:=if_neg q1
    rw[←this];exact e1
   by_cases q2:j'=sh.next
   .rw[q2,hi]at e2
    injection e2 with e2;subst e2
    have:=hblk j C (H.id_lt hj) (live j q1 l1) hj
    omega
   .have hj':ι j'=some C':=by
     have:ι' j'=ι j':=if_neg q2
     rw[←this];exact e2
    exact H.apart j j' C C' hne (live j q1 l1) (live j' q2 l2) hj hj'
 .obtain⟨f1,f2,f4,f3⟩:=H.frz b cs t e
  rw[n2]
  exact⟨f1,by omega,f4,by rw[hg b f2];exact f3⟩
 .by_cases q:j=sh.next
  .rw[q,hi]at e2
   injection e2 with e2;subst e2
   have:=(H.frz b y.1 y.2 e).2.1
   omega
  .have hj:ι j=some C:=by
    have:ι' j=ι j:=if_neg q
    rw[←this];exact e2
   exact H.fap b y j C e (live j q l) hj
 .rw[n5,if_neg (by omega)]
 .left
  by_cases q:j=sh.next
  .rw[q,hi]at e;injection e with e;subst e;exact hb
  .have:ι' j=ι j:=if_neg q
   rw[this,(H.sdom j hj).2]at e;cases e
section
variable {F:Fz} {ι:Im}
theorem bin_rel{op:BinOp}{x y z:SV}{x' y':Value}(hx:VRs F ι x x')(hy:VRs F ι y y')(h:(bin1_ op x y).sel=some z):∃z',bin_ op x' y'=some z'∧VRs F ι z z':=by
 unfold bin1_ at h
 split at h
 .rename_i k c a k' c' b
  obtain rfl:=hx.int_inv
  obtain rfl:=hy.int_inv
  cases op
  case shl=>
   obtain⟨k2,c2,c3,n,e,h2⟩:=zaZ h
   injection e with e1 e2 e3;subst e1;subst e3
   simp only[RT.sel,zbv,zA]at h2;subst h2
   exact⟨_,rfl,.int ..⟩
  case shr=>
   obtain⟨k2,c2,c3,n,e,h2⟩:=zaZ h
   injection e with e1 e2 e3;subst e1;subst e3
   simp only[RT.sel,zbv,zA]at h2;subst h2
   exact⟨_,rfl,.int ..⟩
  all_goals
   simp only at h
   split at h
   .cases h
   .rename_i hk
    unfold bin_
    simp only[hk]
    first
     | (simp only[RT.sel,zbv,mkB_eq,zA]at h;subst h;exact⟨_,rfl,by first|exact .int ..|exact .bool ..⟩)
     | (obtain⟨hz,h⟩:=zbf h
        simp only[RT.sel,zbv,zA]at h;subst h
        rw[Bool.not_eq_true']at hz
        simp only[hz]
        exact⟨_,rfl,.int ..⟩)
     | cases h
 .rename_i c a c' b
  obtain rfl:=hx.str_inv
  obtain rfl:=hy.str_inv
  cases op
  case add=>
   simp only at h
   obtain⟨hz,h⟩:=zbf h
   simp only[RT.sel,zA]at h;subst h
   unfold bin_
   have:decide ((⟨⟨a⟩⟩:ByteArray).size+(⟨⟨b⟩⟩:ByteArray).size≤9223372036854775807)=true:=hz
   simp only[this]
   exact⟨_,rfl,.str ..⟩
  all_goals
   simp only at h
   first
    | (simp only[RT.sel,mkB_eq,zA]at h;subst h;exact⟨_,rfl,.bool ..⟩)
    | cases h
 .cases h
theorem cut_rel{l r:List SV}{cs:List Value}{o n:Nat}(h:LRs F ι r cs)(hc:lcut r o n=some l):∃vs,lcut cs o n=some vs∧LRs F ι l vs:=by
 obtain⟨h1,h2,h3⟩:=zav hc
 have hr:RowR F ι cs 0 r.length r:=⟨rfl,fun j x y hx hy=>h.2 j x y hx (by simpa using hy)⟩
 obtain⟨vs,q1,q2⟩:=hr.cut hc (by rw[h.1];omega)
 exact⟨vs,by simpa using q1,q2⟩
theorem zds{E:Env}{t:TypeId}{r:List SV}{cs:List Value}{o:Nat}{v:SV}(h:LRs F ι r cs)(hp:zcS E t r o=some v):∃v',part_ E t cs o=some v'∧VRs F ι v v':=by
 unfold zcS at hp
 unfold part_
 split at hp
 .rename_i n ha hs
  rw[ha,hs]
  split at hp
  .rename_i c hc
   injection hp with hp;subst hp
   obtain⟨vs,q1,q2⟩:=cut_rel h hc
   simp only[q1]
   exact⟨_,rfl,.agg_of q2⟩
  .cases hp
 .rename_i x hs ha
  rw[ha]
  split at hp
  .rename_i c hc
   injection hp with hp;subst hp
   obtain⟨vs,q1,q2⟩:=cut_rel h hc
   obtain⟨y,l',rfl,q3,q4⟩:=q2.cons_inv
   rw[q4.nil_inv]at q1
   simp only[q1]
   exact⟨_,rfl,q3⟩
  .cases hp
 .cases hp
theorem part_row{E:Env}{t:TypeId}{r:List SV}{cs:List Value}{p k o:Nat}{v:SV}(h:RowR F ι cs p k r)(hl:p+k≤cs.length)(hp:zcS E t r o=some v):∃v',part_ E t cs (p+o)=some v'∧VRs F ι v v':=by
 unfold zcS at hp
 unfold part_
 split at hp
 .rename_i n ha hs
  rw[ha,hs]
  split at hp
  .rename_i c hc
   injection hp with hp;subst hp
   obtain⟨vs,q1,q2⟩:=h.cut hc hl
   simp only[q1]
   exact⟨_,rfl,.agg_of q2⟩
  .cases hp
 .rename_i x hs ha
  rw[ha]
  split at hp
  .rename_i c hc
   injection hp with hp;subst hp
   obtain⟨vs,q1,q2⟩:=h.cut hc hl
   obtain⟨y,l',rfl,q3,q4⟩:=q2.cons_inv
   rw[q4.nil_inv]at q1
   simp only[q1]
   exact⟨_,rfl,q3⟩
  .cases hp
 .cases hp
theorem eqs_rel{α:Type}{f g:α→Option SV}{f' g':α→Option Value}{q:α→SV→SV→Option (Bool×Bool)}{q':α→Value→Value→Option Bool}{skip:α→Bool}
  (hf:∀i a,f i=some a→∃a',f' i=some a'∧VRs F ι a a') (hg:∀i a,g i=some a→∃a',g' i=some a'∧VRs F ι a a')
  (hq:∀i a b a' b' r,VRs F ι a a'→VRs F ι b b'→q i a b=some r→q' i a' b'=some r.2) :
  ∀ {l:List α} {r:Bool×Bool},eqs1_ f g q skip l=some r→eqs_ f' g' q' skip l=some r.2
 | [],r,h=>by injection h with h;subst h;rfl
 | i::l,r,h=>by
  unfold eqs1_ at h
  unfold eqs_
  split at h
  .rename_i hs;rw[hs];exact eqs_rel hf hg hq h
  .rename_i hs
   rw[hs]
   split at h
   .rename_i a b ha hb
    obtain⟨a',ha',ra⟩:=hf i a ha
    obtain⟨b',hb',rb⟩:=hg i b hb
    simp only[ha',hb']
    split at h
    .rename_i c x c' y e1 e2
     injection h with h;subst h
     rw[hq i a b a' b' _ ra rb e1]
     cases x with
     | true=>simpa using eqs_rel hf hg hq e2
     | false=>rfl
    .cases h
   .cases h
theorem eq_rel{E:Env}:∀ {d:Nat} {t:TypeId} {x y:SV} {x' y':Value} {r:Bool×Bool},VRs F ι x x'→VRs F ι y y'→eq1_ E d t x y=some r→eq_ E d t x' y'=some r.2
 | 0,t,x,y,x',y',r,hx,hy,h=>by cases h
 | d+1,t,x,y,x',y',r,hx,hy,h=>by
  unfold eq1_ at h
  split at h
  .rename_i ht;injection h with h;subst h;obtain rfl:=hx.bool_inv;obtain rfl:=hy.bool_inv;unfold eq_;simp only[ht]
  .rename_i ht
   obtain rfl:=hx.int_inv;obtain rfl:=hy.int_inv
   split at h
   .rename_i hk;injection h with h;subst h;unfold eq_;simp only[ht,hk]
   .cases h
  .rename_i ht;injection h with h;subst h;obtain rfl:=hx.str_inv;obtain rfl:=hy.str_inv;unfold eq_;simp only[ht]
  .rename_i ht;injection h with h;subst h;obtain⟨rfl,_⟩:=hx.raw_inv;obtain⟨rfl,_⟩:=hy.raw_inv;unfold eq_;simp only[ht];rfl
  .rename_i ht;injection h with h;subst h;obtain⟨rfl,_⟩:=hy.raw_inv;cases hx;unfold eq_;simp only[ht]
  .rename_i ht;injection h with h;subst h;obtain⟨rfl,_⟩:=hx.raw_inv;cases hy;unfold eq_;simp only[ht];rfl
  .rename_i ht;injection h with h;subst h;obtain⟨rfl,_⟩:=hx.raw_inv;obtain⟨rfl,_⟩:=hy.raw_inv;unfold eq_;simp only[ht];rfl
  .rename_i ht;injection h with h;subst h;obtain⟨rfl,_⟩:=hy.raw_inv
   cases hx with
   | nsl=>unfold eq_;simp only[ht]
   | nslN _ _ _ _ _ _ hz=>omega
   | nslE _ _ _ _ _ _ hz=>omega
  .rename_i ht;injection h with h;subst h;obtain⟨rfl,_⟩:=hy.raw_inv;cases hx;unfold eq_;simp only[ht]
  .rename_i ht;injection h with h;subst h;obtain⟨rfl,_⟩:=hy.raw_inv
   cases hx with
   | fsl _ _ _ _ _ _ b o cs t cap h1 h2 h3 h4 h5 h6 h7=>
    rcases h3 with h3|h3<;>cases h3
    unfold eq_;simp only[ht]
   | fslN _ _ _ _ _ h3=>
    rcases h3 with h3|h3<;>cases h3
    unfold eq_;simp only[ht];rfl
   | fslE _ _ _ _ _ h3=>
    rcases h3 with h3|h3<;>cases h3
    unfold eq_;simp only[ht]
  .rename_i ht;injection h with h;subst h;obtain⟨rfl,_⟩:=hy.raw_inv;cases hx;unfold eq_;simp only[ht]
  .rename_i ht;injection h with h;subst h;obtain⟨rfl,_⟩:=hx.raw_inv;obtain⟨rfl,_⟩:=hy.raw_inv;unfold eq_;simp only[ht];rfl
  .rename_i ht;injection h with h;subst h;obtain⟨rfl,_⟩:=hx.raw_inv;obtain⟨rfl,_⟩:=hy.raw_inv;unfold eq_;simp only[ht]
  .rename_i ht;injection h with h;subst h;obtain⟨rfl,_⟩:=hx.raw_inv;obtain⟨rfl,_⟩:=hy.raw_inv;unfold eq_;simp only[ht]
  .rename_i ht;injection h with h;subst h;obtain⟨rfl,_⟩:=hx.raw_inv;cases hy;unfold eq_;simp only[ht]
  .rename_i ht;injection h with h;subst h;obtain⟨rfl,_⟩:=hy.raw_inv;cases hx;unfold eq_;simp only[ht]
  .rename_i fs xs ys ht
   obtain⟨xs',rfl,lx⟩:=hx.agg_inv
   obtain⟨ys',rfl,ly⟩:=hy.agg_inv
   unfold eq_
   simp only[ht]
   cases hk:E.eqOk t with
   | false=>rw[hk]at h;cases h
   | true=>
    rw[hk]at h
    simp only[cond_true]at h ⊢
    refine eqs_rel (F:=F) (ι:=ι) ?_ ?_ ?_ h
    .exact fun i a e=>zds lx e
    .exact fun i a e=>zds ly e
    .exact fun i a b a' b' r ra rb e=>eq_rel ra rb e
  .rename_i n e xs ys ht
   obtain⟨xs',rfl,lx⟩:=hx.agg_inv
   obtain⟨ys',rfl,ly⟩:=hy.agg_inv
   unfold eq_
   simp only[ht]
   split at h
   .rename_i s hs
    simp only[hs]
    refine eqs_rel (F:=F) (ι:=ι) ?_ ?_ ?_ h
    .exact fun i a e=>zds lx e
    .exact fun i a e=>zds ly e
    .exact fun i a b a' b' r ra rb e=>eq_rel ra rb e
   .cases h
  .cases h
theorem guard_rel{E:Env}{t:TypeId}{x:SV}{x':Value}{d:Nat}{y:SV}{r:Bool×Bool}(hx:VRs F ι x x')(h:guard1_ E t x=true)(hq:eq1_ E d t x y=some r):guard_ E t x'=true:=by
 cases hx with
 | agg=>exact h
 | lost=>exfalso;cases d with|zero=>cases hq|succ d=>unfold eq1_ at hq;split at hq<;>first|contradiction|cases hq
 | raw _ _ hb=>cases x'<;>first|rfl|cases hb
 | _=>rfl
theorem un_rel{op:UnOp}{x z:SV}{x':Value}(hx:VRs F ι x x')(h:(un1_ op x).sel=some z):∃z',un_ op x'=some z'∧VRs F ι z z':=by
 unfold un1_ at h
 split at h
 .obtain rfl:=hx.int_inv;simp only[RT.sel,zbv,zA]at h;subst h;exact⟨_,rfl,.int ..⟩
 .obtain rfl:=hx.bool_inv;simp only[RT.sel,mkB_eq,zA]at h;subst h;exact⟨_,rfl,.bool ..⟩
 .obtain rfl:=hx.int_inv;simp only[RT.sel,zbv,zA]at h;subst h;exact⟨_,rfl,.int ..⟩
 .cases h
theorem field_rel{E:Env}{s:TypeId}{x v:SV}{x':Value}{f:Nat}(hx:VRs F ι x x')(h:field1_ E s x f=some v):∃v',field_ E s x' f=some v'∧VRs F ι v v':=by
 unfold field1_ at h
 split at h
 .rename_i fs cs hu
  obtain⟨cs',rfl,hl⟩:=hx.agg_inv
  unfold field_
  rw[hu]
  split at h
  .rename_i fd hf
   simp only[hf]
   exact zds hl h
  .cases h
 .cases h
theorem fieldAddr_rel{E:Env}{s:TypeId}{x v:SV}{x':Value}{f:Nat}(hx:VRs F ι x x')(h:fieldAddr1_ E s x f=some v):∃v',zcB E s x' f=some v'∧VRs F ι v v':=by
 unfold fieldAddr1_ at h
 split at h
 .rename_i fs hu
  split at h
  .rename_i fd hf
   split at h
   .rename_i n hs
    unfold zcB
    rw[hu]
    split at h
    .rename_i id k c i o
     injection h with h;subst h
     cases hx with
     | ptr _ _ _ _ _ _ B a h1 h2 h3 h4=>
      simp only[hf,hs]
      exact⟨_,rfl,by rw[zH];exact .ptr _ _ _ _ _ _ B a h1 h2 h3 h4⟩
    .rename_i st k n e i o
     injection h with h;subst h
     cases hx with
     | fptr _ _ _ _ _ _ _ b q cs t h1 h2 h3 h4 h5 h6=>
      simp only[hf,hs]
      exact⟨_,rfl,by rw[zH];exact .fptr _ _ _ _ _ _ _ b q cs t h1 h2 h3 h4 h5 h6⟩
    .cases h
   .cases h
  .cases h
 .cases h
theorem getD_of_lcut{l:List UInt8}{q:Nat}(h:q<l.length):lcut l q 1=some [l.getD q 0]:=by
 have h1:∀(l:List UInt8) (q:Nat),q<l.length→ldrop q l=some (l.getD q 0::l.drop (q+1)):=by
  intro l q
  induction q generalizing l with
  | zero=>intro hl;cases l with|nil=>simp at hl|cons x l=>rfl
  | succ q ih=>intro hl;cases l with|nil=>simp at hl|cons x l=>simpa [ldrop]using ih l (by simpa using hl)
 unfold lcut
 rw[h1 l q h]
 rfl
theorem index_rel{E:Env}{t:TypeId}{x i v:SV}{x' i':Value}(hx:VRs F ι x x')(hi:VRs F ι i i')(h:(index1_ E t x i).sel=some v):∃v',index_ E t x' i'=some v'∧VRs F ι v v':=by
 unfold index1_ at h
 split at h
 .rename_i N e cs hu
  obtain⟨cs',rfl,hl⟩:=hx.agg_inv
  split at h
  .rename_i s hs
   obtain⟨k2,c2,c3,q,rfl,h2⟩:=zaZ h
   obtain rfl:=hi.int_inv
   unfold index_
   simp only[hu,hs]
   cases c3 with
   | true=>
    obtain⟨hq,h3⟩:=zbf h2
    rw[hq]
    exact zds hl (sel_lift h3)
   | false=>
    simp only at h2
    split at h2
    .rename_i ha
     obtain⟨hq,h3⟩:=zbf h2
     split at h3
     .rename_i l hc
      simp only[RT.sel,zA]at h3;subst h3
      obtain⟨vs,q1,q2⟩:=cut_rel hl hc
      obtain⟨g1,g2,g3⟩:=zav q1
      have hlt:q<N:=by simpa [zE]using hq
      have hex:∃y,vs[q]?=some y:=⟨vs[q]'(by omega),List.getElem?_eq_getElem _⟩
      obtain⟨y,hy⟩:=hex
      rw[hq]
      unfold part_
      rw[ha,hs]
      have hcut:lcut cs'.toArray.toList (q*1) 1=some [y]:=by
       have hy2:cs'[q]?=some y:=by rw[zaW q1 q hlt]at hy;simpa using hy
       have hd:∀(l:List Value) (q:Nat) (y:Value),l[q]?=some y→lcut l q 1=some [y]:=by
        intro l q y
        induction q generalizing l with
        | zero=>intro hl;cases l with|nil=>simp at hl|cons x l=>simp at hl;subst hl;rfl
        | succ q ih=>intro hl;cases l with|nil=>simp at hl|cons x l=>simpa [lcut,ldrop]using ih l (by simpa using hl)
       simpa using hd cs' q y hy2
      simp only[cond_true]
      rw[hcut]
      exact⟨y,rfl,pick_rel q2 hy⟩
     .cases h3
    .cases h2
  .cases h
 .rename_i c s hu
  obtain rfl:=hx.str_inv
  obtain⟨k2,c2,c3,q,rfl,h2⟩:=zaZ h
  obtain rfl:=hi.int_inv
  obtain⟨hq,h3⟩:=zbf h2
  simp only[RT.sel,zbv,zA]at h3;subst h3
  unfold index_
  simp only[hu]
  have hlt:q<s.length:=by simpa [zE]using hq
  have:lcut (⟨⟨s⟩⟩:ByteArray).data.toList q 1=some [s.getD q 0]:=getD_of_lcut hlt
  rw[this]
  exact⟨_,rfl,.int ..⟩
 .cases h
theorem mm_rel{big:Bool}:∀ {l:List SV} {l':List Value} {x v:SV} {x':Value},VRs F ι x x'→LRs F ι l l'→mm1_ big x l=some v→∃v',mm_ big x' l'=some v'∧VRs F ι v v'
 | [],l',x,v,x',hx,hl,h=>by
  rw[hl.nil_inv];unfold mm1_ at h;injection h with h;subst h;exact⟨x',by cases x'<;>rfl,hx⟩
 | y::l,l',x,v,x',hx,hl,h=>by
  obtain⟨y',l',rfl,hy,hl2⟩:=hl.cons_inv
  unfold mm1_ at h
  split at h
  .cases ‹_::_=[]›
  .rename_i k c a k' c' b l2 heq
   injection heq with e1 e2;subst e1;subst e2
   obtain rfl:=hx.int_inv
   obtain rfl:=hy.int_inv
   rw[zbv]at h
   unfold mm_
   refine mm_rel (?_:VRs F ι _ _) hl2 h
   cases big<;>exact .int ..
  .cases h
theorem casc_sel{α:Type}{q:Nat}{f:Nat→RT α}{x:α}:∀ {c j:Nat},(casc q f c j).sel=some x→j≤q∧q<j+c∧(f q).sel=some x
 | 0,j,h=>by cases h
 | c+1,j,h=>by
  unfold casc at h
  cases hb:zD q j with
  | true=>
   rw[hb]at h
   have:=zB hb
   subst this
   exact⟨zC _,by omega,h⟩
  | false=>
   rw[hb]at h
   obtain⟨h1,h2,h3⟩:=casc_sel (c:=c) (j:=j+1) h
   exact⟨by omega,by omega,h3⟩
theorem indexAddr_rel{E:Env}{shx:SH}{t:TypeId}{x i v:SV}{x' i':Value}(hx:VRs F ι x x')(hi:VRs F ι i i')(h:(indexAddr1_ E shx t x i).sel=some v):∃v',zbn E t x' i'=some v'∧VRs F ι v v':=by
 unfold indexAddr1_ at h
 split at h
 .rename_i N e id k c r o hu
  split at h
  .rename_i s hs
   obtain⟨k2,c2,c3,q,rfl,h2⟩:=zaZ h
   obtain rfl:=hi.int_inv
   cases hx with
   | ptr _ _ _ _ _ _ B a h1 h2' h3 h4=>
    unfold zbn
    simp only[hu,hs]
    cases c3 with
    | true=>
     obtain⟨hq,h5⟩:=zbf h2
     simp only[RT.sel,zA]at h5;subst h5
     rw[hq]
     exact⟨_,rfl,by rw[zH];exact .ptr _ _ _ _ _ _ B a h1 h2' h3 h4⟩
    | false=>
     simp only at h2
     split at h2
     .obtain⟨hq,h5⟩:=zbf h2
      simp only[RT.sel,zA]at h5;subst h5
      rw[hq]
      refine⟨_,rfl,?_⟩
      rw[Nat.mul_one]
      exact .aptr _ _ _ _ _ _ _ _ B a h1 h2' h3 (by simpa [zE]using hq) h4
     .cases h2
  .cases h
 .rename_i e id k c s n z hu
  split at h
  .rename_i zz hs
   cases hk:zD zz k with
   | false=>rw[hk]at h;cases h
   | true=>
    rw[hk]at h
    simp only[cond_true]at h
    obtain rfl:=zB hk
    obtain⟨k2,c2,c3,q,rfl,h2⟩:=zaZ h
    obtain rfl:=hi.int_inv
    obtain⟨hlt,cc,rfl⟩:q<n∧∃cc,v=.ptr id zz cc (s+q) 0:=by
     split at h2
     .obtain⟨_,q1,q2⟩:=casc_sel h2
      simp only[RT.sel,zA]at q2
      exact⟨by omega,_,q2.symm⟩
     .obtain⟨hq,h5⟩:=zbf h2
      simp only[RT.sel,zA]at h5
      exact⟨by simpa [zE]using hq,_,h5.symm⟩
    have hq:Nat.blt q n=true:=by simpa [zE]using hlt
    cases hx with
    | nsl _ _ _ _ _ _ _ B off cap h1 h2' h3 h4 h5 h6 h7=>
     unfold zbn
     simp only[hu,hs]
     rw[hq]
     refine⟨_,rfl,?_⟩
     have ho:off=B.o+s*zz:=by rcases h5 with h5|h5;omega;exact h5
     subst ho
     have hh:B.o+s*zz+q*zz=B.o+(s+q)*zz+0:=by rw[zF];omega
     unfold add_
     simp only
     rw[hh]
     exact .ptr _ _ _ _ _ _ B _ h1 h2' (by omega) (.inl rfl)
    | nslN=>omega
    | nslE=>omega
  .cases h
 .rename_i e id k c r o N cj j n hu
  split at h
  .rename_i hs
   obtain⟨k2,c2,c3,q,rfl,h2⟩:=zaZ h
   obtain rfl:=hi.int_inv
   obtain⟨hq,h5⟩:=zbf h2
   have hlt:q<n:=by simpa [zE]using hq
   cases hx with
   | asl _ _ _ _ _ _ _ _ _ _ B a off cap h1 h2' h3 h4 h5' h6 h7 h8=>
    unfold zbn
    simp only[hu,hs]
    rw[hq]
    refine⟨_,rfl,?_⟩
    have ho:off=B.o+r*k+o+j:=by rcases h7 with h7|h7;omega;exact h7
    subst ho
    have hat:B.at a:=by
     rcases h8 with⟨_,h8⟩|⟨h8,h9⟩
     .exact .inl h8
     .exact .inr ⟨h8,h9⟩
    unfold add_
    simp only[Nat.mul_one]
    split at h5
    .simp only[RT.sel,zA]at h5;subst h5
     have hh:B.o+r*k+o+j+q=B.o+r*k+(o+(j+q)):=by omega
     rw[hh]
     exact .ptr _ _ _ _ _ _ B _ h1 h2' h3 hat
    .simp only[RT.sel,zA]at h5;subst h5
     rw[zH _ j q]
     exact .aptr _ _ _ _ _ _ _ _ B _ h1 h2' h3 (by omega) hat
  .cases h
 .rename_i e' st k n nl e hu
  split at h
  .rename_i zz hs
   cases hk:zD zz k with
   | false=>rw[hk]at h;cases h
   | true=>
    rw[hk]at h
    simp only[cond_true]at h
    obtain rfl:=zB hk
    obtain⟨k2,c2,c3,q,rfl,h2⟩:=zaZ h
    obtain rfl:=hi.int_inv
    obtain⟨hq,h5⟩:=zbf h2
    simp only[RT.sel,zA]at h5;subst h5
    have hlt:q<n:=by simpa [zE]using hq
    cases hx with
    | fsl _ _ _ _ _ _ b o cs t cap h1 h2' h3 h4 h5 h6 h7=>
     unfold zbn
     simp only[hu,hs]
     rw[hq]
     refine⟨_,rfl,?_⟩
     unfold add_
     have hm:n*zz≤cap*zz:=zI _ h4
     have:=VRs.fptr (F:=F) ι st zz n e q 0 b o cs t h1 h2' hlt (by omega) h6 h7
     simpa using this
    | fslN=>omega
    | fslE=>omega
  .cases h
 .cases h
end
section
variable {F:Fz} {ι:Im} {sh sh':SH} {h:Hp}
theorem zaP{B:Bl}{cs:List Value}{t:TypeId}(S:zas h B cs t){a:Nat}(ha:B.at a)(off n:Nat):zaj h ⟨a,off,none⟩ n=lcut cs off n:=by
 unfold zaj
 rcases ha with rfl|⟨hx,rfl⟩
 .simp only[S.got]
 .simp only[S.view hx,S.got]
theorem loadVar_at{E:Env}{t':TypeId}{cs:List Value}{a off:Nat}(hl:∀n,zaj h ⟨a,off,none⟩ n=lcut cs off n):za8 E h t' ⟨a,off,none⟩=part_ E t' cs off:=by
 unfold za8 part_
 split<;>simp only[hl]
theorem zba{B:Bl}{cs cs':List Value}{t:TypeId}(S:zas h B cs t){a:Nat}(ha:B.at a){off:Nat}{xs:List Value}(h1:ones_ xs=true)(hp:zaz cs xs off=some cs') :
  zao h ⟨a,off,none⟩ xs=some (h.put B.b (.cells cs' t B.x false)):=by
 unfold zao
 rcases ha with rfl|⟨hx,rfl⟩
 .simp only[S.got,h1,hp]
 .simp only[S.view hx,h1,S.got,hp]
theorem za1{α:Type}:∀(n:Nat) (l xs:List α),n+xs.length≤l.length→∃r,zaz l xs n=some r
 | 0,l,xs,h=>by
  have hd:∀(l:List α) (n:Nat),n≤l.length→ldrop n l=some (l.drop n):=by
   intro l n
   induction n generalizing l with
   | zero=>intro _;rfl
   | succ n ih=>intro hn;cases l with|nil=>simp at hn|cons x l=>simp at hn;simpa [ldrop]using ih l hn
  exact⟨_,by simp only[zaz,hd l xs.length (by omega)];rfl⟩
 | n+1,[],xs,h=>by simp at h
 | n+1,x::l,xs,h=>by
  obtain⟨r,hr⟩:=za1 n l xs (by simp at h;omega)
  exact⟨x::r,by simp only[zaz,hr]⟩
theorem zbZ:∀ {a b:List Value},ones_ a=true→ones_ b=true→ones_ (a++b)=true
 | [],b,_,h=>h
 | x::a,b,h,k=>by
  unfold ones_ at h
  split at h
  .rename_i hx;simp only[List.cons_append];unfold ones_;rw[hx];exact zbZ h k
  .cases h
theorem ones_mem{l:List Value}:ones_ l=true↔∀v∈l,one_ v=true:=by
 induction l with
 | nil=>simp[ones_]
 | cons x l ih=>
  unfold ones_
  cases hx:one_ x<;>simp[hx,ih]
theorem zca{l r:List Value}(h:ones_ l=true)(hs:∀v∈r,v∈l):ones_ r=true:=ones_mem.2 fun v hv=>ones_mem.1 h v (hs v hv)
theorem zby{l xs r:List Value}{n:Nat}(h:ones_ l=true)(hx:ones_ xs=true)(hp:zaz l xs n=some r):ones_ r=true:=by
 obtain⟨_,rfl⟩:=zbk hp
 exact zbZ (zbZ (zca h fun v hv=>List.mem_of_mem_take hv) hx) (zca h fun v hv=>List.mem_of_mem_drop hv)
theorem nth_rel{cs:List Value}{k:Nat}:∀ {l:List (List SV)} {p i:Nat},(∀j r,l[j]?=some r→RowR F ι cs (p+j*k) k r)→i<l.length→RowR F ι cs (p+i*k) k (nthRow k l i)
 | [],p,i,h,hi=>by simp at hi
 | [r],p,i,h,hi=>by
  have:i=0:=by simpa using hi
  subst this
  exact h 0 r rfl
 | r::r2::l,p,i,h,hi=>by
  unfold nthRow
  refine RowR.mux (fun e=>?_) (fun e=>?_)
  .obtain rfl:=zB e
   exact h 0 r rfl
  .cases i with
   | zero=>cases e
   | succ i=>
    have:=nth_rel (l:=r2::l) (p:=p+k) (i:=i) (fun j r' hj=>by
     have:=h (j+1) r' (by simpa using hj)
     rw[zF]at this
     rw[show p+k+j*k=p+(j*k+1*k) by omega];exact this) (by simpa using hi)
    rw[zF,show p+(i*k+1*k)=p+k+i*k by omega]
    exact this
theorem block_row(H:HRs F ι sh h){id k i:Nat}{c:Bool}{B:Bl}{b:SB}{r:List SV}(hi:ι id=some B)(hk:B.k=k)(hm:i<B.m)(hb:sh.get id=some b)(hr:rowAt b c i=some r) :
  ∃cs t,zas h B cs t∧RowR F ι cs (B.o+i*k) k r:=by
 have:=H.ok id b hb
 unfold rowAt at hr
 split at hr
 .split at hr
  .obtain⟨B',cs,q1,q2,q3,q4,q5⟩:=this
   rw[hi]at q1;injection q1 with q1;subst q1
   subst hk;rw[←q2]at q5
   exact⟨cs,_,q4,q5 i r hr⟩
  .injection hr with hr;subst hr
   obtain⟨B',cs,q1,q2,q3,q4,q5⟩:=this
   rw[hi]at q1;injection q1 with q1;subst q1
   subst hk;rw[←q2]at q5 ⊢
   exact⟨cs,_,q4,nth_rel q5 (by omega)⟩
 .injection hr with hr;subst hr
  rcases this with⟨_,q⟩|⟨B',cs,q1,q2,q3,q4,q5⟩
  .rw[hi]at q;cases q
  .rw[hi]at q1;injection q1 with q1;subst q1
   subst hk;rw[←q2]at q5
   exact⟨cs,_,q4,(q5 i (by omega)).mono (Fz.le.refl _) (Im0.le _)⟩
 .cases hr
theorem Bl.row_in{B:Bl}{cs:List Value}{t:TypeId}(S:zas h B cs t){i:Nat}(hm:i<B.m):B.o+i*B.k+B.k≤cs.length:=by
 have h1:(i+1)*B.k≤B.m*B.k:=zI _ hm
 rw[zF]at h1
 have:=S.fit
 rw[S.len];omega
theorem load_rel{E:Env}{t:TypeId}{p v:SV}{p':Value}(H:HRs F ι sh h)(hp:VRs F ι p p')(hl:load1_ E sh t p=some v) :
  ∃a v',addr_ p'=some a∧za8 E h t a=some v'∧VRs F ι v v':=by
 unfold load1_ at hl
 split at hl
 .rename_i id k c i o
  split at hl
  .rename_i b hb
   split at hl
   .rename_i r hr
    cases hp with
    | ptr _ _ _ _ _ _ B a h1 h2 h3 h4=>
     obtain⟨cs,t',S,R⟩:=block_row H h1 h2 h3 hb hr
     subst h2
     obtain⟨v',q1,q2⟩:=part_row R (Bl.row_in S h3) hl
     exact⟨_,v',rfl,by rw[loadVar_at (zaP S h4 _)];exact q1,q2⟩
   .cases hl
  .cases hl
 .rename_i st k n e i o
  cases hp with
  | fptr _ _ _ _ _ _ _ b q cs t' h1 h2 h3 h4 h5 h6=>
   obtain⟨f1,f2,f3,e',x',ro,f4⟩:=H.frz b cs t' h1
   have hlen:q+i*k+k≤cs.length:=by
    have:(i+1)*k≤n*k:=zI _ h3
    rw[zF]at this;omega
   obtain⟨v',q1,q2⟩:=part_row (ι:=Im0) (p:=q+i*k) (k:=k) ⟨h5 i h3,fun j x y a b=>h6 i j x y h3 a b⟩ hlen hl
   refine⟨_,v',rfl,?_,q2.up (Im0.le _)⟩
   rw[loadVar_at (cs:=cs) fun n=>by unfold zaj;simp only[f4]]
   exact q1
 .rename_i id k c i o N j
  split at hl
  .rename_i b hb ha
   split at hl
   .rename_i r hr
    split at hl
    .rename_i l hc
     injection hl with hl;subst hl
     cases hp with
     | aptr _ _ _ _ _ _ _ _ B a h1 h2 h3 h4 h5=>
      obtain⟨cs,t',S,R⟩:=block_row H h1 h2 h3 hb hr
      subst h2
      obtain⟨vs,q1,q2⟩:=R.cut hc (Bl.row_in S h3)
      obtain⟨g1,g2,g3⟩:=zav q1
      have hy:vs[j]?=some (vs[j]'(by omega)):=List.getElem?_eq_getElem _
      refine⟨_,_,rfl,?_,pick_rel q2 hy⟩
      rw[loadVar_at (zaP S h5 _)]
      unfold part_
      rw[ha]
      have hy2:cs[B.o+i*B.k+o+j]?=some (vs[j]'(by omega)):=by rw[←zaW q1 j h4];exact hy
      have hd:∀(l:List Value) (q:Nat) (y:Value),l[q]?=some y→lcut l q 1=some [y]:=by
       intro l q y
       induction q generalizing l with
       | zero=>intro hl;cases l with|nil=>simp at hl|cons x l=>simp at hl;subst hl;rfl
       | succ q ih=>intro hl;cases l with|nil=>simp at hl|cons x l=>simpa [lcut,ldrop]using ih l (by simpa using hl)
      rw[hd _ _ _ hy2]
    .cases hl
   .cases hl
  .cases hl
 .cases hl
theorem zdk(H:HRs F ι sh h){id k i:Nat}{c:Bool}{f:List SV→Option (List SV)}(hs:zcV sh id k c i f=some sh'){B:Bl}(hi:ι id=some B)(hk:B.k=k)(hm:i<B.m){cs cs':List Value}{t:TypeId}(S:zas h B cs t)
  (h1:ones_ cs'=true) (hlen:cs'.length=cs.length) (hout:∀q,q<B.o+i*k∨B.o+i*k+k≤q→cs'[q]?=cs[q]?)
  (hf:∀r,r.length=k→(∃k' n e t',sh.get id=some (.row k' n e t'))→∃r',f r=some r')
  (hrow:∀r r',RowR F ι cs (B.o+i*k) k r→f r=some r'→RowR F ι cs' (B.o+i*k) k r')
  (hrow0:(∃k' n e t',sh.get id=some (.row k' n e t'))→∀r r',RowR F Im0 cs (B.o+i*k) k r→f r=some r'→RowR F Im0 cs' (B.o+i*k) k r') :
  HRs F ι sh' (h.put B.b (.cells cs' t B.x false))∧Stp F ι sh h F ι sh' (h.put B.b (.cells cs' t B.x false)):=by
 have hb8:B.b<9223372036854775808:=by have:=H.most;have:=S.lt;omega
 have hg:∀j,(h.put B.b (.cells cs' t B.x false)).get j=if j=B.b then some (.cells cs' t B.x false)else h.get j:=fun j=>Hp.get_put hb8
 have S':zas (h.put B.b (.cells cs' t B.x false)) B cs' t:=by
  refine⟨by rw[hg,if_pos rfl],by rw[hlen];exact S.len,h1,S.fit,fun e=>?_,by rw[Hp.put_next];exact S.lt,fun e=>by rw[Hp.put_next];exact S.vlt e⟩
  rw[hg,if_neg (by omega)];exact S.view e
 have hother:∀ {ι0:Im} {j:Nat} {r:List SV},j≠i→RowR F ι0 cs (B.o+j*k) k r→RowR F ι0 cs' (B.o+j*k) k r:=by
  intro ι0 j r hne R
  refine⟨R.1,fun q x y hx hy=>R.2 q x y hx ?_⟩
  have hq:q<k:=by have:=(List.getElem?_eq_some_iff.1 hx).1;rw[R.1]at this;exact this
  rw[←hout _ ?_];exact hy
  rcases Nat.lt_or_gt_of_ne hne with hlt|hgt
  .left
   have:(j+1)*k≤i*k:=zI _ hlt
   rw[zF]at this;omega
  .right
   have:(i+1)*k≤j*k:=zI _ hgt
   rw[zF]at this;omega
 unfold zcV at hs
 split at hs
 .rename_i k' rows t' hget
  split at hs
  .rename_i r hr hkk
   obtain rfl:=zB hkk
   split at hs
   .rename_i r' hr'
    split at hs
    .rename_i rows' hrows
     injection hs with hs;subst hs
     obtain⟨e1,e2⟩:=lset_some hrows
     obtain⟨B',cs2,q1,q2,q3,q4,q5⟩:=H.ok id _ hget
     rw[hi]at q1;injection q1 with q1;subst q1
     have hcs:=S.got;rw[q4.got]at hcs;injection hcs with hcs;injection hcs with c1 c2;subst c1;subst c2
     refine HRs.put H ⟨_,hget,by intro e;cases e⟩ hi S.lt (fun v e=>by rw[S.got]at e;cases e) ?_
     refine⟨B,cs',hi,hk,by rw[q3,e2,zJ],S',fun j rr hj=>?_⟩
     rw[e2,List.getElem?_set]at hj
     split at hj
     .rename_i e;subst e
      injection hj with hj;subst hj
      exact hrow r r' (q5 _ r hr) hr'
     .rename_i e
      exact hother (fun e2=>e e2.symm) (q5 j rr hj)
    .cases hs
   .cases hs
  .cases hs
 .rename_i k' n e t' hget
  split at hs
  .rename_i hkk
   obtain rfl:=zB hkk
   injection hs with hs;subst hs
   rcases H.ok id _ hget with⟨_,q⟩|⟨B',cs2,q1,q2,q3,q4,q5⟩
   .rw[hi]at q;cases q
   .rw[hi]at q1;injection q1 with q1;subst q1
    have hcs:=S.got;rw[q4.got]at hcs;injection hcs with hcs;injection hcs with c1 c2;subst c1;subst c2
    refine HRs.put H ⟨_,hget,by intro e;cases e⟩ hi S.lt (fun v e=>by rw[S.got]at e;cases e) ?_
    refine .inr ⟨B,cs',hi,hk,q3,S',fun j hj=>?_⟩
    have Rj:=q5 j hj
    obtain⟨r',hr'⟩:=hf (e j) Rj.1 ⟨_,_,_,_,hget⟩
    simp only[hr']
    refine RowR.mux (fun e2=>?_) (fun e2=>?_)
    .obtain rfl:=zB e2
     exact hrow0 ⟨_,_,_,_,hget⟩ _ _ Rj hr'
    .exact hother (fun e3=>by rw[e3]at e2;simp at e2) Rj
  .cases hs
 .cases hs
theorem frees_rel{l:List SV}{vs:List Value}{ι':Im}(hx:LRs F ι l vs)(hf:zbO l=true):LRs F ι' l vs:=by
 refine⟨hx.1,fun i x y a b=>(hx.2 i x y a b).free ?_⟩
 have:∀ {l:List SV},zbO l=true→∀x∈l,free_ x=true:=by
  intro l
  induction l with
  | nil=>intro _ x hx;simp at hx
  | cons z l ih=>
   intro h x hx
   unfold zbO at h
   split at h
   .rename_i hz
    rcases List.mem_cons.1 hx with rfl|hx
    .exact hz
    .exact ih h x hx
   .cases h
 exact this hf x (List.mem_of_getElem? a)
theorem store_rel{E:Env}{t:TypeId}{p x:SV}{p' x':Value}(H:HRs F ι sh h)(hp:VRs F ι p p')(hx:VRs F ι x x')(hs:store1_ E sh t p x=some sh') :
  ∃a n h',addr_ p'=some a∧E.size t=some n∧zD x'.cells.toList.length n=true∧isAny x'=false∧zao h a x'.cells.toList=some h'∧HRs F ι sh' h'∧Stp F ι sh h F ι sh' h':=by
 unfold store1_ at hs
 simp only at hs
 split at hs
 .rename_i n hn
  cases hc:(zD x.cells.length n&&zc0 x.cells)with
  | false=>rw[hc]at hs;cases hs
  | true=>
   rw[hc]at hs
   simp only[cond_true]at hs
   rw[zL]at hc
   obtain⟨L,o1,o2⟩:=cells_rel hx hc.2
   have hlen:=zB hc.1
   have hbl:zD x'.cells.toList.length n=true:=by rw[←L.1,hlen];simp
   split at hs
   .rename_i id k c i o
    cases hp with
    | ptr _ _ _ _ _ _ B a h1 h2 h3 h4=>
     have key:∀cs t',zas h B cs t'→o+x.cells.length≤k→(∀r,r.length=k→(∃k' n e t',sh.get id=some (.row k' n e t'))→∃r',zaz r x.cells o=some r')→
       ((∃k' n e t',sh.get id=some (.row k' n e t'))→zbO x.cells=true)→zcV sh id k c i (fun r=>zaz r x.cells o)=some sh'→
       ∃h',zao h ⟨a,B.o+i*k+o,none⟩ x'.cells.toList=some h'∧HRs F ι sh' h'∧Stp F ι sh h F ι sh' h':=by
      intro cs t' S hle hf hfr hset
      have hin:=Bl.row_in S h3
      rw[h2]at hin
      obtain⟨cs',hcs'⟩:=za1 (B.o+i*k+o) cs x'.cells.toList (by rw[←L.1];omega)
      refine⟨_,zba S h4 o1 hcs',?_⟩
      refine zdk H hset h1 h2 h3 S (zby S.one o1 hcs') (zaB hcs') (fun q hq=>?_) hf (fun r r' R e=>R.put L e hcs') (fun hex r r' R e=>R.put (frees_rel L (hfr hex)) e hcs')
      rw[zax hcs' q,if_neg (by rw[←L.1];omega)]
     split at hs
     .rename_i k' rows t' hget
      obtain⟨B',cs,q1,q2,q3,q4,q5⟩:=H.ok id _ hget
      rw[h1]at q1;injection q1 with q1;subst q1
      have hle:o+x.cells.length≤k:=by
       have hs2:=hs
       unfold zcV at hs2
       rw[hget]at hs2
       simp only at hs2
       split at hs2
       .rename_i r hr hkk
        split at hs2
        .rename_i r' hr'
         have:=(zbk hr').1
         rw[(q5 i r hr).1,←zB hkk]at this
         exact this
        .cases hs2
       .cases hs2
      obtain⟨h',g1,g2⟩:=key cs t' q4 hle (fun r hr hex=>za1 _ _ _ (by omega)) (fun hex=>by obtain⟨_,_,_,_,e⟩:=hex;rw[hget]at e;cases e) hs
      exact⟨_,n,h',rfl,hn,hbl,o2,g1,g2⟩
     .rename_i k' m e t' hget
      cases hq:(Nat.ble (o+x.cells.length) k&&zbO x.cells)with
      | false=>rw[hq]at hs;cases hs
      | true=>
       rw[hq]at hs
       simp only[cond_true]at hs
       rw[zL]at hq
       have hle:o+x.cells.length≤k:=zM hq.1
       rcases H.ok id _ hget with⟨_,q⟩|⟨B',cs,q1,q2,q3,q4,q5⟩
       .rw[h1]at q;cases q
       .rw[h1]at q1;injection q1 with q1;subst q1
        obtain⟨h',g1,g2⟩:=key cs t' q4 hle (fun r hr hex=>za1 _ _ _ (by omega)) (fun _=>hq.2) hs
        exact⟨_,n,h',rfl,hn,hbl,o2,g1,g2⟩
     .cases hs
   .rename_i id k c i o N j
    cases hp with
    | aptr _ _ _ _ _ _ _ _ B a h1 h2 h3 h4 h5=>
     have key:∀(y:SV) (cs:List Value) (t':TypeId),x.cells=[y]→zas h B cs t'→o+N≤k→((∃k' n e t',sh.get id=some (.row k' n e t'))→free_ y=true)→
       zcV sh id k c i (fun r=>match lcut r o N with|some l=>zaz r (poke_ l 0 j y) o|none=>none)=some sh'→
       ∃h',zao h ⟨a,B.o+i*k+o+j,none⟩ x'.cells.toList=some h'∧HRs F ι sh' h'∧Stp F ι sh h F ι sh' h':=by
      intro y cs t' hy S hle hfr hset
      rw[hy]at L
      obtain⟨v,l',hv,hv1,hv2⟩:=L.cons_inv
      rw[hv2.nil_inv]at hv
      have hin:=Bl.row_in S h3
      rw[h2]at hin
      obtain⟨cs',hcs'⟩:=za1 (B.o+i*k+o+j) cs x'.cells.toList (by rw[hv];simp;omega)
      have hcs2:=hcs'
      rw[hv]at hcs2
      refine⟨_,zba S h5 o1 hcs',?_⟩
      have hrow:∀ {ι0:Im},VRs F ι0 y v→∀r r',RowR F ι0 cs (B.o+i*k) k r→(match lcut r o N with|some l=>zaz r (poke_ l 0 j y) o|none=>none)=some r'→RowR F ι0 cs' (B.o+i*k) k r':=by
       intro ι0 hv0 r r' R e
       split at e
       .rename_i l hl
        obtain⟨vs,q1,q2⟩:=R.cut hl (by omega)
        obtain⟨g1,g2,g3⟩:=zav q1
        have hpk:=poke_rel (j:=j) q2 hv0
        refine R.put hpk e ?_
        obtain⟨r2,hr2⟩:=za1 (B.o+i*k+o) cs (vs.set j v) (by rw[zJ];omega)
        rw[hr2]
        congr 1
        apply List.ext_getElem?
        intro q
        rw[zax hr2 q,zax hcs2 q]
        simp only[zJ,List.length_cons,List.length_nil]
        by_cases hq:B.o+i*k+o≤q∧q<B.o+i*k+o+vs.length
        .rw[if_pos hq,List.getElem?_set]
         by_cases hj:j=q-(B.o+i*k+o)
         .rw[if_pos hj,if_pos (by omega),if_pos (by omega)]
          rw[show q-(B.o+i*k+o+j)=0 by omega];rfl
         .rw[if_neg hj,if_neg (by omega),zaW q1 _ (by omega)]
          congr 1;omega
        .rw[if_neg hq,if_neg (by omega)]
       .cases e
      refine zdk H hset h1 h2 h3 S (zby S.one o1 hcs') (zaB hcs') (fun q hq=>?_) (fun r hr _=>?_) (hrow hv1) (fun hex=>hrow (hv1.free (hfr hex)))
      .rw[zax hcs' q,if_neg (by rw[hv];simp;omega)]
      .have hlc:∃l,lcut r o N=some l:=by
        have hd:∀(l:List SV) (n:Nat),n≤l.length→ldrop n l=some (l.drop n):=by
         intro l n
         induction n generalizing l with
         | zero=>intro _;rfl
         | succ n ih=>intro hn;cases l with|nil=>simp at hn|cons x l=>simp at hn;simpa [ldrop]using ih l hn
        have ht:∀(l:List SV) (n:Nat),n≤l.length→ltake n l=some (l.take n):=by
         intro l n
         induction n generalizing l with
         | zero=>intro _;simp[ltake]
         | succ n ih=>intro hn;cases l with|nil=>simp at hn|cons x l=>simp at hn;simp[ltake,ih l hn]
        exact⟨(r.drop o).take N,by unfold lcut;rw[hd r o (by omega)];exact ht _ _ (by simp;omega)⟩
       obtain⟨l,hl⟩:=hlc
       simp only[hl]
       exact za1 _ _ _ (by rw[poke_len,(zav hl).2.2];omega)
     split at hs
     .rename_i y k' rows t' hy hget
      cases hq:Nat.ble (o+N) k with
      | false=>rw[hq]at hs;cases hs
      | true=>
       rw[hq]at hs
       simp only[cond_true]at hs
       obtain⟨B',cs,q1,q2,q3,q4,q5⟩:=H.ok id _ hget
       rw[h1]at q1;injection q1 with q1;subst q1
       obtain⟨h',g1,g2⟩:=key y cs t' hy q4 (zM hq) (fun hex=>by obtain⟨_,_,_,_,e⟩:=hex;rw[hget]at e;cases e) hs
       exact⟨_,n,h',rfl,hn,hbl,o2,g1,g2⟩
     .rename_i y k' m e t' hy hget
      cases hq:(Nat.ble (o+N) k&&free_ y)with
      | false=>rw[hq]at hs;cases hs
      | true=>
       rw[hq]at hs
       simp only[cond_true]at hs
       rw[zL]at hq
       rcases H.ok id _ hget with⟨_,q⟩|⟨B',cs,q1,q2,q3,q4,q5⟩
       .rw[h1]at q;cases q
       .rw[h1]at q1;injection q1 with q1;subst q1
        obtain⟨h',g1,g2⟩:=key y cs t' hy q4 (zM hq.1) (fun _=>hq.2) hs
        exact⟨_,n,h',rfl,hn,hbl,o2,g1,g2⟩
     .cases hs
   .cases hs
 .cases hs
end
end Go.Proofs.YtponjccgpbgnoaaGreatDoor.Se
