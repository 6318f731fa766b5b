/- Files' contents, images, stores, as plain data; no program in sight. -/
import Derived.Test.YtponjccgpbgnoaaGreatDoorV
import Derived.Test.YtponjccgpbgnoaaGreatDoorSpD
import Derived.Lib.Bytealg
set_option linter.unusedVariables false
set_option linter.unusedSimpArgs false
set_option linter.unusedSectionVars false
open Bool renaming and_eq_true→zA,not_eq_true'→zD,eq_false_iff→zP
open Int renaming ofNat→zB,ofNat_eq_natCast→zO
open List renaming getElem_mem→zC,getD→zE,pairwise_cons→zF,getElem_drop→zH,length_take→zI,getElem_take→zJ,length_drop→zK,mem_append→zL,take_append_drop→zM,getElem_set→zN,mem_cons→zQ,drop_sublist→zR,pairwise_iff_getElem→zS,getElem_cons_succ→zT,pairwise_append→zU,take_sublist→zV,mem_of_mem_take→zW,mem_of_mem_drop→zY,mem_or_eq_of_mem_set→zZ,mem_iff_getElem→yA
open Nat renaming blt→zG
namespace Go.Proofs.YtponjccgpbgnoaaGreatDoor.Se
open Go Go.Proofs.YtponjccgpbgnoaaGreatDoor
set_option maxRecDepth 20000
def lowG{α:Type}(p:α→Bool):List α→Nat
 | []=>0
 | x::l=>(match p x with|true=>lowG p l+1|false=>0)
def Mono{α:Type}(p:α→Bool)(l:List α):Prop:=∀(i j:Nat) (hi:i<l.length) (hj:j<l.length),i<j→p l[j]=true→p l[i]=true
theorem zc3{α:Type}{p:α→Bool}:∀ {l:List α},lowG p l≤l.length
 | []=>Nat.le_refl _
 | x::l=>by
  unfold lowG
  split
  .have:=zc3 (p:=p) (l:=l);simp;omega
  .simp
theorem zbA{α:Type}{p:α→Bool}:∀ {l:List α} {i:Nat} (h:i<l.length),i<lowG p l→p l[i]=true
 | [],i,h,_=>by simp at h
 | x::l,i,h,hi=>by
  unfold lowG at hi
  split at hi
  .rename_i hx
   cases i with
   | zero=>simpa using hx
   | succ i=>simpa using zbA (l:=l) (by simpa using h) (by omega)
  .omega
theorem zc4{α:Type}{p:α→Bool}:∀ {l:List α} (h:lowG p l<l.length),p l[lowG p l]=false
 | [],h=>by simp at h
 | x::l,h=>by
  cases hd:p x with
  | true=>
   have e:lowG p (x::l)=lowG p l+1:=by
    show(match p x with|true=>lowG p l+1|false=>0)=_
    rw[hd]
   have:=zc4 (p:=p) (l:=l) (by rw[e]at h;simpa using h)
   simpa only[e,zT]using this
  | false=>
   have e:lowG p (x::l)=0:=by
    show(match p x with|true=>lowG p l+1|false=>0)=_
    rw[hd]
   simp only[e,List.getElem_cons_zero]
   exact hd
theorem zcy{α:Type}{p:α→Bool}{l:List α}{i:Nat}(h:i<l.length)(hn:p l[i]=false):lowG p l≤i:=by
 by_cases q:lowG p l≤i
 .exact q
 .have:=zbA (p:=p) h (by omega)
  rw[hn]at this;cases this
theorem zdt{α:Type}{p:α→Bool}{l:List α}(hm:Mono p l){i:Nat}(h:i<l.length)(hn:p l[i]=true):i<lowG p l:=by
 by_cases q:i<lowG p l
 .exact q
 .exfalso
  have hl:lowG p l<l.length:=by omega
  have h1:=zc4 hl
  by_cases e:lowG p l=i
  .subst e;rw[hn]at h1;cases h1
  .have:=hm (lowG p l) i hl h (by omega) hn
   rw[this]at h1;cases h1
def insA{α:Type}(l:List α)(i:Nat)(x:α):List α:=l.take i++x::l.drop i
theorem insA_len{α:Type}{l:List α}{i:Nat}{x:α}(h:i≤l.length):(insA l i x).length=l.length+1:=by simp[insA];omega
theorem insA_end{α:Type}{l:List α}{x:α}:insA l l.length x=l++[x]:=by simp[insA]
theorem insA_get{α:Type}{l:List α}{i:Nat}{x d:α}(h:i≤l.length)(j:Nat):(insA l i x).getD j d=if j<i then l.getD j d else if j=i then x else l.getD (j-1) d:=by
 unfold insA
 by_cases h1:j<i
 .rw[if_pos h1]
  simp[zE,List.getElem?_append_left (show j<(l.take i).length by simp;omega),List.getElem?_take,h1]
 .rw[if_neg h1]
  have hl:(l.take i).length=i:=by simp;omega
  simp only[zE]
  rw[List.getElem?_append_right (by omega),hl]
  by_cases h2:j=i
  .rw[if_pos h2];subst h2;simp
  .rw[if_neg h2]
   obtain⟨m,hm⟩:∃m,j-i=m+1:=⟨j-i-1,by omega⟩
   rw[hm,List.getElem?_cons_succ,List.getElem?_drop]
   congr 2
   omega
def delA{α:Type}(l:List α)(i:Nat):List α:=l.take i++l.drop (i+1)
def clB(size:Int)(b:UInt8)(at_:Int):Bool:=cl_ size (.ofNat b.toNat) at_
def cleanX(x:Xt)(size:Int):Bool:=
 decide (0≤x.no)&&(decide (x.no≤1099511627776)&&(clB size x.b0 (x.no*8)&&(clB size x.b1 (x.no*8+1)&&(clB size x.b2 (x.no*8+2)&&(clB size x.b3 (x.no*8+3)&&(clB size x.b4 (x.no*8+4)&&(clB size x.b5 (x.no*8+5)&&(clB size x.b6 (x.no*8+6)&&clB size x.b7 (x.no*8+7)))))))))
def mayL(size:Int):Int→List Xt→Bool
 | _,[]=>true
 | last,x::l=>!(decide (x.no≤last))&&(!(decide (x.no≥137438953472))&&(cleanX x size&&mayL size x.no l))
def mayC(size:Int)(l:List Xt):Bool:=!(decide (size<0))&&(!(decide (size>1099511627776))&&mayL size (-1) l)
def srtL:Int→List Xt→Bool
 | _,[]=>true
 | last,x::l=>!(decide (x.no≤last))&&srtL x.no l
theorem srt_lt:∀ {l:List Xt} {last:Int},srtL last l=true→∀ {i:Nat} (h:i<l.length),last<l[i].no
 | [],_,_,i,h=>by simp at h
 | x::l,last,hs,i,h=>by
  simp only[srtL,zA,zD,decide_eq_false_iff_not]at hs
  cases i with
  | zero=>simp;omega
  | succ i=>
   have:=srt_lt hs.2 (i:=i) (by simpa using h)
   simp only[zT]
   omega
theorem srt_two:∀ {l:List Xt} {last:Int},srtL last l=true→∀ {i j:Nat} (hij:i<j) (h:j<l.length),l[i].no<l[j].no
 | [],_,_,i,j,_,h=>by simp at h
 | x::l,last,hs,i,j,hij,h=>by
  simp only[srtL,zA,zD,decide_eq_false_iff_not]at hs
  cases j with
  | zero=>omega
  | succ j=>
   cases i with
   | zero=>exact srt_lt hs.2 (by simpa using h)
   | succ i=>simpa using srt_two hs.2 (i:=i) (j:=j) (by omega) (by simpa using h)
abbrev belX(t:Int)(x:Xt):Bool:=decide (x.no<t)
def lowB(l:List Xt)(t:Int):Nat:=lowG (belX t) l
theorem bel_mono{l:List Xt}{last t:Int}(h:srtL last l=true):Mono (belX t) l:=fun i j hi hj hij hp=>by
 have:=srt_two h hij hj
 simp only[belX,decide_eq_true_eq]at hp ⊢
 omega
theorem lowB_le{l:List Xt}{t:Int}:lowB l t≤l.length:=zc3
theorem lowB_le_of{l:List Xt}{last t:Int}(hs:srtL last l=true){i:Nat}(h:i<l.length)(hn:¬l[i].no<t):lowB l t≤i:=zcy h (decide_eq_false hn)
theorem lowB_gt_of{l:List Xt}{last t:Int}(hs:srtL last l=true){i:Nat}(h:i<l.length)(hn:l[i].no<t):i<lowB l t:=zdt (bel_mono hs) h (decide_eq_true hn)
def zbr(l:List Xt)(t:Int):Bool:=zG (lowB l t) l.length&&(!(decide ((l.getD (lowB l t) xt0).no<t))&&!(decide ((l.getD (lowB l t) xt0).no>t)))
def xtN(no:Int):Xt:=⟨no,0,0,0,0,0,0,0,0⟩
def needX(l:List Xt)(no:Int):List Xt:=match zbr l no with|true=>l|false=>insA l (lowB l no) (xtN no)
def pb_(off m q:Nat)(src:List UInt8)(x:UInt8):UInt8:=bif Nat.ble off q&&zG q (off+m)then src.getD (q-off) 0 else x
def putX(x:Xt)(off:Nat)(src:List UInt8):Xt:=⟨x.no,pb_ off src.length 0 src x.b0,pb_ off src.length 1 src x.b1,pb_ off src.length 2 src x.b2,pb_ off src.length 3 src x.b3,pb_ off src.length 4 src x.b4,pb_ off src.length 5 src x.b5,pb_ off src.length 6 src x.b6,pb_ off src.length 7 src x.b7⟩
def zbN(l:List Xt)(p:Nat)(src:List UInt8):List Xt:=
 (needX l (.ofNat (p / 8))).set (lowB l (.ofNat (p / 8))) (putX ((needX l (.ofNat (p / 8))).getD (lowB l (.ofNat (p / 8))) xt0) (p % 8) src)
def wb_(from_ to_ at_:Int)(x:UInt8):UInt8:=bif decide (from_≤at_)&&decide (at_<to_)then 0 else x
def wipeX(from_ to_:Int)(x:Xt):Xt:=⟨x.no,wb_ from_ to_ (x.no*8) x.b0,wb_ from_ to_ (x.no*8+1) x.b1,wb_ from_ to_ (x.no*8+2) x.b2,wb_ from_ to_ (x.no*8+3) x.b3,wb_ from_ to_ (x.no*8+4) x.b4,wb_ from_ to_ (x.no*8+5) x.b5,wb_ from_ to_ (x.no*8+6) x.b6,wb_ from_ to_ (x.no*8+7) x.b7⟩
def zcT(l:List Xt)(size:Int):List Xt:=(l.filter fun x=>decide (x.no*8<size)).map (wipeX size 1099511627776)
def zdE(l:List Xt)(pos n:Int):List Xt:=(l.filter fun x=>!(decide (pos≤x.no*8)&&decide (x.no*8+8≤pos+n))).map (wipeX pos (pos+n))
def zbi(l:List Xt):Int→Nat→List Xt
 | _,0=>l
 | no,n+1=>zbi (needX l no) (no+1) n
noncomputable def tt(p:Prop):Bool:=@decide p (Classical.propDecidable p)
theorem tt_t{p:Prop}(h:p):tt p=true:=by unfold tt;exact @decide_eq_true p (Classical.propDecidable p) h
theorem of_tt{p:Prop}(h:tt p=true):p:=by unfold tt at h;exact @of_decide_eq_true p (Classical.propDecidable p) h
structure Img where
 names:List Nm
 nodes:List Nd
structure MayN(l:List Nm):Prop where
 few:l.length≤16
 ok:∀x∈l,zbJ x.s=true
 rise:l.Pairwise fun a b=>Op.bytesLess a.s b.s=true
 ino:∀x∈l,1≤x.ino∧x.ino≤4611686018427387904
 apart:l.Pairwise fun a b=>a.ino≠b.ino
structure MayI(I:Img):Prop where
 names:MayN I.names
 len:I.nodes.length=I.names.length
 rise:I.nodes.Pairwise fun a b=>a.ino<b.ino
 has:∀x∈I.nodes,∃y∈I.names,y.ino=x.ino
 all:∀y∈I.names,∃x∈I.nodes,x.ino=y.ino
 ok:∀x∈I.nodes,mayC x.size x.l=true
abbrev ltN(s:List UInt8)(x:Nm):Bool:=decide (Lib.compareBytes x.s s<0)
def lowS(l:List Nm)(s:List UInt8):Nat:=lowG (ltN s) l
def hasS(l:List Nm)(s:List UInt8):Bool:=zG (lowS l s) l.length&&decide (Lib.compareBytes (l.getD (lowS l s) nm0).s s=0)
abbrev ltI(ino:Int)(x:Nd):Bool:=decide (x.ino<ino)
def lowI(l:List Nd)(ino:Int):Nat:=lowG (ltI ino) l
def hasI(l:List Nd)(ino:Int):Bool:=zG (lowI l ino) l.length&&(!(decide ((l.getD (lowI l ino) nd0).ino<ino))&&!(decide ((l.getD (lowI l ino) nd0).ino>ino)))
def findS(I:Img)(s:List UInt8):Int×Bool:=match hasS I.names s with|true=>((I.names.getD (lowS I.names s) nm0).ino,true)|false=>(0,false)
def contI(I:Img)(ino:Int):Int×List Xt:=match hasI I.nodes ino with|true=>((I.nodes.getD (lowI I.nodes ino) nd0).size,(I.nodes.getD (lowI I.nodes ino) nd0).l)|false=>(0,[])
def usedI(l:List Nd):Nat:=l.foldl (fun n x=>n+x.l.length) 0
def createI(I:Img)(name:List UInt8)(ino:Int):Img:=
 match hasS I.names name || (hasI I.nodes ino || (!(zbJ name) || (decide (ino<1) || (decide (ino>4611686018427387904) || Nat.ble 16 I.names.length))))with
 | true=>I
 | false=>⟨insA I.names (lowS I.names name) ⟨name,ino⟩,insA I.nodes (lowI I.nodes ino) ⟨ino,0,[]⟩⟩
def setI(I:Img)(ino size:Int)(l:List Xt):Img:=⟨I.names,I.nodes.set (lowI I.nodes ino) ⟨(I.nodes.getD (lowI I.nodes ino) nd0).ino,size,l⟩⟩
def zbs(o:Opn)(size:Int)(l:List Xt):Option (Int×List Xt):=
 match mayC size l with
 | false=>none
 | true=>(match decide (o.kind=2)with
  | true=>(match decide (0≤o.pos)&&(decide ((o.b.length:Int)≤4096)&&decide (o.pos≤1099511627776-o.b.length))with
   | true=>some (max size (o.pos+o.b.length),zbN l o.pos.toNat o.b)
   | false=>none)
  | false=>(match decide (o.kind=3)with
   | true=>(match decide (0≤o.size)&&decide (o.size≤1099511627776)with
    | true=>some (o.size,zcT l o.size)
    | false=>none)
   | false=>(match decide (0≤o.pos)&&(decide (1≤o.size)&&(decide (o.size≤1099511627776)&&decide (o.pos≤1099511627776-o.size)))with
    | true=>(match decide (o.kind=4)with
     | true=>(match decide (o.size≤32768)with
      | true=>some (bif o.keep then size else max size (o.pos+o.size),zbi l (o.pos / 8) (((o.pos+o.size-1) / 8-o.pos / 8).toNat+1))
      | false=>none)
     | false=>some (size,zdE l o.pos o.size))
    | false=>none)))
def removeI(I:Img)(name:List UInt8):Img:=
 match hasS I.names name with
 | true=>⟨delA I.names (lowS I.names name),delA I.nodes (lowI I.nodes (I.names.getD (lowS I.names name) nm0).ino)⟩
 | false=>I
def zaL(I:Img)(o:Opn):Img:=
 match decide (o.kind=1)with
 | true=>createI I o.name o.ino
 | false=>(match decide (2≤o.kind)&&decide (o.kind≤5)with
  | true=>(match hasI I.nodes o.ino with
   | true=>(match zbs o (contI I o.ino).1 (contI I o.ino).2 with
    | some c=>setI I o.ino c.1 c.2
    | none=>I)
   | false=>I)
  | false=>(match decide (o.kind=7)with
   | true=>removeI I o.name
   | false=>I))
structure Sto where
 cap:Int
 now:Img
 kept:Img
 pend:List Opn
 made:Int
 armed:Int
 off:Bool
theorem zaI{α:Type}{l:List α}{i:Nat}{d:α}(h:i<l.length):l.getD i d=l[i]:=by simp[zE,h]
def xb(x:Xt)(q:Nat):UInt8:=match q with|0=>x.b0|1=>x.b1|2=>x.b2|3=>x.b3|4=>x.b4|5=>x.b5|6=>x.b6|7=>x.b7|_=>0
structure OkX(size:Int)(x:Xt):Prop where
 lo:0≤x.no
 hi:x.no<137438953472
 cl:∀q,q<8→xb x q≠0→x.no*8+q<size
structure OkC(size:Int)(l:List Xt):Prop where
 lo:0≤size
 hi:size≤1099511627776
 rise:l.Pairwise fun a b=>a.no<b.no
 all:∀x∈l,OkX size x
theorem clB_iff{size at_:Int}{b:UInt8}:clB size b at_=true↔(b≠0→at_<size):=by
 unfold clB cl_
 rw[Bool.or_eq_true,beq_iff_eq,decide_eq_true_eq]
 have:(zB b.toNat=0)↔b=0:=by
  constructor
  .intro h
   have:b.toNat=0:=by simpa using h
   exact UInt8.toNat_inj.1 this
  .rintro rfl;rfl
 rw[this]
 constructor
 .rintro(h|h) hn
  .exact absurd h hn
  .exact h
 .intro h
  by_cases q:b=0
  .exact .inl q
  .exact .inr (h q)
theorem cleanX_iff{x:Xt}{size:Int}:cleanX x size=true↔0≤x.no∧x.no≤1099511627776∧∀q,q<8→xb x q≠0→x.no*8+q<size:=by
 unfold cleanX
 simp only[zA,decide_eq_true_eq,clB_iff]
 constructor
 .rintro⟨h1,h2,c0,c1,c2,c3,c4,c5,c6,c7⟩
  refine⟨h1,h2,fun q hq hb=>?_⟩
  match q,hq,hb with
  | 0,_,hb=>have:=c0 hb;omega
  | 1,_,hb=>have:=c1 hb;omega
  | 2,_,hb=>have:=c2 hb;omega
  | 3,_,hb=>have:=c3 hb;omega
  | 4,_,hb=>have:=c4 hb;omega
  | 5,_,hb=>have:=c5 hb;omega
  | 6,_,hb=>have:=c6 hb;omega
  | 7,_,hb=>have:=c7 hb;omega
  | q+8,hq,_=>omega
 .rintro⟨h1,h2,h⟩
  refine⟨h1,h2,fun hb=>?_,fun hb=>?_,fun hb=>?_,fun hb=>?_,fun hb=>?_,fun hb=>?_,fun hb=>?_,fun hb=>?_⟩
  .have:=h 0 (by omega) hb;simpa using this
  .exact h 1 (by omega) hb
  .exact h 2 (by omega) hb
  .exact h 3 (by omega) hb
  .exact h 4 (by omega) hb
  .exact h 5 (by omega) hb
  .exact h 6 (by omega) hb
  .exact h 7 (by omega) hb
theorem mayL_iff{size:Int}:∀ {l:List Xt} {last:Int},-1≤last→(mayL size last l=true↔l.Pairwise (fun a b=>a.no<b.no)∧∀x∈l,last<x.no∧OkX size x)
 | [],last,_=>by simp[mayL]
 | x::l,last,hl=>by
  simp only[mayL,zA,zD,decide_eq_false_iff_not,zF,zQ,forall_eq_or_imp]
  constructor
  .rintro⟨h1,h2,h3,h4⟩
   have hx:=cleanX_iff.1 h3
   obtain⟨p,q⟩:=(mayL_iff (by omega)).1 h4
   exact⟨⟨fun y hy=>(q y hy).1,p⟩,⟨by omega,⟨by omega,by omega,hx.2.2⟩⟩,fun y hy=>⟨by have:=(q y hy).1;omega,(q y hy).2⟩⟩
  .rintro⟨⟨h1,h2⟩,⟨h3,h4⟩,h5⟩
   exact⟨by omega,by have:=h4.hi;omega,cleanX_iff.2 ⟨h4.lo,by have:=h4.hi;omega,h4.cl⟩,(mayL_iff (by have:=h4.lo;omega)).2 ⟨h2,fun y hy=>⟨h1 y hy,(h5 y hy).2⟩⟩⟩
theorem zaO{size:Int}{l:List Xt}:mayC size l=true↔OkC size l:=by
 unfold mayC
 simp only[zA,zD,decide_eq_false_iff_not]
 constructor
 .rintro⟨h1,h2,h3⟩
  obtain⟨p,q⟩:=(mayL_iff (by omega)).1 h3
  exact⟨by omega,by omega,p,fun x hx=>(q x hx).2⟩
 .rintro⟨h1,h2,h3,h4⟩
  exact⟨by omega,by omega,(mayL_iff (by omega)).2 ⟨h3,fun x hx=>⟨by have:=(h4 x hx).lo;omega,h4 x hx⟩⟩⟩
theorem rise_len{l:List Xt}(h:l.Pairwise fun a b=>a.no<b.no):∀ {lo hi:Int},(∀x∈l,lo≤x.no∧x.no<hi)→(l.length:Int)≤max 0 (hi-lo):=by
 induction l with
 | nil=>intro lo hi _;simp;omega
 | cons x l ih=>
  intro lo hi hx
  rw[zF]at h
  have h0:=hx x (by simp)
  have:=ih h.2 (lo:=x.no+1) (hi:=hi) fun y hy=>⟨by have:=h.1 y hy;omega,(hx y (by simp[hy])).2⟩
  simp only[List.length_cons]
  omega
theorem OkC.len{size:Int}{l:List Xt}(h:OkC size l):l.length≤137438953472:=by
 have:=rise_len h.rise (lo:=0) (hi:=137438953472) fun x hx=>⟨(h.all x hx).lo,(h.all x hx).hi⟩
 omega
theorem bel_mono'{l:List Xt}{t:Int}(h:l.Pairwise fun a b=>a.no<b.no):Mono (belX t) l:=fun i j hi hj hij hp=>by
 have:=List.pairwise_iff_getElem.1 h i j hi hj hij
 simp only[belX,decide_eq_true_eq]at hp ⊢
 omega
theorem rise_srt{l:List Xt}(h:l.Pairwise fun a b=>a.no<b.no):∀ {last:Int},(∀x∈l,last<x.no)→srtL last l=true:=by
 induction l with
 | nil=>intro _ _;rfl
 | cons x l ih=>
  intro last hx
  rw[zF]at h
  simp only[srtL,zA,zD,decide_eq_false_iff_not]
  exact⟨by have:=hx x (by simp);omega,ih h.2 fun y hy=>h.1 y hy⟩
theorem OkC.srt{size:Int}{l:List Xt}(h:OkC size l):srtL (-1) l=true:=rise_srt h.rise fun x hx=>by have:=(h.all x hx).lo;omega
theorem found_iff{l:List Xt}{t:Int}(h:l.Pairwise fun a b=>a.no<b.no):zbr l t=true↔∃x∈l,x.no=t:=by
 unfold zbr
 simp only[zA,zD,decide_eq_false_iff_not]
 constructor
 .rintro⟨h1,h2,h3⟩
  have h1:=zdJ h1
  have e:l.getD (lowB l t) xt0=l[lowB l t]:=by simp[h1]
  rw[e]at h2 h3
  exact⟨_,zC h1,by omega⟩
 .rintro⟨x,hx,rfl⟩
  obtain⟨i,hi,rfl⟩:=List.mem_iff_getElem.1 hx
  have h1:lowB l l[i].no=i:=by
   have a:lowB l l[i].no≤i:=zcy hi (by simp[belX])
   by_cases q:lowB l l[i].no=i
   .exact q
   .exfalso
    have hlt:lowB l l[i].no<l.length:=by omega
    have:=zc4 (p:=belX l[i].no) (l:=l) hlt
    have h2:=List.pairwise_iff_getElem.1 h (lowB l l[i].no) i hlt hi (by omega)
    simp only[belX,decide_eq_false_iff_not]at this
    exact this h2
  rw[h1]
  have e:l.getD i xt0=l[i]:=by simp[hi]
  rw[e]
  exact⟨blt_t hi,by omega,by omega⟩
theorem ins_rise{l:List Xt}{y:Xt}(h:l.Pairwise fun a b=>a.no<b.no)(hn:∀x∈l,x.no≠y.no):(insA l (lowB l y.no) y).Pairwise fun a b=>a.no<b.no:=by
 unfold insA
 have below:∀x∈l.take (lowB l y.no),x.no<y.no:=fun x hx=>by
  obtain⟨i,hi,rfl⟩:=List.mem_iff_getElem.1 hx
  simp only[zI]at hi
  have hi2:i<lowB l y.no:=by omega
  have hi3:i<l.length:=by omega
  have:=zbA (p:=belX y.no) hi3 hi2
  simp only[belX,decide_eq_true_eq]at this
  rw[zJ];exact this
 have above:∀x∈l.drop (lowB l y.no),y.no<x.no:=fun x hx=>by
  obtain⟨i,hi,rfl⟩:=List.mem_iff_getElem.1 hx
  simp only[zK]at hi
  have hi3:lowB l y.no+i<l.length:=by omega
  rw[zH]
  have hne:=hn l[lowB l y.no+i] (zC hi3)
  have:¬l[lowB l y.no+i].no<y.no:=fun q=>by
   have:=zdt (bel_mono' (t:=y.no) h) hi3 (by simp only[belX,decide_eq_true_eq];exact q)
   have e:lowG (belX y.no) l=lowB l y.no:=rfl
   omega
  omega
 rw[zU]
 refine⟨h.sublist (zV _ _),?_,fun a ha b hb=>?_⟩
 .rw[zF]
  exact⟨above,h.sublist (zR _ _)⟩
 .rcases List.mem_cons.1 hb with rfl|hb
  .exact below a ha
  .have:=below a ha;have:=above b hb;omega
theorem ins_mem{l:List Xt}{y x:Xt}{i:Nat}:x∈insA l i y↔x=y∨x∈l:=by
 unfold insA
 rw[zL,zQ]
 constructor
 .rintro(h|h|h)
  .exact .inr (zW h)
  .exact .inl h
  .exact .inr (zY h)
 .rintro(h|h)
  .exact .inr (.inl h)
  .have:x∈l.take i++l.drop i:=by rw[zM];exact h
   rcases List.mem_append.1 this with q|q
   .exact .inl q
   .exact .inr (.inr q)
theorem xtN_ok{size no:Int}(h1:0≤no)(h2:no<137438953472):OkX size (xtN no):=⟨h1,h2,fun q hq hb=>by
 exfalso
 apply hb
 match q,hq with
 | 0,_|1,_|2,_|3,_|4,_|5,_|6,_|7,_=>rfl
 | q+8,hq=>omega⟩
theorem need_ok{size no:Int}{l:List Xt}(h:OkC size l)(h1:0≤no)(h2:no<137438953472):OkC size (needX l no):=by
 unfold needX
 cases hf:zbr l no with
 | true=>exact h
 | false=>
  have hn:∀x∈l,x.no≠no:=fun x hx e=>by
   have:=(found_iff h.rise (t:=no)).2 ⟨x,hx,e⟩
   rw[hf]at this;cases this
  refine⟨h.lo,h.hi,ins_rise (y:=xtN no) h.rise hn,fun x hx=>?_⟩
  rcases ins_mem.1 hx with rfl|hx
  .exact xtN_ok h1 h2
  .exact h.all x hx
theorem need_has{size no:Int}{l:List Xt}(h:OkC size l):∃hi:lowB l no<(needX l no).length,(needX l no)[lowB l no].no=no:=by
 unfold needX
 cases hf:zbr l no with
 | true=>
  unfold zbr at hf
  simp only[zA,zD,decide_eq_false_iff_not]at hf
  obtain⟨f1,f2,f3⟩:=hf
  have f1:=zdJ f1
  have e:l.getD (lowB l no) xt0=l[lowB l no]:=by simp[f1]
  rw[e]at f2 f3
  exact⟨f1,by show l[lowB l no].no=no;omega⟩
 | false=>
  have hle:lowB l no≤l.length:=zc3
  have hlen:(insA l (lowB l no) (xtN no)).length=l.length+1:=insA_len hle
  refine⟨by simp only[hlen];omega,?_⟩
  have:=insA_get (x:=xtN no) (d:=xt0) hle (lowB l no)
  rw[if_neg (by omega),if_pos rfl]at this
  have hlt:lowB l no<(insA l (lowB l no) (xtN no)).length:=by rw[hlen];omega
  have e:(insA l (lowB l no) (xtN no)).getD (lowB l no) xt0=(insA l (lowB l no) (xtN no))[lowB l no]:=by simp[hlt]
  rw[e]at this
  rw[this];rfl
theorem OkX.wider{s s2:Int}{x:Xt}(h:OkX s x)(hs:s≤s2):OkX s2 x:=⟨h.lo,h.hi,fun q hq hb=>by have:=h.cl q hq hb;omega⟩
theorem OkC.wider{s s2:Int}{l:List Xt}(h:OkC s l)(hs:s≤s2)(hi:s2≤1099511627776):OkC s2 l:=⟨by have:=h.lo;omega,hi,h.rise,fun x hx=>(h.all x hx).wider hs⟩
theorem putX_no{x:Xt}{off:Nat}{src:List UInt8}:(putX x off src).no=x.no:=rfl
theorem putX_b{x:Xt}{off:Nat}{src:List UInt8}{q:Nat}(hq:q<8):xb (putX x off src) q=pb_ off src.length q src (xb x q):=by
 match q,hq with
 | 0,_|1,_|2,_|3,_|4,_|5,_|6,_|7,_=>rfl
 | q+8,hq=>omega
theorem set_rise{l:List Xt}{i:Nat}{y:Xt}(h:l.Pairwise fun a b=>a.no<b.no)(hi:i<l.length)(hy:y.no=l[i].no):(l.set i y).Pairwise fun a b=>a.no<b.no:=by
 rw[zS]at h ⊢
 intro a b ha hb hab
 simp only[List.length_set]at ha hb
 have ga:((l.set i y)[a]'(by simpa using ha)).no=l[a].no:=by
  rw[zN];split
  .rename_i e;subst e;exact hy
  .rfl
 have gb:((l.set i y)[b]'(by simpa using hb)).no=l[b].no:=by
  rw[zN];split
  .rename_i e;subst e;exact hy
  .rfl
 rw[ga,gb]
 exact h a b ha hb hab
theorem write_ok{size:Int}{l:List Xt}{p:Nat}{src:List UInt8}(h:OkC size l)(h1:1≤src.length)(h2:p % 8+src.length≤8)(h3:p+src.length≤1099511627776):OkC (max size (p+src.length)) (zbN l p src):=by
 have hn:(zB (p / 8))<137438953472:=by simp only[zO];omega
 have h0:0≤zB (p / 8):=by simp only[zO];omega
 have hok:=need_ok h h0 hn
 obtain⟨hi,he⟩:=need_has h (no:=zB (p / 8))
 unfold zbN
 have eg:(needX l (.ofNat (p / 8))).getD (lowB l (.ofNat (p / 8))) xt0=(needX l (.ofNat (p / 8)))[lowB l (.ofNat (p / 8))]:=zaI hi
 have hlo:=h.lo
 have hhi:=h.hi
 refine⟨by omega,by omega,set_rise hok.rise hi (by rw[putX_no,eg]),fun x hx=>?_⟩
 rcases zZ hx with hx|rfl
 .exact(hok.all x hx).wider (by omega)
 .rw[eg]
  have hX:=hok.all _ (zC hi)
  refine⟨hX.lo,hX.hi,fun q hq hb=>?_⟩
  rw[putX_b hq]at hb
  rw[putX_no]
  unfold pb_ at hb
  cases hc:(Nat.ble (p % 8) q&&zG q (p % 8+src.length))with
  | true=>
   rw[zA]at hc
   have c2:=zdJ hc.2
   rw[he]
   simp only[zO]
   omega
  | false=>
   rw[hc,cond_false]at hb
   have:=hX.cl q hq hb
   omega
theorem wipeX_no{a b:Int}{x:Xt}:(wipeX a b x).no=x.no:=rfl
theorem wipeX_b{a b:Int}{x:Xt}{q:Nat}(hq:q<8):xb (wipeX a b x) q=wb_ a b (x.no*8+q) (xb x q):=by
 match q,hq with
 | 0,_=>show wb_ a b (x.no*8) x.b0=wb_ a b (x.no*8+(0:Nat)) x.b0;simp
 | 1,_|2,_|3,_|4,_|5,_|6,_|7,_=>rfl
 | q+8,hq=>omega
theorem map_rise{f:Xt→Xt}(hf:∀x,(f x).no=x.no){l:List Xt}(h:l.Pairwise fun a b=>a.no<b.no):(l.map f).Pairwise fun a b=>a.no<b.no:=by
 rw[List.pairwise_map]
 exact h.imp fun {a b} q=>by rw[hf,hf];exact q
theorem trunc_ok{size s:Int}{l:List Xt}(h:OkC size l)(h1:0≤s)(h2:s≤1099511627776):OkC s (zcT l s):=by
 refine⟨h1,h2,map_rise (f:=wipeX s 1099511627776) (fun x=>rfl) (h.rise.filter _),fun x hx=>?_⟩
 unfold zcT at hx
 obtain⟨y,hy,rfl⟩:=List.mem_map.1 hx
 have hy':=h.all y (List.mem_filter.1 hy).1
 refine⟨hy'.lo,hy'.hi,fun q hq hb=>?_⟩
 rw[wipeX_b hq]at hb
 rw[wipeX_no]
 unfold wb_ at hb
 by_cases c:s≤y.no*8+q
 .have:=hy'.hi
  have hd:(decide (s≤y.no*8+q)&&decide (y.no*8+q<1099511627776))=true:=by rw[dt c,dt (by omega)];rfl
  rw[hd]at hb
  exact absurd rfl hb
 .omega
theorem punch_ok{size pos n:Int}{l:List Xt}(h:OkC size l):OkC size (zdE l pos n):=by
 refine⟨h.lo,h.hi,map_rise (f:=wipeX pos (pos+n)) (fun x=>rfl) (h.rise.filter _),fun x hx=>?_⟩
 unfold zdE at hx
 obtain⟨y,hy,rfl⟩:=List.mem_map.1 hx
 have hy':=h.all y (List.mem_filter.1 hy).1
 refine⟨hy'.lo,hy'.hi,fun q hq hb=>?_⟩
 rw[wipeX_b hq]at hb
 rw[wipeX_no]
 refine hy'.cl q hq fun e=>hb ?_
 unfold wb_
 rw[e]
 cases (decide (pos≤y.no*8+q)&&decide (y.no*8+q<pos+n))<;>rfl
theorem alloc_ok{size:Int}:∀ {n:Nat} {l:List Xt} {no:Int},OkC size l→0≤no→no+n≤137438953472→OkC size (zbi l no n)
 | 0,l,no,h,_,_=>h
 | n+1,l,no,h,h1,h2=>alloc_ok (l:=needX l no) (no:=no+1) (need_ok h h1 (by omega)) (by omega) (by omega)
theorem u8_tri(a b:UInt8):a<b∨a=b∨b<a:=by
 rcases Nat.lt_trichotomy a.toNat b.toNat with h|h|h
 .exact .inl (UInt8.lt_iff_toNat_lt.2 h)
 .exact .inr (.inl (UInt8.toNat_inj.1 h))
 .exact .inr (.inr (UInt8.lt_iff_toNat_lt.2 h))
theorem u8_irr(a:UInt8):¬a<a:=fun h=>by have:=UInt8.lt_iff_toNat_lt.1 h;omega
theorem u8_asym{a b:UInt8}(h:a<b):¬b<a:=fun k=>by have:=UInt8.lt_iff_toNat_lt.1 h;have:=UInt8.lt_iff_toNat_lt.1 k;omega
theorem bl_cons{a b:UInt8}{s t:List UInt8}:Op.bytesLess (a::s) (b::t)=true↔a<b∨(a=b∧Op.bytesLess s t=true):=by
 rw[show Op.bytesLess (a::s) (b::t)=(decide (a<b) || (a==b&&Op.bytesLess s t))from rfl]
 simp only[Bool.or_eq_true,decide_eq_true_eq,zA,beq_iff_eq]
theorem cmp_lt:∀ {s t:List UInt8},Lib.compareBytes s t<0↔Op.bytesLess s t=true
 | [],[]=>by simp[Lib.compareBytes,Op.bytesLess]
 | [],b::t=>by simp[Lib.compareBytes,Op.bytesLess]
 | a::s,[]=>by simp[Lib.compareBytes,Op.bytesLess]
 | a::s,b::t=>by
  rw[bl_cons]
  unfold Lib.compareBytes
  rcases u8_tri a b with h|h|h
  .simp[h]
  .subst h
   simp only[u8_irr,if_false,false_or,true_and]
   exact cmp_lt
  .have hne:¬a=b:=fun e=>by subst e;exact u8_irr _ h
   simp[u8_asym h,h,hne]
theorem cmp_zero:∀ {s t:List UInt8},Lib.compareBytes s t=0↔s=t
 | [],[]=>by simp[Lib.compareBytes]
 | [],b::t=>by simp[Lib.compareBytes]
 | a::s,[]=>by simp[Lib.compareBytes]
 | a::s,b::t=>by
  unfold Lib.compareBytes
  rcases u8_tri a b with h|h|h
  .have hne:¬a=b:=fun e=>by subst e;exact u8_irr _ h
   simp[h,hne]
  .subst h
   simp only[u8_irr,if_false,List.cons.injEq,true_and]
   exact cmp_zero
  .have hne:¬a=b:=fun e=>by subst e;exact u8_irr _ h
   simp[u8_asym h,h,hne]
theorem bl_trans:∀ {s t u:List UInt8},Op.bytesLess s t=true→Op.bytesLess t u=true→Op.bytesLess s u=true
 | _,_,[],_,h=>by cases ‹List UInt8›<;>simp[Op.bytesLess]at h
 | [],_,_::_,_,_=>by simp[Op.bytesLess]
 | _::_,[],_::_,h,_=>by simp[Op.bytesLess]at h
 | a::s,b::t,c::u,h,k=>by
  rw[bl_cons]at *
  rcases h with h|⟨rfl,h⟩
  .rcases k with k|⟨rfl,k⟩
   .exact .inl (UInt8.lt_iff_toNat_lt.2 (by have:=UInt8.lt_iff_toNat_lt.1 h;have:=UInt8.lt_iff_toNat_lt.1 k;omega))
   .exact .inl h
  .rcases k with k|⟨rfl,k⟩
   .exact .inl k
   .exact .inr ⟨rfl,bl_trans h k⟩
theorem bl_irr(s:List UInt8):Op.bytesLess s s=false:=by
 cases h:Op.bytesLess s s with
 | false=>rfl
 | true=>
  have:=cmp_lt.2 h
  have:=(cmp_zero (s:=s) (t:=s)).2 rfl
  omega
theorem bl_tot:∀ {s t:List UInt8},s≠t→Op.bytesLess s t=false→Op.bytesLess t s=true
 | [],[],h,_=>absurd rfl h
 | [],_::_,_,h=>by simp[Op.bytesLess]at h
 | _::_,[],_,_=>by simp[Op.bytesLess]
 | a::s,b::t,h,k=>by
  have k:¬(Op.bytesLess (a::s) (b::t)=true):=by rw[k];simp
  rw[bl_cons]at k ⊢
  rcases u8_tri a b with q|q|q
  .exact absurd (.inl q) k
  .subst q
   refine .inr ⟨rfl,bl_tot (fun e=>h (by rw[e])) ?_⟩
   rw[zP]
   exact fun e=>k (.inr ⟨rfl,e⟩)
  .exact .inl q
theorem mono_of{α:Type}{r:α→α→Prop}{p:α→Bool}{l:List α}(h:l.Pairwise r)(hp:∀a b,r a b→p b=true→p a=true):Mono p l:=fun i j hi hj hij hq=>hp _ _ (List.pairwise_iff_getElem.1 h i j hi hj hij) hq
theorem ins_sorted{α:Type}{r:α→α→Prop}{p:α→Bool}{l:List α}{y:α}(h:l.Pairwise r)(hp:∀x,p x=true→r x y)(hm:∀a b,r a b→p b=true→p a=true)(hn:∀x∈l,p x=false→r y x)(tr:∀a b c,r a b→r b c→r a c):(insA l (lowG p l) y).Pairwise r:=by
 unfold insA
 have below:∀x∈l.take (lowG p l),r x y:=fun x hx=>by
  obtain⟨i,hi,rfl⟩:=List.mem_iff_getElem.1 hx
  simp only[zI]at hi
  rw[zJ]
  exact hp _ (zbA (by omega) (by omega))
 have above:∀x∈l.drop (lowG p l),r y x:=fun x hx=>by
  obtain⟨i,hi,rfl⟩:=List.mem_iff_getElem.1 hx
  simp only[zK]at hi
  rw[zH]
  refine hn _ (zC _) ?_
  cases hq:p l[lowG p l+i]with
  | false=>rfl
  | true=>
   have:=zdt (mono_of h hm) (i:=lowG p l+i) (by omega) hq
   omega
 rw[zU]
 refine⟨h.sublist (zV _ _),?_,fun a ha b hb=>?_⟩
 .rw[zF]
  exact⟨above,h.sublist (zR _ _)⟩
 .rcases List.mem_cons.1 hb with rfl|hb
  .exact below a ha
  .exact tr _ _ _ (below a ha) (above b hb)
theorem zbP{α:Type}{l:List α}{y x:α}{i:Nat}:x∈insA l i y↔x=y∨x∈l:=by
 unfold insA
 rw[zL,zQ]
 constructor
 .rintro(h|h|h)
  .exact .inr (zW h)
  .exact .inl h
  .exact .inr (zY h)
 .rintro(h|h)
  .exact .inr (.inl h)
  .have:x∈l.take i++l.drop i:=by rw[zM];exact h
   rcases List.mem_append.1 this with q|q
   .exact .inl q
   .exact .inr (.inr q)
theorem delA_sub{α:Type}{l:List α}{i:Nat}:(delA l i).Sublist l:=by
 unfold delA
 have h:(l.drop (i+1)).Sublist (l.drop i):=by
  rw[show l.drop (i+1)=(l.drop i).drop 1 by rw[List.drop_drop]]
  exact zR _ _
 have:=(List.Sublist.refl (l.take i)).append h
 rwa [zM]at this
theorem delA_len{α:Type}{l:List α}{i:Nat}(h:i<l.length):(delA l i).length=l.length-1:=by simp[delA];omega
theorem delA_mem{α:Type}{l:List α}{i:Nat}(h:i<l.length){x:α}(hx:x∈l):x=l[i]∨x∈delA l i:=by
 obtain⟨j,hj,rfl⟩:=List.mem_iff_getElem.1 hx
 unfold delA
 by_cases q:j<i
 .refine .inr (List.mem_append.2 (.inl ?_))
  rw[yA]
  exact⟨j,by simp;omega,by simp⟩
 .by_cases q2:j=i
  .subst q2;exact .inl rfl
  .refine .inr (List.mem_append.2 (.inr ?_))
   rw[yA]
   refine⟨j-(i+1),by simp;omega,?_⟩
   rw[zH]
   congr 1
   omega
theorem zc2{s:List UInt8}{x:Nm}:ltN s x=true↔Op.bytesLess x.s s=true:=by
 unfold ltN
 rw[decide_eq_true_eq,cmp_lt]
theorem names_mono{l:List Nm}{s:List UInt8}(h:l.Pairwise fun a b=>Op.bytesLess a.s b.s=true):Mono (ltN s) l:=mono_of h fun a b q k=>zc2.2 (bl_trans q (zc2.1 k))
theorem nodes_mono{l:List Nd}{ino:Int}(h:l.Pairwise fun a b=>a.ino<b.ino):Mono (ltI ino) l:=mono_of h fun a b q k=>by
 simp only[ltI,decide_eq_true_eq]at *
 omega
theorem hasS_iff{l:List Nm}{s:List UInt8}(h:l.Pairwise fun a b=>Op.bytesLess a.s b.s=true):hasS l s=true↔∃x∈l,x.s=s:=by
 unfold hasS
 rw[zA,decide_eq_true_eq,cmp_zero]
 constructor
 .rintro⟨h1,h2⟩
  have h1:=zdJ h1
  rw[zaI h1]at h2
  exact⟨_,zC h1,h2⟩
 .rintro⟨x,hx,rfl⟩
  obtain⟨i,hi,rfl⟩:=List.mem_iff_getElem.1 hx
  have hno:ltN l[i].s l[i]=false:=by
   rw[zP];intro q
   have:=zc2.1 q
   rw[bl_irr]at this;cases this
  have h1:lowS l l[i].s=i:=by
   have a:lowS l l[i].s≤i:=zcy hi hno
   by_cases q:lowS l l[i].s=i
   .exact q
   .exfalso
    have hlt:lowS l l[i].s<l.length:=by omega
    have:=zc4 (p:=ltN l[i].s) (l:=l) hlt
    have h2:=List.pairwise_iff_getElem.1 h (lowS l l[i].s) i hlt hi (by omega)
    have h3:ltN l[i].s l[lowS l l[i].s]=true:=zc2.2 h2
    exact absurd (this.symm.trans h3) (by simp)
  rw[h1,zaI hi]
  exact⟨blt_t hi,rfl⟩
theorem hasS_at{l:List Nm}{s:List UInt8}(h:hasS l s=true):∃hi:lowS l s<l.length,l[lowS l s].s=s:=by
 unfold hasS at h
 rw[zA,decide_eq_true_eq,cmp_zero]at h
 have h1:=zdJ h.1
 have h2:=h.2
 rw[zaI h1]at h2
 exact⟨h1,h2⟩
theorem zcJ{l:List Nd}{ino:Int}(h:hasI l ino=true):∃hi:lowI l ino<l.length,l[lowI l ino].ino=ino:=by
 unfold hasI at h
 simp only[zA,zD,decide_eq_false_iff_not]at h
 obtain⟨h1,h2,h3⟩:=h
 have h1:=zdJ h1
 rw[zaI h1]at h2 h3
 exact⟨h1,by omega⟩
theorem hasI_iff{l:List Nd}{ino:Int}(h:l.Pairwise fun a b=>a.ino<b.ino):hasI l ino=true↔∃x∈l,x.ino=ino:=by
 constructor
 .intro h
  obtain⟨h1,h2⟩:=zcJ h
  exact⟨_,zC h1,h2⟩
 .rintro⟨x,hx,rfl⟩
  obtain⟨i,hi,rfl⟩:=List.mem_iff_getElem.1 hx
  have h1:lowI l l[i].ino=i:=by
   have a:lowI l l[i].ino≤i:=zcy hi (by simp[ltI])
   by_cases q:lowI l l[i].ino=i
   .exact q
   .exfalso
    have hlt:lowI l l[i].ino<l.length:=by omega
    have:=zc4 (p:=ltI l[i].ino) (l:=l) hlt
    have h2:=List.pairwise_iff_getElem.1 h (lowI l l[i].ino) i hlt hi (by omega)
    simp only[ltI,decide_eq_false_iff_not]at this
    exact this h2
  unfold hasI
  rw[h1,zaI hi]
  simp[blt_t hi]
theorem MayI.empty:MayI ⟨[],[]⟩:=⟨⟨by simp,by simp,.nil,by simp,.nil⟩,rfl,.nil,by simp,by simp,by simp⟩
theorem create_may{I:Img}{name:List UInt8}{ino:Int}(h:MayI I):MayI (createI I name ino):=by
 unfold createI
 split
 .exact h
 .rename_i hc
  simp only[Bool.or_eq_false_iff,Bool.not_eq_false',decide_eq_false_iff_not]at hc
  obtain⟨c1,c2,c3,c4,c5,c6⟩:=hc
  have c6:I.names.length<16:=by
   have:¬16≤I.names.length:=fun q=>by rw[ble_t q]at c6;cases c6
   omega
  have noS:∀x∈I.names,x.s≠name:=fun x hx e=>by
   have:=(hasS_iff h.names.rise).2 ⟨x,hx,e⟩
   rw[c1]at this;cases this
  have noI:∀x∈I.nodes,x.ino≠ino:=fun x hx e=>by
   have:=(hasI_iff h.rise).2 ⟨x,hx,e⟩
   rw[c2]at this;cases this
  have noN:∀x∈I.names,x.ino≠ino:=fun x hx e=>by
   obtain⟨y,hy,e2⟩:=h.all x hx
   exact noI y hy (e2.trans e)
  refine⟨⟨?_,fun x hx=>?_,?_,fun x hx=>?_,?_⟩,?_,?_,fun x hx=>?_,fun x hx=>?_,fun x hx=>?_⟩
  .have:=insA_len (x:=(⟨name,ino⟩:Nm)) (zc3 (p:=ltN name) (l:=I.names))
   have e:lowG (ltN name) I.names=lowS I.names name:=rfl
   rw[e]at this
   simp only[this];omega
  .rcases zbP.1 hx with rfl|hx
   .exact c3
   .exact h.names.ok x hx
  .refine ins_sorted (y:=(⟨name,ino⟩:Nm)) (p:=ltN name) h.names.rise (fun x q=>zc2.1 q) (fun a b q k=>zc2.2 (bl_trans q (zc2.1 k))) (fun x hx q=>?_) fun a b c q k=>bl_trans q k
   refine bl_tot (noS x hx) ?_
   rw[zP]
   intro k
   rw[zc2.2 k]at q;cases q
  .rcases zbP.1 hx with rfl|hx
   .exact⟨by simp only;omega,by simp only;omega⟩
   .exact h.names.ino x hx
  .have hperm:(insA I.names (lowS I.names name) (⟨name,ino⟩:Nm)).Perm (⟨name,ino⟩::I.names):=by
    unfold insA
    have:=List.perm_middle (a:=(⟨name,ino⟩:Nm)) (l₁:=I.names.take (lowS I.names name)) (l₂:=I.names.drop (lowS I.names name))
    rwa [zM]at this
   rw[hperm.pairwise_iff (fun {x y} q e=>q e.symm)]
   rw[zF]
   exact⟨fun x hx e=>noN x hx e.symm,h.names.apart⟩
  .have e1:=insA_len (x:=(⟨name,ino⟩:Nm)) (zc3 (p:=ltN name) (l:=I.names))
   have e2:=insA_len (x:=(⟨ino,0,[]⟩:Nd)) (zc3 (p:=ltI ino) (l:=I.nodes))
   have f1:lowG (ltN name) I.names=lowS I.names name:=rfl
   have f2:lowG (ltI ino) I.nodes=lowI I.nodes ino:=rfl
   rw[f1]at e1
   rw[f2]at e2
   simp only[e1,e2,h.len]
  .refine ins_sorted (y:=(⟨ino,0,[]⟩:Nd)) (p:=ltI ino) h.rise (fun x q=>by simpa [ltI]using q) (fun a b q k=>by simp only[ltI,decide_eq_true_eq]at *;omega) (fun x hx q=>?_) fun a b c q k=>by omega
   have:=noI x hx
   simp only[ltI,decide_eq_false_iff_not]at q
   show ino<x.ino
   omega
  .rcases zbP.1 hx with rfl|hx
   .exact⟨⟨name,ino⟩,zbP.2 (.inl rfl),rfl⟩
   .obtain⟨y,hy,e⟩:=h.has x hx
    exact⟨y,zbP.2 (.inr hy),e⟩
  .rcases zbP.1 hx with rfl|hx
   .exact⟨⟨ino,0,[]⟩,zbP.2 (.inl rfl),rfl⟩
   .obtain⟨y,hy,e⟩:=h.all x hx
    exact⟨y,zbP.2 (.inr hy),e⟩
  .rcases zbP.1 hx with rfl|hx
   .rfl
   .exact h.ok x hx
theorem set_may{I:Img}{ino size:Int}{l:List Xt}(h:MayI I)(hi:hasI I.nodes ino=true)(hc:OkC size l):MayI (setI I ino size l):=by
 obtain⟨h1,h2⟩:=zcJ hi
 unfold setI
 have e:I.nodes.getD (lowI I.nodes ino) nd0=I.nodes[lowI I.nodes ino]:=zaI h1
 have mem:∀x,x∈I.nodes.set (lowI I.nodes ino) ⟨(I.nodes.getD (lowI I.nodes ino) nd0).ino,size,l⟩→∃y∈I.nodes,y.ino=x.ino∧mayC x.size x.l=true:=fun x hx=>by
  rcases zZ hx with hx|rfl
  .exact⟨x,hx,rfl,h.ok x hx⟩
  .exact⟨_,zC h1,by rw[e],zaO.2 hc⟩
 refine⟨h.names,by simp[h.len],?_,fun x hx=>?_,fun y hy=>?_,fun x hx=>(mem x hx).choose_spec.2.2⟩
 .rw[zS]
  intro a b ha hb hab
  simp only[List.length_set]at ha hb
  have key:∀a (ha:a<I.nodes.length),((I.nodes.set (lowI I.nodes ino) ⟨(I.nodes.getD (lowI I.nodes ino) nd0).ino,size,l⟩)[a]'(by simpa using ha)).ino=I.nodes[a].ino:=fun a ha=>by
   rw[zN];split
   .rename_i q;subst q;rw[e]
   .rfl
  rw[key a ha,key b hb]
  exact List.pairwise_iff_getElem.1 h.rise a b ha hb hab
 .obtain⟨y,hy,e1,_⟩:=mem x hx
  obtain⟨z,hz,e2⟩:=h.has y hy
  exact⟨z,hz,e2.trans e1⟩
 .obtain⟨x,hx,e1⟩:=h.all y hy
  obtain⟨j,hj,rfl⟩:=List.mem_iff_getElem.1 hx
  refine⟨(I.nodes.set (lowI I.nodes ino) ⟨(I.nodes.getD (lowI I.nodes ino) nd0).ino,size,l⟩)[j]'(by simpa using hj),zC _,?_⟩
  rw[zN]
  split
  .rename_i q;subst q;rw[←e1,e]
  .exact e1
theorem remove_may{I:Img}{name:List UInt8}(h:MayI I):MayI (removeI I name):=by
 unfold removeI
 split
 .rename_i hs
  obtain⟨h1,h2⟩:=hasS_at hs
  have e:I.names.getD (lowS I.names name) nm0=I.names[lowS I.names name]:=zaI h1
  rw[e]
  obtain⟨x0,hx0,e0⟩:=h.all _ (zC h1)
  have hi:=(hasI_iff h.rise).2 ⟨x0,hx0,e0⟩
  obtain⟨h3,h4⟩:=zcJ hi
  have sN:=delA_sub (l:=I.names) (i:=lowS I.names name)
  have sI:=delA_sub (l:=I.nodes) (i:=lowI I.nodes I.names[lowS I.names name].ino)
  refine⟨⟨by have:=sN.length_le;have:=h.names.few;simp only;omega,fun x hx=>h.names.ok x (sN.subset hx),h.names.rise.sublist sN,fun x hx=>h.names.ino x (sN.subset hx),h.names.apart.sublist sN⟩,?_,h.rise.sublist sI,fun x hx=>?_,fun y hy=>?_,fun x hx=>h.ok x (sI.subset hx)⟩
  .simp only[delA_len h1,delA_len h3,h.len]
  .obtain⟨y,hy,e1⟩:=h.has x (sI.subset hx)
   rcases delA_mem h1 hy with q|q
   .exfalso
    obtain⟨j,hj,rfl⟩:=List.mem_iff_getElem.1 hx
    subst q
    have nd:(delA I.nodes (lowI I.nodes I.names[lowS I.names name].ino)).Pairwise (fun a b=>a.ino<b.ino):=h.rise.sublist sI
    obtain⟨hp⟩:Nonempty (I.nodes.Pairwise fun a b=>a.ino<b.ino):=⟨h.rise⟩
    have notin:∀z∈delA I.nodes (lowI I.nodes I.names[lowS I.names name].ino),z.ino≠I.names[lowS I.names name].ino:=fun z hz ez=>by
     unfold delA at hz
     rw[zL]at hz
     rcases hz with hz|hz
     .obtain⟨i,hi,rfl⟩:=List.mem_iff_getElem.1 hz
      simp only[zI]at hi
      rw[zJ]at ez
      have:=List.pairwise_iff_getElem.1 hp i (lowI I.nodes I.names[lowS I.names name].ino) (by omega) h3 (by omega)
      omega
     .obtain⟨i,hi,rfl⟩:=List.mem_iff_getElem.1 hz
      simp only[zK]at hi
      rw[zH]at ez
      have:=List.pairwise_iff_getElem.1 hp (lowI I.nodes I.names[lowS I.names name].ino) (lowI I.nodes I.names[lowS I.names name].ino+1+i) h3 (by omega) (by omega)
      omega
    exact notin _ (zC hj) e1.symm
   .exact⟨y,q,e1⟩
  .have hy':=sN.subset hy
   obtain⟨x,hx,e1⟩:=h.all y hy'
   rcases delA_mem h3 hx with q|q
   .exfalso
    subst q
    have notin:∀z∈delA I.names (lowS I.names name),z.ino≠I.names[lowS I.names name].ino:=fun z hz ez=>by
     unfold delA at hz
     rw[zL]at hz
     rcases hz with hz|hz
     .obtain⟨i,hi,rfl⟩:=List.mem_iff_getElem.1 hz
      simp only[zI]at hi
      rw[zJ]at ez
      exact List.pairwise_iff_getElem.1 h.names.apart i (lowS I.names name) (by omega) h1 (by omega) ez
     .obtain⟨i,hi,rfl⟩:=List.mem_iff_getElem.1 hz
      simp only[zK]at hi
      rw[zH]at ez
      exact List.pairwise_iff_getElem.1 h.names.apart (lowS I.names name) (lowS I.names name+1+i) h1 (by omega) (by omega) ez.symm
    exact notin y hy (e1.symm.trans h4)
   .exact⟨x,q,e1⟩
 .exact h
structure GoodOp(o:Opn):Prop where
 c:o.kind=1→zbJ o.name=true
 w:o.kind=2→0≤o.pos∧1≤o.b.length∧o.pos % 8+o.b.length≤8∧o.pos+o.b.length≤1099511627776
theorem change_ok{o:Opn}{size:Int}{l:List Xt}(hg:GoodOp o){c:Int×List Xt}(h:zbs o size l=some c):OkC c.1 c.2:=by
 unfold zbs at h
 split at h
 .cases h
 .rename_i hm
  have hm:=zaO.1 hm
  split at h
  .rename_i hk
   have hk:=of_decide_eq_true hk
   obtain⟨w1,w2,w3,w4⟩:=hg.w hk
   split at h
   .injection h with h;subst h
    have:=write_ok (p:=o.pos.toNat) (src:=o.b) hm w2 (by omega) (by omega)
    rw[show((o.pos.toNat:Nat):Int)=o.pos by omega]at this
    exact this
   .cases h
  .split at h
   .split at h
    .rename_i hs
     rw[zA,decide_eq_true_eq,decide_eq_true_eq]at hs
     injection h with h;subst h
     exact trunc_ok hm hs.1 hs.2
    .cases h
   .split at h
    .rename_i hs
     simp only[zA,decide_eq_true_eq]at hs
     obtain⟨s1,s2,s3,s4⟩:=hs
     split at h
     .split at h
      .injection h with h;subst h
       have h1:=hm.lo
       have h2:=hm.hi
       have A:OkC size (zbi l (o.pos / 8) (((o.pos+o.size-1) / 8-o.pos / 8).toNat+1)):=alloc_ok hm (by omega) (by omega)
       cases o.keep with
       | true=>exact A
       | false=>exact A.wider (by simp only[cond_false];omega) (by simp only[cond_false];omega)
      .cases h
     .injection h with h;subst h
      exact punch_ok hm
    .cases h
theorem apply_may{I:Img}{o:Opn}(h:MayI I)(hg:GoodOp o):MayI (zaL I o):=by
 unfold zaL
 split
 .exact create_may h
 .split
  .split
   .rename_i hi
    split
    .rename_i c hc
     exact set_may h hi (change_ok hg hc)
    .exact h
   .exact h
  .split
   .exact remove_may h
   .exact h
def deedS(S:Sto):Sto×Bool:=
 match S.off || decide (S.armed=0)with
 | true=>({ S with off:=true },false)
 | false=>(match decide (S.armed>0)with
  | true=>({ S with armed:=S.armed-1 },true)
  | false=>(S,true))
def zb9:Nat→Nat→Nat→List (Nat×Nat)
 | 0,_,_=>[]
 | f+1,pos,n=>(match Nat.beq n 0 with|true=>[]|false=>(pos,min n (8-pos % 8))::zb9 f (pos+min n (8-pos % 8)) (n-min n (8-pos % 8)))
def opW(ino:Int)(p:Nat)(b:List UInt8):Opn:=⟨2,ino,p,0,false,[],[],b⟩
theorem fold_may{l:List Opn}:∀ {I:Img},MayI I→(∀o∈l,GoodOp o)→MayI (l.foldl zaL I):=by
 induction l with
 | nil=>intro I h _;exact h
 | cons o l ih=>intro I h hg;exact ih (apply_may h (hg o (by simp))) fun o' ho=>hg o' (by simp[ho])
theorem opW_good{ino:Int}{p:Nat}{b:List UInt8}(h1:1≤b.length)(h2:p % 8+b.length≤8)(h3:p+b.length≤1099511627776):GoodOp (opW ino p b):=
 ⟨fun e=>by simp[opW]at e,fun _=>⟨by simp only[opW];omega,h1,by simp only[opW];omega,by simp only[opW];omega⟩⟩
def blkAt(b:List UInt8)(i:Nat):Xt:=⟨(i:Int),b.getD (8*i) 0,b.getD (8*i+1) 0,b.getD (8*i+2) 0,b.getD (8*i+3) 0,b.getD (8*i+4) 0,b.getD (8*i+5) 0,b.getD (8*i+6) 0,b.getD (8*i+7) 0⟩
def zai(b:List UInt8):List Xt:=(List.range ((b.length+7) / 8)).map (blkAt b)
theorem zau(b:List UInt8):(zai b).length=(b.length+7) / 8:=by simp[zai]
theorem zbp{b:List UInt8}{i:Nat}(h:i<(zai b).length):(zai b)[i]=blkAt b i:=by simp[zai]
theorem blk_b{b:List UInt8}{i q:Nat}(hq:q<8):xb (blkAt b i) q=b.getD (8*i+q) 0:=by
 match q,hq with
 | 0,_|1,_|2,_|3,_|4,_|5,_|6,_|7,_=>rfl
 | q+8,hq=>omega
theorem xt_ext{x y:Xt}(h:x.no=y.no)(k:∀q,q<8→xb x q=xb y q):x=y:=by
 obtain⟨no,b0,b1,b2,b3,b4,b5,b6,b7⟩:=x
 obtain⟨no',c0,c1,c2,c3,c4,c5,c6,c7⟩:=y
 have e0:b0=c0:=k 0 (by omega)
 have e1:b1=c1:=k 1 (by omega)
 have e2:b2=c2:=k 2 (by omega)
 have e3:b3=c3:=k 3 (by omega)
 have e4:b4=c4:=k 4 (by omega)
 have e5:b5=c5:=k 5 (by omega)
 have e6:b6=c6:=k 6 (by omega)
 have e7:b7=c7:=k 7 (by omega)
 have e:no=no':=h
 rw[e,e0,e1,e2,e3,e4,e5,e6,e7]
theorem getD_out{α:Type}{l:List α}{i:Nat}{d:α}(h:l.length≤i):l.getD i d=d:=by simp[zE,h]
theorem getD_take{l:List UInt8}{i n:Nat}{d:UInt8}:(l.take n).getD i d=if i<n then l.getD i d else d:=by
 simp only[zE,List.getElem?_take]
 split<;>rfl
theorem getD_drop{l:List UInt8}{i n:Nat}{d:UInt8}:(l.drop n).getD i d=l.getD (n+i) d:=by simp[zE,List.getElem?_drop]
theorem blocks_ok{b:List UInt8}(h:b.length≤1099511627776):OkC b.length (zai b):=by
 refine⟨by omega,by omega,?_,fun x hx=>?_⟩
 .rw[zS]
  intro i j hi hj hij
  rw[zbp,zbp]
  show(i:Int)<(j:Int)
  omega
 .obtain⟨i,hi,rfl⟩:=List.mem_iff_getElem.1 hx
  rw[zbp]
  rw[zau]at hi
  refine⟨by show(0:Int)≤(i:Int);omega,by show(i:Int)<137438953472;omega,fun q hq hb=>?_⟩
  rw[blk_b hq]at hb
  show(i:Int)*8+q<b.length
  by_cases c:8*i+q<b.length
  .omega
  .exact absurd (getD_out (by omega)) hb
theorem blocks_snoc{b:List UInt8}{p m:Nat}(hp:p % 8=0)(hpl:p<b.length)(hm:m=min (b.length-p) 8):zai (b.take (p+m))=zai (b.take p)++[blkAt (b.take (p+m)) (p / 8)]:=by
 have e1:(b.take (p+m)).length=p+m:=by simp;omega
 have e2:(b.take p).length=p:=by simp;omega
 apply List.ext_getElem
 .rw[zau,List.length_append,zau,e1,e2];simp;omega
 .intro i h1 h2
  rw[zbp]
  rw[zau,e1]at h1
  by_cases hi:i<(zai (b.take p)).length
  .rw[List.getElem_append_left hi,zbp]
   rw[zau,e2]at hi
   refine xt_ext rfl fun q hq=>?_
   rw[blk_b hq,blk_b hq,getD_take,getD_take,if_pos (by omega),if_pos (by omega)]
  .have hi2:i=p / 8:=by rw[zau,e2]at hi;omega
   rw[List.getElem_append_right (by omega)]
   simp only[List.getElem_singleton]
   rw[hi2]
theorem low_end{l:List Xt}{t:Int}(h:∀x∈l,x.no<t):lowB l t=l.length:=by
 induction l with
 | nil=>rfl
 | cons x l ih=>
  have h0:=h x (by simp)
  show(match belX t x with|true=>lowG (belX t) l+1|false=>0)=_
  have:belX t x=true:=decide_eq_true h0
  rw[this]
  simp only[List.length_cons]
  have:=ih fun y hy=>h y (by simp[hy])
  unfold lowB at this
  rw[this]
theorem found_end{l:List Xt}{t:Int}(h:∀x∈l,x.no<t):zbr l t=false:=by
 unfold zbr
 rw[low_end h]
 simp
theorem write_snoc{b:List UInt8}{p m:Nat}(hp:p % 8=0)(hpl:p<b.length)(hm:m=min (b.length-p) 8):zbN (zai (b.take p)) p ((b.drop p).take m)=zai (b.take (p+m)):=by
 have e2:(b.take p).length=p:=by simp;omega
 have hlt:∀x∈zai (b.take p),x.no<zB (p / 8):=fun x hx=>by
  obtain⟨i,hi,rfl⟩:=List.mem_iff_getElem.1 hx
  rw[zbp]
  rw[zau,e2]at hi
  show(i:Int)<_
  simp only[zO];omega
 have hl:(zai (b.take p)).length=p / 8:=by rw[zau,e2];omega
 unfold zbN needX
 rw[found_end hlt]
 simp only
 rw[low_end hlt,insA_end,blocks_snoc hp hpl hm]
 have hs:((zai (b.take p))++[xtN (zB (p / 8))]).getD (zai (b.take p)).length xt0=xtN (zB (p / 8)):=by simp[zE]
 rw[hs]
 have:∀y:Xt,((zai (b.take p))++[xtN (zB (p / 8))]).set (zai (b.take p)).length y=(zai (b.take p))++[y]:=fun y=>by simp
 rw[this]
 congr 2
 have hml:((b.drop p).take m).length=m:=by simp;omega
 refine xt_ext ?_ fun q hq=>?_
 .show zB (p / 8)=((p / 8:Nat):Int);rfl
 .rw[putX_b hq,blk_b hq,getD_take,hml,hp]
  unfold pb_
  have hz:xb (xtN (zB (p / 8))) q=0:=by
   match q,hq with
   | 0,_|1,_|2,_|3,_|4,_|5,_|6,_|7,_=>rfl
   | q+8,hq=>omega
  rw[hz]
  by_cases c:q<m
  .rw[ble_t (Nat.zero_le _),blt_t (by omega),if_pos (by omega)]
   simp only[Bool.and_self,cond_true,Nat.sub_zero]
   rw[getD_take,if_pos c,getD_drop]
   congr 1
   omega
  .rw[ble_t (Nat.zero_le _),blt_f (by omega),if_neg (by omega)]
   rfl
def oneI(name:List UInt8)(ino size:Int)(l:List Xt):Img:=⟨[⟨name,ino⟩],[⟨ino,size,l⟩]⟩
theorem lowI_one(ino size:Int)(l:List Xt):lowI [⟨ino,size,l⟩] ino=0:=by
 unfold lowI lowG ltI
 simp
theorem zce(ino size:Int)(l:List Xt):hasI [⟨ino,size,l⟩] ino=true:=by
 unfold hasI
 rw[lowI_one]
 simp
theorem cont_one(name:List UInt8)(ino size:Int)(l:List Xt):contI (oneI name ino size l) ino=(size,l):=by
 unfold contI oneI
 simp only[zce,lowI_one]
 rfl
theorem set_one(name:List UInt8)(ino size s2:Int)(l l2:List Xt):setI (oneI name ino size l) ino s2 l2=oneI name ino s2 l2:=by
 unfold setI oneI
 simp only[lowI_one]
 rfl
theorem apply_one{name:List UInt8}{ino size:Int}{l:List Xt}{o:Opn}(h1:2≤o.kind)(h2:o.kind≤5)(h3:o.ino=ino){c:Int×List Xt}(hc:zbs o size l=some c):zaL (oneI name ino size l) o=oneI name ino c.1 c.2:=by
 subst h3
 unfold zaL
 have e1:decide (o.kind=1)=false:=df (by omega)
 have e2:(decide (2≤o.kind)&&decide (o.kind≤5))=true:=by rw[dt h1,dt h2];rfl
 have e3:hasI (oneI name o.ino size l).nodes o.ino=true:=zce _ _ _
 simp only[e1,e2,e3,cont_one,hc,set_one]
theorem write_change{ino:Int}{p:Nat}{src:List UInt8}{size:Int}{l:List Xt}(h:OkC size l)(h1:src.length≤4096)(h2:p+src.length≤1099511627776):zbs (opW ino p src) size l=some (max size ((p:Int)+src.length),zbN l p src):=by
 unfold zbs opW
 simp only[zaO.2 h,dt (rfl:(2:Int)=2),dt (show(0:Int)≤(p:Int) by omega),dt (show(src.length:Int)≤4096 by omega),dt (show(p:Int)≤1099511627776-src.length by omega),Bool.and_self,Int.toNat_natCast,decide_true]
theorem used_one(ino size:Int)(l:List Xt):usedI [⟨ino,size,l⟩]=l.length:=by simp[usedI]
theorem wb_out{a b p:Int}{x:UInt8}(h:¬(a≤p∧p<b)):wb_ a b p x=x:=by
 unfold wb_
 have:(decide (a≤p)&&decide (p<b))=false:=by
  rw[zP];intro q
  rw[zA,decide_eq_true_eq,decide_eq_true_eq]at q
  exact h q
 rw[this];rfl
end Go.Proofs.YtponjccgpbgnoaaGreatDoor.Se
