/- This seat's program: what the evaluator wants to know of it. -/
import Derived.Test.YtponjccgpbgnoaaGreatDoorAbR
import Derived.Test.YtponjccgpbgnoaaGreatDoorChecked
import Derived.KernelRfl
import Derived.Test.YtponjccgpbgnoaaGreatDoorRows
import Derived.RangeFuncNested
import Derived.RangeFuncLeaves
import Derived.RangeFuncBox
import Derived.Shelf.Abstract
import Derived.WalkKit
import Derived.OwnWalkIn
import Derived.TacticsInMore
import Derived.LoopNIn
import Derived.LoopIn
import Derived.WalkSmall
import Derived.Lib.Bytealg
import Derived.Lib.Repeat
import Derived.Lib.Case
import Derived.Lib.Join
import Derived.Lib.FieldsP
import Derived.OwnWalk
set_option linter.unusedVariables false
set_option linter.unusedSimpArgs false
set_option linter.unusedSectionVars false
open Nat renaming le_refl→zA,beq→zB,reduceAdd→zH,reduceSub→zI,lt_of_lt_of_le→zO,le_trans→zP,le_of_ble_eq_true→zS,eq_of_beq_eq_true→zU
open List renaming nil_append→zC,size_toArray→zE,length_cons→zF,length_nil→zG,push_toArray→zL,append_toArray→zM,cons_append→zN,range→zT
open Option.some renaming injEq→zD,inj→zR
open Array renaming replicate_succ→zJ,replicate_zero→zK
open Prod.mk renaming injEq→zQ
namespace Go.Proofs.YtponjccgpbgnoaaGreatDoor
open Go Go.RowKit
def eqList:List TypeId:=
168::
136::
80::
38::
36::
 []
theorem zdm:Tryz.prog.types.size<4000:=of_decide_eq_true (by kernel_rfl)
theorem zdo:Tryz.prog.funcs.size<4000:=of_decide_eq_true (by kernel_rfl)
theorem prog_globals:Tryz.prog.globals.size≤9223372036854775808:=of_decide_eq_true (by kernel_rfl)
theorem prog_mix:Tryz.prog.follows .mixedOrders=true:=by kernel_rfl
theorem all_get{α:Type}{q:α→Bool}{l:Array α}(h:l.toList.all q=true){i:Nat}{x:α}(hx:l[i]?=some x):q x=true:=
 List.all_eq_true.1 h x (List.mem_of_getElem? (i:=i) (by simpa using hx))
set_option maxRecDepth 10000000 in
theorem zdn:∀(f:FuncId) (fn:Func),Tryz.prog.funcs[f]?=some fn→(fn.name== "runtime.NumGoroutine")=false:=fun f fn h=>by
 have h1:Tryz.prog.funcs.toList.all (fun fn=>!(fn.name== "runtime.NumGoroutine"))=true:=by kernel_rfl
 simpa using all_get h1 h
set_option maxRecDepth 10000000 in
theorem prog_eqs:∀t∈eqList,Tryz.prog.stoodInHeld t=false:=fun t h=>by
 have h1:eqList.all (fun t=>!(Tryz.prog.stoodInHeld t))=true:=by kernel_rfl
 simpa using List.all_eq_true.1 h1 t h
set_option maxRecDepth 10000000 in
theorem zcG:∀t∈eqList,Tryz.prog.eqGuardType Tryz.prog.depth t=false:=fun t h=>by
 have h1:eqList.all (fun t=>!(Tryz.prog.eqGuardType Tryz.prog.depth t))=true:=by kernel_rfl
 have h2:=List.all_eq_true.1 h1 t h
 rw[Bool.not_eq_true']at h2
 exact h2
noncomputable def env:Env:=Env.of Tryz.prog eqList
theorem closed_true{sp:Sp}(hsp:zbx Tryz.prog (zb8 sp) Tryz.prog.globals.size){n:Nat}{f:FuncId}(hr:saysTrue (zb6 env sp n f [] ⟨Tryz.prog.globals.size,.nil⟩)=true)(w:World) :
  Calls Tryz.prog f #[] w fun e w'=>e=.returned (.bool true)∧Below w.heap.size w w':=by
 unfold env at hr
 obtain⟨h2,h⟩:=saysTrue_some hr
 exact closed_calls (P:=Tryz.prog) (eqs:=eqList) (sp:=sp) (f:=f) (n:=n) (h2:=h2) zdm prog_eqs zcG prog_mix zdo zdn (by with_reducible exact hsp) prog_globals h w
end Go.Proofs.YtponjccgpbgnoaaGreatDoor
namespace Go.Proofs.YtponjccgpbgnoaaGreatDoor.find
open Go Go.RowKit Go.Shelf
attribute [local go_sem] Oper.semAt_some
abbrev Kv:=ByteArray×ByteArray
def upto{α:Type}(f:Nat→α)(k:Nat):List α:=(zT k).map f
theorem upto_succ{α:Type}(f:Nat→α)(k:Nat):upto f (k+1)=upto f k++[f k]:=by simp[upto,List.range_succ]
theorem upto_length{α:Type}(f:Nat→α)(k:Nat):(upto f k).length=k:=by simp[upto]
def back(zs:Nat→Kv)(len k:Nat):Nat×Kv:=(len-1-k,zs (len-1-k))
def Kvs(n₀:Nat)(W:World)(b off len:Nat)(zs:Nat→Kv):Prop:=
 (0<len→b<n₀)∧∀j,j<len→W.cell? ⟨b,off+j*2,none⟩=some (.string (zs j).1)∧W.cell? ⟨b,off+j*2+1,none⟩=some (.string (zs j).2)
theorem Kvs.below{n₀:Nat}{A B:World}(h:Below n₀ A B){b off len:Nat}{zs:Nat→Kv}(k:Kvs n₀ A b off len zs):Kvs n₀ B b off len zs:=
 ⟨k.1,fun j hj=>⟨(h.cell (p:=⟨b,off+j*2,none⟩) (k.1 (by omega))).trans (k.2 j hj).1,(h.cell (p:=⟨b,off+j*2+1,none⟩) (k.1 (by omega))).trans (k.2 j hj).2⟩⟩
set_option maxRecDepth 100000 in
set_option maxHeartbeats 4000000 in
theorem back1_in(F:Fence)(n:Nat)(h7:F.fn 159)(hro:F.round=none)(hn:1≤n)(l Bs n₀ b off len cap:Nat)(zs:Nat→Kv)(hreach:len≤1152921504606846976)(J Jx:List (Nat×Kv)→World→Prop)
  (hY:∀pre x W,J pre W→pre.length<len→YieldAt F (n-1) Tryz.prog l #[.int .i64 (x.1:Int),.agg #[.string x.2.1,.string x.2.2]] W fun e W'=>
   (e=.returned (.bool true)∧J (pre++[x]) W'∧Below n₀ W W')∨(e=.returned (.bool false)∧Jx (pre++[x]) W'))
  (W:World) (hBs:W.cell? ⟨Bs,0,none⟩=some (.slice (some ⟨b,off,none⟩) len cap)) (hBl:Bs<n₀) (hc:Kvs n₀ W b off len zs) (h0:J [] W) :
  CallsIn F n Tryz.prog 159 #[.func (.yield l) #[] #[],.pointer (some ⟨Bs,0,none⟩)] W fun e W'=>(∃v,e=.returned v)∧
   ((∃ys,ys=upto (back zs len) len∧J ys W')∨(∃pre,(∃k,k≤len∧pre=upto (back zs len) k)∧Jx pre W')):=by
 refine callsIn_of_wp Tryz.func159 rfl h7 ?_ hro
 simp only[Tryz.ntmps159,zE,zF,zG,zH,zI,zJ,zK,zL,zM,zC,zN]
 gi_wp2
 gi_loopw [3] (fun i wr=>∃r:Nat,r≤len∧(r=0∧i=.int .i64 (-1)∨∃s:Nat,r=s+1∧i=.int .i64 s)∧J (upto (back zs len) (len-r)) wr∧Below n₀ W wr)
  (fun i _=>(intOf i+1).toNat)
 case atStart=>
  refine⟨len,zA _,?_,by rw[Nat.sub_self];exact h0,Below.refl _ _⟩
  cases len with
  | zero=>exact .inl ⟨rfl,by simp⟩
  | succ s=>exact .inr ⟨s,rfl,by congr 1;omega⟩
 case round=>
  obtain⟨r,hr,hi,hJs,hnx⟩:=hrel
  have hbs:=(hnx.cell (p:=⟨Bs,0,none⟩) hBl).trans hBs
  rcases hi with⟨rfl,rfl⟩|⟨s,rfl,rfl⟩
  .gi_wp2
   go_end0
   exact⟨⟨_,rfl⟩,.inl ⟨_,rfl,hJs⟩⟩
  .have hc1:=(hc.below hnx).2 s (by omega)
   obtain⟨c1,c2⟩:=hc1
   have hbk:back zs len (len-(s+1))=(s,zs s):=by
    unfold back
    have:len-1-(len-(s+1))=s:=by omega
    rw[this]
   obtain⟨fn,tmps,assign,body,hy,hR⟩:=hY _ (s,zs s) wr hJs (by rw[upto_length];omega)
   dsimp only at hy
   have hup:upto (back zs len) (len-(s+1))++[(s,zs s)]=upto (back zs len) (len-s):=by
    rw[show len-s=(len-(s+1))+1 by omega,upto_succ,hbk]
   rw[hup]at hR
   gi_wp2
   refine hR.mono ?_
   rintro e W3 (⟨rfl,hJ3,hk3⟩|⟨rfl,hJx3⟩)
   .gi_wp2
    go_roundw
    case rel=>
     refine⟨s,by omega,?_,hJ3,hnx.trans hk3⟩
     cases s with
     | zero=>exact .inl ⟨rfl,by simp⟩
     | succ t=>exact .inr ⟨t,rfl,by congr 1;omega⟩
    case measure=>simp[intOf]
   .gi_wp2
    refine bodyPost_ret (results_none rfl _ _ _) rfl ?_
    exact⟨⟨_,rfl⟩,.inr ⟨_,⟨len-s,by omega,rfl⟩,hJx3⟩⟩
set_option maxHeartbeats 1000000 in
theorem back1_nil_in(F:Fence)(n:Nat)(h7:F.fn 159)(hro:F.round=none)(l Bs:Nat)(J:List (Nat×Kv)→World→Prop)(W:World)(hBs:W.cell? ⟨Bs,0,none⟩=some (.slice none 0 0))(h0:J [] W) :
  CallsIn F n Tryz.prog 159 #[.func (.yield l) #[] #[],.pointer (some ⟨Bs,0,none⟩)] W fun e W'=>(∃v,e=.returned v)∧J [] W':=by
 refine callsIn_of_wp Tryz.func159 rfl h7 ?_ hro
 simp only[Tryz.ntmps159,zE,zF,zG,zH,zI,zJ,zK,zL,zM,zC,zN]
 gi_wp2
 gi_loopw [3] (fun i wr=>i=.int .i64 (-1)∧J [] wr) (fun _ _=>0)
 case atStart=>exact⟨by simp,h0⟩
 case round=>
  obtain⟨rfl,hJs⟩:=hrel
  gi_wp2
  go_end0
  exact⟨⟨_,rfl⟩,hJs⟩
set_option maxHeartbeats 1000000 in
theorem back_in(F:Fence)(n:Nat)(h5:F.fn 120)(hro:F.round=none)(a:Option Addr)(len cap:Nat)(w:World) :
  CallsIn F n Tryz.prog 120 #[.slice a len cap] w fun e w'=>e=.returned (.func (.func 159) #[] #[.pointer (some ⟨w.heap.size,0,none⟩)])∧w'=w.alloc (.cells #[.slice a len cap] 122):=by
 refine callsIn_of_wp Tryz.func120 rfl h5 ?_ hro
 simp only[Tryz.ntmps120,zE,zF,zG,zH,zI,zJ,zK,zL,zM,zC,zN]
 gi_wp2
 go_ret
 exact⟨rfl,rfl⟩
def Holds(n₀:Nat)(W:World)(a:Option Addr)(len cap:Nat)(zs:Nat→Kv):Prop:=
 (a=none∧len=0∧cap=0)∨∃b off,a=some ⟨b,off,none⟩∧Kvs n₀ W b off len zs
theorem Holds.below{n₀:Nat}{A B:World}(h:Below n₀ A B){a:Option Addr}{len cap:Nat}{zs:Nat→Kv}(k:Holds n₀ A a len cap zs):Holds n₀ B a len cap zs:=by
 rcases k with k|⟨b,off,h1,h2⟩
 .exact .inl k
 .exact .inr ⟨b,off,h1,h2.below h⟩
theorem Holds.more{n₀ n₁:Nat}{W:World}{a:Option Addr}{len cap:Nat}{zs:Nat→Kv}(k:Holds n₀ W a len cap zs)(h:n₀≤n₁):Holds n₁ W a len cap zs:=by
 rcases k with k|⟨b,off,h1,h2,h3⟩
 .exact .inl k
 .exact .inr ⟨b,off,h1,fun h0=>zO (h2 h0) h,h3⟩
theorem back_stops(F:Fence)(n:Nat)(h7:F.fn 159)(hro:F.round=none)(hn:1≤n)(Bs n₀:Nat)(a:Option Addr)(len cap:Nat)(zs:Nat→Kv)(hreach:len≤1152921504606846976)(w:World)(hBs:Bs<n₀)(hn₀:n₀≤w.heap.size)
  (hc:w.cell? ⟨Bs,0,none⟩=some (.slice a len cap)) (hI:Holds n₀ w a len cap zs) :
  SeqStopsK F n Tryz.prog 159 #[.pointer (some ⟨Bs,0,none⟩)] (fun x:Nat×Kv=>#[Value.int .i64 (x.1:Int),.agg #[.string x.2.1,.string x.2.2]]) (Below n₀) (fun ys=>ys=upto (back zs len) len) (fun pre=>∃k,k≤len∧pre=upto (back zs len) k) len w:=fun l J Jx W hW _ _ hY h0=>by
 have hc':=(hW.cell (p:=⟨Bs,0,none⟩) (zO hBs hn₀)).trans hc
 rcases hI.below (hW.mono hn₀)with⟨rfl,rfl,rfl⟩|⟨b,off,rfl,hcs⟩
 .exact(back1_nil_in F n h7 hro l Bs J W hc' h0).mono fun e W' ⟨he,hj⟩=>⟨he,.inl ⟨_,rfl,hj⟩⟩
 .exact(back1_in F n h7 hro hn l Bs n₀ b off len cap zs hreach J Jx hY W hc' hBs hcs h0).mono fun e W' ⟨he,hh⟩=>⟨he,hh.imp id (fun⟨pre,hk,hj⟩=>⟨pre,hk,hj⟩)⟩
theorem two_new(W:World)(x y:Value)(t:TypeId)(k:Nat)(hk:k<2):(W.alloc (.cells #[x,y] t)).cell? ⟨W.heap.size,k,none⟩=#[x,y][k]?:=by
 have h:(W.alloc (.cells #[x,y] t)).heap[W.heap.size]?=some (.cells #[x,y] t):=World.alloc_heap_new W _
 unfold World.cell?
 rw[h]
 rfl
def findK(zs:Nat→Kv)(key:ByteArray):Nat→Option ByteArray
 | 0=>none
 | n+1=>if((zs n).1.toList==key.toList)=true then some (zs n).2 else findK zs key n
theorem findK_none{zs:Nat→Kv}{key:ByteArray}:∀ {n:Nat},(∀j,j<n→((zs j).1.toList==key.toList)=false)→findK zs key n=none:=by
 intro n
 induction n with
 | zero=>intro _;rfl
 | succ n ih=>
  intro h
  unfold findK
  rw[if_neg (by rw[h n (by omega)];decide)]
  exact ih (fun j hj=>h j (by omega))
theorem findK_some{zs:Nat→Kv}{key:ByteArray}{s:Nat}(hs:((zs s).1.toList==key.toList)=true):∀ {n:Nat},s<n→(∀j,s<j→j<n→((zs j).1.toList==key.toList)=false)→findK zs key n=some (zs s).2:=by
 intro n
 induction n with
 | zero=>intro h _;omega
 | succ n ih=>
  intro h h2
  unfold findK
  by_cases hn:s=n
  .subst hn;rw[if_pos hs]
  .rw[if_neg (by rw[h2 n (by omega) (by omega)];decide)]
   exact ih (by omega) (fun j h3 h4=>h2 j h3 (by omega))
theorem back_mem{zs:Nat→Kv}{len k j:Nat}(hj:j<len)(hk:len-1-j<k):(j,zs j)∈upto (back zs len) k:=by
 simp only[upto,List.mem_map,List.mem_range]
 refine⟨len-1-j,hk,?_⟩
 unfold back
 rw[show len-1-(len-1-j)=j by omega]
def findV(o:Option ByteArray):ByteArray:=match o with|some v=>v|none=>⟨#[]⟩
set_option maxRecDepth 100000 in
set_option maxHeartbeats 4000000 in
theorem Find_in(F:Fence)(n:Nat)(h60:F.fn 69)(h106:F.fn 120)(h151:F.fn 159)(hro:F.round=none)(hn:3≤n)(a:Option Addr)(len cap:Nat)(zs:Nat→Kv)(hreach:len≤1152921504606846976)(key:ByteArray)(w:World)(hI:Holds w.heap.size w a len cap zs) :
  CallsIn F n Tryz.prog 69 #[.slice a len cap,.string key] w fun e W'=>e=.returned (.tuple #[.string (findV (findK zs key len)),.bool (findK zs key len).isSome])∧Below w.heap.size w W':=by
 have h1:1≤n:=by omega
 refine callsIn_of_wp_marks Tryz.func69 rfl h60 ?_ hro
 simp only[Tryz.ntmps69,zE,zF,zG,zH,zI,zJ,zK,zL,zM,zC,zN]
 gi_wp2_with (gi_at_call 120;refine(back_in F (n-1) h106 hro _ _ _ _).mono ?_;rintro e w' ⟨rfl,rfl⟩)
 have bK:=(((Boxed.new w 9 (.string key)).alloc (.cells #[.string ⟨#[]⟩] 9)).alloc (.cells #[.bool false] 4)).alloc (.cells #[.slice a len cap] 122)
 have bV:=((Boxed.new (w.alloc (.cells #[.string key] 9)) 9 (.string ⟨#[]⟩)).alloc (.cells #[.bool false] 4)).alloc (.cells #[.slice a len cap] 122)
 have bB:=(Boxed.new ((w.alloc (.cells #[.string key] 9)).alloc (.cells #[.string ⟨#[]⟩] 9)) 4 (.bool false)).alloc (.cells #[.slice a len cap] 122)
 have bS:=Boxed.new (((w.alloc (.cells #[.string key] 9)).alloc (.cells #[.string ⟨#[]⟩] 9)).alloc (.cells #[.bool false] 4)) 122 (.slice a len cap)
 simp only[World.size_alloc]at bV bB bS
 have hB0:Below w.heap.size w ((((w.alloc (.cells #[.string key] 9)).alloc (.cells #[.string ⟨#[]⟩] 9)).alloc (.cells #[.bool false] 4)).alloc (.cells #[.slice a len cap] 122)):=((((Below.refl _ w).alloc (zA _) _).alloc (by simp) _).alloc (by simp;omega) _).alloc (by simp;omega) _
 have hsz:((((w.alloc (.cells #[.string key] 9)).alloc (.cells #[.string ⟨#[]⟩] 9)).alloc (.cells #[.bool false] 4)).alloc (.cells #[.slice a len cap] 122)).heap.size=w.heap.size+4:=by simp
 obtain⟨W0,hW0⟩:∃W0,((((w.alloc (.cells #[.string key] 9)).alloc (.cells #[.string ⟨#[]⟩] 9)).alloc (.cells #[.bool false] 4)).alloc (.cells #[.slice a len cap] 122))=W0:=⟨_,rfl⟩
 rw[hW0]at bK bV bB bS hB0 hsz ⊢
 clear hW0
 refine wpIn_rangeFunc_ownH hro h1 (gf:=159) (lb:=#[.pointer (some ⟨w.heap.size+1+1+1,0,none⟩)]) rfl h151 (enters_of Tryz.func159 (by kernel_rfl) rfl)
  (back_stops F (n-1) h151 hro (by omega) (w.heap.size+1+1+1) W0.heap.size a len cap zs hreach W0 (by omega) (zA _) bS.cell ((hI.below hB0).more (by omega))) belowK_t (belowK_b (zA _)) (Below.refl _ _) (fun _=>rfl)
  (fun pre W=>((Boxed W w.heap.size 9 (.string key)∧Boxed W (w.heap.size+1) 9 (.string ⟨#[]⟩))∧Boxed W (w.heap.size+1+1) 4 (.bool false))∧((∀p∈pre,(p.2.1.toList==key.toList)=false)∧(Below w.heap.size w W∧Below W0.heap.size W0 W)))
  (fun c pre W=>(c=.ret∧∃ini last,pre=ini++[last]∧(∀p∈ini,(p.2.1.toList==key.toList)=false)∧(last.2.1.toList==key.toList)=true∧W.cell? ⟨w.heap.size+1,0,none⟩=some (.string last.2.2)∧W.cell? ⟨w.heap.size+1+1,0,none⟩=some (.bool true))∧Below w.heap.size w W)
  (OwnFrom.and (OwnFrom.and (OwnFrom.and (Own.from (boxed_own _ _ _) _) (Own.from (boxed_own _ _ _) _)) (Own.from (boxed_own _ _ _) _)) (OwnFrom.and (ownFrom_pure _ _) (OwnFrom.and (ownFrom_below (zA _) (by omega)) (ownFrom_below (zA _) (zA _)))))
  (fun c=>OwnFrom.and (Own.from (fun s A B row hs hg hr=>by obtain⟨hc,ini,last,e1,e2,e3,e4,e5⟩:=hs;exact⟨hc,ini,last,e1,e2,e3,cell_kept e4 hg hr,cell_kept e5 hg hr⟩) _) (ownFrom_below (zA _) (by omega)))
  ⟨⟨⟨bK,bV⟩,bB⟩,by simp,hB0,Below.refl _ _⟩
  (fun x a' W=>∃Bx,W0.heap.size≤Bx∧W.cell? ⟨Bx,0,none⟩=some (.string x.2.1)∧W.cell? ⟨Bx,1,none⟩=some (.string x.2.2)∧a'={ tmps:=#[.slice a len cap,.string key,undef,.pointer (some ⟨w.heap.size,0,none⟩),.pointer (some ⟨w.heap.size+1,0,none⟩),.pointer (some ⟨w.heap.size+1+1,0,none⟩),undef,.pointer (some ⟨Bx,0,none⟩),.slice a len cap,.func (.func 159) #[] #[.pointer (some ⟨w.heap.size+1+1+1,0,none⟩)],.int .i64 (x.1:Int),.agg #[.string x.2.1,.string x.2.2],undef,undef,undef,undef,undef,undef],defers:=[] })
  (fun x a' _ X Y row hs hg hr=>by obtain⟨Bx,h1,h2,h3,h4⟩:=hs;exact⟨Bx,h1,cell_kept h2 hg (fun r e=>(hr r e).2),cell_kept h3 hg (fun r e=>(hr r e).2),h4⟩)
  ?assign ?body ?done ?stop
 case assign=>
  rintro l pre x W K ⟨⟨⟨bK1,bV1⟩,bB1⟩,hp,hB1,hB2⟩ hK
  gi_wp2
  exact hK _ _ ((KeepsOthers.alloc _ _).from _) ((Below.refl _ W).alloc hB2.size _) ⟨⟨⟨bK1.alloc _,bV1.alloc _⟩,bB1.alloc _⟩,hp,hB1.alloc hB1.size _,hB2.alloc hB2.size _⟩
   ⟨W.heap.size,hB2.size,two_new W _ _ _ 0 (by decide),two_new W _ _ _ 1 (by decide),rfl⟩
 case body=>
  rintro l pre x a' W hl ⟨r,hr⟩ ⟨⟨⟨bK1,bV1⟩,bB1⟩,hp,hB1,hB2⟩ ⟨Bx,hBx,c0,c1,rfl⟩ hlt
  have cK:=bK1.cell
  have cV:=bV1.cell
  have cB:=bB1.cell
  have fV:=bV1.frozen
  have fB:=bB1.frozen
  gi_wp2
  .have hx:(x.2.1.toList==key.toList)=true:=by assumption
   exact⟨((KeepsOthers.setCell _ _ _).from _).trans ((KeepsOthers.setCell _ _ _).from _),⟨rfl,pre,x,rfl,hp,hx,((bV1.set (.string x.2.2)).other (by omega) (.bool true)).cell,((bB1.other (by omega) (.string x.2.2)).set (.bool true)).cell⟩,
    (hB1.setCell (p:=⟨w.heap.size+1,0,none⟩) (by simp) _).setCell (p:=⟨w.heap.size+1+1,0,none⟩) (by simp;omega) _⟩
  .have hx:(x.2.1.toList==key.toList)=false:=by first|assumption|(simp only[Bool.not_eq_true]at *;assumption)
   exact⟨KeepsFrom.refl _ _,Below.refl _ _,⟨⟨bK1,bV1⟩,bB1⟩,fun p hp'=>(List.mem_append.1 hp').elim (hp p) (fun e=>by simp at e;subst e;exact hx),hB1,hB2⟩
 case done=>
  rintro D ys W hD rfl ⟨⟨⟨bK1,bV1⟩,bB1⟩,hp,hB1,hB2⟩ hK
  have cV:=bV1.cell
  have cB:=bB1.cell
  have fV:=bV1.frozen
  have fB:=bB1.frozen
  gi_wp2
  have hnone:findK zs key len=none:=findK_none fun j hj=>hp (j,zs j) (back_mem hj (by omega))
  rw[hnone]
  have hK1:=(KeepsOthers.setCell W ⟨w.heap.size+1,0,none⟩ (.string ⟨#[]⟩)).same D _ hK rfl
  have hK2:=(KeepsOthers.setCell (W.setCell ⟨w.heap.size+1,0,none⟩ (.string ⟨#[]⟩)) ⟨w.heap.size+1+1,0,none⟩ (.bool false)).same D _ hK1 rfl
  have c4:=((bV1.set (.string ⟨#[]⟩)).other (B':=w.heap.size+1+1) (by omega) (.bool false)).cell
  have c5:=((bB1.other (B':=w.heap.size+1) (by omega) (.string ⟨#[]⟩)).set (.bool false)).cell
  have d4:=cell_kept c4 (grownBy_putObj' _ D (.deferred none)) (fun r e=>by cases e;exact⟨_,hK2,rfl⟩)
  have d5:=cell_kept c5 (grownBy_putObj' _ D (.deferred none)) (fun r e=>by cases e;exact⟨_,hK2,rfl⟩)
  refine⟨by simp,.inl ⟨_,_,rfl,run_takeDeferred hK2,?_⟩⟩
  refine⟨.tuple #[.string ⟨#[]⟩,.bool false],?_,rfl,((hB1.setCell (p:=⟨w.heap.size+1,0,none⟩) (by simp) _).setCell (p:=⟨w.heap.size+1+1,0,none⟩) (by simp;omega) _).trans (belowK_b (w:=w) (zA _) _ D _ _ (by omega) hK2 rfl rfl)⟩
  simp[results,Tryz.f69,go_sem,d4,d5]
 case stop=>
  rintro D c pre W hD ⟨k,hk,rfl⟩ ⟨⟨rfl,ini,last,e1,e2,e3,e4,e5⟩,hB⟩ hK
  gi_wp2
  obtain⟨k',rfl⟩:∃k',k=k'+1:=by
   cases k with
   | zero=>simp[upto]at e1
   | succ k'=>exact⟨k',rfl⟩
  rw[upto_succ]at e1
  obtain⟨rfl,e6⟩:=List.append_inj' e1 rfl
  obtain rfl:back zs len k'=last:=by simpa using e6
  have hsome:findK zs key len=some (zs (len-1-k')).2:=findK_some e3 (by omega) (fun j h1 h2=>e2 (j,zs j) (back_mem h2 (by omega)))
  rw[hsome]
  have d4:=cell_kept e4 (grownBy_putObj' _ D (.deferred none)) (fun r e=>by cases e;exact⟨_,hK,rfl⟩)
  have d5:=cell_kept e5 (grownBy_putObj' _ D (.deferred none)) (fun r e=>by cases e;exact⟨_,hK,rfl⟩)
  refine⟨by simp,.inl ⟨_,_,rfl,run_takeDeferred hK,?_⟩⟩
  refine⟨.tuple #[.string (zs (len-1-k')).2,.bool true],?_,rfl,hB.trans (belowK_b (w:=w) (zA _) W D _ _ (by omega) hK rfl rfl)⟩
  simp[results,Tryz.f69,go_sem,d4,d5,back]
theorem Find_calls(a:Option Addr)(len cap:Nat)(zs:Nat→Kv)(hreach:len≤1152921504606846976)(key:ByteArray)(w:World)(hI:Holds w.heap.size w a len cap zs) :
  Calls Tryz.prog 69 #[.slice a len cap,.string key] w fun e W'=>e=.returned (.tuple #[.string (findV (findK zs key len)),.bool (findK zs key len).isSome])∧Below w.heap.size w W':=
 callsIn_wide.1 (Find_in Fence.wide 3 trivial trivial trivial rfl (zA _) a len cap zs hreach key w hI)
theorem Find_calls'(a:Option Addr)(len cap:Nat)(zs:Nat→Kv)(key:ByteArray)(w:World)(hreach:len≤1152921504606846976)(hI:Holds w.heap.size w a len cap zs) :
  Calls Tryz.prog 69 #[.slice a len cap,.string key] w fun e W'=>e=.returned (.tuple #[.string (findV (findK zs key len)),.bool (findK zs key len).isSome])∧Below w.heap.size w W':=
 Find_calls a len cap zs hreach key w hI
end Go.Proofs.YtponjccgpbgnoaaGreatDoor.find
namespace Go.Proofs.YtponjccgpbgnoaaGreatDoor.chunk
open Go Go.RowKit Go.Shelf
attribute [local go_sem] Oper.semAt_some
def Kp(Bs Bn:Nat)(W W':World):Prop:=W'.heap[Bs]?=W.heap[Bs]?∧W'.heap[Bn]?=W.heap[Bn]?
theorem Kp.cell{Bs Bn:Nat}{W W':World}(h:Kp Bs Bn W W'):W'.cell? ⟨Bs,0,none⟩=W.cell? ⟨Bs,0,none⟩∧W'.cell? ⟨Bn,0,none⟩=W.cell? ⟨Bn,0,none⟩:=by
 unfold World.cell?
 exact⟨by simp only[h.1],by simp only[h.2]⟩
theorem Kp.trans{Bs Bn:Nat}{A B C:World}(h:Kp Bs Bn A B)(k:Kp Bs Bn B C):Kp Bs Bn A C:=⟨k.1.trans h.1,k.2.trans h.2⟩
set_option maxRecDepth 100000 in
set_option maxHeartbeats 4000000 in
theorem chunk1_in(F:Fence)(n:Nat)(h7:F.fn 109)(hro:F.round=none)(hn:1≤n)(l Bs Bn b off len cap:Nat)(h1:1≤len)(h2:len<4096)(hcap:len≤cap)(J Jx:List Unit→World→Prop)
  (hJd:∀pre W,J pre W→J pre W.drew)
  (hY:∀pre x W,J pre W→pre.length<1→YieldAt F (n-1) Tryz.prog l #[.slice (some ⟨b,off,none⟩) len len] W fun e W'=>
   (e=.returned (.bool true)∧J (pre++[x]) W'∧Kp Bs Bn W W')∨(e=.returned (.bool false)∧Jx (pre++[x]) W'))
  (W:World) (hBs:W.cell? ⟨Bs,0,none⟩=some (.slice (some ⟨b,off,none⟩) len cap)) (hBn:W.cell? ⟨Bn,0,none⟩=some (.int .i64 4096)) (h0:J [] W) :
  CallsIn F n Tryz.prog 109 #[.func (.yield l) #[] #[],.pointer (some ⟨Bs,0,none⟩),.pointer (some ⟨Bn,0,none⟩)] W fun e W'=>(∃v,e=.returned v)∧
   ((∃ys,ys=[()]∧J ys W')∨(∃pre,pre=[()]∧Jx pre W')):=by
 refine callsIn_of_wp Tryz.func109 rfl h7 ?_ hro
 simp only[Tryz.ntmps109,zE,zF,zG,zH,zI,zJ,zK,zL,zM,zC,zN]
 gi_wp2
 gi_loopw [4] (fun i wr=>(wr.cell? ⟨Bs,0,none⟩=some (.slice (some ⟨b,off,none⟩) len cap)∧wr.cell? ⟨Bn,0,none⟩=some (.int .i64 4096))∧(i=.int .i64 0∧J [] wr∨i=.int .i64 4096∧J [()] wr))
  (fun i _=>(5000-intOf i).toNat)
 case atStart=>exact⟨⟨hBs,hBn⟩,.inl ⟨rfl,h0⟩⟩
 case round=>
  obtain⟨⟨c1,c2⟩,hi⟩:=hrel
  rcases hi with⟨rfl,hJs⟩|⟨rfl,hJs⟩
  .have d1:wr.drew.cell? ⟨Bs,0,none⟩=some (.slice (some ⟨b,off,none⟩) len cap):=c1
   have d2:wr.drew.cell? ⟨Bn,0,none⟩=some (.int .i64 4096):=c2
   obtain⟨fn,tmps,assign,body,hy,hR⟩:=hY [] () wr.drew (hJd _ _ hJs) (by simp)
   have hlen:(IntKind.i64.wrap (len:Int))=len:=IntWalk.i64_in _ (by omega)
   gi_wp2
   gi_region
   all_goals gi_wp2
   all_goals (
    refine hR.mono ?_
    rintro e W3 (⟨rfl,hJ3,hk3⟩|⟨rfl,hJx3⟩)
    .have f1:=hk3.cell.1.trans d1
     have f2:=hk3.cell.2.trans d2
     gi_wp2
     go_roundw
     case rel=>exact⟨⟨f1,f2⟩,.inr ⟨by simp,hJ3⟩⟩
     case measure=>simp[intOf]
    .gi_wp2
     refine bodyPost_ret (results_none rfl _ _ _) rfl ?_
     exact⟨⟨_,rfl⟩,.inr ⟨_,rfl,hJx3⟩⟩)
  .gi_wp2
   go_end0
   exact⟨⟨_,rfl⟩,.inl ⟨_,rfl,hJs⟩⟩
set_option maxHeartbeats 1000000 in
theorem chunk_in(F:Fence)(n:Nat)(h5:F.fn 61)(hro:F.round=none)(a:Option Addr)(len cap:Nat)(w:World) :
  CallsIn F n Tryz.prog 61 #[.slice a len cap,.int .i64 4096] w fun e w'=>e=.returned (.func (.func 109) #[] #[.pointer (some ⟨w.heap.size,0,none⟩),.pointer (some ⟨w.heap.size+1,0,none⟩)])∧w'=(w.alloc (.cells #[.slice a len cap] 22)).alloc (.cells #[.int .i64 4096] 3):=by
 refine callsIn_of_wp Tryz.func61 rfl h5 ?_ hro
 simp only[Tryz.ntmps61,zE,zF,zG,zH,zI,zJ,zK,zL,zM,zC,zN]
 gi_wp2
 go_ret
 exact⟨rfl,rfl⟩
theorem grown_drew(w:World)(row:Option Nat):w.grownBy w.drew row:=⟨rfl,rfl,rfl,zA _,fun _ _ _=>rfl⟩
theorem chunk_stops(F:Fence)(n:Nat)(h7:F.fn 109)(hro:F.round=none)(hn:1≤n)(Bs Bn b off len cap:Nat)(h1:1≤len)(h2:len<4096)(hcap:len≤cap)(w:World)(hBs:Bs<w.heap.size)(hBn:Bn<w.heap.size)
  (c1:w.cell? ⟨Bs,0,none⟩=some (.slice (some ⟨b,off,none⟩) len cap)) (c2:w.cell? ⟨Bn,0,none⟩=some (.int .i64 4096)) :
  SeqStopsK F n Tryz.prog 109 #[.pointer (some ⟨Bs,0,none⟩),.pointer (some ⟨Bn,0,none⟩)] (fun _:Unit=>#[Value.slice (some ⟨b,off,none⟩) len len]) (Kp Bs Bn) (fun ys=>ys=[()]) (fun pre=>pre=[()]) 1 w:=fun l J Jx W hW hJ _ hY h0=>
 chunk1_in F n h7 hro hn l Bs Bn b off len cap h1 h2 hcap J Jx (fun pre W h=>hJ pre W W.drew none h (grown_drew W none) (fun r e=>by cases e)) hY W ((hW.cell (p:=⟨Bs,0,none⟩) hBs).trans c1) ((hW.cell (p:=⟨Bn,0,none⟩) hBn).trans c2) h0
end Go.Proofs.YtponjccgpbgnoaaGreatDoor.chunk
namespace Go.Proofs.YtponjccgpbgnoaaGreatDoor
open Go Go.RowKit
theorem HR.below{P:Program}{β:Bt}{h:Hp}{w w':World}(H:HR P β h w)(B:Below w.heap.size w w'):HR P β h w':=
 ⟨H.most,H.dom,H.has,fun b x i a c=>zaK (H.ok b x i a c) (fun he=>B.block _ (blk_lt (H.ok b x i a c) he)),H.apart⟩
theorem St.below{β:Bt}{h:Hp}{w w':World}(B:Below w.heap.size w w'):St β h w β h w':=
 ⟨.refl _,B.os,B.tape,B.output,B.size,fun k hk _=>B.block k hk,fun _ h=>.inl h,fun _ h=>.inl h⟩
def Tr.mapv{α:Type}(f:α→α):Tr α→Tr α
 | .nil=>.nil
 | .node v l r=>.node (match v with|some x=>some (f x)|none=>none) (l.mapv f) (r.mapv f)
theorem Tr.getN_mapv{α:Type}(f:α→α):∀(n:Nat) (t:Tr α) (k:Nat),Tr.getN n (t.mapv f) k=(Tr.getN n t k).map f:=by
 intro n
 induction n with
 | zero=>intro t k;rfl
 | succ n ih=>
  intro t k
  cases t with
  | nil=>rfl
  | node v l r=>
   rw[Tr.getN_node,show(Tr.node v l r).mapv f=.node (match v with|some x=>some (f x)|none=>none) (l.mapv f) (r.mapv f)from rfl,Tr.getN_node]
   by_cases h:k=0
   .rw[if_pos h,if_pos h];cases v<;>rfl
   .rw[if_neg h,if_neg h]
    by_cases h2:k % 2=1
    .rw[if_pos h2,if_pos h2];exact ih _ _
    .rw[if_neg h2,if_neg h2];exact ih _ _
theorem Tr.get_mapv{α:Type}(f:α→α)(t:Tr α)(k:Nat):(t.mapv f).get k=(t.get k).map f:=by rw[Tr.get_eqN,Tr.get_eqN];exact Tr.getN_mapv f 64 t k
def calmB:Blk→Blk
 | .map _ _=>.dead
 | x=>x
def Hp.calm(h:Hp):Hp:=⟨h.next,h.t.mapv calmB⟩
theorem Hp.get_calm(h:Hp)(b:Nat):h.calm.get b=(h.get b).map calmB:=Tr.get_mapv _ _ _
theorem zaQ{h:Hp}{b:Nat}{x:Blk}(hx:h.calm.get b=some x):∃y,h.get b=some y∧x=calmB y:=by
 rw[Hp.get_calm]at hx
 cases hy:h.get b with
 | none=>rw[hy]at hx;cases hx
 | some y=>rw[hy]at hx;injection hx with hx;exact⟨y,rfl,hx.symm⟩
theorem zdd{y:Blk}(h:¬(calmB y).empty):calmB y=y∧¬y.empty:=by
 cases y with
 | map es c=>exact absurd trivial h
 | cells c e x r=>exact⟨rfl,h⟩
 | dead=>exact⟨rfl,h⟩
 | view b=>exact⟨rfl,h⟩
theorem HR.calm{P:Program}{β:Bt}{h:Hp}{w:World}(H:HR P β h w):HR P β h.calm w where
 most:=H.most
 dom:=H.dom
 has:=fun b x hx=>by obtain⟨y,hy,_⟩:=zaQ hx;exact H.has b y hy
 ok:=fun b x i hx hi=>by
  obtain⟨y,hy,rfl⟩:=zaQ hx
  have:=H.ok b y i hy hi
  cases y with
  | map es c=>trivial
  | cells c e x r=>exact this
  | dead=>trivial
  | view v=>exact this
 apart:=fun b b' i i' x y hx hy hne hi hi' hm he=>by
  obtain⟨x',hx',rfl⟩:=zaQ hx
  obtain⟨y',hy',rfl⟩:=zaQ hy
  have hm':=zdd (zaC hm)
  have he':=zdd he
  exact H.apart b b' i i' x' y' hx' hy' hne hi hi' (by rw[←hm'.1];exact hm) he'.2
theorem zdb{β:Bt}{h:Hp}{k:Nat}(hk:Held β h.calm k):Held β h k:=by
 obtain⟨b,i,x,hx,hne,hi,e⟩:=hk
 obtain⟨y,hy,rfl⟩:=zaQ hx
 exact⟨b,i,y,hy,(zdd hne).2,hi,e⟩
theorem own_calm{β:Bt}{h:Hp}{k:Nat}(hk:Own β h.calm k):Own β h k:=by
 obtain⟨b,i,x,hx,hm,hi,e⟩:=hk
 obtain⟨y,hy,rfl⟩:=zaQ hx
 have:=zdd (zaC hm)
 exact⟨b,i,y,hy,by rw[←this.1];exact hm,hi,e⟩
theorem HR.other{P:Program}{β:Bt}{h:Hp}{w w':World}(H:HR P β h w)(hk:∀k,Held β h k→w'.heap[k]?=w.heap[k]?):HR P β h w':=
 ⟨H.most,H.dom,H.has,fun b x i a c=>zaK (H.ok b x i a c) (fun he=>hk _ ⟨b,i,x,a,he,c,rfl⟩),H.apart⟩
theorem held_cells{P:Program}{β:Bt}{h:Hp}{w:World}(H:HR P β h.calm w){k:Nat}(hk:Held β h.calm k):∃o:Obj,w.heap[k]?=some o∧o.isCells=true:=by
 obtain⟨b,i,x,hx,hne,hi,rfl⟩:=hk
 obtain⟨y,hy,rfl⟩:=zaQ hx
 have ok:=H.ok b _ i hx hi
 cases y with
 | map es c=>exact absurd trivial hne
 | dead=>exact absurd trivial hne
 | view v=>exact absurd trivial hne
 | cells c e x r=>
  rcases ok with⟨rfl,rfl,rfl⟩|⟨cc,e',fr,hb,_⟩
  .exact absurd trivial hne
  .exact⟨_,hb,rfl⟩
theorem held_lt{P:Program}{β:Bt}{h:Hp}{w:World}(H:HR P β h w){k:Nat}(hk:Held β h k):k<w.heap.size:=by
 obtain⟨b,i,x,hx,hne,hi,rfl⟩:=hk
 exact blk_lt (H.ok _ _ _ hx hi) hne
theorem HR.turn{P:Program}{β:Bt}{h:Hp}{w w':World}{row:Option Nat}(H:HR P β h.calm w)(hg:w.grownBy w' row)(hr:∀r,row=some r→∃o:Obj,w.heap[r]?=some o∧o.isCells=false):HR P β h.calm w':=
 H.other fun k hk=>hg.block k (held_lt H hk) (fun e=>by
  obtain⟨o,ho,hc⟩:=hr k e.symm
  obtain⟨o',ho',hc'⟩:=held_cells H hk
  rw[ho]at ho'
  injection ho' with ho'
  rw[ho',hc']at hc
  cases hc)
end Go.Proofs.YtponjccgpbgnoaaGreatDoor
namespace Go.Proofs.YtponjccgpbgnoaaGreatDoor.into
open Go Go.RowKit Go.Shelf
attribute [local go_sem] Oper.semAt_some
def Pre(s B:Nat)(w:World)(β:Bt)(h0 h2:Hp)(pre:List Unit)(W:World):Prop:=
 (pre=[]∧Below w.heap.size w W∧B≤W.heap.size)∨(pre≠[]∧∃β2,HR Tryz.prog β2 h2.calm W∧St β h0 w β2 h2.calm W∧∀k,Held β2 h2.calm k→k<s∨B≤k)
theorem pre_own{s B:Nat}{w:World}{β:Bt}{h0 h2:Hp}(hB:w.heap.size≤B):OwnFrom B (Pre s B w β h0 h2):=by
 intro pre W W' row hI hg hr
 rcases hI with⟨h1,h3,h4⟩|⟨h1,β2,H2,S2,hK⟩
 .exact .inl ⟨h1,ownFrom_below (β:=Unit) (zA _) hB () W W' row h3 hg hr,zP h4 hg.size⟩
 .refine .inr ⟨h1,β2,H2.turn hg (fun r e=>(hr r e).2),⟨S2.le,hg.os.trans S2.os,hg.tape.trans S2.tape,hg.output.trans S2.output,zP S2.size hg.size,fun k hk hn=>?_,S2.own,S2.held⟩,hK⟩
  rw[hg.block k (zO hk S2.size) (fun e=>by have:=(hr k e.symm).1;omega)]
  exact S2.keep k hk hn
set_option maxRecDepth 100000 in
set_option maxHeartbeats 4000000 in
theorem into_in(st:Option Addr)(ino:Int)(bl ol cl bp op m km:Nat)(n:Int)(β:Bt)(h0 h2:Hp)(h1:1≤m)(hm:m<4096)(hcap:m≤km)(w:World)(hlt:bl<w.heap.size)(hl:w.cell? ⟨bl,ol,none⟩=some (.slice (some ⟨bp,op,none⟩) m km))(H:HR Tryz.prog β h0.calm w)
  (hW:∀W,HR Tryz.prog β h0.calm W→Calls Tryz.prog 62 #[.pointer st,.int .i64 ino,.int .i64 0,.slice (some ⟨bp,op,none⟩) m m] W fun e W2=>∃β2,e=.returned (.tuple #[.int .i64 n,.int .i64 0])∧HR Tryz.prog β2 h2 W2∧St β h0.calm W β2 h2 W2) :
  CallsIn Fence.wide 3 Tryz.prog 30 #[.pointer st,.int .i64 ino,.slice (some ⟨bl,ol,none⟩) 1 cl] w fun e W'=>e=.returned (.int .i64 0)∧∃β2,HR Tryz.prog β2 h2.calm W'∧St β h0.calm w β2 h2.calm W':=by
 refine callsIn_of_wp_marks Tryz.func30 rfl trivial ?_ rfl
 simp only[Tryz.ntmps30,zE,zF,zG,zH,zI,zJ,zK,zL,zM,zC,zN]
 gi_wp2
 have b3:=(((Boxed.new w 26 (.pointer st)).alloc (.cells #[.int .i64 ino] 3)).alloc (.cells #[.int .i64 0] 28)).alloc (.cells #[.int .i64 0] 3)
 have b4:=((Boxed.new (w.alloc (.cells #[.pointer st] 26)) 3 (.int .i64 ino)).alloc (.cells #[.int .i64 0] 28)).alloc (.cells #[.int .i64 0] 3)
 have b6:=(Boxed.new ((w.alloc (.cells #[.pointer st] 26)).alloc (.cells #[.int .i64 ino] 3)) 28 (.int .i64 0)).alloc (.cells #[.int .i64 0] 3)
 have b7:=Boxed.new (((w.alloc (.cells #[.pointer st] 26)).alloc (.cells #[.int .i64 ino] 3)).alloc (.cells #[.int .i64 0] 28)) 3 (.int .i64 0)
 simp only[World.size_alloc]at b4 b6 b7
 have hB1:Below w.heap.size w ((((w.alloc (.cells #[.pointer st] 26)).alloc (.cells #[.int .i64 ino] 3)).alloc (.cells #[.int .i64 0] 28)).alloc (.cells #[.int .i64 0] 3)):=((((Below.refl _ w).alloc (zA _) _).alloc (by simp) _).alloc (by simp;omega) _).alloc (by simp;omega) _
 have hs1:((((w.alloc (.cells #[.pointer st] 26)).alloc (.cells #[.int .i64 ino] 3)).alloc (.cells #[.int .i64 0] 28)).alloc (.cells #[.int .i64 0] 3)).heap.size=w.heap.size+4:=by simp
 obtain⟨W1,hW1⟩:∃W1,((((w.alloc (.cells #[.pointer st] 26)).alloc (.cells #[.int .i64 ino] 3)).alloc (.cells #[.int .i64 0] 28)).alloc (.cells #[.int .i64 0] 3))=W1:=⟨_,rfl⟩
 rw[hW1]at b3 b4 b6 b7 hB1 hs1 ⊢
 clear hW1
 have hl1:=(hB1.cell (p:=⟨bl,ol,none⟩) hlt).trans hl
 have HH:Hid (HR Tryz.prog β h0.calm w):=H
 clear H hl
 refine wpIn_loop_rounds 2 ?_
 rw[roundsIn_succ]
 gi_wp2_with (refine⟨trivial,?_⟩;gi_at_call 61;refine(chunk.chunk_in Fence.wide 2 trivial rfl _ _ _ _).mono ?_;rintro e w' ⟨rfl,rfl⟩)
 have c3:=(b3.alloc (.cells #[.slice (some ⟨bp,op,none⟩) m km] 22)).alloc (.cells #[.int .i64 4096] 3)
 have c4:=(b4.alloc (.cells #[.slice (some ⟨bp,op,none⟩) m km] 22)).alloc (.cells #[.int .i64 4096] 3)
 have c6:=(b6.alloc (.cells #[.slice (some ⟨bp,op,none⟩) m km] 22)).alloc (.cells #[.int .i64 4096] 3)
 have c7:=(b7.alloc (.cells #[.slice (some ⟨bp,op,none⟩) m km] 22)).alloc (.cells #[.int .i64 4096] 3)
 have cS:=(Boxed.new W1 22 (.slice (some ⟨bp,op,none⟩) m km)).alloc (.cells #[.int .i64 4096] 3)
 have cN:=Boxed.new (W1.alloc (.cells #[.slice (some ⟨bp,op,none⟩) m km] 22)) 3 (.int .i64 4096)
 simp only[World.size_alloc]at cN
 have hB0:Below w.heap.size w ((W1.alloc (.cells #[.slice (some ⟨bp,op,none⟩) m km] 22)).alloc (.cells #[.int .i64 4096] 3)):=(hB1.alloc (by omega) _).alloc (by simp;omega) _
 have hs0:((W1.alloc (.cells #[.slice (some ⟨bp,op,none⟩) m km] 22)).alloc (.cells #[.int .i64 4096] 3)).heap.size=w.heap.size+6:=by simp[hs1]
 obtain⟨W0,hW0⟩:∃W0,((W1.alloc (.cells #[.slice (some ⟨bp,op,none⟩) m km] 22)).alloc (.cells #[.int .i64 4096] 3))=W0:=⟨_,rfl⟩
 rw[hs1]at cS cN
 rw[hW0]at c3 c4 c6 c7 cS cN hB0 hs0
 rw[hW0]
 clear hW0 hl1
 refine wpIn_rangeFunc_ownG rfl (by decide) (gf:=109) (lb:=#[.pointer (some ⟨w.heap.size+4,0,none⟩),.pointer (some ⟨w.heap.size+4+1,0,none⟩)]) rfl trivial (enters_of Tryz.func109 (by kernel_rfl) rfl)
  (chunk.chunk_stops Fence.wide (3-1) trivial rfl (by decide) (w.heap.size+4) (w.heap.size+4+1) bp op m km h1 hm hcap W0 (by omega) (by omega) cS.cell cN.cell) (fun h k=>h.trans k) (fun W l o o' h3 _ _ _=>⟨World.putObj_heap_other (by omega),World.putObj_heap_other (by omega)⟩) (Below.refl _ _) (fun _=>rfl)
  (fun pre W=>(((Boxed W w.heap.size 26 (.pointer st)∧Boxed W (w.heap.size+1) 3 (.int .i64 ino))∧Boxed W (w.heap.size+1+1) 28 (.int .i64 0))∧(pre=[]→Boxed W (w.heap.size+1+1+1) 3 (.int .i64 0)))∧Pre w.heap.size W0.heap.size w β h0.calm h2 pre W)
  (fun _ _ _=>False)
  (OwnFrom.and (OwnFrom.and (OwnFrom.and (OwnFrom.and (Own.from (boxed_own _ _ _) _) (Own.from (boxed_own _ _ _) _)) (Own.from (boxed_own _ _ _) _)) (show OwnFrom W0.heap.size (fun(pre:List Unit) W=>pre=[]→Boxed W (w.heap.size+1+1+1) 3 (.int .i64 0))from fun pre A B row hs hg hr e=>boxed_own (w.heap.size+1+1+1) 3 (fun(_:Unit)=>Value.int .i64 0) () A B row (hs e) hg (fun r q=>(hr r q).2))) (pre_own (by omega)))
  (fun _ _ _ _ _ hs _ _=>hs)
  ⟨⟨⟨⟨c3,c4⟩,c6⟩,fun _=>c7⟩,.inl ⟨rfl,hB0,zA _⟩⟩
  (fun x=>{ tmps:=#[.pointer st,.int .i64 ino,.slice (some ⟨bl,ol,none⟩) 1 cl,.pointer (some ⟨w.heap.size,0,none⟩),.pointer (some ⟨w.heap.size+1,0,none⟩),undef,.pointer (some ⟨w.heap.size+1+1,0,none⟩),.pointer (some ⟨w.heap.size+1+1+1,0,none⟩),undef,.slice (some ⟨bp,op,none⟩) m km,.slice (some ⟨bp,op,none⟩) m m,undef,undef,.slice (some ⟨bl,ol,none⟩) 1 cl,.int .i64 1,.int .i64 0,.bool true,.pointer (some ⟨bl,ol,none⟩),.slice (some ⟨bp,op,none⟩) m km,.slice (some ⟨bp,op,none⟩) m km,
   .func (.func 109) #[] #[.pointer (some ⟨w.heap.size+4,0,none⟩),.pointer (some ⟨w.heap.size+4+1,0,none⟩)],.slice (some ⟨bp,op,none⟩) m m,undef,undef,undef,undef,undef,undef,undef,undef,undef,undef,undef,undef,undef,undef,undef],defers:=[] }) ?assign ?body ?done ?stop
 case assign=>
  intro l x W K hK
  gi_wp2
  exact hK
 case body=>
  rintro l pre x W ⟨⟨⟨⟨e3,e4⟩,e6⟩,e7⟩,hP⟩ hlen
  obtain rfl:pre=[]:=List.eq_nil_of_length_eq_zero (by omega)
  have e7:=e7 rfl
  rcases hP with⟨_,hB,hsz⟩|⟨hne,_⟩
  .have k3:=e3.cell
   have k4:=e4.cell
   have k7:=e7.cell
   have hcall:=hW W (HH.out.below hB)
   gi_wp2_with (refine⟨trivial,?_⟩;gi_at_call 62;refine(CallsIn.inRound l (callsIn_wide.2 hcall)).mono ?_;clear hcall;rintro e W2 ⟨β2,rfl,H2,S2⟩;have nk:∀k,w.heap.size≤k→k<W.heap.size→W2.heap[k]?=W.heap[k]?:=(fun k q1 q2=>S2.keep k q2 (fun ho=>by have:=held_lt HH.out ho.held;omega));have g7:Boxed W2 (w.heap.size+1+1+1) 3 (.int .i64 0):=(nk _ (by omega) e7.lt).trans e7;have j7:=g7.cell;have f7:=g7.frozen)
   have sc:∀k,k≠w.heap.size+1+1+1→k<W2.heap.size→(W2.setCell ⟨w.heap.size+1+1+1,0,none⟩ (.int .i64 (wrap64 n))).heap[k]?=W2.heap[k]?:=fun k q1 q2=>(grownBy_setCell' W2 (w.heap.size+1+1+1) (.int .i64 (wrap64 n))).block k q2 (fun e=>q1 (zR e))
   have lt2:=S2.size
   refine⟨⟨?_,fun k o q1 q2 q3=>?_⟩,⟨?_,?_⟩,⟨⟨⟨?_,?_⟩,?_⟩,fun e=>by cases e⟩,.inr ⟨(fun e=>by cases e),β2,?_,⟨S2.le,?_,?_,?_,?_,fun k q1 q2=>?_,fun k q1=>?_,fun k q1=>?_⟩,fun k q1=>?_⟩⟩
   .exact zP lt2 (grownBy_setCell' W2 (w.heap.size+1+1+1) (.int .i64 (wrap64 n))).size
   .have q4:=(Array.getElem?_eq_some_iff.1 q2).1
    have q5:W2.heap[k]?=some o:=(nk k (by omega) q4).trans q2
    exact(KeepsOthers.setCell W2 _ _).same k o q5 q3
   .rw[sc _ (by omega) (by omega)]
    exact nk _ (by omega) (by omega)
   .rw[sc _ (by omega) (by omega)]
    exact nk _ (by omega) (by omega)
   .exact Eq.trans (sc _ (by omega) (by omega)) ((nk _ (by omega) e3.lt).trans e3)
   .exact Eq.trans (sc _ (by omega) (by omega)) ((nk _ (by omega) e4.lt).trans e4)
   .exact Eq.trans (sc _ (by omega) (by omega)) ((nk _ (by omega) e6.lt).trans e6)
   .refine H2.calm.other fun k q1=>sc k (fun e=>?_) (held_lt H2.calm q1)
    rcases S2.held k (zdb q1)with q2|q2
    .have:=held_lt HH.out q2;omega
    .omega
   .exact S2.os.trans hB.os
   .exact S2.tape.trans hB.tape
   .exact S2.output.trans hB.output
   .exact zP hB.size (zP lt2 (grownBy_setCell' W2 (w.heap.size+1+1+1) (.int .i64 (wrap64 n))).size)
   .rw[sc k (by omega) (by omega),S2.keep k (by omega) q2,hB.block k q1]
   .rcases S2.own k (own_calm q1)with q2|q2
    .exact .inl q2
    .exact .inr (by omega)
   .rcases S2.held k (zdb q1)with q2|q2
    .exact .inl q2
    .exact .inr (by omega)
   .rcases S2.held k (zdb q1)with q2|q2
    .exact .inl (held_lt HH.out q2)
    .exact .inr (by omega)
  .exact absurd rfl hne
 case done=>
  rintro D ys W hD rfl ⟨⟨⟨⟨e3,e4⟩,e6⟩,e7⟩,hP⟩ hK
  have k6:=e6.cell
  have f6:=e6.frozen
  gi_wp2
  rw[roundsIn_succ]
  gi_wp2
  rcases hP with⟨hne,_⟩|⟨_,β2,H2,S2,hKK⟩
  .cases hne
  have sc:∀k,k≠w.heap.size+1+1→k<W.heap.size→(W.setCell ⟨w.heap.size+1+1,0,none⟩ (.int .i64 0)).heap[k]?=W.heap[k]?:=fun k q1 q2=>(grownBy_setCell' W (w.heap.size+1+1) (.int .i64 0)).block k q2 (fun e=>q1 (zR e))
  have hK':=(KeepsOthers.setCell W ⟨w.heap.size+1+1,0,none⟩ (.int .i64 0)).same D _ hK rfl
  have c6':=(e6.set (.int .i64 0)).cell
  have d6:=cell_kept c6' (grownBy_putObj' _ D (.deferred none)) (fun r e=>by cases e;exact⟨_,hK',rfl⟩)
  have hgp:=grownBy_putObj' (W.setCell ⟨w.heap.size+1+1,0,none⟩ (.int .i64 0)) D (.deferred none)
  have hgs:=grownBy_setCell' W (w.heap.size+1+1) (.int .i64 0)
  refine⟨by simp,.inl ⟨_,_,rfl,run_takeDeferred hK',?_⟩⟩
  refine⟨.int .i64 0,?_,rfl,β2,?_,⟨S2.le,(hgp.os.trans hgs.os).trans S2.os,(hgp.tape.trans hgs.tape).trans S2.tape,(hgp.output.trans hgs.output).trans S2.output,zP S2.size (zP hgs.size hgp.size),fun k q1 q2=>?_,S2.own,S2.held⟩⟩
  .simp[results,Tryz.f30,go_sem,d6]
  .refine H2.other fun k q1=>?_
   have q2:=held_lt H2 q1
   have q3:k≠D:=fun e=>by
    obtain⟨o,ho,hc⟩:=held_cells H2 q1
    rw[e,hK]at ho
    injection ho with ho
    rw[←ho]at hc
    cases hc
   rw[hgp.block k (zO q2 hgs.size) (fun e=>q3 (zR e)),sc k (by have:=hKK k q1;omega) q2]
  .have q3:k<W.heap.size:=zO q1 S2.size
   rw[hgp.block k (zO q3 hgs.size) (fun e=>by have:=zR e;omega),sc k (by omega) q3]
   exact S2.keep k q1 q2
 case stop=>
  rintro D c pre W hD _ h _
  exact h.elim
theorem into_calls(st:Option Addr)(ino:Int)(bl ol cl bp op m km:Nat)(n:Int)(β:Bt)(h0 h2:Hp)(h1:1≤m)(hm:m<4096)(hcap:m≤km)(w:World)(hlt:bl<w.heap.size)(hl:w.cell? ⟨bl,ol,none⟩=some (.slice (some ⟨bp,op,none⟩) m km))(H:HR Tryz.prog β h0.calm w)
  (hW:∀W,HR Tryz.prog β h0.calm W→Calls Tryz.prog 62 #[.pointer st,.int .i64 ino,.int .i64 0,.slice (some ⟨bp,op,none⟩) m m] W fun e W2=>∃β2,e=.returned (.tuple #[.int .i64 n,.int .i64 0])∧HR Tryz.prog β2 h2 W2∧St β h0.calm W β2 h2 W2) :
  Calls Tryz.prog 30 #[.pointer st,.int .i64 ino,.slice (some ⟨bl,ol,none⟩) 1 cl] w fun e W'=>e=.returned (.int .i64 0)∧∃β2,HR Tryz.prog β2 h2.calm W'∧St β h0.calm w β2 h2.calm W':=
 callsIn_wide.1 (into_in st ino bl ol cl bp op m km n β h0 h2 h1 hm hcap w hlt hl H hW)
end Go.Proofs.YtponjccgpbgnoaaGreatDoor.into
namespace Go.Proofs.YtponjccgpbgnoaaGreatDoor
open Go Go.RowKit
def kvs_:List Value→Option (List (ByteArray×ByteArray))
 | []=>some []
 | .string k::.string v::l=>match kvs_ l with|some r=>some ((k,v)::r)|none=>none
 | _=>none
def findR(key:ByteArray):List (ByteArray×ByteArray)→Option ByteArray
 | []=>none
 | (k,v)::l=>bif k.data.toList==key.data.toList then some v else findR key l
def found_:Option ByteArray→Value
 | some v=>.tuple ⟨[.string v,.bool true]⟩
 | none=>.tuple ⟨[.string ⟨⟨[]⟩⟩,.bool false]⟩
def spFind(args:List Value)(h:Hp):Option (Value×Hp):=
 match args with
 | [.slice none 0 0,.string key]=>some (found_ none,h)
 | [.slice (some a) n _,.string key]=>match Nat.ble n 1000000,zaj h a (n*2)with
  | true,some cs=>match kvs_ cs with
   | some zs=>some (found_ (findR key zs.reverse),h)
   | none=>none
  | _,_=>none
 | _=>none
theorem kvs_get:∀ {cs:List Value} {zs:List (ByteArray×ByteArray)},kvs_ cs=some zs→cs.length=zs.length*2∧∀j,j<zs.length→cs[j*2]?=some (.string (zs.getD j (⟨#[]⟩,⟨#[]⟩)).1)∧cs[j*2+1]?=some (.string (zs.getD j (⟨#[]⟩,⟨#[]⟩)).2):=by
 intro cs
 induction cs using kvs_.induct with
 | case1=>intro zs h;simp only[kvs_,zD]at h;subst h;exact⟨rfl,fun j hj=>by simp at hj⟩
 | case2 k v l r hr ih=>
  intro zs h
  simp only[kvs_,hr,zD]at h
  subst h
  obtain⟨h1,h2⟩:=ih hr
  refine⟨by simp[h1];omega,fun j hj=>?_⟩
  cases j with
  | zero=>exact⟨rfl,rfl⟩
  | succ j=>
   have:=h2 j (by simpa using hj)
   rw[show(j+1)*2=j*2+1+1 by omega]
   simpa using this
 | case3 k v l hr ih=>intro zs h;simp[kvs_,hr]at h
 | case4 l h1 h2=>
  intro zs h
  unfold kvs_ at h
  split at h
  .exact absurd rfl h1
  .exact absurd rfl (h2 _ _ _)
  .cases h
theorem findR_eq{key:ByteArray}{zs:Nat→find.Kv}:∀n,findR key (((zT n).map zs).reverse)=find.findK zs key n:=by
 intro n
 induction n with
 | zero=>rfl
 | succ n ih=>
  rw[List.range_succ,List.map_append,List.reverse_append]
  simp only[List.map_cons,List.map_nil,List.reverse_cons,List.reverse_nil,zC,List.singleton_append,findR,find.findK]
  rw[ih,←Lib.toList_data,←Lib.toList_data]
  cases (zs n).1.toList==key.toList<;>rfl
theorem found_eq{β:Bt}(o:Option ByteArray):VR β (found_ o) (.tuple #[.string (find.findV o),.bool o.isSome]):=by
 cases o with
 | none=>exact VR.of_tuple (xs:=[.string ⟨⟨[]⟩⟩,.bool false]) (ys:=[.string ⟨#[]⟩,.bool false]) (LR.cons (.string _) (LR.cons (.bool _) (LR.nil β)))
 | some v=>exact VR.of_tuple (xs:=[.string v,.bool true]) (ys:=[.string v,.bool true]) (LR.cons (.string _) (LR.cons (.bool _) (LR.nil β)))
def zbY(args:List Value)(h:Hp):Option (Value×Hp):=
 match args with
 | [.string s,.int .u8 c]=>some (vint .i64 (Lib.indexByte s.data.toList c.toNat.toUInt8),h)
 | _=>none
def spCount(args:List Value)(h:Hp):Option (Value×Hp):=
 match args with
 | [.string s,.int .u8 c]=>some (goNat (Lib.countByte s.data.toList c.toNat.toUInt8),h)
 | _=>none
def zcU(args:List Value)(h:Hp):Option (Value×Hp):=
 match args with
 | [.string s,.string t]=>some (vint .i64 (Lib.compareBytes s.data.toList t.data.toList),h)
 | _=>none
theorem vint_eq(k:IntKind)(n:Int):vint k n=.int k n:=by cases n<;>rfl
theorem told_extern{P:Program}{f:FuncId}{fn:Func}{e:Array Value→Sem Value}(hf:P.funcs[f]?=some fn)(hname:(fn.name== "runtime.NumGoroutine")=false) (hb:fn.body.isNone=true) (hn:Extern.findNext fn=none) (he:Extern.find fn=some e)
  {args':Array Value} {w:World} {v':Value} (hr:(e args').run P w=.ok v' w) {β:Bt} {h:Hp} {v:Value} (H:HR P β h w) (hv:VR β v v'):Answers P β h w h v ((callFunc f args').run P w):=by
 rw[run_callFunc_extern hf hname hb hn he,hr]
 exact .inl ⟨β,w,v',rfl,H,.refl _ _ _,hv⟩
theorem zb7{β:Bt}{x y:Value}{l:List Value}(h:LR β [x,y] l):∃x' y',l=[x',y']∧VR β x x'∧VR β y y':=by
 obtain⟨h1,h2⟩:=h
 match l,h1 with
 | [x',y'],_=>exact⟨x',y',rfl,h2 0 x x' rfl rfl,h2 1 y y' rfl rfl⟩
def ToldOk(P:Program)(gl:Nat)(f:FuncId)(g:List Value→Hp→Option (Value×Hp)):Prop:=zbx P (fun f' args h=>bif zB f' f then g args h else none) gl
theorem zaY{P:Program}{gl:Nat}{f:FuncId}{g:List Value→Hp→Option (Value×Hp)}{sp:Sp}(h1:ToldOk P gl f g)(h2:zbx P (zb8 sp) gl):zbx P (zb8 fun f'=>bif zB f' f then some g else sp f') gl:=by
 intro f' args args' h h' v β w hc hl H hgb
 unfold zb8 at hc
 dsimp only at hc
 cases hb:zB f' f with
 | true=>
  rw[hb]at hc
  exact h1 f' args args' h h' v β w (by dsimp only;rw[hb];exact hc) hl H hgb
 | false=>
  rw[hb]at hc
  exact h2 f' args args' h h' v β w (by unfold zb8;exact hc) hl H hgb
theorem told_nil{P:Program}{gl:Nat}:zbx P (zb8 fun _=>none) gl:=fun f args args' h h2 v β w hc=>by cases hc
section
variable {P:Program} {gl:Nat} {f:FuncId} {fn:Func}
theorem zbH{g:List Value→Hp→Option (Value×Hp)}(h1:∀(args args':List Value) (h h2:Hp) (v:Value) (β:Bt) (w:World),g args h=some (v,h2)→LR β args args'→HR P β h w→(∀g,g<gl→β g=some ⟨g,0,0⟩)→
  Answers P β h w h2 v ((callFunc f args'.toArray).run P w)):ToldOk P gl f g:=by
 intro f' args args' h h' v β w hc hl H hgb
 dsimp only at hc
 cases hb:zB f' f with
 | true=>
  have:=zU hb
  subst this
  rw[hb,cond_true]at hc
  exact h1 args args' h h' v β w hc hl H hgb
 | false=>rw[hb]at hc;cases hc
theorem index_told(hf:P.funcs[f]?=some fn)(hname:(fn.name== "runtime.NumGoroutine")=false) (hb:fn.body.isNone=true) (hn:Extern.findNext fn=none) (he:Extern.find fn=some Extern.BytealgIndexByte.indexByte):ToldOk P gl f zbY:=
 zbH fun args args' h h2 v β w hc hl H hgb=>by
  unfold zbY at hc
  split at hc
  .rename_i s c
   simp only[zD,zQ]at hc
   obtain⟨rfl,rfl⟩:=hc
   obtain⟨x',y',rfl,hx,hy⟩:=zb7 hl
   rw[hx.string_inv,hy.int_inv]
   exact told_extern hf hname hb hn he (Lib.run_indexByteString s c w) H (by rw[vint_eq];exact .int _ _)
  .cases hc
theorem count_told(hf:P.funcs[f]?=some fn)(hname:(fn.name== "runtime.NumGoroutine")=false) (hb:fn.body.isNone=true) (hn:Extern.findNext fn=none) (he:Extern.find fn=some Extern.BytealgCount.count):ToldOk P gl f spCount:=
 zbH fun args args' h h2 v β w hc hl H hgb=>by
  unfold spCount at hc
  split at hc
  .rename_i s c
   simp only[zD,zQ]at hc
   obtain⟨rfl,rfl⟩:=hc
   obtain⟨x',y',rfl,hx,hy⟩:=zb7 hl
   rw[hx.string_inv,hy.int_inv]
   exact told_extern hf hname hb hn he (Lib.run_countString s c w) H (.int _ _)
  .cases hc
theorem compare_told(hf:P.funcs[f]?=some fn)(hname:(fn.name== "runtime.NumGoroutine")=false) (hb:fn.body.isNone=true) (hn:Extern.findNext fn=none) (he:Extern.find fn=some Extern.BytealgCompare.compare):ToldOk P gl f zcU:=
 zbH fun args args' h h2 v β w hc hl H hgb=>by
  unfold zcU at hc
  split at hc
  .rename_i s t
   simp only[zD,zQ]at hc
   obtain⟨rfl,rfl⟩:=hc
   obtain⟨x',y',rfl,hx,hy⟩:=zb7 hl
   rw[hx.string_inv,hy.string_inv]
   exact told_extern hf hname hb hn he (Lib.run_compareString s t w) H (by rw[vint_eq];exact .int _ _)
  .cases hc
theorem find_told(hent:Enters P f)(hcalls:∀(a:Option Addr) (len cap:Nat) (zs:Nat→find.Kv) (key:ByteArray) (w:World),len≤1152921504606846976→find.Holds w.heap.size w a len cap zs→
  Calls P f #[.slice a len cap,.string key] w fun e W'=>e=.returned (.tuple #[.string (find.findV (find.findK zs key len)),.bool (find.findK zs key len).isSome])∧Below w.heap.size w W'):ToldOk P gl f spFind:=
 zbH fun args args' h h2 v β w hc hl H hgb=>by
  have key:∀(a:Option Addr) (len cap:Nat) (zs:Nat→find.Kv) (s:ByteArray),args'=[.slice a len cap,.string s]→len≤1152921504606846976→find.Holds w.heap.size w a len cap zs→v=found_ (find.findK zs s len)→h2=h→Answers P β h w h2 v ((callFunc f args'.toArray).run P w):=by
   intro a len cap zs s e1 e2 e3 e4 e5
   subst e1 e4 e5
   rw[show(callFunc f [Value.slice a len cap,.string s].toArray).run P w=.ok (.enter f [Value.slice a len cap,.string s].toArray) w from hent _ w]
   refine .inr ⟨_,_,rfl,(hcalls a len cap zs s w e2 e3).mono ?_⟩
   rintro e w2 ⟨rfl,hB⟩
   exact⟨_,β,rfl,H.below hB,St.below hB,found_eq _⟩
  unfold spFind at hc
  split at hc
  .rename_i s
   simp only[zD,zQ]at hc
   obtain⟨rfl,rfl⟩:=hc
   obtain⟨x',y',rfl,hx,hy⟩:=zb7 hl
   refine key none 0 0 (fun _=>(⟨#[]⟩,⟨#[]⟩)) s ?_ (by omega) (.inl ⟨rfl,rfl,rfl⟩) rfl rfl
   rw[hx.nilSlice_inv,hy.string_inv]
  .rename_i ad n c s
   split at hc
   .rename_i cs hle hld
    cases hz:kvs_ cs with
    | none=>rw[hz]at hc;cases hc
    | some zs=>
     rw[hz]at hc
     simp only[zD,zQ]at hc
     obtain⟨rfl,rfl⟩:=hc
     obtain⟨x',y',rfl,hx,hy⟩:=zb7 hl
     obtain⟨i,_,hi,rfl⟩:=hx.slice_inv
     obtain⟨hlen,hget⟩:=kvs_get hz
     have hcl:=(zbd H hld hi).choose_spec.2.2
     have hn:zs.length=n:=by omega
     have hle:=zS hle
     have hzs:(zT n).map (fun j=>zs.getD j (⟨#[]⟩,⟨#[]⟩))=zs:=by
      rw[←hn]
      apply List.ext_getElem
      .simp
      .intro j q1 q2
       simp[List.getD_eq_getElem?_getD,q2]
     have hcell:∀j x,cs[j]?=some (.string x)→w.cell? ⟨i.blk,i.off+ad.off+j,none⟩=some (.string x):=fun j x hx=>by
      obtain⟨y,q1,q2⟩:=zcA H hld hi j _ hx
      rw[q1,q2.string_inv]
     have hK:find.Holds w.heap.size w (some ⟨i.blk,i.off+ad.off,none⟩) n (c+i.ex) (fun j=>zs.getD j (⟨#[]⟩,⟨#[]⟩)):=by
      refine .inr ⟨_,_,rfl,fun h0=>?_,fun j hj=>?_⟩
      .have q1:=hcell 0 _ (by simpa using(hget 0 (by omega)).1)
       have q2:w.heap[i.blk]?≠none:=by
        intro e
        simp[World.cell?,e]at q1
       rcases Nat.lt_or_ge i.blk w.heap.size with q3|q3
       .exact q3
       .exact absurd (Array.getElem?_eq_none q3) q2
      .obtain⟨q1,q2⟩:=hget j (by omega)
       exact⟨hcell _ _ q1,hcell _ _ q2⟩
     have hv:=findR_eq (key:=s) (zs:=fun j=>zs.getD j (⟨#[]⟩,⟨#[]⟩)) n
     rw[hzs]at hv
     exact key _ n _ _ s (by rw[hy.string_inv]) (by omega) hK (by rw[hv]) rfl
   .cases hc
  .cases hc
end
def piece_(h:Hp)(b:Addr):Option Addr:=
 match zaw h b.block with
 | some true=>some b
 | some false=>match h.get (b.block+1)with
  | some (.view v)=>bif zB v b.block then some ⟨b.block+1,b.off,none⟩else none
  | _=>none
 | none=>none
theorem piece_at{P:Program}{β:Bt}{h:Hp}{w:World}(H:HR P β h w){b b':Addr}(hp:piece_ h b=some b')(hs:b=⟨b.block,b.off,none⟩){i:Info}(hi:β b.block=some i) :
  ∃j,b'=⟨b'.block,b'.off,none⟩∧β b'.block=some j∧j.ex=0∧j.blk=i.blk∧j.off+b'.off=i.off+b.off:=by
 unfold piece_ at hp
 split at hp
 .rename_i he
  cases hp
  exact⟨i,hs,hi,exact_ex H he hi,rfl,rfl⟩
 .split at hp
  .rename_i v hv
   cases hb:zB v b.block with
   | false=>rw[hb]at hp;cases hp
   | true=>
    rw[hb,cond_true]at hp
    cases hp
    obtain rfl:=zU hb
    obtain⟨jv,hjv⟩:=H.has _ _ hv
    obtain⟨hex0,j,hj,e1,e2⟩:=seen_at H hv hjv
    rw[hi]at hj
    injection hj with hj
    subst hj
    exact⟨jv,rfl,hjv,hex0,e1.symm,by rw[←e2]⟩
  .cases hp
 .cases hp
def spInto(run:List Value→Hp→Option (Value×Hp))(args:List Value)(h:Hp):Option (Value×Hp):=
 match args with
 | [.pointer (some s),.int .i64 ino,.slice (some a) 1 _]=>match zaj h a 1 with
  | some [.slice (some b) m k]=>match Nat.ble 1 m&&Nat.blt m 4096&&Nat.ble m k,piece_ h b with
   | true,some b=>match run [.pointer (some s),.int .i64 ino,.int .i64 (.ofNat 0),.slice (some b) m m] h.calm with
    | some (.tuple ⟨[.int .i64 n,.int .i64 (.ofNat 0)]⟩,h2)=>some (.int .i64 (.ofNat 0),h2.calm)
    | _=>none
   | _,_=>none
  | _=>none
 | _=>none
theorem three_args{β:Bt}{x y z:Value}{l:List Value}(h:LR β [x,y,z] l):∃x' y' z',l=[x',y',z']∧VR β x x'∧VR β y y'∧VR β z z':=by
 obtain⟨h1,h2⟩:=h
 match l,h1 with
 | [x',y',z'],_=>exact⟨x',y',z',rfl,h2 0 x x' rfl rfl,h2 1 y y' rfl rfl,h2 2 z z' rfl rfl⟩
theorem St.uncalm{β β2:Bt}{h h2:Hp}{w w2:World}(S:St β h.calm w β2 h2 w2):St β h w β2 h2 w2:=
 ⟨S.le,S.os,S.tape,S.output,S.size,fun k hk hn=>S.keep k hk (fun ho=>hn (own_calm ho)),fun k hk=>(S.own k hk).imp own_calm id,fun k hk=>(S.held k hk).imp zdb id⟩
theorem into_told{P:Program}{gl:Nat}{f wr:FuncId}{run:List Value→Hp→Option (Value×Hp)}(hent:Enters P f)
  (hrun:∀(args args':List Value) (h h2:Hp) (v:Value) (β:Bt) (w:World),run args h=some (v,h2)→LR β args args'→HR P β h w→(∀g,g<gl→β g=some ⟨g,0,0⟩)→
   Calls P wr args'.toArray w fun en w2=>∃v' β2,en=.returned v'∧HR P β2 h2 w2∧St β h w β2 h2 w2∧VR β2 v v')
  (hinto:∀(st:Option Addr) (ino:Int) (bl ol cl bp op m km:Nat) (n:Int) (β:Bt) (h0 h2:Hp) (h1:1≤m) (hm:m<4096) (hcap:m≤km) (w:World) (hlt:bl<w.heap.size) (hl:w.cell? ⟨bl,ol,none⟩=some (.slice (some ⟨bp,op,none⟩) m km)) (H:HR P β h0.calm w)
   (hW:∀W,HR P β h0.calm W→Calls P wr #[.pointer st,.int .i64 ino,.int .i64 0,.slice (some ⟨bp,op,none⟩) m m] W fun e W2=>∃β2,e=.returned (.tuple #[.int .i64 n,.int .i64 0])∧HR P β2 h2 W2∧St β h0.calm W β2 h2 W2),
   Calls P f #[.pointer st,.int .i64 ino,.slice (some ⟨bl,ol,none⟩) 1 cl] w fun e W'=>e=.returned (.int .i64 0)∧∃β2,HR P β2 h2.calm W'∧St β h0.calm w β2 h2.calm W'):ToldOk P gl f (spInto run):=
 zbH fun args args' h h3 v β w hc hl H hgb=>by
  unfold spInto at hc
  split at hc
  .rename_i s ino a c
   split at hc
   .rename_i b m k hld
    split at hc
    .rename_i b' hle hex
     split at hc
     .rename_i n h2 hr
      simp only[zD,zQ]at hc
      obtain⟨rfl,rfl⟩:=hc
      simp only[Bool.and_eq_true]at hle
      obtain⟨⟨q1,q2⟩,q3⟩:=hle
      have q1:=zS q1
      have q2:m<4096:=zO (Nat.lt_succ_self _) (zS q2)
      have q3:=zS q3
      obtain⟨x',y',z',rfl,hx,hy,hz⟩:=three_args hl
      have hx0:=hx
      obtain⟨i1,hi1⟩:∃st,x'=.pointer st:=by
       revert hx
       generalize x'=u
       intro hx
       cases hx<;>exact⟨_,rfl⟩
      obtain⟨i2,_,hi2,rfl⟩:=hz.slice_inv
      obtain⟨y,hc1,hv1⟩:=zcA H hld hi2 0 _ rfl
      obtain⟨i3,hb3,hi3,rfl⟩:=hv1.slice_inv
      obtain⟨i4,hb4,hi4,hex0,ek,eo⟩:=piece_at H hex hb3 hi3
      rw[hy.int_inv]
      subst hi1
      have hlt:i2.blk<w.heap.size:=by
       rcases Nat.lt_or_ge i2.blk w.heap.size with q4|q4
       .exact q4
       .simp[World.cell?,Array.getElem?_eq_none q4]at hc1
      refine .inr ⟨f,_,hent _ w,?_⟩
      refine(hinto i1 ino i2.blk (i2.off+a.off) (c+i2.ex) i3.blk (i3.off+b.off) m (k+i3.ex) n β h h2 q1 q2 (by omega) w hlt hc1 H.calm (fun W HW=>?_)).mono ?_
      .have hl4:LR β [.pointer (some s),.int .i64 ino,.int .i64 (.ofNat 0),.slice (some b') m m] [.pointer i1,.int .i64 ino,.int .i64 0,.slice (some ⟨i3.blk,i3.off+b.off,none⟩) m m]:=by
        refine LR.cons hx0 (LR.cons (.int _ _) (LR.cons (.int _ _) (LR.cons ?_ (LR.nil β))))
        have:=VR.slice b'.off m m hi4
        rw[hex0,Nat.add_zero,ek,eo]at this
        rw[hb4]
        exact this
       refine(hrun _ _ _ _ _ β W hr hl4 HW hgb).mono ?_
       rintro e W2 ⟨v',β2,rfl,H2,S2,hv⟩
       obtain⟨ys,rfl,hys⟩:=hv.tuple_inv
       refine⟨β2,?_,H2,S2⟩
       have hl5:LR β2 [.int .i64 n,.int .i64 (.ofNat 0)] ys.toList:=⟨by simpa using hys.1,fun i x y p1 p2=>hys.2 i x y (by simpa using p1) (by simpa using p2)⟩
       obtain⟨u1,u2,hu,hu1,hu2⟩:=zb7 hl5
       have:ys=#[u1,u2]:=by
        apply Array.ext'
        exact hu
       rw[this,hu1.int_inv,hu2.int_inv]
       rfl
      .rintro e W' ⟨rfl,β2,H2,S2⟩
       exact⟨_,β2,rfl,H2,S2.uncalm,.int _ _⟩
     .cases hc
    .cases hc
   .cases hc
  .cases hc
noncomputable def sp0:Sp:=fun f=>
 bif zB f 69 then some spFind
 else bif zB f 190 then some zbY
 else bif zB f 210 then some spCount
 else bif zB f 172 then some zcU
 else none
theorem t_find:ToldOk Tryz.prog Tryz.prog.globals.size 69 spFind:=by with_reducible exact(find_told (P:=Tryz.prog) (gl:=Tryz.prog.globals.size) (enters_of Tryz.func69 (by kernel_rfl) rfl) find.Find_calls')
theorem t_index:ToldOk Tryz.prog Tryz.prog.globals.size 190 zbY:=by with_reducible exact(index_told Tryz.func190 (by kernel_rfl) (by kernel_rfl) (by kernel_rfl) (by kernel_rfl))
theorem t_count:ToldOk Tryz.prog Tryz.prog.globals.size 210 spCount:=by with_reducible exact(count_told Tryz.func210 (by kernel_rfl) (by kernel_rfl) (by kernel_rfl) (by kernel_rfl))
theorem t_compare:ToldOk Tryz.prog Tryz.prog.globals.size 172 zcU:=by with_reducible exact(compare_told Tryz.func172 (by kernel_rfl) (by kernel_rfl) (by kernel_rfl) (by kernel_rfl))
theorem sp0_ok:zbx Tryz.prog (zb8 sp0) Tryz.prog.globals.size:=by
 unfold sp0
 with_reducible exact(zaY t_find (zaY t_index (zaY t_count (zaY t_compare told_nil))))
noncomputable def writes(args:List Value)(h:Hp):Option (Value×Hp):=zb6 env sp0 3000 62 args h
theorem writes_ok(args args':List Value)(h h2:Hp)(v:Value)(β:Bt)(w:World)(hr:writes args h=some (v,h2))(hl:LR β args args')(H:HR Tryz.prog β h w)(hg:∀g,g<Tryz.prog.globals.size→β g=some ⟨g,0,0⟩) :
  Calls Tryz.prog 62 args'.toArray w fun en w2=>∃v' β2,en=.returned v'∧HR Tryz.prog β2 h2 w2∧St β h w β2 h2 w2∧VR β2 v v':=by
 unfold writes env at hr
 with_reducible exact zck (P:=Tryz.prog) (eqs:=eqList) zdm prog_eqs zcG prog_mix zdo zdn sp0_ok hr hl H hg
theorem t_into:ToldOk Tryz.prog Tryz.prog.globals.size 30 (spInto writes):=by
 with_reducible exact(into_told (P:=Tryz.prog) (gl:=Tryz.prog.globals.size) (wr:=62) (enters_of Tryz.func30 (by kernel_rfl) rfl) writes_ok into.into_calls)
noncomputable def sp:Sp:=fun f=>bif zB f 30 then some (spInto writes)else sp0 f
theorem sp_ok:zbx Tryz.prog (zb8 sp) Tryz.prog.globals.size:=by
 unfold sp
 with_reducible exact(zaY t_into sp0_ok)
section
variable {P:Program} {gl:Nat} {f:FuncId}
theorem told_value(hent:Enters P f){args':Array Value}{w:World}{v':Value}(hc:Calls P f args' w fun e w'=>e=.returned v'∧Below w.heap.size w w')
  {β:Bt} {h:Hp} {v:Value} (H:HR P β h w) (hv:VR β v v'):Answers P β h w h v ((callFunc f args').run P w):=by
 refine .inr ⟨_,_,hent _ w,hc.mono ?_⟩
 rintro e w2 ⟨rfl,hB⟩
 exact⟨_,β,rfl,H.below hB,St.below hB,hv⟩
theorem one_arg{β:Bt}{x:Value}{l:List Value}(h:LR β [x] l):∃x',l=[x']∧VR β x x':=by
 obtain⟨h1,h2⟩:=h
 match l,h1 with
 | [x'],_=>exact⟨x',rfl,h2 0 x x' rfl rfl⟩
end
end Go.Proofs.YtponjccgpbgnoaaGreatDoor
