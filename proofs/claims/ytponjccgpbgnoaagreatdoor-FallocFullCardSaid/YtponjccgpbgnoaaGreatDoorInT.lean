/- loop.Into at one list of one piece, or of none; the maps stay as they were. -/
import Derived.Test.YtponjccgpbgnoaaGreatDoorSpX
import Derived.Test.YtponjccgpbgnoaaGreatDoorSfX
import Derived.Test.YtponjccgpbgnoaaGreatDoorPh
set_option linter.unusedVariables false
set_option linter.unusedSimpArgs false
set_option linter.unusedSectionVars false
open Nat renaming le_refl→zA,blt→zB,lt_of_lt_of_le→zC,beq→zD,le_of_ble_eq_true→zG,eq_of_beq_eq_true→zH
open Option.some renaming injEq→zE,inj→zO
open Prod.mk renaming injEq→zF
open Bool renaming and_eq_true→zI
open List renaming size_toArray→zJ,push_toArray→zM,append_toArray→zN
open Array renaming replicate_succ→zK,replicate_zero→zL
namespace Go.Proofs.YtponjccgpbgnoaaGreatDoor.chunk
open Go Go.RowKit Go.Shelf
attribute [local go_sem] Oper.semAt_some
set_option maxRecDepth 100000 in
set_option maxHeartbeats 4000000 in
theorem chunk0_in(F:Fence)(n:Nat)(h7:F.fn 109)(hro:F.round=none)(hn:1≤n)(l Bs Bn cap:Nat)(a:Option Addr)(J Jx:List Unit→World→Prop)
  (hJd:∀pre W,J pre W→J pre W.drew)
  (W:World) (hBs:W.cell? ⟨Bs,0,none⟩=some (.slice a 0 cap)) (hBn:W.cell? ⟨Bn,0,none⟩=some (.int .i64 4096)) (h0:J [] W) :
  CallsIn F n Tryz.prog 109 #[.func (.yield l) #[] #[],.pointer (some ⟨Bs,0,none⟩),.pointer (some ⟨Bn,0,none⟩)] W fun e W'=>(∃v,e=.returned v)∧
   ((∃ys,ys=[]∧J ys W')∨(∃pre,False∧Jx pre W')):=by
 refine callsIn_of_wp Tryz.func109 rfl h7 ?_ hro
 simp only[Tryz.ntmps109,zJ,List.length_cons,List.length_nil,Nat.reduceAdd,Nat.reduceSub,zK,zL,zM,zN,List.nil_append,List.cons_append]
 gi_wp2
 gi_loopw [4] (fun i wr=>(wr.cell? ⟨Bs,0,none⟩=some (.slice a 0 cap)∧wr.cell? ⟨Bn,0,none⟩=some (.int .i64 4096))∧(i=.int .i64 0∧J [] wr))
  (fun i _=>(5000-intOf i).toNat)
 case atStart=>exact⟨⟨hBs,hBn⟩,rfl,h0⟩
 case round=>
  obtain⟨⟨c1,c2⟩,rfl,hJs⟩:=hrel
  gi_wp2
  go_end0
  exact⟨⟨_,rfl⟩,.inl ⟨_,rfl,hJs⟩⟩
theorem chunk0_stops(F:Fence)(n:Nat)(h7:F.fn 109)(hro:F.round=none)(hn:1≤n)(Bs Bn cap:Nat)(a:Option Addr)(w:World)(hBs:Bs<w.heap.size)(hBn:Bn<w.heap.size)
  (c1:w.cell? ⟨Bs,0,none⟩=some (.slice a 0 cap)) (c2:w.cell? ⟨Bn,0,none⟩=some (.int .i64 4096)) :
  SeqStopsK F n Tryz.prog 109 #[.pointer (some ⟨Bs,0,none⟩),.pointer (some ⟨Bn,0,none⟩)] (fun _:Unit=>#[Value.slice a 0 0]) (Kp Bs Bn) (fun ys=>ys=[]) (fun pre=>False) 0 w:=fun l J Jx W hW hJ _ hY h0=>
 chunk0_in F n h7 hro hn l Bs Bn cap a J Jx (fun pre W h=>hJ pre W W.drew none h (grown_drew W none) (fun r e=>by cases e)) W ((hW.cell (p:=⟨Bs,0,none⟩) hBs).trans c1) ((hW.cell (p:=⟨Bn,0,none⟩) hBn).trans c2) h0
end Go.Proofs.YtponjccgpbgnoaaGreatDoor.chunk
namespace Go.Proofs.YtponjccgpbgnoaaGreatDoor.into
open Go Go.RowKit Go.Shelf
attribute [local go_sem] Oper.semAt_some
set_option maxRecDepth 100000 in
set_option maxHeartbeats 4000000 in
theorem into0_in(st:Option Addr)(ino:Int)(bl ol cl km:Nat)(a:Option Addr)(w:World)(hlt:bl<w.heap.size)(hl:w.cell? ⟨bl,ol,none⟩=some (.slice a 0 km)) :
  CallsIn Fence.wide 3 Tryz.prog 30 #[.pointer st,.int .i64 ino,.slice (some ⟨bl,ol,none⟩) 1 cl] w fun e W'=>e=.returned (.int .i64 0)∧Below w.heap.size w W':=by
 refine callsIn_of_wp_marks Tryz.func30 rfl trivial ?_ rfl
 simp only[Tryz.ntmps30,zJ,List.length_cons,List.length_nil,Nat.reduceAdd,Nat.reduceSub,zK,zL,zM,zN,List.nil_append,List.cons_append]
 gi_wp2
 have b6:=(Boxed.new ((w.alloc (.cells #[.pointer st] 26)).alloc (.cells #[.int .i64 ino] 3)) 28 (.int .i64 0)).alloc (.cells #[.int .i64 0] 3)
 simp only[World.size_alloc]at b6
 have hB1:Below w.heap.size w ((((w.alloc (.cells #[.pointer st] 26)).alloc (.cells #[.int .i64 ino] 3)).alloc (.cells #[.int .i64 0] 28)).alloc (.cells #[.int .i64 0] 3)):=((((Below.refl _ w).alloc (zA _) _).alloc (by simp) _).alloc (by simp;omega) _).alloc (by simp;omega) _
 have hs1:((((w.alloc (.cells #[.pointer st] 26)).alloc (.cells #[.int .i64 ino] 3)).alloc (.cells #[.int .i64 0] 28)).alloc (.cells #[.int .i64 0] 3)).heap.size=w.heap.size+4:=by simp
 obtain⟨W1,hW1⟩:∃W1,((((w.alloc (.cells #[.pointer st] 26)).alloc (.cells #[.int .i64 ino] 3)).alloc (.cells #[.int .i64 0] 28)).alloc (.cells #[.int .i64 0] 3))=W1:=⟨_,rfl⟩
 rw[hW1]at b6 hB1 hs1 ⊢
 clear hW1
 have hl1:=(hB1.cell (p:=⟨bl,ol,none⟩) hlt).trans hl
 clear hl
 refine wpIn_loop_rounds 2 ?_
 rw[roundsIn_succ]
 gi_wp2_with (refine⟨trivial,?_⟩;gi_at_call 61;refine(chunk.chunk_in Fence.wide 2 trivial rfl _ _ _ _).mono ?_;rintro e w' ⟨rfl,rfl⟩)
 have c6:=(b6.alloc (.cells #[.slice a 0 km] 22)).alloc (.cells #[.int .i64 4096] 3)
 have cS:=(Boxed.new W1 22 (.slice a 0 km)).alloc (.cells #[.int .i64 4096] 3)
 have cN:=Boxed.new (W1.alloc (.cells #[.slice a 0 km] 22)) 3 (.int .i64 4096)
 simp only[World.size_alloc]at cN
 have hB0:Below w.heap.size w ((W1.alloc (.cells #[.slice a 0 km] 22)).alloc (.cells #[.int .i64 4096] 3)):=(hB1.alloc (by omega) _).alloc (by simp;omega) _
 have hs0:((W1.alloc (.cells #[.slice a 0 km] 22)).alloc (.cells #[.int .i64 4096] 3)).heap.size=w.heap.size+6:=by simp[hs1]
 obtain⟨W0,hW0⟩:∃W0,((W1.alloc (.cells #[.slice a 0 km] 22)).alloc (.cells #[.int .i64 4096] 3))=W0:=⟨_,rfl⟩
 rw[hs1]at cS cN
 rw[hW0]at c6 cS cN hB0 hs0
 rw[hW0]
 clear hW0 hl1
 refine wpIn_rangeFunc_ownG rfl (by decide) (gf:=109) (lb:=#[.pointer (some ⟨w.heap.size+4,0,none⟩),.pointer (some ⟨w.heap.size+4+1,0,none⟩)]) rfl trivial (enters_of Tryz.func109 (by kernel_rfl) rfl)
  (chunk.chunk0_stops Fence.wide (3-1) trivial rfl (by decide) (w.heap.size+4) (w.heap.size+4+1) km a W0 (by omega) (by omega) cS.cell cN.cell) (fun h k=>h.trans k) (fun W l o o' h3 _ _ _=>⟨World.putObj_heap_other (by omega),World.putObj_heap_other (by omega)⟩) (Below.refl _ _) (fun _=>rfl)
  (fun(pre:List Unit) W=>Boxed W (w.heap.size+1+1) 28 (.int .i64 0)∧Below w.heap.size w W)
  (fun _ _ _=>False)
  (OwnFrom.and (Own.from (boxed_own _ _ _) _) (ownFrom_below (β:=List Unit) (zA _) (by omega)))
  (fun _ _ _ _ _ hs _ _=>hs)
  ⟨c6,hB0⟩
  (fun x=>{ tmps:=#[.pointer st,.int .i64 ino,.slice (some ⟨bl,ol,none⟩) 1 cl,.pointer (some ⟨w.heap.size,0,none⟩),.pointer (some ⟨w.heap.size+1,0,none⟩),undef,.pointer (some ⟨w.heap.size+1+1,0,none⟩),.pointer (some ⟨w.heap.size+1+1+1,0,none⟩),undef,.slice a 0 km,.slice a 0 0,undef,undef,.slice (some ⟨bl,ol,none⟩) 1 cl,.int .i64 1,.int .i64 0,.bool true,.pointer (some ⟨bl,ol,none⟩),.slice a 0 km,.slice a 0 km,
   .func (.func 109) #[] #[.pointer (some ⟨w.heap.size+4,0,none⟩),.pointer (some ⟨w.heap.size+4+1,0,none⟩)],.slice a 0 0,undef,undef,undef,undef,undef,undef,undef,undef,undef,undef,undef,undef,undef,undef,undef],defers:=[] }) ?assign ?body ?done ?stop
 case assign=>
  intro l x W K hK
  gi_wp2
  exact hK
 case body=>
  rintro l pre x W _ hlen
  omega
 case done=>
  rintro D ys W hD rfl ⟨e6,hB⟩ hK
  have k6:=e6.cell
  have f6:=e6.frozen
  gi_wp2
  rw[roundsIn_succ]
  gi_wp2
  have hK':=(KeepsOthers.setCell W ⟨w.heap.size+1+1,0,none⟩ (.int .i64 0)).same D _ hK rfl
  have c6':=(e6.set (.int .i64 0)).cell
  have d6:=cell_kept c6' (grownBy_putObj' _ D (.deferred none)) (fun r e=>by cases e;exact⟨_,hK',rfl⟩)
  have hgp:=grownBy_putObj' (W.setCell ⟨w.heap.size+1+1,0,none⟩ (.int .i64 0)) D (.deferred none)
  have hgs:=grownBy_setCell' W (w.heap.size+1+1) (.int .i64 0)
  refine⟨by simp,.inl ⟨_,_,rfl,run_takeDeferred hK',?_⟩⟩
  refine⟨.int .i64 0,?_,rfl,⟨(hgp.os.trans hgs.os).trans hB.os,(hgp.tape.trans hgs.tape).trans hB.tape,(hgp.output.trans hgs.output).trans hB.output,Nat.le_trans hB.size (Nat.le_trans hgs.size hgp.size),fun k q1=>?_⟩⟩
  .simp[results,Tryz.f30,go_sem,d6]
  .have q3:k<W.heap.size:=zC q1 hB.size
   rw[hgp.block k (zC q3 hgs.size) (fun e=>by have:=zO e;omega),hgs.block k q3 (fun e=>by have:=zO e;omega)]
   exact hB.block k q1
 case stop=>
  rintro D c pre W hD h _ _
  exact h.elim
theorem into0_calls(st:Option Addr)(ino:Int)(bl ol cl km:Nat)(a:Option Addr)(w:World)(hlt:bl<w.heap.size)(hl:w.cell? ⟨bl,ol,none⟩=some (.slice a 0 km)) :
  Calls Tryz.prog 30 #[.pointer st,.int .i64 ino,.slice (some ⟨bl,ol,none⟩) 1 cl] w fun e W'=>e=.returned (.int .i64 0)∧Below w.heap.size w W':=
 callsIn_wide.1 (into0_in st ino bl ol cl km a w hlt hl)
end Go.Proofs.YtponjccgpbgnoaaGreatDoor.into
namespace Go.Proofs.YtponjccgpbgnoaaGreatDoor
open Go Go.RowKit
def backB:Option Blk→Option Blk→Option Blk
 | some (.map es c),_=>some (.map es c)
 | _,y=>y.map calmB
theorem back_cases(x y:Option Blk):(∃es c,x=some (.map es c)∧backB x y=some (.map es c))∨backB x y=y.map calmB:=by
 rcases x with _|x
 .exact .inr rfl
 .cases x with
  | map es c=>exact .inl ⟨_,_,rfl,rfl⟩
  | cells _ _ _ _=>exact .inr rfl
  | dead=>exact .inr rfl
  | view _=>exact .inr rfl
def Tr.back(p:Nat→Bool):Tr Blk→Tr Blk→Tr Blk
 | .nil,t=>t.mapv calmB
 | .node v l r,.nil=>.node (backB (bif p 0 then v else none) none) (Tr.back (fun j=>p (2*j+1)) l .nil) (Tr.back (fun j=>p (2*j+2)) r .nil)
 | .node v l r,.node v' l' r'=>.node (backB (bif p 0 then v else none) v') (Tr.back (fun j=>p (2*j+1)) l l') (Tr.back (fun j=>p (2*j+2)) r r')
theorem Tr.getN_non{α:Type}(n k:Nat):Tr.getN n (Tr.nil:Tr α) k=none:=by cases n<;>rfl
theorem Tr.getN_back:∀(n:Nat) (p:Nat→Bool) (s t:Tr Blk) (k:Nat),Tr.getN n (Tr.back p s t) k=backB (bif p k then Tr.getN n s k else none) (Tr.getN n t k):=by
 intro n
 induction n with
 | zero=>intro p s t k;cases p k<;>rfl
 | succ n ih=>
  intro p s t k
  cases s with
  | nil=>
   rw[show Tr.back p .nil t=t.mapv calmB by cases t<;>rfl,Tr.getN_mapv,Tr.getN_non];cases p k<;>rfl
  | node v l r=>
   have e1:∀(h:¬k=0) (h2:k % 2=1),2*((k-1) / 2)+1=k:=fun _ _=>by omega
   cases t with
   | nil=>
    rw[Tr.getN_node,Tr.getN_non,show Tr.back p (Tr.node v l r) .nil=.node (backB (bif p 0 then v else none) none) (Tr.back (fun j=>p (2*j+1)) l .nil) (Tr.back (fun j=>p (2*j+2)) r .nil)from rfl,Tr.getN_node]
    by_cases h:k=0
    .rw[if_pos h,if_pos h,h]
    .rw[if_neg h,if_neg h]
     by_cases h2:k % 2=1
     .rw[if_pos h2,if_pos h2,ih,Tr.getN_non];congr 3;omega
     .rw[if_neg h2,if_neg h2,ih,Tr.getN_non];congr 3;omega
   | node v' l' r'=>
    rw[Tr.getN_node,Tr.getN_node,show Tr.back p (Tr.node v l r) (.node v' l' r')=.node (backB (bif p 0 then v else none) v') (Tr.back (fun j=>p (2*j+1)) l l') (Tr.back (fun j=>p (2*j+2)) r r')from rfl,Tr.getN_node]
    by_cases h:k=0
    .rw[if_pos h,if_pos h,if_pos h,h]
    .rw[if_neg h,if_neg h,if_neg h]
     by_cases h2:k % 2=1
     .rw[if_pos h2,if_pos h2,if_pos h2,ih];congr 3;omega
     .rw[if_neg h2,if_neg h2,if_neg h2,ih];congr 3;omega
def Hp.back(h h2:Hp):Hp:=⟨h2.next,Tr.back (fun j=>zB j h.next) h.t h2.t⟩
theorem Hp.get_back(h h2:Hp)(b:Nat):(h.back h2).get b=backB (bif zB b h.next then h.get b else none) (h2.get b):=by
 show(Tr.back (fun j=>zB j h.next) h.t h2.t).get b=_
 rw[Tr.get_eqN,Tr.getN_back]
 show _=backB (bif zB b h.next then h.t.get b else none) (h2.t.get b)
 rw[Tr.get_eqN,Tr.get_eqN]
theorem zcQ{h h2:Hp}{b:Nat}{x:Blk}(hx:(h.back h2).get b=some x):(∃es c,x=.map es c∧h.get b=some (.map es c))∨h2.calm.get b=some x:=by
 rw[Hp.get_back]at hx
 rcases back_cases (bif zB b h.next then h.get b else none) (h2.get b)with⟨es,c,h1,h2⟩|h1
 .rw[h2]at hx;injection hx with hx
  cases hb:zB b h.next with
  | true=>rw[hb]at h1;exact .inl ⟨es,c,hx.symm,h1⟩
  | false=>rw[hb]at h1;cases h1
 .rw[h1]at hx;exact .inr (by rw[Hp.get_calm];exact hx)
theorem calm_held{P:Program}{β:Bt}{h:Hp}{w:World}(H:HR P β h w){b:Nat}{es:List MapEntry}{c:Nat}(hb:h.get b=some (.map es c)){i:Info}(hi:β b=some i):¬Held β h.calm i.blk:=by
 rintro⟨b',i',x',hx',hne,hi',e⟩
 obtain⟨y,hy,rfl⟩:=zaQ hx'
 obtain⟨hq,hne⟩:=zdd hne
 have hbb:b≠b':=fun e=>by
  subst e
  rw[hb]at hy
  injection hy with hy
  subst hy
  exact absurd hq nofun
 exact H.apart b b' i i' _ y hb hy hbb hi hi' trivial hne e.symm
theorem HR.back{P:Program}{β β2:Bt}{h h2:Hp}{w w2:World}(H:HR P β h w)(H2:HR P β2 h2.calm w2)(S:St β h.calm w β2 h2.calm w2):HR P β2 (h.back h2) w2∧St β h w β2 (h.back h2) w2:=by
 have blkM:∀ {b es c i},h.get b=some (.map es c)→β b=some i→i.blk<w.heap.size:=fun hb hi=>blk_lt (H.ok _ _ _ hb hi) (fun e=>e)
 have nh:∀ {b es c i},h.get b=some (.map es c)→β b=some i→¬Held β2 h2.calm i.blk:=fun {b es c i} hb hi q=>by
  rcases S.held _ q with q|q
  .exact calm_held H hb hi q
  .exact absurd (blkM hb hi) (by omega)
 refine⟨⟨H2.most,H2.dom,fun b x hx=>?_,fun b x i hx hi=>?_,fun b b' i i' x y hx hy hne hi hi' hm he=>?_⟩,⟨S.le,S.os,S.tape,S.output,S.size,fun k hk hn=>S.keep k hk fun ho=>hn (own_calm ho),fun k hk=>?_,fun k hk=>?_⟩⟩
 .rcases zcQ hx with⟨es,c,_,q⟩|q
  .obtain⟨i,hi⟩:=H.has b _ q
   exact⟨i,S.le _ _ hi⟩
  .exact H2.has b x q
 .rcases zcQ hx with⟨es,c,rfl,q⟩|q
  .obtain⟨j,hj⟩:=H.has b _ q
   have:=S.le _ _ hj
   rw[hi]at this
   injection this with this
   subst this
   have ok:=H.ok b _ i q hj
   refine⟨?_,ok.2⟩
   rw[S.keep i.blk (blkM q hj) (fun ho=>calm_held H q hj ho.held)]
   exact ok.1
  .exact H2.ok b x i q hi
 .rcases zcQ hx with⟨es,c,rfl,q⟩|q
  .obtain⟨j,hj⟩:=H.has b _ q
   have e1:=S.le _ _ hj
   rw[hi]at e1
   injection e1 with e1
   subst e1
   rcases zcQ hy with⟨es',c',rfl,q'⟩|q'
   .obtain⟨j',hj'⟩:=H.has b' _ q'
    have e2:=S.le _ _ hj'
    rw[hi']at e2
    injection e2 with e2
    subst e2
    exact H.apart b b' i i' _ _ q q' hne hj hj' hm he
   .exact fun e=>nh q hj ⟨b',i',y,q',he,hi',e.symm⟩
  .rcases zcQ hy with⟨es',c',rfl,q'⟩|q'
   .obtain⟨j',hj'⟩:=H.has b' _ q'
    have e2:=S.le _ _ hj'
    rw[hi']at e2
    injection e2 with e2
    subst e2
    exact fun e=>nh q' hj' ⟨b,i,x,q,zaC hm,hi,e⟩
   .exact H2.apart b b' i i' x y q q' hne hi hi' hm he
 .obtain⟨b,i,x,hx,hm,hi,rfl⟩:=hk
  rcases zcQ hx with⟨es,c,rfl,q⟩|q
  .obtain⟨j,hj⟩:=H.has b _ q
   have e1:=S.le _ _ hj
   rw[hi]at e1
   injection e1 with e1
   subst e1
   exact .inl ⟨b,i,_,q,hm,hj,rfl⟩
  .exact(S.own _ ⟨b,i,x,q,hm,hi,rfl⟩).imp own_calm id
 .obtain⟨b,i,x,hx,hm,hi,rfl⟩:=hk
  rcases zcQ hx with⟨es,c,rfl,q⟩|q
  .obtain⟨j,hj⟩:=H.has b _ q
   have e1:=S.le _ _ hj
   rw[hi]at e1
   injection e1 with e1
   subst e1
   exact .inl ⟨b,i,_,q,hm,hj,rfl⟩
  .exact(S.held _ ⟨b,i,x,q,hm,hi,rfl⟩).imp zdb id
theorem HR.growRo{P:Program}{β:Bt}{h h':Hp}{w:World}(H:HR P β h w){c:List Value}{e:TypeId}{x:Bool}{b0 nb:Nat}{i0:Info}(hg:h.get b0=some (.cells c e x true))(hi0:β b0=some i0)(hn:h.new (.cells c e false true)=some (nb,h')) :
  HR P (β.put h.next ⟨i0.blk,i0.off,0⟩) h' w∧St β h w (β.put h.next ⟨i0.blk,i0.off,0⟩) h' w:=by
 obtain⟨hb,h1,h2,h3⟩:=Hp.new_some hn
 have hle:=H.le_put (⟨i0.blk,i0.off,0⟩:Info)
 have old:∀b y,h.get b=some y→b≠h.next:=by
  rintro b y e rfl
  obtain⟨j,hj⟩:=H.has _ _ e
  rw[H.new_id]at hj
  cases hj
 have hne0:∀ {y:Blk},y=.cells c e false true→¬y.empty→¬(Blk.cells c e x true).empty:=by
  rintro y rfl hy he
  cases c with
  | nil=>exact hy trivial
  | cons a l=>exact he
 have hnot:∀b y,h.get b=some y→y.mine→b≠b0:=by
  rintro b y e hm rfl
  rw[hg]at e
  injection e with e
  subst e
  exact hm
 have get':∀b y,h'.get b=some y→(b=h.next∧y=.cells c e false true)∨(b≠h.next∧h.get b=some y):=fun b y q=>by
  rw[h3]at q
  by_cases hbn:b=h.next
  .rw[if_pos hbn]at q;injection q with q;exact .inl ⟨hbn,q.symm⟩
  .rw[if_neg hbn]at q;exact .inr ⟨hbn,q⟩
 refine⟨⟨by omega,fun b j q=>?_,fun b y q=>?_,fun b y j q hj=>?_,fun b b' j j' y z q q' hne hj hj' hm he=>?_⟩,⟨hle,rfl,rfl,rfl,zA _,fun _ _ _=>rfl,fun k hk=>?_,fun k hk=>?_⟩⟩
 .by_cases hbn:b=h.next
  .omega
  .rw[Bt.put_other _ _ hbn]at q
   have:=H.dom _ _ q
   omega
 .rcases get' b y q with⟨rfl,rfl⟩|⟨hbn,q⟩
  .exact⟨_,Bt.put_same _ _ _⟩
  .obtain⟨j,hj⟩:=H.has _ _ q
   exact⟨j,hle _ _ hj⟩
 .rcases get' b y q with⟨rfl,rfl⟩|⟨hbn,q⟩
  .rw[Bt.put_same]at hj
   injection hj with hj
   subst hj
   rcases H.ok _ _ _ hg hi0 with⟨rfl,_,_⟩|⟨cc,e',fr,k1,k2,k3,_,_⟩
   .exact .inl ⟨rfl,rfl,rfl⟩
   .exact .inr ⟨cc,e',fr,k1,k2,fun k x y a b=>(k3 k x y a b).mono hle,fun q=>(by cases q),fun q=>by cases q⟩
  .rw[Bt.put_other _ _ hbn]at hj
   exact blkOk_mono hle (H.ok _ _ _ q hj)
 .rcases get' b y q with⟨rfl,rfl⟩|⟨hbn,q⟩
  .exact absurd hm (fun q=>q)
  .rw[Bt.put_other _ _ hbn]at hj
   rcases get' b' z q' with⟨rfl,rfl⟩|⟨hbn',q'⟩
   .rw[Bt.put_same]at hj'
    injection hj' with hj'
    subst hj'
    exact H.apart b b0 j i0 y _ q hg (hnot b y q hm) hj hi0 hm (hne0 rfl he)
   .rw[Bt.put_other _ _ hbn']at hj'
    exact H.apart b b' j j' y z q q' hne hj hj' hm he
 .obtain⟨b,j,y,q,hm,hj,rfl⟩:=hk
  rcases get' b y q with⟨rfl,rfl⟩|⟨hbn,q⟩
  .exact absurd hm (fun q=>q)
  .rw[Bt.put_other _ _ hbn]at hj
   exact .inl ⟨b,j,y,q,hm,hj,rfl⟩
 .obtain⟨b,j,y,q,he,hj,rfl⟩:=hk
  rcases get' b y q with⟨rfl,rfl⟩|⟨hbn,q⟩
  .rw[Bt.put_same]at hj
   injection hj with hj
   subst hj
   exact .inl ⟨b0,i0,_,hg,hne0 rfl he,hi0,rfl⟩
  .rw[Bt.put_other _ _ hbn]at hj
   exact .inl ⟨b,j,y,q,he,hj,rfl⟩
def inTail(h:Hp):Option (Value×Hp)→Option (Value×Hp)
 | some (.tuple ⟨[.int .i64 n,.int .i64 (.ofNat 0)]⟩,h2)=>some (.int .i64 (.ofNat 0),h.back h2)
 | _=>none
def inRun(run:List Value→Hp→Option (Value×Hp))(s:Addr)(ino:Int)(o m k:Nat)(h:Hp):Option Blk→Option (Value×Hp)
 | some (.cells c e _ true)=>match Nat.ble 1 m&&(zB m 4096&&Nat.ble m k),h.new (.cells c e false true)with
  | true,some (nb,h1)=>inTail h1 (run [.pointer (some s),.int .i64 ino,.int .i64 (.ofNat 0),.slice (some ⟨nb,o,none⟩) m m] h1.calm)
  | _,_=>none
 | _=>none
def inMid(run:List Value→Hp→Option (Value×Hp))(s:Addr)(ino:Int)(h:Hp):Option (List Value)→Option (Value×Hp)
 | some [.slice (some b) m k]=>match zD m 0 with
  | true=>some (.int .i64 (.ofNat 0),h)
  | false=>inRun run s ino b.off m k h (h.get b.block)
 | some [.slice none m k]=>match zD m 0 with|true=>some (.int .i64 (.ofNat 0),h)|false=>none
 | some [.chan none]=>some (.int .i64 (.ofNat 0),h)
 | _=>none
def spInW(run:List Value→Hp→Option (Value×Hp))(args:List Value)(h:Hp):Option (Value×Hp):=
 match args with
 | [.pointer (some s),.int .i64 ino,.slice (some a) 1 _]=>inMid run s ino h (zaj h a 1)
 | _=>none
theorem inW_told{P:Program}{gl:Nat}{f wr:FuncId}{run:List Value→Hp→Option (Value×Hp)}(hent:Enters P f)
  (hrun:∀(args args':List Value) (h h2:Hp) (v:Value) (β:Bt) (w:World),run args h=some (v,h2)→LR β args args'→HR P β h w→(∀g,g<gl→β g=some ⟨g,0,0⟩)→
   Calls P wr args'.toArray w fun en w2=>∃v' β2,en=.returned v'∧HR P β2 h2 w2∧St β h w β2 h2 w2∧VR β2 v v')
  (hinto:∀(st:Option Addr) (ino:Int) (bl ol cl bp op m km:Nat) (n:Int) (β:Bt) (h0 h2:Hp) (h1:1≤m) (hm:m<4096) (hcap:m≤km) (w:World) (hlt:bl<w.heap.size) (hl:w.cell? ⟨bl,ol,none⟩=some (.slice (some ⟨bp,op,none⟩) m km)) (H:HR P β h0.calm w)
   (hW:∀W,HR P β h0.calm W→Calls P wr #[.pointer st,.int .i64 ino,.int .i64 0,.slice (some ⟨bp,op,none⟩) m m] W fun e W2=>∃β2,e=.returned (.tuple #[.int .i64 n,.int .i64 0])∧HR P β2 h2 W2∧St β h0.calm W β2 h2 W2),
   Calls P f #[.pointer st,.int .i64 ino,.slice (some ⟨bl,ol,none⟩) 1 cl] w fun e W'=>e=.returned (.int .i64 0)∧∃β2,HR P β2 h2.calm W'∧St β h0.calm w β2 h2.calm W')
  (hinto0:∀(st:Option Addr) (ino:Int) (bl ol cl km:Nat) (a:Option Addr) (w:World) (hlt:bl<w.heap.size) (hl:w.cell? ⟨bl,ol,none⟩=some (.slice a 0 km)),
   Calls P f #[.pointer st,.int .i64 ino,.slice (some ⟨bl,ol,none⟩) 1 cl] w fun e W'=>e=.returned (.int .i64 0)∧Below w.heap.size w W'):ToldOk P gl f (spInW run):=
 zbH fun args args' h h3 v β w hc hl H hgb=>by
  unfold spInW at hc
  split at hc
  .rename_i s ino a c
   obtain⟨x',y',z',rfl,hx,hy,hz⟩:=three_args hl
   have hx0:=hx
   obtain⟨i1,hi1⟩:∃st,x'=.pointer st:=by
    revert hx
    generalize x'=u
    intro hx
    cases hx<;>exact⟨_,rfl⟩
   obtain⟨i2,_,hi2,rfl⟩:=hz.slice_inv
   rw[hy.int_inv]
   subst hi1
   have none_:∀(u:Value),zaj h a 1=some [u]→(u=.chan none∨∃o k,u=.slice o 0 k)→some (Value.int .i64 (.ofNat 0),h)=some (v,h3)→
     Answers P β h w h3 v ((callFunc f #[.pointer i1,.int .i64 ino,.slice (some ⟨i2.blk,i2.off+a.off,none⟩) 1 (c+i2.ex)]).run P w):=fun u hld hm hc=>by
    simp only[zE,zF]at hc
    obtain⟨rfl,rfl⟩:=hc
    obtain⟨y,hc1,hv1⟩:=zcA H hld hi2 0 _ rfl
    have hlt:i2.blk<w.heap.size:=by
     rcases Nat.lt_or_ge i2.blk w.heap.size with q4|q4
     .exact q4
     .simp[World.cell?,Array.getElem?_eq_none q4]at hc1
    obtain⟨o',k',rfl⟩:∃o' k',y=.slice o' 0 k':=by
     rcases hm with rfl|⟨o,k,rfl⟩
     .cases hv1 with
      | noneLeft a c=>exact⟨_,_,rfl⟩
     .cases o with
      | none=>exact⟨none,_,hv1.nilSlice_inv⟩
      | some b=>obtain⟨i3,_,_,rfl⟩:=hv1.slice_inv;exact⟨_,_,rfl⟩
    refine .inr ⟨f,_,hent _ w,(hinto0 i1 ino i2.blk (i2.off+a.off) (c+i2.ex) k' o' w hlt hc1).mono ?_⟩
    rintro e W' ⟨rfl,hB⟩
    exact⟨_,β,rfl,H.below hB,St.below hB,.int _ _⟩
   unfold inMid at hc
   split at hc
   .rename_i b m k hld
    split at hc
    .rename_i hm
     exact none_ _ hld (.inr ⟨_,k,by rw[zH hm]⟩) hc
    .unfold inRun at hc
     split at hc
     .rename_i cc e x hget
      split at hc
      .rename_i nb hN hle hnew
       unfold inTail at hc
       split at hc
       .rename_i n h2 hr
        simp only[zE,zF]at hc
        obtain⟨rfl,rfl⟩:=hc
        simp only[zI]at hle
        obtain⟨q1,q2,q3⟩:=hle
        have q1:=zG q1
        have q2:m<4096:=zC (Nat.lt_succ_self _) (zG q2)
        have q3:=zG q3
        obtain⟨y,hc1,hv1⟩:=zcA H hld hi2 0 _ rfl
        obtain⟨i3,hb3,hi3,rfl⟩:=hv1.slice_inv
        obtain⟨HN,SN⟩:=H.growRo hget hi3 hnew
        have hnb:nb=h.next:=(Hp.new_some hnew).1
        have hlt:i2.blk<w.heap.size:=by
         rcases Nat.lt_or_ge i2.blk w.heap.size with q4|q4
         .exact q4
         .simp[World.cell?,Array.getElem?_eq_none q4]at hc1
        refine .inr ⟨f,_,hent _ w,?_⟩
        refine(hinto i1 ino i2.blk (i2.off+a.off) (c+i2.ex) i3.blk (i3.off+b.off) m (k+i3.ex) n _ hN h2 q1 q2 (by omega) w hlt hc1 HN.calm (fun W HW=>?_)).mono ?_
        .have hl4:LR (β.put h.next ⟨i3.blk,i3.off,0⟩) [.pointer (some s),.int .i64 ino,.int .i64 (.ofNat 0),.slice (some ⟨nb,b.off,none⟩) m m] [.pointer i1,.int .i64 ino,.int .i64 0,.slice (some ⟨i3.blk,i3.off+b.off,none⟩) m m]:=by
          refine LR.cons (hx0.mono SN.le) (LR.cons (.int _ _) (LR.cons (.int _ _) (LR.cons ?_ (LR.nil _))))
          have:=VR.slice (β:=β.put h.next ⟨i3.blk,i3.off,0⟩) b.off m m (b:=nb) (i:=⟨i3.blk,i3.off,0⟩) (by rw[hnb];exact Bt.put_same _ _ _)
          exact this
         refine(hrun _ _ _ _ _ _ W hr hl4 HW fun g hg=>SN.le _ _ (hgb g hg)).mono ?_
         rintro e W2 ⟨v',β2,rfl,H2,S2,hv⟩
         obtain⟨ys,rfl,hys⟩:=hv.tuple_inv
         refine⟨β2,?_,H2,S2⟩
         have hl5:LR β2 [.int .i64 n,.int .i64 (.ofNat 0)] ys.toList:=⟨by simpa using hys.1,fun i x y p1 p2=>hys.2 i x y (by simpa using p1) (by simpa using p2)⟩
         obtain⟨u1,u2,hu,hu1,hu2⟩:=zb7 hl5
         have:ys=#[u1,u2]:=by
          apply Array.ext'
          exact hu
         rw[this,hu1.int_inv,hu2.int_inv]
         rfl
        .rintro e W' ⟨rfl,β2,H2,S2⟩
         obtain⟨r1,r2⟩:=HN.back H2 S2
         exact⟨_,β2,rfl,r1,SN.trans r2,.int _ _⟩
       .cases hc
      .cases hc
     .cases hc
   .rename_i m k hld
    split at hc
    .rename_i hm
     exact none_ _ hld (.inr ⟨_,k,by rw[zH hm]⟩) hc
    .cases hc
   .rename_i hld
    exact none_ _ hld (.inl rfl) hc
   .cases hc
  .cases hc
noncomputable def zdG{α:Type}(g:Nat→Option α):Option α:=open Classical in if h:∃r,∃N,∀n,N≤n→g n=some r then some h.choose else none
theorem lastly_of{α:Type}{g:Nat→Option α}{r:α}{N:Nat}(h:∀n,N≤n→g n=some r):zdG g=some r:=by
 have hx:∃r,∃N,∀n,N≤n→g n=some r:=⟨r,N,h⟩
 unfold zdG
 rw[dif_pos hx]
 obtain⟨M,hM⟩:=hx.choose_spec
 have h1:=hM (max N M) (Nat.le_max_right _ _)
 rw[h _ (Nat.le_max_left _ _)]at h1
 exact h1.symm
theorem lastly_some{α:Type}{g:Nat→Option α}{r:α}(h:zdG g=some r):∃N,∀n,N≤n→g n=some r:=by
 unfold zdG at h
 split at h
 .rename_i hx
  injection h with h
  rw[←h]
  exact hx.choose_spec
 .cases h
end Go.Proofs.YtponjccgpbgnoaaGreatDoor
namespace Go.Proofs.YtponjccgpbgnoaaGreatDoor.Se
open Go Go.Proofs.YtponjccgpbgnoaaGreatDoor Go.RowKit
set_option maxRecDepth 20000
theorem HRs.heap{F:Fz}{ι:Im}{k c c2:Nat}{log:List Nat}{bs:List SB}{h h':Hp}(H:HRs F ι (shOf k c log bs) h)(hbs:bs.length<4000)(hm:∀es c,SB.mp es c∉bs)(hle:h.next≤h'.next)(hc:h'.next+c2≤9223372036854775808)
  (hcell:∀b cs e x ro,b<h.next→h.get b=some (.cells cs e x ro)→h'.get b=some (.cells cs e x ro)) (hview:∀b v,b<h.next→h.get b=some (.view v)→h'.get b=some (.view v)):HRs F ι (shOf k c2 log bs) h':=by
 have st:∀ {B:Bl} {cs:List Value} {t:TypeId},zas h B cs t→zas h' B cs t:=fun S=>
  ⟨hcell _ _ _ _ _ S.lt S.got,S.len,S.one,S.fit,fun e=>hview _ _ (S.vlt e) (S.view e),zC S.lt hle,fun e=>zC (S.vlt e) hle⟩
 refine⟨hc,H.smost,H.sdom,fun id sb e=>?_,H.apart,fun b cs t e=>?_,H.fap⟩
 .have ok:=H.ok id sb e
  cases sb with
  | lst k rows t=>obtain⟨B,cs,h1,h2,h3,h4,h5⟩:=ok;exact⟨B,cs,h1,h2,h3,st h4,h5⟩
  | row k n e t=>
   rcases ok with ok|⟨B,cs,h1,h2,h3,h4,h5⟩
   .exact .inl ok
   .exact .inr ⟨B,cs,h1,h2,h3,st h4,h5⟩
  | mp es c=>
   rw[show(shOf k c2 log bs).get id=(shOf k c log bs).get id from rfl,zay hbs]at e
   exact absurd (List.mem_of_getElem? e) (hm es c)
  | gone=>trivial
 .obtain⟨h1,h2,h3,e',x,ro,h4⟩:=H.frz b cs t e
  exact⟨h1,zC h2 hle,h3,e',x,ro,hcell _ _ _ _ _ h2 h4⟩
theorem HRs.blk_lt2{F:Fz}{ι:Im}{sh:SH}{h:Hp}(H:HRs F ι sh h){id:Nat}(l:Live sh id){B:Bl}(hB:ι id=some B):B.b<h.next:=by
 obtain⟨sb,g1,g2⟩:=l
 have ok:=H.ok id sb g1
 cases sb with
 | lst k rows t=>obtain⟨B',cs',h1,h2,h3,h4,h5⟩:=ok;rw[hB]at h1;injection h1 with h1;subst h1;exact h4.lt
 | row k n e t=>
  rcases ok with⟨_,ok⟩|⟨B',cs',h1,h2,h3,h4,h5⟩
  .rw[hB]at ok;cases ok
  .rw[hB]at h1;injection h1 with h1;subst h1;exact h4.lt
 | mp es c=>obtain⟨B',h1,h2,h3⟩:=ok;rw[hB]at h1;injection h1 with h1;subst h1;exact h3
 | gone=>exact absurd rfl g2
def also(F:Fz)(nb:Nat)(x:List Value×Nat):Fz:=fun j=>if j=nb then some x else F j
theorem HRs.twice{F:Fz}{ι:Im}{k c:Nat}{log:List Nat}{bs:List SB}{h h1:Hp}(H:HRs F ι (shOf k (c+1) log bs) h)(hbs:bs.length<4000)(hm:∀es c,SB.mp es c∉bs){b:Nat}{cs:List Value}{e:TypeId}{t:Nat}(hF:F b=some (cs,t))(hn:h.new (.cells cs e false true)=some (h.next,h1)) :
  HRs (also F h.next (cs,k)) ι (shOf k c log bs) h1.calm∧F.le (also F h.next (cs,k)):=by
 obtain⟨_,hnx,hlt,hg⟩:=Hp.new_some hn
 have hmost:=H.most
 have hroom:(shOf k (c+1) log bs).room=c+1:=rfl
 rw[hroom]at hmost
 have H1:HRs F ι (shOf k c log bs) h1.calm:=H.heap hbs hm (by show h.next≤h1.next;omega) (by show h1.next+c≤_;omega)
  (fun j cs e x ro hj q=>by rw[Hp.get_calm,hg,if_neg (by omega),q];rfl) (fun j v hj q=>by rw[Hp.get_calm,hg,if_neg (by omega),q];rfl)
 have hle:F.le (also F h.next (cs,k)):=fun j x q=>by
  unfold also
  rw[if_neg ?_];exact q
  intro e;subst e
  have:=(H.frz _ _ _ q).2.1
  omega
 refine⟨⟨H1.most,H1.smost,H1.sdom,fun id sb q=>(H1.ok id sb q).keep hle (Im.le.refl _) rfl (zA _) fun B _=>⟨rfl,fun _ _ _=>rfl⟩,H1.apart,fun j cs2 t2 q=>?_,fun j x id B q l hB=>?_⟩,hle⟩
 .unfold also at q
  split at q
  .rename_i hj
   injection q with q;injection q with q1 q2
   subst q1 q2 hj
   refine⟨zA _,by show h.next<h1.next;omega,(H.frz b _ _ hF).2.2.1,e,false,true,?_⟩
   rw[Hp.get_calm,hg,if_pos rfl];rfl
  .exact H1.frz j cs2 t2 q
 .unfold also at q
  split at q
  .rename_i hj
   intro e2
   have:=H.blk_lt2 l hB
   omega
  .exact H1.fap j x id B q l hB
structure Top(F0 F:Fz)(h:Hp):Prop where
 le:F0.le F
 old:∀b cs,F b=some (cs,0)→F0 b=some (cs,0)
 ro:∀b cs,F0 b=some (cs,0)→∃e y,h.get b=some (.cells cs e y true)
theorem top_steps{F0:Fz}:Steps (Top F0):=fun {F ι sh h F' ι' sh' h'} q H S=>⟨q.le.trans S.fm,fun b cs e=>by
  rcases S.fnew b cs 0 e with e|⟨e,_⟩
  .exact q.old b cs e
  .omega,fun b cs e=>by
  obtain⟨nw,_,_,l3,l4,_⟩:=S.log
  obtain⟨e',y,g⟩:=q.ro b cs e
  have hF:=q.le b _ e
  refine⟨e',y,?_⟩
  rw[l4 b (H.frz b cs 0 hF).2.1 fun id C hm hlt hC=>H.fap b _ id C hF (l3 id hm hlt) hC]
  exact g⟩
theorem withF_okQ{Q:Fz→Hp→Prop}{E:Env}{sp:Sp}{T:Told}(hT:ToldQ Q E sp T){f:FuncId}{q:List SV→SH→RT (SV×SH)}
  (hq:∀args sh v sh' F ι h args' b,Q F h→HRs F ι sh h→LRs F ι args args'→(q args sh).sel=some (v,sh')→Out F ι sh h v sh' fun n=>zbh E sp b n f args' h):ToldQ Q E sp ⟨fun f'=>bif zD f' f then some q else T.pf f',T.lp⟩ where
 run:=fun f' h=>by
  simp only at h
  cases hb:zD f' f with
  | true=>rw[hb]at h;cases h
  | false=>rw[hb]at h;exact hT.run f' h
 pf:=fun f' q' h=>by
  simp only at h
  cases hb:zD f' f with
  | true=>
   rw[hb]at h
   simp only[cond_true,zE]at h
   subst h
   rw[zH hb]
   exact hq
  | false=>rw[hb]at h;exact hT.pf f' q' h
 lp:=fun f' p q' h=>hT.lp f' p q' h
end Go.Proofs.YtponjccgpbgnoaaGreatDoor.Se
namespace Go.Proofs.YtponjccgpbgnoaaGreatDoor.Se
open Go Go.Proofs.YtponjccgpbgnoaaGreatDoor Go.RowKit
set_option maxRecDepth 1000000
def qi0:QI:=⟨fun _ _=>none⟩
abbrev intoF:FuncId:=30
noncomputable def inS(ino:Int)(b:List UInt8)(S:Sto):Sto:=match b with|[]=>S|x::l=>stW ino 0 (x::l) S (wwP 0 (x::l))
structure RawIn where
 s:RawS
 ino:Int
 y:Sl
def inDec(a:List SV)(b:List SB):Option RawIn:=match a,b with
 | [.ptr 0 9 _ 0 0,.int .i64 _ ino,.nsl 2 1 _ 0 1 _],[b0,b1,.lst 1 [[.fsl 0 1 n nl e]] _]=>(match decS [b0,b1]with|some s=>some ⟨s,ino,(n,nl,e)⟩|none=>none)
 | _,_=>none
def RawIn.b(r:RawIn):List UInt8:=cB.ls r.y.1 r.y.2.2
def InOk(S:Sto)(ino:Int)(b:List UInt8):Prop:=b=[]∨(WwOk S ino 0 b∧b.length<4096)
noncomputable def inPre(r:RawIn):Bool:=wfS r.s&&(cB.wf r.y.1 r.y.2.2&&tt (InOk (valS r.s) r.ino r.b))
noncomputable def gIn:=gSub inDec inPre fun k r=>⟨.int .i64 true 0,bsS (k+1) (inS r.ino r.b (valS r.s)),[some (0,false),none,none]⟩
theorem ww_sel{k:Nat}{S:Sto}{c0 ci:Bool}{ino:Int}{n:Nat}{e:Nat→List SV}(hw:cB.wf n e=true)(W:WwOk S ino 0 (cB.ls n e)) :
  (gWw k [.ptr 0 9 c0 0 0,.int .i64 ci ino,.int .i64 true 0,.fsl k 1 n none e] (bsS k S)).sel=some ⟨.tup [.int .i64 false (.ofNat (cB.ls n e).length),.int .i64 true 0],bsS (k+1) (stW ino 0 (cB.ls n e) S (wwP 0 (cB.ls n e))),[some (0,false),none]⟩:=by
 haveI:Inhabited QI:=⟨qi0⟩
 obtain⟨r,h1,h2,h3⟩:=dec_bs k S
 subst h3
 unfold gWw gSub
 have:wwDec [.ptr 0 9 c0 0 0,.int .i64 ci ino,.int .i64 true 0,.fsl k 1 n none e] (bsS k (valS r))=some ⟨r,ino,0,(n,none,e)⟩:=by
  unfold wwDec
  simp only[h1]
  rfl
 rw[this]
 have hp:wwPre ⟨r,ino,0,(n,none,e)⟩=true:=by
  unfold wwPre
  simp only[h2,Bool.true_and,zI]
  exact⟨hw,tt_t W⟩
 simp only[hp]
 rfl
theorem in_canon(k c:Nat)(S:Sto)(c0 ci:Bool)(ino:Int)(n:Nat)(e:Nat→List SV):canon_ (shOf k c [] (bsS k S++[.gone])) [] [.ptr 0 9 c0 0 0,.int .i64 ci ino,.int .i64 true 0,.fsl k 1 n none e] =
  some ([.ptr 0 9 c0 0 0,.int .i64 ci ino,.int .i64 true 0,.fsl k 1 n none e],bsS k S,[0,1]):=by kernel_rfl
noncomputable def qi1:QI:=⟨spInW fun args h=>zdG fun n=>zb6 env (@spE ⟨qi0⟩) n swF args h⟩
theorem kpos_one{j:Nat}(h:kpos [some (0,false),none,none] j 0=none):kpos [some (0,false),none] j 0=none∧j≠0:=by
 cases j with
 | zero=>cases h
 | succ j=>exact⟨rfl,nofun⟩
theorem touch_in{i:Nat}(h:zaG [some (0,false),none] i):zaG [some (0,false),none,none] i∧i<2:=by
 match i with
 | 0=>exact⟨.inr ⟨0,rfl⟩,by omega⟩
 | 1=>exact⟨.inl rfl,by omega⟩
 | i+2=>rcases h with h|⟨j,h⟩<;>simp at h
theorem sub_lt{ι:Im}{i:Nat}(h:i<2):subI ι [0,1] i=ι i:=by
 match i with
 | 0=>rfl
 | 1=>rfl
theorem in_sub_of{F0:Fz}{cw:Nat}(hW:SubOk F0 env (@spE ⟨qi0⟩) swF cw gWw):SubQ (Top F0) env (@spE ⟨qi1⟩) intoF (cw+1) gIn:=fun F ι k h args args' bs L fr h0 H hbs hl hg=>by
 haveI:Inhabited QI:=⟨qi0⟩
 unfold gIn gSub at hg
 split at hg
 .rename_i r hr
  cases hp:inPre r with
  | false=>rw[hp]at hg;cases hg
  | true=>
  rw[hp]at hg
  simp only[RT.sel,cond_true,zE]at hg
  subst hg
  unfold inPre at hp
  simp only[zI]at hp
  obtain⟨p1,p2,p3⟩:=hp
  have W:=of_tt p3
  unfold inDec at hr
  split at hr
  .rename_i c0 ci ino cl z b0 b1 n nl e tl
   split at hr
   .rename_i s hs
    injection hr with hr;subst hr
    simp only at p1 p2
    have W:InOk (valS s) ino (cB.ls n e):=W
    have el:(cB.ls n e).length=n:=cB.ls_len
    obtain⟨y1,l1,rfl,v1,hl⟩:=hl.cons_inv
    obtain⟨y2,l2,rfl,v2,hl⟩:=hl.cons_inv
    obtain⟨y3,l3,rfl,v3,hl⟩:=hl.cons_inv
    rw[hl.nil_inv]at *
    clear hl
    rw[v2.int_inv]
    obtain⟨a1,rfl⟩:∃a1,y1=.pointer (some a1):=by cases v1;exact⟨_,rfl⟩
    have htm:Tm k F F:=fun b cs t e=>⟨t,(H.frz b cs t e).1,e⟩
    obtain⟨a3,c3,u,rfl,hld,vu⟩:∃a3 c3 u,y3=.slice (some a3) 1 c3∧zaj h a3 1=some [u]∧VRs F ι (.fsl 0 1 n nl e) u:=by
     cases v3 with
     | nsl _ _ _ _ _ _ _ B off cap e1 e2 e3 e4 e5 e6 e7=>
      have ok:=H.ok 2 _ (by rw[zay hbs];rfl)
      obtain⟨B',cs,i1,i2,i3,S,rows⟩:=ok
      rw[e1]at i1
      injection i1 with i1
      subst i1
      have hoff:off=B.o:=by rcases e5 with e5|e5;omega;omega
      subst hoff
      have i3:B.m=1:=i3
      have hlen:B.o+1≤cs.length:=by have:=S.fit;have:=S.len;rw[i3,i2]at *;omega
      have hrow:=rows 0 _ rfl
      rw[Nat.zero_mul,Nat.add_zero]at hrow
      refine⟨_,_,cs[B.o]'(by omega),rfl,?_,hrow.2 0 _ _ rfl (by rw[Nat.add_zero];exact List.getElem?_eq_getElem _)⟩
      rw[zaP S (.inl rfl),zc6 hlen]
      congr 1
      rw[List.drop_eq_getElem_cons (by omega),List.take_succ_cons,List.take_zero]
    have hsp:(@spE ⟨qi1⟩) intoF=some qi1.q:=by unfold spE;rfl
    have hq:∀v' h',inMid (fun args h=>zdG fun n=>zb6 env (@spE ⟨qi0⟩) n swF args h) a1 ino h (some [u])=some (v',h')→∀m,zbh env (@spE ⟨qi1⟩) fr m intoF [.pointer (some a1),.int .i64 ino,.slice (some a3) 1 c3] h=some (v',h'):=fun v' h' e m=>by
     unfold zbh
     rw[hsp]
     simp only
     unfold qi1 spInW
     simp only[hld]
     exact e
    have wk0:WkBs k [b0,b1,.lst 1 [[.fsl 0 1 n nl e]] tl] (bsS k (valS s)++[.gone]):=by
     have q:=zdB (zA k) hs p1
     refine .cons (q.at_ 0 _ _ rfl rfl).1 (q.at_ 0 _ _ rfl rfl).2 (.cons (q.at_ 1 _ _ rfl rfl).1 (q.at_ 1 _ _ rfl rfl).2 (.cons (fun _ _ _ _ _ _ _=>trivial) (fun q=>absurd rfl q) .nil))
    have Hc:=H.wk (k2:=k) hbs wk0 htm fun b cs t e=>⟨(H.frz b cs t e).1,t,e⟩
    have nomp:∀es c,SB.mp es c∉bsS k (valS s)++[.gone]:=fun es c q=>by
     rcases List.mem_cons.1 q with q|q
     .cases q
     .rcases List.mem_cons.1 q with q|q
      .cases q
      .rcases List.mem_cons.1 q with q|q
       .cases q
       .cases q
    obtain⟨P,ha⟩:=zcC (in_canon k cw (valS s) c0 ci ino n e)
    obtain⟨P0,_⟩:=zcC (in_canon k (cw+1) (valS s) c0 ci ino n e)
    have frz1:∀b cs t,F b=some (cs,t)→t≤k+1∧∃t0,F b=some (cs,t0):=fun b cs t e=>⟨Nat.le_succ_of_le (H.frz b cs t e).1,t,e⟩
    have zero:n=0→inMid (fun args h=>zdG fun n=>zb6 env (@spE ⟨qi0⟩) n swF args h) a1 ino h (some [u])=some (.int .i64 (.ofNat 0),h)→
      ∃N v' h' F' ι',(∀m,N≤m→zbh env (@spE ⟨qi1⟩) fr m intoF [.pointer (some a1),.int .i64 ino,.slice (some a3) 1 c3] h=some (v',h'))∧VRs F' ι' (.int .i64 true 0) v'∧HRs F' ι' (shOf (k+1) 0 [] (bsS (k+1) (inS ino (cB.ls n e) (valS s)))) h'∧
       Frm F ι h 3 [some (0,false),none,none] (k+1) F' ι' h' (cw+1):=fun hn hm=>by
     subst hn
     refine⟨0,_,h,F,subI ι [0,1],fun m _=>hq _ _ hm m,.int _ _ _ _,?_,⟨Fz.le.refl _,fun _ _ _ e=>.inl e,zA _,by omega,fun _ _ _=>rfl,fun i j s q=>?_,fun j B q1 q2=>?_,rfl⟩⟩
     .have HP:=part_hr Hc P0 (c:=0) (Nat.zero_le _) (log:=[])
      have e0:inS ino (cB.ls 0 e) (valS s)=valS s:=by
       rw[List.length_eq_zero_iff.1 el];rfl
      rw[e0]
      exact HP.wk P.small (zcP (zA (k+1)) _) (fun b cs t e=>⟨t,(frz1 b cs t e).1,e⟩) frz1
     .match i with
      | 0=>simp only[List.getElem?_cons_zero,zE,zF]at q;obtain⟨rfl,rfl⟩:=q;rfl
      | 1=>simp at q
      | 2=>simp at q
      | i+3=>simp at q
     .obtain⟨_,hj⟩:=kpos_one q2
      match j with
      | 0=>exact absurd rfl hj
      | 1=>exact .inr ⟨1,B,.inl rfl,q1,rfl⟩
      | j+2=>cases q1
    cases hn:n with
    | zero=>
     subst hn
     refine zero rfl ?_
     cases vu with
     | fsl _ _ _ _ _ _ b o cs t cap _ _ _ _ _ _ _=>rfl
     | fslN _ _ _ _ _ _=>rfl
     | fslE _ _ _ _ _ _=>rfl
    | succ n'=>
     rw[←hn]
     have hn1:1≤n:=by omega
     clear zero
     cases vu with
     | fslN=>omega
     | fslE=>omega
     | fsl _ _ _ _ _ _ b o cs t cap g1 g2 g3 g4 g5 g6 g7=>
     have:t=0:=by omega
     subst this
     obtain⟨ty,x,hget⟩:=h0.ro b cs (h0.old b cs g1)
     rcases W with W|⟨W,hmax⟩
     .have:=congrArg List.length W
      rw[el]at this
      simp at this
      omega
     rw[el]at hmax
     have hlen:=W.fit
     have hmost:=H.most
     rw[show(shOf k (cw+1) [] [b0,b1,.lst 1 [[.fsl 0 1 n nl e]] tl]).room=(cw+1)from rfl]at hmost
     obtain⟨h1,n1,n2,n3⟩:=Hp.new_ok (h:=h) (x:=.cells cs ty false true) (by omega)
     obtain⟨HT,hle⟩:=Hc.twice (by simp[bsS]) nomp g1 n1
     have HP:=part_hr HT P (c:=cw) (zA _) (log:=[])
     have hnil:inS ino (cB.ls n e) (valS s)=stW ino 0 (cB.ls n e) (valS s) (wwP 0 (cB.ls n e)):=by
      cases hc:cB.ls n e with
      | nil=>rw[hc]at el;simp at el;omega
      | cons _ _=>rfl
     have hargs:LRs (also F h.next (cs,k)) (subI ι [0,1]) [.ptr 0 9 c0 0 0,.int .i64 ci ino,.int .i64 true 0,.fsl k 1 n none e] [.pointer (some a1),.int .i64 ino,.int .i64 0,.slice (some ⟨h.next,o,none⟩) n n]:=by
      refine part_args ha (.cons (v1.mono hle (Im.le.refl _)) (.cons (.int _ _ _ _) (.cons (.int _ _ _ _) (.cons ?_ (.nil _ _)))))
      exact .fsl _ _ _ _ _ _ h.next o cs k n (if_pos rfl) (zA _) (.inl rfl) (zA _) (by omega) g6 fun i j x y q1 q2 q3=>(g7 i j x y q1 q2 q3).mono hle (Im.le.refl _)
     obtain⟨N,v',h2,F2,ι2,r1,r2,r3,r4⟩:=hW (also F h.next (cs,k)) (subI ι [0,1]) k h1.calm _ _ (bsS k (valS s)) _ ⟨0,0,.nil⟩ (h0.le.trans hle) HP P.small hargs (ww_sel p2 W)
     obtain⟨l',rfl,L⟩:=r2.tup_inv
     obtain⟨z1,l1,rfl,z2,L⟩:=L.cons_inv
     obtain⟨z3,l2,rfl,z4,L⟩:=L.cons_inv
     obtain rfl:=L.nil_inv
     rw[z2.int_inv,z4.int_inv]at r1
     have hrun:inMid (fun args h=>zdG fun n=>zb6 env (@spE ⟨qi0⟩) n swF args h) a1 ino h (some [.slice (some ⟨b,o,none⟩) n cap])=some (.int .i64 (.ofNat 0),h1.back h2):=by
      unfold inMid
      have e0:zD n 0=false:=by cases n with|zero=>omega|succ n=>rfl
      simp only[e0]
      unfold inRun
      simp only[hget,n1]
      have e1:(Nat.ble 1 n&&(zB n 4096&&Nat.ble n cap))=true:=by
       rw[ble_t hn1,blt_t hmax,ble_t g4];rfl
      simp only[e1]
      have e2:(zdG fun m=>zb6 env (@spE ⟨qi0⟩) m swF [.pointer (some a1),.int .i64 ino,.int .i64 (.ofNat 0),.slice (some ⟨h.next,o,none⟩) n n] h1.calm)=some (.tuple ⟨[.int .i64 (.ofNat (cB.ls n e).length),.int .i64 0]⟩,h2):=by
       refine lastly_of (N:=N) fun m hm=>?_
       have q:=r1 m hm
       unfold zbh at q
       rw[show(@spE ⟨qi0⟩) swF=none from rfl]at q
       exact q
      rw[e2]
      rfl
     have hmiss:∀b es c,b<h1.next→h1.get b=some (.map es c)→h2.get b=some .dead:=fun j es c hj q=>by
      rw[r4.keep j hj fun i B ht hB e=>?_,Hp.get_calm,q];rfl
      subst e
      obtain⟨hT,hi⟩:=touch_in ht
      have ok:=HP.ok i (bsS k (valS s))[i] (by rw[zay P.small];exact List.getElem?_eq_getElem _)
      have hcell:∃cs t x,h1.calm.get B.b=some (.cells cs t x false):=by
       match i,hi with
       | 0,_=>obtain⟨B',cs',w1,w2,w3,w4,w5⟩:=ok;rw[hB]at w1;injection w1 with w1;subst w1;exact⟨_,_,_,w4.got⟩
       | 1,_=>
        rcases ok with⟨_,ok⟩|⟨B',cs',w1,w2,w3,w4,w5⟩
        .rw[hB]at ok;cases ok
        .rw[hB]at w1;injection w1 with w1;subst w1;exact⟨_,_,_,w4.got⟩
      obtain⟨_,_,_,w⟩:=hcell
      rw[Hp.get_calm,q]at w
      cases w
     have hback:∀j y,h2.get j=some y→calmB y=y→y≠.dead→(h1.back h2).get j=some y:=fun j y q1 q2 q3=>by
      rw[Hp.get_back]
      rcases back_cases (bif zB j h1.next then h1.get j else none) (h2.get j)with⟨es,c,w1,w2⟩|w
      .cases hb:zB j h1.next with
       | false=>rw[hb]at w1;cases w1
       | true=>
        rw[hb]at w1
        have:=hmiss j es c (zG hb) w1
        rw[q1]at this
        injection this with this
        exact absurd this q3
      .rw[w,q1];simp[q2]
     have hr2:=r4.room
     have hn2:=r4.hnext
     have ec:h1.calm.next=h1.next:=rfl
     rw[ec,n2]at hr2 hn2
     have sm:(bsS (k+1) (stW ino 0 (cB.ls n e) (valS s) (wwP 0 (cB.ls n e)))).length<4000:=by simp[bsS]
     have H3:=r3.heap (c2:=0) (h':=h1.back h2) sm (fun es c q=>by
      rcases List.mem_cons.1 q with q|q
      .cases q
      .rcases List.mem_cons.1 q with q|q
       .cases q
       .cases q) (zA _) (by show h2.next+0≤_;omega) (fun j cs e x ro hj q=>hback j _ q rfl nofun) (fun j v hj q=>hback j _ q rfl nofun)
     have htm2:Tm (k+1) F2 (later F F2 (k+1)):=fun j cs2 t2 q=>by
      unfold later
      cases hF:F j with
      | some x=>
       obtain⟨cs0,t0⟩:=x
       have:=r4.fm j _ (hle j _ hF)
       rw[q]at this
       injection this with this
       injection this with e1 e2
       subst e1
       exact⟨t0,(frz1 j _ _ hF).1,rfl⟩
      | none=>rw[q];exact⟨k+1,zA _,rfl⟩
     suffices hh:∃N v' h' F' ι',(∀m,N≤m→zbh env (@spE ⟨qi1⟩) fr m intoF [.pointer (some a1),.int .i64 ino,.slice (some a3) 1 c3] h=some (v',h'))∧VRs F' ι' (.int .i64 true 0) v'∧HRs F' ι' (shOf (k+1) 0 [] (bsS (k+1) (inS ino (cB.ls n e) (valS s)))) h'∧
       Frm F ι h 3 [some (0,false),none,none] (k+1) F' ι' h' (cw+1)from hh
     rw[hnil]
     refine⟨0,_,h1.back h2,later F F2 (k+1),ι2,fun m _=>hq _ _ hrun m,.int _ _ _ _,H3.wk sm (zcP (zA (k+1)) _) htm2 fun j cs2 t2 q=>?_,⟨fun j x q=>by unfold later;rw[q],fun j cs2 t2 q=>?_,?_,?_,fun j hj hno=>?_,fun i j s q=>?_,fun j B q1 q2=>?_,rfl⟩⟩
     .unfold later at q
      cases hF:F j with
      | some x=>
       obtain⟨cs0,t0⟩:=x
       rw[hF]at q
       injection q with q;injection q with e1 e2
       subst e1 e2
       exact⟨(frz1 j _ _ hF).1,_,r4.fm j _ (hle j _ hF)⟩
      | none=>
       rw[hF]at q
       simp only at q
       split at q
       .rename_i cs3 t3 w
        injection q with q;injection q with e1 e2
        subst e1 e2
        exact⟨zA _,t3,w⟩
       .cases q
     .unfold later at q
      cases hF:F j with
      | some x=>rw[hF]at q;exact .inl q
      | none=>
       rw[hF]at q
       simp only at q
       split at q
       .rename_i cs3 t3 w
        injection q with q;injection q with e1 e2
        subst e1 e2
        refine .inr ⟨zA _,?_⟩
        rcases r4.fnew j _ t3 w with q|⟨_,q|⟨i,B,q1,q2,q3⟩⟩
        .unfold also at q
         split at q
         .rename_i hj;exact .inl (by omega)
         .rw[hF]at q;cases q
        .exact .inl (by rw[ec,n2]at q;omega)
        .obtain⟨w1,w2⟩:=touch_in q1
         rw[sub_lt w2]at q2
         exact .inr ⟨i,B,w1,q2,q3⟩
       .cases q
     .show h.next≤h2.next;omega
     .show h2.next≤_;omega
     .rw[Hp.get_back]
      have hb:zB j h1.next=true:=blt_t (by omega)
      have g1':h1.get j=h.get j:=by rw[n3,if_neg (by omega)]
      have g2':h2.get j=h1.calm.get j:=r4.keep j (by rw[ec];omega) fun i B ht hB=>by
       obtain⟨w1,w2⟩:=touch_in ht
       rw[sub_lt w2]at hB
       exact hno i B w1 hB
      rw[hb,cond_true,g1',g2',Hp.get_calm,g1']
      cases h.get j with
      | none=>rfl
      | some y=>cases y<;>rfl
     .match i with
      | 0=>
       simp only[List.getElem?_cons_zero,zE,zF]at q
       obtain⟨rfl,rfl⟩:=q
       exact r4.kept 0 0 false rfl
      | 1=>simp at q
      | 2=>simp at q
      | i+3=>simp at q
     .obtain⟨w1,w2⟩:=kpos_one q2
      rcases r4.new j B q1 w1 with q|⟨i,B0,t1,t2,t3⟩
      .exact .inl (by rw[ec,n2]at q;omega)
      .obtain⟨w3,w4⟩:=touch_in t1
       rw[sub_lt w4]at t2
       exact .inr ⟨i,B0,w3,t2,t3⟩
   .cases hr
  .cases hr
 .cases hg
theorem in_sub{F0:Fz}(hF0:∀b cs t,F0 b=some (cs,t)→t=0):SubQ (Top F0) env (@spE ⟨qi1⟩) intoF 860000000000000001 gIn:=in_sub_of (cw:=860000000000000000) (@ww_told ⟨qi0⟩ F0 hF0)
theorem qi0_ok:Go.Proofs.YtponjccgpbgnoaaGreatDoor.ToldOk Tryz.prog Tryz.prog.globals.size intoF qi0.q:=zbH fun args args' h h2 v β w hc=>by cases hc
theorem qi1_ok:Go.Proofs.YtponjccgpbgnoaaGreatDoor.ToldOk Tryz.prog Tryz.prog.globals.size intoF qi1.q:=by
 have hrun:∀(args args':List Value) (h h2:Hp) (v:Value) (β:Bt) (w:World),(zdG fun n=>zb6 env (@spE ⟨qi0⟩) n swF args h)=some (v,h2)→LR β args args'→HR Tryz.prog β h w→(∀g,g<Tryz.prog.globals.size→β g=some ⟨g,0,0⟩)→
   Calls Tryz.prog swF args'.toArray w fun en w2=>∃v' β2,en=.returned v'∧HR Tryz.prog β2 h2 w2∧St β h w β2 h2 w2∧VR β2 v v':=fun args args' h h2 v β w hr hl H hg=>by
  obtain⟨N,hN⟩:=lastly_some hr
  have hr:=hN N (zA _)
  have hsp:=@spE_ok ⟨qi0⟩ qi0_ok
  unfold env at hr
  with_reducible exact zck (P:=Tryz.prog) (eqs:=eqList) zdm prog_eqs zcG prog_mix zdo zdn hsp hr hl H hg
 unfold qi1
 with_reducible exact(inW_told (P:=Tryz.prog) (gl:=Tryz.prog.globals.size) (wr:=swF) (enters_of Tryz.func30 (by kernel_rfl) rfl) hrun into.into_calls into.into0_calls)
theorem sp1_ok:zbx Tryz.prog (zb8 (@spE ⟨qi1⟩)) Tryz.prog.globals.size:=@spE_ok ⟨qi1⟩ qi1_ok
end Go.Proofs.YtponjccgpbgnoaaGreatDoor.Se
