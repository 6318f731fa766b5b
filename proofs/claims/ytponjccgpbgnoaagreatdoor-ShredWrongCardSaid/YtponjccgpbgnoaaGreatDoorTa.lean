/- Numbers of digits alone: strconv.ParseUint's loop, num.part's loop. -/
import Derived.Test.YtponjccgpbgnoaaGreatDoorCop
import Derived.Test.YtponjccgpbgnoaaGreatDoorSam
set_option linter.unusedVariables false
set_option linter.unusedSimpArgs false
set_option linter.unusedSectionVars false
namespace Go.Proofs.YtponjccgpbgnoaaGreatDoor.Se
open Go Go.Proofs.YtponjccgpbgnoaaGreatDoor Go.RowKit
set_option maxRecDepth 1000000
variable [Inhabited QI]
def valN (l:List UInt8):Nat:=l.foldl (fun a c=>a*10+(c.toNat-48)) 0
def w0 (s:List UInt8):Int:=IntKind.i64.wrap (Int.ofNat (valN (List.take s.length s)))
def w1 (s:List UInt8):Int:=IntKind.i64.wrap (Int.ofNat 1*w0 s)
def w2 (s:List UInt8):Int:=IntKind.i64.wrap (w1 s*Int.ofNat 1)
def kvOf (r:List SV):Option (List UInt8×List UInt8):=match r with|[.str _ k,.str _ v]=>some (k,v)|_=>none
def kv0:List UInt8×List UInt8:=([],[])
def findB (key:List UInt8):List (List UInt8×List UInt8)→Option (List UInt8)
 | []=>none
 | (k,v)::l=>match findB key l with
  | some x=>some x
  | none=>bif k==key then some v else none
def optS:Option (List UInt8)→List UInt8
 | some x=>x
 | none=>[]
def optB:Option (List UInt8)→Bool
 | some _=>true
 | none=>false
def someOr (nl:Option Bool) (n:Nat):Bool:=match nl with|some true=>true|_=>Nat.blt 0 n
def gFind (args:List SV):RT SV:=
 match args with
 | [x,.str _ key]=>(match slR 2 x with
  | some (n,nl,e)=>.br (Nat.ble n 1000000&&(wfR kvOf n e&&someOr nl n)) (.ret (.tup [.str false (optS (findB key (lsR kvOf kv0 n e))),.bool false (optB (findB key (lsR kvOf kv0 n e)))])) .bad
  | none=>.bad)
 | _=>.bad
def kvB (p:List UInt8×List UInt8):ByteArray×ByteArray:=(⟨⟨p.1⟩⟩,⟨⟨p.2⟩⟩)
theorem findR_app (key:ByteArray):∀ (l m:List (ByteArray×ByteArray)),findR key (l++m)=match findR key l with|some x=>some x|none=>findR key m
 | [],m=>rfl
 | (k,v)::l,m=>by
  simp only [List.cons_append,findR]
  cases h:(k.data.toList==key.data.toList) with
  | true=>rfl
  | false=>simp only [cond_false];exact findR_app key l m
theorem found_find (key:List UInt8):∀ l:List (List UInt8×List UInt8),findR ⟨⟨key⟩⟩ (l.map kvB).reverse=(findB key l).map fun x=>⟨⟨x⟩⟩
 | []=>rfl
 | (k,v)::l=>by
  rw [List.map_cons,List.reverse_cons,findR_app,found_find key l]
  have e:findB key ((k,v)::l)=match findB key l with|some x=>some x|none=>bif k==key then some v else none:=rfl
  rw [e]
  cases h:findB key l with
  | some x=>rfl
  | none=>
   simp only [Option.map_none,kvB,findR]
   cases h2:(k==key) with
   | true=>rfl
   | false=>rfl
theorem kvs_of:∀ {cs:List Value} {l:List (List UInt8×List UInt8)},cs.length=l.length*2→(∀ i,(h:i<l.length)→cs[i*2]?=some (.string ⟨⟨l[i].1⟩⟩)∧cs[i*2+1]?=some (.string ⟨⟨l[i].2⟩⟩))→kvs_ cs=some (l.map kvB)
 | [],[],_,_=>rfl
 | [],p::l,h,_=>by simp at h
 | [a],l,h,_=>by
  simp only [List.length_cons,List.length_nil] at h
  omega
 | a::b::cs,[],h,_=>by simp at h
 | a::b::cs,p::l,h,hq=>by
  have h0:=hq 0 (by simp)
  simp only [Nat.zero_mul,Nat.zero_add,List.getElem?_cons_zero,List.getElem?_cons_succ,Option.some.injEq,List.getElem_cons_zero] at h0
  obtain ⟨rfl,rfl⟩:=h0
  have ih:=kvs_of (cs:=cs) (l:=l) (by simp at h;omega) (fun i hi=>by
   have:=hq (i+1) (by simpa using hi)
   rw [show (i+1)*2=i*2+1+1 by omega] at this
   simpa using this)
  unfold kvs_
  rw [ih]
  rfl
theorem kv_inv {r:List SV} {p:List UInt8×List UInt8} (h:kvOf r=some p):∃ c1 c2,r=[.str c1 p.1,.str c2 p.2]:=by
 unfold kvOf at h
 split at h
 ·rename_i c1 k c2 v
  cases h
  exact ⟨c1,c2,rfl⟩
 ·cases h
theorem find_plain {F0:Fz}:zaC F0 env spE 69 0 gFind:=fun F k h args args' v h0 H hl hg hp=>by
 unfold gFind at hg
 split at hg
 ·rename_i x c key
  split at hg
  ·rename_i n nl e hx
   obtain ⟨hb,hg⟩:=br_bad hg
   simp only [RT.sel,Option.some.injEq] at hg
   subst hg
   simp only [Bool.and_eq_true] at hb
   obtain ⟨b1,b2,b3⟩:=hb
   obtain ⟨y1,l1,rfl,hy1,hl2⟩:=hl.cons_inv
   obtain ⟨y2,l2,rfl,hy2,hl3⟩:=hl2.cons_inv
   obtain rfl:=hl3.nil_inv
   obtain rfl:=hy2.str_inv
   have hsp:spE 69=some spFind:=by unfold spE;rfl
   have fin:∀ r,spFind [y1,.string ⟨⟨key⟩⟩] h=some (found_ (r.map fun x=>⟨⟨x⟩⟩),h)→r=findB key (lsR kvOf kv0 n e)→
     ∃ N v' h',(∀ m,N≤m→(match spE 69 with|some q=>q [y1,.string ⟨⟨key⟩⟩] h|none=>match zaf env spE m (.inr (69,[y1,.string ⟨⟨key⟩⟩])) ⟨0,0,.nil⟩ h with|.ok _ r h=>some (r.eval (.tmp 0),h)|.bad=>none)=some (v',h'))∧
      VRs (fun _=>none) Im0 (.tup [.str false (optS (findB key (lsR kvOf kv0 n e))),.bool false (optB (findB key (lsR kvOf kv0 n e)))]) v'∧h.next≤h'.next∧h'.next≤h.next+0∧∀ b,b<h.next→h'.get b=h.get b:=fun r hr hq=>by
    refine ⟨0,_,h,fun m _=>by rw [hsp];exact hr,?_,Nat.le_refl _,Nat.le_refl _,fun b _=>rfl⟩
    rw [←hq]
    have two:∀ (s:List UInt8) (b:Bool),VRs (fun _=>none) Im0 (.tup [.str false s,.bool false b]) (.tuple ⟨[.string ⟨⟨s⟩⟩,.bool b]⟩):=fun s b=>
     .tup _ _ _ rfl fun i x y hx hy=>by
      rcases i with _|_|i
      ·simp at hx hy;subst hx hy;exact .str ..
      ·simp at hx hy;subst hx hy;exact .bool ..
      ·simp at hx
    cases r with
    | none=>exact two [] false
    | some s=>exact two s true
   unfold slR at hx
   split at hx
   ·rename_i st k' n' nl' e'
    split at hx
    ·rename_i hk
     simp only [Option.some.injEq,Prod.mk.injEq] at hx
     obtain ⟨rfl,rfl,rfl⟩:=hx
     have:=Nat.eq_of_beq_eq_true hk
     subst this
     cases hy1 with
     | fsl _ _ _ _ _ _ b o cs t cap f1 f2 f3 f4 f5 f6 f7=>
      obtain ⟨_,_,_,e2,x2,ro2,hget⟩:=H.frz b cs t f1
      have hld:zai h ⟨b,o,none⟩ (n'*2)=some ((cs.drop o).take (n'*2)):=by
       unfold zai
       simp only [hget]
       exact lcut_ok (by omega)
      have hlen:(lsR kvOf kv0 n' e').length=n':=lsR_len
      have hz:kvs_ ((cs.drop o).take (n'*2))=some ((lsR kvOf kv0 n' e').map kvB):=by
       refine kvs_of (by rw [hlen];simp;omega) fun i hi=>?_
       rw [hlen] at hi
       unfold wfR at b2
       have hw:=List.all_eq_true.1 b2 i (by simpa using hi)
       obtain ⟨p,hp2⟩:=Option.isSome_iff_exists.1 hw
       have ep0:(lsR kvOf kv0 n' e')[i]?=some p:=by
        unfold lsR
        simp [hi,hp2]
       have ep:=(List.getElem?_eq_some_iff.1 ep0).2
       obtain ⟨c1,c2,er⟩:=kv_inv hp2
       rw [ep]
       have at_:∀ j,j<2→((cs.drop o).take (n'*2))[i*2+j]?=cs[o+i*2+j]?:=fun j hj=>by
        rw [List.getElem?_take,if_pos (by omega),List.getElem?_drop,show o+(i*2+j)=o+i*2+j by omega]
       have some_:∀ j,j<2→∃ y,cs[o+i*2+j]?=some y:=fun j hj=>⟨_,List.getElem?_eq_getElem (by omega)⟩
       obtain ⟨u0,hu0⟩:=some_ 0 (by omega)
       obtain ⟨u1,hu1⟩:=some_ 1 (by omega)
       have r0:=f7 i 0 (.str c1 p.1) u0 hi (by rw [er];rfl) hu0
       have r1:=f7 i 1 (.str c2 p.2) u1 hi (by rw [er];rfl) hu1
       have a0:=at_ 0 (by omega)
       have a1:=at_ 1 (by omega)
       rw [hu0,r0.str_inv] at a0
       rw [hu1,r1.str_inv] at a1
       exact ⟨a0,a1⟩
      refine fin (findB key (lsR kvOf kv0 n' e')) ?_ rfl
      unfold spFind
      simp only [b1,hld,hz]
      rw [found_find]
     | fslN _ _ _ _ _ f1=>exact fin none rfl (by unfold lsR;rfl)
     | fslE _ _ _ _ _ f1=>
      rcases f1 with rfl|rfl<;>(unfold someOr at b3;simp at b3)
    ·cases hx
   ·simp only [Option.some.injEq,Prod.mk.injEq] at hx
    obtain ⟨rfl,rfl,rfl⟩:=hx
    obtain ⟨rfl,_⟩:=hy1.raw_inv
    exact fin none rfl (by unfold lsR;rfl)
   ·cases hx
  ·cases hg
 ·cases hg
abbrev newF:FuncId:=8
def stN (n:Int):Sto:=⟨mnI (mxI n 0) 4096,⟨[],[]⟩,⟨[],[]⟩,[],0,-1,false⟩
noncomputable def nwT (n:Int):RT Lf:=fnZ false env TPu newF 100 [.int .i64 false n] []
theorem nw_way (n:Int):(nwT n).follow []=some ([],⟨.ret,[.ptr 0 9 true 0 0],[.lst 9 [[.int .i64 false (mnI (mxI n 0) 4096),.raw (.slice none 0 0),.raw (.slice none 0 0),.raw (.slice none 0 0),.raw (.slice none 0 0),.raw (.slice none 0 0),.int .i64 true 0,.int .i64 true (-1),.bool true false]] stT],[]⟩):=by kernel_rfl
def nwDec (a:List SV) (b:List SB):Option Int:=match a,b with|[.int .i64 _ n],[]=>some n|_,_=>none
noncomputable def gNew0:=gSub nwDec (fun _=>true) fun k n=>⟨.ptr 0 9 true 0 0,[.lst 9 [rowS (k+1) (stN n)] stT],[]⟩
noncomputable def gNew:=gSub nwDec (fun _=>true) fun k n=>⟨.ptr 0 9 true 0 0,bsS (k+1) (stN n),[]⟩
theorem new_told0 {F0:Fz} (hF0:∀ b cs t,F0 b=some (cs,t)→t=0):SubOk F0 env spE newF 100 gNew0:=zaD (z:=false) (TPu_ok hF0) hF0 rfl fun K a b r hr hp=>by
 unfold nwDec at hr
 split at hr
 ·rename_i c n
  injection hr with hr;subst hr
  refine ⟨_,_,_,.cons Wk.int .nil,.nil,zad (nw_way n) zac,.cons Wk.ptr .nil,.cons (.lst1 ?_) (fun _=>nofun) .nil,rfl⟩
  exact .cons Wk.int (.cons (Wk.nil_fsl (.inl rfl)) (.cons (Wk.nil_fsl (.inl rfl)) (.cons (Wk.nil_fsl (.inl rfl)) (.cons (Wk.nil_fsl (.inl rfl)) (.cons (Wk.nil_nsl (Nat.le_refl _)) (.cons Wk.int (.cons Wk.int (.cons Wk.bool .nil))))))))
 ·cases hr
theorem new_told {F0:Fz} (hF0:∀ b cs t,F0 b=some (cs,t)→t=0):SubOk F0 env spE newF 100 gNew:=(new_told0 hF0).phantom fun k a b L2 h=>by
 unfold gNew gSub at h
 unfold gNew0 gSub
 split at h
 ·rename_i r hr
  simp only [RT.sel,cond_true,Option.some.injEq] at h
  subst h
  exact ⟨⟨.ptr 0 9 true 0 0,[.lst 9 [rowS (k+1) (stN r)] stT],[]⟩,8,cOp.e (k+1) [],opT,rfl,by show 1+1<4000;omega,rfl,rfl,rfl⟩
 ·cases h
noncomputable def TNw:Told:=TPu.withF newF (zar 100 [] gNew)
theorem TNw_ok {F0:Fz} (hF0:∀ b cs t,F0 b=some (cs,t)→t=0):ToldOk F0 env spE TNw:=zam (TPu_ok hF0) (new_told hF0)
noncomputable def TTop:Told:=⟨fun f'=>bif Nat.beq f' intoF then some (zar 860000000000000001 [] gIn) else TNw.pf f',TNw.lp⟩
def gTrue (args:List SV):RT SV:=match args with|[]=>.ret (.bool true true)|_=>.bad
theorem run_plain {F0:Fz} {f:FuncId} (hsp:spE f=some (spRun f)) (ht:TrueRun f):zaC F0 env spE f 0 gTrue:=plain_sp (q:=spRun f) hsp fun F args args' v h hl hs=>by
 unfold gTrue at hs
 split at hs
 ·obtain rfl:=hl.nil_inv
  have hv:=(Option.some.inj hs).symm
  subst hv
  exact ⟨.bool true,by unfold spRun;simp only [if_pos ht],.bool ..⟩
 ·cases hs
def kvK (r:List SV):Bool:=match r with|[.str true _,.str true _]=>true|_=>false
def allK (n:Nat) (e:Nat→List SV):Bool:=(List.range n).all fun i=>kvK (e i)
def gFindK (args:List SV):RT SV:=
 match args with
 | [x,.str c key]=>(match slR 2 x with
  | some (n,nl,e)=>.br (Nat.ble n 1000000&&(wfR kvOf n e&&someOr nl n)) (.ret (.tup [.str (c&&allK n e) (optS (findB key (lsR kvOf kv0 n e))),.bool (c&&allK n e) (optB (findB key (lsR kvOf kv0 n e)))])) .bad
  | none=>.bad)
 | _=>.bad
theorem find_plainK {F0:Fz}:zaC F0 env spE 69 0 gFindK:=fun F k h args args' v h0 H hl hg hp=>by
 obtain ⟨v2,e1,e2,e3⟩:∃ v2,(gFind args).sel=some v2∧plainT_ v2=true∧∀ w,VRs (fun _=>none) Im0 v2 w→VRs (fun _=>none) Im0 v w:=by
  unfold gFindK at hg
  split at hg
  ·rename_i x c key
   split at hg
   ·rename_i n nl e hx
    obtain ⟨hb,hg⟩:=br_bad hg
    simp only [RT.sel,Option.some.injEq] at hg
    subst hg
    refine ⟨.tup [.str false (optS (findB key (lsR kvOf kv0 n e))),.bool false (optB (findB key (lsR kvOf kv0 n e)))],?_,rfl,fun w hw=>?_⟩
    ·unfold gFind
     simp only [hx,hb]
     rfl
    ·obtain ⟨l',rfl,L⟩:=hw.tup_inv
     obtain ⟨z1,l1,rfl,z2,L⟩:=L.cons_inv
     obtain ⟨z3,l2,rfl,z4,L⟩:=L.cons_inv
     obtain rfl:=L.nil_inv
     rw [z2.str_inv,z4.bool_inv]
     exact VRs.tup_of (.cons (.str ..) (.cons (.bool ..) (.nil ..)))
   ·cases hg
  ·cases hg
 obtain ⟨N,v',h',q1,q2,q3⟩:=find_plain F k h args args' v2 h0 H hl e1 e2
 exact ⟨N,v',h',q1,e3 _ q2,q3⟩
abbrev toeF:FuncId:=186
def gToe (args:List SV):RT SV:=
 match args with
 | [.str _ fn,.str _ s,.int .i64 _ base,.int .i64 _ bits,.raw (.iface t (.int .i64 2))]=>.br (Nat.beq t ierT&&Nat.ble s.length 281474976710656) (.ret (.raw (.iface nerT (.complex .f32 1 0)))) .bad
 | _=>.bad
theorem toe_plain {F0:Fz} (hP:F0 Tryz.synG=some ([.complex .f32 0 0],0)):zaC F0 env spE toeF 0 gToe:=fun F k h args args' v h0 H hl hg hp=>by
 unfold gToe at hg
 split at hg
 ·rename_i c1 fn c2 s c3 base c4 bits t
  obtain ⟨hb,hg⟩:=br_bad hg
  simp only [RT.sel,Option.some.injEq] at hg
  subst hg
  obtain ⟨y1,l1,rfl,v1,hl⟩:=hl.cons_inv
  obtain ⟨y2,l2,rfl,v2,hl⟩:=hl.cons_inv
  obtain ⟨y3,l3,rfl,v3,hl⟩:=hl.cons_inv
  obtain ⟨y4,l4,rfl,v4,hl⟩:=hl.cons_inv
  obtain ⟨y5,l5,rfl,v5,hl⟩:=hl.cons_inv
  obtain rfl:=hl.nil_inv
  obtain ⟨rfl,_⟩:=v5.raw_inv
  rw [v1.str_inv,v2.str_inv,v3.int_inv,v4.int_inv]
  obtain ⟨_,_,_,e,x,ro,hget⟩:=H.frz _ _ _ (h0 _ _ hP)
  have hsyn:spSynG h=true:=by
   unfold spSynG
   simp only [hget]
  have hsp:spE toeF=some spToe:=rfl
  rw [Bool.and_eq_true] at hb
  refine ⟨0,.iface nerT (.complex .f32 1 0),h,fun n _=>?_,.raw _ _ rfl,Nat.le_refl _,Nat.le_refl _,fun _ _=>rfl⟩
  rw [hsp]
  show spToe _ h=_
  unfold spToe
  have hb2:Nat.ble (⟨⟨s⟩⟩:ByteArray).data.toList.length 281474976710656=true:=hb.2
  simp only [hsyn,hb.1,hb2,Bool.and_true]
 ·cases hg
end Go.Proofs.YtponjccgpbgnoaaGreatDoor.Se
