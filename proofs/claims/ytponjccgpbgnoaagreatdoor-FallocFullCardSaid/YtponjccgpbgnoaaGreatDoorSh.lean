/- What loop.Put leaves in a new store: plain. -/
import Derived.Test.YtponjccgpbgnoaaGreatDoorTa
set_option linter.unusedVariables false
set_option linter.unusedSimpArgs false
set_option linter.unusedSectionVars false
open List renaming range→zA,take_of_length_le→zC,take_succ_cons→zD
open Bool renaming true_and→zB
namespace Go.Proofs.YtponjccgpbgnoaaGreatDoor.Se
open Go Go.Proofs.YtponjccgpbgnoaaGreatDoor Go.RowKit
set_option maxRecDepth 1000000
variable [Inhabited QI]
theorem parts_get:∀(f p n:Nat),p % 8=0→n<f→(zb9 f p n).length=(n+7) / 8∧∀k,k<(n+7) / 8→(zb9 f p n)[k]?=some (p+8*k,min 8 (n-8*k)):=by
 intro f
 induction f with
 | zero=>intro p n _ h;omega
 | succ f ih=>
  intro p n hp hn
  by_cases h0:n=0
  .subst h0
   exact⟨rfl,fun k h=>by omega⟩
  .have hb:Nat.beq n 0=false:=by rw[Bool.eq_false_iff];intro q;exact h0 (Nat.eq_of_beq_eq_true q)
   have e0:zb9 (f+1) p n=(p,min n 8)::zb9 f (p+min n 8) (n-min n 8):=by
    show(match Nat.beq n 0 with|true=>[]|false=>(p,min n (8-p % 8))::zb9 f (p+min n (8-p % 8)) (n-min n (8-p % 8)))=_
    rw[hb,hp]
   rw[e0]
   by_cases h8:n≤8
   .have e:n-min n 8=0:=by omega
    rw[e]
    have hnil:zb9 f (p+min n 8) 0=[]:=by cases f<;>rfl
    rw[hnil]
    refine⟨by show 1=_;omega,fun k h=>?_⟩
    have:k=0:=by omega
    subst this
    simp[Nat.min_comm]
   .have e:min n 8=8:=by omega
    rw[e]
    obtain⟨i1,i2⟩:=ih (p+8) (n-8) (by omega) (by omega)
    refine⟨by rw[List.length_cons,i1];omega,fun k h=>?_⟩
    cases k with
    | zero=>simp;omega
    | succ k=>
     rw[List.getElem?_cons_succ,i2 k (by omega)]
     simp only[Option.some.injEq,Prod.mk.injEq]
     omega
theorem wwP_get{b:List UInt8}:(wwP 0 b).length=(b.length+7) / 8∧∀k (h:k<(wwP 0 b).length),(wwP 0 b)[k]=⟨((8*k:Nat):Int),((min 8 (b.length-8*k):Nat):Int)⟩:=by
 obtain⟨h1,h2⟩:=parts_get (b.length+1) 0 b.length rfl (by omega)
 have e:wwP 0 b=(zb9 (b.length+1) 0 b.length).map spnN:=rfl
 have hl:(wwP 0 b).length=(b.length+7) / 8:=by rw[e,List.length_map,h1]
 refine⟨hl,fun k h=>?_⟩
 have q:=h2 k (by omega)
 have q2:(wwP 0 b)[k]?=some (spnN (0+8*k,min 8 (b.length-8*k))):=by rw[e,List.getElem?_map,q];rfl
 have q3:=(List.getElem?_eq_some_iff.1 q2).2
 rw[q3]
 simp[spnN]
def wPc(b:List UInt8)(k:Nat):Opn:=opW 1 (8*k) ((b.drop (8*k)).take (min 8 (b.length-8*k)))
theorem wOp_pc{b:List UInt8}{k:Nat}(h:k<(wwP 0 b).length):wOp 1 0 b (wwP 0 b)[k]=wPc b k:=by
 obtain⟨h1,h2⟩:=wwP_get (b:=b)
 rw[h2 k h]
 have e:((8*k:Nat):Int)-0=((8*k:Nat):Int):=by omega
 unfold wOp wPc opW
 simp only[e,Int.toNat_natCast]
def crA:Opn:=⟨1,1,0,0,false,[97],[],[]⟩
def stP(C:Int)(b:List UInt8)(k:Nat):Sto:=⟨C,oneI [97] 1 (min (8*k) b.length:Nat) (zai (b.take (8*k))),⟨[],[]⟩,crA::trOp 1 0::(zA k).map (wPc b),1,-1,false⟩
theorem apply_cr:zaL ⟨[],[]⟩ crA=oneI [97] 1 0 []:=by rfl
theorem apply_tr:zaL (oneI [97] 1 0 []) (trOp 1 0)=oneI [97] 1 0 []:=by
 have h:zbs (trOp 1 0) 0 []=some (0,[]):=by rfl
 exact apply_one (by show(2:Int)≤3;decide) (by show(3:Int)≤5;decide) rfl h
theorem put_0{C:Int}(h1:0≤C)(h2:C≤4096):opL (stN C) [97]=⟨C,oneI [97] 1 0 [],⟨[],[]⟩,[crA],1,-1,false⟩:=by
 unfold opL stN
 simp only
 rw[mxI_eq,mnI_eq]
 have e:min (max C 0) 4096=C:=by omega
 rw[e]
 rfl
theorem put_1{C:Int}(h1:0≤C)(h2:C≤4096){b:List UInt8}:doL (opL (stN C) [97]) (trOp 1 0)=stP C b 0:=by
 rw[put_0 h1 h2]
 unfold doL stP
 have e1:min (8*0) b.length=0:=by omega
 have e2:b.take (8*0)=[]:=by simp
 rw[e1,e2]
 simp only[apply_tr]
 rfl
theorem put_step{C:Int}{b:List UInt8}{k:Nat}(hb:b.length≤4096)(h:8*k<b.length):doL (stP C b k) (wPc b k)=stP C b (k+1):=by
 have hl:(b.take (8*k)).length=8*k:=by simp;omega
 have hok:OkC (8*k:Nat) (zai (b.take (8*k))):=by
  have:=blocks_ok (b:=b.take (8*k)) (by rw[hl];omega)
  rw[hl]at this;exact this
 obtain⟨m,hm⟩:∃m,m=min 8 (b.length-8*k):=⟨_,rfl⟩
 have hml:((b.drop (8*k)).take m).length=m:=by simp;omega
 have hch:=write_change (ino:=1) (p:=8*k) (src:=(b.drop (8*k)).take m) hok (by rw[hml];omega) (by rw[hml];omega)
 have e1:min (8*k) b.length=8*k:=by omega
 have hap:zaL (oneI [97] 1 (8*k:Nat) (zai (b.take (8*k)))) (wPc b k)=oneI [97] 1 (min (8*(k+1)) b.length:Nat) (zai (b.take (8*(k+1)))):=by
  unfold wPc
  rw[←hm]
  rw[apply_one (ino:=1) (by show(2:Int)≤2;decide) (by show(2:Int)≤5;decide) rfl hch,hml,write_snoc (by omega) h (by omega)]
  have e2:max ((8*k:Nat):Int) (((8*k:Nat):Int)+(m:Nat))=((min (8*(k+1)) b.length:Nat):Int):=by omega
  have e3:b.take (8*k+m)=b.take (8*(k+1)):=by
   by_cases q:8*(k+1)≤b.length
   .congr 1;omega
   .rw[zC (by omega),zC (by omega)]
  rw[e2,e3]
 unfold doL stP
 rw[e1,hap]
 congr 1
 rw[List.range_succ,List.map_append]
 rfl
theorem put_k{C:Int}{b:List UInt8}(hb:b.length≤4096):∀k,k≤(wwP 0 b).length→stW 1 0 b (stP C b 0) ((wwP 0 b).take k)=stP C b k:=by
 obtain⟨h1,h2⟩:=wwP_get (b:=b)
 intro k
 induction k with
 | zero=>intro _;rfl
 | succ k ih=>
  intro hk
  rw[stW_snoc (by omega),ih (by omega),wOp_pc (by omega),put_step hb (by omega)]
theorem put_all{C:Int}{b:List UInt8}(hb:b.length≤4096):inS 1 b (stP C b 0)=stP C b ((b.length+7) / 8):=by
 obtain⟨h1,h2⟩:=wwP_get (b:=b)
 have q:=put_k (C:=C) hb (wwP 0 b).length (Nat.le_refl _)
 rw[List.take_length]at q
 rw[←h1]
 cases b with
 | nil=>rfl
 | cons x l=>exact q
theorem fold_pc{C:Int}{b:List UInt8}(hb:b.length≤4096):∀k,k≤(b.length+7) / 8→(crA::trOp 1 0::(zA k).map (wPc b)).foldl zaL ⟨[],[]⟩=(stP C b k).now:=by
 intro k
 induction k with
 | zero=>
  intro _
  have e1:min (8*0) b.length=0:=by omega
  have e2:b.take (8*0)=[]:=by simp
  unfold stP
  rw[e1,e2]
  show zaL (zaL ⟨[],[]⟩ crA) (trOp 1 0)=_
  rw[apply_cr,apply_tr]
  rfl
 | succ k ih=>
  intro hk
  have q:=congrArg Sto.now (put_step (C:=C) (b:=b) (k:=k) hb (by omega))
  rw[←q]
  rw[List.range_succ,List.map_append,←List.cons_append,←List.cons_append,List.foldl_append,ih (by omega)]
  rfl
theorem good_pc{b:List UInt8}{k:Nat}(hb:b.length≤4096)(h:8*k<b.length):GoodOp (wPc b k):=by
 have hml:((b.drop (8*k)).take (min 8 (b.length-8*k))).length=min 8 (b.length-8*k):=by simp
 exact opW_good (by rw[hml];omega) (by rw[hml];omega) (by rw[hml];omega)
theorem good_cr:GoodOp crA:=⟨fun _=>rfl,fun e=>by simp[crA]at e⟩
theorem good_tr:GoodOp (trOp 1 0):=⟨fun e=>by simp[trOp]at e,fun e=>by simp[trOp]at e⟩
theorem may_pc{b:List UInt8}(hb:b.length≤4096){l:List Opn}(hl:∀o∈l,o=crA∨o=trOp 1 0∨∃k,8*k<b.length∧o=wPc b k):MayI (l.foldl zaL ⟨[],[]⟩):=
 fold_may MayI.empty fun o ho=>by
  rcases hl o ho with rfl|rfl|⟨k,hk,rfl⟩
  .exact good_cr
  .exact good_tr
  .exact good_pc hb hk
theorem may_k{C:Int}{b:List UInt8}(hb:b.length≤4096){k:Nat}(h:k≤(b.length+7) / 8):MayI (stP C b k).now:=by
 rw[←fold_pc hb k h]
 refine may_pc hb fun o ho=>?_
 rcases List.mem_cons.1 ho with rfl|ho
 .exact .inl rfl
 .rcases List.mem_cons.1 ho with rfl|ho
  .exact .inr (.inl rfl)
  .obtain⟨j,hj,rfl⟩:=List.mem_map.1 ho
   have:=List.mem_range.1 hj
   exact .inr (.inr ⟨j,by omega,rfl⟩)
theorem ap_cr:ApOk ⟨[],[]⟩ crA:=⟨⟨by decide,by decide⟩,fun _=>⟨rfl,rfl,rfl,by decide,by decide,by decide,rfl,rfl⟩,fun e=>absurd rfl e,fun e=>by simp[crA]at e,fun e=>by simp[crA]at e,fun e=>by simp[crA]at e,fun e=>by simp[crA]at e⟩
theorem ap_tr:ApOk (oneI [97] 1 0 []) (trOp 1 0):=⟨⟨by decide,by decide⟩,fun e=>by simp[trOp]at e,fun _=>zce _ _ _,fun e=>by simp[trOp]at e,fun _=>⟨by decide,by decide⟩,fun e=>by simp[trOp]at e,fun e=>by simp[trOp]at e⟩
theorem ap_pc{C:Int}{b:List UInt8}{k:Nat}(hb:b.length≤4096)(h:8*k<b.length):ApOk (stP C b k).now (wPc b k):=by
 have hml:((b.drop (8*k)).take (min 8 (b.length-8*k))).length=min 8 (b.length-8*k):=by simp
 refine⟨⟨by show(1:Int)≤2;decide,by show(2:Int)≤5;decide⟩,fun e=>by simp[wPc,opW]at e,fun _=>zce _ _ _,fun _=>⟨by show(0:Int)≤((8*k:Nat):Int);omega,?_⟩,fun e=>by simp[wPc,opW]at e,fun e=>by simp[wPc,opW]at e,fun e=>by simp[wPc,opW]at e⟩
 show dirW (contI (oneI [97] 1 _ (zai (b.take (8*k)))) 1).2 ((8*k:Nat):Int).toNat ((b.drop (8*k)).take (min 8 (b.length-8*k))).length=true
 rw[cont_one,hml,Int.toNat_natCast]
 unfold dirW dirN
 have e:lowB (zai (b.take (8*k))) (.ofNat (8*k / 8))=(zai (b.take (8*k))).length:=low_end fun x hx=>by
  unfold zai at hx
  obtain⟨i,hi,rfl⟩:=List.mem_map.1 hx
  have:=List.mem_range.1 hi
  rw[List.length_take]at this
  show(i:Int)<_
  simp only[Int.ofNat_eq_natCast]
  omega
 simp only[Bool.and_eq_true,Bool.or_eq_true]
 refine⟨ble_t (by omega),ble_t (by omega),ble_t (by omega),.inr ?_⟩
 rw[e]
 exact Nat.beq_refl _
theorem open_ok{C:Int}:OpOk (stN C) [97] true:=⟨rfl,MayI.empty,rfl,fun _=>⟨rfl,by show(-1:Int)<0;decide,Nat.zero_le _,by show(0:Int)≤0;decide,by show(0:Int)≤_;decide,⟨rfl,rfl,rfl,by show(1:Int)≤0+1;decide,by show(0:Int)+1≤_;decide,by show 0<16;decide,rfl,rfl⟩⟩⟩
theorem ptr_ok{C:Int}(h1:0≤C)(h2:C≤4096):TrOk (opL (stN C) [97]) 1 0:=by
 rw[put_0 h1 h2]
 have hm:MayI (oneI [97] 1 0 []):=by
  have:=may_pc (b:=[]) (by simp) (l:=[crA]) fun o ho=>.inl (by simpa using ho)
  exact this
 exact⟨⟨rfl,hm,zce _ _ _⟩,by show(-1:Int)<0;decide,by show 1≤100000;decide,by decide,by decide⟩
theorem live_k{C:Int}{b:List UInt8}{k:Nat}:LiveS (stP C b k):=⟨rfl,by show(-1:Int)<0;decide⟩
theorem into_ok{C:Int}(h1:0≤C)(h2:C≤4096){b:List UInt8}(hb:b.length<4096)(hc:((b.length+7) / 8:Nat)≤C):InOk (stP C b 0) 1 b:=by
 by_cases h0:b=[]
 .exact .inl h0
 .have hpos:1≤b.length:=by
   cases b with
   | nil=>exact absurd rfl h0
   | cons _ _=>simp
  obtain⟨w1,w2⟩:=wwP_get (b:=b)
  have hcont:(contI (stP C b 0).now 1).2=[]:=by
   unfold stP
   rw[cont_one]
   show zai (b.take (8*0))=[]
   have e2:b.take (8*0)=[]:=by simp
   rw[e2];rfl
  refine .inr ⟨⟨live_k,may_k (by omega) (Nat.zero_le _),zce _ _ _,by decide,hpos,by omega,?_⟩,hb⟩
  rw[hcont]
  refine⟨by rw[w1];omega,by simp,by decide,by omega,fun k h=>?_,fun k h=>?_,fun k h=>?_⟩
  .rw[w2 k h]
   simp only
   omega
  .rw[put_k (by omega) k (by omega),wOp_pc h]
   refine⟨live_k,?_,may_k (by omega) (by omega),ap_pc (by omega) (by omega)⟩
   show(crA::trOp 1 0::(zA k).map (wPc b)).length≤_
   simp
   omega
  .refine .inr ?_
   rw[put_k (by omega) k (by omega)]
   refine⟨h2,?_⟩
   show(usedI [⟨1,_,zai (b.take (8*k))⟩]:Int)<C
   rw[used_one,zau,List.length_take]
   omega
def stQ(C:Int)(b:List UInt8):Sto:=⟨C,oneI [97] 1 b.length (zai b),oneI [97] 1 b.length (zai b),[],1,-1,false⟩
theorem end_now{C:Int}{b:List UInt8}:(stP C b ((b.length+7) / 8)).now=oneI [97] 1 b.length (zai b):=by
 have e1:min (8*((b.length+7) / 8)) b.length=b.length:=by omega
 have e2:b.take (8*((b.length+7) / 8))=b:=zC (by omega)
 unfold stP
 rw[e1,e2]
theorem sync_end{C:Int}{b:List UInt8}(hb:b.length≤4096):syncL (stP C b ((b.length+7) / 8))=stQ C b:=by
 have e:=fold_pc (C:=C) hb ((b.length+7) / 8) (Nat.le_refl _)
 unfold syncL
 have e2:(stP C b ((b.length+7) / 8)).pend.foldl zaL (stP C b ((b.length+7) / 8)).kept=oneI [97] 1 b.length (zai b):=by
  rw[←end_now (C:=C),←e];rfl
 rw[e2,end_now]
 rfl
theorem sync_ok{C:Int}{b:List UInt8}(hb:b.length≤4096):SnOk (stP C b ((b.length+7) / 8)) 1:=by
 have hp:(stP C b ((b.length+7) / 8)).pend=crA::trOp 1 0::(zA ((b.length+7) / 8)).map (wPc b):=rfl
 have hk:(stP C b ((b.length+7) / 8)).kept=⟨[],[]⟩:=rfl
 refine⟨?_,fun k h=>?_⟩
 .rw[hp];simp;omega
 .rw[hk]
  simp only[hp]at h ⊢
  match k with
  | 0=>exact⟨.inl rfl,MayI.empty,ap_cr⟩
  | 1=>
   refine⟨.inr (.inr (.inr rfl)),?_,?_⟩
   .exact may_pc (b:=b) hb (l:=[crA]) fun o ho=>.inl (by simpa using ho)
   .show ApOk (zaL ⟨[],[]⟩ crA) (trOp 1 0)
    rw[apply_cr]
    exact ap_tr
  | k+2=>
   have hk2:k<(b.length+7) / 8:=by simpa using h
   have e1:(crA::trOp 1 0::(zA ((b.length+7) / 8)).map (wPc b)).take (k+2)=crA::trOp 1 0::(zA k).map (wPc b):=by
    rw[zD,zD,←List.map_take,List.take_range]
    congr 4
    omega
   have e2:(crA::trOp 1 0::(zA ((b.length+7) / 8)).map (wPc b))[k+2]=wPc b k:=by simp
   rw[e1,e2,fold_pc (C:=C) hb k (by omega)]
   exact⟨.inr (.inr (.inr rfl)),may_k hb (by omega),ap_pc hb (by omega)⟩
def trueAt(t:RT (SV×SH))(p:List Bool):Option (List (Bool×Bool)):=
 match t.follow p with
 | some (cs,(.bool _ true,_))=>some cs
 | _=>none
theorem true_sel{t:RT (SV×SH)}{p:List Bool}{cs:List (Bool×Bool)}(h:trueAt t p=some cs)(hc:(cs.all fun p=>p.1==p.2)=true):∃c sh,t.sel=some (.bool c true,sh):=by
 unfold trueAt at h
 split at h
 .rename_i cs2 c sh e
  cases h
  exact⟨c,sh,zab e hc⟩
 .cases h
def rawS(st:Nat)(S:Sto):RawS:=⟨S.cap,(S.now.names.length,none,cNm.e st S.now.names),(S.now.nodes.length,none,cNd.e st S.now.nodes),(S.kept.names.length,none,cNm.e st S.kept.names),(S.kept.nodes.length,none,cNd.e st S.kept.nodes),S.pend.length,S.pend.length,cOp.e st S.pend,S.made,S.armed,S.off⟩
theorem zcu(st:Nat)(S:Sto):valS (rawS st S)=S:=by
 unfold rawS
 simp only[valS,cNm.ls_e,cNd.ls_e,cOp.ls_e]
theorem rawS_w(st:Nat)(S:Sto):wfS (rawS st S)=true:=by
 unfold rawS
 simp only[wfS,cNm.wf_e,cNd.wf_e,cOp.wf_e,Nat.beq_refl];rfl
def rawI(st:Nat)(I:Img):RawI:=⟨(I.names.length,none,cNm.e st I.names),(I.nodes.length,none,cNd.e st I.nodes)⟩
def viewI(st:Nat)(I:Img):RawI:=⟨(I.names.length,none,fun i=>cNm.e st I.names (0+i)),(I.nodes.length,none,fun i=>cNd.e st I.nodes (0+i))⟩
def pu1(C:Int):Sto:=opL (valS (rawS 1 (stN C))) [97]
def pu2(C:Int):Sto:=doL (valS (rawS 2 (pu1 C))) (trOp 1 0)
noncomputable def pu3(C:Int)(b:List UInt8):Sto:=inS 1 (cB.ls b.length (byE b)) (valS (rawS 3 (pu2 C)))
noncomputable def pu4(C:Int)(b:List UInt8):Sto:=syncL (valS (rawS 4 (pu3 C b)))
noncomputable def puTests(C:Int)(b:List UInt8):List (Bool×Bool):=[(true,true),(opPre ⟨rawS 1 (stN C),[97],true⟩,true),(false,false),(tsPre ⟨rawS 2 (pu1 C),1,0⟩,true),(inPre ⟨rawS 3 (pu2 C),1,(b.length,none,byE b)⟩,true),(sqPre ⟨rawS 4 (pu3 C b),1⟩,true)]
def puBits:List Bool:=[true,true,false,true,true,true]
theorem pu2_e{C:Int}(h1:0≤C)(h2:C≤4096){b:List UInt8}:pu2 C=stP C b 0:=by
 unfold pu2 pu1
 rw[zcu,zcu,put_1 h1 h2 (b:=b)]
theorem pu3_e{C:Int}(h1:0≤C)(h2:C≤4096){b:List UInt8}(hb:b.length≤4096):pu3 C b=stP C b ((b.length+7) / 8):=by
 unfold pu3
 rw[zcu,show cB.ls b.length (byE b)=b from cB.ls_e 0 _,pu2_e h1 h2 (b:=b),put_all hb]
theorem pu4_e{C:Int}(h1:0≤C)(h2:C≤4096){b:List UInt8}(hb:b.length≤4096):pu4 C b=stQ C b:=by
 unfold pu4
 rw[zcu,pu3_e h1 h2 hb,sync_end hb]
theorem puTests_ok{C:Int}(h1:0≤C)(h2:C≤4096){b:List UInt8}(hb:b.length<4096)(hc:((b.length+7) / 8:Nat)≤C):eqs_ (puTests C b)=true:=by
 unfold puTests
 refine zaa rfl (zaa ?_ (zaa rfl (zaa ?_ (zaa ?_ (zaa ?_ zac)))))
 .unfold opPre
  simp only[rawS_w,zcu,zB]
  exact tt_t open_ok
 .unfold tsPre
  simp only[rawS_w,zcu,zB]
  unfold pu1
  rw[zcu]
  exact tt_t (ptr_ok h1 h2)
 .unfold inPre RawIn.b
  simp only[rawS_w,zcu,zB]
  rw[show cB.wf b.length (byE b)=true from wf_by,zB,show cB.ls b.length (byE b)=b from cB.ls_e 0 _,pu2_e h1 h2 (b:=b)]
  exact tt_t (into_ok h1 h2 hb hc)
 .unfold sqPre
  simp only[rawS_w,zcu,zB]
  rw[pu3_e h1 h2 (by omega)]
  exact tt_t ⟨live_k,sync_ok (by omega)⟩
end Go.Proofs.YtponjccgpbgnoaaGreatDoor.Se
