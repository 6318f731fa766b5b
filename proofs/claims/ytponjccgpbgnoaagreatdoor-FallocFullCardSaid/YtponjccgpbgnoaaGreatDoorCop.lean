/- What loop.Into answers, as a parameter. -/
import Derived.Test.YtponjccgpbgnoaaGreatDoorSpX
import Derived.Test.YtponjccgpbgnoaaGreatDoorMe
import Derived.Test.YtponjccgpbgnoaaGreatDoorSyt
import Derived.KernelRfl
import Derived.WalkKit
import Derived.ProofKit
set_option linter.unusedVariables false
set_option linter.unusedSimpArgs false
set_option linter.unusedSectionVars false
open Nat renaming beq→zA,le_refl→zD,eq_of_beq_eq_true→zE,ble→zH,blt→zI,blt_eq→zJ,log2→zL,le_of_ble_eq_true→zN,zero_add→zO,le_log2→zR,eq_zero_or_pos→zU
open Int renaming ofNat→zB,ofNat_eq_natCast→zP
open Option.some renaming injEq→zC
open List renaming all_cons→zF,all_nil→zK,all_append→zM
open Bool renaming and_eq_true→zG,eq_false_iff→zQ,not_eq_true'→zS
open Go.IntWalk renaming i64_in→zT
namespace Go.Proofs.YtponjccgpbgnoaaGreatDoor
structure QI where
 q:List Value→Hp→Option (Value×Hp)
end Go.Proofs.YtponjccgpbgnoaaGreatDoor
namespace Go.Proofs.YtponjccgpbgnoaaGreatDoor.Se
open Go Go.Proofs.YtponjccgpbgnoaaGreatDoor Go.RowKit
set_option maxRecDepth 1000000
variable [Inhabited QI]
noncomputable def spE:Sp:=fun f=>
 bif zA f 14 then some (spRun 14)
 else bif zA f 20 then some (spRun 20)
 else bif zA f 7 then some (spRun 7)
 else bif zA f 30 then some (default:QI).q
 else bif zA f 186 then some spToe
 else bif zA f 169 then some spNd
 else bif zA f 131 then some spClean
 else bif zA f 78 then some spName
 else sp0 f
theorem spE_ok(hq:Go.Proofs.YtponjccgpbgnoaaGreatDoor.ToldOk Tryz.prog Tryz.prog.globals.size 30 (default:QI).q):zbx Tryz.prog (zb8 spE) Tryz.prog.globals.size:=by
 unfold spE
 with_reducible exact(zaY (t_run (enters_of Tryz.func14 (by kernel_rfl) rfl)) (zaY (t_run (enters_of Tryz.func20 (by kernel_rfl) rfl)) (zaY (t_run (enters_of Tryz.func7 (by kernel_rfl) rfl)) (zaY (by with_reducible exact hq) (zaY t_toe (zaY t_nd (zaY t_clean (zaY t_name sp0_ok))))))))
theorem zdp{E:Env}{F0:Fz}{sp:Sp}{f:FuncId}{q:List Value→Hp→Option (Value×Hp)}(hq:sp f=some q){g:List SV→RT SV}
  (hg:∀F args args' v h,LRs F Im0 args args'→(g args).sel=some v→∃v',q args' h=some (v',h)∧VRs (fun _=>none) Im0 v v'):zaA F0 E sp f 0 g:=
 fun F k h args args' v h0 H hl hs hp=>by
  obtain⟨v',e1,e2⟩:=hg F args args' v h hl hs
  exact⟨0,v',h,fun n _=>by rw[hq];exact e1,e2,zD _,zD _,fun b _=>rfl⟩
def gClean(args:List SV):RT SV:=
 match args with
 | [.agg [.int .i64 _ no,.int .u8 _ b0,.int .u8 _ b1,.int .u8 _ b2,.int .u8 _ b3,.int .u8 _ b4,.int .u8 _ b5,.int .u8 _ b6,.int .u8 _ b7],.int .i64 _ size]=>
  .br (decide (0≤no)&&(decide (no≤1099511627776)&&(cl_ size b0 (no*8)&&(cl_ size b1 (no*8+1)&&(cl_ size b2 (no*8+2)&&(cl_ size b3 (no*8+3)&&(cl_ size b4 (no*8+4)&&(cl_ size b5 (no*8+5)&&(cl_ size b6 (no*8+6)&&cl_ size b7 (no*8+7)))))))))) (.ret (.bool true true)) .bad
 | _=>.bad
def gName(args:List SV):RT SV:=
 match args with
 | [.str _ s]=>.br (zbJ s) (.ret (.bool true true)) (.br (zI 20 s.length) (.ret (.bool true false)) .bad)
 | _=>.bad
def gCompare(args:List SV):RT SV:=
 match args with
 | [.str c s,.str c' t]=>.ret (mkI .i64 (c&&c') (Lib.compareBytes s t))
 | _=>.bad
def gIndex(args:List SV):RT SV:=
 match args with
 | [.str c s,.int .u8 c' b]=>.ret (mkI .i64 (c&&c') (Lib.indexByte s b.toNat.toUInt8))
 | _=>.bad
def gCount(args:List SV):RT SV:=
 match args with
 | [.str c s,.int .u8 c' b]=>.ret (mkI .i64 (c&&c') (.ofNat (Lib.countByte s b.toNat.toUInt8)))
 | _=>.bad
theorem zb5{α:Type}{b:Bool}{t:RT α}{x:α}(h:(RT.br b t .bad).sel=some x):b=true∧t.sel=some x:=by
 cases b with
 | true=>exact⟨rfl,h⟩
 | false=>cases h
theorem clean_told{F0:Fz}{E:Env}:zaA F0 E spE 131 0 gClean:=zdp (q:=spClean) (by unfold spE;rfl) fun F args args' v h hl hs=>by
 unfold gClean at hs
 split at hs
 .rename_i c0 no c1 b0 c2 b1 c3 b2 c4 b3 c5 b4 c6 b5 c7 b6 c8 b7 c9 size
  obtain⟨hb,hs⟩:=zb5 hs
  simp only[RT.sel,zC]at hs
  subst hs
  obtain⟨y1,l1,rfl,h1,h2⟩:=hl.cons_inv
  obtain⟨y2,l2,rfl,h3,h4⟩:=h2.cons_inv
  rw[h4.nil_inv,h3.int_inv]
  obtain⟨l',rfl,L⟩:=h1.agg_inv
  obtain⟨x0,m0,rfl,e0,L⟩:=L.cons_inv
  obtain⟨x1,m1,rfl,e1,L⟩:=L.cons_inv
  obtain⟨x2,m2,rfl,e2,L⟩:=L.cons_inv
  obtain⟨x3,m3,rfl,e3,L⟩:=L.cons_inv
  obtain⟨x4,m4,rfl,e4,L⟩:=L.cons_inv
  obtain⟨x5,m5,rfl,e5,L⟩:=L.cons_inv
  obtain⟨x6,m6,rfl,e6,L⟩:=L.cons_inv
  obtain⟨x7,m7,rfl,e7,L⟩:=L.cons_inv
  obtain⟨x8,m8,rfl,e8,L⟩:=L.cons_inv
  rw[L.nil_inv,e0.int_inv,e1.int_inv,e2.int_inv,e3.int_inv,e4.int_inv,e5.int_inv,e6.int_inv,e7.int_inv,e8.int_inv]
  refine⟨.bool true,?_,.bool ..⟩
  unfold spClean
  simp only[hb,cond_true]
 .cases hs
theorem name_told{F0:Fz}{E:Env}:zaA F0 E spE 78 0 gName:=zdp (q:=spName) (by unfold spE;rfl) fun F args args' v h hl hs=>by
 unfold gName at hs
 split at hs
 .rename_i c s
  obtain⟨y1,l1,rfl,h1,h2⟩:=hl.cons_inv
  rw[h2.nil_inv,h1.str_inv]
  rcases cond_sel (c:=false) hs with⟨hb,hs⟩|⟨hb,hs⟩
  .simp only[RT.sel,zC]at hs
   subst hs
   refine⟨.bool true,?_,.bool ..⟩
   unfold spName
   simp only[hb,cond_true]
  .obtain⟨hb2,hs⟩:=zb5 hs
   simp only[RT.sel,zC]at hs
   subst hs
   refine⟨.bool false,?_,.bool ..⟩
   unfold spName
   simp only[hb,hb2,cond_true,cond_false]
 .cases hs
theorem compare_plain{F0:Fz}{E:Env}:zaA F0 E spE 172 0 gCompare:=zdp (q:=zcU) (by unfold spE;rfl) fun F args args' v h hl hs=>by
 unfold gCompare at hs
 split at hs
 .rename_i c s c' t
  simp only[RT.sel,zC]at hs
  subst hs
  obtain⟨y1,l1,rfl,h1,h2⟩:=hl.cons_inv
  obtain⟨y2,l2,rfl,h3,h4⟩:=h2.cons_inv
  rw[h4.nil_inv,h3.str_inv,h1.str_inv]
  refine⟨_,rfl,?_⟩
  rw[zbv,vint_eq]
  exact .int ..
 .cases hs
theorem index_plain{F0:Fz}{E:Env}:zaA F0 E spE 190 0 gIndex:=zdp (q:=zbY) (by unfold spE;rfl) fun F args args' v h hl hs=>by
 unfold gIndex at hs
 split at hs
 .rename_i c s c' t
  simp only[RT.sel,zC]at hs
  subst hs
  obtain⟨y1,l1,rfl,h1,h2⟩:=hl.cons_inv
  obtain⟨y2,l2,rfl,h3,h4⟩:=h2.cons_inv
  rw[h4.nil_inv,h3.int_inv,h1.str_inv]
  refine⟨_,rfl,?_⟩
  rw[zbv,vint_eq]
  exact .int ..
 .cases hs
theorem count_plain{F0:Fz}{E:Env}:zaA F0 E spE 210 0 gCount:=zdp (q:=spCount) (by unfold spE;rfl) fun F args args' v h hl hs=>by
 unfold gCount at hs
 split at hs
 .rename_i c s c' t
  simp only[RT.sel,zC]at hs
  subst hs
  obtain⟨y1,l1,rfl,h1,h2⟩:=hl.cons_inv
  obtain⟨y2,l2,rfl,h3,h4⟩:=h2.cons_inv
  rw[h4.nil_inv,h3.int_inv,h1.str_inv]
  refine⟨_,rfl,?_⟩
  rw[zbv]
  exact .int ..
 .cases hs
def Told.withF(T:Told)(f:FuncId)(q:List SV→SH→RT (SV×SH)):Told:=⟨fun f'=>bif zA f' f then some q else T.pf f',T.lp⟩
def Told.withL(T:Told)(f p:Nat)(q:Fs→SH→RT (Ex×Fs×SH)):Told:=⟨T.pf,fun f' p'=>bif zA f' f&&zA p' p then some q else T.lp f' p'⟩
theorem withF_ok{F0:Fz}{E:Env}{sp:Sp}{T:Told}(hT:ToldOk F0 E sp T){f:FuncId}{q:List SV→SH→RT (SV×SH)}
  (hq:∀args sh v sh' F ι h args' b,F0.le F→HRs F ι sh h→LRs F ι args args'→(q args sh).sel=some (v,sh')→Out F ι sh h v sh' fun n=>zbh E sp b n f args' h):ToldOk F0 E sp (T.withF f q) where
 run:=fun f' h=>by
  unfold Told.withF at h
  simp only at h
  cases hb:zA f' f with
  | true=>rw[hb]at h;cases h
  | false=>rw[hb]at h;exact hT.run f' h
 pf:=fun f' q' h=>by
  unfold Told.withF at h
  simp only at h
  cases hb:zA f' f with
  | true=>
   rw[hb]at h
   simp only[cond_true,zC]at h
   subst h
   rw[zE hb]
   exact hq
  | false=>rw[hb]at h;exact hT.pf f' q' h
 lp:=fun f' p q' h=>hT.lp f' p q' h
theorem withL_ok{F0:Fz}{E:Env}{sp:Sp}{T:Told}(hT:ToldOk F0 E sp T){f p:Nat}{q:Fs→SH→RT (Ex×Fs×SH)}
  (hq:∀x n,InCode E f p (.loop x) n→∀a sh r F ι b h,F0.le F→HRs F ι sh h→FRs F ι a b→a.n=n→(q a sh).sel=some r→RunR F ι sh h r fun m=>zae E sp m (.inl (.loop x)) b h):ToldOk F0 E sp (T.withL f p q) where
 run:=fun f' h=>hT.run f' h
 pf:=fun f' q' h=>hT.pf f' q' h
 lp:=fun f' p' q' h=>by
  unfold Told.withL at h
  simp only at h
  cases hb:(zA f' f&&zA p' p)with
  | true=>
   rw[hb]at h
   simp only[cond_true,zC]at h
   subst h
   rw[zG]at hb
   rw[zE hb.1,zE hb.2]
   exact hq
  | false=>rw[hb]at h;exact hT.lp f' p' q' h
def bad_:List SV→SH→RT (SV×SH):=fun _ _=>.bad
noncomputable def TB:Told:=
 ((((((((((((⟨fun _=>none,fun _ _=>none⟩:Told).withF 69 bad_).withF 131 (zaq 0 gClean)).withF 78 (zaq 0 gName)).withF 172 (zaq 0 gCompare)).withF 190 (zaq 0 gIndex)).withF 210 (zaq 0 gCount)).withF 169 bad_).withF 186 bad_).withF 30 bad_).withF 7 bad_).withF 20 bad_).withF 14 bad_
theorem TB_ok{F0:Fz}:ToldOk F0 env spE TB:=by
 have plain:∀ {f:FuncId} {g:List SV→RT SV} {c:Nat},zaA F0 env spE f c g→∀args sh v sh' F ι h args' b,F0.le F→HRs F ι sh h→LRs F ι args args'→(zaq c g args sh).sel=some (v,sh')→Out F ι sh h v sh' fun n=>zbh env spE b n f args' h:=
  fun hg args sh v sh' F ι h args' b h0 H hl hs=>told_rel hg h0 H hl hs
 have hrun:∀f,TB.pf f=none→spE f=none:=fun f h=>by
  unfold TB Told.withF at h
  simp only at h
  unfold spE sp0
  cases h0:zA f 14 with
  | true=>rw[h0]at h;cases h
  | false=>
  cases h1:zA f 20 with
  | true=>rw[h0,h1]at h;cases h
  | false=>
  cases h2:zA f 7 with
  | true=>rw[h0,h1,h2]at h;cases h
  | false=>
  cases h3:zA f 30 with
  | true=>rw[h0,h1,h2,h3]at h;cases h
  | false=>
  cases h4:zA f 186 with
  | true=>rw[h0,h1,h2,h3,h4]at h;cases h
  | false=>
  cases h5:zA f 169 with
  | true=>rw[h0,h1,h2,h3,h4,h5]at h;cases h
  | false=>
  cases h6:zA f 210 with
  | true=>rw[h0,h1,h2,h3,h4,h5,h6]at h;cases h
  | false=>
  cases h7:zA f 190 with
  | true=>rw[h0,h1,h2,h3,h4,h5,h6,h7]at h;cases h
  | false=>
  cases h8:zA f 172 with
  | true=>rw[h0,h1,h2,h3,h4,h5,h6,h7,h8]at h;cases h
  | false=>
  cases h9:zA f 78 with
  | true=>rw[h0,h1,h2,h3,h4,h5,h6,h7,h8,h9]at h;cases h
  | false=>
  cases h10:zA f 131 with
  | true=>rw[h0,h1,h2,h3,h4,h5,h6,h7,h8,h9,h10]at h;cases h
  | false=>
  cases h11:zA f 69 with
  | true=>rw[h0,h1,h2,h3,h4,h5,h6,h7,h8,h9,h10,h11]at h;cases h
  | false=>
  rfl
 have pf:∀f q,TB.pf f=some q→∀args sh v sh' F ι h args' b,F0.le F→HRs F ι sh h→LRs F ι args args'→(q args sh).sel=some (v,sh')→Out F ι sh h v sh' fun n=>zbh env spE b n f args' h:=fun f q h=>by
  unfold TB Told.withF at h
  simp only at h
  cases h0:zA f 14 with
  | true=>rw[h0]at h;simp only[cond_true,zC]at h;subst h;intro args sh v sh' F ι h args' b _ _ _ hs;cases hs
  | false=>
  cases h1:zA f 20 with
  | true=>rw[h0,h1]at h;simp only[cond_true,cond_false,zC]at h;subst h;intro args sh v sh' F ι h args' b _ _ _ hs;cases hs
  | false=>
  cases h2:zA f 7 with
  | true=>rw[h0,h1,h2]at h;simp only[cond_true,cond_false,zC]at h;subst h;intro args sh v sh' F ι h args' b _ _ _ hs;cases hs
  | false=>
  cases h3:zA f 30 with
  | true=>rw[h0,h1,h2,h3]at h;simp only[cond_true,cond_false,zC]at h;subst h;intro args sh v sh' F ι h args' b _ _ _ hs;cases hs
  | false=>
  cases h4:zA f 186 with
  | true=>rw[h0,h1,h2,h3,h4]at h;simp only[cond_true,cond_false,zC]at h;subst h;intro args sh v sh' F ι h args' b _ _ _ hs;cases hs
  | false=>
  cases h5:zA f 169 with
  | true=>rw[h0,h1,h2,h3,h4,h5]at h;simp only[cond_true,cond_false,zC]at h;subst h;intro args sh v sh' F ι h args' b _ _ _ hs;cases hs
  | false=>
  cases h6:zA f 210 with
  | true=>rw[h0,h1,h2,h3,h4,h5,h6]at h;simp only[cond_true,cond_false,zC]at h;subst h;rw[zE h6];exact plain count_plain
  | false=>
  cases h7:zA f 190 with
  | true=>rw[h0,h1,h2,h3,h4,h5,h6,h7]at h;simp only[cond_true,cond_false,zC]at h;subst h;rw[zE h7];exact plain index_plain
  | false=>
  cases h8:zA f 172 with
  | true=>rw[h0,h1,h2,h3,h4,h5,h6,h7,h8]at h;simp only[cond_true,cond_false,zC]at h;subst h;rw[zE h8];exact plain compare_plain
  | false=>
  cases h9:zA f 78 with
  | true=>rw[h0,h1,h2,h3,h4,h5,h6,h7,h8,h9]at h;simp only[cond_true,cond_false,zC]at h;subst h;rw[zE h9];exact plain name_told
  | false=>
  cases h10:zA f 131 with
  | true=>rw[h0,h1,h2,h3,h4,h5,h6,h7,h8,h9,h10]at h;simp only[cond_true,cond_false,zC]at h;subst h;rw[zE h10];exact plain clean_told
  | false=>
  cases h11:zA f 69 with
  | true=>rw[h0,h1,h2,h3,h4,h5,h6,h7,h8,h9,h10,h11]at h;simp only[cond_true,cond_false,zC]at h;subst h;intro args sh v sh' F ι h args' b _ _ _ hs;cases hs
  | false=>
  rw[h0,h1,h2,h3,h4,h5,h6,h7,h8,h9,h10,h11]at h;cases h
 exact⟨hrun,pf,fun f p q h=>by cases h⟩
noncomputable def fnBody(f:FuncId):Code:=match env.funcs.get f with|some fn=>(match fn.body with|some c=>c|none=>.skip)|none=>.skip
noncomputable def zaf(f p:Nat):Code:=match zdI (fnBody f) 24 (2*p)with|some c=>c|none=>.skip
noncomputable def fnOk(f n:Nat):Bool:=match env.funcs.get f with|some fn=>fn.body.isSome&&zA n fn.ntmps|none=>false
noncomputable def atOk(f p:Nat):Bool:=(zdI (fnBody f) 24 (2*p)).isSome&&zI (2*p) 16777216
theorem zaN{f p n:Nat}(h1:fnOk f n=true)(h2:atOk f p=true):InCode env f (2*p) (zaf f p) n:=by
 unfold fnOk at h1
 unfold atOk at h2
 rw[zG]at h2
 obtain⟨h2,h3⟩:=h2
 cases hf:env.funcs.get f with
 | none=>rw[hf]at h1;cases h1
 | some fn=>
  rw[hf]at h1
  simp only[zG]at h1
  have hn:=zE h1.2
  cases hb:fn.body with
  | none=>rw[hb]at h1;cases h1.1
  | some root=>
   have e:fnBody f=root:=by unfold fnBody;rw[hf];simp only[hb]
   refine⟨fn,root,hf,hb,?_⟩
   obtain⟨c,hc⟩:=Option.isSome_iff_exists.1 h2
   have:zaf f p=c:=by unfold zaf;rw[hc]
   rw[this]
   rw[e]at hc
   exact⟨code_sits hc,hn⟩
theorem loop_is{f p n:Nat}(h1:fnOk f n=true)(h2:atOk f p=true){x:Code}{n':Nat}(h:InCode env f p (.loop x) n'):x=zaf f p∧n'=n:=by
 obtain⟨fn,root,i1,i2,i3,i4⟩:=h
 obtain⟨fn2,root2,j1,j2,j3,j4⟩:=zaN h1 h2
 rw[i1]at j1
 injection j1 with j1
 subst j1
 rw[i2]at j2
 injection j2 with j2
 subst j2
 unfold atOk at h2
 rw[zG]at h2
 have hlt:2*p<2 ^ 24:=by
  have:=h2.2
  simpa [zJ]using this
 have a:=(at_code (Sits.loop i3)).2 24 hlt
 have b:=(at_code j3).2 24 hlt
 rw[a]at b
 injection b with b
 exact⟨b,i4.trans j4.symm⟩
noncomputable def wsOk(f p:Nat)(ws:List Tmp):Bool:=(wr (zaf f p)).all (fun t=>ws.any (zA t))
theorem ws_ok{f p:Nat}{ws:List Tmp}(h:wsOk f p ws=true):∀t,t∈wr (zaf f p)→t∈ws:=by
 intro t ht
 have:=List.all_eq_true.1 h t ht
 obtain⟨u,h1,h2⟩:=List.any_eq_true.1 this
 rw[zE h2]
 exact h1
theorem zaM{F0:Fz}{sp:Sp}{T:Told}(hT:ToldOk F0 env sp T){f p n c:Nat}{live ws:List Tmp}{g:Nat→List SV→List SB→RT (Left (Ex×List (Tmp×SV)))}(h1:fnOk f n=true)(h2:atOk f p=true)
  (hg:SubLp F0 env sp (zaf f p) n c live ws g):ToldOk F0 env sp (T.withL f p (zaD c live ws g)):=
 withL_ok hT fun x n' hx a sh r F ι b h h0 H hf han hs=>by
  obtain⟨rfl,rfl⟩:=loop_is h1 h2 hx
  exact subLp_rel hg h0 H hf han hs
theorem za7{F0:Fz}{sp:Sp}{T:Told}(hT:ToldOk F0 env sp T){f c:Nat}{g:List SV→RT SV}(hg:zaA F0 env sp f c g):ToldOk F0 env sp (T.withF f (zaq c g)):=
 withF_ok hT fun args sh v sh' F ι h args' b h0 H hl hs=>told_rel hg h0 H hl hs
theorem zal{F0:Fz}{sp:Sp}{T:Told}(hT:ToldOk F0 env sp T){f c:Nat}{ms:List Bool}{g:Nat→List SV→List SB→RT (Left SV)}(hg:SubOk F0 env sp f c g):ToldOk F0 env sp (T.withF f (zan c ms g)):=
 withF_ok hT fun args sh v sh' F ι h args' b h0 H hl hs=>sub_rel hg h0 H hl hs
def zdH{α:Type}(C:Cdc α)(t:TypeId):Nat→List SV→List SB→RT (Left SV):=gSub
 (fun a b=>match a,b with|[x],[]=>slR C.k x|_,_=>none)
 (fun r=>zH r.1 1099511627776&&C.wf r.1 r.2.2)
 (fun k r=>⟨.nsl 0 C.k false 0 r.1 1,[.row C.k r.1 (C.e (k+1) (C.ls r.1 r.2.2)) t],[]⟩)
theorem zdz{α:Type}(C:Cdc α){t:TypeId}{T:Told}{F0:Fz}{sp:Sp}(hT:ToldOk F0 env sp T)(hF0:∀b cs t,F0 b=some (cs,t)→t=0){f:FuncId}(hf:T.pf f=none){c by_:Nat}(hby:by_≤128)
  (hnil:(fnZ false env T f c [.raw (.slice none 0 0)] []).sel=some ⟨.ret,[.raw (.slice none 0 0)],[],[]⟩)
  (hsome:∀l:List α,(fnZ false env T f c [.fsl 0 C.k l.length (some false) (C.e 0 l)] []).follow [false,true]=some ([(false,false),(zH ((0+l.length)*by_) 140737488355328&&zH (0+l.length) 9223372036854775807,true)],
   ⟨.ret,[.nsl 0 C.k false 0 (0+l.length) 1],[.row C.k (0+l.length) (C.e 0 l) t],[]⟩)):SubOk F0 env sp f c (zdH C t):=fun F ι k h args args' bs L b h0 H hbs hl hg=>by
 unfold zdH gSub at hg
 split at hg
 .rename_i r hr
  dsimp only at hr hg
  split at hr
  .rename_i x
   obtain⟨n,nl,e⟩:=r
   obtain⟨hb,hg⟩:=zb5 hg
   simp only[RT.sel,zC]at hg
   subst hg
   simp only[zG]at hb
   obtain⟨b1,b2⟩:=hb
   have b1:=zN b1
   have hlen:(C.ls n e).length=n:=C.ls_len
   obtain⟨v,l',rfl,hv,hl'⟩:=hl.cons_inv
   rw[hl'.nil_inv]at hl ⊢
   have hs:=C.sl_none (K:=k) (st:=k) hr b2 (zD _) F F ι v (fun b cs t e=>by exact⟨t,by have:=(H.frz b cs t e).1;exact this,e⟩) hv
   rcases hs.nl_split with q|⟨q0,q⟩
   .have:=sub_of_z (z:=false) (T:=T) (k:=k) (args:=[.fsl k C.k (C.ls n e).length (some false) (C.e k (C.ls n e))]) (L:=(⟨.nsl 0 C.k false 0 n 1,[.row C.k n (C.e (k+1) (C.ls n e)) t],[]⟩:Left SV)) hT hF0 hf
     (zab (hsome (C.ls n e)) (by
      rw[hlen,zO]
      have h1:n*by_≤n*128:=Nat.mul_le_mul_left _ hby
      rw[zF,zF,ble_t (show n*by_≤140737488355328 by omega),ble_t (show n≤9223372036854775807 by omega)];rfl)) hbs
     (.cons (C.fsl_refl (Nat.zero_le _) (.inr rfl)) .nil) .nil (.cons (by rw[hlen,zO];exact Wk.nsl (zD _)) .nil) (.cons (by rw[hlen,zO];exact WkB.row (C.e_refl (zD _))) (fun _=>by simp) .nil) rfl h0 H (.cons q (.nil ..)) b
    exact this
   .rw[hlen]at q0
    subst q0
    obtain⟨N,v',h',F',ι',p1,p2,p3,p4⟩:=sub_of_z (z:=false) (T:=T) (k:=k) (args:=[.raw (.slice none 0 0)]) (L:=(⟨.raw (.slice none 0 0),[],[]⟩:Left SV)) hT hF0 hf hnil hbs (.cons Wk.raw .nil) .nil (.cons Wk.raw .nil) .nil rfl h0 H (.cons q (.nil ..)) b
    refine⟨N,v',h',F',ι',p1,?_,p3.addEmpty (by simp),p4⟩
    exact(Wk.nil_nsl (K:=k+1) (zD 1)) F' F' ι' v' (fun b cs t e=>⟨t,(p3.frz b cs t e).1,e⟩) p2
  .cases hr
 .cases hg
abbrev clNm:FuncId:=65
abbrev clNd:FuncId:=66
abbrev clX:FuncId:=90
abbrev clB_:FuncId:=113
theorem clNm_told{F0:Fz}(hF0:∀b cs t,F0 b=some (cs,t)→t=0):SubOk F0 env spE clNm 1000 (zdH cNm 80):=zdz cNm (T:=TB) (by_:=24) TB_ok hF0 rfl (by omega) (by kernel_rfl) fun l=>by kernel_rfl
theorem clNd_told{F0:Fz}(hF0:∀b cs t,F0 b=some (cs,t)→t=0):SubOk F0 env spE clNd 1000 (zdH cNd 83):=zdz cNd (T:=TB) (by_:=40) TB_ok hF0 rfl (by omega) (by kernel_rfl) fun l=>by kernel_rfl
theorem clX_told{F0:Fz}(hF0:∀b cs t,F0 b=some (cs,t)→t=0):SubOk F0 env spE clX 1000 (zdH cX 136):=zdz cX (T:=TB) (by_:=16) TB_ok hF0 rfl (by omega) (by kernel_rfl) fun l=>by kernel_rfl
theorem clB_told{F0:Fz}(hF0:∀b cs t,F0 b=some (cs,t)→t=0):SubOk F0 env spE clB_ 1000 (zdH cB 5):=zdz cB (T:=TB) (by_:=1) TB_ok hF0 rfl (by omega) (by kernel_rfl) fun l=>by kernel_rfl
abbrev mayF:FuncId:=86
def mayLive:List Tmp:=[17,16,15,3,1]
def mayTs(e:Ex):List Tmp:=match e with|.normal=>mayLive|.ret=>[2]|_=>[]
def mayWs:List Tmp:=[18,19,20,5,21,22,23,24,25,26,27,28,29,30,31,32,33,34,35,36,2,37,38,3,39,17]
def mayBl(size:Int):List SB:=[.lst 2 [[.int .i64 false size,.lost]] 50]
def mayVa(l:List Xt)(nl:Option Bool)(i:Nat)(last:Int):List SV:=[.int .i64 false (.ofNat i),.int .i64 false (.ofNat l.length),.fsl 0 9 l.length nl (xtE l),.int .i64 false last,.ptr 0 2 true 0 0]
noncomputable def mayT(l:List Xt)(nl:Option Bool)(i:Nat)(last size:Int):RT Lf:=zaJ env TB mayF 122 (zaf mayF 122) 40 mayLive mayTs 10 (mayVa l nl i last) (mayBl size)
theorem may_stop(l:List Xt)(nl:Option Bool)(i:Nat)(last size:Int):(mayT l nl i last size).follow [false]=some ([(decide (zB i<zB l.length),false)],⟨.exit 0,[],mayBl size,[some (0,true)]⟩):=by kernel_rfl
theorem may_next(l:List Xt)(nl:Option Bool)(i:Nat)(last size:Int):(mayT l nl i last size).follow [true,true,true,false,false,true] =
  some ([(decide (zB i<zB l.length),true),(decide (0≤zB i),true),(zI i l.length,true),(decide ((l.getD i xt0).no≤last),false),(decide ((l.getD i xt0).no≥zB 137438953472),false),(cleanX (l.getD i xt0) size,true)],
   ⟨.normal,[.int .i64 false (IntKind.i64.wrap (zB i+zB 1)),.int .i64 false (.ofNat l.length),.fsl 0 9 l.length nl (xtE l),.int .i64 false (l.getD i xt0).no,.ptr 0 2 true 0 0],mayBl size,[some (0,true)]⟩):=by kernel_rfl
theorem bl_refl{K:Nat}{size:Int}:WkBs K (mayBl size) (mayBl size):=.cons (.lst1 (.cons Wk.int (.cons Wk.lost .nil))) (fun _=>by simp) .nil
noncomputable def mayR(K:Nat)(l:List Xt)(nl:Option Bool)(size:Int)(hl:l.length≤1099511627776):za5 env TB mayF 122 (zaf mayF 122) 40 mayLive mayTs 10 K { s:Nat×Int // s.1≤l.length∧mayL size s.2 (l.drop s.1)=true } where
 va s:=mayVa l nl s.1.1 s.1.2
 bl s:=mayBl size
 μ s:=l.length-s.1.1
 out s:=⟨.exit 0,[],mayBl size,[some (0,true)]⟩
 tsn:=rfl
 small s:=by show 1<4000;omega
 step s:=by
  obtain⟨⟨i,last⟩,hi,hm⟩:=s
  simp only at hi hm
  by_cases h:i<l.length
  .have e5:l.drop i=l[i]::l.drop (i+1):=List.drop_eq_getElem_cons h
   have eg:l.getD i xt0=l[i]:=by simp[h]
   rw[e5]at hm
   simp only[mayL,zG,zS]at hm
   obtain⟨m1,m2,m3,m4⟩:=hm
   refine⟨_,zab (may_next l nl i last size) ?_,.inl ⟨rfl,⟨(i+1,l[i].no),by show i+1≤l.length;omega,m4⟩,?_,bl_refl,by show l.length-(i+1)<l.length-i;omega,rfl,rfl,rfl,rfl⟩⟩
   .have hb:zI i l.length=true:=by simpa [zJ]using h
    simp only[zF,zK,eg,zaV,zcb,hb,m1,m2,m3]
    have:decide (l[i].no≥zB 137438953472)=false:=m2
    rw[this];rfl
   .refine .cons (.int_eq (zap (by omega))) (.cons Wk.int (.cons (.fsl (zD _) (.inr rfl) zbq) (.cons (.int_eq (by rw[eg])) (.cons Wk.ptr .nil))))
  .refine⟨_,zab (may_stop l nl i last size) ?_,.inr ⟨by simp,rfl,.nil,bl_refl,rfl⟩⟩
   have hb:zI i l.length=false:=by
    rw[zQ];intro q;exact h (by simpa [zJ]using q)
   simp only[zF,zK,zaV,hb]
   rfl
def mayG(k:Nat)(vs:List SV)(bs:List SB):RT (Left (Ex×List (Tmp×SV))):=
 match vs,bs with
 | [.int .i64 _ (.ofNat 0),.int .i64 _ (.ofNat n),.fsl _ 9 m nl e,.int .i64 _ last,.ptr 0 2 _ 0 0],[.lst 2 [[.int .i64 _ size,_]] t]=>
  .br (zA t 50&&(zA n m&&(zH n 1099511627776&&(wfR xtOf n e&&mayL size last (lsR xtOf xt0 n e))))) (.ret ⟨(.exit 0,[]),mayBl size,[some (0,true)]⟩) .bad
 | _,_=>.bad
theorem may_loop{F0:Fz}(hF0:∀b cs t,F0 b=some (cs,t)→t=0):SubLp F0 env spE (zaf mayF 122) 40 20000000000000 mayLive mayWs mayG:=
 ⟨ws_ok (by kernel_rfl),fun F ι k h vs vs' bs b L h0 H hbs hbn hn hv hl hg=>by
  unfold mayG at hg
  split at hg
  .rename_i c1 c2 n st m nl e c3 last c4 c5 size z t
   obtain⟨hb,hg⟩:=zb5 hg
   simp only[RT.sel,zC]at hg
   subst hg
   simp only[zG]at hb
   obtain⟨b0,b1,b2,b3,b4⟩:=hb
   have:=zE b0
   subst this
   have:=zE b1
   subst this
   have b2:=zN b2
   have hlen:(lsR xtOf xt0 n e).length=n:=lsR_len
   refine lp_of TB_ok hF0 (zaN (n:=40) (by kernel_rfl) (by kernel_rfl)) (by decide) (by decide) (mayR (k+1) (lsR xtOf xt0 n e) nl size (by rw[hlen];exact b2)) ⟨(0,last),by simp,by simpa using b4⟩ ?_ hbs ?_ ?_ rfl h0 H hbn hv hl
   .show 10*((lsR xtOf xt0 n e).length-0+1)≤_
    rw[hlen];omega
   .show WkL 0 _ (mayVa (lsR xtOf xt0 n e) nl 0 last)
    unfold mayVa
    rw[hlen]
    exact .cons Wk.int (.cons Wk.int (.cons (.fsl (zD _) (.inr rfl) (wfR_wk (row:=xtRow) (fun r x=>xt_wk) b3)) (.cons Wk.int (.cons Wk.ptr .nil))))
   .exact .cons (.lst1 (.cons Wk.int (.cons Wk.lost .nil))) (fun _=>by simp) .nil
  .cases hg⟩
noncomputable def TMay:Told:=TB.withL mayF 122 (zaD 20000000000000 mayLive mayWs mayG)
theorem TMay_ok{F0:Fz}(hF0:∀b cs t,F0 b=some (cs,t)→t=0):ToldOk F0 env spE TMay:=zaM (n:=40) TB_ok (by kernel_rfl) (by kernel_rfl) (may_loop hF0)
def gMay(args:List SV):RT SV:=
 match args with
 | [.agg [.int .i64 _ size,x]]=>(match slR 9 x with
  | some (n,nl,e)=>.br (zH n 1099511627776&&(wfR xtOf n e&&mayC size (lsR xtOf xt0 n e))) (.ret (.bool true true)) .bad
  | none=>.bad)
 | _=>.bad
noncomputable def mayFT(l:List Xt)(nl:Option Bool)(size:Int):RT Lf:=fnT env TMay mayF 20000000001000 [.agg [.int .i64 false size,.fsl 0 9 l.length nl (xtE l)]] []
theorem may_way(l:List Xt)(nl:Option Bool)(size:Int):(mayFT l nl size).follow [false,false,true] =
  some ([(decide (size<zB 0),false),(decide (size>zB 1099511627776),false),(zA 50 50&&(zA l.length l.length&&(zH l.length 1099511627776&&(wfR xtOf l.length (xtE l)&&mayL size (-1) (lsR xtOf xt0 l.length (xtE l))))),true)],⟨.ret,[.bool true true],[],[]⟩):=by kernel_rfl
theorem may_told{F0:Fz}(hF0:∀b cs t,F0 b=some (cs,t)→t=0):zaA F0 env spE mayF 20000000001000 gMay:=fun F k h args args' v h0 H hl hg hp=>by
 unfold gMay at hg
 split at hg
 .rename_i c size x
  split at hg
  .rename_i n nl e hx
   obtain⟨hb,hg⟩:=zb5 hg
   simp only[RT.sel,zC]at hg
   subst hg
   simp only[zG,mayC,zS]at hb
   obtain⟨b1,b2,b3,b4,b5⟩:=hb
   have hlen:(lsR xtOf xt0 n e).length=n:=lsR_len
   refine za3 (k:=k) (TMay_ok hF0) hF0 rfl (zab (may_way (lsR xtOf xt0 n e) nl size) ?_) ?_ (.cons Wk.bool .nil) hp h0 H hl
   .have b3':decide (size<zB 0)=false:=b3
    have b4':decide (size>zB 1099511627776)=false:=b4
    simp only[zF,zK,wf_xt,ls_xt,b3',b4',b5]
    rw[hlen,b1]
    simp
   .refine .cons (.agg (.cons Wk.int (.cons ?_ .nil))) .nil
    have:=slR_wk (row:=xtRow) (d:=xt0) (K:=0) (st:=0) (fun r x=>xt_wk) hx b2 (zD _)
    rw[hlen]
    exact this
  .cases hg
 .cases hg
abbrev bsF:FuncId:=212
def zci:List Tmp:=[9,10,2,0,1]
def bsTs(e:Ex):List Tmp:=match e with|.normal=>zci|_=>[9]
def bsWs:List Tmp:=[15,16,17,18,19,20,21,22,23,11,24,25,26,27,28,29,30,31,32,33,9,34,10]
def bsVa(l:List Xt)(nl:Option Bool)(i j:Nat)(t:Int):List SV:=[.int .i64 false (.ofNat i),.int .i64 false (.ofNat j),.fn 213 [] [],.fsl 0 9 l.length nl (xtE l),.int .i64 false t]
noncomputable def bsT(l:List Xt)(nl:Option Bool)(i j:Nat)(t:Int):RT Lf:=zaJ env TB bsF 60 (zaf bsF 60) 49 zci bsTs 20 (bsVa l nl i j t) []
def midW(i j:Nat):Int:=IntKind.i64.wrap ((IntKind.u64.wrap (IntKind.i64.wrap (zB i+zB j))).fdiv (2 ^ Nat.min 1 IntKind.u64.bits))
theorem mid_eq{i j:Nat}(hi:i≤1099511627776)(hj:j≤1099511627776):midW i j=zB ((i+j) / 2):=by
 unfold midW
 have e1:IntKind.i64.wrap (zB i+zB j)=zB (i+j):=by
  show IntKind.i64.wrap (zB (i+j))=_
  exact zT _ (by simp only[zP];omega)
 have e2:IntKind.u64.wrap (zB (i+j))=zB (i+j):=by
  have h:(0:Int)≤zB (i+j)∧zB (i+j)<18446744073709551616:=by simp only[zP];omega
  show zB (i+j) % 18446744073709551616=zB (i+j)
  exact Int.emod_eq_of_lt h.1 h.2
 rw[e1,e2]
 have e3:(zB (i+j)).fdiv (2 ^ Nat.min 1 IntKind.u64.bits)=zB ((i+j) / 2):=by
  show(zB (i+j)).fdiv 2=_
  rw[Int.fdiv_eq_ediv_of_nonneg _ (by omega)]
  simp only[zP]
  omega
 rw[e3]
 exact zT _ (by simp only[zP];omega)
def bsH(l:List Xt)(i j:Nat)(t:Int):List (Bool×Bool):=[(decide (zB i<zB j),true),(decide (0≤midW i j),true),(zI (midW i j).toNat l.length,true),((l.getD (midW i j).toNat xt0).no != (l.getD (midW i j).toNat xt0).no,false),(t != t,false)]
theorem bs_stop(l:List Xt)(nl:Option Bool)(i j:Nat)(t:Int):(bsT l nl i j t).follow [false]=some ([(decide (zB i<zB j),false)],⟨.exit 0,[.int .i64 false (.ofNat i)],[],[]⟩):=by kernel_rfl
theorem bs_less(l:List Xt)(nl:Option Bool)(i j:Nat)(t:Int):(bsT l nl i j t).follow [true,true,true,false,false,true]=some (bsH l i j t++[(decide ((l.getD (midW i j).toNat xt0).no<t),true)],
  ⟨.normal,[.int .i64 false (IntKind.i64.wrap (midW i j+zB 1)),.int .i64 false (.ofNat j),.fn 213 [] [],.fsl 0 9 l.length nl (xtE l),.int .i64 false t],[],[]⟩):=by kernel_rfl
theorem bs_more(l:List Xt)(nl:Option Bool)(i j:Nat)(t:Int):(bsT l nl i j t).follow [true,true,true,false,false,false,true]=some (bsH l i j t++[(decide ((l.getD (midW i j).toNat xt0).no<t),false),(decide ((l.getD (midW i j).toNat xt0).no>t),true)],
  ⟨.normal,[.int .i64 false (.ofNat i),.int .i64 false (midW i j),.fn 213 [] [],.fsl 0 9 l.length nl (xtE l),.int .i64 false t],[],[]⟩):=by kernel_rfl
theorem bs_same(l:List Xt)(nl:Option Bool)(i j:Nat)(t:Int):(bsT l nl i j t).follow [true,true,true,false,false,false,false]=some (bsH l i j t++[(decide ((l.getD (midW i j).toNat xt0).no<t),false),(decide ((l.getD (midW i j).toNat xt0).no>t),false)],
  ⟨.normal,[.int .i64 false (.ofNat i),.int .i64 false (midW i j),.fn 213 [] [],.fsl 0 9 l.length nl (xtE l),.int .i64 false t],[],[]⟩):=by kernel_rfl
def halv(n:Nat):Nat:=zL (2*n)
theorem halv_lt{m n:Nat}(h:2*m≤n)(h0:0<n):halv m<halv n:=by
 unfold halv
 rcases zU m with rfl|hm
 .have:1≤zL (2*n):=(zR (by omega)).2 (by omega)
  have e:zL (2*0)=0:=by simp
  omega
 .have h1:2 ^ zL (2*m)≤2*m:=(zR (by omega)).1 (zD _)
  have h2:zL (2*m)+1≤zL (2*n):=(zR (by omega)).2 (by rw[Nat.pow_succ];omega)
  omega
theorem halv_le{n:Nat}(h:n≤1099511627776):halv n≤41:=by
 unfold halv
 rcases zU n with rfl|hn
 .simp
 .have:zL (2*n)<42:=(Nat.log2_lt (by omega)).2 (by omega)
  omega
noncomputable def bsR(K:Nat)(l:List Xt)(nl:Option Bool)(t last:Int)(hl:l.length≤1099511627776)(hs:srtL last l=true):za5 env TB bsF 60 (zaf bsF 60) 49 zci bsTs 20 K { s:Nat×Nat // s.1≤lowB l t∧lowB l t≤s.2∧s.2≤l.length } where
 va s:=bsVa l nl s.1.1 s.1.2 t
 bl s:=[]
 μ s:=halv (s.1.2-s.1.1)
 out s:=⟨.exit 0,[.int .i64 false (.ofNat (lowB l t))],[],[]⟩
 tsn:=rfl
 small s:=by show 0<4000;omega
 step s:=by
  obtain⟨⟨i,j⟩,h1,h2,h3⟩:=s
  simp only at h1 h2 h3
  by_cases h:i<j
  .have em:=mid_eq (i:=i) (j:=j) (by omega) (by omega)
   have hm1:i≤(i+j) / 2:=by omega
   have hm2:(i+j) / 2<j:=by omega
   have hm3:(i+j) / 2<l.length:=by omega
   have eg:l.getD ((i+j) / 2) xt0=l[(i+j) / 2]:=by simp[hm3]
   have hb1:zI i j=true:=by simpa [zJ]using h
   have hb2:zI ((i+j) / 2) l.length=true:=by simpa [zJ]using hm3
   have tests:((bsH l i j t).all fun p=>p.1==p.2)=true:=by
    unfold bsH
    rw[em]
    show([(decide (zB i<zB j),true),(decide (0≤zB ((i+j) / 2)),true),(zI ((i+j) / 2) l.length,true),(_ != _,false),(t != t,false)].all fun p=>p.1==p.2)=true
    simp only[zF,zK,zaV,zcb,hb1,hb2]
    simp
   have vs:∀ {x:Int} {y:Nat} {x2:Int} {y2:Nat},x=zB y→x2=zB y2→WkL 0 [.int .i64 false x,.int .i64 false x2,.fn 213 [] [],.fsl 0 9 l.length nl (xtE l),.int .i64 false t] (bsVa l nl y y2 t):=fun e1 e2=>
    .cons (.int_eq e1) (.cons (.int_eq e2) (.cons Wk.fn0 (.cons (.fsl (zD _) (.inr rfl) zbq) (.cons Wk.int .nil))))
   have emid:(midW i j).toNat=(i+j) / 2:=by rw[em];rfl
   by_cases hlt:l[(i+j) / 2].no<t
   .refine⟨_,zab (bs_less l nl i j t) ?_,.inl ⟨rfl,⟨((i+j) / 2+1,j),lowB_gt_of hs hm3 hlt,h2,h3⟩,vs ?_ rfl,.nil,halv_lt (by simp only;omega) (by simp only;omega),rfl,rfl,rfl,rfl⟩⟩
    .rw[zM,tests,emid,eg]
     simp[hlt]
    .rw[em];exact zap (by omega)
   .by_cases hgt:l[(i+j) / 2].no>t
    .refine⟨_,zab (bs_more l nl i j t) ?_,.inl ⟨rfl,⟨(i,(i+j) / 2),h1,lowB_le_of hs hm3 hlt,by omega⟩,vs rfl em,.nil,halv_lt (by simp only;omega) (by simp only;omega),rfl,rfl,rfl,rfl⟩⟩
     rw[zM,tests,emid,eg]
     simp[hlt,hgt]
    .refine⟨_,zab (bs_same l nl i j t) ?_,.inl ⟨rfl,⟨(i,(i+j) / 2),h1,lowB_le_of hs hm3 hlt,by omega⟩,vs rfl em,.nil,halv_lt (by simp only;omega) (by simp only;omega),rfl,rfl,rfl,rfl⟩⟩
     rw[zM,tests,emid,eg]
     simp[hlt,hgt]
  .have e:lowB l t=i:=by omega
   refine⟨_,zab (bs_stop l nl i j t) ?_,.inr ⟨by simp,rfl,.cons (.int_eq (by rw[e])) .nil,.nil,rfl⟩⟩
   have hb:zI i j=false:=by
    rw[zQ];intro q;exact h (by simpa [zJ]using q)
   simp only[zF,zK,zaV,hb]
   rfl
def bsG(k:Nat)(vs:List SV)(bs:List SB):RT (Left (Ex×List (Tmp×SV))):=
 match vs,bs with
 | [.int .i64 _ (.ofNat 0),.int .i64 _ (.ofNat n),.fn f [] [],.fsl _ 9 m nl e,.int .i64 _ t],[]=>
  .br (zA f 213&&(zA n m&&(zH n 1099511627776&&(wfR xtOf n e&&srtL (-1) (lsR xtOf xt0 n e))))) (.ret ⟨(.exit 0,[(9,.int .i64 false (.ofNat (lowB (lsR xtOf xt0 n e) t)))]),[],[]⟩) .bad
 | _,_=>.bad
theorem bs_loop{F0:Fz}(hF0:∀b cs t,F0 b=some (cs,t)→t=0):SubLp F0 env spE (zaf bsF 60) 49 1000 zci bsWs bsG:=
 ⟨ws_ok (by kernel_rfl),fun F ι k h vs vs' bs b L h0 H hbs hbn hn hv hl hg=>by
  unfold bsG at hg
  split at hg
  .rename_i c1 c2 n f st m nl e c3 t
   obtain⟨hb,hg⟩:=zb5 hg
   simp only[RT.sel,zC]at hg
   subst hg
   simp only[zG]at hb
   obtain⟨b0,b1,b2,b3,b4⟩:=hb
   have:=zE b0
   subst this
   have:=zE b1
   subst this
   have b2:=zN b2
   have hlen:(lsR xtOf xt0 n e).length=n:=lsR_len
   refine lp_of TB_ok hF0 (zaN (n:=49) (by kernel_rfl) (by kernel_rfl)) (by decide) (by decide) (bsR (k+1) (lsR xtOf xt0 n e) nl t (-1) (by rw[hlen];exact b2) b4) ⟨(0,n),Nat.zero_le _,by have:=lowB_le (l:=lsR xtOf xt0 n e) (t:=t);rw[hlen]at this;exact this,by simp only;rw[hlen];exact zD _⟩ ?_ hbs ?_ .nil rfl h0 H hbn hv hl
   .show 20*(halv (n-0)+1)≤_
    have:=halv_le (n:=n-0) (by omega)
    omega
   .show WkL 0 _ (bsVa (lsR xtOf xt0 n e) nl 0 n t)
    unfold bsVa
    rw[hlen]
    exact .cons Wk.int (.cons Wk.int (.cons Wk.fn0 (.cons (.fsl (zD _) (.inr rfl) (wfR_wk (row:=xtRow) (fun r x=>xt_wk) b3)) (.cons Wk.int .nil))))
  .cases hg⟩
noncomputable def TPl:Told:=TB.withL bsF 60 (zaD 1000 zci bsWs bsG)
theorem TPl_ok{F0:Fz}(hF0:∀b cs t,F0 b=some (cs,t)→t=0):ToldOk F0 env spE TPl:=zaM (n:=49) TB_ok (by kernel_rfl) (by kernel_rfl) (bs_loop hF0)
abbrev placeF:FuncId:=191
def gPlace(args:List SV):RT SV:=
 match args with
 | [x,.int .i64 _ t]=>(match slR 9 x with
  | some (n,nl,e)=>.br (zH n 1099511627776&&(wfR xtOf n e&&srtL (-1) (lsR xtOf xt0 n e))) (.ret (.tup [.int .i64 false (.ofNat (lowB (lsR xtOf xt0 n e) t)),.bool false (zbr (lsR xtOf xt0 n e) t)])) .bad
  | none=>.bad)
 | _=>.bad
noncomputable def placeT(l:List Xt)(nl:Option Bool)(t:Int):RT Lf:=fnT env TPl placeF 2000 [.fsl 0 9 l.length nl (xtE l),.int .i64 false t] []
def placeH(l:List Xt):Bool×Bool:=(zA 213 213&&(zA l.length l.length&&(zH l.length 1099511627776&&(wfR xtOf l.length (xtE l)&&srtL (-1) (lsR xtOf xt0 l.length (xtE l))))),true)
def lowE(l:List Xt)(t:Int):Nat:=lowB (lsR xtOf xt0 l.length (xtE l)) t
def placeV(l:List Xt)(t:Int)(b:Bool):Lf:=⟨.ret,[.tup [.int .i64 false (.ofNat (lowE l t)),.bool true b]],[],[]⟩
theorem place_end(l:List Xt)(nl:Option Bool)(t:Int):(placeT l nl t).follow [true,false]=some ([placeH l,(decide (zB (lowE l t)<zB l.length),false)],⟨.ret,[.tup [.int .i64 false (.ofNat (lowE l t)),.bool true false]],[],[]⟩):=by kernel_rfl
def placeM(l:List Xt)(t:Int):List (Bool×Bool):=[placeH l,(decide (zB (lowE l t)<zB l.length),true),(decide (0≤zB (lowE l t)),true),(zI (lowE l t) l.length,true),((l.getD (lowE l t) xt0).no != (l.getD (lowE l t) xt0).no,false),(t != t,false)]
theorem place_less(l:List Xt)(nl:Option Bool)(t:Int):(placeT l nl t).follow [true,true,true,true,false,false,true]=some (placeM l t++[(decide ((l.getD (lowE l t) xt0).no<t),true)],placeV l t false):=by kernel_rfl
theorem place_more(l:List Xt)(nl:Option Bool)(t:Int):(placeT l nl t).follow [true,true,true,true,false,false,false,true]=some (placeM l t++[(decide ((l.getD (lowE l t) xt0).no<t),false),(decide ((l.getD (lowE l t) xt0).no>t),true)],placeV l t false):=by kernel_rfl
theorem place_same(l:List Xt)(nl:Option Bool)(t:Int):(placeT l nl t).follow [true,true,true,true,false,false,false,false]=some (placeM l t++[(decide ((l.getD (lowE l t) xt0).no<t),false),(decide ((l.getD (lowE l t) xt0).no>t),false)],placeV l t true):=by kernel_rfl
theorem place_tree(l:List Xt)(nl:Option Bool)(t:Int)(hl:l.length≤1099511627776)(hs:srtL (-1) l=true):∃c,(placeT l nl t).sel=some ⟨.ret,[.tup [.int .i64 false (.ofNat (lowB l t)),.bool c (zbr l t)]],[],[]⟩:=by
 have eE:lowE l t=lowB l t:=by unfold lowE;rw[ls_xt]
 have hh:(placeH l).1=true:=by
  unfold placeH
  simp only[wf_xt,ls_xt,hs,Nat.ble_eq_true_of_le hl]
  simp
 have hh2:((placeH l).1==(placeH l).2)=true:=by rw[hh];rfl
 by_cases h:lowB l t<l.length
 .have hb:zI (lowB l t) l.length=true:=by simpa [zJ]using h
  have tests:((placeM l t).all fun p=>p.1==p.2)=true:=by
   unfold placeM
   rw[eE]
   simp only[zF,zK,zaV,zcb,hb,hh2]
   simp
  cases h1:decide ((l.getD (lowB l t) xt0).no<t)with
  | true=>
   refine⟨true,(zab (place_less l nl t) ?_).trans ?_⟩
   .rw[zM,tests,eE,zF,h1];rfl
   .unfold placeV zbr
    rw[eE,hb,h1]
    rfl
  | false=>
   cases h2:decide ((l.getD (lowB l t) xt0).no>t)with
   | true=>
    refine⟨true,(zab (place_more l nl t) ?_).trans ?_⟩
    .rw[zM,tests,eE,zF,zF,h1,h2];rfl
    .unfold placeV zbr
     rw[eE,hb,h1,h2]
     rfl
   | false=>
    refine⟨true,(zab (place_same l nl t) ?_).trans ?_⟩
    .rw[zM,tests,eE,zF,zF,h1,h2];rfl
    .unfold placeV zbr
     rw[eE,hb,h1,h2]
     rfl
 .have hb:zI (lowB l t) l.length=false:=by
   rw[zQ];intro q;exact h (by simpa [zJ]using q)
  refine⟨true,(zab (place_end l nl t) ?_).trans ?_⟩
  .simp only[zF,zK,eE,zaV,hb,hh2]
   rfl
  .unfold zbr
   rw[eE,hb]
   rfl
theorem place_told{F0:Fz}(hF0:∀b cs t,F0 b=some (cs,t)→t=0):zaA F0 env spE placeF 2000 gPlace:=fun F k h args args' v h0 H hl hg hp=>by
 unfold gPlace at hg
 split at hg
 .rename_i x c t
  split at hg
  .rename_i n nl e hx
   obtain⟨hb,hg⟩:=zb5 hg
   simp only[RT.sel,zC]at hg
   subst hg
   simp only[zG]at hb
   obtain⟨b1,b2,b3⟩:=hb
   have hlen:(lsR xtOf xt0 n e).length=n:=lsR_len
   obtain⟨c2,ht⟩:=place_tree (lsR xtOf xt0 n e) nl t (by rw[hlen];exact zN b1) b3
   refine za3 (k:=k) (TPl_ok hF0) hF0 rfl ht ?_ (.cons (.tup (.cons Wk.int (.cons Wk.bool .nil))) .nil) hp h0 H hl
   refine .cons ?_ (.cons Wk.int .nil)
   have:=slR_wk (row:=xtRow) (d:=xt0) (K:=0) (st:=0) (fun r x=>xt_wk) hx b2 (zD _)
   rw[hlen]
   exact this
  .cases hg
 .cases hg
noncomputable def TE:Told:=(TB.withF mayF (zaq 20000000001000 gMay)).withF placeF (zaq 2000 gPlace)
theorem TE_ok{F0:Fz}(hF0:∀b cs t,F0 b=some (cs,t)→t=0):ToldOk F0 env spE TE:=za7 (za7 TB_ok (may_told hF0)) (place_told hF0)
abbrev stT:TypeId:=64
abbrev opT:TypeId:=106
abbrev nmT:TypeId:=80
abbrev ndT:TypeId:=83
abbrev xtT:TypeId:=136
abbrev Sl:=Nat×Option Bool×(Nat→List SV)
structure RawS where
 cap:Int
 a:Sl
 b:Sl
 c:Sl
 d:Sl
 n:Nat
 m:Nat
 e:Nat→List SV
 made:Int
 armed:Int
 off:Bool
def decS(bs:List SB):Option RawS:=
 match bs with
 | [.lst 9 [[.int .i64 _ cap,x1,x2,x3,x4,.nsl 1 8 _ 0 n z,.int .i64 _ made,.int .i64 _ armed,.bool _ off]] t0,.row 8 m e t1]=>
  (match zA t0 stT&&(zA t1 opT&&zH z 1),slR 2 x1,slR 3 x2,slR 2 x3,slR 3 x4 with
  | true,some a,some b,some c,some d=>some ⟨cap,a,b,c,d,n,m,e,made,armed,off⟩
  | _,_,_,_,_=>none)
 | _=>none
def wfS(r:RawS):Bool:=zA r.n r.m&&(cNm.wf r.a.1 r.a.2.2&&(cNd.wf r.b.1 r.b.2.2&&(cNm.wf r.c.1 r.c.2.2&&(cNd.wf r.d.1 r.d.2.2&&cOp.wf r.n r.e))))
def valS(r:RawS):Sto:=⟨r.cap,⟨cNm.ls r.a.1 r.a.2.2,cNd.ls r.b.1 r.b.2.2⟩,⟨cNm.ls r.c.1 r.c.2.2,cNd.ls r.d.1 r.d.2.2⟩,cOp.ls r.n r.e,r.made,r.armed,r.off⟩
def rowS(st:Nat)(S:Sto):List SV:=[.int .i64 false S.cap,.fsl st 2 S.now.names.length none (cNm.e st S.now.names),.fsl st 3 S.now.nodes.length none (cNd.e st S.now.nodes),.fsl st 2 S.kept.names.length none (cNm.e st S.kept.names),.fsl st 3 S.kept.nodes.length none (cNd.e st S.kept.nodes),
 .nsl 1 8 false 0 S.pend.length 1,.int .i64 false S.made,.int .i64 false S.armed,.bool false S.off]
def bsS(st:Nat)(S:Sto):List SB:=[.lst 9 [rowS st S] stT,.row 8 S.pend.length (cOp.e st S.pend) opT]
theorem row_refl{K st st2:Nat}(h:K≤st2)(S:Sto):WkL K (rowS st S) (rowS st2 S):=
 .cons Wk.int (.cons (cNm.fsl_refl h (.inl rfl)) (.cons (cNd.fsl_refl h (.inl rfl)) (.cons (cNm.fsl_refl h (.inl rfl)) (.cons (cNd.fsl_refl h (.inl rfl)) (.cons (Wk.nsl (zD _)) (.cons Wk.int (.cons Wk.int (.cons Wk.bool .nil))))))))
theorem zcP{K st st2:Nat}(h:K≤st2)(S:Sto):WkBs K (bsS st S) (bsS st2 S):=
 .cons (.lst1 (row_refl h S)) (fun _=>by simp) (.cons (.row (cOp.e_refl h)) (fun _=>by simp) .nil)
theorem zdB{K st:Nat}(h:K≤st){bs:List SB}{r:RawS}(hd:decS bs=some r)(hw:wfS r=true):WkBs K bs (bsS st (valS r)):=by
 unfold decS at hd
 split at hd
 .rename_i c1 cap x1 x2 x3 x4 c2 n z c3 made c4 armed c5 off t0 m e t1
  split at hd
  .rename_i ht h1 h2 h3 h4
   injection hd with hd;subst hd
   simp only[wfS,zG]at hw
   obtain⟨w0,w1,w2,w3,w4,w5⟩:=hw
   have:=zE w0
   subst this
   rw[zG,zG]at ht
   have:=zE ht.1
   subst this
   have:=zE ht.2.1
   subst this
   have hn:(cOp.ls n e).length=n:=cOp.ls_len
   refine .cons (.lst1 (.cons Wk.int (.cons (cNm.sl_none h1 w1 h) (.cons (cNd.sl_none h2 w2 h) (.cons (cNm.sl_none h3 w3 h) (.cons (cNd.sl_none h4 w4 h) (.cons ?_ (.cons Wk.int (.cons Wk.int (.cons Wk.bool .nil)))))))))) (fun _=>by simp) (.cons ?_ (fun _=>by simp) .nil)
   .show Wk K _ (.nsl 1 8 false 0 (cOp.ls n e).length 1)
    rw[hn]
    exact Wk.nsl (zN ht.2.2)
   .show WkB K _ (.row 8 (cOp.ls n e).length (cOp.e st (cOp.ls n e)) opT)
    rw[hn]
    exact .row (cOp.wf_wk h w5)
  .cases hd
 .cases hd
theorem dec_bs(st:Nat)(S:Sto):∃r,decS (bsS st S)=some r∧wfS r=true∧valS r=S:=by
 refine⟨⟨S.cap,(S.now.names.length,none,cNm.e st S.now.names),(S.now.nodes.length,none,cNd.e st S.now.nodes),(S.kept.names.length,none,cNm.e st S.kept.names),(S.kept.nodes.length,none,cNd.e st S.kept.nodes),S.pend.length,S.pend.length,cOp.e st S.pend,S.made,S.armed,S.off⟩,rfl,?_,?_⟩
 .simp only[wfS,cNm.wf_e,cNd.wf_e,cOp.wf_e,Nat.beq_refl];rfl
 .simp only[valS,cNm.ls_e,cNd.ls_e,cOp.ls_e]
def ctV(st:Nat)(size:Int)(l:List Xt):SV:=.agg [.int .i64 false size,.fsl st 9 l.length none (xtE l)]
def ctN(size:Int)(n:Nat):SV:=.agg [.int .i64 false size,.nsl 0 9 false 0 n 1]
structure RawC where
 size:Int
 x:Sl
def decC(v:SV):Option RawC:=match v with|.agg [.int .i64 _ size,x]=>(match slR 9 x with|some r=>some ⟨size,r⟩|none=>none)|_=>none
def RawC.wf(r:RawC):Bool:=zH r.x.1 1099511627776&&cX.wf r.x.1 r.x.2.2
def RawC.l(r:RawC):List Xt:=cX.ls r.x.1 r.x.2.2
theorem RawC.len(r:RawC):r.l.length=r.x.1:=cX.ls_len
theorem ct_wk{K st:Nat}(h:K≤st){v:SV}{r:RawC}(hd:decC v=some r)(hw:r.wf=true):Wk K v (ctV st r.size r.l):=by
 unfold decC at hd
 split at hd
 .rename_i c size x
  split at hd
  .rename_i s hs
   injection hd with hd;subst hd
   unfold RawC.wf at hw
   rw[zG]at hw
   exact .agg (.cons Wk.int (.cons (cX.sl_none hs hw.2 h) .nil))
  .cases hd
 .cases hd
theorem ct_refl{K st st2:Nat}(h:K≤st2){size:Int}{l:List Xt}:Wk K (ctV st size l) (ctV st2 size l):=.agg (.cons Wk.int (.cons (cX.fsl_refl h (.inl rfl)) .nil))
noncomputable def TCl:Told:=((((TE.withF clNm (zan 1000 [] (zdH cNm 80))).withF clNd (zan 1000 [] (zdH cNd 83))).withF clX (zan 1000 [] (zdH cX 136))).withF clB_ (zan 1000 [] (zdH cB 5)))
theorem TCl_ok{F0:Fz}(hF0:∀b cs t,F0 b=some (cs,t)→t=0):ToldOk F0 env spE TCl:=zal (zal (zal (zal (TE_ok hF0) (clNm_told hF0)) (clNd_told hF0)) (clX_told hF0)) (clB_told hF0)
abbrev copiedF:FuncId:=105
abbrev copiedI:FuncId:=49
def dec1C(a:List SV)(b:List SB):Option RawC:=match a,b with|[v],[]=>decC v|_,_=>none
def gCop(k:Nat)(a:List SV)(b:List SB):RT (Left SV):=gSub dec1C RawC.wf (fun k r=>⟨ctN r.size r.x.1,[.row 9 r.x.1 (xtE r.l) xtT],[]⟩) k a b
def gCopI(k:Nat)(a:List SV)(b:List SB):RT (Left SV):=gSub dec1C RawC.wf (fun k r=>⟨ctV (k+1) r.size r.l,[],[]⟩) k a b
noncomputable def copT(z:Bool)(f:FuncId)(size:Int)(l:List Xt):RT Lf:=fnZ z env TCl f 2000 [ctV 0 size l] []
theorem zero_row{α:Type}(C:Cdc α){K st st2 n:Nat}{l l2:List α}(hs:K≤st2)(h:l=l2):WkR K C.k n (fun i=>C.e st l (0+i)) (C.e st2 l2):=C.of_row hs fun i _=>by rw[zO,h];rfl
theorem copI_way(size:Int)(l:List Xt):(copT true copiedI size l).follow [true]=some ([(zH l.length 1099511627776&&cX.wf l.length (xtE l),true)],⟨.ret,[.agg [.int .i64 false size,.fsl 2 9 l.length none (fun i=>cX.e 1 (cX.ls l.length (xtE l)) (0+i))]],[],[]⟩):=by kernel_rfl
theorem cop_way(size:Int)(l:List Xt):(copT false copiedF size l).follow [true]=some ([(zH l.length 1099511627776&&cX.wf l.length (xtE l),true)],⟨.ret,[.agg [.int .i64 false size,.nsl 0 9 false 0 l.length 1]],[.row 9 l.length (cX.e 1 (cX.ls l.length (xtE l))) xtT],[]⟩):=by kernel_rfl
theorem RawC.ok{r:RawC}(h:r.wf=true):(zH r.l.length 1099511627776&&cX.wf r.l.length (xtE r.l))=true:=by
 unfold RawC.wf at h
 rw[zG]at h
 rw[r.len,h.1,←r.len]
 exact wf_xt
theorem copI_told{F0:Fz}(hF0:∀b cs t,F0 b=some (cs,t)→t=0):SubOk F0 env spE copiedI 2000 gCopI:=zaF (z:=true) (TCl_ok hF0) hF0 rfl fun k a b r hd hp=>by
 unfold dec1C at hd
 split at hd
 .rename_i v
  refine⟨[ctV 0 r.size r.l],[],_,.cons (ct_wk (zD _) hd hp) .nil,.nil,zab (copI_way r.size r.l) ?_,?_,.nil,rfl⟩
  .rw[zF,RawC.ok hp];rfl
  .exact .cons (.agg (.cons Wk.int (.cons (.fsl (zD _) (.inl rfl) (zero_row cX (zD _) ls_xt)) .nil))) .nil
 .cases hd
theorem cop_told{F0:Fz}(hF0:∀b cs t,F0 b=some (cs,t)→t=0):SubOk F0 env spE copiedF 2000 gCop:=zaF (z:=false) (TCl_ok hF0) hF0 rfl fun k a b r hd hp=>by
 unfold dec1C at hd
 split at hd
 .rename_i v
  refine⟨[ctV 0 r.size r.l],[],_,.cons (ct_wk (zD _) hd hp) .nil,.nil,zab (cop_way r.size r.l) ?_,?_,?_,rfl⟩
  .rw[zF,RawC.ok hp];rfl
  .exact .cons (.agg (.cons Wk.int (.cons (by rw[r.len];exact Wk.nsl (zD _)) .nil))) .nil
  .refine .cons ?_ (fun _=>by simp) .nil
   rw[←r.len,show cX.ls r.l.length (xtE r.l)=r.l from ls_xt]
   exact .row (cX.e_refl (st:=1) (st2:=k+1) (zD _))
 .cases hd
end Go.Proofs.YtponjccgpbgnoaaGreatDoor.Se
