/- The last of the program's facts that ShredWrong' row asks for. -/
import Derived.Test.YtponjccgpbgnoaaGreatDoorShredWrongL
import Derived.Test.YtponjccgpbgnoaaGreatDoorShredWrongLb
import Derived.Test.YtponjccgpbgnoaaGreatDoorShredWrongLc
import Derived.Test.YtponjccgpbgnoaaGreatDoorShredWrongLf
import Derived.Test.YtponjccgpbgnoaaGreatDoorRows
import Derived.LaidMore
import Derived.Lay
import Derived.SevenTiedAt
import Derived.Test.YtponjccgpbgnoaaGreatDoorCards
import Derived.LaidOnce
import Derived.ProofKit
import Derived.OpenShut
import Derived.Below
import Derived.Test.YtponjccgpbgnoaaGreatDoorTie
import Derived.WalkKit
import Derived.KernelRfl
import Derived.ChangeSlices
import Derived.Carry
set_option linter.unusedVariables false
set_option linter.unusedSimpArgs false
set_option linter.unusedSectionVars false
namespace Go.Proofs.YtponjccgpbgnoaaGreatDoor.shredWrongM
open Go Go.ChangeShapes Go.WideShapes Go.ChangeAt Go.RowKit
theorem joined1:joinedFacts Tryz.prog 3 Tryz.f3 Go.Proofs.YtponjccgpbgnoaaGreatDoor.Rows.shredWrongSpec Go.Proofs.YtponjccgpbgnoaaGreatDoor.Rows.shredWrongRow=true:=by
 unfold joinedFacts
 exact (band (band (band (band (band (band (band (band (band (band (band (band (band (band (band (band (band (band (band (band (band (band (band (band (band (band (band (band (band (band (band limb0 limb1) limb2) limb3) limb4) limb5) limb6) limb7) limb8) limb9) limb10) limb11) limb12) (by kernel_rfl)) (by kernel_rfl)) (by kernel_rfl)) (by kernel_rfl)) (by kernel_rfl)) (by kernel_rfl)) (by kernel_rfl)) (by kernel_rfl)) (by kernel_rfl)) limb22) (by kernel_rfl)) limb24) limb25) limb26) limb27) (by kernel_rfl)) (by kernel_rfl)) (by kernel_rfl)) (by kernel_rfl))
end Go.Proofs.YtponjccgpbgnoaaGreatDoor.shredWrongM
namespace Go.Proofs.YtponjccgpbgnoaaGreatDoor.shredWrong
open Go.Proofs.YtponjccgpbgnoaaGreatDoor.shredWrongM
open Go.ChangeShapes Go.WideShapes Go.ChangeAt Go.RowKit
theorem byte_cells:Tryz.prog.cellsOf 5=1:=by kernel_rfl
set_option maxRecDepth 100000 in
theorem bys_of {H:Type} {enc:TypeId×Value→H} {w:World} {sp:Nat→Bool} {held:Bool} {v:Value} {d:DataW H} {ps:List MemPlace} {r:Reach} {b0:Nat} (hval:Value.okWide Tryz.prog w r b0 22 v) (h:DataW.Trod enc Tryz.prog w 0 sp held 22 v d ps):Bys w v:=by
 obtain ⟨a',n',c',rfl⟩:=okWide_slice Tryz.underlying22 hval
 obtain ⟨fuel,hf⟩:=h
 rcases open_ints Tryz.underlying22 Tryz.underlying5 byte_cells hf with ⟨hc,_⟩|⟨a,len,cap,zs,hc,_,hle,_,hlen,_,hat,hwf⟩
 ·obtain ⟨rfl,rfl,rfl⟩:a'=none∧n'=0∧c'=0:=by simpa [Value.cells] using hc
  exact .inl rfl
 ·obtain ⟨rfl,rfl,rfl⟩:a'=some a∧n'=len∧c'=cap:=by simpa [Value.cells] using hc
  rcases Nat.eq_zero_or_pos n' with h0|h0
  ·subst h0;exact .inr (.inl ⟨a,c',rfl⟩)
  ·have hll:n'≤zs.length:=by rw [hlen];split<;>omega
   have cell:∀ i,i<n'→∃ cc t fr,w.heap[a.block]?=some (.cells cc t fr)∧a.spot=none∧cc[a.off+i]?=some (.int .u8 (zs.getD i 0)):=fun i hi=>by
    have h1:=hat i (by omega)
    have h2:=hat 0 (by omega)
    have ea:a.add 0=a:=rfl
    rw [ea] at h2
    unfold World.cell? at h1 h2
    have eb:(a.add i).block=a.block:=by unfold Addr.add;split<;>rfl
    rw [eb] at h1
    split at h2
    ·rename_i cc t fr hh
     rw [hh] at h1
     simp only at h1
     cases hsp:a.spot with
     | some x=>rw [hsp] at h2;simp at h2
     | none=>
      refine ⟨cc,t,fr,hh,rfl,?_⟩
      have e1:(a.add i).spot=none:=by unfold Addr.add;split;exact hsp;rfl
      have e2:(a.add i).off=a.off+i:=by unfold Addr.add;split;omega;rfl
      rw [e1,e2] at h1
      simpa using h1
    ·cases h2
   obtain ⟨cc,t,fr,hh,hsp,_⟩:=cell 0 h0
   obtain ⟨b,o,sp'⟩:=a
   obtain rfl:sp'=none:=hsp
   have all:∀ i,i<n'→cc[o+i]?=some (.int .u8 (zs.getD i 0)):=fun i hi=>by
    obtain ⟨cc2,t2,fr2,hh2,_,hc2⟩:=cell i hi
    rw [hh] at hh2
    cases hh2
    exact hc2
   refine .inr (.inr ⟨b,o,n',c',(zs.take n').map fun z=>UInt8.ofNat z.toNat,cc,t,fr,rfl,h0,hle,hh,?_,by simp;omega,fun i hi=>?_⟩)
   ·have:=(Array.getElem?_eq_some_iff.1 (all (n'-1) (by omega))).1
    omega
   ·rw [all i hi]
    have hi2:i<zs.length:=by omega
    have e1:zs.getD i 0=zs[i]:=by simp [List.getD,List.getElem?_eq_getElem hi2]
    have hz:=hwf _ (List.getElem_mem hi2)
    have hz:0≤zs[i]∧zs[i]≤255:=by
     simpa only [Lit.wf,Bool.and_eq_true,decide_eq_true_eq,show IntKind.u8.min=0 from rfl,show IntKind.u8.max=255 from rfl] using hz
    have e2:((zs.take n').map fun z=>UInt8.ofNat z.toNat).getD i 0=UInt8.ofNat zs[i].toNat:=by
     simp [List.getD,List.getElem?_take,hi,List.getElem?_eq_getElem hi2]
    rw [e1,e2]
    congr 2
    rw [UInt8.toNat_ofNat']
    simp only [Int.ofNat_eq_natCast]
    omega
theorem own:ownKnob Tryz.prog.godebug=none:=by kernel_rfl
set_option maxRecDepth 100000 in
theorem lifted (os:Os) (started:os.Started) (H:Type) (enc:TypeId×Value→H) :
  ReturnsInHanded {} Tryz.checked os 3 .any (fun w args=>(Go.Proofs.YtponjccgpbgnoaaGreatDoor.Rows.shredWrongSpec.pre enc Tryz.prog Tryz.f3 [] false w args∧laidMetH Tryz.prog laid w)∧sizedMet enc Tryz.prog Tryz.f3 (OpenSpec.ofChange Go.Proofs.YtponjccgpbgnoaaGreatDoor.Rows.shredWrongSpec) false w args)
   (Go.Proofs.YtponjccgpbgnoaaGreatDoor.Rows.shredWrongSpec.post enc Tryz.prog Tryz.f3 false true false false):=by
 refine returnsInHanded_of_change_and (C:=Tryz.checked) (X:=fun w _=>laidMetH Tryz.prog laid w) (fun _ _ _ hh h=>h.of_heap hh) own started (by kernel_rfl) Tryz.func3
  (ChangeSpec.witness_shaped (enc:=enc) (C:=Tryz.checked) (os:=os) (X:=fun w _=>laidMetH Tryz.prog laid w) false (World.laidAll Tryz.prog os laid) #[.int .u8 0,.slice none 0 0] 8 (World.laidAll_os _ _ _)
   (World.shaped_of_ZipB (shape1 os) (shape2 os)) (by kernel_rfl) (by kernel_rfl) (by kernel_rfl)
   (by rw [MakeChecks.laidMetH_plain _ _ _ (by kernel_rfl)];exact laidMet_laidAll _ (met1 os) (met2 os))) ?_
 intro W base args ds gs before hval0 hW _ _ hL _
 have hval:∀ (j:Nat) t v,Tryz.f3.params[j]?=some t→args[j]?=some v→Value.okWide Tryz.prog W .any base t v:=hval0
 have hW':=hW
 obtain ⟨p,q,hA0,hV,rfl,_,_⟩:=hW
 have hA:DataW.TrodAll enc Tryz.prog W 0 (fun _=>true) true Tryz.f3.params.toList args.toList ds p:=hA0
 rw [Tryz.params3] at hA hval
 obtain ⟨v0,vs0,d0,ds0,p0,q0,hargs,rfl,rfl,h0,r0⟩:=trodAll_cons hA
 obtain ⟨v1,vs1,d1,ds1,p1,q1,rfl,rfl,rfl,h1,r1⟩:=trodAll_cons r0
 obtain ⟨rfl,rfl,rfl⟩:=trodAll_nil r1
 obtain rfl:args=#[v0,v1]:=by cases args;simp_all
 obtain ⟨rfl,rfl⟩:=trodVars_none hV
 obtain ⟨a0,rfl,rfl,rfl,w0⟩:=open_int Tryz.underlying5 (hval 0 5 v0 rfl rfl) h0
 have hb:Bys W v1:=bys_of (hval 1 22 v1 rfl rfl) h1
 clear hA0 hval0
 simp only [List.append_nil] at hW'
 have hlt:=hW'.lt
 have b0:0≤a0∧a0≤255:=by
  simpa only [Lit.wf,Bool.and_eq_true,decide_eq_true_eq,show IntKind.u8.min=0 from rfl,show IntKind.u8.max=255 from rfl] using w0
 obtain ⟨n,rfl⟩:∃ n:Nat,a0=Int.ofNat n:=⟨a0.toNat,by simp only [Int.ofNat_eq_natCast];omega⟩
 rw [MakeChecks.laidMetH_plain _ _ _ (by kernel_rfl)] at hL
 obtain ⟨ps,hps,_⟩:=hL
 refine (shredWrongM.walk hps (by simp only [Int.ofNat_eq_natCast] at b0;omega) hb).mono fun e W' ⟨he,hb⟩=>?_
 subst he
 refine ⟨_,rfl,_,_,_,[],_,[],hW',trodAll_mk1 (shut_bool Tryz.underlying4 _),(trodAll_cons_mk (shut_int Tryz.underlying5 w0) (trodAll_cons_mk (Below.trod limb1 (by kernel_rfl) (of_decide_eq_true (by kernel_rfl)) h1 hb (fun x hx=>hlt x ?_)) trodAll_mk0)),rfl,hb.frame _,fun h=>by cases h⟩
 simp only [List.mem_append,List.append_nil,List.nil_append] at hx ⊢;simp [hx]
theorem over:Go.Proofs.YtponjccgpbgnoaaGreatDoor.Rows.shredWrongRow.holds Tryz.pinned (OpenSpec.ofChange Go.Proofs.YtponjccgpbgnoaaGreatDoor.Rows.shredWrongSpec):=
 OpenClaim.holds_of_wide 3 Tryz.f3 rfl rfl rfl rfl rfl rfl rfl ⟨rfl,rfl,rfl,rfl,rfl⟩ rfl rfl rfl rfl rfl named1 Tryz.func3 joined1
  (of_decide_eq_true (by kernel_rfl)) (by unfold Func.isWrapper;first|(rw [if_pos (by decide +kernel)];kernel_rfl)|(rw [if_neg (by decide +kernel)];exact ⟨rfl,rfl⟩))
  (fun os started H enc _=>lifted os started H enc)
theorem proved:Go.Proofs.YtponjccgpbgnoaaGreatDoor.Rows.ShredWrongCardSaid:=
 Claim7.holds_tied_plain_at .later [] [.data,.data,.data,.data,.sentinel,.sentinel,.pinned] true (true,"04f9594354cae27dc5441215c7c9cbc6178831e89c60a755bb84ccac3eff6356") true over (fun _ h=>by cases h) text1 (fun _ h=>by cases h) Go.Proofs.YtponjccgpbgnoaaGreatDoor.shredWrong_row_tie rfl ⟨rfl,rfl⟩ main1 rfl
  (fun f fn hf hfn=>by
   obtain rfl:f=3:=Option.some.inj (named1.symm.trans hf) |>.symm
   obtain rfl:fn=Tryz.f3:=(Option.some.inj (Tryz.func3.symm.trans hfn)).symm
   exact ⟨looks1,fun j t ht=>by
    rw [Tryz.params3] at ht
    rcases j with _|_|_|_|_<;>simp at ht<;>(subst ht;kernel_rfl)⟩)
  goes1
#print axioms proved
end Go.Proofs.YtponjccgpbgnoaaGreatDoor.shredWrong
