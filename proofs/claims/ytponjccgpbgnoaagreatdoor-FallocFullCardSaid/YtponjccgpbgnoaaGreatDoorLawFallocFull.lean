/- The last of the program's facts that FallocFull' row asks for. -/
import Derived.Test.YtponjccgpbgnoaaGreatDoorFallocFullL
import Derived.Test.YtponjccgpbgnoaaGreatDoorFallocFullLb
import Derived.Test.YtponjccgpbgnoaaGreatDoorFallocFullLc
import Derived.Test.YtponjccgpbgnoaaGreatDoorFallocFullLf
import Derived.Test.YtponjccgpbgnoaaGreatDoorRows
import Derived.LaidMore
import Derived.Lay
import Derived.SevenTiedAt
import Derived.Test.YtponjccgpbgnoaaGreatDoorCards
import Derived.LaidOnce
import Derived.ProofKit
import Derived.OpenShut
import Derived.Below
import Derived.Test.YtponjccgpbgnoaaGreatDoorTie
import Derived.WalkKit
import Derived.KernelRfl
import Derived.ChangeSlices
import Derived.Carry
set_option linter.unusedVariables false
set_option linter.unusedSimpArgs false
set_option linter.unusedSectionVars false
open Bool renaming and_eq_true→zA
open Option.some renaming inj→zB
namespace Go.Proofs.YtponjccgpbgnoaaGreatDoor.fallocFullM
open Go Go.ChangeShapes Go.WideShapes Go.ChangeAt Go.RowKit
theorem joined1:joinedFacts Tryz.prog 5 Tryz.f5 Go.Proofs.YtponjccgpbgnoaaGreatDoor.Rows.fallocFullSpec Go.Proofs.YtponjccgpbgnoaaGreatDoor.Rows.fallocFullRow=true:=by
 unfold joinedFacts
 exact(band (band (band (band (band (band (band (band (band (band (band (band (band (band (band (band (band (band (band (band (band (band (band (band (band (band (band (band (band (band (band limb0 limb1) limb2) limb3) limb4) limb5) limb6) limb7) limb8) limb9) limb10) limb11) limb12) (by kernel_rfl)) (by kernel_rfl)) (by kernel_rfl)) (by kernel_rfl)) (by kernel_rfl)) (by kernel_rfl)) (by kernel_rfl)) (by kernel_rfl)) (by kernel_rfl)) limb22) (by kernel_rfl)) limb24) limb25) limb26) limb27) (by kernel_rfl)) (by kernel_rfl)) (by kernel_rfl)) (by kernel_rfl))
end Go.Proofs.YtponjccgpbgnoaaGreatDoor.fallocFullM
namespace Go.Proofs.YtponjccgpbgnoaaGreatDoor.fallocFull
open Go.Proofs.YtponjccgpbgnoaaGreatDoor.fallocFullM Go.Proofs.YtponjccgpbgnoaaGreatDoor.Se
open Go.ChangeShapes Go.WideShapes Go.ChangeAt Go.RowKit
theorem own:ownKnob Tryz.prog.godebug=none:=by kernel_rfl
set_option maxRecDepth 100000 in
theorem lifted(os:Os)(started:os.Started)(H:Type)(enc:TypeId×Value→H) :
  ReturnsInHanded {} Tryz.checked os 5 .any (fun w args=>(Go.Proofs.YtponjccgpbgnoaaGreatDoor.Rows.fallocFullSpec.pre enc Tryz.prog Tryz.f5 [] false w args∧laidMetH Tryz.prog laid w)∧sizedMet enc Tryz.prog Tryz.f5 (OpenSpec.ofChange Go.Proofs.YtponjccgpbgnoaaGreatDoor.Rows.fallocFullSpec) false w args)
   (Go.Proofs.YtponjccgpbgnoaaGreatDoor.Rows.fallocFullSpec.post enc Tryz.prog Tryz.f5 false true false false):=by
 refine returnsInHanded_of_change_and (C:=Tryz.checked) (X:=fun w _=>laidMetH Tryz.prog laid w) (fun _ _ _ hh h=>h.of_heap hh) own started (by kernel_rfl) Tryz.func5
  (ChangeSpec.witness_shaped (enc:=enc) (C:=Tryz.checked) (os:=os) (X:=fun w _=>laidMetH Tryz.prog laid w) false (World.laidAll Tryz.prog os laid) #[.slice none 0 0,.int .u8 0,.int .u8 0,.int .u8 0] 8 (World.laidAll_os _ _ _)
   (World.shaped_of_ZipB (shape1 os) (shape2 os)) (by kernel_rfl) (by kernel_rfl) (by kernel_rfl)
   (by rw[MakeChecks.laidMetH_plain _ _ _ (by kernel_rfl)];exact laidMet_laidAll _ (met1 os) (met2 os))) ?_
 intro W base args ds gs before hval0 hW _ _ hL _
 have hval:∀(j:Nat) t v,Tryz.f5.params[j]?=some t→args[j]?=some v→Value.okWide Tryz.prog W .any base t v:=hval0
 have hW':=hW
 obtain⟨p,q,hA0,hV,rfl,_,_⟩:=hW
 have hA:DataW.TrodAll enc Tryz.prog W 0 (fun _=>true) true Tryz.f5.params.toList args.toList ds p:=hA0
 rw[Tryz.params5]at hA hval
 obtain⟨v0,vs0,d0,ds0,p0,q0,hargs,rfl,rfl,h0,r0⟩:=trodAll_cons hA
 obtain⟨v1,vs1,d1,ds1,p1,q1,rfl,rfl,rfl,h1,r1⟩:=trodAll_cons r0
 obtain⟨v2,vs2,d2,ds2,p2,q2,rfl,rfl,rfl,h2,r2⟩:=trodAll_cons r1
 obtain⟨v3,vs3,d3,ds3,p3,q3,rfl,rfl,rfl,h3,r3⟩:=trodAll_cons r2
 obtain⟨rfl,rfl,rfl⟩:=trodAll_nil r3
 obtain rfl:args=#[v0,v1,v2,v3]:=by cases args;simp_all
 obtain⟨rfl,rfl⟩:=trodVars_none hV
 have hb:Bys W v0:=bys_of (hval 0 22 v0 rfl rfl) h0
 obtain⟨a1,rfl,rfl,rfl,w1⟩:=open_int Tryz.underlying5 (hval 1 5 v1 rfl rfl) h1
 obtain⟨a2,rfl,rfl,rfl,w2⟩:=open_int Tryz.underlying5 (hval 2 5 v2 rfl rfl) h2
 obtain⟨a3,rfl,rfl,rfl,w3⟩:=open_int Tryz.underlying5 (hval 3 5 v3 rfl rfl) h3
 clear hA0 hval0
 simp only[List.append_nil]at hW'
 have hlt:=hW'.lt
 have u8:∀ {a:Int},IntKind.u8.min≤a∧a≤IntKind.u8.max→∃n:Nat,a=Int.ofNat n∧n<256:=fun {a} h=>by
  simp only[show IntKind.u8.min=0 from rfl,show IntKind.u8.max=255 from rfl]at h
  exact⟨a.toNat,by simp only[Int.ofNat_eq_natCast];omega,by omega⟩
 obtain⟨room,rfl,l1⟩:=u8 (by simpa only[Lit.wf,zA,decide_eq_true_eq]using w1)
 obtain⟨pos,rfl,l2⟩:=u8 (by simpa only[Lit.wf,zA,decide_eq_true_eq]using w2)
 obtain⟨n,rfl,l3⟩:=u8 (by simpa only[Lit.wf,zA,decide_eq_true_eq]using w3)
 rw[MakeChecks.laidMetH_plain _ _ _ (by kernel_rfl)]at hL
 obtain⟨ps,hps,_⟩:=hL
 refine(fallocFullM.walk hps l1 l2 l3 hb).mono fun e W' ⟨he,hb⟩=>?_
 subst he
 refine⟨_,rfl,_,_,_,[],_,[],hW',trodAll_mk1 (shut_bool Tryz.underlying4 _),(trodAll_cons_mk (Below.trod limb1 (by kernel_rfl) (of_decide_eq_true (by kernel_rfl)) h0 hb (fun x hx=>hlt x ?_)) (trodAll_cons_mk (shut_int Tryz.underlying5 w1) (trodAll_cons_mk (shut_int Tryz.underlying5 w2) (trodAll_cons_mk (shut_int Tryz.underlying5 w3) trodAll_mk0)))),rfl,hb.frame _,fun h=>by cases h⟩
 first|exact hx|exact List.mem_append_left _ hx|exact List.mem_append_right _ hx|(simp only[List.mem_append];simp[hx])|(trace_state;simp_all)
theorem over:Go.Proofs.YtponjccgpbgnoaaGreatDoor.Rows.fallocFullRow.holds Tryz.pinned (OpenSpec.ofChange Go.Proofs.YtponjccgpbgnoaaGreatDoor.Rows.fallocFullSpec):=
 OpenClaim.holds_of_wide 5 Tryz.f5 rfl rfl rfl rfl rfl rfl rfl ⟨rfl,rfl,rfl,rfl,rfl⟩ rfl rfl rfl rfl rfl named1 Tryz.func5 joined1
  (of_decide_eq_true (by kernel_rfl)) (by unfold Func.isWrapper;first|(rw[if_pos (by decide +kernel)];kernel_rfl)|(rw[if_neg (by decide +kernel)];exact⟨rfl,rfl⟩))
  (fun os started H enc _=>lifted os started H enc)
theorem proved:Go.Proofs.YtponjccgpbgnoaaGreatDoor.Rows.FallocFullCardSaid:=
 Claim7.holds_tied_plain_at .later [] [.data,.data,.data,.data,.sentinel,.sentinel,.pinned] true (true,"04f9594354cae27dc5441215c7c9cbc6178831e89c60a755bb84ccac3eff6356") true over (fun _ h=>by cases h) text1 (fun _ h=>by cases h) Go.Proofs.YtponjccgpbgnoaaGreatDoor.fallocFull_row_tie rfl ⟨rfl,rfl⟩ main1 rfl
  (fun f fn hf hfn=>by
   obtain rfl:f=5:=zB (named1.symm.trans hf) |>.symm
   obtain rfl:fn=Tryz.f5:=(zB (Tryz.func5.symm.trans hfn)).symm
   exact⟨looks1,fun j t ht=>by
    rw[Tryz.params5]at ht
    rcases j with _|_|_|_|_|_<;>simp at ht<;>(subst ht;kernel_rfl)⟩)
  goes1
#print axioms proved
end Go.Proofs.YtponjccgpbgnoaaGreatDoor.fallocFull
