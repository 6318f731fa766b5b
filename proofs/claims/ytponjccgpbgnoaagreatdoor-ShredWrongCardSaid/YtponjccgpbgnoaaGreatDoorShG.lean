/- ShredWrong: each way's tests hold. -/
import Derived.Test.YtponjccgpbgnoaaGreatDoorShB
set_option linter.unusedVariables false
set_option linter.unusedSimpArgs false
set_option linter.unusedSectionVars false
namespace Go.Proofs.YtponjccgpbgnoaaGreatDoor.Se
open Go Go.Proofs.YtponjccgpbgnoaaGreatDoor Go.RowKit
set_option maxRecDepth 1000000
variable [Inhabited QI]
theorem rawI_I (st:Nat) (I:Img):(rawI st I).I=I:=I_imV st I
theorem rawI_w (st:Nat) (I:Img):(rawI st I).wf=true:=wf_imV st I
theorem viewI_e (st:Nat) (I:Img):viewI st I=rawI st I:=by
 unfold viewI rawI
 simp only [Nat.zero_add]
theorem fit_one {size:Int} {l:List Xt} (h:l.length≤137438953472):FitI (oneI [97] 1 size l):=⟨by show 1≤65536;decide,by show 1≤65536;decide,fun x hx=>by
 have:x=⟨1,size,l⟩:=by simpa [oneI] using hx
 subst this
 show l.length≤_
 omega⟩
theorem sa_one {size:Int} {l:List Xt} (h:l.length≤137438953472):SaOk (oneI [97] 1 size l):=⟨by show 1≤100000;decide,⟨by show 1≤100000;decide,fun k hk=>by
 have:k=0:=by simpa [oneI] using hk
 subst this
 exact h⟩⟩
theorem shI_e {b:List UInt8} (hb:b.length≤4096):shI b=oneI [97] 1 b.length (zak b):=by
 unfold shI
 rw [pu4_e (by decide) (by decide) hb]
 rfl
theorem shCp {b:List UInt8} (hb:b.length≤4096):((rawI 5 (shI b)).wf&&tt (FitI (rawI 5 (shI b)).I))=true:=by
 rw [rawI_w,rawI_I,shI_e hb,tt_t (fit_one (by rw [zaY];omega))];rfl
theorem shA_ok {w:Nat} {b:List UInt8} (hb:b.length≤100):eqs_ (shA w b)=true:=by
 unfold shA
 exact zaa (df (by simp only [Int.ofNat_eq_natCast];omega)) (zae (puTests_ok (by decide) (by decide) (by omega) (by omega)) (zaa (shCp (by omega)) zac))
theorem shE_ok {st:Nat} {b:List UInt8} (hb:b.length≤100):eqs_ (shEe st b)=true:=by
 unfold shEe
 refine zaa (shCp (by omega)) (zaa ?_ (zaa rfl zac))
 rw [viewI_e,viewI_e,rawI_I]
 unfold saPre
 simp only [rawI_w,rawI_I,Bool.true_and]
 rw [shI_e (by omega)]
 exact tt_t ⟨trivial,sa_one (by rw [zaY];omega)⟩
theorem shX_e {w:Nat} (hw:w<256):shX w=((w % 12:Nat):Int):=by
 unfold shX
 rw [IntWalk.i64_in _ (by simp only [Int.ofNat_eq_natCast];omega)]
 rfl
theorem shQ_ok {w i:Nat} (hw:w<256) (hi:w % 12=i):eqs_ (shQw w i)=true:=by
 unfold shQw
 rw [shX_e hw,hi]
 refine zaa (dt (by omega)) (zae ?_ (zaa ?_ zac))
 ·show ((List.range i).map _).all _=true
  rw [List.all_eq_true]
  intro p hp
  obtain ⟨j,hj,rfl⟩:=List.mem_map.1 hp
  have:=List.mem_range.1 hj
  have e:Nat.beq ((i:Nat):Int).toNat j=false:=by
   rw [Bool.eq_false_iff]
   intro q
   have:=Nat.eq_of_beq_eq_true q
   simp at this
   omega
  rw [e];rfl
 ·rw [Int.toNat_natCast];exact Nat.beq_refl _
theorem sh_true {w:Nat} {b:List UInt8} (hw:w<256) (hb:b.length≤100):∃ c sh,(shT w b).sel=some (.bool c true,sh):=by
 have h12:w % 12<12:=Nat.mod_lt _ (by decide)
 rcases (show w % 12=0∨w % 12=1∨w % 12=2∨w % 12=3∨w % 12=4∨w % 12=5∨w % 12=6∨w % 12=7∨w % 12=8∨w % 12=9∨w % 12=10∨w % 12=11 by omega) with h|h|h|h|h|h|h|h|h|h|h|h
 ·exact za7 (sh_0 w b) (zae (shA_ok hb) (zae (shQ_ok hw h) (shE_ok hb)))
 ·exact za7 (sh_1 w b) (zae (shA_ok hb) (zae (shQ_ok hw h) (shE_ok hb)))
 ·exact za7 (sh_2 w b) (zae (shA_ok hb) (zae (shQ_ok hw h) (zae rfl (shE_ok hb))))
 ·exact za7 (sh_3 w b) (zae (shA_ok hb) (zae (shQ_ok hw h) (zae rfl (shE_ok hb))))
 ·exact za7 (sh_4 w b) (zae (shA_ok hb) (zae (shQ_ok hw h) (shE_ok hb)))
 ·exact za7 (sh_5 w b) (zae (shA_ok hb) (zae (shQ_ok hw h) (zae rfl (shE_ok hb))))
 ·exact za7 (sh_6 w b) (zae (shA_ok hb) (zae (shQ_ok hw h) (zae rfl (shE_ok hb))))
 ·exact za7 (sh_7 w b) (zae (shA_ok hb) (zae (shQ_ok hw h) (zae rfl (shE_ok hb))))
 ·exact za7 (sh_8 w b) (zae (shA_ok hb) (zae (shQ_ok hw h) (shE_ok hb)))
 ·exact za7 (sh_9 w b) (zae (shA_ok hb) (zae (shQ_ok hw h) (shE_ok hb)))
 ·exact za7 (sh_10 w b) (zae (shA_ok hb) (zae (shQ_ok hw h) (shE_ok hb)))
 ·exact za7 (sh_11 w b) (zae (shA_ok hb) (zae (shQ_ok hw h) (shE_ok hb)))
end Go.Proofs.YtponjccgpbgnoaaGreatDoor.Se
