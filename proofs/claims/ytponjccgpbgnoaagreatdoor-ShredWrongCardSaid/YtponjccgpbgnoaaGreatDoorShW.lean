/- ShredWrong: the call returns true, whatever its arguments. -/
import Derived.Test.YtponjccgpbgnoaaGreatDoorShG
import Derived.Test.YtponjccgpbgnoaaGreatDoorShR
import Derived.Test.YtponjccgpbgnoaaGreatDoorSeU
import Derived.Test.YtponjccgpbgnoaaGreatDoorRows
set_option linter.unusedVariables false
set_option linter.unusedSimpArgs false
set_option linter.unusedSectionVars false
namespace Go.Proofs.YtponjccgpbgnoaaGreatDoor.shredWrongM
open Go Go.RowKit Go.ChangeShapes Go.WideShapes Go.ChangeAt Go.Proofs.YtponjccgpbgnoaaGreatDoor.Se
set_option maxRecDepth 100000
noncomputable instance qiTop:Inhabited QI:=⟨qi1⟩
def laid:List (String×DataW Unit):=Go.Proofs.YtponjccgpbgnoaaGreatDoor.Rows.shredWrongRow.laid
def isE (p:String×DataW Unit):Bool:=p.1== "strconv.ErrSyntax"
def laidE:List (String×DataW Unit):=laid.filter isE
noncomputable abbrev gs:List (Nat×List Value):=laidGs Tryz.prog laidE
theorem gs_lt:∀ g c,(g,c)∈gs→g<Tryz.prog.globals.size:=fun g c hm=>by
 have h1:gs.all (fun p=>Nat.blt p.1 Tryz.prog.globals.size)=true:=by kernel_rfl
 have h2:=List.all_eq_true.1 h1 _ hm
 simpa [Nat.blt_eq] using h2
theorem room1:Tryz.prog.globals.size+1+9000000000000000000≤9223372036854775808:=of_decide_eq_true (by kernel_rfl)
theorem few:Tryz.prog.globals.size≤9223372036854775808:=of_decide_eq_true (by kernel_rfl)
theorem lt63:Tryz.prog.globals.size<9223372036854775808:=of_decide_eq_true (by kernel_rfl)
theorem gs_lt63:∀ g c,(g,c)∈gs→g<9223372036854775808:=fun g c hm=>Nat.lt_of_lt_of_le (gs_lt g c hm) few
theorem F0_syn:allF ⟨Tryz.prog.globals.size,gsTr gs⟩ Tryz.synG=some ([.complex .f32 0 0],0):=by kernel_rfl
theorem zero_of {h:Hp}:∀ b cs t,allF h b=some (cs,t)→t=0:=fun b cs t e=>(allF_inv e).1
theorem told {F0:Se.Fz} (hF0:∀ b cs t,F0 b=some (cs,t)→t=0) (hP:F0 Tryz.synG=some ([.complex .f32 0 0],0)):ToldQ (Top F0) env (@spE ⟨qi1⟩) TSh:=by
 have h1:ToldQ (Top F0) env spE TNw:=(TNw_ok hF0).le fun F h q=>q.le
 have h2:ToldQ (Top F0) env spE TTop:=withF_okQ h1 fun args sh v sh' F ι h args' b h0 H hl hs=>sub_relQ top_steps (in_sub hF0) h0 H hl hs
 have h3:=withF_okQ (f:=69) (q:=zaq 0 gFindK) h2 fun args sh v sh' F ι h args' b h0 H hl hs=>told_rel find_plainK h0.le H hl hs
 have h4:=withF_okQ (f:=toeF) (q:=zaq 0 gToe) h3 fun args sh v sh' F ι h args' b h0 H hl hs=>told_rel (toe_plain hP) h0.le H hl hs
 exact withF_okQ (f:=7) (q:=zaq 0 gTrue) h4 fun args sh v sh' F ι h args' b h0 H hl hs=>told_rel (run_plain (by unfold spE;rfl) shredRuns_true) h0.le H hl hs
theorem top_all {h:Hp} (hro:∀ b x,h.get b=some x→¬ x.mine):Top (allF h) (allF h) h:=⟨Se.Fz.le.refl _,fun b cs e=>e,fun b cs e=>by
 obtain ⟨_,h1,e2,x2,ro2,h2⟩:=allF_inv e
 cases ro2 with
 | true=>exact ⟨_,_,h2⟩
 | false=>exact absurd trivial (hro _ _ h2)⟩
theorem sh_big (n:Nat) (b:List UInt8):zbX (shT n b) [true]=some [(decide (Int.ofNat b.length>Int.ofNat 100),true)]:=by kernel_rfl
theorem sh_all {n:Nat} (hn:n<256) (b:List UInt8):∃ c sh,(shT n b).sel=some (.bool c true,sh):=by
 by_cases hb:b.length≤100
 ·exact sh_true hn hb
 ·exact za7 (sh_big n b) (zaa (dt (by simp only [Int.ofNat_eq_natCast];omega)) zac)
theorem says {β:Bt} {h:Hp} {w:World} (H:HR Tryz.prog β h w) (hro:∀ b x,h.get b=some x→¬ x.mine) (hc:h.next+9000000000000000000≤9223372036854775808) (hP:allF h Tryz.synG=some ([.complex .f32 0 0],0)) (hgb:∀ g,g<Tryz.prog.globals.size→β g=some ⟨g,0,0⟩)
  {n:Nat} (hn:n<256) {b:List UInt8} {u v:Value} (h1:VRs (allF h) Im0 (.fsl 0 1 b.length none (byE b)) u) (h2:VR β u v) :
  Calls Tryz.prog 3 #[.int .u8 (Int.ofNat n),v] w fun e w'=>e=.returned (.bool true)∧Below w.heap.size w w':=by
 obtain ⟨c,sh',hsel⟩:=sh_all hn b
 unfold shT at hsel
 exact se_trueQ (args':=[.int .u8 (Int.ofNat n),v]) (by with_reducible exact sp1_ok) top_steps (told zero_of hP) H hro hc (top_all hro) hgb
  (.cons (.int ..) (.cons h1 (.nil ..))) (LR.cons (.int ..) (LR.cons h2 (LR.nil _))) hsel
def Bys (w:World) (v:Value):Prop:=v=.slice none 0 0∨(∃ a cap,v=.slice (some a) 0 cap)∨
 ∃ (b o n cap:Nat) (bs:List UInt8) (cc:Array Value) (t:TypeId) (fr:Nat×Nat),v=.slice (some ⟨b,o,none⟩) n cap∧0<n∧n≤cap∧w.heap[b]?=some (.cells cc t fr)∧o+n≤cc.size∧bs.length=n∧
  ∀ i,i<n→cc[o+i]?=some (.int .u8 (Int.ofNat (bs.getD i 0).toNat))
theorem argF {P:Program} (h:P.globals.size<9223372036854775808) {cs:List Value} (hone:ones_ cs=true) (t:Tr Blk):allF ⟨P.globals.size+1,t.set 24 P.globals.size (.cells cs 0 false true)⟩ P.globals.size=some (cs,0):=allF_of (e:=0) (x:=false) (ro:=true) (by
   unfold Hp.get
   simp only
   rw [Tr.get_set _ _ _ _ _ (by omega),if_pos rfl]) hone
theorem argB_at (n:Nat) (i:Info):argB n i n=some i:=if_pos rfl
theorem argB_lt (n:Nat) (i:Info) (g:Nat) (hg:g<n):argB n i g=some ⟨g,0,0⟩:=by
 unfold argB;rw [if_neg (by omega)];exact if_pos hg
theorem slice_vr (n0:Nat) (b o n cap:Nat) (hcap:n≤cap):VR (argB n0 ⟨b,o,cap-n⟩) (.slice (some ⟨n0,0,none⟩) n n) (.slice (some ⟨b,o,none⟩) n cap):=by
 have:=VR.slice (β:=argB n0 ⟨b,o,cap-n⟩) (b:=n0) (i:=⟨b,o,cap-n⟩) 0 n n (argB_at _ _)
 simp only [Nat.add_zero] at this
 rw [show n+(cap-n)=cap by omega] at this
 exact this
theorem walk {w:World} {ps:List MemPlace} (hL:DataW.LaidVars Tryz.prog w laid ps) {n:Nat} (hn:n<256) {v:Value} (hv:Bys w v) :
  Calls Tryz.prog 3 #[.int .u8 (Int.ofNat n),v] w fun e w'=>e=.returned (.bool true)∧Below w.heap.size w w':=by
 obtain ⟨ps',hE⟩:=laidVars_some isE hL
 have none_:∀ (u:Value),VRs (allF ⟨Tryz.prog.globals.size,gsTr gs⟩) Im0 (.fsl 0 1 ([]:List UInt8).length none (byE [])) u→(∀ β,VR β u v)→Calls Tryz.prog 3 #[.int .u8 (Int.ofNat n),v] w fun e w'=>e=.returned (.bool true)∧Below w.heap.size w w':=fun u h1 h2=>
  says (laid_hr (w:=w) few hE) (gs_ro gs_lt63) (by have:=room1;show Tryz.prog.globals.size+9000000000000000000≤_;omega) F0_syn (fun g hg=>if_pos hg) hn h1 (h2 _)
 rcases hv with rfl|⟨a,cap,rfl⟩|⟨b,o,m,cap,bs,cc,t,fr,rfl,h0,hcap,hw,hsz,hlen,hat⟩
 ·exact none_ (.slice none 0 0) (.fslN _ _ _ _ _ (.inl rfl)) fun β=>.nilSlice 0 0
 ·exact none_ (.chan none) (.fslE _ _ _ _ _ (.inl rfl)) fun β=>.noneLeft a cap
 ·obtain ⟨cs,hcs⟩:∃ cs:List Value,cs=(List.range m).map fun i=>.int .u8 (Int.ofNat (bs.getD i 0).toNat):=⟨_,rfl⟩
  have hcl:cs.length=m:=by rw [hcs];simp
  have hcg:∀ k,k<m→cs[k]?=some (.int .u8 (Int.ofNat (bs.getD k 0).toNat)):=fun k hk=>by rw [hcs];simp [hk]
  have H:=arg_hr (i:=⟨b,o,cap-m⟩) (cs:=cs) lt63 hE hw (by rw [hcl];exact hsz) (fun k x y hx hy=>by
   have hk:k<m:=by have:=(List.getElem?_eq_some_iff.1 hx).1;omega
   rw [hcg k hk] at hx
   simp only at hy
   rw [hat k hk] at hy
   cases hx;cases hy
   exact .int _ _)
  have hone:ones_ cs=true:=ones_mem.2 fun x hx=>by
   rw [hcs] at hx
   obtain ⟨i,_,rfl⟩:=List.mem_map.1 hx
   rfl
  have hP:=arg_le lt63 gs_lt (cs:=cs) _ _ F0_syn
  refine says H (arg_ro lt63 gs_lt63) room1 hP (argB_lt _ _) hn (b:=bs) ?_ (slice_vr _ b o m cap hcap)
  rw [hlen]
  refine .fsl _ 0 1 m none _ Tryz.prog.globals.size 0 cs 0 m (argF lt63 hone _) (Nat.le_refl _) (.inl rfl) (Nat.le_refl _) (by omega) (fun i _=>rfl) (fun i j x y hi hx hy=>?_)
  cases j with
  | zero=>
   rw [show 0+i*1+0=i by omega,hcg i hi] at hy
   cases hy
   have e:x=.int .u8 false (Int.ofNat (bs.getD i 0).toNat):=(Option.some.inj hx).symm
   rw [e]
   exact .int _ _ _ _
  | succ j=>simp [byE] at hx
end Go.Proofs.YtponjccgpbgnoaaGreatDoor.shredWrongM
