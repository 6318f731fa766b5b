/- strconv's number of digits: a walk over a table that is there. -/
import Derived.Test.YtponjccgpbgnoaaGreatDoorShelfI
import Derived.Test.YtponjccgpbgnoaaGreatDoorSpD
import Derived.KernelRfl
import Derived.WalkKit
import Derived.ProofKit
set_option linter.unusedVariables false
set_option linter.unusedSimpArgs false
set_option linter.unusedSectionVars false
open Option.some renaming injEq→zA
namespace Go.Proofs.YtponjccgpbgnoaaGreatDoor
open Go Go.Proofs.YtponjccgpbgnoaaGreatDoor Go.RowKit
set_option maxRecDepth 1000000
theorem nd_calls(u:Nat)(h1:1≤u)(h2:u<18446744073709551616)(w:World)(hcell:∀q,q<20→w.cell? ⟨Tryz.powG,q,none⟩=some (.int .u64 ((10 ^ q:Nat):Int))) :
  Calls Tryz.prog 169 #[.int .u64 u] w fun e w'=>e=.returned (.int .i64 (Lib.nDigits u))∧w'=w:=by
 obtain⟨hnd,h19⟩:=Lib.numDigits_eq u h1 h2
 have hL:Lib.bitLen u≤64:=Lib.bitLen_le u 64 (Nat.le_refl _) h2
 have hc:=hcell (Lib.l10 (Lib.bitLen u)) (by omega)
 have hto:((u:Int)).toNat=u:=by omega
 generalize hq:Lib.l10 (Lib.bitLen u)=q at hnd h19 hc
 generalize hT:10 ^ q=T at hnd hc
 have h20:q<20:=by omega
 have Hnd:=Lib.hid hnd
 clear hnd hcell
 unfold Tryz.powG at hc
 go_enter Tryz.func169,Tryz.ntmps169
 go_wp2_with (first
  | (go_at_call 194;refine(Any.bits_Len64 { Tryz.laysM284 with } _ _ (by omega) (by omega)).mono ?_;rintro e w' ⟨rfl,rfl⟩)
  | (go_at_call 193;refine(Any.internal_strconv_log10Pow2 { Tryz.laysM284 with } _ (by first|exact hL|(rw[hto];exact hL)) _).mono ?_;rintro e w' ⟨rfl,rfl⟩)
  | (go_at_call 195;refine(Any.internal_strconv_bool2_int { Tryz.laysM284 with } _ _).mono ?_;rintro e w' ⟨rfl,rfl⟩))
 all_goals go_ret
 all_goals (
  refine⟨?_,rfl⟩
  have hnd:=Hnd.out
  congr 2
  split at hnd<;>simp_all<;>omega)
def powC:List Value:=(List.range 20).map fun q=>.int .u64 ((10 ^ q:Nat):Int)
def holdsPow(h:Hp):Prop:=∃e x ro,h.get Tryz.powG=some (.cells powC e x ro)
open Classical in
noncomputable def spNd(args:List Value)(h:Hp):Option (Value×Hp):=
 match args with
 | [.int .u64 (.ofNat u)]=>if holdsPow h∧1≤u∧u<18446744073709551616 then some (.int .i64 (Lib.nDigits u),h)else none
 | _=>none
theorem powG_lt:Tryz.powG<Tryz.prog.globals.size:=of_decide_eq_true (by kernel_rfl)
theorem pow_cell{β:Bt}{h:Hp}{w:World}(H:HR Tryz.prog β h w)(hgb:∀g,g<Tryz.prog.globals.size→β g=some ⟨g,0,0⟩)(hh:holdsPow h):∀q,q<20→w.cell? ⟨Tryz.powG,q,none⟩=some (.int .u64 ((10 ^ q:Nat):Int)):=by
 obtain⟨e,x,ro,h1⟩:=hh
 intro q hq
 have hc:powC[q]?=some (.int .u64 ((10 ^ q:Nat):Int)):=by unfold powC;simp[hq]
 rcases H.ok _ _ _ h1 (hgb _ powG_lt)with⟨h2,_,_⟩|⟨cc,e',fr,k1,k2,k3,_,_⟩
 .rw[h2]at hc;cases hc
 .have hl:powC.length=20:=by unfold powC;simp
  obtain⟨y,hy⟩:∃y,cc[0+q]?=some y:=⟨_,Array.getElem?_eq_getElem (by simp only at k2;omega)⟩
  have hv:=k3 q _ y hc hy
  rw[hv.int_inv]at hy
  unfold World.cell?
  simp only at k1
  simp only[k1]
  rw[Nat.zero_add]at hy
  exact hy
theorem t_nd:ToldOk Tryz.prog Tryz.prog.globals.size 169 spNd:=
 zbH fun args args' h h2 v β w hc hl H hgb=>by
  unfold spNd at hc
  split at hc
  .rename_i u
   split at hc
   .rename_i hh
    obtain⟨hh,h1,h3⟩:=hh
    simp only[zA,Prod.mk.injEq]at hc
    obtain⟨rfl,rfl⟩:=hc
    obtain rfl:args'=[.int .u64 (Int.ofNat u)]:=by
     rcases args' with _|⟨y,_|⟨z,l⟩⟩
     .cases hl.1
     .rw[(hl.2 0 _ y rfl rfl).int_inv]
     .cases hl.1
    rw[show(callFunc 169 (List.toArray [Value.int .u64 (Int.ofNat u)])).run Tryz.prog w=.ok (.enter 169 #[.int .u64 (u:Int)]) w from(enters_of Tryz.func169 (by kernel_rfl) rfl) _ w]
    refine .inr ⟨_,_,rfl,(nd_calls u h1 h3 w (pow_cell H hgb hh)).mono ?_⟩
    rintro e w2 ⟨rfl,rfl⟩
    exact⟨_,β,rfl,H,St.below (Below.refl _ _),.int ..⟩
   .cases hc
  .cases hc
def TrueRun(f:FuncId):Prop:=∀w:World,Calls Tryz.prog f #[] w fun e w'=>e=.returned (.bool true)∧Below w.heap.size w w'
open Classical in
noncomputable def spRun(f:FuncId)(args:List Value)(h:Hp):Option (Value×Hp):=
 match args with
 | []=>if TrueRun f then some (.bool true,h)else none
 | _=>none
theorem t_run{f:FuncId}(hent:Enters Tryz.prog f):ToldOk Tryz.prog Tryz.prog.globals.size f (spRun f):=
 zbH fun args args' h h2 v β w hc hl H hgb=>by
  unfold spRun at hc
  split at hc
  .split at hc
   .rename_i hh
    simp only[zA,Prod.mk.injEq]at hc
    obtain⟨rfl,rfl⟩:=hc
    obtain rfl:args'=[]:=List.eq_nil_of_length_eq_zero hl.1.symm
    rw[show(callFunc f (List.toArray [])).run Tryz.prog w=.ok (.enter f #[]) w from hent _ w]
    refine .inr ⟨_,_,rfl,(hh w).mono ?_⟩
    rintro e w2 ⟨rfl,hB⟩
    exact⟨_,β,rfl,H.below hB,St.below hB,.bool _⟩
   .cases hc
  .cases hc
end Go.Proofs.YtponjccgpbgnoaaGreatDoor
