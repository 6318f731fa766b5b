/- Two small functions of the image, told: are a block's bytes behind the size noughts? may a text be a name? -/
import Derived.Test.YtponjccgpbgnoaaGreatDoorChecked
import Derived.WalkKit
import Derived.ProofKit
import Derived.OpenShut
import Derived.KernelRfl
import Derived.Below
import Derived.LoopTactic
import Derived.OwnWalk
import Derived.Test.YtponjccgpbgnoaaGreatDoorSpX
set_option linter.unusedVariables false
set_option linter.unusedSimpArgs false
set_option linter.unusedSectionVars false
open Bool renaming and_eq_true→zA,or_eq_true→zC
open Nat renaming ble→zB
open Option.some renaming injEq→zD
open Prod.mk renaming injEq→zE
namespace Go.Proofs.YtponjccgpbgnoaaGreatDoor
open Go Go.RowKit Go.ChangeShapes Go.WideShapes
def below_(size:Int)(b:Int)(at_:Int):Prop:=b=0∨at_<size
theorem clean_true(no size b0 b1 b2 b3 b4 b5 b6 b7:Int)(h0:0≤no)(h1:no≤1099511627776)(g0:below_ size b0 (no*8))(g1:below_ size b1 (no*8+1))(g2:below_ size b2 (no*8+2))(g3:below_ size b3 (no*8+3))
  (g4:below_ size b4 (no*8+4)) (g5:below_ size b5 (no*8+5)) (g6:below_ size b6 (no*8+6)) (g7:below_ size b7 (no*8+7)) (w:World) :
  Calls Tryz.prog 131 #[.agg #[.int .i64 no,.int .u8 b0,.int .u8 b1,.int .u8 b2,.int .u8 b3,.int .u8 b4,.int .u8 b5,.int .u8 b6,.int .u8 b7],.int .i64 size] w fun e w'=>e=.returned (.bool true)∧Below w.heap.size w w':=by
 have hB:Below w.heap.size w (w.alloc (Obj.cells #[.int .i64 no,.int .u8 b0,.int .u8 b1,.int .u8 b2,.int .u8 b3,.int .u8 b4,.int .u8 b5,.int .u8 b6,.int .u8 b7] 136)):=(Below.refl _ w).alloc (Nat.le_refl _) _
 go_enter Tryz.func131,Tryz.ntmps131
 go_wp2
 have x0:(w.alloc (Obj.cells #[.int .i64 no,.int .u8 b0,.int .u8 b1,.int .u8 b2,.int .u8 b3,.int .u8 b4,.int .u8 b5,.int .u8 b6,.int .u8 b7] 136)).cell? ⟨w.heap.size,0,none⟩=some (.int .i64 no):=cell_of_row _ _ 0 _ _ _ (heap_alloc_new w _)
 have ix0:∀W,Sem.run Tryz.prog (Instr.index 134 (.agg #[.int .u8 b0,.int .u8 b1,.int .u8 b2,.int .u8 b3,.int .u8 b4,.int .u8 b5,.int .u8 b6,.int .u8 b7]) (.int .i64 0)) W=.ok (.int .u8 b0) W:=fun _=>by kernel_rfl
 have ix1:∀W,Sem.run Tryz.prog (Instr.index 134 (.agg #[.int .u8 b0,.int .u8 b1,.int .u8 b2,.int .u8 b3,.int .u8 b4,.int .u8 b5,.int .u8 b6,.int .u8 b7]) (.int .i64 1)) W=.ok (.int .u8 b1) W:=fun _=>by kernel_rfl
 have ix2:∀W,Sem.run Tryz.prog (Instr.index 134 (.agg #[.int .u8 b0,.int .u8 b1,.int .u8 b2,.int .u8 b3,.int .u8 b4,.int .u8 b5,.int .u8 b6,.int .u8 b7]) (.int .i64 2)) W=.ok (.int .u8 b2) W:=fun _=>by kernel_rfl
 have ix3:∀W,Sem.run Tryz.prog (Instr.index 134 (.agg #[.int .u8 b0,.int .u8 b1,.int .u8 b2,.int .u8 b3,.int .u8 b4,.int .u8 b5,.int .u8 b6,.int .u8 b7]) (.int .i64 3)) W=.ok (.int .u8 b3) W:=fun _=>by kernel_rfl
 have ix4:∀W,Sem.run Tryz.prog (Instr.index 134 (.agg #[.int .u8 b0,.int .u8 b1,.int .u8 b2,.int .u8 b3,.int .u8 b4,.int .u8 b5,.int .u8 b6,.int .u8 b7]) (.int .i64 4)) W=.ok (.int .u8 b4) W:=fun _=>by kernel_rfl
 have ix5:∀W,Sem.run Tryz.prog (Instr.index 134 (.agg #[.int .u8 b0,.int .u8 b1,.int .u8 b2,.int .u8 b3,.int .u8 b4,.int .u8 b5,.int .u8 b6,.int .u8 b7]) (.int .i64 5)) W=.ok (.int .u8 b5) W:=fun _=>by kernel_rfl
 have ix6:∀W,Sem.run Tryz.prog (Instr.index 134 (.agg #[.int .u8 b0,.int .u8 b1,.int .u8 b2,.int .u8 b3,.int .u8 b4,.int .u8 b5,.int .u8 b6,.int .u8 b7]) (.int .i64 6)) W=.ok (.int .u8 b6) W:=fun _=>by kernel_rfl
 have ix7:∀W,Sem.run Tryz.prog (Instr.index 134 (.agg #[.int .u8 b0,.int .u8 b1,.int .u8 b2,.int .u8 b3,.int .u8 b4,.int .u8 b5,.int .u8 b6,.int .u8 b7]) (.int .i64 7)) W=.ok (.int .u8 b7) W:=fun _=>by kernel_rfl
 generalize w.alloc (Obj.cells #[.int .i64 no,.int .u8 b0,.int .u8 b1,.int .u8 b2,.int .u8 b3,.int .u8 b4,.int .u8 b5,.int .u8 b6,.int .u8 b7] 136)=W1 at *
 go_loopw [9] (fun i wr=>∃k:Nat,k≤8∧i=.int .i64 k∧wr=W1) (fun i _=>8-(intOf i).toNat)
 case atStart=>exact⟨0,by omega,rfl,rfl⟩
 case round=>
  obtain⟨k,hk,rfl,rfl⟩:=hrel
  have hc:k=0∨k=1∨k=2∨k=3∨k=4∨k=5∨k=6∨k=7∨k=8:=by omega
  rcases hc with rfl|rfl|rfl|rfl|rfl|rfl|rfl|rfl|rfl
  .have HX:Hid True:=trivial
   by_cases hb:b0=0
   .clear g0 g1 g2 g3 g4 g5 g6 g7
    subst hb
    go_wp2
    refine⟨⟨1,by omega,?_⟩,?_⟩<;>simp[intOf]
   .have hl:¬(no*8≥size):=by rcases g0 with h|h;exact absurd h hb;omega
    clear g0 g1 g2 g3 g4 g5 g6 g7
    go_wp2
    refine⟨⟨1,by omega,?_⟩,?_⟩<;>simp[intOf]
  .have HX:Hid True:=trivial
   by_cases hb:b1=0
   .clear g0 g1 g2 g3 g4 g5 g6 g7
    subst hb
    go_wp2
    refine⟨⟨2,by omega,?_⟩,?_⟩<;>simp[intOf]
   .have hl:¬(no*8+1≥size):=by rcases g1 with h|h;exact absurd h hb;omega
    clear g0 g1 g2 g3 g4 g5 g6 g7
    go_wp2
    refine⟨⟨2,by omega,?_⟩,?_⟩<;>simp[intOf]
  .have HX:Hid True:=trivial
   by_cases hb:b2=0
   .clear g0 g1 g2 g3 g4 g5 g6 g7
    subst hb
    go_wp2
    refine⟨⟨3,by omega,?_⟩,?_⟩<;>simp[intOf]
   .have hl:¬(no*8+2≥size):=by rcases g2 with h|h;exact absurd h hb;omega
    clear g0 g1 g2 g3 g4 g5 g6 g7
    go_wp2
    refine⟨⟨3,by omega,?_⟩,?_⟩<;>simp[intOf]
  .have HX:Hid True:=trivial
   by_cases hb:b3=0
   .clear g0 g1 g2 g3 g4 g5 g6 g7
    subst hb
    go_wp2
    refine⟨⟨4,by omega,?_⟩,?_⟩<;>simp[intOf]
   .have hl:¬(no*8+3≥size):=by rcases g3 with h|h;exact absurd h hb;omega
    clear g0 g1 g2 g3 g4 g5 g6 g7
    go_wp2
    refine⟨⟨4,by omega,?_⟩,?_⟩<;>simp[intOf]
  .have HX:Hid True:=trivial
   by_cases hb:b4=0
   .clear g0 g1 g2 g3 g4 g5 g6 g7
    subst hb
    go_wp2
    refine⟨⟨5,by omega,?_⟩,?_⟩<;>simp[intOf]
   .have hl:¬(no*8+4≥size):=by rcases g4 with h|h;exact absurd h hb;omega
    clear g0 g1 g2 g3 g4 g5 g6 g7
    go_wp2
    refine⟨⟨5,by omega,?_⟩,?_⟩<;>simp[intOf]
  .have HX:Hid True:=trivial
   by_cases hb:b5=0
   .clear g0 g1 g2 g3 g4 g5 g6 g7
    subst hb
    go_wp2
    refine⟨⟨6,by omega,?_⟩,?_⟩<;>simp[intOf]
   .have hl:¬(no*8+5≥size):=by rcases g5 with h|h;exact absurd h hb;omega
    clear g0 g1 g2 g3 g4 g5 g6 g7
    go_wp2
    refine⟨⟨6,by omega,?_⟩,?_⟩<;>simp[intOf]
  .have HX:Hid True:=trivial
   by_cases hb:b6=0
   .clear g0 g1 g2 g3 g4 g5 g6 g7
    subst hb
    go_wp2
    refine⟨⟨7,by omega,?_⟩,?_⟩<;>simp[intOf]
   .have hl:¬(no*8+6≥size):=by rcases g6 with h|h;exact absurd h hb;omega
    clear g0 g1 g2 g3 g4 g5 g6 g7
    go_wp2
    refine⟨⟨7,by omega,?_⟩,?_⟩<;>simp[intOf]
  .have HX:Hid True:=trivial
   by_cases hb:b7=0
   .clear g0 g1 g2 g3 g4 g5 g6 g7
    subst hb
    go_wp2
    refine⟨⟨8,by omega,?_⟩,?_⟩<;>simp[intOf]
   .have hl:¬(no*8+7≥size):=by rcases g7 with h|h;exact absurd h hb;omega
    clear g0 g1 g2 g3 g4 g5 g6 g7
    go_wp2
    refine⟨⟨8,by omega,?_⟩,?_⟩<;>simp[intOf]
  .clear g0 g1 g2 g3 g4 g5 g6 g7
   go_wp2
   go_ret
   exact⟨rfl,hB⟩
def mayB(c:Int):Bool:=(decide (97≤c)&&decide (c≤122)) || (decide (48≤c)&&decide (c≤57)) || c==46 || c==95 || c==45
theorem may_true(c:Int)(h:mayB c=true)(w:World):Calls Tryz.prog 127 #[.int .u8 c] w fun e w'=>e=.returned (.bool true)∧w'=w:=by
 have h':(97≤c∧c≤122)∨(48≤c∧c≤57)∨c=46∨c=95∨c=45:=by
  simp only[mayB,zC,zA,decide_eq_true_eq,beq_iff_eq]at h
  omega
 clear h
 rcases h' with⟨h1,h2⟩|⟨h1,h2⟩|rfl|rfl|rfl
 all_goals
  go_enter Tryz.func127,Tryz.ntmps127
  go_wp2
 all_goals
  go_ret
  exact⟨rfl,rfl⟩
theorem name_long(s:ByteArray)(h:20<s.size)(w:World):Calls Tryz.prog 78 #[.string s] w fun e w'=>e=.returned (.bool false)∧w'=w:=by
 have h1:¬s=⟨#[]⟩:=fun e=>by subst e;exact absurd h (by decide)
 have h2:(s.size:Int)>20:=by omega
 go_enter Tryz.func78,Tryz.ntmps78
 go_wp2
 all_goals
  go_ret
  exact⟨rfl,rfl⟩
theorem name_true(s:ByteArray)(h1:0<s.size)(h20:s.size≤20)(hf:¬((s[0].toNat:Int)=45))(hc:∀(k:Nat) (h:k<s.size),mayB (s[k].toNat:Int)=true)(w:World) :
  Calls Tryz.prog 78 #[.string s] w fun e w'=>e=.returned (.bool true)∧w'=w:=by
 have e1:¬s.toList=[]:=fun e=>by
  have:s.toList.length=0:=by rw[e];rfl
  rw[ByteArray.toList_eq]at this
  have h2:s.size=s.data.toList.length:=rfl
  omega
 have e2:¬((s.size:Int)>20):=by omega
 have HC:Hid (∀(k:Nat) (h:k<s.size),mayB (s[k].toNat:Int)=true):=hc
 clear hc
 go_enter Tryz.func78,Tryz.ntmps78
 go_wp2
 .exfalso
  rename_i hx
  rcases hx with hx|hx
  .exact e1 (by simpa using hx)
  .exact hf (by simpa using hx)
 .go_loopw [18] (fun i wr=>∃k:Nat,k≤s.size∧i=.int .i64 k∧wr=w) (fun i _=>s.size-(intOf i).toNat)
  case atStart=>exact⟨0,by omega,rfl,rfl⟩
  case round=>
   obtain⟨k,hk,rfl,rfl⟩:=hrel
   by_cases hlt:k<s.size
   .have kM:=may_true _ (HC.out k hlt)
    go_wp2_with (go_at_call 127;refine(kM _).mono ?_;rintro e w1 ⟨rfl,rfl⟩)
    refine⟨⟨k+1,by omega,?_⟩,?_⟩<;>simp[intOf]<;>omega
   .obtain rfl:k=s.size:=by omega
    go_wp2
    go_ret
    exact⟨rfl,rfl⟩
end Go.Proofs.YtponjccgpbgnoaaGreatDoor
namespace Go.Proofs.YtponjccgpbgnoaaGreatDoor
open Go Go.RowKit
def cl_(size b at_:Int):Bool:=(b==0) || decide (at_<size)
theorem zcg{size b at_:Int}(h:cl_ size b at_=true):below_ size b at_:=by
 simp only[cl_,zC,beq_iff_eq,decide_eq_true_eq]at h
 exact h
def spClean(args:List Value)(h:Hp):Option (Value×Hp):=
 match args with
 | [.agg cs,.int .i64 size]=>match cs.toList with
  | [.int .i64 no,.int .u8 b0,.int .u8 b1,.int .u8 b2,.int .u8 b3,.int .u8 b4,.int .u8 b5,.int .u8 b6,.int .u8 b7]=>
   bif decide (0≤no)&&(decide (no≤1099511627776)&&(cl_ size b0 (no*8)&&(cl_ size b1 (no*8+1)&&(cl_ size b2 (no*8+2)&&(cl_ size b3 (no*8+3)&&(cl_ size b4 (no*8+4)&&(cl_ size b5 (no*8+5)&&(cl_ size b6 (no*8+6)&&cl_ size b7 (no*8+7)))))))))
   then some (.bool true,h)else none
  | _=>none
 | _=>none
theorem LR.ints{β:Bt}:∀ {l:List (IntKind×Int)} {l':List Value},LR β (l.map fun p=>Value.int p.1 p.2) l'→l'=l.map fun p=>Value.int p.1 p.2:=by
 intro l
 induction l with
 | nil=>intro l' h;exact List.eq_nil_of_length_eq_zero h.1.symm
 | cons p l ih=>
  intro l' h
  match l',h with
  | [],h=>simp[LR]at h
  | y::l',h=>
   have h1:=h.head.int_inv
   rw[h1,ih h.tail]
   rfl
theorem t_clean:ToldOk Tryz.prog Tryz.prog.globals.size 131 spClean:=
 zbH fun args args' h h2 v β w hq hl H hgb=>by
  unfold spClean at hq
  split at hq
  .rename_i cs size
   split at hq
   .rename_i no b0 b1 b2 b3 b4 b5 b6 b7 hcs
    cases hb:decide (0≤no)&&(decide (no≤1099511627776)&&(cl_ size b0 (no*8)&&(cl_ size b1 (no*8+1)&&(cl_ size b2 (no*8+2)&&(cl_ size b3 (no*8+3)&&(cl_ size b4 (no*8+4)&&(cl_ size b5 (no*8+5)&&(cl_ size b6 (no*8+6)&&cl_ size b7 (no*8+7)))))))))with
    | false=>rw[hb]at hq;cases hq
    | true=>
     rw[hb,cond_true]at hq
     simp only[zD,zE]at hq
     obtain⟨rfl,rfl⟩:=hq
     simp only[zA,decide_eq_true_eq]at hb
     obtain⟨g0,g1,c0,c1,c2,c3,c4,c5,c6,c7⟩:=hb
     obtain⟨x',y',rfl,hx,hy⟩:=zb7 hl
     rw[hy.int_inv]
     obtain⟨ys,rfl,hys⟩:=hx.agg_inv
     have hl2:LR β (([(.i64,no),(.u8,b0),(.u8,b1),(.u8,b2),(.u8,b3),(.u8,b4),(.u8,b5),(.u8,b6),(.u8,b7)]:List (IntKind×Int)).map fun p=>Value.int p.1 p.2) ys.toList:=by
      rw[hcs]at hys
      exact hys
     have hys2:ys=#[.int .i64 no,.int .u8 b0,.int .u8 b1,.int .u8 b2,.int .u8 b3,.int .u8 b4,.int .u8 b5,.int .u8 b6,.int .u8 b7]:=Array.ext' hl2.ints
     subst hys2
     exact told_value (enters_of Tryz.func131 (by kernel_rfl) rfl) (clean_true no size b0 b1 b2 b3 b4 b5 b6 b7 g0 g1 (zcg c0) (zcg c1) (zcg c2) (zcg c3) (zcg c4) (zcg c5) (zcg c6) (zcg c7) w) H (.bool _)
   .cases hq
  .cases hq
def mayN(n:Nat):Bool:=(zB 97 n&&zB n 122) || ((zB 48 n&&zB n 57) || (Nat.beq n 46 || (Nat.beq n 95 || Nat.beq n 45)))
theorem mayN_B{n:Nat}(h:mayN n=true):mayB (n:Int)=true:=by
 simp only[mayN,zC,zA,Nat.ble_eq,Nat.beq_eq]at h
 simp only[mayB,zC,zA,decide_eq_true_eq,beq_iff_eq]
 omega
def alls_:List UInt8→Bool
 | []=>true
 | c::l=>match mayN c.toNat with|true=>alls_ l|false=>false
theorem alls_at:∀ {l:List UInt8},alls_ l=true→∀(k:Nat) (h:k<l.length),mayN l[k].toNat=true:=by
 intro l
 induction l with
 | nil=>intro _ k h;simp at h
 | cons c l ih=>
  intro h k hk
  unfold alls_ at h
  split at h
  .rename_i hc
   cases k with
   | zero=>exact hc
   | succ k=>exact ih h k (by simpa using hk)
  .cases h
def zbJ:List UInt8→Bool
 | []=>false
 | c::l=>!(Nat.beq c.toNat 45)&&(zB (c::l).length 20&&alls_ (c::l))
def spName(args:List Value)(h:Hp):Option (Value×Hp):=
 match args with
 | [.string s]=>bif zbJ s.data.toList then some (.bool true,h)else bif Nat.blt 20 s.data.toList.length then some (.bool false,h)else none
 | _=>none
theorem t_name:ToldOk Tryz.prog Tryz.prog.globals.size 78 spName:=
 zbH fun args args' h h2 v β w hq hl H hgb=>by
  unfold spName at hq
  split at hq
  .rename_i s
   obtain⟨x',rfl,hx⟩:=one_arg hl
   rw[hx.string_inv]
   cases hb:zbJ s.data.toList with
   | true=>
    rw[hb,cond_true]at hq
    simp only[zD,zE]at hq
    obtain⟨rfl,rfl⟩:=hq
    have hsz:s.data.toList.length=s.size:=rfl
    have key:0<s.size∧s.size≤20∧(∀h:0<s.data.toList.length,¬(s.data.toList[0].toNat=45))∧alls_ s.data.toList=true:=by
     revert hb
     rw[←hsz]
     generalize s.data.toList=l
     intro hb
     cases l with
     | nil=>cases hb
     | cons c l=>
      simp only[zbJ,zA,Bool.not_eq_true',Nat.ble_eq]at hb
      obtain⟨q1,q2,q3⟩:=hb
      exact⟨by simp,q2,(fun _ e=>by rw[show(c::l)[0].toNat=c.toNat from rfl]at e;rw[e]at q1;cases q1),q3⟩
    obtain⟨k1,k2,k3,k4⟩:=key
    have hat:∀(k:Nat) (h:k<s.size),s[k]=s.data.toList[k]'(by rw[hsz];exact h):=fun k h=>by
     simp only[Array.getElem_toList];rfl
    exact told_value (enters_of Tryz.func78 (by kernel_rfl) rfl) ((name_true s k1 k2 (by rw[hat 0 k1];intro e;exact k3 k1 (by omega)) (fun k h=>by rw[hat k h];exact mayN_B (alls_at k4 k _)) w).mono fun e w' ⟨he,hw⟩=>⟨he,hw▸Below.refl _ _⟩) H (.bool _)
   | false=>
    rw[hb,cond_false]at hq
    cases hn:Nat.blt 20 s.data.toList.length with
    | false=>rw[hn]at hq;cases hq
    | true=>
     rw[hn,cond_true]at hq
     simp only[zD,zE]at hq
     obtain⟨rfl,rfl⟩:=hq
     exact told_value (enters_of Tryz.func78 (by kernel_rfl) rfl) ((name_long s (Nat.lt_of_lt_of_le (Nat.lt_succ_self _) (Nat.le_of_ble_eq_true hn)) w).mono fun e w' ⟨he,hw⟩=>⟨he,hw▸Below.refl _ _⟩) H (.bool _)
  .cases hq
end Go.Proofs.YtponjccgpbgnoaaGreatDoor
