/- The evaluator's tries and lists, and how its values and heaps stand to the machine's. -/
import Derived.Test.YtponjccgpbgnoaaGreatDoorAb
import Derived.Below
import Derived.Orders
import Derived.Laws.Cells
import Derived.Laws.IdiomCopy
import Derived.ChangeKeysEq
set_option linter.unusedVariables false
set_option linter.unusedSimpArgs false
set_option linter.unusedSectionVars false
open Nat renaming beq→zA,div→zD,pred→zF,le_trans→zJ,lt_of_lt_of_le→zK
open Bool renaming casesOn→zB
open Option.some renaming injEq→zC
open List renaming length_take→zE,length_cons→zG,length_drop→zH,length_append→zI,append_assoc→zL
namespace Go.Proofs.YtponjccgpbgnoaaGreatDoor
open Go Go.RowKit
namespace Tr
variable {α:Type}
@[simp] theorem force_eq {β:Type} (t:Tr α) (f:Tr α→β):t.force f=f t:=by cases t<;>rfl
def getN:Nat→Tr α→Nat→Option α
 | 0,_,_=>none
 | n+1,t,k=>Tr.casesOn t none fun v l r=>zB (zA k 0) (zB (zA (Nat.mod k 2) 1) (getN n r (zF (zD k 2))) (getN n l (zD k 2))) v
def setN(x:α):Nat→Nat→Tr α→Tr α
 | 0,_,t=>t
 | n+1,k,t=>Tr.casesOn t
  (zB (zA k 0) (zB (zA (Nat.mod k 2) 1) (Tr.casesOn (setN x n (zF (zD k 2)) .nil) (.node none .nil .nil) fun a b c=>.node none .nil (.node a b c)) (Tr.casesOn (setN x n (zD k 2) .nil) (.node none .nil .nil) fun a b c=>.node none (.node a b c) .nil)) (.node (some x) .nil .nil))
  fun v l r=>zB (zA k 0) (zB (zA (Nat.mod k 2) 1) (Tr.casesOn (setN x n (zF (zD k 2)) r) (.node v l .nil) fun a b c=>.node v l (.node a b c)) (Tr.casesOn (setN x n (zD k 2) l) (.node v .nil r) fun a b c=>.node v (.node a b c) r)) (.node (some x) l r)
theorem g_0:@get0 α=getN 0:=rfl
theorem g_1:@get1 α=getN 1:=by funext t k;unfold get1;rw[g_0];cases t<;>rfl
theorem g_2:@get2 α=getN 2:=by funext t k;unfold get2;rw[g_1];cases t<;>rfl
theorem g_3:@get3 α=getN 3:=by funext t k;unfold get3;rw[g_2];cases t<;>rfl
theorem g_4:@get4 α=getN 4:=by funext t k;unfold get4;rw[g_3];cases t<;>rfl
theorem g_5:@get5 α=getN 5:=by funext t k;unfold get5;rw[g_4];cases t<;>rfl
theorem g_6:@get6 α=getN 6:=by funext t k;unfold get6;rw[g_5];cases t<;>rfl
theorem g_7:@get7 α=getN 7:=by funext t k;unfold get7;rw[g_6];cases t<;>rfl
theorem g_8:@get8 α=getN 8:=by funext t k;unfold get8;rw[g_7];cases t<;>rfl
theorem g_9:@get9 α=getN 9:=by funext t k;unfold get9;rw[g_8];cases t<;>rfl
theorem g_10:@get10 α=getN 10:=by funext t k;unfold get10;rw[g_9];cases t<;>rfl
theorem g_11:@get11 α=getN 11:=by funext t k;unfold get11;rw[g_10];cases t<;>rfl
theorem g_12:@get12 α=getN 12:=by funext t k;unfold get12;rw[g_11];cases t<;>rfl
theorem g_13:@get13 α=getN 13:=by funext t k;unfold get13;rw[g_12];cases t<;>rfl
theorem g_14:@get14 α=getN 14:=by funext t k;unfold get14;rw[g_13];cases t<;>rfl
theorem g_15:@get15 α=getN 15:=by funext t k;unfold get15;rw[g_14];cases t<;>rfl
theorem g_16:@get16 α=getN 16:=by funext t k;unfold get16;rw[g_15];cases t<;>rfl
theorem g_17:@get17 α=getN 17:=by funext t k;unfold get17;rw[g_16];cases t<;>rfl
theorem g_18:@get18 α=getN 18:=by funext t k;unfold get18;rw[g_17];cases t<;>rfl
theorem g_19:@get19 α=getN 19:=by funext t k;unfold get19;rw[g_18];cases t<;>rfl
theorem g_20:@get20 α=getN 20:=by funext t k;unfold get20;rw[g_19];cases t<;>rfl
theorem g_21:@get21 α=getN 21:=by funext t k;unfold get21;rw[g_20];cases t<;>rfl
theorem g_22:@get22 α=getN 22:=by funext t k;unfold get22;rw[g_21];cases t<;>rfl
theorem g_23:@get23 α=getN 23:=by funext t k;unfold get23;rw[g_22];cases t<;>rfl
theorem g_24:@get24 α=getN 24:=by funext t k;unfold get24;rw[g_23];cases t<;>rfl
theorem g_25:@get25 α=getN 25:=by funext t k;unfold get25;rw[g_24];cases t<;>rfl
theorem g_26:@get26 α=getN 26:=by funext t k;unfold get26;rw[g_25];cases t<;>rfl
theorem g_27:@get27 α=getN 27:=by funext t k;unfold get27;rw[g_26];cases t<;>rfl
theorem g_28:@get28 α=getN 28:=by funext t k;unfold get28;rw[g_27];cases t<;>rfl
theorem g_29:@get29 α=getN 29:=by funext t k;unfold get29;rw[g_28];cases t<;>rfl
theorem g_30:@get30 α=getN 30:=by funext t k;unfold get30;rw[g_29];cases t<;>rfl
theorem g_31:@get31 α=getN 31:=by funext t k;unfold get31;rw[g_30];cases t<;>rfl
theorem g_32:@get32 α=getN 32:=by funext t k;unfold get32;rw[g_31];cases t<;>rfl
theorem g_33:@get33 α=getN 33:=by funext t k;unfold get33;rw[g_32];cases t<;>rfl
theorem g_34:@get34 α=getN 34:=by funext t k;unfold get34;rw[g_33];cases t<;>rfl
theorem g_35:@get35 α=getN 35:=by funext t k;unfold get35;rw[g_34];cases t<;>rfl
theorem g_36:@get36 α=getN 36:=by funext t k;unfold get36;rw[g_35];cases t<;>rfl
theorem g_37:@get37 α=getN 37:=by funext t k;unfold get37;rw[g_36];cases t<;>rfl
theorem g_38:@get38 α=getN 38:=by funext t k;unfold get38;rw[g_37];cases t<;>rfl
theorem g_39:@get39 α=getN 39:=by funext t k;unfold get39;rw[g_38];cases t<;>rfl
theorem g_40:@get40 α=getN 40:=by funext t k;unfold get40;rw[g_39];cases t<;>rfl
theorem g_41:@get41 α=getN 41:=by funext t k;unfold get41;rw[g_40];cases t<;>rfl
theorem g_42:@get42 α=getN 42:=by funext t k;unfold get42;rw[g_41];cases t<;>rfl
theorem g_43:@get43 α=getN 43:=by funext t k;unfold get43;rw[g_42];cases t<;>rfl
theorem g_44:@get44 α=getN 44:=by funext t k;unfold get44;rw[g_43];cases t<;>rfl
theorem g_45:@get45 α=getN 45:=by funext t k;unfold get45;rw[g_44];cases t<;>rfl
theorem g_46:@get46 α=getN 46:=by funext t k;unfold get46;rw[g_45];cases t<;>rfl
theorem g_47:@get47 α=getN 47:=by funext t k;unfold get47;rw[g_46];cases t<;>rfl
theorem g_48:@get48 α=getN 48:=by funext t k;unfold get48;rw[g_47];cases t<;>rfl
theorem g_49:@get49 α=getN 49:=by funext t k;unfold get49;rw[g_48];cases t<;>rfl
theorem g_50:@get50 α=getN 50:=by funext t k;unfold get50;rw[g_49];cases t<;>rfl
theorem g_51:@get51 α=getN 51:=by funext t k;unfold get51;rw[g_50];cases t<;>rfl
theorem g_52:@get52 α=getN 52:=by funext t k;unfold get52;rw[g_51];cases t<;>rfl
theorem g_53:@get53 α=getN 53:=by funext t k;unfold get53;rw[g_52];cases t<;>rfl
theorem g_54:@get54 α=getN 54:=by funext t k;unfold get54;rw[g_53];cases t<;>rfl
theorem g_55:@get55 α=getN 55:=by funext t k;unfold get55;rw[g_54];cases t<;>rfl
theorem g_56:@get56 α=getN 56:=by funext t k;unfold get56;rw[g_55];cases t<;>rfl
theorem g_57:@get57 α=getN 57:=by funext t k;unfold get57;rw[g_56];cases t<;>rfl
theorem g_58:@get58 α=getN 58:=by funext t k;unfold get58;rw[g_57];cases t<;>rfl
theorem g_59:@get59 α=getN 59:=by funext t k;unfold get59;rw[g_58];cases t<;>rfl
theorem g_60:@get60 α=getN 60:=by funext t k;unfold get60;rw[g_59];cases t<;>rfl
theorem g_61:@get61 α=getN 61:=by funext t k;unfold get61;rw[g_60];cases t<;>rfl
theorem g_62:@get62 α=getN 62:=by funext t k;unfold get62;rw[g_61];cases t<;>rfl
theorem g_63:@get63 α=getN 63:=by funext t k;unfold get63;rw[g_62];cases t<;>rfl
theorem g_64:@get64 α=getN 64:=by funext t k;unfold get64;rw[g_63];cases t<;>rfl
theorem s_1(x:α):set1 x=setN x 1:=by funext k t;unfold set1;rw[show set0 x=setN x 0 from rfl];cases t<;>rfl
theorem s_2(x:α):set2 x=setN x 2:=by funext k t;unfold set2;rw[s_1];cases t<;>rfl
theorem s_3(x:α):set3 x=setN x 3:=by funext k t;unfold set3;rw[s_2];cases t<;>rfl
theorem s_4(x:α):set4 x=setN x 4:=by funext k t;unfold set4;rw[s_3];cases t<;>rfl
theorem s_5(x:α):set5 x=setN x 5:=by funext k t;unfold set5;rw[s_4];cases t<;>rfl
theorem s_6(x:α):set6 x=setN x 6:=by funext k t;unfold set6;rw[s_5];cases t<;>rfl
theorem s_7(x:α):set7 x=setN x 7:=by funext k t;unfold set7;rw[s_6];cases t<;>rfl
theorem s_8(x:α):set8 x=setN x 8:=by funext k t;unfold set8;rw[s_7];cases t<;>rfl
theorem s_9(x:α):set9 x=setN x 9:=by funext k t;unfold set9;rw[s_8];cases t<;>rfl
theorem s_10(x:α):set10 x=setN x 10:=by funext k t;unfold set10;rw[s_9];cases t<;>rfl
theorem s_11(x:α):set11 x=setN x 11:=by funext k t;unfold set11;rw[s_10];cases t<;>rfl
theorem s_12(x:α):set12 x=setN x 12:=by funext k t;unfold set12;rw[s_11];cases t<;>rfl
theorem s_13(x:α):set13 x=setN x 13:=by funext k t;unfold set13;rw[s_12];cases t<;>rfl
theorem s_14(x:α):set14 x=setN x 14:=by funext k t;unfold set14;rw[s_13];cases t<;>rfl
theorem s_15(x:α):set15 x=setN x 15:=by funext k t;unfold set15;rw[s_14];cases t<;>rfl
theorem s_16(x:α):set16 x=setN x 16:=by funext k t;unfold set16;rw[s_15];cases t<;>rfl
theorem s_17(x:α):set17 x=setN x 17:=by funext k t;unfold set17;rw[s_16];cases t<;>rfl
theorem s_18(x:α):set18 x=setN x 18:=by funext k t;unfold set18;rw[s_17];cases t<;>rfl
theorem s_19(x:α):set19 x=setN x 19:=by funext k t;unfold set19;rw[s_18];cases t<;>rfl
theorem s_20(x:α):set20 x=setN x 20:=by funext k t;unfold set20;rw[s_19];cases t<;>rfl
theorem s_21(x:α):set21 x=setN x 21:=by funext k t;unfold set21;rw[s_20];cases t<;>rfl
theorem s_22(x:α):set22 x=setN x 22:=by funext k t;unfold set22;rw[s_21];cases t<;>rfl
theorem s_23(x:α):set23 x=setN x 23:=by funext k t;unfold set23;rw[s_22];cases t<;>rfl
theorem s_24(x:α):set24 x=setN x 24:=by funext k t;unfold set24;rw[s_23];cases t<;>rfl
theorem s_25(x:α):set25 x=setN x 25:=by funext k t;unfold set25;rw[s_24];cases t<;>rfl
theorem s_26(x:α):set26 x=setN x 26:=by funext k t;unfold set26;rw[s_25];cases t<;>rfl
theorem s_27(x:α):set27 x=setN x 27:=by funext k t;unfold set27;rw[s_26];cases t<;>rfl
theorem s_28(x:α):set28 x=setN x 28:=by funext k t;unfold set28;rw[s_27];cases t<;>rfl
theorem s_29(x:α):set29 x=setN x 29:=by funext k t;unfold set29;rw[s_28];cases t<;>rfl
theorem s_30(x:α):set30 x=setN x 30:=by funext k t;unfold set30;rw[s_29];cases t<;>rfl
theorem s_31(x:α):set31 x=setN x 31:=by funext k t;unfold set31;rw[s_30];cases t<;>rfl
theorem s_32(x:α):set32 x=setN x 32:=by funext k t;unfold set32;rw[s_31];cases t<;>rfl
theorem s_33(x:α):set33 x=setN x 33:=by funext k t;unfold set33;rw[s_32];cases t<;>rfl
theorem s_34(x:α):set34 x=setN x 34:=by funext k t;unfold set34;rw[s_33];cases t<;>rfl
theorem s_35(x:α):set35 x=setN x 35:=by funext k t;unfold set35;rw[s_34];cases t<;>rfl
theorem s_36(x:α):set36 x=setN x 36:=by funext k t;unfold set36;rw[s_35];cases t<;>rfl
theorem s_37(x:α):set37 x=setN x 37:=by funext k t;unfold set37;rw[s_36];cases t<;>rfl
theorem s_38(x:α):set38 x=setN x 38:=by funext k t;unfold set38;rw[s_37];cases t<;>rfl
theorem s_39(x:α):set39 x=setN x 39:=by funext k t;unfold set39;rw[s_38];cases t<;>rfl
theorem s_40(x:α):set40 x=setN x 40:=by funext k t;unfold set40;rw[s_39];cases t<;>rfl
theorem s_41(x:α):set41 x=setN x 41:=by funext k t;unfold set41;rw[s_40];cases t<;>rfl
theorem s_42(x:α):set42 x=setN x 42:=by funext k t;unfold set42;rw[s_41];cases t<;>rfl
theorem s_43(x:α):set43 x=setN x 43:=by funext k t;unfold set43;rw[s_42];cases t<;>rfl
theorem s_44(x:α):set44 x=setN x 44:=by funext k t;unfold set44;rw[s_43];cases t<;>rfl
theorem s_45(x:α):set45 x=setN x 45:=by funext k t;unfold set45;rw[s_44];cases t<;>rfl
theorem s_46(x:α):set46 x=setN x 46:=by funext k t;unfold set46;rw[s_45];cases t<;>rfl
theorem s_47(x:α):set47 x=setN x 47:=by funext k t;unfold set47;rw[s_46];cases t<;>rfl
theorem s_48(x:α):set48 x=setN x 48:=by funext k t;unfold set48;rw[s_47];cases t<;>rfl
theorem s_49(x:α):set49 x=setN x 49:=by funext k t;unfold set49;rw[s_48];cases t<;>rfl
theorem s_50(x:α):set50 x=setN x 50:=by funext k t;unfold set50;rw[s_49];cases t<;>rfl
theorem s_51(x:α):set51 x=setN x 51:=by funext k t;unfold set51;rw[s_50];cases t<;>rfl
theorem s_52(x:α):set52 x=setN x 52:=by funext k t;unfold set52;rw[s_51];cases t<;>rfl
theorem s_53(x:α):set53 x=setN x 53:=by funext k t;unfold set53;rw[s_52];cases t<;>rfl
theorem s_54(x:α):set54 x=setN x 54:=by funext k t;unfold set54;rw[s_53];cases t<;>rfl
theorem s_55(x:α):set55 x=setN x 55:=by funext k t;unfold set55;rw[s_54];cases t<;>rfl
theorem s_56(x:α):set56 x=setN x 56:=by funext k t;unfold set56;rw[s_55];cases t<;>rfl
theorem s_57(x:α):set57 x=setN x 57:=by funext k t;unfold set57;rw[s_56];cases t<;>rfl
theorem s_58(x:α):set58 x=setN x 58:=by funext k t;unfold set58;rw[s_57];cases t<;>rfl
theorem s_59(x:α):set59 x=setN x 59:=by funext k t;unfold set59;rw[s_58];cases t<;>rfl
theorem s_60(x:α):set60 x=setN x 60:=by funext k t;unfold set60;rw[s_59];cases t<;>rfl
theorem s_61(x:α):set61 x=setN x 61:=by funext k t;unfold set61;rw[s_60];cases t<;>rfl
theorem s_62(x:α):set62 x=setN x 62:=by funext k t;unfold set62;rw[s_61];cases t<;>rfl
theorem s_63(x:α):set63 x=setN x 63:=by funext k t;unfold set63;rw[s_62];cases t<;>rfl
theorem s_64(x:α):set64 x=setN x 64:=by funext k t;unfold set64;rw[s_63];cases t<;>rfl
theorem get_eqN(t:Tr α)(k:Nat):t.get k=getN 64 t k:=by unfold get;rw[g_64]
theorem set_eqN(n:Nat)(t:Tr α)(k:Nat)(x:α):t.set n k x=setN x 64 k t:=by unfold set;rw[s_64]
theorem beq_no{k j:Nat}(h:¬k=j):zA k j=false:=by rw[Bool.eq_false_iff];intro e;exact h (Nat.eq_of_beq_eq_true e)
theorem getN_nil(n k:Nat):getN n (nil:Tr α) k=none:=by cases n<;>rfl
theorem getN_node(n:Nat)(v:Option α)(l r:Tr α)(k:Nat):getN (n+1) (node v l r) k=if k=0 then v else if k % 2=1 then getN n l (k / 2)else getN n r (k / 2-1):=by
 show(zB (zA k 0) (zB (zA (Nat.mod k 2) 1) (getN n r (zF (zD k 2))) (getN n l (zD k 2))) v:Option α)=_
 by_cases h:k=0
 .subst h;rfl
 .rw[beq_no h,if_neg h]
  show(zB (zA (k % 2) 1) (getN n r (k / 2-1)) (getN n l (k / 2)):Option α)=_
  by_cases h2:k % 2=1
  .rw[h2,if_pos rfl];rfl
  .rw[beq_no h2,if_neg h2]
theorem get_nil(k:Nat):(nil:Tr α).get k=none:=rfl
theorem setN_eq(n:Nat)(t:Tr α)(k:Nat)(x:α):setN x (n+1) k t =
  match t with
  | .nil=>if k=0 then .node (some x) .nil .nil else if k % 2=1 then .node none (setN x n (k / 2) .nil) .nil else .node none .nil (setN x n (k / 2-1) .nil)
  | .node v l r=>if k=0 then .node (some x) l r else if k % 2=1 then .node v (setN x n (k / 2) l) r else .node v l (setN x n (k / 2-1) r):=by
 have q:∀(v:Option α) (l u:Tr α),(Tr.casesOn u (.node v l .nil) fun a b c=>.node v l (.node a b c):Tr α)=.node v l u:=fun v l u=>by cases u<;>rfl
 have q':∀(v:Option α) (r u:Tr α),(Tr.casesOn u (.node v .nil r) fun a b c=>.node v (.node a b c) r:Tr α)=.node v u r:=fun v r u=>by cases u<;>rfl
 cases t with
 | nil=>
  show(zB (zA k 0) (zB (zA (k % 2) 1) (Tr.casesOn (setN x n (k / 2-1) .nil) (.node none .nil .nil) fun a b c=>.node none .nil (.node a b c)) (Tr.casesOn (setN x n (k / 2) .nil) (.node none .nil .nil) fun a b c=>.node none (.node a b c) .nil)) (.node (some x) .nil .nil):Tr α)=if k=0 then .node (some x) .nil .nil else if k % 2=1 then .node none (setN x n (k / 2) .nil) .nil else .node none .nil (setN x n (k / 2-1) .nil)
  rw[q,q']
  by_cases h:k=0
  .subst h;rfl
  .rw[beq_no h,if_neg h]
   by_cases h2:k % 2=1
   .rw[h2,if_pos rfl];rfl
   .rw[beq_no h2,if_neg h2]
 | node v l r=>
  show(zB (zA k 0) (zB (zA (k % 2) 1) (Tr.casesOn (setN x n (k / 2-1) r) (.node v l .nil) fun a b c=>.node v l (.node a b c)) (Tr.casesOn (setN x n (k / 2) l) (.node v .nil r) fun a b c=>.node v (.node a b c) r)) (.node (some x) l r):Tr α)=if k=0 then .node (some x) l r else if k % 2=1 then .node v (setN x n (k / 2) l) r else .node v l (setN x n (k / 2-1) r)
  rw[q,q']
  by_cases h:k=0
  .subst h;rfl
  .rw[beq_no h,if_neg h]
   by_cases h2:k % 2=1
   .rw[h2,if_pos rfl];rfl
   .rw[beq_no h2,if_neg h2]
theorem getN_setN(n:Nat):∀(t:Tr α) (k j:Nat) (x:α),k+1<2 ^ n→getN n (setN x n k t) j=if j=k then some x else getN n t j:=by
 induction n with
 | zero=>intro t k j x h;simp at h
 | succ n ih=>
  intro t k j x h
  have hp:2 ^ (n+1)=2*2 ^ n:=by rw[Nat.pow_succ];omega
  rw[setN_eq]
  have go:∀(v:Option α) (l r:Tr α),
    getN (n+1) (if k=0 then Tr.node (some x) l r else if k % 2=1 then .node v (setN x n (k / 2) l) r else .node v l (setN x n (k / 2-1) r)) j =
     if j=k then some x else getN (n+1) (Tr.node v l r) j:=by
   intro v l r
   by_cases h0:k=0
   .rw[if_pos h0];subst h0
    rw[getN_node,getN_node]
    by_cases hj:j=0
    .rw[if_pos hj,if_pos hj]
    .rw[if_neg hj,if_neg hj,if_neg hj]
   .rw[if_neg h0]
    by_cases h1:k % 2=1
    .rw[if_pos h1,getN_node,getN_node]
     by_cases hj:j=0
     .rw[if_pos hj,if_pos hj,if_neg (by omega)]
     .rw[if_neg hj,if_neg hj]
      by_cases hj1:j % 2=1
      .rw[if_pos hj1,if_pos hj1,ih _ _ _ _ (by omega)]
       by_cases e:j=k
       .subst e;rw[if_pos rfl,if_pos rfl]
       .rw[if_neg e,if_neg (by omega)]
      .rw[if_neg hj1,if_neg hj1,if_neg (by intro e;subst e;exact hj1 h1)]
    .rw[if_neg h1,getN_node,getN_node]
     by_cases hj:j=0
     .rw[if_pos hj,if_pos hj,if_neg (by omega)]
     .rw[if_neg hj,if_neg hj]
      by_cases hj1:j % 2=1
      .rw[if_pos hj1,if_pos hj1,if_neg (by intro e;subst e;exact h1 hj1)]
      .rw[if_neg hj1,if_neg hj1,ih _ _ _ _ (by omega)]
       by_cases e:j=k
       .subst e;rw[if_pos rfl,if_pos rfl]
       .rw[if_neg e,if_neg (by omega)]
  cases t with
  | nil=>
   have:=go none .nil .nil
   rw[getN_node]at this
   simp only[getN_nil,ite_self]at this
   simpa only[getN_nil]using this
  | node v l r=>exact go v l r
theorem get_set(n:Nat)(t:Tr α)(k j:Nat)(x:α)(h:k+1<2 ^ 64):(t.set n k x).get j=if j=k then some x else t.get j:=by
 rw[get_eqN,set_eqN,get_eqN]
 exact getN_setN 64 t k j x h
theorem get_ofList:∀(l:List α) (k:Nat) (t:Tr α) (j:Nat),k+l.length<2 ^ 12→
  (ofList l k t).get j=if k≤j∧j<k+l.length then l[j-k]? else t.get j:=by
 intro l
 induction l with
 | nil=>intro k t j _;simp only[ofList,List.length_nil];rw[if_neg (by omega)]
 | cons x l ih=>
  intro k t j h
  simp only[zG]at h
  simp only[ofList]
  rw[ih (k+1) _ j (by omega),get_set _ _ _ _ _ (by omega)]
  simp only[zG]
  by_cases h1:k+1≤j∧j<k+1+l.length
  .rw[if_pos h1,if_pos (by omega)]
   obtain⟨d,rfl⟩:∃d,j=k+1+d:=⟨j-(k+1),by omega⟩
   rw[show k+1+d-(k+1)=d from by omega,show k+1+d-k=d+1 from by omega]
   rfl
  .rw[if_neg h1]
   by_cases h2:j=k
   .subst h2;rw[if_pos rfl,if_pos (by omega)];simp
   .rw[if_neg h2,if_neg (by omega)]
end Tr
theorem Hp.get_put{h:Hp}{b j:Nat}{x:Blk}(hb:b<9223372036854775808):(h.put b x).get j=if j=b then some x else h.get j:=by
 rw[Hp.put_eq]
 unfold Hp.get
 rw[Tr.force_eq]
 exact Tr.get_set 24 _ _ _ _ (by omega)
theorem Hp.put_next{h:Hp}{b:Nat}{x:Blk}:(h.put b x).next=h.next:=by rw[Hp.put_eq,Tr.force_eq]
theorem Hp.new_some{h h':Hp}{b:Nat}{x:Blk}(e:h.new x=some (b,h')):b=h.next∧h'.next=h.next+1∧h.next<9223372036854775808∧∀j,h'.get j=if j=h.next then some x else h.get j:=by
 rw[Hp.new_eq]at e
 cases hc:Nat.blt h.next 9223372036854775808 with
 | false=>rw[hc,cond_false]at e;cases e
 | true=>
  rw[hc,cond_true,Tr.force_eq]at e
  have hlt:h.next<9223372036854775808:=zK (Nat.lt_succ_self _) (Nat.le_of_ble_eq_true hc)
  injection e with e
  injection e with e1 e2
  subst e1 e2
  refine⟨rfl,rfl,hlt,fun j=>?_⟩
  show Tr.get _ _=_
  rw[Tr.get_set 24 _ _ _ _ (by omega)]
  rfl
theorem lset_some{α:Type}:∀ {l:List α} {n:Nat} {y:α} {r:List α},lset l n y=some r→n<l.length∧r=l.set n y:=by
 intro l
 induction l with
 | nil=>intro n y r h;cases h
 | cons x l ih=>
  intro n y r h
  cases n with
  | zero=>simp only[lset,zC]at h;subst h;simp
  | succ n=>
   simp only[lset]at h
   cases hr:lset l n y with
   | none=>rw[hr]at h;cases h
   | some q=>
    rw[hr]at h
    simp only[zC]at h
    obtain⟨h1,rfl⟩:=ih hr
    subst h
    exact⟨by simp;omega,by simp⟩
theorem ltake_some{α:Type}:∀ {n:Nat} {l r:List α},ltake n l=some r→n≤l.length∧r=l.take n:=by
 intro n
 induction n with
 | zero=>intro l r h;simp only[ltake,zC]at h;subst h;simp
 | succ n ih=>
  intro l r h
  cases l with
  | nil=>cases h
  | cons x l=>
   simp only[ltake]at h
   cases hr:ltake n l with
   | none=>rw[hr]at h;cases h
   | some q=>
    rw[hr]at h
    simp only[zC]at h
    obtain⟨h1,rfl⟩:=ih hr
    subst h
    exact⟨by simp;omega,by simp⟩
theorem ldrop_some{α:Type}:∀ {n:Nat} {l r:List α},ldrop n l=some r→n≤l.length∧r=l.drop n:=by
 intro n
 induction n with
 | zero=>intro l r h;simp only[ldrop,zC]at h;subst h;simp
 | succ n ih=>
  intro l r h
  cases l with
  | nil=>cases h
  | cons x l=>
   simp only[ldrop]at h
   obtain⟨h1,rfl⟩:=ih h
   exact⟨by simp;omega,by simp⟩
theorem zav{α:Type}{l r:List α}{at_ n:Nat}(h:lcut l at_ n=some r):at_+n≤l.length∧r=(l.drop at_).take n∧r.length=n:=by
 unfold lcut at h
 cases hd:ldrop at_ l with
 | none=>rw[hd]at h;cases h
 | some q=>
  rw[hd]at h
  obtain⟨h1,rfl⟩:=ldrop_some hd
  obtain⟨h2,rfl⟩:=ltake_some h
  rw[zH]at h2
  exact⟨by omega,rfl,by rw[zE,zH];omega⟩
theorem zaW{α:Type}{l r:List α}{at_ n:Nat}(h:lcut l at_ n=some r)(j:Nat)(hj:j<n):r[j]?=l[at_+j]?:=by
 obtain⟨_,rfl,_⟩:=zav h
 rw[List.getElem?_take,if_pos hj,List.getElem?_drop]
theorem zbk{α:Type}:∀ {n:Nat} {l xs r:List α},zaz l xs n=some r→n+xs.length≤l.length∧r=l.take n++xs++l.drop (n+xs.length):=by
 intro n
 induction n with
 | zero=>
  intro l xs r h
  simp only[zaz]at h
  cases hd:ldrop xs.length l with
  | none=>rw[hd]at h;cases h
  | some q=>
   rw[hd]at h
   simp only[zC]at h
   obtain⟨h1,rfl⟩:=ldrop_some hd
   subst h
   exact⟨by omega,by simp⟩
 | succ n ih=>
  intro l xs r h
  cases l with
  | nil=>cases h
  | cons x l=>
   simp only[zaz]at h
   cases hr:zaz l xs n with
   | none=>rw[hr]at h;cases h
   | some q=>
    rw[hr]at h
    simp only[zC]at h
    obtain⟨h1,rfl⟩:=ih hr
    subst h
    refine⟨by simp;omega,?_⟩
    rw[show n+1+xs.length=(n+xs.length)+1 from by omega]
    simp
theorem zaB{α:Type}{n:Nat}{l xs r:List α}(h:zaz l xs n=some r):r.length=l.length:=by
 obtain⟨h1,rfl⟩:=zbk h
 simp only[zI,zE,zH]
 omega
theorem zax{α:Type}{n:Nat}{l xs r:List α}(h:zaz l xs n=some r)(j:Nat):r[j]?=if n≤j∧j<n+xs.length then xs[j-n]? else l[j]?:=by
 obtain⟨h1,rfl⟩:=zbk h
 by_cases ha:j<n
 .rw[if_neg (by omega),zL,List.getElem?_append_left (by rw[zE];omega),List.getElem?_take,if_pos ha]
 .by_cases hb:j<n+xs.length
  .rw[if_pos (by omega),zL,List.getElem?_append_right (by rw[zE];omega),zE,Nat.min_eq_left (by omega),List.getElem?_append_left (by omega)]
  .rw[if_neg (by omega),List.getElem?_append_right (by simp only[zI,zE];omega),List.getElem?_drop]
   simp only[zI,zE]
   rw[Nat.min_eq_left (by omega),show n+xs.length+(j-(n+xs.length))=j from by omega]
structure Info where
 blk:Nat
 off:Nat
 ex:Nat
abbrev Bt:=Nat→Option Info
def Bt.le(β β':Bt):Prop:=∀b i,β b=some i→β' b=some i
theorem Bt.le.refl(β:Bt):β.le β:=fun _ _ h=>h
theorem Bt.le.trans{a b c:Bt}(h:a.le b)(k:b.le c):a.le c:=fun x i e=>k x i (h x i e)
inductive VR(β:Bt):Value→Value→Prop
 | lost (v:Value) (h:v.oneCell'=true):VR β (.complex .f32 0 0) v
 | any (v:Value):VR β (.complex .f32 1 0) v
 | rest8 (c a:Nat) (h:a % (c / 512)=c % 512) (ha:a≤255):VR β (.complex .f64 0 c) (.int .u8 a)
 | rest64 (c a:Nat) (h:a % (c / 512)=c % 512) (ha:a≤255):VR β (.complex .f32 0 (c+1)) (.int .i64 a)
 | noneLeft (a:Addr) (c:Nat):VR β (.chan none) (.slice (some a) 0 c)
 | bool (b:Bool):VR β (.bool b) (.bool b)
 | int (k:IntKind) (n:Int):VR β (.int k n) (.int k n)
 | string (s:ByteArray):VR β (.string s) (.string s)
 | nilPtr:VR β (.pointer none) (.pointer none)
 | ptr {b:Nat} {i:Info} (o:Nat) (h:β b=some i):VR β (.pointer (some ⟨b,o,none⟩)) (.pointer (some ⟨i.blk,i.off+o,none⟩))
 | nilSlice (n c:Nat):VR β (.slice none n c) (.slice none n c)
 | slice {b:Nat} {i:Info} (o n c:Nat) (h:β b=some i):VR β (.slice (some ⟨b,o,none⟩) n c) (.slice (some ⟨i.blk,i.off+o,none⟩) n (c+i.ex))
 | nilMap:VR β (.map none) (.map none)
 | map {b:Nat} {i:Info} (h:β b=some i):VR β (.map (some b)) (.map (some i.blk))
 | func (fn:Fn) {xs ys cs ds:Array Value} (h1:xs.size=ys.size) (h2:∀(i:Nat) (x y:Value),xs[i]?=some x→ys[i]?=some y→VR β x y)
   (h3:cs.size=ds.size) (h4:∀(i:Nat) (x y:Value),cs[i]?=some x→ds[i]?=some y→VR β x y):VR β (.func fn xs cs) (.func fn ys ds)
 | nilFunc:VR β .nilFunc .nilFunc
 | nilIface:VR β .nilIface .nilIface
 | iface (t:TypeId) {x y:Value} (h:VR β x y):VR β (.iface t x) (.iface t y)
 | agg {xs ys:Array Value} (h1:xs.size=ys.size) (h2:∀(i:Nat) (x y:Value),xs[i]?=some x→ys[i]?=some y→VR β x y):VR β (.agg xs) (.agg ys)
 | tuple {xs ys:Array Value} (h1:xs.size=ys.size) (h2:∀(i:Nat) (x y:Value),xs[i]?=some x→ys[i]?=some y→VR β x y):VR β (.tuple xs) (.tuple ys)
theorem VR.mono{β β':Bt}(hb:β.le β'){v v':Value}(h:VR β v v'):VR β' v v':=by
 induction h with
 | lost v h=>exact .lost v h
 | any v=>exact .any v
 | rest8 c a h ha=>exact .rest8 c a h ha
 | rest64 c a h ha=>exact .rest64 c a h ha
 | noneLeft a c=>exact .noneLeft a c
 | bool b=>exact .bool b
 | int k n=>exact .int k n
 | string s=>exact .string s
 | nilPtr=>exact .nilPtr
 | ptr o h=>exact .ptr o (hb _ _ h)
 | nilSlice n c=>exact .nilSlice n c
 | slice o n c h=>exact .slice o n c (hb _ _ h)
 | nilMap=>exact .nilMap
 | map h=>exact .map (hb _ _ h)
 | func fn h1 _ h3 _ ih1 ih2=>exact .func fn h1 ih1 h3 ih2
 | nilFunc=>exact .nilFunc
 | nilIface=>exact .nilIface
 | iface t _ ih=>exact .iface t ih
 | agg h1 _ ih=>exact .agg h1 ih
 | tuple h1 _ ih=>exact .tuple h1 ih
def LR(β:Bt)(l l':List Value):Prop:=l.length=l'.length∧∀(i:Nat) (x y:Value),l[i]?=some x→l'[i]?=some y→VR β x y
theorem LR.nil(β:Bt):LR β [] []:=⟨rfl,fun i x y h=>by simp at h⟩
theorem LR.cons{β:Bt}{x y:Value}{l l':List Value}(h:VR β x y)(k:LR β l l'):LR β (x::l) (y::l'):=by
 refine⟨by simp[k.1],fun i a b ha hb=>?_⟩
 cases i with
 | zero=>simp at ha hb;subst ha hb;exact h
 | succ i=>exact k.2 i a b (by simpa using ha) (by simpa using hb)
theorem LR.head{β:Bt}{x y:Value}{l l':List Value}(h:LR β (x::l) (y::l')):VR β x y:=h.2 0 x y rfl rfl
theorem LR.tail{β:Bt}{x y:Value}{l l':List Value}(h:LR β (x::l) (y::l')):LR β l l':=
 ⟨by have:=h.1;simpa using this,fun i a b ha hb=>h.2 (i+1) a b (by simpa using ha) (by simpa using hb)⟩
theorem LR.append{β:Bt}{a b c d:List Value}(h:LR β a b)(k:LR β c d):LR β (a++c) (b++d):=by
 refine⟨by simp[h.1,k.1],fun i x y hx hy=>?_⟩
 rcases Nat.lt_or_ge i a.length with hi|hi
 .rw[List.getElem?_append_left hi]at hx
  rw[List.getElem?_append_left (by rw[←h.1];exact hi)]at hy
  exact h.2 i x y hx hy
 .rw[List.getElem?_append_right hi]at hx
  rw[List.getElem?_append_right (by rw[←h.1];exact hi),←h.1]at hy
  exact k.2 _ x y hx hy
theorem LR.take{β:Bt}{a b:List Value}(h:LR β a b)(n:Nat):LR β (a.take n) (b.take n):=by
 refine⟨by simp[h.1],fun i x y hx hy=>?_⟩
 rw[List.getElem?_take]at hx hy
 by_cases hi:i<n
 .rw[if_pos hi]at hx hy;exact h.2 i x y hx hy
 .rw[if_neg hi]at hx;cases hx
theorem LR.drop{β:Bt}{a b:List Value}(h:LR β a b)(n:Nat):LR β (a.drop n) (b.drop n):=by
 refine⟨by simp[h.1],fun i x y hx hy=>?_⟩
 rw[List.getElem?_drop]at hx hy
 exact h.2 _ x y hx hy
theorem LR.get{β:Bt}{a b:List Value}(h:LR β a b){i:Nat}{x:Value}(hx:a[i]?=some x):∃y,b[i]?=some y∧VR β x y:=by
 have hi:i<a.length:=(List.getElem?_eq_some_iff.1 hx).1
 have hj:i<b.length:=by rw[←h.1];exact hi
 exact⟨b[i],List.getElem?_eq_getElem hj,h.2 i x _ hx (List.getElem?_eq_getElem hj)⟩
def Bare:Value→Prop
 | .bool _|.int _ _|.string _|.nilIface|.nilFunc|.pointer none|.map none|.slice none _ _=>True
 | _=>False
theorem VR.bare{β:Bt}{v:Value}(h:Bare v):VR β v v:=by
 cases v with
 | bool b=>exact .bool b
 | int k n=>exact .int k n
 | string s=>exact .string s
 | pointer a=>cases a with|none=>exact .nilPtr|some a=>exact h.elim
 | slice a n c=>cases a with|none=>exact .nilSlice n c|some a=>exact h.elim
 | map r=>cases r with|none=>exact .nilMap|some r=>exact h.elim
 | nilFunc=>exact .nilFunc
 | nilIface=>exact .nilIface
 | _=>exact h.elim
theorem VR.undef(β:Bt):VR β undef undef:=.tuple rfl (fun i x y h=>by simp at h)
theorem VR.one{β:Bt}{v v':Value}(h:VR β v v')(h1:one_ v=true):v'.oneCell'=true:=by
 cases h<;>first|rfl|assumption|(cases h1)
theorem LR.refl_bare{β:Bt}:∀ {l:List Value},(∀v∈l,VR β v v)→LR β l l:=by
 intro l h
 exact⟨rfl,fun i x y hx hy=>by rw[hx]at hy;injection hy with hy;subst hy;exact h x (List.mem_of_getElem? hx)⟩
theorem VR.cells{β:Bt}{v v':Value}(h:VR β v v')(hn:isAny v=false):LR β v.cells.toList v'.cells.toList:=by
 cases h with
 | any v=>cases hn
 | lost v h=>
  have:v'.cells=#[v']:=by cases v'<;>first|rfl|(cases h)
  rw[this]
  exact LR.cons (.lost _ h) (LR.nil β)
 | agg h1 h2=>exact⟨by simpa [Value.cells]using h1,fun i x y hx hy=>h2 i x y (by simpa [Value.cells]using hx) (by simpa [Value.cells]using hy)⟩
 | _=>exact LR.cons (by first|exact .bool _|exact .int _ _|exact .string _|exact .nilPtr|exact .ptr _ ‹_›|exact .nilSlice _ _|exact .slice _ _ _ ‹_›|exact .nilMap|exact .map ‹_›|exact .func _ ‹_› ‹_› ‹_› ‹_›|exact .nilFunc|exact .nilIface|exact .iface _ ‹_›|exact .tuple ‹_› ‹_›|exact .rest8 _ _ (by assumption) (by assumption)|exact .rest64 _ _ (by assumption) (by assumption)|exact .noneLeft _ _) (LR.nil β)
end Go.Proofs.YtponjccgpbgnoaaGreatDoor
namespace Go.Proofs.YtponjccgpbgnoaaGreatDoor
open Go Go.RowKit
def Blk.empty:Blk→Prop
 | .cells [] _ false true=>True
 | .dead=>True
 | .view _=>True
 | _=>False
def Blk.mine:Blk→Prop
 | .cells _ _ _ false=>True
 | .map _ _=>True
 | _=>False
def Fine(fr:Nat×Nat)(n:Nat):Prop:=fr.1=fr.2∨n≤fr.1
theorem Fine.out{fr:Nat×Nat}{n:Nat}(h:Fine fr n):∀o,o<n→¬(fr.1≤o∧o<fr.2):=fun o ho=>by
 rcases h with h|h<;>omega
def BlkOk(P:Program)(β:Bt)(w:World)(i:Info):Blk→Prop
 | .cells c e exact ro=>(c=[]∧ro=true∧exact=false)∨∃cc e' fr,w.heap[i.blk]?=some (.cells cc e' fr)∧i.off+c.length≤cc.size∧
   (∀(k:Nat) (x y:Value),c[k]?=some x→cc[i.off+k]?=some y→VR β x y)∧(exact=true→i.ex=0∧i.off=0∧cc.size=c.length)∧
   (ro=false→e'=e∧Fine fr cc.size∧i.off+c.length+i.ex*P.cellsOf e≤cc.size)
 | .map es clock=>w.heap[i.blk]?=some (.map es.toArray clock)∧∀e∈es,zcv e.key=true∧zcv e.val=true
 | .dead=>True
 | .view b=>i.ex=0∧∃j,β b=some j∧j.blk=i.blk∧j.off=i.off
structure HR(P:Program)(β:Bt)(h:Hp)(w:World):Prop where
 most:h.next≤9223372036854775808
 dom:∀b i,β b=some i→b<h.next
 has:∀b x,h.get b=some x→∃i,β b=some i
 ok:∀b x i,h.get b=some x→β b=some i→BlkOk P β w i x
 apart:∀b b' i i' x y,h.get b=some x→h.get b'=some y→b≠b'→β b=some i→β b'=some i'→x.mine→¬y.empty→i.blk≠i'.blk
theorem blkOk_mono{P:Program}{β β':Bt}(hb:β.le β'){w:World}{i:Info}{x:Blk}(h:BlkOk P β w i x):BlkOk P β' w i x:=by
 cases x with
 | cells c e ex ro=>
  rcases h with h|⟨cc,e',fr,h1,h2,h3,h4,h5⟩
  .exact .inl h
  .exact .inr ⟨cc,e',fr,h1,h2,fun k x y a b=>(h3 k x y a b).mono hb,h4,h5⟩
 | map es clock=>exact h
 | dead=>trivial
 | view b=>exact⟨h.1,h.2.choose,hb _ _ h.2.choose_spec.1,h.2.choose_spec.2⟩
theorem zaK{P:Program}{β:Bt}{w w':World}{i:Info}{x:Blk}(h:BlkOk P β w i x)(hw:¬x.empty→w'.heap[i.blk]?=w.heap[i.blk]?):BlkOk P β w' i x:=by
 cases x with
 | cells c e ex ro=>
  rcases h with h|⟨cc,e',fr,h1,h2,h3,h4,h5⟩
  .exact .inl h
  .by_cases he:c=[]∧ro=true∧ex=false
   .exact .inl he
   .refine .inr ⟨cc,e',fr,?_,h2,h3,h4,h5⟩
    rw[hw ?_]
    .exact h1
    .intro hx
     cases c with
     | nil=>cases ro with
      | true=>cases ex with
       | true=>exact hx
       | false=>exact he ⟨rfl,rfl,rfl⟩
      | false=>cases ex<;>exact hx
     | cons a l=>cases ex<;>cases ro<;>exact hx
 | map es clock=>exact⟨by rw[hw (fun hx=>hx)];exact h.1,h.2⟩
 | dead=>trivial
 | view b=>exact h
theorem blk_lt{P:Program}{β:Bt}{w:World}{i:Info}{x:Blk}(h:BlkOk P β w i x)(he:¬x.empty):i.blk<w.heap.size:=by
 cases x with
 | cells c e ex ro=>
  rcases h with⟨rfl,rfl,rfl⟩|⟨cc,e',fr,h1,_⟩
  .exact absurd trivial he
  .exact(Array.getElem?_eq_some_iff.1 h1).1
 | map es clock=>exact(Array.getElem?_eq_some_iff.1 h.1).1
 | dead=>exact absurd trivial he
 | view b=>exact absurd trivial he
theorem zaC{x:Blk}(h:x.mine):¬x.empty:=by
 intro he
 cases x with
 | cells c e ex ro=>
  cases ro with
  | true=>exact h
  | false=>cases c<;>cases ex<;>exact he
 | map es clock=>exact he
 | dead=>exact h
 | view b=>exact h
def Own(β:Bt)(h:Hp)(k:Nat):Prop:=∃b i x,h.get b=some x∧x.mine∧β b=some i∧i.blk=k
def Held(β:Bt)(h:Hp)(k:Nat):Prop:=∃b i x,h.get b=some x∧¬x.empty∧β b=some i∧i.blk=k
theorem Own.held{β:Bt}{h:Hp}{k:Nat}(o:Own β h k):Held β h k:=by
 obtain⟨b,i,x,h1,h2,h3,h4⟩:=o
 exact⟨b,i,x,h1,zaC h2,h3,h4⟩
structure St(β:Bt)(h:Hp)(w:World)(β':Bt)(h':Hp)(w':World):Prop where
 le:β.le β'
 os:w'.os=w.os
 tape:w'.tape=w.tape
 output:w'.output=w.output
 size:w.heap.size≤w'.heap.size
 keep:∀k,k<w.heap.size→¬Own β h k→w'.heap[k]?=w.heap[k]?
 own:∀k,Own β' h' k→Own β h k∨w.heap.size≤k
 held:∀k,Held β' h' k→Held β h k∨w.heap.size≤k
theorem St.refl(β:Bt)(h:Hp)(w:World):St β h w β h w:=⟨.refl _,rfl,rfl,rfl,Nat.le_refl _,fun _ _ _=>rfl,fun _ h=>.inl h,fun _ h=>.inl h⟩
theorem St.trans{a b c:Bt}{h1 h2 h3:Hp}{w1 w2 w3:World}(s:St a h1 w1 b h2 w2)(t:St b h2 w2 c h3 w3):St a h1 w1 c h3 w3 where
 le:=s.le.trans t.le
 os:=t.os.trans s.os
 tape:=t.tape.trans s.tape
 output:=t.output.trans s.output
 size:=zJ s.size t.size
 keep:=fun k hk hn=>by
  rw[t.keep k (zK hk s.size) (fun ho=>by
   rcases s.own k ho with h|h
   .exact hn h
   .omega),s.keep k hk hn]
 own:=fun k hk=>by
  rcases t.own k hk with h|h
  .exact s.own k h
  .exact .inr (zJ s.size h)
 held:=fun k hk=>by
  rcases t.held k hk with h|h
  .exact s.held k h
  .exact .inr (zJ s.size h)
theorem HR.drawn{P:Program}{β:Bt}{h:Hp}{w w':World}(H:HR P β h w)(hw:w'.heap=w.heap):HR P β h w' where
 most:=H.most
 dom:=H.dom
 has:=H.has
 ok:=fun b x i a c=>zaK (H.ok b x i a c) (fun _=>by rw[hw])
 apart:=H.apart
theorem St.drawn{β:Bt}{h:Hp}{w w':World}(hw:w'.heap=w.heap)(h1:w'.os=w.os)(h2:w'.tape=w.tape)(h3:w'.output=w.output):St β h w β h w':=
 ⟨.refl _,h1,h2,h3,by rw[hw];exact Nat.le_refl _,fun k _ _=>by rw[hw],fun _ h=>.inl h,fun _ h=>.inl h⟩
theorem cell_heap{w:World}{b o:Nat}{cc:Array Value}{e:TypeId}{fr:Nat×Nat}(h:w.heap[b]?=some (.cells cc e fr)):w.cell? ⟨b,o,none⟩=cc[o]?:=by
 simp[World.cell?,h]
theorem za9(b o n:Nat):(⟨b,o,none⟩:Addr).add n=⟨b,o+n,none⟩:=by
 unfold Addr.add
 split<;>simp_all
theorem zc5{P:Program}{β:Bt}{h:Hp}{w:World}(H:HR P β h w){b:Nat}{c:List Value}{e:TypeId}{ex ro:Bool}(hg:h.get b=some (.cells c e ex ro)){o n:Nat}{l:List Value}(hl:lcut c o n=some l){i:Info}(hi:β b=some i) :
  ∃l':List Value,(∀W:World,W.heap=w.heap→(loadCells ⟨i.blk,i.off+o,none⟩ n).run P W=.ok l'.toArray W)∧LR β l l'∧l.length=n:=by
 obtain⟨h1,_,h2⟩:=zav hl
 have hget:=zaW hl
 rcases H.ok _ _ _ hg hi with⟨rfl,_⟩|⟨cc,e',fr,hb,hs,hv,_⟩
 .have h0:n=0:=by simp at h1;omega
  subst h0
  have:l=[]:=List.eq_nil_of_length_eq_zero h2
  subst this
  exact⟨[],fun W _=>rfl,LR.nil β,rfl⟩
 .have hc:∀j,j<n→∃y,cc[i.off+(o+j)]?=some y∧∀x,l[j]?=some x→VR β x y:=by
   intro j hj
   have hlt:i.off+(o+j)<cc.size:=by omega
   refine⟨cc[i.off+(o+j)],Array.getElem?_eq_getElem hlt,fun x hx=>?_⟩
   rw[hget j hj]at hx
   exact hv _ _ _ hx (Array.getElem?_eq_getElem hlt)
  refine⟨(List.range n).map (fun j=>cc.getD (i.off+(o+j)) undef),?_,⟨by simp[h2],fun j x y hx hy=>?_⟩,h2⟩
  .intro W hW
   refine run_loadCells _ _ _ _ (fun j hj=>?_)
   obtain⟨y,hy,_⟩:=hc j hj
   rw[za9,cell_heap (hW▸hb),Nat.add_assoc,hy]
   simp[Array.getD_eq_getD_getElem?,hy]
  .have hj:j<n:=by rw[←h2];exact(List.getElem?_eq_some_iff.1 hx).1
   obtain⟨z,hz,hR⟩:=hc j hj
   have:y=z:=by
    rw[List.getElem?_map,List.getElem?_range hj]at hy
    simp[Array.getD_eq_getD_getElem?,hz]at hy
    exact hy.symm
   subst this
   exact hR x hx
theorem seen_at{P:Program}{β:Bt}{h:Hp}{w:World}(H:HR P β h w){b v:Nat}{i:Info}(hv:h.get v=some (.view b))(hi:β v=some i):i.ex=0∧∃j,β b=some j∧j.blk=i.blk∧j.off=i.off:=H.ok _ _ _ hv hi
theorem zbd{P:Program}{β:Bt}{h:Hp}{w:World}(H:HR P β h w){a:Addr}{n:Nat}{l:List Value}(hl:zaj h a n=some l){i:Info}(hi:β a.block=some i) :
  ∃l':List Value,(∀W:World,W.heap=w.heap→(loadCells ⟨i.blk,i.off+a.off,none⟩ n).run P W=.ok l'.toArray W)∧LR β l l'∧l.length=n:=by
 unfold zaj at hl
 cases hg:h.get a.block with
 | none=>rw[hg]at hl;cases hl
 | some x=>
  rw[hg]at hl
  cases x with
  | map es c=>cases hl
  | dead=>cases hl
  | cells c e ex ro=>exact zc5 H hg hl hi
  | view b=>
   simp only at hl
   obtain⟨_,j,hj,e1,e2⟩:=seen_at H hg hi
   cases hg2:h.get b with
   | none=>rw[hg2]at hl;cases hl
   | some x=>
    rw[hg2]at hl
    cases x with
    | map es c=>cases hl
    | dead=>cases hl
    | view b=>cases hl
    | cells c e ex ro=>rw[←e1,←e2];exact zc5 H hg2 hl hj
theorem zcK{P:Program}{eqs:List TypeId}(hp:P.types.size<4000){t:TypeId}{i:TypeInfo}(h:(Env.of P eqs).types.get t=some i):P.info? t=some i:=by
 unfold Env.of at h
 simp only at h
 rw[Tr.get_ofList _ _ _ _ (by simp;omega)]at h
 split at h
 .rename_i hc
  simp only[Nat.sub_zero,Nat.zero_add,Array.length_toList]at h hc
  unfold Tables.info?
  rw[if_pos hc.2]
  simpa using h
 .cases h
theorem env_func{P:Program}{eqs:List TypeId}(hp:P.funcs.size<4000){f:FuncId}{fn:Func}(h:(Env.of P eqs).funcs.get f=some fn):P.funcs[f]?=some fn:=by
 unfold Env.of at h
 simp only at h
 rw[Tr.get_ofList _ _ _ _ (by simp;omega)]at h
 split at h
 .simpa using h
 .cases h
section
variable {P:Program} {eqs:List TypeId} (hp:P.types.size<4000)
include hp
theorem zar{t:TypeId}{d:TypeDesc}(h:(Env.of P eqs).under t=some d):P.underlying t=some d:=by
 unfold Env.under at h
 cases hg:(Env.of P eqs).types.get t with
 | none=>rw[hg]at h;cases h
 | some i=>
  rw[hg]at h
  have hi:=zcK hp hg
  unfold Program.underlying
  rw[hi]
  obtain⟨desc,str,size,bytes,a1,a2,a3,zero,a4,a5⟩:=i
  cases desc with
  | named n u=>
   simp only at h ⊢
   cases hu:(Env.of P eqs).types.get u with
   | none=>rw[hu]at h;cases h
   | some j=>rw[hu]at h;rw[zcK hp hu];exact h
  | _=>simpa using h
theorem zdx{t:TypeId}{n:Nat}(h:(Env.of P eqs).size t=some n):∃i,P.info? t=some i∧i.size=n∧P.cellsOf t=n:=by
 unfold Env.size at h
 cases hg:(Env.of P eqs).types.get t with
 | none=>rw[hg]at h;cases h
 | some i=>
  rw[hg]at h
  have hi:=zcK hp hg
  simp only[Option.map_some,zC]at h
  exact⟨i,hi,h,by simp[Program.cellsOf,hi,h]⟩
theorem env_cmp{t:TypeId}{n:Bool}(h:(Env.of P eqs).cmp t=some n):∃i,P.info? t=some i∧i.comparable=n:=by
 unfold Env.cmp at h
 cases hg:(Env.of P eqs).types.get t with
 | none=>rw[hg]at h;cases h
 | some i=>rw[hg]at h;exact⟨i,zcK hp hg,by simpa using h⟩
theorem env_bytes{t:TypeId}{n:Nat}(h:(Env.of P eqs).bytes t=some n):∃i,P.info? t=some i∧i.bytes=n:=by
 unfold Env.bytes at h
 cases hg:(Env.of P eqs).types.get t with
 | none=>rw[hg]at h;cases h
 | some i=>rw[hg]at h;exact⟨i,zcK hp hg,by simpa using h⟩
omit hp in
theorem bare_ok{β:Bt}{v:Value}(h:bare_ v=true):VR β v v:=by
 refine VR.bare ?_
 cases v with
 | pointer a=>cases a with|none=>trivial|some a=>cases h
 | slice a n c=>cases a with|none=>trivial|some a=>cases h
 | map r=>cases r with|none=>trivial|some r=>cases h
 | _=>first|trivial|cases h
omit hp in
theorem bares_ok{β:Bt}:∀ {l:List Value},zdg l=true→LR β l l:=by
 intro l
 induction l with
 | nil=>intro _;exact LR.nil β
 | cons v l ih=>
  intro h
  simp only[zdg]at h
  cases hv:bare_ v with
  | false=>rw[hv]at h;cases h
  | true=>rw[hv]at h;exact LR.cons (bare_ok hv) (ih h)
theorem zbj{t:TypeId}{z:Value}(h:(Env.of P eqs).zero t=some z):(∃i,P.info? t=some i∧i.zero=some z)∧∀β,VR β z z:=by
 unfold Env.zero at h
 cases hg:(Env.of P eqs).types.get t with
 | none=>rw[hg]at h;cases h
 | some i=>
  rw[hg]at h
  have hi:=zcK hp hg
  simp only at h
  split at h
  .rename_i cs hz
   cases hb:zdg cs.toList with
   | false=>rw[hb]at h;cases h
   | true=>
    rw[hb]at h
    injection h with h
    subst h
    refine⟨⟨i,hi,hz⟩,fun β=>?_⟩
    have hl:=bares_ok (β:=β) hb
    exact .agg rfl (fun i x y hx hy=>hl.2 i x y (by simpa using hx) (by simpa using hy))
  .rename_i v _ hz
   cases hb:bare_ v with
   | false=>rw[hb]at h;cases h
   | true=>
    rw[hb]at h
    injection h with h
    subst h
    exact⟨⟨i,hi,hz⟩,fun β=>bare_ok hb⟩
  .cases h
theorem zak{t:TypeId}{n:Nat}(h:(Env.of P eqs).size t=some n)(w:World):(sizeOf t).run P w=.ok n w:=by
 obtain⟨i,h1,_,h2⟩:=zdx hp h
 rw[run_sizeOf w h1,h2]
theorem zad{t:TypeId}{d:TypeDesc}(h:(Env.of P eqs).under t=some d)(w:World):(underlying t).run P w=.ok d w:=run_underlying (zar hp h) w
theorem zbb{t:TypeId}{z:Value}(h:(Env.of P eqs).zero t=some z)(w:World):(zeroValue t).run P w=.ok z w:=by
 obtain⟨⟨i,h1,h2⟩,_⟩:=zbj hp h
 simp[zeroValue,run_typeInfo w h1,h2]
theorem run_agg{t:TypeId}{b:Bool}(h:(Env.of P eqs).agg t=some b)(w:World):(isAgg t).run P w=.ok b w:=by
 unfold Env.agg at h
 cases hg:(Env.of P eqs).under t with
 | none=>rw[hg]at h;cases h
 | some d=>
  rw[hg]at h
  have:=zad hp hg w
  unfold isAgg
  cases d<;>simp[this]at h ⊢<;>exact h
theorem loadVar_run{β:Bt}{h:Hp}{w:World}(H:HR P β h w){t:TypeId}{a:Addr}{v:Value}(hl:za8 (Env.of P eqs) h t a=some v){i:Info}(hi:β a.block=some i) :
  ∃v',(loadVar t ⟨i.blk,i.off+a.off,none⟩).run P w=.ok v' w∧VR β v v':=by
 unfold za8 at hl
 cases ha:(Env.of P eqs).agg t with
 | none=>rw[ha]at hl;cases hl
 | some g=>
  rw[ha]at hl
  cases g with
  | true=>
   cases hs:(Env.of P eqs).size t with
   | none=>rw[hs]at hl;cases hl
   | some n=>
    rw[hs]at hl
    simp only at hl
    cases hc:zaj h a n with
    | none=>rw[hc]at hl;cases hl
    | some l=>
     rw[hc]at hl
     simp only[zC]at hl
     subst hl
     obtain⟨l',hr,hR,_⟩:=zbd H hc hi
     refine⟨.agg l'.toArray,?_,.agg (by simpa using hR.1) (fun k x y hx hy=>hR.2 k x y (by simpa using hx) (by simpa using hy))⟩
     simp[loadVar,run_agg hp ha,zak hp hs,hr w rfl]
  | false=>
   simp only at hl
   cases hc:zaj h a 1 with
   | none=>rw[hc]at hl;cases hl
   | some l=>
    rw[hc]at hl
    obtain⟨l',hr,hR,hn⟩:=zbd H hc hi
    match l,l',hR,hn,hl with
    | [x],[y],hR,_,hl=>
     simp only[zC]at hl
     subst hl
     refine⟨y,?_,hR.head⟩
     have:(load ⟨i.blk,i.off+a.off,none⟩).run P w=.ok y w:=by
      have h2:=hr w rfl
      simp only[loadCells,loadCellsFrom,Sem.run_bind]at h2
      have e0:(⟨i.blk,i.off+a.off,none⟩:Addr).add 0=⟨i.blk,i.off+a.off,none⟩:=by rw[za9];rfl
      rw[e0]at h2
      cases hq:(load (⟨i.blk,i.off+a.off,none⟩:Addr)).run P w with
      | ok z w1=>
       rw[hq]at h2
       simp at h2
       obtain⟨rfl,rfl⟩:=h2
       rfl
      | halt e w1=>rw[hq]at h2;simp at h2
     simp only[loadVar,Sem.run_bind,run_agg hp ha,Result.andThen_ok,Bool.false_eq_true,if_false]
     exact this
    | [x],[],hR,_,_=>exact absurd hR.1 (by simp)
    | [x],_::_::_,hR,_,_=>exact absurd hR.1 (by simp)
end
theorem zbQ{w:World}{o:Obj}{k:Nat}(h:k<w.heap.size):({ w with heap:=w.heap.push o }:World).heap[k]?=w.heap[k]?:=by
 show(w.heap.push o)[k]?=_
 rw[Array.getElem?_push,if_neg (by omega)]
theorem zcI{w:World}{o:Obj}:({ w with heap:=w.heap.push o }:World).heap[w.heap.size]?=some o:=by
 show(w.heap.push o)[w.heap.size]?=_
 rw[Array.getElem?_push,if_pos rfl]
def Bt.put(β:Bt)(b:Nat)(i:Info):Bt:=fun k=>if k=b then some i else β k
theorem Bt.put_same(β:Bt)(b:Nat)(i:Info):β.put b i b=some i:=if_pos rfl
theorem Bt.put_other(β:Bt){b k:Nat}(i:Info)(h:k≠b):β.put b i k=β k:=if_neg h
theorem HR.new_id{P:Program}{β:Bt}{h:Hp}{w:World}(H:HR P β h w):β h.next=none:=by
 cases e:β h.next with
 | none=>rfl
 | some i=>exact absurd (H.dom _ _ e) (by omega)
theorem HR.le_put{P:Program}{β:Bt}{h:Hp}{w:World}(H:HR P β h w)(i:Info):β.le (β.put h.next i):=by
 intro b j e
 rw[Bt.put_other]
 .exact e
 .rintro rfl
  rw[H.new_id]at e
  cases e
theorem HR.grow{P:Program}{β:Bt}{h h':Hp}{w w':World}(H:HR P β h w){b:Nat}{x:Blk}(hn:h.new x=some (b,h'))(i:Info)
  (hold:∀b y j,h.get b=some y→β b=some j→¬y.empty→w'.heap[j.blk]?=w.heap[j.blk]?)
  (hx:BlkOk P (β.put h.next i) w' i x) (hfar:¬x.empty→∀b y j,h.get b=some y→β b=some j→¬y.empty→j.blk≠i.blk) :
  HR P (β.put h.next i) h' w':=by
 obtain⟨_,h1,h2,h3⟩:=Hp.new_some hn
 have hle:=H.le_put i
 have old:∀b y,h.get b=some y→b≠h.next:=by
  rintro b y e rfl
  obtain⟨j,hj⟩:=H.has _ _ e
  rw[H.new_id]at hj
  cases hj
 refine⟨by omega,?_,?_,?_,?_⟩
 .intro b j e
  by_cases hbn:b=h.next
  .omega
  .rw[Bt.put_other _ _ hbn]at e
   have:=H.dom _ _ e
   omega
 .intro b y e
  rw[h3]at e
  by_cases hbn:b=h.next
  .subst hbn;exact⟨i,Bt.put_same _ _ _⟩
  .rw[if_neg hbn]at e
   obtain⟨j,hj⟩:=H.has _ _ e
   exact⟨j,hle _ _ hj⟩
 .intro b y j e ej
  rw[h3]at e
  by_cases hbn:b=h.next
  .subst hbn
   rw[if_pos rfl]at e
   rw[Bt.put_same]at ej
   injection e with e
   injection ej with ej
   subst e ej
   exact hx
  .rw[if_neg hbn]at e
   rw[Bt.put_other _ _ hbn]at ej
   exact blkOk_mono hle (zaK (H.ok _ _ _ e ej) (fun he=>hold _ _ _ e ej he))
 .intro b b' j j' y z e e' hne ej ej' hm hz
  rw[h3]at e e'
  by_cases hbn:b=h.next
  .subst hbn
   rw[if_pos rfl]at e
   rw[if_neg (Ne.symm hne)]at e'
   rw[Bt.put_same]at ej
   rw[Bt.put_other _ _ (Ne.symm hne)]at ej'
   injection e with e
   injection ej with ej
   subst e ej
   exact Ne.symm (hfar (zaC hm) _ _ _ e' ej' hz)
  .rw[if_neg hbn]at e
   rw[Bt.put_other _ _ hbn]at ej
   by_cases hbn':b'=h.next
   .subst hbn'
    rw[if_pos rfl]at e'
    rw[Bt.put_same]at ej'
    injection e' with e'
    injection ej' with ej'
    subst e' ej'
    exact hfar hz _ _ _ e ej (zaC hm)
   .rw[if_neg hbn']at e'
    rw[Bt.put_other _ _ hbn']at ej'
    exact H.apart _ _ _ _ _ _ e e' hne ej ej' hm hz
theorem own_grow{P:Program}{β:Bt}{h h':Hp}{w:World}(H:HR P β h w){b:Nat}{x:Blk}(hn:h.new x=some (b,h'))(i:Info){k:Nat}(hk:Own (β.put h.next i) h' k):Own β h k∨(x.mine∧i.blk=k):=by
 obtain⟨_,h1,h2,h3⟩:=Hp.new_some hn
 obtain⟨c,j,y,e,hm,ej,rfl⟩:=hk
 rw[h3]at e
 by_cases hc:c=h.next
 .subst hc
  rw[if_pos rfl]at e
  rw[Bt.put_same]at ej
  injection e with e
  injection ej with ej
  subst e ej
  exact .inr ⟨hm,rfl⟩
 .rw[if_neg hc]at e
  rw[Bt.put_other _ _ hc]at ej
  exact .inl ⟨c,j,y,e,hm,ej,rfl⟩
theorem zda{P:Program}{β:Bt}{h h':Hp}{w:World}(H:HR P β h w){b:Nat}{x:Blk}(hn:h.new x=some (b,h'))(i:Info){k:Nat}(hk:Held (β.put h.next i) h' k):Held β h k∨(¬x.empty∧i.blk=k):=by
 obtain⟨_,h1,h2,h3⟩:=Hp.new_some hn
 obtain⟨c,j,y,e,hm,ej,rfl⟩:=hk
 rw[h3]at e
 by_cases hc:c=h.next
 .subst hc
  rw[if_pos rfl]at e
  rw[Bt.put_same]at ej
  injection e with e
  injection ej with ej
  subst e ej
  exact .inr ⟨hm,rfl⟩
 .rw[if_neg hc]at e
  rw[Bt.put_other _ _ hc]at ej
  exact .inl ⟨c,j,y,e,hm,ej,rfl⟩
theorem HR.fresh{P:Program}{β:Bt}{h h':Hp}{w:World}(H:HR P β h w){b:Nat}{x:Blk}(hn:h.new x=some (b,h'))(o:Obj)(ex:Nat)
  (hx:∀β':Bt,β.le β'→BlkOk P β' { w with heap:=w.heap.push o } ⟨w.heap.size,0,ex⟩ x) :
  HR P (β.put h.next ⟨w.heap.size,0,ex⟩) h' { w with heap:=w.heap.push o }∧St β h w (β.put h.next ⟨w.heap.size,0,ex⟩) h' { w with heap:=w.heap.push o }∧b=h.next:=by
 refine⟨H.grow hn _ ?_ (hx _ (H.le_put _)) ?_,⟨H.le_put _,rfl,rfl,rfl,by simp,fun k hk _=>zbQ hk,fun k hk=>?_,fun k hk=>?_⟩,(Hp.new_some hn).1⟩
 .intro b y j e ej he
  exact zbQ (blk_lt (H.ok _ _ _ e ej) he)
 .intro _ b y j e ej he
  have:=blk_lt (H.ok _ _ _ e ej) he
  show j.blk≠w.heap.size
  omega
 .rcases own_grow H hn _ hk with h|⟨_,h⟩
  .exact .inl h
  .exact .inr (Nat.le_of_eq h)
 .rcases zda H hn _ hk with h|⟨_,h⟩
  .exact .inl h
  .exact .inr (Nat.le_of_eq h)
theorem HR.row{P:Program}{β:Bt}{h h':Hp}{w:World}(H:HR P β h w){e:TypeId}{l:List Value}{l':Array Value}{exact_:Bool}{a:Addr}
  (hn:zat h e l exact_=some (a,h')) (hl:∀(i:Nat) (x y:Value),l[i]?=some x→l'[i]?=some y→VR β x y) (fr:Nat×Nat) (hfr:Fine fr l'.size) (ex:Nat) (hex:exact_=true→ex=0) (hsz:l.length+ex*P.cellsOf e≤l'.size) (e':TypeId) (he:e'=e) (hsx:exact_=true→l'.size=l.length) :
  ∃β',HR P β' h' { w with heap:=w.heap.push (.cells l' e' fr) }∧St β h w β' h' { w with heap:=w.heap.push (.cells l' e' fr) }∧∃b,a=⟨b,0,none⟩∧β' b=some ⟨w.heap.size,0,ex⟩:=by
 unfold zat at hn
 cases hq:h.new (.cells l e exact_ false)with
 | none=>rw[hq]at hn;cases hn
 | some r=>
  obtain⟨b,h2⟩:=r
  rw[hq]at hn
  simp only[zC,Prod.mk.injEq]at hn
  obtain⟨rfl,rfl⟩:=hn
  obtain⟨H',S',rfl⟩:=H.fresh hq (.cells l' e' fr) ex (fun β' hb=>by
   refine .inr ⟨l',e',fr,zcI,by show 0+l.length≤l'.size;omega,fun k x y hx hy=>?_,fun h=>⟨hex h,rfl,hsx h⟩,fun _=>⟨he,hfr,by show 0+l.length+ex*P.cellsOf e≤l'.size;omega⟩⟩
   rw[Nat.zero_add]at hy
   exact(hl k x y hx hy).mono hb)
  exact⟨_,H',S',_,rfl,Bt.put_same _ _ _⟩
theorem setCells_heap(b:Nat):∀(vs:List Value) (o:Nat) (w:World) (cc:Array Value) (e:TypeId) (fr:Nat×Nat),w.heap[b]?=some (.cells cc e fr)→
  ∃cc',(w.setCells b o vs).heap[b]?=some (.cells cc' e fr)∧cc'.size=cc.size∧∀j,cc'[j]?=if o≤j∧j<o+vs.length∧j<cc.size then vs[j-o]? else cc[j]?:=by
 intro vs
 induction vs with
 | nil=>intro o w cc e fr h;exact⟨cc,h,rfl,fun j=>by rw[if_neg (by simp only[List.length_nil];omega)]⟩
 | cons v vs ih=>
  intro o w cc e fr h
  have h1:(w.setCell ⟨b,o,none⟩ v).heap[b]?=some (.cells (cc.setIfInBounds o v) e fr):=by
   simp[World.setCell,Array.getElem?_modify,h]
  obtain⟨cc',h2,h3,h4⟩:=ih (o+1) _ _ _ _ h1
  refine⟨cc',h2,by rw[h3];simp,fun j=>?_⟩
  rw[h4]
  simp only[Array.size_setIfInBounds,zG]
  by_cases hj:o+1≤j∧j<o+1+vs.length∧j<cc.size
  .rw[if_pos hj,if_pos (by omega)]
   obtain⟨d,rfl⟩:∃d,j=o+1+d:=⟨j-(o+1),by omega⟩
   rw[show o+1+d-(o+1)=d from by omega,show o+1+d-o=d+1 from by omega]
   rfl
  .rw[if_neg hj]
   by_cases hj2:j=o
   .subst hj2
    by_cases hj3:j<cc.size
    .rw[if_pos (by omega)];simp[hj3]
    .rw[if_neg (by omega)];simp[hj3]
   .rw[if_neg (by omega)]
    exact Array.getElem?_setIfInBounds_ne (Ne.symm hj2)
theorem zcm(b:Nat):∀(vs:List Value) (o:Nat) (w:World) (k:Nat),k≠b→(w.setCells b o vs).heap[k]?=w.heap[k]?:=by
 intro vs
 induction vs with
 | nil=>intro o w k h;rfl
 | cons v vs ih=>
  intro o w k h
  rw[World.setCells,ih _ _ _ h]
  exact Below.heap_setCell _ _ _ _ h
theorem setCells_rest(b:Nat):∀(vs:List Value) (o:Nat) (w:World),(w.setCells b o vs).os=w.os∧(w.setCells b o vs).tape=w.tape∧(w.setCells b o vs).output=w.output∧(w.setCells b o vs).heap.size=w.heap.size:=by
 intro vs
 induction vs with
 | nil=>intro o w;exact⟨rfl,rfl,rfl,rfl⟩
 | cons v vs ih=>
  intro o w
  rw[World.setCells]
  obtain⟨h1,h2,h3,h4⟩:=ih (o+1) (w.setCell ⟨b,o,none⟩ v)
  exact⟨h1,h2,h3,h4.trans (by simp[World.setCell])⟩
theorem HR.change{P:Program}{β:Bt}{h:Hp}{w w':World}(H:HR P β h w){b:Nat}{x y:Blk}{i:Info}(hx:h.get b=some x)(hi:β b=some i)(hm:x.mine)
  (hold:∀k,k≠i.blk→k<w.heap.size→w'.heap[k]?=w.heap[k]?) (hy:BlkOk P β w' i y):HR P β (h.put b y) w':=by
 have hlt:=H.dom _ _ hi
 have hmost:=H.most
 have hgp:∀j,(h.put b y).get j=if j=b then some y else h.get j:=fun j=>Hp.get_put (by omega)
 refine⟨by rw[Hp.put_next];exact H.most,fun c j e=>by rw[Hp.put_next];exact H.dom _ _ e,?_,?_,?_⟩
 .intro c z e
  rw[hgp]at e
  by_cases hc:c=b
  .subst hc;exact⟨i,hi⟩
  .rw[if_neg hc]at e;exact H.has _ _ e
 .intro c z j e ej
  rw[hgp]at e
  by_cases hc:c=b
  .subst hc
   rw[if_pos rfl]at e
   injection e with e
   subst e
   rw[hi]at ej
   injection ej with ej
   subst ej
   exact hy
  .rw[if_neg hc]at e
   refine zaK (H.ok _ _ _ e ej) (fun he=>hold _ ?_ (blk_lt (H.ok _ _ _ e ej) he))
   exact Ne.symm (H.apart _ _ _ _ _ _ hx e (Ne.symm hc) hi ej hm he)
 .intro c c' j j' z z' e e' hne ej ej' hz hz'
  rw[hgp]at e e'
  by_cases hc:c=b
  .subst hc
   rw[if_neg (Ne.symm hne)]at e'
   rw[hi]at ej
   injection ej with ej
   subst ej
   exact H.apart _ _ _ _ _ _ hx e' hne hi ej' hm hz'
  .rw[if_neg hc]at e
   by_cases hc':c'=b
   .subst hc'
    rw[if_pos rfl]at e'
    injection e' with e'
    subst e'
    exact H.apart _ _ _ _ _ _ e hx hne ej ej' hz (zaC hm)
   .rw[if_neg hc']at e'
    exact H.apart _ _ _ _ _ _ e e' hne ej ej' hz hz'
theorem HR.touch{P:Program}{β:Bt}{h:Hp}{w w':World}(H:HR P β h w){b:Nat}{x:Blk}{i:Info}(hx:h.get b=some x)(hi:β b=some i)(hm:x.mine)
  (hold:∀k,k≠i.blk→k<w.heap.size→w'.heap[k]?=w.heap[k]?) (hy:BlkOk P β w' i x):HR P β h w':=by
 refine⟨H.most,H.dom,H.has,fun c z j e ej=>?_,H.apart⟩
 by_cases hc:c=b
 .subst hc
  rw[hx]at e
  rw[hi]at ej
  injection e with e
  injection ej with ej
  subst e ej
  exact hy
 .refine zaK (H.ok _ _ _ e ej) (fun he=>hold _ ?_ (blk_lt (H.ok _ _ _ e ej) he))
  exact Ne.symm (H.apart _ _ _ _ _ _ hx e (Ne.symm hc) hi ej hm he)
theorem own_put{P:Program}{β:Bt}{h:Hp}{w:World}(H:HR P β h w){b:Nat}{x y:Blk}(hx:h.get b=some x)(hm:x.mine){k:Nat}(hk:Own β (h.put b y) k):Own β h k:=by
 obtain⟨i,hi⟩:=H.has _ _ hx
 have hlt:=H.dom _ _ hi
 have hmost:=H.most
 obtain⟨c,j,z,e,hz,ej,rfl⟩:=hk
 rw[Hp.get_put (by omega)]at e
 by_cases hc:c=b
 .subst hc
  exact⟨c,j,x,hx,hm,ej,rfl⟩
 .rw[if_neg hc]at e
  exact⟨c,j,z,e,hz,ej,rfl⟩
theorem zcH{P:Program}{β:Bt}{h:Hp}{w:World}(H:HR P β h w){b:Nat}{x y:Blk}(hx:h.get b=some x)(hm:x.mine){k:Nat}(hk:Held β (h.put b y) k):Held β h k:=by
 obtain⟨i,hi⟩:=H.has _ _ hx
 have hlt:=H.dom _ _ hi
 have hmost:=H.most
 obtain⟨c,j,z,e,hz,ej,rfl⟩:=hk
 rw[Hp.get_put (by omega)]at e
 by_cases hc:c=b
 .subst hc
  exact⟨c,j,x,hx,zaC hm,ej,rfl⟩
 .rw[if_neg hc]at e
  exact⟨c,j,z,e,hz,ej,rfl⟩
theorem ones_all:∀ {l:List Value},ones_ l=true→∀v∈l,one_ v=true:=by
 intro l
 induction l with
 | nil=>intro _ v h;cases h
 | cons x l ih=>
  intro h v hv
  simp only[ones_]at h
  cases hx:one_ x with
  | false=>rw[hx]at h;cases h
  | true=>
   rw[hx]at h
   rcases List.mem_cons.1 hv with rfl|hv
   .exact hx
   .exact ih h v hv
theorem zcR{P:Program}{β:Bt}{h h':Hp}{w:World}(H:HR P β h w){b:Nat}{c:List Value}{e:TypeId}{ex:Bool}(hg:h.get b=some (.cells c e ex false)){o:Nat}{l l':List Value}(ho:ones_ l=true)(hs:(match zaz c l o with|some c=>some (h.put b (.cells c e ex false))|none=>none)=some h'){i:Info}(hi:β b=some i)(hl:LR β l l') :
  ∃w',(storeCells ⟨i.blk,i.off+o,none⟩ l').run P w=.ok () w'∧HR P β h' w'∧St β h w β h' w':=by
 cases hp:zaz c l o with
 | none=>rw[hp]at hs;cases hs
 | some c'=>
  rw[hp]at hs
  simp only[zC]at hs
  subst hs
  have hlen:=zaB hp
  have hget:=zax hp
  have hfit:=(zbk hp).1
  rcases H.ok _ _ _ hg hi with⟨_,hf,_⟩|⟨cc,e',fr,hb,hsz,hv,hex,hmine⟩
  .cases hf
  .obtain⟨hee,hfr,hroom⟩:=hmine rfl
   have hone:∀v∈l',v.oneCell'=true:=by
    intro v hv'
    obtain⟨k,hk,rfl⟩:=List.mem_iff_getElem.1 hv'
    have hk':k<l.length:=by rw[hl.1];exact hk
    exact(hl.2 k _ _ (List.getElem?_eq_getElem hk') (List.getElem?_eq_getElem hk)).one (ones_all ho _ (List.getElem_mem hk'))
   have hrun:=run_storeCells_cells (P:=P) i.blk (i.off+o) l' 0 w (fun j hj=>by
     rw[Nat.add_zero,cell_heap hb,Array.getElem?_eq_getElem (by rw[←hl.1]at hj;omega)];rfl)
    (fun j hj=>by
     rw[←hl.1]at hj
     have h3:=hfr.out (i.off+o+0+j) (by omega)
     simp only[World.frozen?,hb]
     simpa using h3) hone
   obtain⟨cc',hb',hsz',hget'⟩:=setCells_heap i.blk l' (i.off+o+0) w cc e' fr hb
   obtain⟨r1,r2,r3,r4⟩:=setCells_rest i.blk l' (i.off+o+0) w
   refine⟨_,hrun,H.change (y:=.cells c' e ex false) hg hi trivial (fun k hk _=>zcm _ _ _ _ _ hk) ?_,
    ⟨.refl _,r1,r2,r3,by omega,fun k hk hn=>zcm _ _ _ _ _ (fun e=>hn ⟨_,_,_,hg,trivial,hi,e.symm⟩),fun k hk=>.inl (own_put H hg trivial hk),fun k hk=>.inl (zcH H hg trivial hk)⟩⟩
   refine .inr ⟨cc',e',fr,hb',by omega,fun k x y hx hy=>?_,fun h=>⟨(hex h).1,(hex h).2.1,by have:=(hex h).2.2;omega⟩,fun _=>⟨hee,by rw[hsz'];exact hfr,by omega⟩⟩
   rw[hget']at hy
   rw[hget]at hx
   by_cases hk:o≤k∧k<o+l.length
   .rw[if_pos hk]at hx
    rw[if_pos (by rw[←hl.1];omega),show i.off+k-(i.off+o+0)=k-o from by omega]at hy
    exact hl.2 _ _ _ hx hy
   .rw[if_neg hk]at hx
    rw[if_neg (by rw[←hl.1];omega)]at hy
    exact hv _ _ _ hx hy
theorem zbC{P:Program}{β:Bt}{h h':Hp}{w:World}(H:HR P β h w){a:Addr}{l l':List Value}(hs:zao h a l=some h'){i:Info}(hi:β a.block=some i)(hl:LR β l l') :
  ∃w',(storeCells ⟨i.blk,i.off+a.off,none⟩ l').run P w=.ok () w'∧HR P β h' w'∧St β h w β h' w':=by
 unfold zao at hs
 cases hg:h.get a.block with
 | none=>rw[hg]at hs;cases hs
 | some x=>
  rw[hg]at hs
  cases ho:ones_ l with
  | false=>rw[ho]at hs;cases x<;>first|cases hs|(rename_i c e ex ro;cases ro<;>cases hs)
  | true=>
   rw[ho]at hs
   cases x with
   | map es c=>cases hs
   | dead=>cases hs
   | cells c e ex ro=>
    cases ro with
    | true=>cases hs
    | false=>exact zcR H hg ho hs hi hl
   | view b=>
    simp only at hs
    obtain⟨_,j,hj,e1,e2⟩:=seen_at H hg hi
    cases hg2:h.get b with
    | none=>rw[hg2]at hs;cases hs
    | some x=>
     rw[hg2]at hs
     cases x with
     | map es c=>cases hs
     | dead=>cases hs
     | view b=>cases hs
     | cells c e ex ro=>
      cases ro with
      | true=>cases hs
      | false=>rw[←e1,←e2];exact zcR H hg2 ho hs hj hl
end Go.Proofs.YtponjccgpbgnoaaGreatDoor
