/- FallocFull: its ways. -/
import Derived.Test.YtponjccgpbgnoaaGreatDoorFft
set_option linter.unusedVariables false
set_option linter.unusedSimpArgs false
set_option linter.unusedSectionVars false
open Int renaming ofNat→zA
namespace Go.Proofs.YtponjccgpbgnoaaGreatDoor.Se
open Go Go.Proofs.YtponjccgpbgnoaaGreatDoor Go.RowKit
set_option maxRecDepth 1000000
variable [Inhabited QI]
def fM(b:List UInt8):Int:=IntKind.i64.wrap ((IntKind.i64.wrap (zA b.length+zA 7)).tdiv (zA 8))
def fK(room:Nat):Int:=IntKind.i64.wrap ((zA room).tmod (zA 30))
def fC(b:List UInt8)(room:Nat):Int:=IntKind.i64.wrap (fM b+fK room)
def fP(pos:Nat):Int:=IntKind.i64.wrap (zA pos)
def fQ(n:Nat):Int:=IntKind.i64.wrap (IntKind.i64.wrap (zA n)+zA 1)
def fS1(pos:Nat):List UInt8:=decN (fP pos).toNat
def fS2(n:Nat):List UInt8:=decN (fQ n).toNat
noncomputable def f5(b:List UInt8)(room:Nat):Sto:=valS (rawS 6 (pu4 (fC b room) b))
noncomputable def f18(b:List UInt8)(room:Nat):Sto:=f5 b room
noncomputable def fIno(b:List UInt8)(room:Nat):Int:=(findS (f5 b room).now [97]).1
noncomputable def fHead(b:List UInt8)(room pos n:Nat):List (Bool×Bool):=(decide (zA b.length>zA 100),false)::(puTests (fC b room) b++[((rawI 6 (pu4 (fC b room) b).now).wf&&tt (FitI (rawI 6 (pu4 (fC b room) b).now).I),true),
 (decide (0≤fP pos)&&decide (fP pos<100000),true),(decide (0≤fQ n)&&decide (fQ n<100000),true),(true,true),(true,true),(true,true),(true,true),(true,true),(true,true),(true,true),(false,false),(okD (fS1 pos),true),(true,true),(false,false),(okD (fS2 n),true),(true,true),(true,true),(true,true),
 (zA (valN (fS2 n))==zA 0,false),(false,false),(false,false),(opPre ⟨rawS 6 (pu4 (fC b room) b),[97],true⟩,true),(hasS (f5 b room).now.names [97],true),(saPre2 ⟨rawS 6 (pu4 (fC b room) b),fIno b room,zA (valN (fS1 pos)),zA (valN (fS2 n)),false⟩,true)])
def fBits:List Bool:=false::(puBits++[true,true,true,true,true,true,true,true,true,true,false,true,true,false,true,true,true,true,false,false,false,true,true,true])
noncomputable def fFull(b:List UInt8)(room pos n:Nat):Bool:=alFull (f18 b room) (fIno b room) (zA (valN (fS1 pos))) (zA (valN (fS2 n)))
def fFl(b:List UInt8)(pos n:Nat):Bool:=flPre ⟨IntKind.i64.wrap ((fP pos).tdiv (zA 8)),fP pos,fQ n,fM b⟩
def fNd(b:List UInt8)(pos n:Nat):Int:=ndI (fP pos) (fQ n) (fM b)
theorem ff_big(b:List UInt8)(room pos n:Nat):trueAt (ffT b room pos n) [true]=some [(decide (zA b.length>zA 100),true)]:=by kernel_rfl
theorem ff_full(b:List UInt8)(room pos n:Nat):trueAt (ffT b room pos n) (fBits++[true,true,true,true,true])=some (fHead b room pos n++[(fFull b room pos n,true),(fFl b pos n,true),(decide (fNd b pos n>fK room),true),
 ((rawI 6 (pu4 (fC b room) b).now).wf&&tt (FitI (rawI 6 (pu4 (fC b room) b).now).I),true),(saPre (viewI 22 (rawI 6 (pu4 (fC b room) b).now).I,viewI 7 (rawI 6 (pu4 (fC b room) b).now).I),true)]):=by kernel_rfl
noncomputable def fS7(b:List UInt8)(room pos n:Nat):Sto:=doL (valS (rawS 6 (pu4 (fC b room) b))) (alOp (fIno b room) (zA (valN (fS1 pos))) (zA (valN (fS2 n))) false)
noncomputable def fC7(b:List UInt8)(room pos n:Nat):Int×List Xt:=contI (viewI 22 (rawI 20 (fS7 b room pos n).now).I).I (zA 1)
theorem ff_fits(b:List UInt8)(room pos n:Nat):trueAt (ffT b room pos n) (fBits++[false,true,false,true,true,true,true])=some (fHead b room pos n++[(fFull b room pos n,false),(fFl b pos n,true),(decide (fNd b pos n>fK room),false),
 ((rawI 20 (fS7 b room pos n).now).wf&&tt (FitI (rawI 20 (fS7 b room pos n).now).I),true),((viewI 22 (rawI 20 (fS7 b room pos n).now).I).wf&&tt (MayI (viewI 22 (rawI 20 (fS7 b room pos n).now).I).I),true),
 (zA (fC7 b room pos n).2.length==IntKind.i64.wrap (fM b+fNd b pos n),true),((fC7 b room pos n).1==mxI (zA b.length) (IntKind.i64.wrap (fP pos+fQ n)),true)]):=by kernel_rfl
end Go.Proofs.YtponjccgpbgnoaaGreatDoor.Se
