/- An evaluator of the translated code over plain data, whose answers the machine gives too (the proof: the texts behind this one). -/
import Derived.Calls
set_option linter.unusedVariables false
set_option linter.unusedSimpArgs false
set_option linter.unusedSectionVars false
open Nat renaming beq→zA,blt→zB,ble→zC,div→zE,succ→zF,min→zG,testBit→zH
open Bool renaming casesOn→zD
namespace Go.Proofs.YtponjccgpbgnoaaGreatDoor
open Go
inductive Tr(α:Type) where
 | nil
 | node (v:Option α) (l r:Tr α)
namespace Tr
def get0{α:Type}(_:Tr α)(_:Nat):Option α:=none
def set0{α:Type}(_:α)(_:Nat)(t:Tr α):Tr α:=t
def getS{α:Type}(f:Tr α→Nat→Option α)(t:Tr α)(k:Nat):Option α:=Tr.casesOn t none fun v l r=>zD (zA k 0) (zD (zA (Nat.mod k 2) 1) (f r (Nat.pred (zE k 2))) (f l (zE k 2))) v
def setS{α:Type}(f:Nat→Tr α→Tr α)(x:α)(k:Nat)(t:Tr α):Tr α:=Tr.casesOn t
 (zD (zA k 0) (zD (zA (Nat.mod k 2) 1) (Tr.casesOn (f (Nat.pred (zE k 2)) .nil) (.node none .nil .nil) fun a b c=>.node none .nil (.node a b c)) (Tr.casesOn (f (zE k 2) .nil) (.node none .nil .nil) fun a b c=>.node none (.node a b c) .nil)) (.node (some x) .nil .nil))
 fun v l r=>zD (zA k 0) (zD (zA (Nat.mod k 2) 1) (Tr.casesOn (f (Nat.pred (zE k 2)) r) (.node v l .nil) fun a b c=>.node v l (.node a b c)) (Tr.casesOn (f (zE k 2) l) (.node v .nil r) fun a b c=>.node v (.node a b c) r)) (.node (some x) l r)
def get1{α:Type}:Tr α→Nat→Option α:=getS get0
def set1{α:Type}(x:α):Nat→Tr α→Tr α:=setS (set0 x) x
def get2{α:Type}:Tr α→Nat→Option α:=getS get1
def set2{α:Type}(x:α):Nat→Tr α→Tr α:=setS (set1 x) x
def get3{α:Type}:Tr α→Nat→Option α:=getS get2
def set3{α:Type}(x:α):Nat→Tr α→Tr α:=setS (set2 x) x
def get4{α:Type}:Tr α→Nat→Option α:=getS get3
def set4{α:Type}(x:α):Nat→Tr α→Tr α:=setS (set3 x) x
def get5{α:Type}:Tr α→Nat→Option α:=getS get4
def set5{α:Type}(x:α):Nat→Tr α→Tr α:=setS (set4 x) x
def get6{α:Type}:Tr α→Nat→Option α:=getS get5
def set6{α:Type}(x:α):Nat→Tr α→Tr α:=setS (set5 x) x
def get7{α:Type}:Tr α→Nat→Option α:=getS get6
def set7{α:Type}(x:α):Nat→Tr α→Tr α:=setS (set6 x) x
def get8{α:Type}:Tr α→Nat→Option α:=getS get7
def set8{α:Type}(x:α):Nat→Tr α→Tr α:=setS (set7 x) x
def get9{α:Type}:Tr α→Nat→Option α:=getS get8
def set9{α:Type}(x:α):Nat→Tr α→Tr α:=setS (set8 x) x
def get10{α:Type}:Tr α→Nat→Option α:=getS get9
def set10{α:Type}(x:α):Nat→Tr α→Tr α:=setS (set9 x) x
def get11{α:Type}:Tr α→Nat→Option α:=getS get10
def set11{α:Type}(x:α):Nat→Tr α→Tr α:=setS (set10 x) x
def get12{α:Type}:Tr α→Nat→Option α:=getS get11
def set12{α:Type}(x:α):Nat→Tr α→Tr α:=setS (set11 x) x
def get13{α:Type}:Tr α→Nat→Option α:=getS get12
def set13{α:Type}(x:α):Nat→Tr α→Tr α:=setS (set12 x) x
def get14{α:Type}:Tr α→Nat→Option α:=getS get13
def set14{α:Type}(x:α):Nat→Tr α→Tr α:=setS (set13 x) x
def get15{α:Type}:Tr α→Nat→Option α:=getS get14
def set15{α:Type}(x:α):Nat→Tr α→Tr α:=setS (set14 x) x
def get16{α:Type}:Tr α→Nat→Option α:=getS get15
def set16{α:Type}(x:α):Nat→Tr α→Tr α:=setS (set15 x) x
def get17{α:Type}:Tr α→Nat→Option α:=getS get16
def set17{α:Type}(x:α):Nat→Tr α→Tr α:=setS (set16 x) x
def get18{α:Type}:Tr α→Nat→Option α:=getS get17
def set18{α:Type}(x:α):Nat→Tr α→Tr α:=setS (set17 x) x
def get19{α:Type}:Tr α→Nat→Option α:=getS get18
def set19{α:Type}(x:α):Nat→Tr α→Tr α:=setS (set18 x) x
def get20{α:Type}:Tr α→Nat→Option α:=getS get19
def set20{α:Type}(x:α):Nat→Tr α→Tr α:=setS (set19 x) x
def get21{α:Type}:Tr α→Nat→Option α:=getS get20
def set21{α:Type}(x:α):Nat→Tr α→Tr α:=setS (set20 x) x
def get22{α:Type}:Tr α→Nat→Option α:=getS get21
def set22{α:Type}(x:α):Nat→Tr α→Tr α:=setS (set21 x) x
def get23{α:Type}:Tr α→Nat→Option α:=getS get22
def set23{α:Type}(x:α):Nat→Tr α→Tr α:=setS (set22 x) x
def get24{α:Type}:Tr α→Nat→Option α:=getS get23
def set24{α:Type}(x:α):Nat→Tr α→Tr α:=setS (set23 x) x
def get25{α:Type}:Tr α→Nat→Option α:=getS get24
def set25{α:Type}(x:α):Nat→Tr α→Tr α:=setS (set24 x) x
def get26{α:Type}:Tr α→Nat→Option α:=getS get25
def set26{α:Type}(x:α):Nat→Tr α→Tr α:=setS (set25 x) x
def get27{α:Type}:Tr α→Nat→Option α:=getS get26
def set27{α:Type}(x:α):Nat→Tr α→Tr α:=setS (set26 x) x
def get28{α:Type}:Tr α→Nat→Option α:=getS get27
def set28{α:Type}(x:α):Nat→Tr α→Tr α:=setS (set27 x) x
def get29{α:Type}:Tr α→Nat→Option α:=getS get28
def set29{α:Type}(x:α):Nat→Tr α→Tr α:=setS (set28 x) x
def get30{α:Type}:Tr α→Nat→Option α:=getS get29
def set30{α:Type}(x:α):Nat→Tr α→Tr α:=setS (set29 x) x
def get31{α:Type}:Tr α→Nat→Option α:=getS get30
def set31{α:Type}(x:α):Nat→Tr α→Tr α:=setS (set30 x) x
def get32{α:Type}:Tr α→Nat→Option α:=getS get31
def set32{α:Type}(x:α):Nat→Tr α→Tr α:=setS (set31 x) x
def get33{α:Type}:Tr α→Nat→Option α:=getS get32
def set33{α:Type}(x:α):Nat→Tr α→Tr α:=setS (set32 x) x
def get34{α:Type}:Tr α→Nat→Option α:=getS get33
def set34{α:Type}(x:α):Nat→Tr α→Tr α:=setS (set33 x) x
def get35{α:Type}:Tr α→Nat→Option α:=getS get34
def set35{α:Type}(x:α):Nat→Tr α→Tr α:=setS (set34 x) x
def get36{α:Type}:Tr α→Nat→Option α:=getS get35
def set36{α:Type}(x:α):Nat→Tr α→Tr α:=setS (set35 x) x
def get37{α:Type}:Tr α→Nat→Option α:=getS get36
def set37{α:Type}(x:α):Nat→Tr α→Tr α:=setS (set36 x) x
def get38{α:Type}:Tr α→Nat→Option α:=getS get37
def set38{α:Type}(x:α):Nat→Tr α→Tr α:=setS (set37 x) x
def get39{α:Type}:Tr α→Nat→Option α:=getS get38
def set39{α:Type}(x:α):Nat→Tr α→Tr α:=setS (set38 x) x
def get40{α:Type}:Tr α→Nat→Option α:=getS get39
def set40{α:Type}(x:α):Nat→Tr α→Tr α:=setS (set39 x) x
def get41{α:Type}:Tr α→Nat→Option α:=getS get40
def set41{α:Type}(x:α):Nat→Tr α→Tr α:=setS (set40 x) x
def get42{α:Type}:Tr α→Nat→Option α:=getS get41
def set42{α:Type}(x:α):Nat→Tr α→Tr α:=setS (set41 x) x
def get43{α:Type}:Tr α→Nat→Option α:=getS get42
def set43{α:Type}(x:α):Nat→Tr α→Tr α:=setS (set42 x) x
def get44{α:Type}:Tr α→Nat→Option α:=getS get43
def set44{α:Type}(x:α):Nat→Tr α→Tr α:=setS (set43 x) x
def get45{α:Type}:Tr α→Nat→Option α:=getS get44
def set45{α:Type}(x:α):Nat→Tr α→Tr α:=setS (set44 x) x
def get46{α:Type}:Tr α→Nat→Option α:=getS get45
def set46{α:Type}(x:α):Nat→Tr α→Tr α:=setS (set45 x) x
def get47{α:Type}:Tr α→Nat→Option α:=getS get46
def set47{α:Type}(x:α):Nat→Tr α→Tr α:=setS (set46 x) x
def get48{α:Type}:Tr α→Nat→Option α:=getS get47
def set48{α:Type}(x:α):Nat→Tr α→Tr α:=setS (set47 x) x
def get49{α:Type}:Tr α→Nat→Option α:=getS get48
def set49{α:Type}(x:α):Nat→Tr α→Tr α:=setS (set48 x) x
def get50{α:Type}:Tr α→Nat→Option α:=getS get49
def set50{α:Type}(x:α):Nat→Tr α→Tr α:=setS (set49 x) x
def get51{α:Type}:Tr α→Nat→Option α:=getS get50
def set51{α:Type}(x:α):Nat→Tr α→Tr α:=setS (set50 x) x
def get52{α:Type}:Tr α→Nat→Option α:=getS get51
def set52{α:Type}(x:α):Nat→Tr α→Tr α:=setS (set51 x) x
def get53{α:Type}:Tr α→Nat→Option α:=getS get52
def set53{α:Type}(x:α):Nat→Tr α→Tr α:=setS (set52 x) x
def get54{α:Type}:Tr α→Nat→Option α:=getS get53
def set54{α:Type}(x:α):Nat→Tr α→Tr α:=setS (set53 x) x
def get55{α:Type}:Tr α→Nat→Option α:=getS get54
def set55{α:Type}(x:α):Nat→Tr α→Tr α:=setS (set54 x) x
def get56{α:Type}:Tr α→Nat→Option α:=getS get55
def set56{α:Type}(x:α):Nat→Tr α→Tr α:=setS (set55 x) x
def get57{α:Type}:Tr α→Nat→Option α:=getS get56
def set57{α:Type}(x:α):Nat→Tr α→Tr α:=setS (set56 x) x
def get58{α:Type}:Tr α→Nat→Option α:=getS get57
def set58{α:Type}(x:α):Nat→Tr α→Tr α:=setS (set57 x) x
def get59{α:Type}:Tr α→Nat→Option α:=getS get58
def set59{α:Type}(x:α):Nat→Tr α→Tr α:=setS (set58 x) x
def get60{α:Type}:Tr α→Nat→Option α:=getS get59
def set60{α:Type}(x:α):Nat→Tr α→Tr α:=setS (set59 x) x
def get61{α:Type}:Tr α→Nat→Option α:=getS get60
def set61{α:Type}(x:α):Nat→Tr α→Tr α:=setS (set60 x) x
def get62{α:Type}:Tr α→Nat→Option α:=getS get61
def set62{α:Type}(x:α):Nat→Tr α→Tr α:=setS (set61 x) x
def get63{α:Type}:Tr α→Nat→Option α:=getS get62
def set63{α:Type}(x:α):Nat→Tr α→Tr α:=setS (set62 x) x
def get64{α:Type}:Tr α→Nat→Option α:=getS get63
def set64{α:Type}(x:α):Nat→Tr α→Tr α:=setS (set63 x) x
def get{α:Type}(t:Tr α)(k:Nat):Option α:=get64 t k
def set{α:Type}(_:Nat)(t:Tr α)(k:Nat)(x:α):Tr α:=set64 x k t
def force{α β:Type}(t:Tr α)(f:Tr α→β):β:=Tr.casesOn t (f .nil) fun v l r=>f (.node v l r)
def ofList{α:Type}:List α→Nat→Tr α→Tr α
 | [],_,t=>t
 | x::l,k,t=>ofList l (k+1) (t.set 12 k x)
end Tr
inductive Blk where
 | cells (c:List Value) (elem:TypeId) (exact ro:Bool)
 | map (es:List MapEntry) (clock:Nat)
 | dead
 | view (b:Nat)
structure Hp where
 next:Nat
 t:Tr Blk
def Hp.get(h:Hp)(b:Nat):Option Blk:=h.t.get b
def Hp.put(h:Hp)(b:Nat)(x:Blk):Hp:=Hp.casesOn h fun next t=>(t.set 24 b x).force fun t=>⟨next,t⟩
def Hp.new(h:Hp)(x:Blk):Option (Nat×Hp):=Hp.casesOn h fun next t=>zD (zB next 9223372036854775808) none ((t.set 24 next x).force fun t=>Nat.casesOn next (some (0,⟨1,t⟩)) fun k=>some (zF k,⟨zF (zF k),t⟩))
theorem Hp.put_eq(h:Hp)(b:Nat)(x:Blk):h.put b x=(h.t.set 24 b x).force fun t=>⟨h.next,t⟩:=by cases h;rfl
theorem Hp.new_eq(h:Hp)(x:Blk):h.new x=bif zB h.next 9223372036854775808 then(h.t.set 24 h.next x).force fun t=>some (h.next,⟨h.next+1,t⟩)else none:=by
 obtain⟨next,t⟩:=h
 show(zD (zB next 9223372036854775808) none ((t.set 24 next x).force fun t=>Nat.casesOn next (some (0,⟨1,t⟩)) fun k=>some (zF k,⟨zF (zF k),t⟩)):Option (Nat×Hp))=_
 cases zB next 9223372036854775808 with
 | false=>rfl
 | true=>cases next<;>rfl
structure Env where
 types:Tr TypeInfo
 funcs:Tr Func
 eqs:List TypeId
 gl:Nat
def Env.of(P:Program)(eqs:List TypeId):Env:=⟨Tr.ofList P.types.toList 0 .nil,Tr.ofList P.funcs.toList 0 .nil,eqs,P.globals.size⟩
def Env.eqOk(E:Env)(t:TypeId):Bool:=E.eqs.any (zA t)
def Env.under(E:Env)(t:TypeId):Option TypeDesc:=
 match E.types.get t with
 | some { desc:=.named _ u,.. }=>(E.types.get u).map (·.desc)
 | some i=>some i.desc
 | none=>none
def Env.size(E:Env)(t:TypeId):Option Nat:=(E.types.get t).map (·.size)
def Env.cmp(E:Env)(t:TypeId):Option Bool:=(E.types.get t).map (·.comparable)
def Env.bytes(E:Env)(t:TypeId):Option Nat:=(E.types.get t).map (·.bytes)
def bare_:Value→Bool
 | .bool _|.int _ _|.string _|.nilIface|.nilFunc|.pointer none|.map none|.slice none _ _=>true
 | _=>false
def zdg:List Value→Bool
 | []=>true
 | v::l=>match bare_ v with|true=>zdg l|false=>false
def Env.zero(E:Env)(t:TypeId):Option Value:=match E.types.get t with
 | some i=>match i.zero with
  | some (.agg cs)=>match zdg cs.toList with|true=>some (.agg cs)|false=>none
  | some v=>match bare_ v with|true=>some v|false=>none
  | none=>none
 | none=>none
def Env.agg(E:Env)(t:TypeId):Option Bool:=
 match E.under t with
 | some (.struct _)|some (.array _ _)=>some true
 | some _=>some false
 | none=>none
def lost:Value:=.complex .f32 0 0
def anyV:Value:=.complex .f32 1 0
def rest8(m r:Nat):Value:=.complex .f64 0 (m*512+r)
def rest64(m r:Nat):Value:=.complex .f32 0 (m*512+r+1)
def noneLeft:Value:=.chan none
def isAny:Value→Bool
 | .complex _ (_+1) _=>true
 | _=>false
def vint(k:IntKind)(n:Int):Value:=match n with|.ofNat n=>.int k (.ofNat n)|.negSucc n=>.int k (.negSucc n)
def goNat(n:Nat):Value:=.int .i64 (.ofNat n)
def lset{α:Type}:List α→Nat→α→Option (List α)
 | [],_,_=>none
 | x::l,n,y=>match n with
  | 0=>some (y::l)
  | n+1=>match lset l n y with|some r=>some (x::r)|none=>none
def ltake{α:Type}:Nat→List α→Option (List α)
 | 0,_=>some []
 | n+1,[]=>none
 | n+1,x::l=>match ltake n l with|some r=>some (x::r)|none=>none
def ldrop{α:Type}:Nat→List α→Option (List α)
 | 0,l=>some l
 | _+1,[]=>none
 | n+1,_::l=>ldrop n l
def lcut{α:Type}(l:List α)(at_ n:Nat):Option (List α):=match ldrop at_ l with|some r=>ltake n r|none=>none
def zaz{α:Type}(l xs:List α):Nat→Option (List α)
 | 0=>match ldrop xs.length l with|some r=>some (xs++r)|none=>none
 | n+1=>match l with|[]=>none|x::l=>match zaz l xs n with|some r=>some (x::r)|none=>none
def zaj(h:Hp)(a:Addr)(n:Nat):Option (List Value):=
 match h.get a.block with
 | some (.cells c _ _ _)=>lcut c a.off n
 | some (.view b)=>match h.get b with
  | some (.cells c _ _ _)=>lcut c a.off n
  | _=>none
 | _=>none
def one_:Value→Bool
 | .agg _|.tuple _|.complex _ (_+1) _=>false
 | _=>true
def ones_:List Value→Bool
 | []=>true
 | v::l=>match one_ v with|true=>ones_ l|false=>false
def zao(h:Hp)(a:Addr)(xs:List Value):Option Hp:=
 match h.get a.block,ones_ xs with
 | some (.cells c e x false),true=>match zaz c xs a.off with
  | some c=>some (h.put a.block (.cells c e x false))
  | none=>none
 | some (.view b),true=>match h.get b with
  | some (.cells c e x false)=>match zaz c xs a.off with
   | some c=>some (h.put b (.cells c e x false))
   | none=>none
  | _=>none
 | _,_=>none
def za8(E:Env)(h:Hp)(t:TypeId)(a:Addr):Option Value:=
 match E.agg t,E.size t with
 | some true,some n=>match zaj h a n with|some c=>some (.agg ⟨c⟩)|none=>none
 | some false,_=>match zaj h a 1 with|some [v]=>some v|_=>none
 | _,_=>none
def addr_(v:Value):Option Addr:=match v with|.pointer (some ⟨b,o,none⟩)=>some ⟨b,o,none⟩|_=>none
def add_(a:Addr)(n:Nat):Addr:=⟨a.block,a.off+n,none⟩
def zat(h:Hp)(e:TypeId)(cs:List Value)(exact:Bool):Option (Addr×Hp):=
 match h.new (.cells cs e exact false)with|some (b,h)=>some (⟨b,0,none⟩,h)|none=>none
def part_(E:Env)(t:TypeId)(cs:List Value)(off:Nat):Option Value:=
 match E.agg t,E.size t with
 | some true,some n=>match lcut cs off n with|some c=>some (.agg ⟨c⟩)|none=>none
 | some false,_=>match lcut cs off 1 with|some [v]=>some v|_=>none
 | _,_=>none
def rep_{α:Type}(z:List α):Nat→List α
 | 0=>[]
 | n+1=>z++rep_ z n
def bin_(op:BinOp)(x y:Value):Option Value:=
 match x,y with
 | .int k a,.int k' b=>
  match op with
  | .shl=>match b with|.ofNat n=>some (.int k (k.wrap (a*2 ^ zG n k.bits)))|.negSucc _=>none
  | .shr=>match b with|.ofNat n=>some (.int k (a.fdiv (2 ^ zG n k.bits)))|.negSucc _=>none
  | op=>match decide (k=k')with
   | false=>none
   | true=>match op with
    | .add=>some (.int k (k.wrap (a+b)))
    | .sub=>some (.int k (k.wrap (a-b)))
    | .mul=>some (.int k (k.wrap (a*b)))
    | .quo=>match decide (b=0)with|true=>none|false=>some (.int k (k.wrap (a.tdiv b)))
    | .rem=>match decide (b=0)with|true=>none|false=>some (.int k (a.tmod b))
    | .and=>some (.int k (k.wrap (BitVec.ofInt k.bits a&&& BitVec.ofInt k.bits b).toNat))
    | .or=>some (.int k (k.wrap (BitVec.ofInt k.bits a ||| BitVec.ofInt k.bits b).toNat))
    | .xor=>some (.int k (k.wrap (BitVec.ofInt k.bits a ^^^ BitVec.ofInt k.bits b).toNat))
    | .andNot=>some (.int k (k.wrap (BitVec.ofInt k.bits a&&& ~~~BitVec.ofInt k.bits b).toNat))
    | .eql=>some (.bool (a==b))
    | .neq=>some (.bool (a != b))
    | .lss=>some (.bool (decide (a<b)))
    | .leq=>some (.bool (decide (a≤b)))
    | .gtr=>some (.bool (decide (a>b)))
    | .geq=>some (.bool (decide (a≥b)))
    | _=>none
 | .string a,.string b=>
  match op with
  | .add=>match decide (a.size+b.size≤9223372036854775807)with|true=>some (.string ⟨⟨a.data.toList++b.data.toList⟩⟩)|false=>none
  | .eql=>some (.bool (a.data.toList==b.data.toList))
  | .neq=>some (.bool !(a.data.toList==b.data.toList))
  | .lss=>some (.bool (Op.bytesLess a.data.toList b.data.toList))
  | .leq=>some (.bool (Op.bytesLess a.data.toList b.data.toList || a.data.toList==b.data.toList))
  | .gtr=>some (.bool !(Op.bytesLess a.data.toList b.data.toList || a.data.toList==b.data.toList))
  | .geq=>some (.bool !(Op.bytesLess a.data.toList b.data.toList))
  | _=>none
 | .complex .f64 0 c,.int .u8 (.ofNat m)=>match op with|.rem=>bif zA (c / 512) m&&zB 0 m then some (.int .u8 (.ofNat (c % 512)))else none|_=>none
 | .complex .f32 0 (c+1),.int .i64 (.ofNat m)=>match op with|.rem=>bif zA (c / 512) m&&zB 0 m then some (.int .i64 (.ofNat (c % 512)))else none|_=>none
 | _,_=>none
def eqs_{α:Type}(f g:α→Option Value)(q:α→Value→Value→Option Bool)(skip:α→Bool):List α→Option Bool
 | []=>some true
 | i::l=>match skip i with
  | true=>eqs_ f g q skip l
  | false=>match f i,g i with
   | some a,some b=>match q i a b with
    | some true=>eqs_ f g q skip l
    | r=>r
   | _,_=>none
def eq_(E:Env):Nat→TypeId→Value→Value→Option Bool
 | 0,_,_,_=>none
 | d+1,t,x,y=>
  match E.under t,x,y with
  | some .bool,.bool a,.bool b=>some (a==b)
  | some (.int _),.int k a,.int k' b=>match decide (k=k')with|true=>some (a==b)|false=>none
  | some .string,.string a,.string b=>some (a.data.toList==b.data.toList)
  | some (.pointer _),.pointer none,.pointer b=>some b.isNone
  | some (.pointer _),.pointer (some _),.pointer none=>some false
  | some (.slice _),.slice none _ _,.slice b _ _=>some b.isNone
  | some (.slice _),.slice (some _) _ _,.slice none _ _=>some false
  | some (.slice _),.chan none,.slice none _ _=>some false
  | some (.map _ _),.map none,.map b=>some b.isNone
  | some (.map _ _),.map (some _),.map none=>some false
  | some (.func _ _ _),.nilFunc,.nilFunc=>some true
  | some (.func _ _ _),.nilFunc,.func _ _ _|some (.func _ _ _),.func _ _ _,.nilFunc=>some false
  | some (.interface _),.nilIface,.iface _ _|some (.interface _),.iface _ _,.nilIface=>some false
  | some (.pointer e),.pointer (some ⟨b,o,none⟩),.pointer (some ⟨b',o',none⟩)=>match E.size e with
   | some (_+1)=>bif zA b b' then some (zA o o')else none
   | _=>none
  | some (.interface _),.iface t1 a,.iface t2 c=>bif zA t1 t2 then(match E.cmp t1 with|some true=>eq_ E d t1 a c|_=>none)else some false
  | some (.struct fs),.agg xs,.agg ys=>bif E.eqOk t then eqs_ (fun f=>part_ E f.type xs.toList f.offset) (fun f=>part_ E f.type ys.toList f.offset) (fun f a b=>eq_ E d f.type a b) (fun f=>f.name== "_") fs.toList else none
  | some (.array n e),.agg xs,.agg ys=>match E.size e with
   | some s=>eqs_ (fun i=>part_ E e xs.toList (i*s)) (fun i=>part_ E e ys.toList (i*s)) (fun _ a b=>eq_ E d e a b) (fun _=>false) (List.range n)
   | none=>none
  | _,_,_=>none
def un_(op:UnOp)(x:Value):Option Value:=
 match op,x with
 | .neg,.int k n=>some (.int k (k.wrap (0-n)))
 | .not,.bool b=>some (.bool !b)
 | .xor,.int k n=>some (.int k (k.wrap (BitVec.ofInt k.bits (if k.signed then -1 else k.max) ^^^ BitVec.ofInt k.bits n).toNat))
 | _,_=>none
def zbe:List Value→Option (List UInt8)
 | []=>some []
 | .int .u8 (.ofNat n)::l=>match zbe l with|some r=>some (UInt8.ofNat n::r)|none=>none
 | _=>none
def zaw(h:Hp)(b:Nat):Option Bool:=match h.get b with|some (.cells _ _ x _)=>some x|some (.view _)=>some true|_=>none
def zdD(v:Value)(h:Hp):Option (Value×Hp):=
 match v with
 | .slice (some a) n c=>match zaw h a.block,zA (a.block+1) h.next with
  | some false,true=>match h.new (.view a.block)with
   | some (_,h)=>some (.slice (some a) n c,h)
   | none=>none
  | _,_=>some (.slice (some a) n c,h)
 | v=>some (v,h)
def conv_(E:Env)(src dst:TypeId)(x:Value)(h:Hp):Option (Value×Hp):=
 match E.under src,E.under dst,x with
 | some _,some (.int k),.int _ n=>some (.int k (k.wrap n),h)
 | some _,some (.int .i64),.complex .f64 0 c=>some (.complex .f32 0 (c+1),h)
 | some _,some .string,.string s=>some (.string s,h)
 | some _,some .string,.int _ n=>some (.string (Utf8.encode n),h)
 | some (.slice e),some .string,.slice (some a) n _=>match E.under e with
  | some (.int .u8)=>match zaj h a n with
   | some c=>match zbe c with|some l=>some (.string ⟨⟨l⟩⟩,h)|none=>none
   | none=>none
  | _=>none
 | some (.slice e),some .string,.slice none _ _=>match E.under e with
  | some (.int .u8)=>some (.string ⟨#[]⟩,h)
  | _=>none
 | some (.slice e),some .string,.chan none=>match E.under e with
  | some (.int .u8)=>some (.string ⟨#[]⟩,h)
  | _=>none
 | some .string,some (.slice e),.string s=>match E.under e,E.size e with
  | some (.int .u8),some 1=>match zat h e (s.data.toList.map fun b=>.int .u8 (.ofNat b.toNat)) false with
   | some (a,h)=>zdD (.slice (some a) s.data.toList.length s.data.toList.length) h
   | none=>none
  | _,_=>none
 | some (.slice _),some (.slice e),.slice (some a) n k=>match zA src dst,E.under e,h.get a.block with
  | true,some (.int .u8),some (.cells _ _ _ false)=>some (.slice (some a) n k,h)
  | _,_,_=>none
 | _,_,_=>none
def fill_(place:Nat→Option (Nat×Nat))(cells:List Value):List (Nat×Value)→Option (List Value)
 | []=>some cells
 | (i,v)::rest=>
  match place i with
  | none=>none
  | some (off,size)=>bif zA v.cells.toList.length size&&!isAny v then
    match zaz cells v.cells.toList off with
    | some cells=>fill_ place cells rest
    | none=>none
   else none
def zcY(E:Env):List Field→Option (List (Nat×Nat))
 | []=>some []
 | f::l=>match E.size f.type,zcY E l with
  | some s,some r=>some ((f.offset,s)::r)
  | _,_=>none
def build_(E:Env)(t:TypeId)(parts:List (Nat×Value)):Option Value:=
 match E.zero t,E.under t with
 | some z,some (.struct fields)=>match zcY E fields.toList with
  | some pl=>match fill_ (fun i=>pl[i]?) z.cells.toList parts with
   | some c=>some (.agg ⟨c⟩)
   | none=>none
  | none=>none
 | some z,some (.array _ e)=>match E.size e with
  | some s=>match fill_ (fun i=>some (i*s,s)) z.cells.toList parts with
   | some c=>some (.agg ⟨c⟩)
   | none=>none
  | none=>none
 | _,_=>none
def zbG(x:Option Value)(dflt most:Nat):Option Nat:=
 match x with
 | none=>some dflt
 | some (.int _ (.ofNat n))=>bif zC n most then some n else none
 | _=>none
def zaU(len cap:Nat)(lo hi mx:Option Value):Option (Nat×Nat×Nat):=
 match mx,hi with
 | some _,none=>none
 | _,_=>match zbG mx cap cap with
  | some m=>match zbG hi len m with
   | some hv=>match zbG lo 0 hv with
    | some l=>some (l,hv,m)
    | none=>none
   | none=>none
  | none=>none
def zaE(E:Env)(t:TypeId)(x:Value)(lo hi mx:Option Value)(h:Hp):Option (Value×Hp):=
 match E.under t,x with
 | some .string,.string s=>match mx,zaU s.data.toList.length s.data.toList.length lo hi none with
  | none,some (l,hv,_)=>match lcut s.data.toList l (hv-l)with
   | some l=>some (.string ⟨⟨l⟩⟩,h)
   | none=>none
  | _,_=>none
 | some (.slice e),.slice none len cap=>match E.size e,zaU len cap lo hi mx with
  | some _,some (l,hv,m)=>some (.slice none (hv-l) (m-l),h)
  | _,_=>none
 | some (.slice e),.slice (some a) len cap=>match E.size e,zaw h a.block with
  | some s,some true=>match zaU len cap lo hi mx with
   | some (l,hv,m)=>some (.slice (some (bif zA m l then a else add_ a (l*s))) (hv-l) (m-l),h)
   | none=>none
  | some s,some false=>match mx,zaU len cap lo hi none with
   | none,some (l,hv,_)=>bif zC hv cap then bif zB l cap then some (.slice (some (add_ a (l*s))) (hv-l) (cap-l),h)
     else some (noneLeft,h)
    else none
   | some mv,_=>match h.get (a.block+1),zaU len cap lo hi (some mv)with
    | some (.view v),some (l,hv,m)=>bif zA v a.block then some (.slice (some (bif zA m l then⟨a.block+1,a.off,none⟩else⟨a.block+1,a.off+l*s,none⟩)) (hv-l) (m-l),h)else none
    | _,_=>none
   | none,none=>none
  | _,_=>none
 | some (.slice e),.chan none=>match mx,E.size e,zaU 0 0 lo hi none with
  | none,some _,some _=>some (noneLeft,h)
  | _,_,_=>none
 | some (.array n e),.pointer (some ⟨b,o,none⟩)=>match E.size e,zaU n n lo hi mx with
  | some s,some (l,hv,m)=>match zaw h b with
   | some true=>some (.slice (some (bif zA m l then⟨b,o,none⟩else⟨b,o+l*s,none⟩)) (hv-l) (m-l),h)
   | some false=>match h.get (b+1)with
    | some (.view v)=>bif zA v b then some (.slice (some (bif zA m l then⟨b+1,o,none⟩else⟨b+1,o+l*s,none⟩)) (hv-l) (m-l),h)else none
    | _=>none
   | none=>none
  | _,_=>none
 | _,_=>none
def zbn(E:Env)(t:TypeId)(x i:Value):Option Value:=
 match E.under t,x,i with
 | some (.array n e),.pointer (some ⟨b,o,none⟩),.int _ (.ofNat k)=>match E.size e with
  | some s=>bif zB k n then some (.pointer (some ⟨b,o+k*s,none⟩))else none
  | none=>none
 | some (.slice e),.slice (some a) n _,.int _ (.ofNat k)=>match E.size e with
  | some s=>bif zB k n then some (.pointer (some (add_ a (k*s))))else none
  | none=>none
 | _,_,_=>none
def index_(E:Env)(t:TypeId)(x i:Value):Option Value:=
 match E.under t,x,i with
 | some (.array n e),.agg cs,.int _ (.ofNat k)=>match E.size e with
  | some s=>bif zB k n then part_ E e cs.toList (k*s)else none
  | none=>none
 | some .string,.string s,.int _ (.ofNat k)=>match lcut s.data.toList k 1 with
  | some [b]=>some (.int .u8 (.ofNat b.toNat))
  | _=>none
 | _,_,_=>none
def zcB(E:Env)(s:TypeId)(x:Value)(f:Nat):Option Value:=
 match E.under s,x with
 | some (.struct fs),.pointer (some ⟨b,o,none⟩)=>match fs[f]? with
  | some f=>match E.size f.type with
   | some (_+1)=>some (.pointer (some ⟨b,o+f.offset,none⟩))
   | _=>none
  | none=>none
 | _,_=>none
def field_(E:Env)(s:TypeId)(x:Value)(f:Nat):Option Value:=
 match E.under s,x with
 | some (.struct fs),.agg cs=>match fs[f]? with
  | some f=>part_ E f.type cs.toList f.offset
  | none=>none
 | _,_=>none
def zbU(E:Env)(t:TypeId)(l c:Value)(h:Hp):Option (Value×Hp):=
 match E.under t,l,c with
 | some (.slice e),.int _ (.ofNat l),.int _ (.ofNat c)=>match E.size e,E.bytes e,E.zero e with
  | some s,some b,some z=>bif zC l c&&zC (c*b) 140737488355328&&zC c 9223372036854775807&&zA z.cells.toList.length s then
    match zat h e (rep_ z.cells.toList c) true with
    | some (a,h)=>some (.slice (some a) l c,h)
    | none=>none
   else none
  | _,_,_=>none
 | _,_,_=>none
def zbB(E:Env)(t:TypeId)(len:Nat)(parts:List (Nat×Value))(h:Hp):Option (Value×Hp):=
 match E.under t with
 | some (.slice e)=>match E.size e,E.zero e with
  | some s,some z=>bif zC (len*s) 16777216&&zA z.cells.toList.length s then
    match fill_ (fun i=>some (i*s,s)) (rep_ z.cells.toList len) parts with
    | some c=>match zat h e c true with
     | some (a,h)=>some (.slice (some a) len len,h)
     | none=>none
    | none=>none
   else none
  | _,_=>none
 | _=>none
def news_(h:Hp)(sz:Nat)(most:Nat)(x:Value):Option (Nat×List Value):=
 match x with
 | .slice none n _=>match n with
  | 0=>some (0,[])
  | _=>none
 | .slice (some a) n _=>match zaj h a (zG n most*sz)with|some c=>some (zG n most,c)|none=>none
 | .chan none=>some (0,[])
 | .string b=>match sz,ltake (zG b.data.toList.length most) b.data.toList with
  | 1,some l=>some (zG b.data.toList.length most,l.map fun b=>.int .u8 (.ofNat b.toNat))
  | _,_=>none
 | _=>none
def lenV_:Value→Nat
 | .slice _ n _=>n
 | .string b=>b.data.toList.length
 | _=>0
def zaX(E:Env)(t1 t2:TypeId)(s x:Value)(h:Hp):Option (Value×Hp):=
 match E.under t1,E.under t2 with
 | some (.slice _),some (.int _)=>none
 | some (.slice e),some _=>match E.size e,E.bytes e,E.zero e with
  | some sz,some by_,some z=>match news_ h sz (lenV_ x) x,s,zA z.cells.toList.length sz with
   | some (n,c),.slice none 0 0,true=>
    match n with
    | 0=>some (s,h)
    | n+1=>bif zC ((n+1)*by_) 140737488355328&&zC (n+1) 9223372036854775807 then match zat h e c false with
     | some (a,h)=>some (.slice (some a) (n+1) (n+1),h)
     | none=>none
     else none
   | some (n,c),.slice (some a) len cap,true=>
    bif zC (len+n) cap then
     match n with
     | 0=>some (s,h)
     | n+1=>match zao h (add_ a (len*sz)) c with
      | some h=>some (.slice (some a) (len+(n+1)) cap,h)
      | none=>none
    else match h.get a.block with
     | some (.cells old e' exact ro)=>match lcut old a.off (len*sz)with
      | some l=>bif zC ((len+n)*by_) 140737488355328&&zC (len+n) 9223372036854775807 then
        match exact,ro with
        | true,_=>match zat h e (l++c) false with
         | some (a,h)=>some (.slice (some a) (len+n) (len+n),h)
         | none=>none
        | false,false=>bif zA e' e&&zC (a.off+cap*sz) old.length then match ones_ c,zat (h.put a.block .dead) e (l++c) false with
          | true,some (a,h)=>some (.slice (some a) (len+n) (len+n),h)
          | _,_=>none
         else none
        | _,_=>none
       else none
      | none=>none
     | _=>none
   | _,_,_=>none
  | _,_,_=>none
 | _,_=>none
def append_(E:Env)(t1 t2:TypeId)(s x:Value)(h:Hp):Option (Value×Hp):=
 match zaX E t1 t2 s x h with
 | some (v,h)=>zdD v h
 | none=>none
def copy_(E:Env)(t:TypeId)(d s:Value)(h:Hp):Option (Value×Hp):=
 match E.under t,d with
 | some (.slice e),.slice base len _=>match E.size e with
  | some sz=>match news_ h sz len s,base with
   | some (0,_),_=>some (goNat 0,h)
   | some (n+1,c),some a=>match zao h a c with
    | some h=>some (goNat (n+1),h)
    | none=>none
   | _,_=>none
  | none=>none
 | _,_=>none
def len_(E:Env)(t:TypeId)(x:Value)(h:Hp):Option Value:=
 match E.under t,x with
 | some .string,.string s=>some (goNat s.data.toList.length)
 | some (.array n _),_=>some (goNat n)
 | some (.slice _),.slice _ n _=>some (goNat n)
 | some (.slice _),.chan none=>some (goNat 0)
 | some (.map _ _),.map none=>some (goNat 0)
 | some (.map _ _),.map (some r)=>match h.get r with
  | some (.map es _)=>some (goNat es.length)
  | _=>none
 | _,_=>none
def mm_(big:Bool):Value→List Value→Option Value
 | v,[]=>some v
 | .int k x,.int _ y::l=>mm_ big (.int k (bif big then(if y>x then y else x)else(if y<x then y else x))) l
 | _,_=>none
def zbw:TypeDesc→Value→Bool
 | .int k,.int k' _=>decide (k'=k)
 | .string,.string _=>true
 | _,_=>false
def zcv:Value→Bool|.bool _|.int _ _|.string _=>true|_=>false
def zbS(h:Hp)(m:Value):Option (List MapEntry):=
 match m with
 | .map none=>some []
 | .map (some r)=>match h.get r with|some (.map es _)=>some es|_=>none
 | _=>none
def zbK(E:Env)(t:TypeId)(m k:Value)(ok:Bool)(h:Hp):Option Value:=
 match E.under t with
 | some (.map kt et)=>match E.under kt,zbS h m with
  | some d,some es=>bif zbw d k then match Instr.findNow d k es 0 with
    | some (some (_,v))=>some (bif ok then .tuple ⟨[v,.bool true]⟩else v)
    | some none=>match E.zero et with
     | some z=>some (bif ok then .tuple ⟨[z,.bool false]⟩else z)
     | none=>none
    | none=>none
   else none
  | _,_=>none
 | _=>none
def same1_:Value→Value→Bool
 | .bool a,.bool b=>a==b
 | .int j a,.int k b=>decide (j=k)&&a==b
 | .string a,.string b=>a.data.toList==b.data.toList
 | _,_=>false
def zbm(E:Env)(t:TypeId)(m k v:Value)(h:Hp):Option Hp:=
 match E.under t,m with
 | some (.map kt _),.map (some r)=>match E.under kt,h.get r with
  | some d,some (.map es clock)=>bif zbw d k&&zcv v then match Instr.findNow d k es 0 with
    | some none=>some (h.put r (.map (es++[{ key:=k,val:=v,born:=clock }]) (clock+1)))
    | some (some (i,_))=>match es[i]? with
     | some e=>match lset es i { e with key:=k,val:=v }with
      | some es'=>bif same1_ e.key k then some (h.put r (.map es' clock))else none
      | none=>none
     | none=>none
    | none=>none
   else none
  | _,_=>none
 | _,_=>none
def unsafeStr_(E:Env)(t:TypeId)(p n:Value)(h:Hp):Option (Value×Hp):=
 match p,n with
 | .pointer none,.int .i64 (.ofNat 0)=>some (.string ⟨⟨[]⟩⟩,h)
 | .pointer (some _),.int .i64 (.ofNat 0)=>some (.string ⟨⟨[]⟩⟩,h)
 | .pointer (some a),.int .i64 (.ofNat (n+1))=>match E.under t,a.spot with
  | some (.pointer e),none=>match E.size e,h.get a.block with
   | some 1,some (.cells c e' x false)=>bif zA e' e&&zC (n+1) 9223372036854775807 then match lcut c a.off (n+1)with
     | some l=>match zbe l with|some bs=>some (.string ⟨⟨bs⟩⟩,h.put a.block (.cells c e' x true))|none=>none
     | none=>none
    else none
   | _,_=>none
  | _,_=>none
 | _,_=>none
def sliceData_(x:Value):Option Value:=
 match x with
 | .slice none _ _=>some (.pointer none)
 | .slice (some a) _ (_+1)=>some (.pointer (some a))
 | _=>none
def guard_(E:Env)(t:TypeId):Value→Bool
 | .agg _=>E.eqOk t
 | _=>true
def clear_(E:Env)(t:TypeId)(x:Value)(h:Hp):Option (Value×Hp):=
 match x with
 | .slice (some a) n _=>match E.under t with
  | some (.slice e)=>match n,E.zero e with
   | 0,_=>some (undef,h)
   | n+1,some z=>match zao h a (rep_ z.cells.toList (n+1))with
    | some h=>some (undef,h)
    | none=>none
   | _,none=>none
  | _=>none
 | .slice none _ _=>match E.under t with
  | some _=>some (undef,h)
  | none=>none
 | _=>none
def zcd:Operand→Bool
 | .const _=>true
 | _=>false
def nils_(E:Env)(t:TypeId)(x y:Operand)(a b:Value):Bool:=
 match a,b,E.under t with
 | .nilIface,.nilIface,some (.interface _)=>zcd x || zcd y
 | _,_,_=>false
def aop(E:Env)(ρ:Operand→Value)(op:Op)(h:Hp):Option (Value×Hp):=
 let v (x:Option Value):Option (Value×Hp):=match x with|some x=>some (x,h)|none=>none
 match op with
 | .move x|.assign x=>some (ρ x,h)
 | .pick c a b=>match ρ c with|.bool true=>some (ρ a,h)|.bool false=>some (ρ b,h)|_=>none
 | .alloc e=>match E.zero e with
  | some z=>match zat h e z.cells.toList true with|some (a,h)=>some (.pointer (some a),h)|none=>none
  | none=>none
 | .box e x=>match isAny (ρ x),zat h e (ρ x).cells.toList true with|false,some (a,h)=>some (.pointer (some a),h)|_,_=>none
 | .build t parts=>v (build_ E t (parts.toList.map fun p=>(p.1,ρ p.2)))
 | .buildSlice t len parts=>zbB E t len (parts.toList.map fun p=>(p.1,ρ p.2)) h
 | .load t a=>match addr_ (ρ a)with|some a=>v (za8 E h t a)|none=>none
 | .store t a x=>match addr_ (ρ a),E.size t with
  | some a,some n=>bif zA (ρ x).cells.toList.length n&&!isAny (ρ x)then match zao h a (ρ x).cells.toList with|some h=>some (undef,h)|none=>none else none
  | _,_=>none
 | .nilCheck x=>match ρ x with
  | .pointer (some a)=>some (.pointer (some a),h)
  | .func (.func f) a b=>some (.func (.func f) a b,h)
  | .iface t v=>some (.iface t v,h)
  | _=>none
 | .binOp op t x y _=>match bin_ op (ρ x) (ρ y)with
  | some z=>some (z,h)
  | none=>match nils_ E t x y (ρ x) (ρ y)with
  | true=>(match op with
   | .eql=>some (.bool true,h)
   | .neq=>some (.bool false,h)
   | _=>none)
  | false=>match op with
   | .eql=>match guard_ E t (ρ x),eq_ E 20 t (ρ x) (ρ y)with|true,some b=>some (.bool b,h)|_,_=>none
   | .neq=>match guard_ E t (ρ x),eq_ E 20 t (ρ x) (ρ y)with|true,some b=>some (.bool !b,h)|_,_=>none
   | _=>none
 | .unOp op _ x=>v (un_ op (ρ x))
 | .convert s d x=>conv_ E s d (ρ x) h
 | .makeInterface t x=>match E.under t with
  | some (.interface _)=>none
  | some _=>some (.iface t (ρ x),h)
  | none=>none
 | .makeFunc fn first captured=>some (.func fn (first.map ρ) (captured.map ρ),h)
 | .makeMap t none=>match h.new (.map [] 0)with|some (b,h)=>some (.map (some b),h)|none=>none
 | .makeSlice t l c=>zbU E t (ρ l) (ρ c) h
 | .slice t x lo hi mx=>zaE E t (ρ x) (lo.map ρ) (hi.map ρ) (mx.map ρ) h
 | .fieldAddr s x f=>v (zcB E s (ρ x) f)
 | .field s x f=>v (field_ E s (ρ x) f)
 | .indexAddr t x i=>v (zbn E t (ρ x) (ρ i))
 | .index t x i=>v (index_ E t (ρ x) (ρ i))
 | .lookup t x k ok=>v (zbK E t (ρ x) (ρ k) ok h)
 | .mapUpdate t m k x=>match zbm E t (ρ m) (ρ k) (ρ x) h with|some h=>some (undef,h)|none=>none
 | .extract t i=>match ρ t with|.tuple vs=>(match vs.toList[i]? with|some x=>some (x,h)|none=>none)|_=>none
 | .call { callee:=.builtin b,args,argTypes }=>
  match b,args.toList,argTypes.toList with
  | .len,[x],[t]=>v (len_ E t (ρ x) h)
  | .append,[s,x],[t,u]=>append_ E t u (ρ s) (ρ x) h
  | .copy,[d,s],t::_=>copy_ E t (ρ d) (ρ s) h
  | .clear,[x],t::_=>clear_ E t (ρ x) h
  | .unsafeSliceData,[x],_=>v (sliceData_ (ρ x))
  | .unsafeString,[x,n],[t,_]=>unsafeStr_ E t (ρ x) (ρ n) h
  | .min,x::l,_=>v (mm_ false (ρ x) (l.map ρ))
  | .max,x::l,_=>v (mm_ true (ρ x) (l.map ρ))
  | _,_,_=>none
 | _=>none
structure Fr where
 n:Nat
 gl:Nat
 t:Tr Value
def zcf(v:Value):Value:=
 match v with
 | .agg cs=>match zdg cs.toList with|true=>.agg cs|false=>anyV
 | v=>match bare_ v with|true=>v|false=>anyV
def Fr.eval(a:Fr):Operand→Value
 | .tmp t=>match a.t.get t with|some v=>v|none=>undef
 | .const v=>zcf v
 | .func f=>.func (.func f) #[] #[]
 | .global g=>bif zB g a.gl then .pointer (some ⟨g,0,none⟩)else lost
def Fr.put(a:Fr)(d:Option Tmp)(v:Value):Option Fr:=
 Option.casesOn d (some a) fun d=>Fr.casesOn a fun n gl t=>zD (zB d n) none ((t.set 24 d v).force fun t=>some ⟨n,gl,t⟩)
theorem Fr.put_eq(a:Fr)(d:Option Tmp)(v:Value):a.put d v =
  match d with
  | none=>some a
  | some d=>bif zB d a.n then(a.t.set 24 d v).force fun t=>some ⟨a.n,a.gl,t⟩else none:=by
 cases d with
 | none=>rfl
 | some d=>
  obtain⟨n,gl,t⟩:=a
  show(zD (zB d n) none ((t.set 24 d v).force fun t=>some ⟨n,gl,t⟩):Option Fr)=bif zB d n then(t.set 24 d v).force fun t=>some ⟨n,gl,t⟩else none
  cases zB d n<;>rfl
def Fr.ofArgs:List Value→Nat→Tr Value→Tr Value
 | [],_,t=>t
 | v::l,k,t=>Fr.ofArgs l (k+1) (t.set 24 k v)
inductive Ex where
 | normal
 | exit (id:Nat)
 | ret
inductive Rs where
 | bad
 | ok (e:Ex) (a:Fr) (h:Hp)
def kind_(E:Env):Op→Nat
 | .convert _ d _=>match E.under d with|some (.int _)=>0|some .string=>1|_=>2
 | .move _|.assign _|.pick ..|.build ..|.nilCheck _|.binOp ..|.unOp ..|.makeInterface ..|.makeFunc ..|.fieldAddr ..|.field ..|.indexAddr ..|.index ..|.extract ..=>0
 | .call { callee:=.builtin .len,.. }|.call { callee:=.builtin .min,.. }|.call { callee:=.builtin .max,.. }=>1
 | .load ..|.lookup ..|.slice ..=>1
 | _=>2
def isPtr_:TypeDesc→Bool
 | .pointer _=>true
 | _=>false
def Env.meth(E:Env)(t:TypeId)(name:String):Option FuncId:=
 match E.types.get t,E.under t with
 | some i,some d=>(match i.methods.toList.find? (fun m=>m.name==name)with
  | some m=>(match m.path.toList,m.func with
   | [],some (f,pr)=>(match pr==isPtr_ d with
    | true=>some f
    | false=>none)
   | _,_=>none)
  | none=>none)
 | _,_=>none
def zcn(E:Env)(ρ:Operand→Value)(c:Call):Option (FuncId×List Value):=
 match c.callee with
 | .value f=>match ρ f with
  | .func (.func f) first captured=>some (f,first.toList++c.args.toList.map ρ++captured.toList)
  | _=>none
 | .invoke x name=>match ρ x with
  | .iface t v=>match E.meth t name with
   | some f=>some (f,v::c.args.toList.map ρ)
   | none=>none
  | _=>none
 | _=>none
def zbX(a:Fr)(ops:List Oper)(o:Oper):Option Bool:=
 match o.guard with
 | none=>some true
 | some (j,w)=>match ops[j]? with
  | some { dst:=some d,.. }=>match a.t.get d with
   | some (.bool b)=>some (b==w)
   | some (.tuple _)|none=>some false
   | _=>none
  | _=>none
section
variable (E:Env) (call:FuncId→List Value→Hp→Option (Value×Hp))
def oneOp(ρ:Operand→Value)(op:Op)(h:Hp):Option (Value×Hp):=
 match op with
 | .call c=>match c.callee with
  | .value _=>match zcn E ρ c with
   | some (f,args)=>call f args h
   | none=>none
  | .invoke _ _=>match zcn E ρ c with
   | some (f,args)=>call f args h
   | none=>none
  | _=>aop E ρ op h
 | op=>aop E ρ op h
def ops_(all:List Oper):List Oper→Fr→Hp→Rs
 | [],a,h=>.ok .normal a h
 | o::rest,a,h=>
  match zbX a all o with
  | some true=>match oneOp E call a.eval o.op h with
   | some (v,h)=>match a.put o.dst v with
    | some a=>ops_ all rest a h
    | none=>.bad
   | none=>.bad
  | some false=>match a.put o.dst undef with
   | some a=>ops_ all rest a h
   | none=>.bad
  | none=>.bad
end
def anc_:List Oper→List Nat→List Nat
 | [],acc=>acc
 | o::l,acc=>anc_ l (acc++[o.after.toList.foldl (fun m e=>bif Region.binds .any e then m ||| 2 ^ e.on ||| (match acc[e.on]? with|some k=>k|none=>0)else m) 0])
def zcz(all:List Oper)(o:Oper):List Tmp:=
 (o.op.operands.toList.filterMap fun|.tmp t=>some t|_=>none)++(match o.guard with
  | some (g,_)=>(match all[g]? with|some { dst:=some d,.. }=>[d]|_=>[])
  | none=>[])
def clash_(all:List Oper)(x y:Oper):Bool:=
 (match x.dst with|some d=>(zcz all y).any (zA d) || (match y.dst with|some e=>zA d e|none=>false)|none=>false) ||
 (match y.dst with|some d=>(zcz all x).any (zA d)|none=>false)
def zbM:Op→Bool
 | .alloc _=>true
 | .makeMap _ none=>true
 | .makeSlice _ (.const _) (.const _)=>true
 | .buildSlice _ _ ps=>ps.toList.all fun p=>zcd p.2
 | _=>false
inductive Way where
 | ptr
 | map
 | slice (l c:Nat)
def Way.v:Way→Nat→Value
 | .ptr,b=>.pointer (some ⟨b,0,none⟩)
 | .map,b=>.map (some b)
 | .slice l c,b=>.slice (some ⟨b,0,none⟩) l c
def zcM:Operand→Value
 | .const v=>zcf v
 | _=>undef
def flo_(E:Env)(op:Op):Option (Blk×Way):=
 match op with
 | .alloc e=>match E.zero e with|some z=>some (.cells z.cells.toList e true false,.ptr)|none=>none
 | .makeMap _ none=>some (.map [] 0,.map)
 | .makeSlice t (.const l) (.const c)=>match E.under t,zcf l,zcf c with
  | some (.slice e),.int _ (.ofNat l),.int _ (.ofNat c)=>match E.size e,E.bytes e,E.zero e with
   | some s,some b,some z=>bif zC l c&&zC (c*b) 140737488355328&&zC c 9223372036854775807&&zA z.cells.toList.length s then some (.cells (rep_ z.cells.toList c) e true false,.slice l c)else none
   | _,_,_=>none
  | _,_,_=>none
 | .buildSlice t len ps=>match E.under t with
  | some (.slice e)=>match E.size e,E.zero e with
   | some s,some z=>bif zC (len*s) 16777216&&zA z.cells.toList.length s then
     match fill_ (fun i=>some (i*s,s)) (rep_ z.cells.toList len) (ps.toList.map fun p=>(p.1,zcM p.2))with
     | some c=>some (.cells c e true false,.slice len len)
     | none=>none
    else none
   | _,_=>none
  | _=>none
 | _=>none
def kd_(E:Env)(m:Bool)(op:Op):Nat:=bif m&&zbM op then 3 else kind_ E op
def bitOf_(an:List Nat)(j i:Nat):Bool:=zH (match an[j]? with|some k=>k|none=>0) i
def zaT(E:Env)(m:Bool)(all:List Oper)(an:List Nat):Bool:=
 all.zipIdx.all fun(y,j)=>(y.after.toList.all fun e=>!(Region.binds .any e) || zB e.on j)&&
  (all.zipIdx.all fun(x,i)=>!(zB i j) || zH (match an[j]? with|some k=>k|none=>0) i || (!(clash_ all x y)&&!(zB 1 (kd_ E m x.op)&&zA (kd_ E m y.op) 2)))
def zbl(E:Env)(all:List Oper)(an:List Nat):Bool:=
 all.zipIdx.all fun(x,f)=>!(zbM x.op) || (
  (match x.dst with
   | some d=>all.zipIdx.all fun(y,j)=>zA j f || (match y.dst with|some e=>!(zA e d)|none=>true)
   | none=>false)&&
  all.zipIdx.all fun(y,j)=>!(zB f j) || zA (kd_ E true y.op) 2 || zA (kd_ E true y.op) 0 || !(bitOf_ an j f) ||
   all.zipIdx.any fun(z,e)=>zB f e&&zB e j&&zA (kd_ E true z.op) 2&&bitOf_ an j e)
def at_:List Nat→Nat→Nat
 | [],_=>0
 | y::l,x=>bif zA y x then 0 else at_ l x+1
def ren_(p:Nat→Nat)(o:Oper):Oper:={ o with after:=o.after.map fun e=>{ e with on:=p e.on },guard:=o.guard.map fun g=>(p g.1,g.2) }
def za0(all:List Oper)(ord:List Nat):List Oper:=ord.filterMap fun i=>match all[i]? with|some o=>some (ren_ (at_ ord) o)|none=>none
def ordOk_(all:List Oper)(ord:List Nat):Bool:=
 zA (za0 all ord).length all.length&&zA ord.length all.length&&
 (List.range all.length).all (fun i=>(match ord[at_ ord i]? with|some j=>zA j i|none=>false)&&(match ord[i]? with|some j=>zA (at_ ord j) i&&zB j all.length|none=>false))&&
 all.all fun o=>o.after.toList.all (fun e=>zB e.on all.length)&&(match o.guard with|some g=>zB g.1 all.length|none=>true)
def late_(all:List Oper):List (Oper×Nat)→List (Nat×Tmp)→List Nat
 | [],pend=>pend.map (·.1)
 | (o,i)::l,pend=>match zbM o.op,o.dst with
  | true,some d=>late_ all l (pend++[(i,d)])
  | _,_=>
   let now:=fun(q:Nat×Tmp)=>(zcz all o).any (zA q.2) || o.after.toList.any fun e=>zA e.on q.1
   (pend.filter now).map (·.1)++i::late_ all l (pend.filter fun q=>!(now q))
def leq_{α:Type}(q:α→α→Bool):List α→List α→Bool
 | [],[]=>true
 | x::l,y::m=>match q x y with|true=>leq_ q l m|false=>false
 | _,_=>false
def aeq_(a b:Option Addr):Bool:=match a,b with
 | none,none=>true
 | some a,some b=>zA a.block b.block&&zA a.off b.off&&(match a.spot,b.spot with|none,none=>true|_,_=>false)
 | _,_=>false
def veq1_:Value→Value→Bool
 | .bool a,.bool b=>a==b
 | .int k a,.int k' b=>decide (k=k')&&a==b
 | .string a,.string b=>a.data.toList==b.data.toList
 | .pointer a,.pointer b=>aeq_ a b
 | .slice a n c,.slice b n' c'=>aeq_ a b&&zA n n'&&zA c c'
 | .map (some a),.map (some b)=>zA a b
 | .map none,.map none|.nilFunc,.nilFunc|.nilIface,.nilIface=>true
 | .complex .f32 0 0,.complex .f32 0 0=>true
 | .chan none,.chan none=>true
 | _,_=>false
def veq_:Value→Value→Bool
 | .agg a,.agg b=>leq_ veq1_ a.toList b.toList
 | .tuple a,.tuple b=>leq_ veq1_ a.toList b.toList
 | .func (.func f) a b,.func (.func g) c d=>zA f g&&leq_ veq1_ a.toList c.toList&&leq_ veq1_ b.toList d.toList
 | .iface s (.agg a),.iface t (.agg b)=>zA s t&&leq_ veq1_ a.toList b.toList
 | .iface s a,.iface t b=>zA s t&&veq1_ a b
 | a,b=>veq1_ a b
structure Tc where
 a:Fr
 h:Hp
 did:Bool
 v:Value
section
variable (E:Env) (call:FuncId→List Value→Hp→Option (Value×Hp))
def zbt(all:List Oper):List Oper→Fr→Hp→Option (List Tc×Fr×Hp)
 | [],a,h=>some ([],a,h)
 | o::rest,a,h=>
  match zbX a all o with
  | some true=>match oneOp E call a.eval o.op h with
   | some (v,h2)=>match a.put o.dst v with
    | some a2=>match zbt all rest a2 h2 with
     | some (l,r)=>some (⟨a,h,true,v⟩::l,r)
     | none=>none
    | none=>none
   | none=>none
  | some false=>match a.put o.dst undef with
   | some a2=>match zbt all rest a2 h with
    | some (l,r)=>some (⟨a,h,false,undef⟩::l,r)
    | none=>none
   | none=>none
  | none=>none
def zcl(t:Tc)(op:Op)(h:Hp):Bool:=
 match aop E t.a.eval op h with
 | some (v,h2)=>veq_ v t.v&&zA h2.next h.next
 | none=>false
def zbD(m:Bool)(all:List Oper)(an:List Nat)(tr:List Tc)(last:Hp):Bool:=
 (all.zip tr).zipIdx.all fun((x,t),i)=>!(t.did&&zA (kd_ E m x.op) 1) || (zcl E t x.op t.h&&
  (all.zip tr).zipIdx.all fun((y,u),e)=>!(u.did&&zB 1 (kd_ E m y.op)) ||
   bif zB e i then zH (match an[i]? with|some k=>k|none=>0) e || zcl E t x.op u.h
   else zH (match an[e]? with|some k=>k|none=>0) i || zcl E t x.op (match tr[e+1]? with|some u=>u.h|none=>last))
def ups_:List Tc→Hp→Bool
 | [],_=>true
 | t::l,last=>match zC t.h.next (match l with|[]=>last.next|u::_=>u.h.next)with
  | true=>ups_ l last
  | false=>false
def zb3(m:Bool)(all:List Oper)(an:List Nat)(a:Fr)(h:Hp):Rs:=
 match zbt E call all all a h with
 | some (tr,a2,h2)=>bif zbD E m all an tr h2&&(bif m then ups_ tr h2 else true)then .ok .normal a2 h2 else .bad
 | none=>.bad
def draws2_(all:List Oper)(an:List Nat)(a:Fr)(h:Hp):Rs:=
 bif zaT E true all an&&zbl E all an then zb3 E call true all an a h else .bad
def draws_(all:List Oper)(a:Fr)(h:Hp):Rs:=
 let an:=anc_ all []
 bif zaT E false all an then zb3 E call false all an a h
 else bif zaT E true all an&&zbl E all an then zb3 E call true all an a h
 else bif ordOk_ all (late_ all all.zipIdx [])then draws2_ E call (za0 all (late_ all all.zipIdx [])) (anc_ (za0 all (late_ all all.zipIdx [])) []) a h else .bad
end
def zbc(E:Env)(a:Fr)(h:Hp):List ResultVar→Option (List Value)
 | []=>some []
 | .tmp t::l=>match zbc E a h l with
  | some r=>some (a.eval (.tmp t)::r)
  | none=>none
 | .cell t ty::l=>match addr_ (a.eval (.tmp t))with
  | some ad=>match za8 E h ty ad,zbc E a h l with
   | some v,some r=>some (v::r)
   | _,_=>none
  | none=>none
def zcF(E:Env)(a:Fr)(h:Hp)(l:List ResultVar):Option Value:=
 match zbc E a h l with
 | some [v]=>some v
 | some vs=>some (.tuple ⟨vs⟩)
 | none=>none
abbrev Sp:=FuncId→Option (List Value→Hp→Option (Value×Hp))
def zae(E:Env)(sp:Sp):Nat→Code ⊕ (FuncId×List Value)→Fr→Hp→Rs
 | 0,_,_,_=>.bad
 | n+1,.inl c,a,h=>
  match c with
  | .skip|.label _=>.ok .normal a h
  | .region _ ops draw=>
   let call:=fun f args h=>match sp f with
    | some g=>g args h
    | none=>match zae E sp n (.inr (f,args)) a h with
     | .ok _ r h=>some (r.eval (.tmp 0),h)
     | .bad=>none
   (match draw with
    | false=>ops_ E call ops.toList ops.toList a h
    | true=>draws_ E call ops.toList a h)
  | .seq x y=>(match zae E sp n (.inl x) a h with
   | .ok .normal a h=>zae E sp n (.inl y) a h
   | r=>r)
  | .cond c x y=>(match a.eval c with
   | .bool true=>zae E sp n (.inl x) a h
   | .bool false=>zae E sp n (.inl y) a h
   | _=>.bad)
  | .block id x=>(match zae E sp n (.inl x) a h with
   | .ok (.exit id') a h=>bif zA id' id then .ok .normal a h else .ok (.exit id') a h
   | r=>r)
  | .loop x=>(match zae E sp n (.inl x) a h with
   | .ok .normal a h=>zae E sp n (.inl (.loop x)) a h
   | r=>r)
  | .exit id=>.ok (.exit id) a h
  | .ret=>.ok .ret a h
  | _=>.bad
 | n+1,.inr (f,args),_,h=>
  match E.funcs.get f with
  | some fn=>match fn.body,zC args.length fn.ntmps&&zC fn.ntmps 100000 with
   | some c,true=>match zae E sp n (.inl c) ⟨fn.ntmps,E.gl,Fr.ofArgs args 0 .nil⟩ h with
    | .ok .normal a h|.ok .ret a h=>match zcF E a h fn.results.toList with
     | some v=>.ok .ret ⟨1,0,.node (some v) .nil .nil⟩ h
     | none=>.bad
    | _=>.bad
   | _,_=>.bad
  | none=>.bad
def zb6(E:Env)(sp:Sp)(n:Nat)(f:FuncId)(args:List Value)(h:Hp):Option (Value×Hp):=
 match zae E sp n (.inr (f,args)) ⟨0,0,.nil⟩ h with
 | .ok _ r h=>some (r.eval (.tmp 0),h)
 | .bad=>none
end Go.Proofs.YtponjccgpbgnoaaGreatDoor
