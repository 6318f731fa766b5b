/- A symbolic evaluator over the evaluator: numbers, texts and rows of which some are not known. What it answers is a tree that parts at each test that is not known. -/
import Derived.Test.YtponjccgpbgnoaaGreatDoorAbR
set_option linter.unusedVariables false
set_option linter.unusedSimpArgs false
set_option linter.unusedSectionVars false
open Nat renaming beq→zA,ble→zB,blt→zC,min→zD
open List renaming range→zE
namespace Go.Proofs.YtponjccgpbgnoaaGreatDoor.Se
open Go Go.Proofs.YtponjccgpbgnoaaGreatDoor
inductive RT(α:Type) where
 | bad
 | ret (x:α)
 | br (b:Bool) (t f:RT α)
def RT.bind{α β:Type}:RT α→(α→RT β)→RT β
 | .bad,_=>.bad
 | .ret x,k=>k x
 | .br b t f,k=>.br b (t.bind k) (f.bind k)
def RT.sel{α:Type}:RT α→Option α
 | .bad=>none
 | .ret x=>some x
 | .br b t f=>bif b then t.sel else f.sel
def test_{α:Type}(c b:Bool)(t f:RT α):RT α:=
 match c with
 | true=>(match b with|true=>t|false=>f)
 | false=>.br b t f
def chk{α:Type}(c b:Bool)(r:RT α):RT α:=test_ c b r .bad
def lift{α:Type}:Option α→RT α
 | some x=>.ret x
 | none=>.bad
inductive SV where
 | lost
 | int (k:IntKind) (c:Bool) (x:Int)
 | bool (c:Bool) (b:Bool)
 | str (c:Bool) (s:List UInt8)
 | raw (v:Value)
 | agg (l:List SV)
 | tup (l:List SV)
 | ptr (id k:Nat) (c:Bool) (i o:Nat)
 | aptr (id k:Nat) (c:Bool) (i o N j:Nat)
 | nsl (id k:Nat) (c:Bool) (s n z:Nat)
 | asl (id k:Nat) (c:Bool) (i o N:Nat) (cj:Bool) (j n:Nat)
 | fsl (st k n:Nat) (nl:Option Bool) (e:Nat→List SV)
 | fptr (st k n:Nat) (e:Nat→List SV) (i o:Nat)
 | mp (id:Nat)
 | fn (f:Nat) (first captured:List SV)
inductive SB where
 | lst (k:Nat) (rows:List (List SV)) (t:TypeId)
 | row (k n:Nat) (e:Nat→List SV) (t:TypeId)
 | mp (es:List MapEntry) (clock:Nat)
 | gone
structure SH where
 next:Nat
 clk:Nat
 room:Nat
 log:List Nat
 t:Tr SB
def SH.get(h:SH)(id:Nat):Option SB:=h.t.get id
def SH.put(h:SH)(id:Nat)(b:SB):SH:=(h.t.set 24 id b).force fun t=>⟨h.next,h.clk,h.room,id::h.log,t⟩
def SH.new(h:SH)(b:SB):Option (Nat×SH):=bif zC h.next 9223372036854775808&&zB 2 h.room then(h.t.set 24 h.next b).force fun t=>some (h.next,⟨h.next+1,h.clk,h.room-2,h.log,t⟩)else none
def mkI(k:IntKind)(c:Bool)(x:Int):SV:=
 match c with
 | true=>(match x with|.ofNat n=>.int k true (.ofNat n)|.negSucc n=>.int k true (.negSucc n))
 | false=>.int k false x
def mkB(c:Bool)(b:Bool):SV:=
 match c with
 | true=>(match b with|true=>.bool true true|false=>.bool true false)
 | false=>.bool false b
def ofV(v:Value):Option SV:=
 match v with
 | .int k (.ofNat n)=>some (.int k true (.ofNat n))
 | .int k (.negSucc n)=>some (.int k true (.negSucc n))
 | .bool true=>some (.bool true true)
 | .bool false=>some (.bool true false)
 | .string s=>some (.str true s.data.toList)
 | .slice none 0 0=>some (.raw (.slice none 0 0))
 | .pointer none=>some (.raw (.pointer none))
 | .map none=>some (.raw (.map none))
 | .nilIface=>some (.raw .nilIface)
 | .nilFunc=>some (.raw .nilFunc)
 | _=>none
def ofVs:List Value→Option (List SV)
 | []=>some []
 | v::l=>match ofV v,ofVs l with|some x,some r=>some (x::r)|_,_=>none
def ofC(v:Value):SV:=
 match v with
 | .agg cs=>match ofVs cs.toList with|some l=>.agg l|none=>.lost
 | v=>match ofV v with|some x=>x|none=>.lost
def val?(x:SV):Option Value:=
 match x with
 | .int k true n=>some (.int k n)
 | .bool true b=>some (.bool b)
 | .str true s=>some (.string ⟨⟨s⟩⟩)
 | .raw v=>some v
 | _=>none
def SV.cells:SV→List SV
 | .agg l=>l
 | v=>[v]
def one1_:SV→Bool
 | .lost|.agg _|.tup _=>false
 | _=>true
def zc0:List SV→Bool
 | []=>true
 | v::l=>match one1_ v with|true=>zc0 l|false=>false
def free_:SV→Bool
 | .int _ _ _|.bool _ _|.str _ _|.raw _|.fsl _ _ _ _ _=>true
 | _=>false
def zbO:List SV→Bool
 | []=>true
 | v::l=>match free_ v with|true=>zbO l|false=>false
def mux(b:Bool)(x y:SV):Nat→SV
 | 0=>.lost
 | d+1=>match x,y with
  | .int k _ a,.int k' _ a'=>(match decide (k=k')with|true=>.int k false (bif b then a else a')|false=>.lost)
  | .bool _ a,.bool _ a'=>.bool false (bif b then a else a')
  | .str _ a,.str _ a'=>.str false (bif b then a else a')
  | .fsl st k n nl e,.fsl st' k' n' nl' e'=>(match zA k k' with
   | true=>.fsl (Nat.max st st') k (bif b then n else n') (match nl,nl' with|some a,some a'=>some (bif b then a else a')|_,_=>none) fun i=>muxs k (mux b · · d) (e i) (e' i)
   | false=>.lost)
  | .raw (.slice none 0 0),.raw (.slice none 0 0)=>.raw (.slice none 0 0)
  | .raw (.slice none 0 0),.fsl st k n nl e=>.fsl st k (bif b then 0 else n) (match nl with|some a=>some (bif b then true else a)|none=>none) e
  | .fsl st k n nl e,.raw (.slice none 0 0)=>.fsl st k (bif b then n else 0) (match nl with|some a=>some (bif b then a else true)|none=>none) e
  | _,_=>.lost
 where
 zips (q:SV→SV→SV):List SV→List SV→List SV
  | x::l,y::m=>q x y::zips q l m
  | _,_=>[]
 muxs (k:Nat) (q:SV→SV→SV) (x y:List SV):List SV:=
  match zA x.length k,zA y.length k with
  | true,true=>zips q x y
  | true,false=>x
  | false,true=>y
  | false,false=>List.replicate k .lost
def muxR(k:Nat)(b:Bool):List SV→List SV→List SV:=mux.muxs k (mux b · · 3)
def pick_:List SV→Nat→SV
 | [],_=>.lost
 | x::l,j=>match l with
  | []=>x
  | _=>mux (zA j 0) x (pick_ l (j-1)) 3
def poke_:List SV→Nat→Nat→SV→List SV
 | [],_,_,_=>[]
 | x::l,q,j,y=>mux (zA j q) y x 3::poke_ l (q+1) j y
def nthRow(k:Nat):List (List SV)→Nat→List SV
 | [],_=>[]
 | r::l,i=>match l with
  | []=>r
  | _=>muxR k (zA i 0) r (nthRow k l (i-1))
def rowAt(b:SB)(c:Bool)(i:Nat):Option (List SV):=
 match b with
 | .lst k rows _=>(match c with|true=>rows[i]?|false=>some (nthRow k rows i))
 | .row _ _ e _=>some (e i)
 | _=>none
def zcS(E:Env)(t:TypeId)(r:List SV)(o:Nat):Option SV:=
 match E.agg t,E.size t with
 | some true,some n=>match lcut r o n with|some c=>some (.agg c)|none=>none
 | some false,_=>match lcut r o 1 with|some [v]=>some v|_=>none
 | _,_=>none
def load1_(E:Env)(h:SH)(t:TypeId)(p:SV):Option SV:=
 match p with
 | .ptr id _ c i o=>(match h.get id with
  | some b=>(match rowAt b c i with|some r=>zcS E t r o|none=>none)
  | none=>none)
 | .fptr _ _ _ e i o=>zcS E t (e i) o
 | .aptr id _ c i o N j=>(match h.get id,E.agg t with
  | some b,some false=>(match rowAt b c i with
   | some r=>(match lcut r o N with|some l=>some (pick_ l j)|none=>none)
   | none=>none)
  | _,_=>none)
 | _=>none
def zcV(h:SH)(id k:Nat)(c:Bool)(i:Nat)(f:List SV→Option (List SV)):Option SH:=
 match h.get id with
 | some (.lst k' rows t)=>(match c,rows[i]?,zA k k' with
  | true,some r,true=>(match f r with
   | some r'=>(match lset rows i r' with|some rows=>some (h.put id (.lst k' rows t))|none=>none)
   | none=>none)
  | _,_,_=>none)
 | some (.row k' n e t)=>(match zA k k' with
  | true=>some (h.put id (.row k' n (fun q=>match f (e q)with|some r'=>muxR k (zA q i) r' (e q)|none=>e q) t))
  | false=>none)
 | _=>none
def store1_(E:Env)(h:SH)(t:TypeId)(p x:SV):Option SH:=
 let xs:=x.cells
 match E.size t with
 | some n=>bif zA xs.length n&&zc0 xs then
  match p with
  | .ptr id k c i o=>(match h.get id with
   | some (.lst _ _ _)=>zcV h id k c i (fun r=>zaz r xs o)
   | some (.row _ _ _ _)=>bif zB (o+xs.length) k&&zbO xs then zcV h id k c i (fun r=>zaz r xs o)else none
   | _=>none)
  | .aptr id k c i o N j=>(match xs,h.get id with
   | [y],some (.lst _ _ _)=>bif zB (o+N) k then zcV h id k c i (fun r=>match lcut r o N with|some l=>zaz r (poke_ l 0 j y) o|none=>none)else none
   | [y],some (.row _ _ _ _)=>bif zB (o+N) k&&free_ y then zcV h id k c i (fun r=>match lcut r o N with|some l=>zaz r (poke_ l 0 j y) o|none=>none)else none
   | _,_=>none)
  | _=>none
  else none
 | none=>none
structure Src where
 c:Bool
 n:Nat
 e:Nat→List SV
 l:Option (List (List SV))
 fr:Bool
def byteRow(l:List UInt8)(i:Nat):List SV:=[.int .u8 false (.ofNat (l.getD i 0).toNat)]
def zcp:List UInt8→List (List SV)
 | []=>[]
 | b::l=>[.int .u8 true (.ofNat b.toNat)]::zcp l
def src_(h:SH)(k:Nat)(x:SV):Option Src:=
 match x with
 | .raw (.slice none 0 0)=>some ⟨true,0,fun _=>[],some [],true⟩
 | .nsl id k' c s n _=>(match zA k' k,h.get id with
  | true,some (.lst _ rows _)=>(match c with
   | true=>(match lcut rows s n with|some l=>some ⟨true,n,nthRow k l,some l,l.all zbO⟩|none=>none)
   | false=>none)
  | true,some (.row _ _ e _)=>some ⟨c,n,fun i=>e (s+i),none,true⟩
  | _,_=>none)
 | .asl id _ c i o N cj j n=>(match zA 1 k,h.get id with
  | true,some b=>(match rowAt b c i with
   | some r=>(match lcut r o N with|some l=>some ⟨cj,n,fun q=>[pick_ l (j+q)],none,zbO l⟩|none=>none)
   | none=>none)
  | _,_=>none)
 | .fsl _ k' n _ e=>(match zA k' k with|true=>some ⟨false,n,e,none,true⟩|false=>none)
 | .str c s=>(match zA 1 k,c with
  | true,true=>some ⟨true,s.length,byteRow s,some (zcp s),true⟩
  | true,false=>some ⟨false,s.length,byteRow s,none,true⟩
  | _,_=>none)
 | _=>none
def asNat{α:Type}(v:SV)(f:Bool→Nat→RT α):RT α:=
 match v with
 | .int _ true (.ofNat n)=>f true n
 | .int _ false x=>.br (decide (0≤x)) (f false x.toNat) .bad
 | _=>.bad
def bin1_(op:BinOp)(x y:SV):RT SV:=
 match x,y with
 | .int k c a,.int k' c' b=>
  (match op with
  | .shl=>asNat (.int k' c' b) fun c' n=>.ret (mkI k (c&&c') (k.wrap (a*2 ^ zD n k.bits)))
  | .shr=>asNat (.int k' c' b) fun c' n=>.ret (mkI k (c&&c') (a.fdiv (2 ^ zD n k.bits)))
  | op=>(match decide (k=k')with
   | false=>.bad
   | true=>(match op with
    | .add=>.ret (mkI k (c&&c') (k.wrap (a+b)))
    | .sub=>.ret (mkI k (c&&c') (k.wrap (a-b)))
    | .mul=>.ret (mkI k (c&&c') (k.wrap (a*b)))
    | .quo=>chk c' (!(decide (b=0))) (.ret (mkI k (c&&c') (k.wrap (a.tdiv b))))
    | .rem=>chk c' (!(decide (b=0))) (.ret (mkI k (c&&c') (a.tmod b)))
    | .and=>.ret (mkI k (c&&c') (k.wrap (BitVec.ofInt k.bits a&&& BitVec.ofInt k.bits b).toNat))
    | .or=>.ret (mkI k (c&&c') (k.wrap (BitVec.ofInt k.bits a ||| BitVec.ofInt k.bits b).toNat))
    | .xor=>.ret (mkI k (c&&c') (k.wrap (BitVec.ofInt k.bits a ^^^ BitVec.ofInt k.bits b).toNat))
    | .andNot=>.ret (mkI k (c&&c') (k.wrap (BitVec.ofInt k.bits a&&& ~~~BitVec.ofInt k.bits b).toNat))
    | .eql=>.ret (mkB (c&&c') (a==b))
    | .neq=>.ret (mkB (c&&c') (a != b))
    | .lss=>.ret (mkB (c&&c') (decide (a<b)))
    | .leq=>.ret (mkB (c&&c') (decide (a≤b)))
    | .gtr=>.ret (mkB (c&&c') (decide (a>b)))
    | .geq=>.ret (mkB (c&&c') (decide (a≥b)))
    | _=>.bad)))
 | .str c a,.str c' b=>
  (match op with
  | .add=>chk (c&&c') (decide (a.length+b.length≤9223372036854775807)) (.ret (.str (c&&c') (a++b)))
  | .eql=>.ret (mkB (c&&c') (a==b))
  | .neq=>.ret (mkB (c&&c') !(a==b))
  | .lss=>.ret (mkB (c&&c') (Op.bytesLess a b))
  | .leq=>.ret (mkB (c&&c') (Op.bytesLess a b || a==b))
  | .gtr=>.ret (mkB (c&&c') !(Op.bytesLess a b || a==b))
  | .geq=>.ret (mkB (c&&c') !(Op.bytesLess a b))
  | _=>.bad)
 | _,_=>.bad
def eqs1_{α:Type}(f g:α→Option SV)(q:α→SV→SV→Option (Bool×Bool))(skip:α→Bool):List α→Option (Bool×Bool)
 | []=>some (true,true)
 | i::l=>(match skip i with
  | true=>eqs1_ f g q skip l
  | false=>(match f i,g i with
   | some a,some b=>(match q i a b,eqs1_ f g q skip l with
    | some (c,x),some (c',y)=>some (c&&c',x&&y)
    | _,_=>none)
   | _,_=>none))
def eq1_(E:Env):Nat→TypeId→SV→SV→Option (Bool×Bool)
 | 0,_,_,_=>none
 | d+1,t,x,y=>
  (match E.under t,x,y with
  | some .bool,.bool c a,.bool c' b=>some (c&&c',a==b)
  | some (.int _),.int k c a,.int k' c' b=>(match decide (k=k')with|true=>some (c&&c',a==b)|false=>none)
  | some .string,.str c a,.str c' b=>some (c&&c',a==b)
  | some (.pointer _),.raw (.pointer none),.raw (.pointer none)=>some (true,true)
  | some (.pointer _),.ptr _ _ _ _ _,.raw (.pointer none)=>some (true,false)
  | some (.pointer _),.raw (.pointer none),.ptr _ _ _ _ _=>some (true,false)
  | some (.slice _),.raw (.slice none 0 0),.raw (.slice none 0 0)=>some (true,true)
  | some (.slice _),.nsl _ _ _ _ _ 0,.raw (.slice none 0 0)=>some (true,false)
  | some (.slice _),.asl _ _ _ _ _ _ _ _ _,.raw (.slice none 0 0)=>some (true,false)
  | some (.slice _),.fsl _ _ _ (some b) _,.raw (.slice none 0 0)=>some (false,b)
  | some (.map _ _),.mp _,.raw (.map none)=>some (true,false)
  | some (.map _ _),.raw (.map none),.raw (.map none)=>some (true,true)
  | some (.interface _),.raw (.iface _ _),.raw .nilIface=>some (true,false)
  | some (.func _ _ _),.raw .nilFunc,.raw .nilFunc=>some (true,true)
  | some (.func _ _ _),.raw .nilFunc,.fn _ _ _=>some (true,false)
  | some (.func _ _ _),.fn _ _ _,.raw .nilFunc=>some (true,false)
  | some (.struct fs),.agg xs,.agg ys=>bif E.eqOk t then eqs1_ (fun f=>zcS E f.type xs f.offset) (fun f=>zcS E f.type ys f.offset) (fun f a b=>eq1_ E d f.type a b) (fun f=>f.name== "_") fs.toList else none
  | some (.array n e),.agg xs,.agg ys=>(match E.size e with
   | some s=>eqs1_ (fun i=>zcS E e xs (i*s)) (fun i=>zcS E e ys (i*s)) (fun _ a b=>eq1_ E d e a b) (fun _=>false) (zE n)
   | none=>none)
  | _,_,_=>none)
def guard1_(E:Env)(t:TypeId):SV→Bool
 | .agg _=>E.eqOk t
 | _=>true
def un1_(op:UnOp)(x:SV):RT SV:=
 match op,x with
 | .neg,.int k c n=>.ret (mkI k c (k.wrap (0-n)))
 | .not,.bool c b=>.ret (mkB c !b)
 | .xor,.int k c n=>.ret (mkI k c (k.wrap (BitVec.ofInt k.bits (if k.signed then -1 else k.max) ^^^ BitVec.ofInt k.bits n).toNat))
 | _,_=>.bad
def byteOf:List SV→UInt8
 | [.int .u8 _ (.ofNat n)]=>UInt8.ofNat n
 | [.int .u8 _ x]=>UInt8.ofNat x.toNat
 | _=>0
def isByte:List SV→Bool
 | [.int .u8 _ x]=>decide (0≤x)
 | _=>false
def bytes1_(n:Nat)(e:Nat→List SV):List UInt8:=(zE n).map fun i=>byteOf (e i)
def bytesL:List (List SV)→Option (List UInt8)
 | []=>some []
 | [.int .u8 true (.ofNat n)]::l=>(match bytesL l with|some r=>some (UInt8.ofNat n::r)|none=>none)
 | _=>none
def firm_:SV→Bool
 | .raw (.slice none 0 0)=>true
 | .nsl _ _ _ _ _ z=>zB z 1
 | .asl _ _ _ _ _ _ _ _ _=>true
 | .fsl _ _ _ _ _=>true
 | _=>false
def conv1_(E:Env)(src dst:TypeId)(x:SV)(h:SH):RT (SV×SH):=
 match E.under src,E.under dst,x with
 | some _,some (.int k),.int _ c n=>.ret (mkI k c (k.wrap n),h)
 | some _,some .string,.str c s=>.ret (.str c s,h)
 | some _,some .string,.int _ true n=>.ret (.str true (Utf8.encode n).data.toList,h)
 | some (.slice e),some .string,x=>(match E.under e,src_ h 1 x,firm_ x with
  | some (.int .u8),some q,true=>(match q.l with
   | some l=>(match bytesL l with
    | some s=>.ret (.str true s,h)
    | none=>chk false ((zE q.n).all fun i=>isByte (q.e i)) (.ret (.str false (bytes1_ q.n q.e),h)))
   | none=>chk false ((zE q.n).all fun i=>isByte (q.e i)) (.ret (.str false (bytes1_ q.n q.e),h)))
  | _,_,_=>.bad)
 | some .string,some (.slice e),.str c s=>(match E.under e,E.size e with
  | some (.int .u8),some 1=>(match c with
   | true=>(match h.new (.lst 1 (zcp s) e)with|some (id,h)=>test_ true (zA s.length 0) (.ret (.nsl id 1 true 0 s.length 2,h)) (.ret (.nsl id 1 true 0 s.length 0,h))|none=>.bad)
   | false=>(match h.new (.row 1 s.length (byteRow s) e)with|some (id,h)=>test_ false (zA s.length 0) (.ret (.nsl id 1 false 0 s.length 2,h)) (.ret (.nsl id 1 false 0 s.length 0,h))|none=>.bad))
  | _,_=>.bad)
 | _,_,_=>.bad
def fill1_(place:Nat→Option (Nat×Nat))(cells:List SV):List (Nat×SV)→Option (List SV)
 | []=>some cells
 | (i,v)::rest=>
  (match place i with
  | none=>none
  | some (off,size)=>bif zA v.cells.length size&&zc0 v.cells then
    (match zaz cells v.cells off with
    | some cells=>fill1_ place cells rest
    | none=>none)
   else none)
def zero1_(E:Env)(t:TypeId):Option (List SV):=match E.zero t with|some z=>ofVs z.cells.toList|none=>none
def build1_(E:Env)(t:TypeId)(parts:List (Nat×SV)):Option SV:=
 match zero1_ E t,E.under t with
 | some z,some (.struct fields)=>(match zcY E fields.toList with
  | some pl=>(match fill1_ (fun i=>pl[i]?) z parts with
   | some c=>some (.agg c)
   | none=>none)
  | none=>none)
 | some z,some (.array _ e)=>(match E.size e with
  | some s=>(match fill1_ (fun i=>some (i*s,s)) z parts with
   | some c=>some (.agg c)
   | none=>none)
  | none=>none)
 | _,_=>none
def rows_(k:Nat):Nat→List SV→List (List SV)
 | 0,_=>[]
 | n+1,l=>(match ltake k l,ldrop k l with|some r,some q=>r::rows_ k n q|_,_=>[])
def zdf(E:Env)(t:TypeId)(len:Nat)(parts:List (Nat×SV))(h:SH):Option (SV×SH):=
 match E.under t with
 | some (.slice e)=>(match E.size e,zero1_ E e with
  | some s,some z=>bif zB (len*s) 16777216&&zA z.length s then
    (match fill1_ (fun i=>some (i*s,s)) (rep_ z len) parts with
    | some c=>(match h.new (.lst s (rows_ s len c) e)with
     | some (id,h)=>some (.nsl id s true 0 len 0,h)
     | none=>none)
    | none=>none)
   else none
  | _,_=>none)
 | _=>none
def zcj{α:Type}(cn:Bool)(n:Nat)(lo hi:Option SV)(f:Bool→Nat→Bool→Nat→RT α):RT α:=
 match hi with
 | none=>(match lo with
  | none=>f true 0 cn n
  | some lo=>asNat lo fun cl l=>chk (cl&&cn) (zB l n) (f cl l cn n))
 | some hi=>asNat hi fun ch hv=>chk (ch&&cn) (zB hv n) (match lo with
  | none=>f true 0 ch hv
  | some lo=>asNat lo fun cl l=>chk (cl&&ch) (zB l hv) (f cl l ch hv))
def isZero(c:Bool)(n:Nat):Bool:=match c with|true=>zA n 0|false=>false
def live1(h:SH)(id:Nat):Bool:=match h.get id with|some (.lst _ _ _)|some (.row _ _ _ _)=>true|_=>false
def zcs(E:Env)(e:TypeId)(k:Nat):Bool:=match E.size e with|some q=>zA q k|none=>false
def slice1_(E:Env)(t:TypeId)(x:SV)(lo hi mx:Option SV)(h:SH):RT (SV×SH):=
 match mx with
 | some _=>.bad
 | none=>(match E.under t,x with
  | some .string,.str c s=>zcj c s.length lo hi fun cl l ch hv=>
    .ret (.str (c&&(cl&&ch)) ((s.drop l).take (hv-l)),h)
  | some (.slice e),.raw (.slice none 0 0)=>(match E.size e with
   | some _=>zcj true 0 lo hi fun _ _ _ _=>.ret (.raw (.slice none 0 0),h)
   | none=>.bad)
  | some (.slice e),.nsl id k c s n z=>bif zcs E e k&&live1 h id&&zB z 1 then zcj c n lo hi fun cl l ch hv=>
    (match isZero cl l with
    | true=>.ret (.nsl id k (c&&ch) s hv z,h)
    | false=>test_ (c&&cl) (zC l n) (.ret (.nsl id k (c&&(cl&&ch)) (s+l) (hv-l) 0,h)) (.ret (.nsl id k (c&&(cl&&ch)) (s+l) (hv-l) 2,h)))else .bad
  | some (.slice e'),.fsl st k n nl e=>bif zcs E e' k then zcj false n lo hi fun cl l _ hv=>
    .br (zC l n) (.ret (.fsl st k (hv-l) (some false) fun i=>e (l+i),h)) (.ret (.fsl st k (hv-l) none fun i=>e (l+i),h))else .bad
  | some (.slice e),.asl id k c i o N cj j n=>bif zcs E e 1&&live1 h id then zcj cj n lo hi fun cl l ch hv=>
    .ret (.asl id k c i o N (cj&&(cl&&ch)) (j+l) (hv-l),h)else .bad
  | some (.array N e),.ptr id k c i o=>bif zcs E e 1&&(live1 h id&&zB (o+N) k)then zcj true N lo hi fun cl l ch hv=>.ret (.asl id k c i o N (cl&&ch) l (hv-l),h)else .bad
  | _,_=>.bad)
def casc{α:Type}(q:Nat)(f:Nat→RT α):Nat→Nat→RT α
 | 0,_=>.bad
 | c+1,j=>.br (zA q j) (f j) (casc q f c (j+1))
def isLst(h:SH)(id:Nat):Bool:=match h.get id with|some (.lst _ _ _)=>true|_=>false
def indexAddr1_(E:Env)(h:SH)(t:TypeId)(x i:SV):RT SV:=
 match E.under t,x with
 | some (.array N e),.ptr id k c r o=>(match E.size e with
  | some s=>asNat i fun ci q=>(match ci with
   | true=>chk true (zC q N) (.ret (.ptr id k c r (o+q*s)))
   | false=>(match s with
    | 1=>chk false (zC q N) (.ret (.aptr id k c r o N q))
    | _=>.bad))
  | none=>.bad)
 | some (.slice e),.nsl id k c s n _=>(match E.size e with
  | some z=>bif zA z k then asNat i fun ci q=>(match !ci&&(c&&isLst h id)with
   | true=>casc q (fun j=>.ret (.ptr id k true (s+j) 0)) n 0
   | false=>chk (ci&&c) (zC q n) (.ret (.ptr id k (ci&&c) (s+q) 0)))else .bad
  | none=>.bad)
 | some (.slice e),.asl id k c r o N cj j n=>(match E.size e with
  | some 1=>asNat i fun ci q=>chk (ci&&cj) (zC q n) (match ci&&cj with
   | true=>.ret (.ptr id k c r (o+(j+q)))
   | false=>.ret (.aptr id k c r o N (j+q)))
  | _=>.bad)
 | some (.slice e'),.fsl st k n _ e=>(match E.size e' with
  | some z=>bif zA z k then asNat i fun _ q=>chk false (zC q n) (.ret (.fptr st k n e q 0))else .bad
  | none=>.bad)
 | _,_=>.bad
def index1_(E:Env)(t:TypeId)(x i:SV):RT SV:=
 match E.under t,x with
 | some (.array N e),.agg cs=>(match E.size e with
  | some s=>asNat i fun ci q=>(match ci with
   | true=>chk true (zC q N) (lift (zcS E e cs (q*s)))
   | false=>(match s,E.agg e with
    | 1,some false=>chk false (zC q N) (match lcut cs 0 N with|some l=>.ret (pick_ l q)|none=>.bad)
    | _,_=>.bad))
  | none=>.bad)
 | some .string,.str c s=>asNat i fun ci q=>chk (ci&&c) (zC q s.length) (.ret (mkI .u8 (ci&&c) (.ofNat (s.getD q 0).toNat)))
 | _,_=>.bad
def fieldAddr1_(E:Env)(s:TypeId)(x:SV)(f:Nat):Option SV:=
 match E.under s with
 | some (.struct fs)=>(match fs[f]? with
  | some f=>(match E.size f.type with
   | some (_+1)=>(match x with
    | .ptr id k c i o=>some (.ptr id k c i (o+f.offset))
    | .fptr st k n e i o=>some (.fptr st k n e i (o+f.offset))
    | _=>none)
   | _=>none)
  | none=>none)
 | _=>none
def field1_(E:Env)(s:TypeId)(x:SV)(f:Nat):Option SV:=
 match E.under s,x with
 | some (.struct fs),.agg cs=>(match fs[f]? with
  | some f=>zcS E f.type cs f.offset
  | none=>none)
 | _,_=>none
def makeSlice1_(E:Env)(t:TypeId)(l c:SV)(h:SH):RT (SV×SH):=
 match E.under t with
 | some (.slice e)=>(match E.size e,E.bytes e,zero1_ E e with
  | some s,some b,some z=>asNat l fun cl l=>asNat c fun cc c=>chk (cl&&cc) (zB l c&&zB (c*b) 140737488355328&&zB c 9223372036854775807) (match zA z.length s with
    | true=>(match h.new (.row s l (fun _=>z) e)with
     | some (id,h)=>.ret (.nsl id s cl 0 l 0,h)
     | none=>.bad)
    | false=>.bad)
  | _,_,_=>.bad)
 | _=>.bad
def ahead(k:Nat)(l:List (List SV))(e:Nat→List SV)(i:Nat):List SV:=
 match l with
 | []=>e i
 | r::l=>muxR k (zA i 0) r (ahead k l e (i-1))
def joined(p q:Src):Option (List (List SV)):=match p.l,q.l with|some a,some b=>some (a++b)|_,_=>none
def joinedE(k:Nat)(p q:Src):Nat→List SV:=
 match p.l with
 | some l=>ahead k l q.e
 | none=>fun i=>muxR k (zC i p.n) (p.e i) (q.e (i-p.n))
def SH.drop(h:SH)(x:SV):SH:=match x with|.nsl id _ _ _ _ _=>h.put id .gone|_=>h
def base_(h:SH)(e:TypeId)(s:SV):Bool:=
 match s with
 | .raw (.slice none 0 0)=>true
 | .nsl id _ _ _ _ z=>zB z 1&&(match h.get id with|some (.lst _ _ t)=>zA t e|some (.row _ _ _ t)=>zA t e|_=>false)
 | _=>false
def append1_(E:Env)(t1 t2:TypeId)(s x:SV)(h:SH):RT (SV×SH):=
 match E.under t1,E.under t2 with
 | some (.slice _),some (.int _)=>.bad
 | some (.slice e),some _=>(match E.size e,E.bytes e,zero1_ E e with
  | some k,some b,some z=>(match src_ h k s,src_ h k x,base_ h e s&&zA z.length k with
   | some p,some q,true=>bif isZero q.c q.n then .ret (s,h)
     else chk (p.c&&q.c) (zB ((p.n+q.n)*b) 140737488355328&&zB (p.n+q.n) 9223372036854775807) (match joined p q with
      | some l=>(match(h.drop s).new (.lst k l e)with
       | some (id,h)=>.ret (.nsl id k true 0 (p.n+q.n) 0,h)
       | none=>.bad)
      | none=>(match p.fr&&q.fr,(h.drop s).new (.row k (p.n+q.n) (joinedE k p q) e)with
       | true,some (id,h)=>.ret (.nsl id k (p.c&&q.c) 0 (p.n+q.n) 1,h)
       | _,_=>.bad))
   | _,_,_=>.bad)
  | _,_,_=>.bad)
 | _,_=>.bad
def over_(j n:Nat)(e:Nat→List SV):List SV→Nat→List SV
 | [],_=>[]
 | x::l,q=>(match e (q-j)with|[y]=>mux (zB j q&&zC q (j+n)) y x 3|_=>.lost)::over_ j n e l (q+1)
def copy1_(E:Env)(t:TypeId)(d s:SV)(h:SH):RT (SV×SH):=
 match E.under t with
 | some (.slice e)=>(match E.size e,src_ h (match E.size e with|some k=>k|none=>0) s with
  | some sz,some q=>
   (match d with
   | .nsl id k c s0 n 0=>(match h.get id with
    | some (.row k' m e' t')=>(match zA k k'&&zA sz k&&q.fr with
     | true=>.ret (mkI .i64 (c&&q.c) (.ofNat (zD q.n n)),h.put id (.row k' m (fun i=>muxR k (zB s0 i&&zC i (s0+zD q.n n)) (q.e (i-s0)) (e' i)) t'))
     | false=>.bad)
    | some (.lst k' rows t')=>(match c,q.l,zA k k'&&zA sz k with
     | true,some l,true=>(match ltake (zD q.n n) l with
      | some l=>(match zaz rows l s0 with
       | some rows=>.ret (mkI .i64 true (.ofNat (zD q.n n)),h.put id (.lst k' rows t'))
       | none=>.bad)
      | none=>.bad)
     | _,_,_=>.bad)
    | _=>.bad)
   | .asl id k c i o N cj j n=>(match sz,q.fr with
    | 1,true=>(match zcV h id k c i (fun r=>match lcut r o N with|some l=>zaz r (over_ j (zD q.n n) q.e l 0) o|none=>none)with
     | some h=>.ret (mkI .i64 (cj&&q.c) (.ofNat (zD q.n n)),h)
     | none=>.bad)
    | _,_=>.bad)
   | .raw (.slice none 0 0)=>.ret (.int .i64 true 0,h)
   | _=>.bad)
  | _,_=>.bad)
 | _=>.bad
def len1_(E:Env)(t:TypeId)(x:SV)(h:SH):Option SV:=
 match E.under t,x with
 | some .string,.str c s=>some (mkI .i64 c (.ofNat s.length))
 | some (.array n _),.agg _=>some (.int .i64 true (.ofNat n))
 | some (.array n _),.ptr _ _ _ _ _=>some (.int .i64 true (.ofNat n))
 | some (.slice _),.raw (.slice none 0 0)=>some (.int .i64 true 0)
 | some (.slice _),.nsl _ _ c _ n _=>some (mkI .i64 c (.ofNat n))
 | some (.slice _),.asl _ _ _ _ _ _ c _ n=>some (mkI .i64 c (.ofNat n))
 | some (.slice _),.fsl _ _ n _ _=>some (.int .i64 false (.ofNat n))
 | some (.map _ _),.raw (.map none)=>some (.int .i64 true 0)
 | some (.map _ _),.mp r=>(match h.get r with
  | some (.mp es _)=>some (.int .i64 true (.ofNat es.length))
  | _=>none)
 | _,_=>none
def mxI(x y:Int):Int:=if y>x then y else x
def mnI(x y:Int):Int:=if y<x then y else x
def mm1_(big:Bool):SV→List SV→Option SV
 | v,[]=>some v
 | .int k c x,.int _ c' y::l=>mm1_ big (mkI k (c&&c') (match big with|true=>mxI x y|false=>mnI x y)) l
 | _,_=>none
def lookup1_(E:Env)(t:TypeId)(m k:SV)(ok:Bool)(h:SH):Option SV:=
 match E.under t,val? k with
 | some (.map kt et),some k=>(match E.under kt,(match m with|.raw (.map none)=>some []|.mp r=>(match h.get r with|some (.mp es _)=>some es|_=>none)|_=>none)with
  | some d,some es=>bif zbw d k then(match Instr.findNow d k es 0 with
    | some (some (_,v))=>(match ofV v with|some v=>some (bif ok then .tup [v,.bool true true]else v)|none=>none)
    | some none=>(match E.zero et with
     | some z=>(match ofV z with|some z=>some (bif ok then .tup [z,.bool true false]else z)|none=>none)
     | none=>none)
    | none=>none)
   else none
  | _,_=>none)
 | _,_=>none
def mapUpdate1_(E:Env)(t:TypeId)(m k v:SV)(h:SH):Option SH:=
 match E.under t,m,val? k,val? v with
 | some (.map kt _),.mp r,some k,some v=>(match E.under kt,h.get r with
  | some d,some (.mp es clock)=>bif zbw d k&&zcv v then(match Instr.findNow d k es 0 with
    | some none=>some (h.put r (.mp (es++[{ key:=k,val:=v,born:=clock }]) (clock+1)))
    | some (some (i,_))=>(match es[i]? with
     | some e=>(match lset es i { e with key:=k,val:=v }with
      | some es'=>bif same1_ e.key k then some (h.put r (.mp es' clock))else none
      | none=>none)
     | none=>none)
    | none=>none)
   else none
  | _,_=>none)
 | _,_,_,_=>none
def hasKey_(d:TypeDesc)(k:Value)(es:List MapEntry):Bool:=match Instr.findNow d k es 0 with|some (some _)=>true|_=>false
def zbR(d:TypeDesc)(k:Value)(es:List MapEntry):Bool:=match Instr.findNow d k es 0 with|some (some (_,.bool b))=>b|_=>false
def hasOk_(d:TypeDesc)(k:Value)(es:List MapEntry):Bool:=match Instr.findNow d k es 0 with|some none=>true|some (some (_,.bool _))=>true|_=>false
def lookupR_(E:Env)(t:TypeId)(m k:SV)(ok:Bool)(h:SH):RT SV:=
 match k with
 | .int kk false x=>(match E.under t,m with
  | some (.map kt et),.mp r=>(match E.under kt,E.under et,h.get r with
   | some (.int k2),some .bool,some (.mp es _)=>(match decide (kk=k2),E.zero et with
    | true,some (.bool false)=>.br (hasOk_ (.int k2) (.int kk x) es) (match ok with
     | true=>.ret (.tup [.bool false (zbR (.int k2) (.int kk x) es),.bool false (hasKey_ (.int k2) (.int kk x) es)])
     | false=>.ret (.bool false (zbR (.int k2) (.int kk x) es))) .bad
    | _,_=>.bad)
   | _,_,_=>.bad)
  | _,_=>.bad)
 | k=>(match lookup1_ E t m k ok h with|some x=>.ret x|none=>.bad)
def isNew_(d:TypeDesc)(k:Value)(es:List MapEntry):Bool:=match Instr.findNow d k es 0 with|some none=>true|_=>false
def mapUpdateR_(E:Env)(t:TypeId)(m k v:SV)(h:SH):RT SH:=
 match k,v with
 | .int kk false x,.bool _ b=>(match E.under t,m with
  | some (.map kt _),.mp r=>(match E.under kt,h.get r with
   | some (.int k2),some (.mp es clock)=>(match decide (kk=k2)with
    | true=>.br (isNew_ (.int k2) (.int kk x) es) (.ret (h.put r (.mp (es++[{ key:=.int kk x,val:=.bool b,born:=clock }]) (clock+1)))) .bad
    | false=>.bad)
   | _,_=>.bad)
  | _,_=>.bad)
 | k,v=>(match mapUpdate1_ E t m k v h with|some h=>.ret h|none=>.bad)
def clear1_(E:Env)(t:TypeId)(x:SV)(h:SH):Option SH:=
 match E.under t,x with
 | some (.slice _),.raw (.slice none 0 0)=>some h
 | some (.slice e),.nsl id k c s n 0=>(match zero1_ E e,h.get id with
  | some z,some (.row k' m f t')=>bif zA k k'&&zA z.length k then some (h.put id (.row k' m (fun i=>muxR k (zB s i&&zC i (s+n)) z (f i)) t'))else none
  | some z,some (.lst k' rows t')=>(match c with
   | true=>bif zA k k'&&zA z.length k then(match zaz rows (List.replicate n z) s with|some rows=>some (h.put id (.lst k' rows t'))|none=>none)else none
   | false=>none)
  | _,_=>none)
 | _,_=>none
def sop(E:Env)(ρ:Operand→SV)(op:Op)(h:SH):RT (SV×SH):=
 let v (x:Option SV):RT (SV×SH):=match x with|some x=>.ret (x,h)|none=>.bad
 let u (x:Option SH):RT (SV×SH):=match x with|some h=>.ret (.lost,h)|none=>.bad
 match op with
 | .move x|.assign x=>.ret (ρ x,h)
 | .pick c a b=>(match ρ c with|.bool c x=>test_ c x (.ret (ρ a,h)) (.ret (ρ b,h))|_=>.bad)
 | .alloc e=>(match E.size e,zero1_ E e with
  | some k,some z=>(match zA z.length k,h.new (.lst k [z] e)with|true,some (id,h)=>.ret (.ptr id k true 0 0,h)|_,_=>.bad)
  | _,_=>.bad)
 | .box e x=>(match E.size e,zc0 (ρ x).cells&&zA (ρ x).cells.length (match E.size e with|some k=>k|none=>0)with
  | some k,true=>(match h.new (.lst k [(ρ x).cells] e)with|some (id,h)=>.ret (.ptr id k true 0 0,h)|none=>.bad)
  | _,_=>.bad)
 | .build t parts=>v (build1_ E t (parts.toList.map fun p=>(p.1,ρ p.2)))
 | .buildSlice t len parts=>(match zdf E t len (parts.toList.map fun p=>(p.1,ρ p.2)) h with|some r=>.ret r|none=>.bad)
 | .load t a=>v (load1_ E h t (ρ a))
 | .store t a x=>u (store1_ E h t (ρ a) (ρ x))
 | .nilCheck x=>(match ρ x with
  | .ptr id k c i o=>.ret (.ptr id k c i o,h)
  | .aptr id k c i o N j=>.ret (.aptr id k c i o N j,h)
  | .fptr st k n e i o=>.ret (.fptr st k n e i o,h)
  | .fn f a b=>.ret (.fn f a b,h)
  | _=>.bad)
 | .binOp op t x y _=>(match ρ x,ρ y with
  | .int k c a,.int k' c' b=>(bin1_ op (.int k c a) (.int k' c' b)).bind fun z=>.ret (z,h)
  | .str c a,.str c' b=>(bin1_ op (.str c a) (.str c' b)).bind fun z=>.ret (z,h)
  | .raw .nilIface,.raw .nilIface=>(match nils_ E t x y .nilIface .nilIface,op with
   | true,.eql=>.ret (.bool true true,h)
   | true,.neq=>.ret (.bool true false,h)
   | _,_=>.bad)
  | a,b=>(match op with
   | .eql=>(match guard1_ E t a,eq1_ E 20 t a b with|true,some (c,r)=>.ret (mkB c r,h)|_,_=>.bad)
   | .neq=>(match guard1_ E t a,eq1_ E 20 t a b with|true,some (c,r)=>.ret (mkB c !r,h)|_,_=>.bad)
   | _=>.bad))
 | .unOp op _ x=>(un1_ op (ρ x)).bind fun z=>.ret (z,h)
 | .convert s d x=>conv1_ E s d (ρ x) h
 | .makeInterface t x=>(match E.under t,ρ x with
  | some (.interface _),_=>.bad
  | some _,.int k _ n=>.ret (.raw (.iface t (.int k n)),h)
  | _,_=>.bad)
 | .makeFunc (.func f) first captured=>.ret (.fn f (first.toList.map ρ) (captured.toList.map ρ),h)
 | .makeMap _ none=>(match h.new (.mp [] 0)with|some (b,h)=>.ret (.mp b,h)|none=>.bad)
 | .makeSlice t l c=>makeSlice1_ E t (ρ l) (ρ c) h
 | .slice t x lo hi mx=>slice1_ E t (ρ x) (lo.map ρ) (hi.map ρ) (mx.map ρ) h
 | .fieldAddr s x f=>v (fieldAddr1_ E s (ρ x) f)
 | .field s x f=>v (field1_ E s (ρ x) f)
 | .indexAddr t x i=>(indexAddr1_ E h t (ρ x) (ρ i)).bind fun z=>.ret (z,h)
 | .index t x i=>(index1_ E t (ρ x) (ρ i)).bind fun z=>.ret (z,h)
 | .lookup t x k ok=>(lookupR_ E t (ρ x) (ρ k) ok h).bind fun z=>.ret (z,h)
 | .mapUpdate t m k x=>(mapUpdateR_ E t (ρ m) (ρ k) (ρ x) h).bind fun h=>.ret (.lost,h)
 | .extract t i=>(match ρ t with|.tup vs=>(match vs[i]? with|some x=>.ret (x,h)|none=>.bad)|_=>.bad)
 | .call { callee:=.builtin b,args,argTypes }=>
  (match b,args.toList,argTypes.toList with
  | .len,[x],[t]=>v (len1_ E t (ρ x) h)
  | .append,[s,x],[t,u]=>append1_ E t u (ρ s) (ρ x) h
  | .copy,[d,s],t::_=>copy1_ E t (ρ d) (ρ s) h
  | .clear,[x],t::_=>u (clear1_ E t (ρ x) h)
  | .min,x::l,_=>v (mm1_ false (ρ x) (l.map ρ))
  | .max,x::l,_=>v (mm1_ true (ρ x) (l.map ρ))
  | _,_,_=>.bad)
 | _=>.bad
structure Fs where
 n:Nat
 t:Tr SV
def Fs.eval(a:Fs):Operand→SV
 | .tmp t=>(match a.t.get t with|some v=>v|none=>.lost)
 | .const v=>ofC v
 | .func f=>.fn f [] []
 | .global _=>.lost
def Fs.put(a:Fs)(d:Option Tmp)(v:SV):Option Fs:=
 match d with
 | none=>some a
 | some d=>bif zC d a.n then(a.t.set 24 d v).force fun t=>some ⟨a.n,t⟩else none
def Fs.ofArgs:List SV→Nat→Tr SV→Tr SV
 | [],_,t=>t
 | v::l,k,t=>Fs.ofArgs l (k+1) (t.set 24 k v)
def zdj{α:Type}(a:Fs)(ops:List Oper)(o:Oper)(f:Bool→Fs→RT α):RT α:=
 match o.guard with
 | none=>f true a
 | some (j,w)=>(match ops[j]? with
  | some { dst:=some d,.. }=>(match a.t.get d with
   | some (.bool true b)=>f (b==w) a
   | some (.bool false b)=>(match a.put (some d) (.bool true true),a.put (some d) (.bool true false)with
    | some a1,some a2=>.br b (f w a1) (f (!w) a2)
    | _,_=>.bad)
   | some (.tup [])=>f false a
   | _=>.bad)
  | _=>.bad)
def view_(h:SH)(x:SV):Option SV:=
 match x with
 | .nsl _ k _ _ n z=>(match src_ h k x with|some q=>(match q.fr with|true=>some (.fsl h.clk k n (match z with|0=>some false|_=>none) q.e)|false=>none)|none=>none)
 | .raw v=>some (.raw v)
 | .int k c n=>some (.int k c n)
 | .bool c b=>some (.bool c b)
 | .str c s=>some (.str c s)
 | .fsl st k n nl e=>some (.fsl st k n nl e)
 | _=>none
def views_(h:SH):List SV→Option (List SV)
 | []=>some []
 | x::l=>(match view_ h x,views_ h l with|some x,some l=>some (x::l)|_,_=>none)
def viewA_(h:SH)(x:SV):Option SV:=
 match x with
 | .agg l=>(match views_ h l with|some l=>some (.agg l)|none=>none)
 | x=>view_ h x
def viewAs_(h:SH):List SV→Option (List SV)
 | []=>some []
 | x::l=>(match viewA_ h x,viewAs_ h l with|some x,some l=>some (x::l)|_,_=>none)
def SH.pay(h:SH)(c:Nat):Option SH:=bif zB c h.room then some ⟨h.next,h.clk+1,h.room-c,h.log,h.t⟩else none
def plain1_:SV→Bool
 | .int _ _ _|.bool _ _|.str _ _|.raw _=>true
 | _=>false
def plains_:List SV→Bool
 | []=>true
 | v::l=>match plain1_ v with|true=>plains_ l|false=>false
def plainA_:SV→Bool
 | .agg l=>plains_ l
 | v=>plain1_ v
def plainAs_:List SV→Bool
 | []=>true
 | v::l=>match plainA_ v with|true=>plainAs_ l|false=>false
def plainT_:SV→Bool
 | .tup l=>plainAs_ l
 | v=>plainA_ v
def zaq(c:Nat)(g:List SV→RT SV)(args:List SV)(h:SH):RT (SV×SH):=
 match viewAs_ h args,h.pay c with
 | some args,some h=>(g args).bind fun r=>(match plainT_ r with
  | true=>.ret (r,h)
  | false=>.bad)
 | _,_=>.bad
def lostAll(n:Nat):List Tmp→Tr SV→Option (Tr SV)
 | [],t=>some t
 | d::l,t=>(match t.get d with|some _=>bif zC d n then(t.set 24 d .lost).force fun t=>lostAll n l t else none|none=>lostAll n l t)
def regs_:List (Tmp×SV)→Fs→Option Fs
 | [],a=>some a
 | (t,v)::l,a=>(match plainT_ v,a.put (some t) v with|true,some a=>regs_ l a|_,_=>none)
def vals_(a:Fs):List Tmp→Option (List SV)
 | []=>some []
 | t::l=>(match a.t.get t,vals_ a l with|some v,some r=>some (v::r)|_,_=>none)
def toldLoop(c:Nat)(live ws:List Tmp)(g:List SV→RT (Ex×List (Tmp×SV)))(a:Fs)(h:SH):RT (Ex×Fs×SH):=
 match vals_ a live with
 | some vs=>(match viewAs_ h vs,h.pay c with
  | some vs,some h=>(g vs).bind fun r=>(match lostAll a.n ws a.t with
   | some t=>(match regs_ r.2 ⟨a.n,t⟩with
    | some a=>.ret (r.1,a,h)
    | none=>.bad)
   | none=>.bad)
  | _,_=>.bad)
 | none=>.bad
structure Told where
 pf:FuncId→Option (List SV→SH→RT (SV×SH))
 lp:FuncId→Nat→Option (Fs→SH→RT (Ex×Fs×SH))
section
variable (E:Env) (call:FuncId→List SV→SH→RT (SV×SH))
def callee1_(ρ:Operand→SV)(c:Call):Option (FuncId×List SV):=
 match c.callee with
 | .value f=>(match ρ f with
  | .fn f first captured=>some (f,first++c.args.toList.map ρ++captured)
  | _=>none)
 | _=>none
def oneOp1(ρ:Operand→SV)(op:Op)(h:SH):RT (SV×SH):=
 match op with
 | .call c=>(match c.callee with
  | .value _=>(match callee1_ ρ c with
   | some (f,args)=>call f args h
   | none=>.bad)
  | _=>sop E ρ op h)
 | op=>sop E ρ op h
def sops(all:List Oper):List Oper→Fs→SH→RT (Fs×SH)
 | [],a,h=>.ret (a,h)
 | o::rest,a,h=>zdj a all o fun did a=>
  (match did with
  | true=>(oneOp1 E call a.eval o.op h).bind fun r=>(match a.put o.dst r.1 with
   | some a=>sops all rest a r.2
   | none=>.bad)
  | false=>(match a.put o.dst (.tup [])with
   | some a=>sops all rest a h
   | none=>.bad))
structure Tc1 where
 a:Fs
 h:SH
 did:Bool
 v:SV
def told1_:SV→Bool
 | .raw (.iface _ _)=>false
 | .lost|.agg _|.tup _|.fn _ _ _=>false
 | _=>true
def tolds1_:List SV→Bool
 | []=>true
 | v::l=>match told1_ v with|true=>tolds1_ l|false=>false
def toldV_:SV→Bool
 | .agg l=>tolds1_ l
 | .tup l=>tolds1_ l
 | v=>told1_ v
def strace(all:List Oper):List Oper→Fs→SH→List Tc1→RT (List Tc1×Fs×SH)
 | [],a,h,acc=>.ret (acc.reverse,a,h)
 | o::rest,a,h,acc=>zdj a all o fun did a=>
  (match did with
  | true=>(oneOp1 E call a.eval o.op h).bind fun r=>(match a.put o.dst r.1 with
   | some a2=>strace all rest a2 r.2 (⟨a,h,true,r.1⟩::acc)
   | none=>.bad)
  | false=>(match a.put o.dst (.tup [])with
   | some a2=>strace all rest a2 h (⟨a,h,false,.tup []⟩::acc)
   | none=>.bad))
end
def of1_(v:SV):Option (List Nat×Nat):=
 match v with
 | .ptr id _ _ _ _|.aptr id _ _ _ _ _ _|.nsl id _ _ _ _ _|.asl id _ _ _ _ _ _ _ _|.mp id=>some ([id],0)
 | .fsl st _ _ _ _|.fptr st _ _ _ _ _=>some ([],st)
 | .int _ _ _|.bool _ _|.str _ _|.raw _=>some ([],0)
 | _=>none
def reads1_(ρ:Operand→SV)(op:Op):Option (List Nat×Nat):=
 match op with
 | .load _ a=>of1_ (ρ a)
 | .slice _ x _ _ none=>of1_ (ρ x)
 | .lookup _ x _ _=>of1_ (ρ x)
 | .convert _ _ x=>of1_ (ρ x)
 | .call { callee:=.builtin .len,args,.. }=>(match args.toList with|[x]=>of1_ (ρ x)|_=>none)
 | .call { callee:=.builtin .min,.. }|.call { callee:=.builtin .max,.. }=>some ([],0)
 | _=>none
def zdC(r:List Nat×Nat)(h1 h2:SH):Bool:=
 zB r.2 h1.clk&&r.1.all fun id=>zC id h1.next&&!((h2.log.take (h2.log.length-h1.log.length)).any (zA id))
def readsOk1_(E:Env)(m:Bool)(all:List Oper)(an:List Nat)(tr:List Tc1)(last:SH):Bool:=
 (all.zip tr).zipIdx.all fun((x,t),i)=>!(t.did&&zA (kd_ E m x.op) 1) ||
  (match reads1_ t.a.eval x.op with
  | none=>false
  | some r=>toldV_ t.v&&(all.zip tr).zipIdx.all fun((y,u),e)=>!(u.did&&zC 1 (kd_ E m y.op)) ||
   bif zC e i then Nat.testBit (match an[i]? with|some k=>k|none=>0) e || zdC r u.h t.h
   else Nat.testBit (match an[e]? with|some k=>k|none=>0) i || zdC r t.h (match tr[e+1]? with|some u=>u.h|none=>last))
section
variable (E:Env) (call:FuncId→List SV→SH→RT (SV×SH))
def sdraws1(m:Bool)(all:List Oper)(an:List Nat)(a:Fs)(h:SH):RT (Fs×SH):=
 (strace E call all all a h []).bind fun r=>bif readsOk1_ E m all an r.1 r.2.2 then .ret r.2 else .bad
def sdraws2(all:List Oper)(an:List Nat)(a:Fs)(h:SH):RT (Fs×SH):=
 bif zaT E true all an&&zbl E all an then sdraws1 E call true all an a h else .bad
def sdraws(all:List Oper)(a:Fs)(h:SH):RT (Fs×SH):=
 let an:=anc_ all []
 bif zaT E false all an then sdraws1 E call false all an a h
 else bif zaT E true all an&&zbl E all an then sdraws1 E call true all an a h
 else bif ordOk_ all (late_ all all.zipIdx [])then sdraws2 E call (za0 all (late_ all all.zipIdx [])) (anc_ (za0 all (late_ all all.zipIdx [])) []) a h else .bad
end
def zct(E:Env)(a:Fs)(h:SH):List ResultVar→Option (List SV)
 | []=>some []
 | .tmp t::l=>(match zct E a h l with
  | some r=>some (a.eval (.tmp t)::r)
  | none=>none)
 | .cell t ty::l=>(match load1_ E h ty (a.eval (.tmp t)),zct E a h l with
   | some v,some r=>some (v::r)
   | _,_=>none)
def results1_(E:Env)(a:Fs)(h:SH)(l:List ResultVar):Option SV:=
 match zct E a h l with
 | some [v]=>some v
 | some vs=>some (.tup vs)
 | none=>none
def RT.follow{α:Type}:RT α→List Bool→Option (List (Bool×Bool)×α)
 | .bad,_=>none
 | .ret x,_=>some ([],x)
 | .br b t f,d::l=>(match d with
  | true=>(match t.follow l with|some (cs,x)=>some ((b,true)::cs,x)|none=>none)
  | false=>(match f.follow l with|some (cs,x)=>some ((b,false)::cs,x)|none=>none))
 | .br _ _ _,[]=>none
inductive Job where
 | code (f p:Nat) (c:Code)
 | call (f:FuncId) (args:List SV)
def srun(E:Env)(T:Told):Nat→Job→Fs→SH→RT (Ex×Fs×SH)
 | 0,_,_,_=>.bad
 | n+1,.code f p c,a,h=>
  (match c with
  | .skip|.label _=>.ret (.normal,a,h)
  | .region _ ops draw=>
   let call:=fun g args h=>(match T.pf g with
    | some q=>q args h
    | none=>(srun E T n (.call g args) a h).bind fun r=>.ret (r.2.1.eval (.tmp 0),r.2.2))
   (match draw with
    | false=>(sops E call ops.toList ops.toList a h).bind fun r=>.ret (.normal,r.1,r.2)
    | true=>(sdraws E call ops.toList a h).bind fun r=>.ret (.normal,r.1,r.2))
  | .seq x y=>(srun E T n (.code f (2*p) x) a h).bind fun r=>(match r.1 with
   | .normal=>srun E T n (.code f (2*p+1) y) r.2.1 r.2.2
   | _=>.ret r)
  | .cond c x y=>(match a.eval c with
   | .bool c b=>test_ c b (srun E T n (.code f (2*p) x) a h) (srun E T n (.code f (2*p+1) y) a h)
   | _=>.bad)
  | .block id x=>(srun E T n (.code f (2*p) x) a h).bind fun r=>(match r.1 with
   | .exit id'=>bif zA id' id then .ret (.normal,r.2.1,r.2.2)else .ret r
   | _=>.ret r)
  | .loop x=>(match T.lp f p with
   | some q=>q a h
   | none=>(srun E T n (.code f (2*p) x) a h).bind fun r=>(match r.1 with
    | .normal=>srun E T n (.code f p (.loop x)) r.2.1 r.2.2
    | _=>.ret r))
  | .exit id=>.ret (.exit id,a,h)
  | .ret=>.ret (.ret,a,h)
  | _=>.bad)
 | n+1,.call f args,_,h=>
  (match E.funcs.get f with
  | some fn=>(match fn.body,zB args.length fn.ntmps&&zB fn.ntmps 100000 with
   | some c,true=>(srun E T n (.code f 1 c) ⟨fn.ntmps,Fs.ofArgs args 0 .nil⟩ h).bind fun r=>(match r.1 with
    | .exit _=>.bad
    | _=>(match results1_ E r.2.1 r.2.2 fn.results.toList with
     | some v=>.ret (.ret,⟨1,.node (some v) .nil .nil⟩,r.2.2)
     | none=>.bad))
   | _,_=>.bad)
  | none=>.bad)
def sanswer(E:Env)(T:Told)(n:Nat)(f:FuncId)(args:List SV)(h:SH):RT (SV×SH):=
 (srun E T n (.call f args) ⟨0,.nil⟩ h).bind fun r=>.ret (r.2.1.eval (.tmp 0),r.2.2)
def sh0:SH:=⟨0,0,9000000000000000000,[],.nil⟩
def none_:Told:=⟨fun _=>none,fun _ _=>none⟩
end Go.Proofs.YtponjccgpbgnoaaGreatDoor.Se
