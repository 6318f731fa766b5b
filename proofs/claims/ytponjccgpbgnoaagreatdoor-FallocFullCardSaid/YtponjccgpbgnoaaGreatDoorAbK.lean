/- The evaluator's conversions, lengths, maps and comparisons beside the machine's. -/
import Derived.Test.YtponjccgpbgnoaaGreatDoorAbG
import Derived.Laws.IdiomStrings
import Derived.Laws.StructEq
import Derived.MapKept
import Derived.Lib.UnsafeStr
import Derived.OrdersIn
import Derived.RangeFuncCalls
set_option linter.unusedVariables false
set_option linter.unusedSimpArgs false
set_option linter.unusedSectionVars false
open Option.some renaming injEq→zA
open Prod.mk renaming injEq→zB
open Int renaming ofNat→zC
open Nat renaming eq_of_beq_eq_true→zD,beq→zE,le_refl→zG,le_of_ble_eq_true→zJ,lt_of_lt_of_le→zO
open Array renaming ext'→zF,toList_map→zK
open Bool renaming not_true→zH,false_eq_true→zI
open Option renaming getD_some→zL,map_some→zM
open List renaming eq_nil_of_length_eq_zero→zN
namespace Go.Proofs.YtponjccgpbgnoaaGreatDoor
open Go Go.RowKit
theorem zbL{P:Program}{β:Bt}{h:Hp}{w:World}(H:HR P β h w){b:Nat}{c:List Value}{e:TypeId}{ex ro:Bool}(hg:h.get b=some (.cells c e ex ro)){o n:Nat}{l:List Value}(hl:lcut c o n=some l){i:Info}(hi:β b=some i)(j:Nat)(x:Value)(hx:l[j]?=some x) :
  ∃y,w.cell? ⟨i.blk,i.off+o+j,none⟩=some y∧VR β x y:=by
 obtain⟨h1,_,h2⟩:=zav hl
 have hj:j<n:=by rw[←h2];exact(List.getElem?_eq_some_iff.1 hx).1
 rw[zaW hl j hj]at hx
 rcases H.ok _ _ _ hg hi with⟨rfl,_⟩|⟨cc,e',fr,hb,hs,hv,_⟩
 .simp at hx
 .have hlt:i.off+(o+j)<cc.size:=by omega
  refine⟨cc[i.off+(o+j)],?_,hv _ _ _ hx (Array.getElem?_eq_getElem hlt)⟩
  rw[cell_heap hb,Nat.add_assoc,Array.getElem?_eq_getElem hlt]
theorem zcA{P:Program}{β:Bt}{h:Hp}{w:World}(H:HR P β h w){a:Addr}{n:Nat}{l:List Value}(hl:zaj h a n=some l){i:Info}(hi:β a.block=some i)(j:Nat)(x:Value)(hx:l[j]?=some x) :
  ∃y,w.cell? ⟨i.blk,i.off+a.off+j,none⟩=some y∧VR β x y:=by
 unfold zaj at hl
 cases hg:h.get a.block with
 | none=>rw[hg]at hl;cases hl
 | some b=>
  rw[hg]at hl
  cases b with
  | map es c=>cases hl
  | dead=>cases hl
  | cells c e ex ro=>exact zbL H hg hl hi j x hx
  | view b=>
   simp only at hl
   obtain⟨_,k,hk,e1,e2⟩:=seen_at H hg hi
   cases hg2:h.get b with
   | none=>rw[hg2]at hl;cases hl
   | some y=>
    rw[hg2]at hl
    cases y with
    | map es c=>cases hl
    | dead=>cases hl
    | view b=>cases hl
    | cells c e ex ro=>rw[←e1,←e2];exact zbL H hg2 hl hk j x hx
theorem bytes_inv:∀ {c:List Value} {l:List UInt8},zbe c=some l→∃ns:List Nat,c=ns.map (fun n=>Value.int .u8 (zC n))∧l=ns.map UInt8.ofNat:=by
 intro c
 induction c with
 | nil=>intro l h;simp only[zbe,zA]at h;subst h;exact⟨[],rfl,rfl⟩
 | cons v c ih=>
  intro l h
  unfold zbe at h
  split at h
  .rename_i heq;cases heq
  .rename_i n r heq
   injection heq with h1 h2
   subst h1 h2
   cases hr:zbe c with
   | none=>rw[hr]at h;cases h
   | some q=>
    rw[hr]at h
    simp only[zA]at h
    subst h
    obtain⟨ns,rfl,rfl⟩:=ih hr
    exact⟨n::ns,rfl,rfl⟩
  .cases h
section
variable {P:Program} {eqs:List TypeId} (hp:P.types.size<4000)
include hp
theorem conv_does{β:Bt}{h h':Hp}{w:World}(H:HR P β h w){s d:TypeId}{x x' v:Value}(hc:conv_ (Env.of P eqs) s d x h=some (v,h'))(hx:VR β x x'):Does P β h w (convert s d x') v h':=by
 unfold conv_ at hc
 split at hc
 .rename_i ds k k' n hs hd
  simp only[zA,zB]at hc
  obtain⟨rfl,rfl⟩:=hc
  rw[hx.int_inv]
  exact .same H (by simp[convert,zad hp hs,zad hp hd,Conv.intToInt]) (.int _ _)
 .rename_i ds c hs hd
  simp only[zA,zB]at hc
  obtain⟨rfl,rfl⟩:=hc
  cases hx with
  | rest8 c a h1 h2=>
   have e:IntKind.i64.wrap (a:Int)=a:=IntWalk.i64_in _ (by omega)
   exact .same H (v':=.int .i64 a) (by simp[convert,zad hp hs,zad hp hd,Conv.intToInt,e]) (.rest64 c a h1 h2)
 .rename_i ds b hs hd
  simp only[zA,zB]at hc
  obtain⟨rfl,rfl⟩:=hc
  rw[hx.string_inv]
  exact .same H (by simp[convert,zad hp hs,zad hp hd]) (.string _)
 .rename_i ds k n hs hd
  simp only[zA,zB]at hc
  obtain⟨rfl,rfl⟩:=hc
  rw[hx.int_inv]
  exact .same H (by simp[convert,zad hp hs,zad hp hd,Conv.intToString]) (.string _)
 .rename_i e a n k hs hd
  obtain⟨i,hadr,hi,rfl⟩:=hx.slice_inv
  split at hc
  .rename_i he
   cases hl:zaj h a n with
   | none=>rw[hl]at hc;cases hc
   | some c=>
    rw[hl]at hc
    simp only at hc
    cases hb:zbe c with
    | none=>rw[hb]at hc;cases hc
    | some l=>
     rw[hb]at hc
     simp only[zA,zB]at hc
     obtain⟨rfl,rfl⟩:=hc
     obtain⟨ns,rfl,rfl⟩:=bytes_inv hb
     have hlen:=(zbd H hl hi).choose_spec.2.2
     have hr:=run_convert_bytes_arg (P:=P) w s e (zar hp hs) (zar hp he) i.blk (i.off+a.off) n (k+i.ex) (ns.map zC) (by simpa using hlen) (fun j hj=>by
      have hj':j<ns.length:=by rw[←hlen]at hj;simpa using hj
      obtain⟨y,hy,hR⟩:=zcA H hl hi j (.int .u8 (zC ns[j])) (by simp[hj'])
      rw[hy,hR.int_inv]
      simp[List.getD_eq_getElem?_getD,hj']) d (zar hp hd)
     refine .same H hr ?_
     have:strOfNums (ns.map zC)=⟨⟨ns.map UInt8.ofNat⟩⟩:=by
      apply ByteArray.ext
      apply zF
      simp[strOfNums]
     rw[this]
     exact .string _
  .cases hc
 .rename_i e n k hs hd
  rw[hx.nilSlice_inv]
  split at hc
  .rename_i he
   simp only[zA,zB]at hc
   obtain⟨rfl,rfl⟩:=hc
   refine .same H (run_convert_bytes_nil w s e (zar hp hs) (zar hp he) n k d (zar hp hd)) ?_
   exact .string _
  .cases hc
 .rename_i e hs hd
  split at hc
  .rename_i he
   simp only[zA,zB]at hc
   obtain⟨rfl,rfl⟩:=hc
   cases hx with
   | noneLeft a c=>
    have hr:(convert s d (.slice (some a) 0 c)).run P w=.ok (.string ⟨#[]⟩) w:=by
     have hl:(loadCells a 0).run P w=.ok #[] w:=rfl
     rw[run_convert_bytes_string w s d e _ 0 c (zar hp hs) (zar hp he) (zar hp hd)]
     simp only[Conv.bytesToString,Sem.run_bind,hl,Result.andThen_ok]
     rfl
    exact .same H hr (.string _)
  .cases hc
 .rename_i e b hs hd
  rw[hx.string_inv]
  split at hc
  .rename_i he hsz1
   have h1:P.cellsOf e=1:=(zdx hp hsz1).choose_spec.2.2
   cases hn:zat h e (b.data.toList.map fun b=>.int .u8 (.ofNat b.toNat)) false with
   | none=>rw[hn]at hc;cases hc
   | some q=>
    obtain⟨a,h2⟩:=q
    rw[hn]at hc
    simp only at hc
    have hr:=run_bytes_of_string (P:=P) w s d e b (zar hp hs) (zar hp hd) (zar hp he)
    have hcap:b.size≤grownCap w b.size 0 e:=by unfold grownCap Question.cut;exact Nat.le_add_right _ _
    have hsz:(bytesRow b (grownCap w b.size 0 e)).size=grownCap w b.size 0 e:=by
     simp only[bytesRow,Array.size_append,Array.size_map,Array.size_replicate]
     have:b.data.size=b.size:=rfl
     omega
    have Hd:HR P β h w.drew:=H.drawn rfl
    obtain⟨β',H',S',nb,rfl,hb⟩:=Hd.row (l':=bytesRow b (grownCap w b.size 0 e)) hn (fun k x y hx hy=>by
       rw[List.getElem?_map]at hx
       cases hq:b.data.toList[k]? with
       | none=>rw[hq]at hx;cases hx
       | some u=>
        rw[hq]at hx
        simp only[zM,zA]at hx
        subst hx
        have hq2:b.data[k]?=some u:=by simpa using hq
        have hk2:k<b.data.size:=(Array.getElem?_eq_some_iff.1 hq2).1
        have:(bytesRow b (grownCap w b.size 0 e))[k]?=some (.int .u8 (u.toNat:Int)):=by
         unfold bytesRow
         rw[Array.getElem?_append_left (by simpa using hk2),Array.getElem?_map,hq2]
         rfl
        rw[this]at hy
        injection hy with hy
        subst hy
        exact .int _ _) ((bytesRow b (grownCap w b.size 0 e)).size,(bytesRow b (grownCap w b.size 0 e)).size+1) (.inr (zG _)) (grownCap w b.size 0 e-b.size) (fun h=>by cases h) (by
        rw[h1,hsz]
        simp only[List.length_map,zch]
        omega) e rfl (fun h=>by cases h)
    rw[zch]at hc
    have hv0:=VR.slice 0 b.size b.size hb
    rw[Nat.zero_add,show b.size+(grownCap w b.size 0 e-b.size)=grownCap w b.size 0 e from by omega]at hv0
    obtain⟨β2,H2,S2,R2⟩:=sight_does H' hc hv0
    exact⟨_,_,β2,hr,H2,((St.drawn (w:=w) (w':=w.drew) rfl rfl rfl rfl).trans S').trans S2,R2⟩
  .cases hc
 .rename_i e0 e a n k hs hd
  obtain⟨i,hadr,hi,rfl⟩:=hx.slice_inv
  split at hc
  .rename_i c el ex h1 h2 h3
   simp only[zA,zB]at hc
   obtain⟨rfl,rfl⟩:=hc
   rcases H.ok _ _ _ h3 hi with⟨_,hro,_⟩|⟨cc,e',fr,hb,hlen,hv,hexx,hmine⟩
   .cases hro
   .have hsd:s=d:=zD h1
    subst hsd
    have hsh:w.shape? i.blk=some (e',cc.size):=by unfold World.shape?;rw[hb]
    obtain⟨lo,up⟩:=fr
    obtain⟨hee,hfine,hroom⟩:=hmine rfl
    have hblk:(w.freeze ⟨i.blk,cc.size,none⟩ 1).heap[i.blk]?=some (.cells cc e' (if lo==up then(cc.size,cc.size+1)else(min lo cc.size,max up (cc.size+1)))):=by
     simp[World.freeze,Array.getElem?_modify,hb]
    have hoth:∀j,j≠i.blk→(w.freeze ⟨i.blk,cc.size,none⟩ 1).heap[j]?=w.heap[j]?:=fun j hj=>by
     simp[World.freeze,Array.getElem?_modify,Ne.symm hj]
    have hsize:(w.freeze ⟨i.blk,cc.size,none⟩ 1).heap.size=w.heap.size:=by simp[World.freeze]
    have hfine':Fine (if lo==up then(cc.size,cc.size+1)else(min lo cc.size,max up (cc.size+1))) cc.size:=by
     split
     .exact .inr (zG _)
     .rename_i hne
      rcases hfine with h5|h5
      .exact absurd (by simpa using h5) hne
      .refine .inr ?_
       simp only at h5 ⊢
       omega
    have H':HR P β h (w.freeze ⟨i.blk,cc.size,none⟩ 1):=H.touch h3 hi trivial (fun j hj _=>hoth j hj) (.inr ⟨cc,e',_,hblk,hlen,hv,hexx,fun _=>⟨hee,hfine',hroom⟩⟩)
    refine⟨_,_,β,?_,H',⟨.refl _,by simp[World.freeze],by simp[World.freeze],by simp[World.freeze],by rw[hsize];exact zG _,fun j _ hn=>hoth j (fun e5=>hn ⟨_,_,_,h3,trivial,hi,e5.symm⟩),fun _ h=>.inl h,fun _ h=>.inl h⟩,hx⟩
    rw[hs]at hd
    injection hd with hd
    injection hd with hd
    subst hd
    simp[convert,zad hp hs,zad hp h2,markStringish,hsh]
  .cases hc
 .cases hc
theorem len_run{β:Bt}{h:Hp}{w:World}(H:HR P β h w){t:TypeId}{x x' v:Value}(hl:len_ (Env.of P eqs) t x h=some v)(hx:VR β x x')(ts:Array TypeId)(ht:ts[0]?=some t)(ty:TypeId) :
  (Builtin.len_ ts ty #[x']).run P w=.ok v w∧VR β v v:=by
 have hg:∀n:Nat,goInt (n:Int)=goNat n:=fun n=>rfl
 unfold len_ at hl
 split at hl
 .rename_i s hu
  injection hl with hl
  subst hl
  rw[hx.string_inv]
  exact⟨by simp[Builtin.len_,ht,zad hp hu,zch,hg],.int _ _⟩
 .rename_i n e hu
  injection hl with hl
  subst hl
  exact⟨by simp[Builtin.len_,ht,zad hp hu,hg],.int _ _⟩
 .rename_i e a n c hu
  injection hl with hl
  subst hl
  cases a with
  | none=>rw[hx.nilSlice_inv];exact⟨by simp[Builtin.len_,ht,zad hp hu,hg],.int _ _⟩
  | some a=>obtain⟨i,_,_,rfl⟩:=hx.slice_inv;exact⟨by simp[Builtin.len_,ht,zad hp hu,hg],.int _ _⟩
 .rename_i e hu
  injection hl with hl
  subst hl
  cases hx with
  | noneLeft a c=>exact⟨by simp[Builtin.len_,ht,zad hp hu];rfl,.int _ _⟩
 .rename_i k e hu
  injection hl with hl
  subst hl
  have:x'=.map none:=by cases hx;rfl
  subst this
  exact⟨by simp[Builtin.len_,ht,zad hp hu];rfl,.int _ _⟩
 .rename_i k e r hu
  split at hl
  .rename_i es c hgt
   injection hl with hl
   subst hl
   obtain⟨i,hi⟩:∃i,β r=some i∧x'=.map (some i.blk):=by cases hx with|map h=>exact⟨_,h,rfl⟩
   obtain⟨hi,rfl⟩:=hi
   have hb:=(H.ok _ _ _ hgt hi).1
   have:=MapKept.run_getObj_map (P:=P) hb
   exact⟨by simp[Builtin.len_,ht,zad hp hu,this,hg],.int _ _⟩
  .cases hl
 .cases hl
omit hp in
theorem key_run{d:TypeDesc}{k:Value}(h:zbw d k=true):MapKept.IsKey d k:=by
 unfold zbw at h
 split at h
 .simpa [MapKept.IsKey]using h
 .trivial
 .cases h
omit hp in
theorem key_same{β:Bt}{d:TypeDesc}{k k':Value}(h:zbw d k=true)(hk:VR β k k'):k'=k:=by
 unfold zbw at h
 split at h
 .exact hk.int_inv
 .exact hk.string_inv
 .cases h
theorem lookup_run{β:Bt}{h:Hp}{w:World}(H:HR P β h w){t:TypeId}{m m' k k' v:Value}{ok:Bool}(hl:zbK (Env.of P eqs) t m k ok h=some v)(hm:VR β m m')(hk:VR β k k') :
  (Instr.lookup t m' k' ok).run P w=.ok v w∧VR β v v:=by
 unfold zbK at hl
 split at hl
 .rename_i kt et hu
  split at hl
  .rename_i d es hd hes
   cases hkey:zbw d k with
   | false=>rw[hkey]at hl;cases hl
   | true=>
    rw[hkey,cond_true]at hl
    rw[key_same hkey hk]
    have hes':(∀e∈es,zcv e.val=true)∧((m'=.map none∧es=[])∨∃i c,m'=.map (some i)∧w.heap[i]?=some (.map es.toArray c)):=by
     unfold zbS at hes
     split at hes
     .injection hes with hes
      subst hes
      have:m'=.map none:=by cases hm;rfl
      exact⟨(fun e he=>by cases he),.inl ⟨this,rfl⟩⟩
     .rename_i r
      split at hes
      .rename_i es2 c hgt
       injection hes with hes
       subst hes
       obtain⟨i,hi,rfl⟩:∃i,β r=some i∧m'=.map (some i.blk):=by cases hm with|map h=>exact⟨_,h,rfl⟩
       obtain⟨hb,hpl⟩:=H.ok _ _ _ hgt hi
       exact⟨fun e he=>(hpl e he).2,.inr ⟨_,_,rfl,hb⟩⟩
      .cases hes
     .cases hes
    obtain⟨hpl,hmm⟩:=hes'
    have hck:=MapKept.run_checkKey (P:=P) (w:=w) (zar hp hd) (key_run hkey)
    have plainVR:∀u,zcv u=true→VR β u u:=by
     intro u hu
     cases u<;>first|exact .bool _|exact .int _ _|exact .string _|cases hu
    split at hl
    .rename_i q u hf
     injection hl with hl
     subst hl
     have hfk:=MapKept.run_findKey (P:=P) (w:=w) (zar hp hd) hf
     have hu2:zcv u=true:=by
      have:∀(l:List MapEntry) (i:Nat),(∀e∈l,zcv e.val=true)→Instr.findNow d k l i=some (some (q,u))→zcv u=true:=by
       intro l
       induction l with
       | nil=>intro i _ h;simp[Instr.findNow]at h
       | cons e l ih=>
        intro i hall h
        simp only[Instr.findNow]at h
        split at h
        .simp only[zA,zB]at h
         rw[←h.2]
         exact hall e (List.mem_cons_self ..)
        .exact ih _ (fun e he=>hall e (List.mem_cons_of_mem _ he)) h
        .cases h
      exact this _ _ hpl hf
     constructor
     .rcases hmm with⟨rfl,rfl⟩|⟨i,c,rfl,hb⟩
      .simp[Instr.findNow]at hf
      .simp only[Instr.lookup,Sem.run_bind,zad hp hu,Result.andThen_ok,MapKept.run_getObj_map (P:=P) hb,hck,hfk,Sem.run_pure]
       cases ok<;>rfl
     .cases ok
      .exact plainVR _ hu2
      .exact .of_tuple (LR.cons (plainVR _ hu2) (LR.cons (.bool _) (LR.nil β)))
    .rename_i hf
     have hfk:=MapKept.run_findKey (P:=P) (w:=w) (zar hp hd) hf
     cases hz:(Env.of P eqs).zero et with
     | none=>rw[hz]at hl;cases hl
     | some z=>
      rw[hz]at hl
      injection hl with hl
      subst hl
      constructor
      .rcases hmm with⟨rfl,rfl⟩|⟨i,c,rfl,hb⟩
       .simp only[Instr.lookup,Sem.run_bind,zad hp hu,Result.andThen_ok,hck,hfk,Sem.run_pure,zbb hp hz]
        cases ok<;>rfl
       .simp only[Instr.lookup,Sem.run_bind,zad hp hu,Result.andThen_ok,MapKept.run_getObj_map (P:=P) hb,hck,hfk,Sem.run_pure,zbb hp hz]
        cases ok<;>rfl
      .cases ok
       .exact(zbj hp hz).2 β
       .exact .of_tuple (LR.cons ((zbj hp hz).2 β) (LR.cons (.bool _) (LR.nil β)))
    .cases hl
  .cases hl
 .cases hl
omit hp in
theorem zdF{w:World}:∀(ns:List Nat) (b o:Nat) (acc:ByteArray),(∀(j n:Nat),ns[j]?=some n→w.cell? ⟨b,o+j,none⟩=some (.int .u8 (zC n)))→
  (loadBytes ⟨b,o,none⟩ acc ns.length).run P w=.ok ⟨acc.data++(ns.map UInt8.ofNat).toArray⟩ w
 | [],b,o,acc,_=>by simp[loadBytes]
 | x::l,b,o,acc,h=>by
  have h0:w.cell? ⟨b,o,none⟩=some (.int .u8 (zC x)):=h 0 x rfl
  have ih:=zdF l b (o+1) (acc.push (UInt8.ofNat x)) (fun j y hy=>by
   rw[show o+1+j=o+(j+1) by omega]
   exact h (j+1) y (by simpa using hy))
  have hx:((zC x).toNat).toUInt8=UInt8.ofNat x:=rfl
  have ha:(⟨b,o,none⟩:Addr).add 1=⟨b,o+1,none⟩:=za9 b o 1
  simp only[List.length_cons,loadBytes,Sem.run_bind,run_load,h0,Result.andThen,hx,ha]
  rw[ih]
  congr 1
  apply ByteArray.ext
  simp[ByteArray.push]
omit hp in
theorem liesAt_at{e:TypeId}(hc:P.cellsOf e=1)(count o n:Nat)(hn:o+n≤count):liesAt P P.depth e count o e n=true:=by
 have hd:P.depth=(2*(P.types.size+Made.depth)+1)+1:=rfl
 rw[hd]
 simp only[liesAt,Bool.or_eq_true]
 left
 rw[hd]
 simp[rowAt,hc,hn,sameLayout,Nat.mod_one]
omit hp in
theorem sliceData_run{β:Bt}{w:World}{x x' v:Value}(hc:sliceData_ x=some v)(hx:VR β x x')(ats:Array TypeId)(ty:TypeId):∃v',(Builtin.unsafeSliceData_ ats ty #[x']).run P w=.ok v' w∧VR β v v':=by
 unfold sliceData_ at hc
 split at hc
 .cases hc
  rw[hx.nilSlice_inv]
  exact⟨_,rfl,.nilPtr⟩
 .cases hc
  obtain⟨i,hadr,hi,rfl⟩:=hx.slice_inv
  refine⟨_,Lib.run_unsafeSliceData_row w ats ty _ _ _ (by omega),?_⟩
  rw[hadr]
  exact .ptr _ hi
 .cases hc
theorem unsafeStr_does{β:Bt}{h h':Hp}{w:World}(H:HR P β h w){t:TypeId}{p n v p' n':Value}(hc:unsafeStr_ (Env.of P eqs) t p n h=some (v,h'))(hx:VR β p p')(hn:VR β n n')(it ty:TypeId) :
  Does P β h w (Builtin.unsafeString_ #[t,it] ty #[p',n']) v h':=by
 have hmax:IntKind.i64.max=9223372036854775807:=rfl
 have hzero:∀q,(Builtin.unsafeString_ #[t,it] ty #[.pointer q,.int .i64 0]).run P w=.ok (.string .empty) w:=fun q=>Lib.run_unsafeString_none w t it ty q
 unfold unsafeStr_ at hc
 split at hc
 .simp only[zA,zB]at hc
  obtain⟨rfl,rfl⟩:=hc
  rw[hn.int_inv]
  cases hx with
  | nilPtr=>exact .same H (hzero _) (.string _)
 .simp only[zA,zB]at hc
  obtain⟨rfl,rfl⟩:=hc
  rw[hn.int_inv]
  cases hx with
  | ptr o hi=>exact .same H (hzero _) (.string _)
 .rename_i a n
  split at hc
  .rename_i e hu hsp
   split at hc
   .rename_i c e' x hsz hg
    cases hb:zE e' e&&Nat.ble (n+1) 9223372036854775807 with
    | false=>rw[hb]at hc;cases hc
    | true=>
     rw[hb,cond_true]at hc
     simp only[Bool.and_eq_true]at hb
     obtain rfl:=zD hb.1
     have hn63:=zJ hb.2
     cases hl:lcut c a.off (n+1)with
     | none=>rw[hl]at hc;cases hc
     | some l=>
      rw[hl]at hc
      simp only at hc
      cases hbs:zbe l with
      | none=>rw[hbs]at hc;cases hc
      | some bs=>
       rw[hbs]at hc
       simp only[zA,zB]at hc
       obtain⟨rfl,rfl⟩:=hc
       obtain⟨ns,rfl,rfl⟩:=bytes_inv hbs
       obtain⟨_,_,_,hcell⟩:=zdx hp hsz
       obtain⟨hfit,_,hlen⟩:=zav hl
       have hlen':ns.length=n+1:=by simpa using hlen
       rw[hn.int_inv]
       obtain⟨b,o,s⟩:=a
       cases hx with
       | @ptr _ i o hi=>
        rcases H.ok _ _ _ hg hi with⟨_,hf,_⟩|⟨cc,e2,fr,hbk,hsize,hv,hexx,hmine⟩
        .cases hf
        .obtain⟨hee,hfr,hroom⟩:=hmine rfl
         obtain⟨lo,up⟩:=fr
         have hsh:w.shape? i.blk=some (e2,cc.size):=by unfold World.shape?;rw[hbk]
         subst hee
         have hlen2:c.length≤cc.size:=by omega
         have hcut:=(zav hl).1
         simp only at hcut
         have hlies:=liesAt_at (P:=P) hcell (cc.size / P.cellsOf e2) (i.off+o) (n+1) (by rw[hcell,Nat.div_one];omega)
         have hld:=zdF (P:=P) (w:=w) ns i.blk (i.off+o) .empty (fun j m hj=>by
          obtain⟨y,hy,hR⟩:=zbL H hg hl hi j (.int .u8 (zC m)) (by simp[hj])
          rw[hy,hR.int_inv])
         rw[hlen']at hld
         have hpos:¬((n:Int)+1<0):=by omega
         have h63:¬(9223372036854775807<(n:Int)+1):=by omega
         have hne:¬((n:Int)+1=0):=by omega
         have hnat:((n:Int)+1).toNat=n+1:=by omega
         have hdef:Builtin.unsafeString_ #[t,it] ty #[.pointer (some ⟨i.blk,i.off+o,none⟩),.int .i64 (zC (n+1))] =
           (do
            let n←asInt (.int .i64 (zC (n+1)))
            if n<0 then runtimePanic (.error "unsafe.String: len out of range")
            if n>IntKind.i64.max then unsupported (.unsafePointer "String: a length above the largest int")
            if n=0 then pure (.string .empty)
            else if←variablesAt ⟨i.blk,i.off+o,none⟩ (←elemOf t) n.toNat then do
             let s←loadBytes ⟨i.blk,i.off+o,none⟩ .empty n.toNat
             freeze ⟨i.blk,i.off+o,none⟩ n.toNat
             pure (.string s)
            else unsupported (.unsafePointer "String: not so many bytes at ptr")):=rfl
         have hrun:(Builtin.unsafeString_ #[t,it] ty #[.pointer (some ⟨i.blk,i.off+o,none⟩),.int .i64 (zC (n+1))]).run P w=.ok (.string ⟨⟨ns.map UInt8.ofNat⟩⟩) (w.freeze ⟨i.blk,i.off+o,none⟩ (n+1)):=by
          rw[hdef]
          simp[asInt,asIntOf,hmax,hpos,h63,hne,hnat,variablesAt,hsh,elemOf,run_underlying (zar hp hu),hlies,hld]
         have hblk:(w.freeze ⟨i.blk,i.off+o,none⟩ (n+1)).heap[i.blk]?=some (.cells cc e2 (if lo==up then(i.off+o,i.off+o+(n+1))else(min lo (i.off+o),max up (i.off+o+(n+1))))):=by
          simp[World.freeze,Array.getElem?_modify,hbk]
         have hoth:∀j,j≠i.blk→(w.freeze ⟨i.blk,i.off+o,none⟩ (n+1)).heap[j]?=w.heap[j]?:=fun j hj=>by
          simp[World.freeze,Array.getElem?_modify,Ne.symm hj]
         have hsize2:(w.freeze ⟨i.blk,i.off+o,none⟩ (n+1)).heap.size=w.heap.size:=by simp[World.freeze]
         exact⟨_,_,β,hrun,H.change (y:=.cells c e2 x true) hg hi trivial (fun k hk _=>hoth k hk) (.inr ⟨cc,e2,_,hblk,hsize,hv,hexx,fun h=>by cases h⟩),
          ⟨.refl _,by simp[World.freeze],by simp[World.freeze],by simp[World.freeze],by rw[hsize2];exact zG _,fun k hk hn=>hoth k (fun e=>hn ⟨_,_,_,hg,trivial,hi,e.symm⟩),fun k hk=>.inl (own_put H hg trivial hk),fun k hk=>.inl (zcH H hg trivial hk)⟩,.string _⟩
   .cases hc
  .cases hc
 .cases hc
end
section
variable {P:Program} {eqs:List TypeId} (hp:P.types.size<4000)
theorem same1_bits{a b:Value}(h:same1_ a b=true):Instr.sameBits 10000 a b=true:=by
 unfold same1_ at h
 split at h
 .simpa [Instr.sameBits]using h
 .simp only[Bool.and_eq_true,decide_eq_true_eq]at h
  simp[Instr.sameBits,h.1,eq_of_beq h.2]
 .rename_i x y
  have:x=y:=by
   apply ByteArray.ext
   apply zF
   exact eq_of_beq h
  subst this
  show(x==x)=true
  rw[beq_toListBytes]
  simp
 .cases h
include hp
theorem mapUpdate_does{β:Bt}{h h':Hp}{w:World}(H:HR P β h w){t:TypeId}{m m' k k' v v':Value}(hl:zbm (Env.of P eqs) t m k v h=some h')(hm:VR β m m')(hk:VR β k k')(hv:VR β v v') :
  ∃w',(Instr.mapUpdate t m' k' v').run P w=.ok () w'∧HR P β h' w'∧St β h w β h' w':=by
 unfold zbm at hl
 split at hl
 .rename_i kt et r hu
  split at hl
  .rename_i d es clock hd hgt
   cases hkey:(zbw d k&&zcv v)with
   | false=>rw[hkey]at hl;cases hl
   | true=>
    rw[hkey,cond_true]at hl
    obtain⟨hkey,hpv⟩:=Bool.and_eq_true_iff.1 hkey
    rw[key_same hkey hk]
    have hvv:v'=v:=by
     cases v<;>first|exact hv.bool_inv|exact hv.int_inv|exact hv.string_inv|cases hpv
    rw[hvv]
    split at hl
    .rename_i hf
     injection hl with hl
     subst hl
     obtain⟨i,hi,rfl⟩:∃i,β r=some i∧m'=.map (some i.blk):=by cases hm with|map h=>exact⟨_,h,rfl⟩
     obtain⟨hb,hpl⟩:=H.ok _ _ _ hgt hi
     have hck:=MapKept.run_checkKey (P:=P) (w:=w) (zar hp hd) (key_run hkey) false 9999
     have hfk:=MapKept.run_findKey (P:=P) (w:=w) (zar hp hd) hf
     obtain⟨q1,q2⟩:=MapKept.heap_set (o':=.map (es.toArray.push { key:=k,val:=v,born:=clock }) (clock+1)) hb
     refine⟨{ w with heap:=w.heap.setIfInBounds i.blk (.map (es.toArray.push { key:=k,val:=v,born:=clock }) (clock+1)) },?_,H.change hgt hi trivial (fun k hk _=>q2 k hk) ⟨?_,?_⟩,
      ⟨.refl _,rfl,rfl,rfl,by simp,fun k hk hn=>q2 k (fun e=>hn ⟨_,_,_,hgt,trivial,hi,e.symm⟩),fun k hk=>.inl (own_put H hgt trivial hk),fun k hk=>.inl (zcH H hgt trivial hk)⟩⟩
     .simp only[Instr.mapUpdate,Sem.run_bind,zad hp hu,Result.andThen_ok,MapKept.run_getObj_map (P:=P) hb,hck,hfk,MapKept.run_setObj_map (P:=P) _ hb]
     .rw[q1];simp
     .intro e he
      rcases List.mem_append.1 he with he|he
      .exact hpl e he
      .rw[List.mem_singleton]at he
       subst he
       refine⟨?_,hpv⟩
       unfold zbw at hkey
       split at hkey<;>first|rfl|cases hkey
    .rename_i j vOld hf
     cases hej:es[j]? with
     | none=>rw[hej]at hl;cases hl
     | some e=>
      rw[hej]at hl
      simp only at hl
      cases hls:lset es j { e with key:=k,val:=v }with
      | none=>rw[hls]at hl;cases hl
      | some es'=>
       rw[hls]at hl
       simp only at hl
       cases hsm:same1_ e.key k with
       | false=>rw[hsm]at hl;cases hl
       | true=>
        rw[hsm,cond_true]at hl
        injection hl with hl
        subst hl
        obtain⟨hjl,rfl⟩:=lset_some hls
        obtain⟨i,hi,rfl⟩:∃i,β r=some i∧m'=.map (some i.blk):=by cases hm with|map h=>exact⟨_,h,rfl⟩
        obtain⟨hb,hpl⟩:=H.ok _ _ _ hgt hi
        have hck:=MapKept.run_checkKey (P:=P) (w:=w) (zar hp hd) (key_run hkey) false 9999
        have hfk:=MapKept.run_findKey (P:=P) (w:=w) (zar hp hd) hf
        have hmod:(es.toArray.modify j fun e=>{ e with key:=k,val:=v })=(es.set j { e with key:=k,val:=v }).toArray:=by
         apply zF
         apply List.ext_getElem?
         intro q
         rw[Array.getElem?_toList,Array.getElem?_modify,List.getElem?_toArray]
         show _=(es.set j { e with key:=k,val:=v })[q]?
         rw[List.getElem?_set]
         by_cases hq:j=q
         .subst hq;rw[if_pos rfl,if_pos rfl,if_pos hjl,hej];rfl
         .rw[if_neg hq,if_neg hq]
        have hsame:Instr.sameBits 10000 e.key k=true:=same1_bits hsm
        obtain⟨q1,q2⟩:=MapKept.heap_set (o':=.map (es.set j { e with key:=k,val:=v }).toArray clock) hb
        refine⟨{ w with heap:=w.heap.setIfInBounds i.blk (.map (es.set j { e with key:=k,val:=v }).toArray clock) },?_,H.change hgt hi trivial (fun k hk _=>q2 k hk) ⟨?_,?_⟩,
         ⟨.refl _,rfl,rfl,rfl,by simp,fun k hk hn=>q2 k (fun e=>hn ⟨_,_,_,hgt,trivial,hi,e.symm⟩),fun k hk=>.inl (own_put H hgt trivial hk),fun k hk=>.inl (zcH H hgt trivial hk)⟩⟩
        .have hkey2:((es.toArray[j]?).map (·.key)).getD k=e.key:=by rw[List.getElem?_toArray,hej];rfl
         simp only[Instr.mapUpdate,Sem.run_bind,zad hp hu,Result.andThen_ok,MapKept.run_getObj_map (P:=P) hb,hck,hfk,hkey2,Instr.keyThatStays,hsame,if_true,Sem.run_pure,hmod,MapKept.run_setObj_map (P:=P) _ hb]
        .rw[q1]
        .intro x hx
         rcases List.mem_or_eq_of_mem_set hx with hx|rfl
         .exact hpl x hx
         .refine⟨?_,hpv⟩
          unfold zbw at hkey
          split at hkey<;>first|rfl|cases hkey
    .cases hl
  .cases hl
 .cases hl
omit hp in
theorem makeMap_does{β:Bt}{h h':Hp}{w:World}(H:HR P β h w){t:TypeId}{b:Nat}(hn:h.new (.map [] 0)=some (b,h')):Does P β h w (Instr.makeMap t none) (.map (some b)) h':=by
 obtain⟨H',S',rfl⟩:=H.fresh hn (.map #[] 0) 0 (fun β' hb=>⟨zcI,fun e he=>by cases he⟩)
 exact⟨.map (some w.heap.size),_,_,rfl,H',S',.map (Bt.put_same β h.next ⟨w.heap.size,0,0⟩)⟩
omit hp in
theorem min_run{β:Bt}{w:World}:∀ {l l':List Value} {x x' v:Value},mm_ false x l=some v→VR β x x'→LR β l l'→∃v',(l'.foldlM Builtin.min2 x').run P w=.ok v' w∧VR β v v':=by
 intro l
 induction l with
 | nil=>
  intro l' x x' v h hx hl
  have:l'=[]:=zN hl.1.symm
  subst this
  have:x=v:=by cases x<;>simpa [mm_]using h
  subst this
  exact⟨x',rfl,hx⟩
 | cons y l ih=>
  intro l' x x' v h hx hl
  cases l' with
  | nil=>exact absurd hl.1 (by simp)
  | cons y' l'=>
   cases x with
   | int k a=>
    cases y with
    | int k2 b=>
     rw[hx.int_inv]
     have hy:=hl.head
     rw[hy.int_inv]
     simp only[mm_,cond_false]at h
     obtain⟨v',hr,hR⟩:=ih h (.int k _) hl.tail
     refine⟨v',?_,hR⟩
     simp only[List.foldlM_cons,Sem.run_bind,Builtin.min2,Sem.run_pure,Result.andThen_ok]
     exact hr
    | _=>simp[mm_]at h
   | _=>simp[mm_]at h
omit hp in
theorem max_run{β:Bt}{w:World}:∀ {l l':List Value} {x x' v:Value},mm_ true x l=some v→VR β x x'→LR β l l'→∃v',(l'.foldlM Builtin.max2 x').run P w=.ok v' w∧VR β v v':=by
 intro l
 induction l with
 | nil=>
  intro l' x x' v h hx hl
  have:l'=[]:=zN hl.1.symm
  subst this
  have:x=v:=by cases x<;>simpa [mm_]using h
  subst this
  exact⟨x',rfl,hx⟩
 | cons y l ih=>
  intro l' x x' v h hx hl
  cases l' with
  | nil=>exact absurd hl.1 (by simp)
  | cons y' l'=>
   cases x with
   | int k a=>
    cases y with
    | int k2 b=>
     rw[hx.int_inv]
     have hy:=hl.head
     rw[hy.int_inv]
     simp only[mm_,cond_true]at h
     obtain⟨v',hr,hR⟩:=ih h (.int k _) hl.tail
     refine⟨v',?_,hR⟩
     simp only[List.foldlM_cons,Sem.run_bind,Builtin.max2,Sem.run_pure,Result.andThen_ok]
     exact hr
    | _=>simp[mm_]at h
   | _=>simp[mm_]at h
theorem iface_run{w:World}{D:Nat}{t t1:TypeId}{ms:Array (String×TypeId)}{x y:Value}{i:TypeInfo}(hu:(Env.of P eqs).under t=some (.interface ms))(hi:P.info? t1=some i)(hc:i.comparable=true) :
  (Op.equalIn (D+1) t (.iface t1 x) (.iface t1 y)).run P w=(Op.equalIn D t1 x y).run P w:=by
 obtain⟨q,hq⟩:∃q,Op.equalIn D t1 x y=q:=⟨_,rfl⟩
 rw[hq]
 unfold Op.equalIn
 simp only[Sem.run_bind,zad hp hu,Result.andThen_ok,hq,ne_eq,not_true_eq_false,if_false,run_typeInfo w hi,hc,zH,zI]
set_option maxHeartbeats 1000000 in
theorem eq_run{β:Bt}{w:World}(hs:∀t∈eqs,P.stoodInHeld t=false):∀(d D:Nat),d≤D→∀(t:TypeId) (x y x' y':Value) (b:Bool),eq_ (Env.of P eqs) d t x y=some b→VR β x x'→VR β y y'→(Op.equalIn D t x' y').run P w=.ok b w:=by
 intro d
 induction d with
 | zero=>intro D _ t x y x' y' b h;simp[eq_]at h
 | succ d ih=>
  intro D hD t x y x' y' b h hx hy
  obtain⟨D,rfl⟩:∃m,D=m+1:=⟨D-1,by omega⟩
  unfold eq_ at h
  split at h
  .rename_i a c hu
   injection h with h;subst h
   rw[hx.bool_inv,hy.bool_inv];simp[Op.equalIn,zad hp hu]
  .rename_i k0 k a k' c hu
   rw[hx.int_inv,hy.int_inv]
   by_cases hk:k=k'
   .subst hk
    simp only[decide_true,zA]at h;subst h;simp[Op.equalIn,zad hp hu]
   .simp[hk]at h
  .rename_i a c hu
   injection h with h;subst h
   rw[hx.string_inv,hy.string_inv]
   simp[Op.equalIn,zad hp hu,beq_toListBytes,ByteArray.toList_eq]
  .rename_i e c hu
   injection h with h;subst h
   have:x'=.pointer none:=by cases hx;rfl
   subst this
   cases hy with
   | nilPtr=>simp[Op.equalIn,zad hp hu]
   | ptr o hb=>simp[Op.equalIn,zad hp hu]
  .rename_i e a hu
   injection h with h;subst h
   have:y'=.pointer none:=by cases hy;rfl
   subst this
   cases hx with
   | ptr o hb=>simp[Op.equalIn,zad hp hu]
  .rename_i e n c a n2 c2 hu
   injection h with h;subst h
   rw[hx.nilSlice_inv]
   cases hy with
   | nilSlice=>simp[Op.equalIn,zad hp hu]
   | slice o n c hb=>simp[Op.equalIn,zad hp hu]
  .rename_i e a n c n2 c2 hu
   injection h with h;subst h
   rw[hy.nilSlice_inv]
   cases hx with
   | slice o n c hb=>simp[Op.equalIn,zad hp hu]
  .rename_i e n2 c2 hu
   injection h with h;subst h
   rw[hy.nilSlice_inv]
   cases hx with
   | noneLeft a c=>simp[Op.equalIn,zad hp hu]
  .rename_i k e c hu
   injection h with h;subst h
   have:x'=.map none:=by cases hx;rfl
   subst this
   cases hy with
   | nilMap=>simp[Op.equalIn,zad hp hu]
   | map hb=>simp[Op.equalIn,zad hp hu]
  .rename_i k e a hu
   injection h with h;subst h
   have:y'=.map none:=by cases hy;rfl
   subst this
   cases hx with
   | map hb=>simp[Op.equalIn,zad hp hu]
  .rename_i p q r hu
   injection h with h;subst h
   have h1:x'=.nilFunc:=by cases hx;rfl
   have h2:y'=.nilFunc:=by cases hy;rfl
   subst h1 h2
   simp[Op.equalIn,zad hp hu]
  .rename_i p q r f a c hu
   injection h with h;subst h
   have h1:x'=.nilFunc:=by cases hx;rfl
   subst h1
   cases hy with
   | func fn h1 h2 h3 h4=>simp[Op.equalIn,zad hp hu]
  .rename_i p q r f a c hu
   injection h with h;subst h
   have h1:y'=.nilFunc:=by cases hy;rfl
   subst h1
   cases hx with
   | func fn h1 h2 h3 h4=>simp[Op.equalIn,zad hp hu]
  .rename_i ms a c hu
   injection h with h;subst h
   have h1:x'=.nilIface:=by cases hx;rfl
   subst h1
   cases hy with
   | iface t h=>simp[Op.equalIn,zad hp hu]
  .rename_i ms a c hu
   injection h with h;subst h
   have h1:y'=.nilIface:=by cases hy;rfl
   subst h1
   cases hx with
   | iface t h=>simp[Op.equalIn,zad hp hu]
  .rename_i e b1 o1 b2 o2 hu
   split at h
   .rename_i s hsz
    cases hbb:zE b1 b2 with
    | false=>rw[hbb]at h;cases h
    | true=>
     rw[hbb,cond_true]at h
     injection h with h
     obtain rfl:=zD hbb
     cases hx with
     | ptr o hb1=>
      cases hy with
      | ptr o' hb2=>
       obtain rfl:=Option.some.inj (hb1.symm.trans hb2)
       have hne:=zak hp hsz w
       subst h
       have hbe:∀(k n m:Nat),((⟨k,n,none⟩:Addr)==⟨k,m,none⟩)=zE n m:=fun k n m=>by
        cases hq:zE n m with
        | true=>rw[zD hq];simp
        | false=>
         have:n≠m:=fun e=>by subst e;simp at hq
         simp[this]
       have hof:∀(k:Nat),zE (k+o1) (k+o2)=zE o1 o2:=fun k=>by
        cases hq:zE o1 o2 with
        | true=>rw[zD hq];simp
        | false=>
         have:o1≠o2:=fun e=>by subst e;simp at hq
         cases hq2:zE (k+o1) (k+o2)with
         | false=>rfl
         | true=>have:=zD hq2;omega
       simp[Op.equalIn,zad hp hu,hne,sameAddr,hbe,hof]
   .cases h
  .rename_i ms t1 a t2 c hu
   cases hx with
   | iface _ hxa=>
    cases hy with
    | iface _ hyc=>
     cases hbb:zE t1 t2 with
     | false=>
      rw[hbb,cond_false]at h
      injection h with h
      subst h
      have hne:t1≠t2:=fun e=>by subst e;simp at hbb
      simp[Op.equalIn,zad hp hu,hne]
     | true=>
      rw[hbb,cond_true]at h
      obtain rfl:=zD hbb
      split at h
      .rename_i hc
       obtain⟨i,hi,hic⟩:=env_cmp hp hc
       have hr:=ih D (by omega) t1 _ _ _ _ b h hxa hyc
       rw[iface_run hp hu hi hic]
       exact hr
      .cases h
  .rename_i fs xs ys hu
   obtain⟨xs',rfl,hxl⟩:=hx.agg_inv
   obtain⟨ys',rfl,hyl⟩:=hy.agg_inv
   cases ho:(Env.of P eqs).eqOk t with
   | false=>rw[ho]at h;cases h
   | true=>
    rw[ho,cond_true]at h
    have hst:P.stoodInHeld t=false:=by
     unfold Env.eqOk at ho
     obtain⟨u,hu1,hu2⟩:=List.any_eq_true.1 ho
     have:t=u:=zD hu2
     subst this
     exact hs _ hu1
    have hf:P.fieldsOf t=fs:=by unfold Program.fieldsOf;rw[zar hp hu]
    rw[run_equalIn_struct w D t xs' ys' (by rw[hf];exact zar hp hu) hst,hf]
    have key:∀(l:List Field) (b:Bool),eqs_ (fun f=>part_ (Env.of P eqs) f.type xs.toList f.offset) (fun f=>part_ (Env.of P eqs) f.type ys.toList f.offset) (fun f a b=>eq_ (Env.of P eqs) d f.type a b) (fun f=>f.name== "_") l=some b→
      (Op.eqFields D xs' ys' l).run P w=.ok b w:=by
     intro l
     induction l with
     | nil=>intro b h;simp only[eqs_,zA]at h;subst h;rfl
     | cons f l ihl=>
      intro b h
      simp only[eqs_]at h
      cases hn:(f.name== "_")with
      | true=>
       rw[hn]at h
       have:¬(f.name≠ "_"):=by simpa using hn
       simp only[Op.eqFields,this,if_false]
       exact ihl b h
      | false=>
       rw[hn]at h
       simp only at h
       have hne:f.name≠ "_":=by simpa using hn
       cases ha:part_ (Env.of P eqs) f.type xs.toList f.offset with
       | none=>rw[ha]at h;cases h
       | some a=>
        cases hc:part_ (Env.of P eqs) f.type ys.toList f.offset with
        | none=>rw[ha,hc]at h;cases h
        | some c=>
         rw[ha,hc]at h
         simp only at h
         obtain⟨a',hra,hRa⟩:=zdr hp ha hxl w
         obtain⟨c',hrc,hRc⟩:=zdr hp hc hyl w
         cases hq:eq_ (Env.of P eqs) d f.type a c with
         | none=>rw[hq]at h;cases h
         | some r=>
          rw[hq]at h
          have hr:=ih D (by omega) f.type a c a' c' r hq hRa hRc
          simp only[Op.eqFields,hne,ne_eq,not_false_eq_true,if_true,Sem.run_bind]
          have hra':(part f.type xs' f.offset).run P w=.ok a' w:=hra
          have hrc':(part f.type ys' f.offset).run P w=.ok c' w:=hrc
          rw[hra',Result.andThen_ok,hrc',Result.andThen_ok,hr,Result.andThen_ok]
          cases r with
          | true=>simp only[zH,zI,if_false];exact ihl b h
          | false=>simp only[zA]at h;subst h;rfl
    exact key _ _ h
  .rename_i n e xs ys hu
   obtain⟨xs',rfl,hxl⟩:=hx.agg_inv
   obtain⟨ys',rfl,hyl⟩:=hy.agg_inv
   cases hsz:(Env.of P eqs).size e with
   | none=>rw[hsz]at h;cases h
   | some s=>
    rw[hsz]at h
    simp only at h
    obtain⟨ie,hie,_,hcell⟩:=zdx hp hsz
    rw[run_equalIn_array w D xs' ys' (zar hp hu) hie,hcell]
    have key:∀(l:List Nat) (b:Bool),eqs_ (fun i=>part_ (Env.of P eqs) e xs.toList (i*s)) (fun i=>part_ (Env.of P eqs) e ys.toList (i*s)) (fun _ a b=>eq_ (Env.of P eqs) d e a b) (fun _=>false) l=some b→
      (Op.eqItems D e s xs' ys' l).run P w=.ok b w:=by
     intro l
     induction l with
     | nil=>intro b h;simp only[eqs_,zA]at h;subst h;rfl
     | cons f l ihl=>
      intro b h
      simp only[eqs_]at h
      cases ha:part_ (Env.of P eqs) e xs.toList (f*s)with
      | none=>rw[ha]at h;cases h
      | some a=>
       cases hc:part_ (Env.of P eqs) e ys.toList (f*s)with
       | none=>rw[ha,hc]at h;cases h
       | some c=>
        rw[ha,hc]at h
        simp only at h
        obtain⟨a',hra,hRa⟩:=zdr hp ha hxl w
        obtain⟨c',hrc,hRc⟩:=zdr hp hc hyl w
        cases hq:eq_ (Env.of P eqs) d e a c with
        | none=>rw[hq]at h;cases h
        | some r=>
         rw[hq]at h
         have hr:=ih D (by omega) e a c a' c' r hq hRa hRc
         have hra':(part e xs' (f*s)).run P w=.ok a' w:=hra
         have hrc':(part e ys' (f*s)).run P w=.ok c' w:=hrc
         simp only[Op.eqItems,Sem.run_bind]
         rw[hra',Result.andThen_ok,hrc',Result.andThen_ok,hr,Result.andThen_ok]
         cases r with
         | true=>simp only[zH,zI,if_false];exact ihl b h
         | false=>simp only[zA]at h;subst h;rfl
    exact key _ _ h
  .cases h
omit hp in
theorem eq_form{β:Bt}{d:Nat}{t:TypeId}{x y x' y':Value}{b:Bool}(h:eq_ (Env.of P eqs) (d+1) t x y=some b)(hx:VR β x x')(hy:VR β y y') :
  (∃k a k' c,x=.int k a∧y=.int k' c∧k=k')∨(∃a c,x=.string a∧y=.string c)∨
   ∀t,binOp .eql t x' y'=(do pure (.bool (←Op.equal t x' y')))∧binOp .neq t x' y'=(do pure (.bool (!(←Op.equal t x' y')))):=by
 unfold eq_ at h
 split at h
 case h_2=>rename_i k0 k a k' c hu;refine .inl ⟨k,a,k',c,rfl,rfl,?_⟩;by_cases hk:k=k';exact hk;simp[hk]at h
 case h_3=>exact .inr (.inl ⟨_,_,rfl,rfl⟩)
 all_goals first
  | (cases h;done)
  | (refine .inr (.inr fun t=>?_);cases hx<;>cases hy<;>exact⟨rfl,rfl⟩)
omit hp in
theorem eqGuard_run{β:Bt}{d:Nat}{op:BinOp}{t:TypeId}{X Y:Operand}{x y x' y':Value}{b:Bool}(hg:∀t∈eqs,P.eqGuardType P.depth t=false)(h:eq_ (Env.of P eqs) (d+1) t x y=some b)(hgd:guard_ (Env.of P eqs) t x=true)(hx:VR β x x')(hy:VR β y y')(w:World) :
  (eqGuard op t X Y x' y').run P w=.ok () w:=by
 have hagg:∀xs,x=.agg xs→P.eqGuardType P.depth t=false:=by
  rintro xs rfl
  unfold guard_ Env.eqOk at hgd
  obtain⟨u,hu1,hu2⟩:=List.any_eq_true.1 hgd
  have:t=u:=zD hu2
  subst this
  exact hg _ hu1
 unfold eq_ at h
 split at h
 all_goals first
  | (cases h;done)
  | (cases hx<;>cases hy<;>(cases op<;>first|rfl|(simp[eqGuard,run_program,hagg _ rfl];done)))
end
def DoesOp(P:Program)(β:Bt)(h:Hp)(w:World)(s:Sem Next)(v:Value)(h':Hp):Prop:=
 ∃n v' w' β',s.run P w=.ok n w'∧(n=.value v'∨(n=.skip∧v'=undef))∧HR P β' h' w'∧St β h w β' h' w'∧VR β' v v'
theorem Does.op{P:Program}{β:Bt}{h:Hp}{w:World}{s:Sem Value}{v:Value}{h':Hp}(hd:Does P β h w s v h'):DoesOp P β h w (do pure (.value (←s))) v h':=by
 obtain⟨v',w',β',hr,H',S',hR⟩:=hd
 exact⟨.value v',v',w',β',by simp only[Sem.run_bind,hr,Result.andThen_ok,Sem.run_pure],.inl rfl,H',S',hR⟩
theorem DoesOp.unit{P:Program}{β:Bt}{h:Hp}{w:World}{s:Sem Unit}{h':Hp}(hd:∃w',s.run P w=.ok () w'∧HR P β h' w'∧St β h w β h' w'):DoesOp P β h w (do s;pure .skip) undef h':=by
 obtain⟨w',hr,H',S'⟩:=hd
 exact⟨.skip,undef,w',β,by simp only[Sem.run_bind,hr,Result.andThen_ok,Sem.run_pure],.inr ⟨rfl,rfl⟩,H',S',.undef β⟩
theorem parts_pr{β:Bt}{ρ ρ':Operand→Value}(hρ:∀x,VR β (ρ x) (ρ' x))(parts:Array (Nat×Operand)):PR β (parts.toList.map fun p=>(p.1,ρ p.2)) (parts.map fun(i,x)=>(i,ρ' x)).toList:=by
 refine⟨by simp,fun i p q hp hq=>?_⟩
 rw[List.getElem?_map]at hp
 rw[zK,List.getElem?_map]at hq
 cases hx:parts.toList[i]? with
 | none=>rw[hx]at hp;cases hp
 | some u=>
  rw[hx]at hp hq
  simp only[zM,zA]at hp hq
  subst hp hq
  exact⟨rfl,hρ _⟩
theorem zdh{args:Array Operand}{l:List Operand}(h:args.toList=l):args=l.toArray:=by
 rw[←h]
theorem nils_inv{E:Env}{t:TypeId}{x y:Operand}{a b:Value}(h:nils_ E t x y a b=true):a=.nilIface∧b=.nilIface∧(∃ms,E.under t=some (.interface ms))∧(zcd x || zcd y)=true:=by
 unfold nils_ at h
 split at h
 .exact⟨rfl,rfl,⟨_,‹_›⟩,h⟩
 .cases h
section
variable {P:Program} {eqs:List TypeId} (hp:P.types.size<4000) (hs:∀t∈eqs,P.stoodInHeld t=false) (hg:∀t∈eqs,P.eqGuardType P.depth t=false)
include hp
theorem clear_does{β:Bt}{h h':Hp}{w:World}(H:HR P β h w){t:TypeId}{x x' v:Value}(hc:clear_ (Env.of P eqs) t x h=some (v,h'))(hx:VR β x x')(ts:Array TypeId)(ht:ts[0]?=some t)(ty:TypeId):Does P β h w (Builtin.clear_ ts ty #[x']) v h':=by
 unfold clear_ at hc
 split at hc
 .rename_i a n c
  obtain⟨i,_,hi,rfl⟩:=hx.slice_inv
  split at hc
  .rename_i e hu
   split at hc
   .simp only[zA,zB]at hc
    obtain⟨rfl,rfl⟩:=hc
    exact .same H (by simp[Builtin.clear_,ht,zad hp hu];rfl) (.undef β)
   .rename_i m z hz
    cases hst:zao h a (rep_ z.cells.toList (m+1))with
    | none=>rw[hst]at hc;cases hc
    | some h2=>
     rw[hst]at hc
     simp only[zA,zB]at hc
     obtain⟨rfl,rfl⟩:=hc
     have hzc:=((zbj hp hz).2 β).cells (zaR hz)
     have harr:(Builtin.zeroCells z.cells (m+1)).toList=rep_ z.cells.toList (m+1):=zcW z.cells (m+1) _ rfl
     obtain⟨w',hr,H',S'⟩:=zbC H hst hi (l':=(Builtin.zeroCells z.cells (m+1)).toList) (by rw[harr];exact hzc.rep _)
     refine⟨undef,w',β,?_,H',S',.undef β⟩
     simp only[Builtin.clear_,Sem.run_bind,ht,List.getElem?_toArray,List.getElem?_cons_zero,zad hp hu,Result.andThen_ok,zbb hp hz,hr,Sem.run_pure]
     rfl
   .cases hc
  .cases hc
 .rename_i n c
  rw[hx.nilSlice_inv]
  split at hc
  .rename_i d hu
   simp only[zA,zB]at hc
   obtain⟨rfl,rfl⟩:=hc
   exact .same H (by simp[Builtin.clear_,ht,zad hp hu];rfl) (.undef β)
  .cases hc
 .cases hc
include hs hg
theorem binOp_does{β:Bt}{h:Hp}{w:World}(H:HR P β h w){ρ ρ':Operand→Value}(hρ:∀x,VR β (ρ x) (ρ' x)){op:BinOp}{t:TypeId}{x y:Operand}{yt:TypeId}{v:Value}{h':Hp}(ha:aop (Env.of P eqs) ρ (.binOp op t x y yt) h=some (v,h')) :
  Does P β h w (do eqGuard op t x y (ρ' x) (ρ' y);binOp op t (ρ' x) (ρ' y)) v h':=by
 simp only[aop]at ha
 cases hb:bin_ op (ρ x) (ρ y)with
 | some z=>
  rw[hb]at ha
  simp only[zA,zB]at ha
  obtain⟨rfl,rfl⟩:=ha
  obtain⟨hr,hB⟩:=bin_run (P:=P) hb (hρ x) (hρ y) t x y w
  exact .same H hr (.bare hB)
 | none=>
  rw[hb]at ha
  simp only at ha
  cases hni:nils_ (Env.of P eqs) t x y (ρ x) (ρ y)with
  | true=>
   rw[hni]at ha
   simp only at ha
   obtain⟨h1,h2,⟨ms,hu⟩,hc⟩:=nils_inv hni
   have hx':ρ' x=.nilIface:=by
    have:=hρ x
    rw[h1]at this
    revert this
    generalize ρ' x=u
    intro this
    cases this
    rfl
   have hy':ρ' y=.nilIface:=by
    have:=hρ y
    rw[h2]at this
    revert this
    generalize ρ' y=u
    intro this
    cases this
    rfl
   have hgd:∀op,(eqGuard op t x y .nilIface .nilIface).run P w=.ok () w:=by
    intro op
    unfold eqGuard
    cases x<;>cases y<;>first|(cases hc;done)|(cases op<;>simp)
   have h5:(Op.equal t .nilIface .nilIface).run P w=.ok true w:=by
    have h6:∀D,(Op.equalIn (D+1) t .nilIface .nilIface).run P w=.ok true w:=fun D=>by simp[Op.equalIn,zad hp hu]
    exact h6 9999
   have e1:binOp .eql t .nilIface .nilIface=(do pure (.bool (←Op.equal t .nilIface .nilIface))):=rfl
   have e2:binOp .neq t .nilIface .nilIface=(do pure (.bool (!(←Op.equal t .nilIface .nilIface)))):=rfl
   rw[hx',hy']
   cases op<;>simp only at ha<;>try (cases ha;done)
   case eql=>
    simp only[zA,zB]at ha
    obtain⟨rfl,rfl⟩:=ha
    refine .same H (v':=.bool true) ?_ (.bool _)
    rw[e1]
    simp only[Sem.run_bind,hgd,Result.andThen_ok,h5,Sem.run_pure]
   case neq=>
    simp only[zA,zB]at ha
    obtain⟨rfl,rfl⟩:=ha
    refine .same H (v':=.bool false) ?_ (.bool _)
    rw[e2]
    simp only[Sem.run_bind,hgd,Result.andThen_ok,h5,Sem.run_pure,zH]
  | false=>
  rw[hni]at ha
  simp only at ha
  have noInt:∀(b:Bool) {a c:Value},(op=.eql∨op=.neq)→eq_ (Env.of P eqs) 20 t (ρ x) (ρ y)=some b→∀t,(op=.eql→binOp op t (ρ' x) (ρ' y)=(do pure (.bool (←Op.equal t (ρ' x) (ρ' y)))))∧(op=.neq→binOp op t (ρ' x) (ρ' y)=(do pure (.bool (!(←Op.equal t (ρ' x) (ρ' y)))))):=by
   intro b a c hop he
   rcases eq_form he (hρ x) (hρ y)with⟨k,a,k',c,h1,h2,rfl⟩|⟨a,c,h1,h2⟩|h3
   .rw[h1,h2]at hb
    rcases hop with rfl|rfl<;>simp[bin_]at hb
   .rw[h1,h2]at hb
    rcases hop with rfl|rfl<;>simp[bin_]at hb
   .intro t
    exact⟨fun h=>by subst h;exact(h3 t).1,fun h=>by subst h;exact(h3 t).2⟩
  cases op<;>simp only at ha<;>try (cases ha;done)
  case eql=>
   cases hgd:guard_ (Env.of P eqs) t (ρ x)with
   | false=>rw[hgd]at ha;cases ha
   | true=>
    cases he:eq_ (Env.of P eqs) 20 t (ρ x) (ρ y)with
    | none=>rw[hgd,he]at ha;cases ha
    | some b=>
     rw[hgd,he]at ha
     simp only[zA,zB]at ha
     obtain⟨rfl,rfl⟩:=ha
     have h1:=(noInt b (a:=undef) (c:=undef) (.inl rfl) he t).1 rfl
     have h2:=eqGuard_run (op:=.eql) (X:=x) (Y:=y) hg he hgd (hρ x) (hρ y) w
     have h3:=eq_run hp (w:=w) hs 20 10000 (by omega) t _ _ _ _ b he (hρ x) (hρ y)
     refine .same H (v':=.bool b) ?_ (.bool b)
     rw[h1]
     simp only[Sem.run_bind,h2,Result.andThen_ok,Op.equal,Op.maxDepth,h3,Sem.run_pure]
  case neq=>
   cases hgd:guard_ (Env.of P eqs) t (ρ x)with
   | false=>rw[hgd]at ha;cases ha
   | true=>
    cases he:eq_ (Env.of P eqs) 20 t (ρ x) (ρ y)with
    | none=>rw[hgd,he]at ha;cases ha
    | some b=>
     rw[hgd,he]at ha
     simp only[zA,zB]at ha
     obtain⟨rfl,rfl⟩:=ha
     have h1:=(noInt b (a:=undef) (c:=undef) (.inr rfl) he t).2 rfl
     have h2:=eqGuard_run (op:=.neq) (X:=x) (Y:=y) hg he hgd (hρ x) (hρ y) w
     have h3:=eq_run hp (w:=w) hs 20 10000 (by omega) t _ _ _ _ b he (hρ x) (hρ y)
     refine .same H (v':=.bool !b) ?_ (.bool _)
     rw[h1]
     simp only[Sem.run_bind,h2,Result.andThen_ok,Op.equal,Op.maxDepth,h3,Sem.run_pure]
theorem aop_does{β:Bt}{h:Hp}{w:World}(H:HR P β h w){ρ ρ':Operand→Value}(hρ:∀x,VR β (ρ x) (ρ' x)){o:Oper}{v:Value}{h':Hp}(ha:aop (Env.of P eqs) ρ o.op h=some (v,h')) :
  DoesOp P β h w (execOp ρ' o) v h':=by
 obtain⟨dst,op,type,pos,after,guard⟩:=o
 simp only at ha
 have plain:∀ {x:Option Value} {h2:Hp} {u:Value},(match x with|some x=>some (x,h)|none=>none)=some (u,h2)→x=some u∧h2=h:=by
  intro x h2 u e
  cases x with
  | none=>cases e
  | some x=>simp only[zA,zB]at e;exact⟨by rw[e.1],e.2.symm⟩
 cases op
 case move x=>
  simp only[aop,zA,zB]at ha
  obtain⟨rfl,rfl⟩:=ha
  exact⟨_,ρ' x,w,β,rfl,.inl rfl,H,.refl _ _ _,hρ x⟩
 case assign x=>
  simp only[aop,zA,zB]at ha
  obtain⟨rfl,rfl⟩:=ha
  exact⟨_,ρ' x,w,β,rfl,.inl rfl,H,.refl _ _ _,hρ x⟩
 case pick c a b=>
  simp only[aop]at ha
  split at ha
  .rename_i hc
   simp only[zA,zB]at ha
   obtain⟨rfl,rfl⟩:=ha
   have:=hρ c
   rw[hc]at this
   exact⟨_,ρ' a,w,β,by simp[execOp,this.bool_inv,asBool],.inl rfl,H,.refl _ _ _,hρ a⟩
  .rename_i hc
   simp only[zA,zB]at ha
   obtain⟨rfl,rfl⟩:=ha
   have:=hρ c
   rw[hc]at this
   exact⟨_,ρ' b,w,β,by simp[execOp,this.bool_inv,asBool],.inl rfl,H,.refl _ _ _,hρ b⟩
  .cases ha
 case alloc e=>
  simp only[aop]at ha
  cases hz:(Env.of P eqs).zero e with
  | none=>rw[hz]at ha;cases ha
  | some z=>
   rw[hz]at ha
   simp only at ha
   cases hn:zat h e z.cells.toList true with
   | none=>rw[hn]at ha;cases ha
   | some q=>
    obtain⟨a,h2⟩:=q
    rw[hn]at ha
    simp only[zA,zB]at ha
    obtain⟨rfl,rfl⟩:=ha
    exact(alloc_does hp H hz hn).op
 case box e x=>
  simp only[aop]at ha
  cases hna:isAny (ρ x)with
  | true=>rw[hna]at ha;cases ha
  | false=>
   cases hn:zat h e (ρ x).cells.toList true with
   | none=>rw[hna,hn]at ha;cases ha
   | some q=>
    obtain⟨a,h2⟩:=q
    rw[hna,hn]at ha
    simp only[zA,zB]at ha
    obtain⟨rfl,rfl⟩:=ha
    exact(box_does H hn (hρ x) hna).op
 case build t parts=>
  simp only[aop]at ha
  obtain⟨hb,rfl⟩:=plain ha
  exact(build_does hp H hb (parts_pr hρ parts)).op
 case buildSlice t len parts=>
  simp only[aop]at ha
  exact(buildSlice_does hp H ha (parts_pr hρ parts)).op
 case load t a=>
  simp only[aop]at ha
  cases hadr:addr_ (ρ a)with
  | none=>rw[hadr]at ha;cases ha
  | some ad=>
   rw[hadr]at ha
   obtain⟨hl,rfl⟩:=plain ha
   exact(load_does hp H hadr hl (hρ a)).op
 case store t a x=>
  simp only[aop]at ha
  cases hadr:addr_ (ρ a)with
  | none=>rw[hadr]at ha;cases ha
  | some ad=>
   cases hsz:(Env.of P eqs).size t with
   | none=>rw[hadr,hsz]at ha;cases ha
   | some n=>
    rw[hadr,hsz]at ha
    simp only at ha
    cases hb:(zE (ρ x).cells.toList.length n&&!isAny (ρ x))with
    | false=>rw[hb]at ha;cases ha
    | true=>
     rw[hb,cond_true]at ha
     obtain⟨hb1,hb2⟩:=Bool.and_eq_true_iff.1 hb
     cases hst:zao h ad (ρ x).cells.toList with
     | none=>rw[hst]at ha;cases ha
     | some h2=>
      rw[hst]at ha
      simp only[zA,zB]at ha
      obtain⟨rfl,rfl⟩:=ha
      exact .unit (store_run hp H hadr hsz (zD hb1) hst (hρ a) (hρ x) (by simpa using hb2))
 case nilCheck x=>
  simp only[aop]at ha
  split at ha
  .rename_i ad hx
   simp only[zA,zB]at ha
   obtain⟨rfl,rfl⟩:=ha
   have:=hρ x
   rw[hx]at this
   obtain⟨a',ha'⟩:∃a',ρ' x=.pointer (some a'):=by
    revert this
    generalize ρ' x=u
    intro this
    cases this with
    | ptr o h=>exact⟨_,rfl⟩
   exact⟨.value (ρ' x),ρ' x,w,β,by simp only[execOp,ha'];rfl,.inl rfl,H,.refl _ _ _,this⟩
  .rename_i f a b hx
   simp only[zA,zB]at ha
   obtain⟨rfl,rfl⟩:=ha
   have:=hρ x
   rw[hx]at this
   obtain⟨a',b',ha'⟩:∃a' b',ρ' x=.func (.func f) a' b':=by
    revert this
    generalize ρ' x=u
    intro this
    cases this with
    | func fn h1 h2 h3 h4=>exact⟨_,_,rfl⟩
   exact⟨.value (ρ' x),ρ' x,w,β,by simp only[execOp,ha'];rfl,.inl rfl,H,.refl _ _ _,this⟩
  .rename_i t v0 hx
   simp only[zA,zB]at ha
   obtain⟨rfl,rfl⟩:=ha
   have:=hρ x
   rw[hx]at this
   obtain⟨v1,ha'⟩:∃v1,ρ' x=.iface t v1:=by
    revert this
    generalize ρ' x=u
    intro this
    cases this with
    | iface t h=>exact⟨_,rfl⟩
   exact⟨.value (ρ' x),ρ' x,w,β,by simp only[execOp,ha'];rfl,.inl rfl,H,.refl _ _ _,this⟩
  .cases ha
 case binOp op t x y yt=>
  exact(binOp_does hp hs hg H hρ ha).op
 case unOp op t x=>
  simp only[aop]at ha
  obtain⟨hu,rfl⟩:=plain ha
  obtain⟨hr,hB⟩:=un_run (P:=P) hu (hρ x) w
  exact(Does.same H hr (.bare hB)).op
 case convert s d x=>
  simp only[aop]at ha
  exact(conv_does hp H ha (hρ x)).op
 case makeInterface t x=>
  simp only[aop]at ha
  split at ha
  .cases ha
  .rename_i d hnd hd
   simp only[zA,zB]at ha
   obtain⟨rfl,rfl⟩:=ha
   refine(Does.same H (v':=.iface t (ρ' x)) ?_ (.iface t (hρ x))).op
   simp only[Instr.makeInterface,Sem.run_bind,zad hp hd,Result.andThen_ok]
   cases d<;>first|rfl|exact absurd rfl (hnd _)
  .cases ha
 case makeFunc fn first captured=>
  simp only[aop,zA,zB]at ha
  obtain⟨rfl,rfl⟩:=ha
  refine(Does.same H (v':=.func fn (first.map ρ') (captured.map ρ')) rfl (.func fn (by simp) (fun i x y hx hy=>?_) (by simp) (fun i x y hx hy=>?_))).op
  .rw[Array.getElem?_map]at hx hy
   cases hq:first[i]? with
   | none=>rw[hq]at hx;cases hx
   | some u=>rw[hq]at hx hy;injection hx with hx;injection hy with hy;subst hx hy;exact hρ u
  .rw[Array.getElem?_map]at hx hy
   cases hq:captured[i]? with
   | none=>rw[hq]at hx;cases hx
   | some u=>rw[hq]at hx hy;injection hx with hx;injection hy with hy;subst hx hy;exact hρ u
 case makeMap t r=>
  cases r with
  | some r=>simp[aop]at ha
  | none=>
   simp only[aop]at ha
   cases hn:h.new (.map [] 0)with
   | none=>rw[hn]at ha;cases ha
   | some q=>
    obtain⟨b,h2⟩:=q
    rw[hn]at ha
    simp only[zA,zB]at ha
    obtain⟨rfl,rfl⟩:=ha
    exact(makeMap_does H hn).op
 case makeSlice t l c=>
  simp only[aop]at ha
  exact(makeSlice_does hp H ha (hρ l) (hρ c)).op
 case slice t x lo hi mx=>
  simp only[aop]at ha
  exact(slice_does hp H ha (hρ x) (.map hρ lo) (.map hρ hi) (.map hρ mx)).op
 case fieldAddr s x f=>
  simp only[aop]at ha
  obtain⟨hf,rfl⟩:=plain ha
  obtain⟨v',hr,hR⟩:=fieldAddr_run hp hf (hρ x) w
  exact(Does.same H hr hR).op
 case field s x f=>
  simp only[aop]at ha
  obtain⟨hf,rfl⟩:=plain ha
  obtain⟨v',hr,hR⟩:=field_run hp hf (hρ x) w
  exact(Does.same H hr hR).op
 case indexAddr t x i=>
  simp only[aop]at ha
  obtain⟨hf,rfl⟩:=plain ha
  obtain⟨v',hr,hR⟩:=indexAddr_run hp hf (hρ x) (hρ i) w
  exact(Does.same H hr hR).op
 case index t x i=>
  simp only[aop]at ha
  obtain⟨hf,rfl⟩:=plain ha
  obtain⟨v',hr,hR⟩:=index_run hp hf (hρ x) (hρ i) w
  exact(Does.same H hr hR).op
 case lookup t x k ok=>
  simp only[aop]at ha
  obtain⟨hf,rfl⟩:=plain ha
  obtain⟨hr,hR⟩:=lookup_run hp H hf (hρ x) (hρ k)
  exact(Does.same H hr hR).op
 case mapUpdate t m k x=>
  simp only[aop]at ha
  cases hm:zbm (Env.of P eqs) t (ρ m) (ρ k) (ρ x) h with
  | none=>rw[hm]at ha;cases ha
  | some h2=>
   rw[hm]at ha
   simp only[zA,zB]at ha
   obtain⟨rfl,rfl⟩:=ha
   exact .unit (mapUpdate_does hp H hm (hρ m) (hρ k) (hρ x))
 case extract t i=>
  simp only[aop]at ha
  split at ha
  .rename_i vs ht
   cases hv:vs.toList[i]? with
   | none=>rw[hv]at ha;cases ha
   | some u=>
    rw[hv]at ha
    simp only[zA,zB]at ha
    obtain⟨rfl,rfl⟩:=ha
    have:=hρ t
    rw[ht]at this
    obtain⟨ys,hy,hl⟩:=this.tuple_inv
    obtain⟨u',hu',hR⟩:=hl.get hv
    have h2:ys[i]?=some u':=by simpa using hu'
    exact(Does.same H (v':=u') (by simp[hy,Instr.extract,h2]) hR).op
  .cases ha
 case call c=>
  obtain⟨callee,args,argTypes⟩:=c
  cases callee with
  | value f=>simp[aop]at ha
  | invoke r m=>simp[aop]at ha
  | builtin b=>
   simp only[aop]at ha
   have shape:∀(s:Sem Value),(∀(cs:Array Bool),builtin b argTypes type cs (args.map ρ')=(do pure (.value (←s))))→Does P β h w s v h'→DoesOp P β h w (execOp ρ' ⟨dst,.call ⟨.builtin b,args,argTypes⟩,type,pos,after,guard⟩) v h':=by
    intro s hb hd
    obtain⟨n,v',w',β',hr,hn,H',S',hR⟩:=hd.op
    refine⟨n,v',w',β',?_,hn,H',S',hR⟩
    simp only[execOp,resolve,Sem.run_bind,Sem.run_pure,Result.andThen_ok,invoke,hb]
    simpa only[Sem.run_bind,Sem.run_pure]using hr
   split at ha
   .rename_i x t hargs htys
    obtain⟨hl,rfl⟩:=plain ha
    have e1:=zdh hargs
    subst e1
    have ht:argTypes[0]?=some t:=by
     have:argTypes.toList[0]?=some t:=by rw[htys];rfl
     simpa using this
    obtain⟨hr,hR⟩:=len_run hp H hl (hρ x) argTypes ht type
    exact shape (Builtin.len_ argTypes type #[ρ' x]) (fun cs=>by simp[builtin]) (.same H hr hR)
   .rename_i s x t u hargs htys
    have e1:=zdh hargs
    subst e1
    have e2:argTypes=#[t,u]:=by
     apply zF
     rw[htys]
    subst e2
    exact shape (Builtin.append_ #[t,u] type #[ρ' s,ρ' x]) (fun cs=>by simp[builtin]) (append_does hp H ha (hρ s) (hρ x) type)
   .rename_i d s t r hargs htys
    have e1:=zdh hargs
    subst e1
    have ht:argTypes[0]?=some t:=by
     have:argTypes.toList[0]?=some t:=by rw[htys];rfl
     simpa using this
    exact shape (Builtin.copy_ argTypes type #[ρ' d,ρ' s]) (fun cs=>by simp[builtin]) (copy_does hp H ha (hρ d) (hρ s) argTypes type ht)
   .rename_i x t r hargs htys
    have e1:=zdh hargs
    subst e1
    have ht:argTypes[0]?=some t:=by
     have:argTypes.toList[0]?=some t:=by rw[htys];rfl
     simpa using this
    exact shape (Builtin.clear_ argTypes type #[ρ' x]) (fun cs=>by simp[builtin]) (clear_does hp H ha (hρ x) argTypes ht type)
   .rename_i x hargs
    obtain⟨hm,rfl⟩:=plain ha
    have e1:=zdh hargs
    subst e1
    obtain⟨v',hr,hR⟩:=sliceData_run (P:=P) (w:=w) hm (hρ x) argTypes type
    exact shape (Builtin.unsafeSliceData_ argTypes type #[ρ' x]) (fun cs=>by simp[builtin]) (.same H hr hR)
   .rename_i x n t u hargs htys
    have e1:=zdh hargs
    subst e1
    have e2:argTypes=#[t,u]:=by
     apply zF
     rw[htys]
    subst e2
    exact shape (Builtin.unsafeString_ #[t,u] type #[ρ' x,ρ' n]) (fun cs=>by simp[builtin]) (unsafeStr_does hp H ha (hρ x) (hρ n) u type)
   .rename_i x l hargs
    obtain⟨hm,rfl⟩:=plain ha
    have e1:=zdh hargs
    subst e1
    obtain⟨v',hr,hR⟩:=min_run (P:=P) (w:=w) hm (hρ x) (l':=l.map ρ') ⟨by simp,fun i a b hx hy=>by
     rw[List.getElem?_map]at hx hy
     cases hq:l[i]? with
     | none=>rw[hq]at hx;cases hx
     | some q=>rw[hq]at hx hy;injection hx with hx;injection hy with hy;subst hx hy;exact hρ q⟩
    refine shape (Builtin.min_ argTypes type ((x::l).toArray.map ρ')) (fun cs=>by simp[builtin]) (.same H ?_ hR)
    simpa [Builtin.min_]using hr
   .rename_i x l hargs
    obtain⟨hm,rfl⟩:=plain ha
    have e1:=zdh hargs
    subst e1
    obtain⟨v',hr,hR⟩:=max_run (P:=P) (w:=w) hm (hρ x) (l':=l.map ρ') ⟨by simp,fun i a b hx hy=>by
     rw[List.getElem?_map]at hx hy
     cases hq:l[i]? with
     | none=>rw[hq]at hx;cases hx
     | some q=>rw[hq]at hx hy;injection hx with hx;injection hy with hy;subst hx hy;exact hρ q⟩
    refine shape (Builtin.max_ argTypes type ((x::l).toArray.map ρ')) (fun cs=>by simp[builtin]) (.same H ?_ hR)
    simpa [Builtin.max_]using hr
   .cases ha
 all_goals (simp[aop]at ha)
end
def Fr.get(a:Fr)(t:Nat):Value:=match a.t.get t with|some v=>v|none=>undef
structure FR(β:Bt)(a:Fr)(a':Act):Prop where
 defers:a'.defers=[]
 size:a'.tmps.size=a.n
 most:a.n≤100000
 glob:∀g,g<a.gl→β g=some ⟨g,0,0⟩
 tmps:∀t,VR β (a.get t) (a'.tmps.getD t undef)
theorem FR.mono{β β':Bt}(hb:β.le β'){a:Fr}{a':Act}(h:FR β a a'):FR β' a a':=⟨h.defers,h.size,h.most,fun g hg=>hb _ _ (h.glob g hg),fun t=>(h.tmps t).mono hb⟩
theorem FR.put{β:Bt}{a a2:Fr}{a':Act}(h:FR β a a'){d:Option Tmp}{v v':Value}(hp:a.put d v=some a2)(hv:VR β v v'):FR β a2 (a'.put d v'):=by
 rw[Fr.put_eq]at hp
 cases d with
 | none=>simp only[zA]at hp;subst hp;exact h
 | some d=>
  simp only at hp
  cases hb:Nat.blt d a.n with
  | false=>rw[hb]at hp;cases hp
  | true=>
   rw[hb,cond_true,Tr.force_eq]at hp
   injection hp with hp
   subst hp
   have hlt:@LT.lt Nat _ d a.n:=zO (Nat.lt_succ_self _) (zJ hb)
   have hm:=h.most
   refine⟨h.defers,by simp[Act.put,h.size],h.most,h.glob,fun t=>?_⟩
   show VR β (match(a.t.set 24 d v).get t with|some v=>v|none=>undef) _
   rw[Tr.get_set 24 _ _ _ _ (by omega)]
   simp only[Act.put,Array.getD_eq_getD_getElem?,Array.getElem?_setIfInBounds]
   by_cases ht:d=t
   .subst ht
    rw[if_pos rfl,if_pos rfl,if_pos (by rw[h.size];exact hlt)]
    exact hv
   .rw[if_neg (Ne.symm ht),if_neg ht]
    have:=h.tmps t
    rw[Array.getD_eq_getD_getElem?]at this
    exact this
theorem FR.eval{β:Bt}{a:Fr}{a':Act}(h:FR β a a')(x:Operand):VR β (a.eval x) (a'.eval x):=by
 cases x with
 | tmp t=>exact h.tmps t
 | const v=>
  show VR β (zcf v) v
  unfold zcf
  split
  .rename_i cs
   cases hb:zdg cs.toList with
   | true=>
    have hl:=bares_ok (β:=β) hb
    exact .agg rfl (fun i x y hx hy=>hl.2 i x y (by simpa using hx) (by simpa using hy))
   | false=>exact .any _
  .cases hb:bare_ v with
   | true=>exact bare_ok hb
   | false=>exact .any _
 | func f=>exact .func _ rfl (fun i x y hx=>by simp at hx) rfl (fun i x y hx=>by simp at hx)
 | global g=>
  show VR β (bif Nat.blt g a.gl then .pointer (some ⟨g,0,none⟩)else lost) (.pointer (some ⟨g,0,none⟩))
  cases hb:Nat.blt g a.gl with
  | false=>exact .lost _ rfl
  | true=>
   have hlt:g<a.gl:=zO (Nat.lt_succ_self _) (zJ hb)
   have:=VR.ptr 0 (h.glob g hlt)
   exact this
theorem wanted_run{β:Bt}{a:Fr}{a':Act}{ops:Array Oper}{o:Oper}{b:Bool}(hT:∀j w d,o.guard=some (j,w)→(ops.toList[j]?).bind (·.dst)=some d→VR β (a.get d) (a'.tmps.getD d undef))(hw:zbX a ops.toList o=some b):Region.wanted o (yielded ops a'.tmps)=b:=by
 unfold zbX at hw
 unfold Region.wanted
 cases hg:o.guard with
 | none=>rw[hg]at hw;simpa using hw
 | some g=>
  obtain⟨j,w⟩:=g
  rw[hg]at hw
  simp only at hw ⊢
  cases hj:ops.toList[j]? with
  | none=>rw[hj]at hw;cases hw
  | some oj=>
   rw[hj]at hw
   obtain⟨dst,op,type,pos,after,guard⟩:=oj
   have hj2:ops[j]?=some ⟨dst,op,type,pos,after,guard⟩:=by simpa using hj
   cases dst with
   | none=>cases hw
   | some d=>
    simp only at hw
    have ht:=hT j w d hg (by rw[hj];rfl)
    unfold yielded
    rw[hj2]
    simp only[Option.bind_some]
    cases hv:a.t.get d with
    | none=>
     rw[hv]at hw
     simp only[zA]at hw
     subst hw
     have:a.get d=undef:=by unfold Fr.get;rw[hv]
     rw[this]at ht
     obtain⟨ys,hy,_⟩:=ht.tuple_inv
     rw[Array.getD_eq_getD_getElem?]at hy
     cases hq:a'.tmps[d]? with
     | none=>simp
     | some u=>
      rw[hq]at hy
      simp only[zL]at hy
      subst hy
      simp
    | some u=>
     rw[hv]at hw
     have hget:a.get d=u:=by unfold Fr.get;rw[hv]
     rw[hget]at ht
     cases u with
     | bool c=>
      simp only[zA]at hw
      subst hw
      have:=ht.bool_inv
      rw[Array.getD_eq_getD_getElem?]at this
      cases hq:a'.tmps[d]? with
      | none=>rw[hq]at this;cases this
      | some x=>
       rw[hq]at this
       simp only[zL]at this
       subst this
       cases c<;>cases w<;>rfl
     | tuple vs=>
      simp only[zA]at hw
      subst hw
      obtain⟨ys,hy,_⟩:=ht.tuple_inv
      rw[Array.getD_eq_getD_getElem?]at hy
      cases hq:a'.tmps[d]? with
      | none=>simp
      | some x=>
       rw[hq]at hy
       simp only[zL]at hy
       subst hy
       simp
     | _=>cases hw
theorem FR.wanted{β:Bt}{a:Fr}{a':Act}(h:FR β a a'){ops:Array Oper}{o:Oper}{b:Bool}(hw:zbX a ops.toList o=some b):Region.wanted o (yielded ops a'.tmps)=b:=
 wanted_run (fun _ _ d _ _=>h.tmps d) hw
abbrev Fz(r:Option Nat):Fence:={ Fence.wide with round:=r }
theorem calls_fz{r:Option Nat}{n:Nat}{P:Program}{f:FuncId}{args:Array Value}{w:World}{R:Ending→World→Prop}(h:Calls P f args w R):CallsIn (Fz r) n P f args w R:=by
 cases r with
 | none=>exact callsIn_wide.2 h
 | some l=>exact CallsIn.inRound l (callsIn_wide.2 h)
def Answers(P:Program)(β:Bt)(h:Hp)(w:World)(h2:Hp)(v:Value)(r:Result Next):Prop:=
 (∃β2 w2 v',r=.ok (.value v') w2∧HR P β2 h2 w2∧St β h w β2 h2 w2∧VR β2 v v')∨
 (∃f args,r=.ok (.enter f args) w∧Calls P f args w fun en w2=>∃v' β2,en=.returned v'∧HR P β2 h2 w2∧St β h w β2 h2 w2∧VR β2 v v')
def zbx(P:Program)(call:FuncId→List Value→Hp→Option (Value×Hp))(gl:Nat):Prop:=
 ∀(f:FuncId) (args args':List Value) (h h2:Hp) (v:Value) (β:Bt) (w:World),call f args h=some (v,h2)→LR β args args'→HR P β h w→(∀g,g<gl→β g=some ⟨g,0,0⟩)→
  Answers P β h w h2 v ((callFunc f args'.toArray).run P w)
section
variable {P:Program} {eqs:List TypeId} (hp:P.types.size<4000) (hs:∀t∈eqs,P.stoodInHeld t=false) (hg:∀t∈eqs,P.eqGuardType P.depth t=false)
include hp hs hg
omit hs hg in
theorem meth_run{t:TypeId}{name:String}{f:FuncId}(hm:(Env.of P eqs).meth t name=some f)(v:Value)(k:Nat)(w:World):(method (k+1) t v name).run P w=.ok (f,v) w:=by
 unfold Env.meth at hm
 split at hm
 .rename_i i d hi hd
  have hinfo:=run_typeInfo w (zcK hp hi)
  have hund:=zad hp hd w
  split at hm
  .rename_i m hfind
   rw[Array.find?_toList]at hfind
   unfold method
   simp only[Sem.run_bind,hinfo,Result.andThen_ok,hfind]
   split at hm
   .rename_i f2 pr hpath hfunc
    split at hm
    .rename_i hb
     injection hm with hm;subst hm
     have hpr:pr=isPtr_ d:=by simpa using hb
     subst hpr
     simp only[hpath,follow,Sem.run_bind,Sem.run_pure,Result.andThen_ok,hfunc,receiverAt,hund]
     cases d<;>simp[isPtr_,Place.get]
    .cases hm
   .cases hm
  .cases hm
 .cases hm
theorem one_wp{call:FuncId→List Value→Hp→Option (Value×Hp)}(hcall:zbx P call P.globals.size){β:Bt}{ρ:Operand→Value}{a':Act}{h h2:Hp}{w:World}{o:Oper}{v:Value}(hρ:∀x,VR β (ρ x) (a'.eval x))(hgl:∀g,g<P.globals.size→β g=some ⟨g,0,0⟩)(H:HR P β h w)
  (h1:oneOp (Env.of P eqs) call ρ o.op h=some (v,h2)) {r:Option Nat} {n:Nat} {next:Act→World→Prop} {Q:Exit→Act→World→Prop}
  (hn:∀β2 w2 v',HR P β2 h2 w2→St β h w β2 h2 w2→VR β2 v v'→next (a'.put o.dst v') w2):o.wpIn (Fz r) n P a' w next Q:=by
 have plain:aop (Env.of P eqs) ρ o.op h=some (v,h2)→o.wpIn (Fz r) n P a' w next Q:=by
  intro ha
  obtain⟨n,v',w',β',hr,hnn,H',S',hR⟩:=aop_does hp hs hg H hρ ha
  refine⟨fun _ _=>trivial,?_⟩
  rw[Oper.semAt_eq _ _ _ (fun c hc=>by rw[hc]at ha;simp[aop]at ha),hr]
  have:=hn β' w' v' H' S' hR
  rcases hnn with rfl|⟨rfl,rfl⟩<;>exact this
 unfold oneOp at h1
 split at h1
 .rename_i c hop
  split at h1
  .rename_i f hcal
   cases hc:zcn (Env.of P eqs) ρ c with
   | none=>rw[hc]at h1;cases h1
   | some q=>
    obtain⟨fn,args⟩:=q
    rw[hc]at h1
    simp only at h1
    unfold zcn at hc
    rw[hcal]at hc
    simp only at hc
    split at hc
    .rename_i g first captured hf
     simp only[zA,zB]at hc
     obtain⟨rfl,rfl⟩:=hc
     have hv:=hρ f
     rw[hf]at hv
     obtain⟨first',captured',hf',hl1,hl2⟩:∃first' captured',a'.eval f=.func (.func g) first' captured'∧LR β first.toList first'.toList∧LR β captured.toList captured'.toList:=by
      revert hv
      generalize a'.eval f=u
      intro hv
      cases hv with
      | func fn h1 h2 h3 h4=>exact⟨_,_,rfl,⟨by simpa using h1,fun i x y hx hy=>h2 i x y (by simpa using hx) (by simpa using hy)⟩,⟨by simpa using h3,fun i x y hx hy=>h4 i x y (by simpa using hx) (by simpa using hy)⟩⟩
     have hargs:LR β (c.args.toList.map ρ) (c.args.map a'.eval).toList:=by
      refine⟨by simp,fun i x y hx hy=>?_⟩
      rw[List.getElem?_map]at hx
      rw[zK,List.getElem?_map]at hy
      cases hq:c.args.toList[i]? with
      | none=>rw[hq]at hx;cases hx
      | some u=>rw[hq]at hx hy;injection hx with hx;injection hy with hy;subst hx hy;exact hρ u
     have hall:=(hl1.append hargs).append hl2
     have hans:=hcall g _ _ h h2 v β w h1 hall H hgl
     refine⟨fun _ _=>trivial,?_⟩
     rw[Oper.semAt_eq _ _ _ (fun c hc=>by rw[hop]at hc;cases hc)]
     have e:execOp a'.eval o=callFunc g (first'.toList++(c.args.map a'.eval).toList++captured'.toList).toArray:=by
      obtain⟨callee,cargs,ctys⟩:=c
      simp only at hcal
      subst hcal
      unfold execOp
      rw[hop]
      have e2:(first'++cargs.map a'.eval++captured')=(first'.toList++(cargs.map a'.eval).toList++captured'.toList).toArray:=by
       apply zF
       simp
      simp only[resolve,hf',Deferred.ofValue]
      show callFunc g (first'++cargs.map a'.eval++captured')=_
      rw[e2]
     rw[e]
     rcases hans with⟨β2,w2,v',hr,H2,S2,hv⟩|⟨f2,args2,hr,hcl⟩
     .rw[hr]
      exact hn β2 w2 v' H2 S2 hv
     .rw[hr]
      refine⟨(fun h=>by cases h),calls_fz (hcl.mono ?_)⟩
      rintro en w2 ⟨v',β2,rfl,H2,S2,hv⟩
      exact hn β2 w2 v' H2 S2 hv
    .cases hc
  .rename_i x name hcal
   cases hc:zcn (Env.of P eqs) ρ c with
   | none=>rw[hc]at h1;cases h1
   | some q=>
    obtain⟨fn,args⟩:=q
    rw[hc]at h1
    simp only at h1
    unfold zcn at hc
    rw[hcal]at hc
    simp only at hc
    split at hc
    .rename_i t v0 hx
     split at hc
     .rename_i g hm
      simp only[zA,zB]at hc
      obtain⟨rfl,rfl⟩:=hc
      have hv:=hρ x
      rw[hx]at hv
      obtain⟨v1,hx',hv1⟩:∃v1,a'.eval x=.iface t v1∧VR β v0 v1:=by
       revert hv
       generalize a'.eval x=u
       intro hv
       cases hv with
       | iface t h=>exact⟨_,rfl,h⟩
      have hargs:LR β (c.args.toList.map ρ) (c.args.map a'.eval).toList:=by
       refine⟨by simp,fun i x y hx hy=>?_⟩
       rw[List.getElem?_map]at hx
       rw[zK,List.getElem?_map]at hy
       cases hq:c.args.toList[i]? with
       | none=>rw[hq]at hx;cases hx
       | some u=>rw[hq]at hx hy;injection hx with hx;injection hy with hy;subst hx hy;exact hρ u
      have hans:=hcall g _ (v1::(c.args.map a'.eval).toList) h h2 v β w h1 (LR.cons hv1 hargs) H hgl
      refine⟨fun _ _=>trivial,?_⟩
      rw[Oper.semAt_eq _ _ _ (fun c hc=>by rw[hop]at hc;cases hc)]
      have e:(execOp a'.eval o).run P w=(callFunc g (v1::(c.args.map a'.eval).toList).toArray).run P w:=by
       obtain⟨callee,cargs,ctys⟩:=c
       simp only at hcal
       subst hcal
       unfold execOp
       rw[hop]
       have e2:(#[v1]++cargs.map a'.eval)=(v1::(cargs.map a'.eval).toList).toArray:=zF (by simp)
       have e3:(#[Value.iface t v1]++cargs.map a'.eval)[0]?=some (.iface t v1):=by rw[Array.getElem?_append_left (show 0<1 from Nat.one_pos)];rfl
       have e4:(#[Value.iface t v1]++cargs.map a'.eval).extract 1 (#[Value.iface t v1]++cargs.map a'.eval).size=cargs.map a'.eval:=by
        apply zF
        simp[List.take_of_length_le]
       have e5:P.types.size+Made.depth=(P.types.size+99)+1:=rfl
       simp only[resolve,hx',Sem.run_bind,Sem.run_pure,Result.andThen_ok,invoke,e3,callMethod,run_program,e4,e5,meth_run hp hm,e2]
      rw[e]
      rcases hans with⟨β2,w2,v',hr,H2,S2,hv⟩|⟨f2,args2,hr,hcl⟩
      .rw[hr]
       exact hn β2 w2 v' H2 S2 hv
      .rw[hr]
       refine⟨(fun h=>by cases h),calls_fz (hcl.mono ?_)⟩
       rintro en w2 ⟨v',β2,rfl,H2,S2,hv⟩
       exact hn β2 w2 v' H2 S2 hv
     .cases hc
    .cases hc
  .exact plain h1
 .exact plain h1
theorem ops_wp{call:FuncId→List Value→Hp→Option (Value×Hp)}(hcall:zbx P call P.globals.size)(ops:Array Oper){r:Option Nat}{n:Nat}{Q:Exit→Act→World→Prop}:∀(l:List Oper) (k:Nat),(∀j,l[j]?=ops.toList[k+j]?)→∀ {β:Bt} {a:Fr} {a':Act} {h:Hp} {w:World} {e:Ex} {a2:Fr} {h2:Hp},
  FR β a a'→a.gl=P.globals.size→HR P β h w→ops_ (Env.of P eqs) call ops.toList l a h=.ok e a2 h2→
  (∀β2 a2' w2,HR P β2 h2 w2→St β h w β2 h2 w2→FR β2 a2 a2'→a2.gl=P.globals.size→Q .normal a2' w2)→e=.normal∧wpOpsIn (Fz r) n P ops Q (List.range' k l.length) a' w:=by
 intro l
 induction l with
 | nil=>
  intro k hk β a a' h w e a2 h2 hF hgl H hr hq
  simp only[ops_,Rs.ok.injEq]at hr
  obtain⟨rfl,rfl,rfl⟩:=hr
  exact⟨rfl,hq β a' w H (.refl _ _ _) hF hgl⟩
 | cons o l ih=>
  intro k hk β a a' h w e a2 h2 hF hgl H hr hq
  have ho:ops[k]?=some o:=by
   have:=hk 0
   simpa using this.symm
  have hk2:∀j,l[j]?=ops.toList[k+1+j]?:=fun j=>by
   have:=hk (j+1)
   rw[List.getElem?_cons_succ]at this
   rw[this]
   congr 1
   omega
  simp only[List.length_cons,List.range'_succ]
  simp only[ops_]at hr
  cases hw:zbX a ops.toList o with
  | none=>rw[hw]at hr;cases hr
  | some b=>
   rw[hw]at hr
   have hwt:=hF.wanted hw
   have putgl:∀ {d:Option Tmp} {v:Value} {a3:Fr},a.put d v=some a3→a3.gl=a.gl:=by
    intro d v a3 hp
    rw[Fr.put_eq]at hp
    cases d with
    | none=>injection hp with hp;rw[←hp]
    | some d=>
     simp only at hp
     cases hb:Nat.blt d a.n with
     | false=>rw[hb]at hp;cases hp
     | true=>rw[hb,cond_true,Tr.force_eq]at hp;injection hp with hp;rw[←hp]
   cases b with
   | true=>
    simp only at hr
    cases h1:oneOp (Env.of P eqs) call a.eval o.op h with
    | none=>rw[h1]at hr;cases hr
    | some q=>
     obtain⟨v,h3⟩:=q
     rw[h1]at hr
     simp only at hr
     cases hput:a.put o.dst v with
     | none=>rw[hput]at hr;cases hr
     | some a3=>
      rw[hput]at hr
      simp only at hr
      have e0:e=.normal:=by
       have:∀(l:List Oper) (a:Fr) (h:Hp),ops_ (Env.of P eqs) call ops.toList l a h=.ok e a2 h2→e=.normal:=by
        intro l
        induction l with
        | nil=>intro a h hr;simp only[ops_,Rs.ok.injEq]at hr;exact hr.1.symm
        | cons o l ih=>
         intro a h hr
         simp only[ops_]at hr
         split at hr
         .split at hr
          .split at hr
           .exact ih _ _ hr
           .cases hr
          .cases hr
         .split at hr
          .exact ih _ _ hr
          .cases hr
         .cases hr
       exact this _ _ _ hr
      refine⟨e0,?_⟩
      simp only[wpOpsIn,ho,hwt,if_true]
      refine one_wp hp hs hg hcall hF.eval (fun q hq=>hF.glob q (by rw[hgl];exact hq)) H h1 fun β2 w2 v' H2 S2 hv=>?_
      exact(ih (k+1) hk2 ((hF.mono S2.le).put hput hv) ((putgl hput).trans hgl) H2 hr (fun β3 a3' w3 H3 S3 hF3 hgl3=>hq β3 a3' w3 H3 (S2.trans S3) hF3 hgl3)).2
   | false=>
    simp only at hr
    cases hput:a.put o.dst undef with
    | none=>rw[hput]at hr;cases hr
    | some a3=>
     rw[hput]at hr
     simp only at hr
     have:=ih (k+1) hk2 (hF.put hput (.undef β)) ((putgl hput).trans hgl) H hr (fun β3 a3' w3 H3 S3 hF3 hgl3=>hq β3 a3' w3 H3 S3 hF3 hgl3)
     refine⟨this.1,?_⟩
     simp only[wpOpsIn,ho,hwt,zI,if_false]
     exact⟨fun _ _=>trivial,this.2⟩
end
end Go.Proofs.YtponjccgpbgnoaaGreatDoor
