/- Numbers of digits alone: strconv.ParseUint's loop, num.part's loop. -/
import Derived.Test.YtponjccgpbgnoaaGreatDoorCop
import Derived.Test.YtponjccgpbgnoaaGreatDoorSam
set_option linter.unusedVariables false
set_option linter.unusedSimpArgs false
set_option linter.unusedSectionVars false
open Int renaming ofNat→zA,ofNat_eq_natCast→zB
open Nat renaming ble→zC,blt→zE,beq→zF,ble_eq_true_of_le→zI,le_of_ble_eq_true→zL,le_refl→zM,eq_of_beq_eq_true→zN,blt_eq→zO,pow_le_pow_right→zS
open Option.some renaming injEq→zD
open List renaming take→zG,all_cons→zJ,all_nil→zK,take_length→zP,all_append→zQ
open Bool renaming and_eq_true→zH,eq_false_iff→zR,not_eq_false'→zU
open Go.IntWalk renaming i64_in→zT
namespace Go.Proofs.YtponjccgpbgnoaaGreatDoor.Se
open Go Go.Proofs.YtponjccgpbgnoaaGreatDoor Go.RowKit
set_option maxRecDepth 1000000
variable [Inhabited QI]
def isDig(c:UInt8):Bool:=zC 48 c.toNat&&zC c.toNat 57
def valN(l:List UInt8):Nat:=l.foldl (fun a c=>a*10+(c.toNat-48)) 0
def okD(l:List UInt8):Bool:=l.all isDig&&(zC 1 l.length&&zC l.length 18)
theorem dig_iff{c:UInt8}:isDig c=true↔48≤c.toNat∧c.toNat≤57:=by
 unfold isDig
 rw[zH]
 exact⟨fun h=>⟨zL h.1,zL h.2⟩,fun h=>⟨zI h.1,zI h.2⟩⟩
theorem valN_snoc(l:List UInt8)(c:UInt8):valN (l++[c])=valN l*10+(c.toNat-48):=by
 unfold valN
 rw[List.foldl_append]
 rfl
theorem valN_lt:∀(n:Nat) (l:List UInt8),l.length=n→l.all isDig=true→valN l<10 ^ n:=by
 intro n
 induction n with
 | zero=>
  intro l h _
  obtain rfl:=List.eq_nil_of_length_eq_zero h
  decide
 | succ n ih=>
  intro l h ha
  have hne:l≠[]:=by intro e;rw[e]at h;simp at h
  obtain⟨q,c,rfl⟩:∃q c,l=q++[c]:=⟨l.dropLast,l.getLast hne,(List.dropLast_concat_getLast hne).symm⟩
  rw[zQ,zH]at ha
  have h1:=ih q (by simpa using h) ha.1
  have h2:=dig_iff.1 (by simpa using ha.2)
  rw[valN_snoc,Nat.pow_succ]
  omega
theorem valN_small{l:List UInt8}(h:l.all isDig=true)(hl:l.length≤18):valN l<1000000000000000000:=by
 have h1:=valN_lt l.length l rfl h
 have h2:10 ^ l.length≤10 ^ 18:=zS (by decide) hl
 have:(10:Nat) ^ 18=1000000000000000000:=by decide
 omega
theorem valN_take{l:List UInt8}{i:Nat}(hi:i<l.length):valN (l.take (i+1))=valN (l.take i)*10+(l[i].toNat-48):=by
 rw[List.take_succ_eq_append_getElem hi,valN_snoc]
theorem all_take{l:List UInt8}(h:l.all isDig=true)(i:Nat):(l.take i).all isDig=true:=
 List.all_eq_true.2 fun x hx=>List.all_eq_true.1 h x (List.mem_of_mem_take hx)
theorem dig_at{l:List UInt8}(h:l.all isDig=true){i:Nat}(hi:i<l.length):48≤l[i].toNat∧l[i].toNat≤57:=
 dig_iff.1 (List.all_eq_true.1 h _ (List.getElem_mem hi))
abbrev puF:FuncId:=185
def puLive:List Tmp:=[101,100,99,8,1,13,10,11,12]
def puTs(e:Ex):List Tmp:=match e with|.normal=>puLive|.ret=>[6]|_=>[13,12]
def puWs:List Tmp:=[102,103,104,15,16,107,108,109,110,111,106,12,113,114,115,116,117,118,112,119,120,122,123,124,125,126,127,128,129,121,130,131,132,133,105,6,7,134,135,136,137,138,139,140,141,142,143,144,145,146,147,13,148,149,150,151,17,152,153,154,155,156,157,158,159,160,161,162,163,101]
def puVaQ(s:List UInt8)(i v:Nat):List SV:=[.int .i64 false (.ofNat i),.int .i64 false (.ofNat s.length),.nsl 0 1 false 0 s.length 0,.bool true false,.int .i64 true 10,.int .u64 false (.ofNat v),.int .u64 true 1844674407370955162,.int .u64 true 9223372036854775807,.bool true false]
def puBlQ(s:List UInt8):List SB:=[.row 1 s.length (byE s) 5]
noncomputable def puT(s:List UInt8)(i v:Nat):RT Lf:=zaJ env TB puF 32762 (zaf puF 32762) 172 puLive puTs 20 (puVaQ s i v) (puBlQ s)
def puB(s:List UInt8)(i:Nat):Nat:=(s.getD (0+i) 0).toNat
def puD(s:List UInt8)(i:Nat):Int:=IntKind.u8.wrap (zA (puB s i)-zA 48)
def puMQ(v:Nat):Int:=IntKind.u64.wrap (zA v*10)
def puN(s:List UInt8)(i v:Nat):Int:=IntKind.u64.wrap (puMQ v+IntKind.u64.wrap (puD s i))
theorem pu_stopQ(s:List UInt8)(i v:Nat):(puT s i v).follow [false]=some ([(decide (zA i<zA s.length),false)],⟨.exit 3,[.int .u64 false (.ofNat v),.bool true false],puBlQ s,[some (0,true)]⟩):=by kernel_rfl
theorem pu_nextQ(s:List UInt8)(i v:Nat):(puT s i v).follow [true,true,true,false,true,true,false,false,false,false] =
  some ([(decide (zA i<zA s.length),true),(true,true),(zE i s.length,true),(zA (puB s i)==zA 95,false),(decide (zA 48≤zA (puB s i)),true),(decide (zA (puB s i)≤zA 57),true),
    (decide (puD s i≥zA 10),false),(decide (zA v≥1844674407370955162),false),(decide (puN s i v<puMQ v),false),(decide (puN s i v>9223372036854775807),false)],
   ⟨.normal,[.int .i64 false (IntKind.i64.wrap (zA i+zA 1)),.int .i64 false (.ofNat s.length),.nsl 0 1 false 0 s.length 0,.bool true false,.int .i64 true 10,.int .u64 false (puN s i v),.int .u64 true 1844674407370955162,.int .u64 true 9223372036854775807,.bool true false],puBlQ s,[some (0,true)]⟩):=by kernel_rfl
theorem puBl_refl{K:Nat}{s:List UInt8}:WkBs K (puBlQ s) (puBlQ s):=.cons (.row byE_refl) (fun _=>by simp) .nil
theorem u64_in{n:Nat}(h:n<18446744073709551616):IntKind.u64.wrap (zA n)=zA n:=by
 show zA n % 18446744073709551616=zA n
 exact Int.emod_eq_of_lt (by simp) (by simp only[zB];omega)
theorem pu_vals{s:List UInt8}(hd:s.all isDig=true){i v:Nat}(hi:i<s.length)(hv:v<1000000000000000000) :
  puB s i=s[i].toNat∧puD s i=zA (s[i].toNat-48)∧puMQ v=zA (v*10)∧puN s i v=zA (v*10+(s[i].toNat-48)):=by
 have hb:puB s i=s[i].toNat:=by unfold puB;rw[Nat.zero_add];simp[hi]
 obtain⟨h1,h2⟩:=dig_at hd hi
 have hD:puD s i=zA (s[i].toNat-48):=by
  unfold puD
  rw[hb]
  have:(zA s[i].toNat-zA 48)=zA (s[i].toNat-48):=by simp only[zB];omega
  rw[this]
  show zA (s[i].toNat-48) % 256=_
  exact Int.emod_eq_of_lt (by simp) (by simp only[zB];omega)
 have hM:puMQ v=zA (v*10):=by
  unfold puMQ
  have:zA v*10=zA (v*10):=by simp
  rw[this]
  exact u64_in (by omega)
 refine⟨hb,hD,hM,?_⟩
 unfold puN
 rw[hD,hM,u64_in (n:=s[i].toNat-48) (by omega)]
 have:zA (v*10)+zA (s[i].toNat-48)=zA (v*10+(s[i].toNat-48)):=by simp
 rw[this]
 exact u64_in (by omega)
noncomputable def puR(K:Nat)(s:List UInt8)(hd:s.all isDig=true)(hl:s.length≤18):za5 env TB puF 32762 (zaf puF 32762) 172 puLive puTs 20 K { i:Nat // i≤s.length } where
 va i:=puVaQ s i.1 (valN (s.take i.1))
 bl i:=puBlQ s
 μ i:=s.length-i.1
 out i:=⟨.exit 3,[.int .u64 false (.ofNat (valN s)),.bool true false],puBlQ s,[some (0,true)]⟩
 tsn:=rfl
 small i:=by show 1<4000;omega
 step i:=by
  obtain⟨i,hi⟩:=i
  by_cases h:i<s.length
  .have hv:valN (s.take i)<100000000000000000:=by
    have h1:=valN_lt i (s.take i) (by simp;omega) (all_take hd i)
    have h2:10 ^ i≤10 ^ 17:=zS (by decide) (by omega)
    have:(10:Nat) ^ 17=100000000000000000:=by decide
    omega
   obtain⟨e1,e2,e3,e4⟩:=pu_vals hd h (v:=valN (s.take i)) (by omega)
   obtain⟨d1,d2⟩:=dig_at hd h
   refine⟨_,zab (pu_nextQ s i (valN (s.take i))) ?_,.inl ⟨rfl,⟨i+1,h⟩,?_,puBl_refl,by show s.length-(i+1)<s.length-i;omega,rfl,rfl,rfl,rfl⟩⟩
   .have hb:zE i s.length=true:=by simpa [zO]using h
    have t3:(zA (puB s i)==zA 95)=false:=by
     rw[e1,beq_eq_false_iff_ne]
     intro q
     simp only[zB]at q
     omega
    have t4:decide (zA 48≤zA (puB s i))=true:=by rw[e1];simp only[zB,decide_eq_true_eq];omega
    have t5:decide (zA (puB s i)≤zA 57)=true:=by rw[e1];simp only[zB,decide_eq_true_eq];omega
    have t6:decide (puD s i≥zA 10)=false:=by rw[e2];simp only[zB,decide_eq_false_iff_not];omega
    have t7:decide (zA (valN (s.take i))≥1844674407370955162)=false:=by simp only[zB,decide_eq_false_iff_not];omega
    have t8:decide (puN s i (valN (s.take i))<puMQ (valN (s.take i)))=false:=by rw[e3,e4];simp only[zB,decide_eq_false_iff_not];omega
    have t9:decide (puN s i (valN (s.take i))>9223372036854775807)=false:=by rw[e4];simp only[zB,decide_eq_false_iff_not];omega
    simp only[zJ,zK,zaV,hb,t3,t4,t5,t6,t7,t8,t9]
    rfl
   .refine .cons (.int_eq (zap (by omega))) (.cons Wk.int (.cons (Wk.nsl (zM _)) (.cons Wk.bool (.cons Wk.int (.cons (.int_eq ?_) (.cons Wk.int (.cons Wk.int (.cons Wk.bool .nil))))))))
    rw[e4,valN_take h]
  .have e:i=s.length:=by omega
   refine⟨_,zab (pu_stopQ s i (valN (s.take i))) ?_,.inr ⟨by simp,rfl,.cons (.int_eq ?_) (.cons Wk.bool .nil),puBl_refl,rfl⟩⟩
   .have hb:zE i s.length=false:=by
     rw[zR];intro q;exact h (by simpa [zO]using q)
    simp only[zJ,zK,zaV,hb]
    rfl
   .subst e
    rw[zP]
def puGQ(k:Nat)(vs:List SV)(bs:List SB):RT (Left (Ex×List (Tmp×SV))):=
 match vs,bs with
 | [.int .i64 _ (.ofNat 0),.int .i64 _ (.ofNat n),.nsl 0 1 _ 0 m 0,.bool _ false,.int .i64 _ 10,.int .u64 _ (.ofNat 0),.int .u64 _ 1844674407370955162,.int .u64 _ 9223372036854775807,.bool _ false],[.row 1 q e t]=>
  .br (zF t 5&&(zF n m&&(zF n q&&(wfR byOf n e&&((lsR byOf 0 n e).all isDig&&zC n 18)))))
   (.ret ⟨(.exit 3,[(13,.int .u64 false (.ofNat (valN (lsR byOf 0 n e)))),(12,.bool true false)]),puBlQ (lsR byOf 0 n e),[some (0,true)]⟩) .bad
 | _,_=>.bad
theorem pu_loop{F0:Fz}(hF0:∀b cs t,F0 b=some (cs,t)→t=0):SubLp F0 env spE (zaf puF 32762) 172 400 puLive puWs puGQ:=
 ⟨ws_ok (by kernel_rfl),fun F ι k h vs vs' bs b L h0 H hbs hbn hn hv hl hg=>by
  unfold puGQ at hg
  split at hg
  .rename_i c1 c2 n c3 m c4 c5 c6 c7 c8 c9 q e t
   obtain⟨hb,hg⟩:=zb5 hg
   simp only[RT.sel,zD]at hg
   subst hg
   simp only[zH]at hb
   obtain⟨b0,b1,b2,b3,b4,b5⟩:=hb
   have:=zN b0
   subst this
   have:=zN b1
   subst this
   have:=zN b2
   subst this
   have b5:=zL b5
   have hlen:(lsR byOf 0 n e).length=n:=lsR_len
   refine lp_of TB_ok hF0 (zaN (n:=172) (by kernel_rfl) (by kernel_rfl)) (by decide) (by decide) (puR (k+1) (lsR byOf 0 n e) b4 (by rw[hlen];exact b5)) ⟨0,Nat.zero_le _⟩ ?_ hbs ?_ ?_ rfl h0 H hbn hv hl
   .show 20*((lsR byOf 0 n e).length-0+1)≤_
    rw[hlen];omega
   .show WkL 0 _ (puVaQ (lsR byOf 0 n e) 0 0)
    unfold puVaQ
    rw[hlen]
    exact .cons Wk.int (.cons Wk.int (.cons (Wk.nsl (zM _)) (.cons Wk.bool (.cons Wk.int (.cons Wk.int (.cons Wk.int (.cons Wk.int (.cons Wk.bool .nil))))))))
   .show WkBs 0 _ (puBlQ (lsR byOf 0 n e))
    unfold puBlQ
    rw[hlen]
    exact .cons (.row (wfR_wk (row:=byRow) (fun r x=>by_wk) b3)) (fun _=>by simp) .nil
  .cases hg⟩
noncomputable def TPuQ:Told:=TB.withL puF 32762 (zaD 400 puLive puWs puGQ)
theorem TPu_okQ{F0:Fz}(hF0:∀b cs t,F0 b=some (cs,t)→t=0):ToldOk F0 env spE TPuQ:=zaM (n:=172) TB_ok (by kernel_rfl) (by kernel_rfl) (pu_loop hF0)
abbrev paF:FuncId:=123
def paLiveQ:List Tmp:=[4,0]
def paTsQ(e:Ex):List Tmp:=match e with|.normal=>paLiveQ|.ret=>[2]|_=>[4]
def paWsQ:List Tmp:=[9,10,11,12,13,14,15,16,17,18,19,20,21,22,23,24,25,26,4]
noncomputable def paTQ(s:List UInt8)(i:Nat):RT Lf:=zaJ env TB paF 28 (zaf paF 28) 53 paLiveQ paTsQ 20 [.int .i64 false (.ofNat i),.str false s] []
theorem pa_stop(s:List UInt8)(i:Nat):(paTQ s i).follow [false]=some ([(decide (zA i<zA s.length),false)],⟨.exit 0,[.int .i64 false (.ofNat i)],[],[]⟩):=by kernel_rfl
theorem pa_next(s:List UInt8)(i:Nat):(paTQ s i).follow [true,true,true,true,true,true,true] =
  some ([(decide (zA i<zA s.length),true),(true,true),(zE i s.length,true),(decide (zA (s.getD i 0).toNat≥zA 48),true),(true,true),(zE i s.length,true),(decide (zA (s.getD i 0).toNat≤zA 57),true)],
   ⟨.normal,[.int .i64 false (IntKind.i64.wrap (zA i+zA 1)),.str false s],[],[]⟩):=by kernel_rfl
noncomputable def paRQ(K:Nat)(s:List UInt8)(hd:s.all isDig=true)(hl:s.length≤18):za5 env TB paF 28 (zaf paF 28) 53 paLiveQ paTsQ 20 K { i:Nat // i≤s.length } where
 va i:=[.int .i64 false (.ofNat i.1),.str false s]
 bl i:=[]
 μ i:=s.length-i.1
 out i:=⟨.exit 0,[.int .i64 false (.ofNat s.length)],[],[]⟩
 tsn:=rfl
 small i:=by show 0<4000;omega
 step i:=by
  obtain⟨i,hi⟩:=i
  by_cases h:i<s.length
  .obtain⟨d1,d2⟩:=dig_at hd h
   refine⟨_,zab (pa_next s i) ?_,.inl ⟨rfl,⟨i+1,h⟩,.cons (.int_eq (zap (by omega))) (.cons Wk.str .nil),.nil,by show s.length-(i+1)<s.length-i;omega,rfl,rfl,rfl,rfl⟩⟩
   have hb:zE i s.length=true:=by simpa [zO]using h
   have eg:s.getD i 0=s[i]:=by simp[h]
   have t4:decide (zA s[i].toNat≥zA 48)=true:=by simp only[zB,decide_eq_true_eq];omega
   have t5:decide (zA s[i].toNat≤zA 57)=true:=by simp only[zB,decide_eq_true_eq];omega
   simp only[zJ,zK,zaV,hb,eg,t4,t5]
   rfl
  .have e:i=s.length:=by omega
   refine⟨_,zab (pa_stop s i) ?_,.inr ⟨by simp,rfl,.cons (.int_eq (by rw[e])) .nil,.nil,rfl⟩⟩
   have hb:zE i s.length=false:=by
    rw[zR];intro q;exact h (by simpa [zO]using q)
   simp only[zJ,zK,zaV,hb]
   rfl
def paGQ(k:Nat)(vs:List SV)(bs:List SB):RT (Left (Ex×List (Tmp×SV))):=
 match vs,bs with
 | [.int .i64 _ (.ofNat 0),.str _ s],[]=>.br (s.all isDig&&zC s.length 18) (.ret ⟨(.exit 0,[(4,.int .i64 false (.ofNat s.length))]),[],[]⟩) .bad
 | _,_=>.bad
theorem pa_loopQ{F0:Fz}(hF0:∀b cs t,F0 b=some (cs,t)→t=0):SubLp F0 env spE (zaf paF 28) 53 400 paLiveQ paWsQ paGQ:=
 ⟨ws_ok (by kernel_rfl),fun F ι k h vs vs' bs b L h0 H hbs hbn hn hv hl hg=>by
  unfold paGQ at hg
  split at hg
  .rename_i c1 c2 s
   obtain⟨hb,hg⟩:=zb5 hg
   simp only[RT.sel,zD]at hg
   subst hg
   simp only[zH]at hb
   obtain⟨b1,b2⟩:=hb
   have b2:=zL b2
   refine lp_of TB_ok hF0 (zaN (n:=53) (by kernel_rfl) (by kernel_rfl)) (by decide) (by decide) (paRQ (k+1) s b1 b2) ⟨0,Nat.zero_le _⟩ ?_ hbs (.cons Wk.int (.cons Wk.str .nil)) .nil rfl h0 H hbn hv hl
   show 20*(s.length-0+1)≤_
   omega
  .cases hg⟩
def gPu(args:List SV):RT SV:=
 match args with
 | [.str _ s,.int .i64 _ 10,.int .i64 _ 63]=>.br (okD s) (.ret (.tup [.int .u64 false (.ofNat (valN s)),.raw .nilIface])) .bad
 | _=>.bad
noncomputable def puFT(s:List UInt8):RT Lf:=fnT env TPuQ puF 1000 [.str false s,.int .i64 true 10,.int .i64 true 63] []
theorem puF_way(s:List UInt8):(puFT s).follow [false,false,true] =
  some ([(s==[],false),(zF s.length 0,false),(zF 5 5&&(zF s.length s.length&&(zF s.length s.length&&(wfR byOf s.length (byE s)&&((lsR byOf 0 s.length (byE s)).all isDig&&zC s.length 18)))),true)],
   ⟨.ret,[.tup [.int .u64 false (.ofNat (valN (lsR byOf 0 s.length (byE s)))),.raw .nilIface]],[],[]⟩):=by kernel_rfl
theorem okD_iff{s:List UInt8}:okD s=true↔s.all isDig=true∧1≤s.length∧s.length≤18:=by
 unfold okD
 rw[zH,zH]
 exact⟨fun h=>⟨h.1,zL h.2.1,zL h.2.2⟩,fun h=>⟨h.1,zI h.2.1,zI h.2.2⟩⟩
theorem pu_told{F0:Fz}(hF0:∀b cs t,F0 b=some (cs,t)→t=0):zaA F0 env spE puF 1000 gPu:=fun F k h args args' v h0 H hl hg hp=>by
 unfold gPu at hg
 split at hg
 .rename_i c1 s c2 c3
  obtain⟨hb,hg⟩:=zb5 hg
  simp only[RT.sel,zD]at hg
  subst hg
  obtain⟨b1,b2,b3⟩:=okD_iff.1 hb
  refine za3 (k:=k) (TPu_okQ hF0) hF0 rfl (zab (puF_way s) ?_) (.cons Wk.str (.cons Wk.int (.cons Wk.int .nil))) ?_ hp h0 H hl
  .have e1:(s==[])=false:=by cases s with|nil=>simp at b2|cons a l=>rfl
   have e2:zF s.length 0=false:=by
    rw[zR];intro q;have:=zN q;omega
   have e3:zC s.length 18=true:=zI b3
   simp only[zJ,zK,e1,e2,e3,wf_by,ls_by,b1]
   simp
  .refine .cons (.tup (.cons (.int_eq ?_) (.cons Wk.raw .nil))) .nil
   rw[ls_by]
 .cases hg
noncomputable def TNu:Told:=(TB.withF puF (zaq 1000 gPu)).withL paF 28 (zaD 400 paLiveQ paWsQ paGQ)
theorem TNu_ok{F0:Fz}(hF0:∀b cs t,F0 b=some (cs,t)→t=0):ToldOk F0 env spE TNu:=zaM (n:=53) (za7 TB_ok (pu_told hF0)) (by kernel_rfl) (by kernel_rfl) (pa_loopQ hF0)
abbrev getF:FuncId:=72
noncomputable def getFT(s:List UInt8):RT Lf:=fnT env TNu getF 10000 [.str false s] []
def mS(s:List UInt8):Int:=mnI (IntKind.i64.wrap (zA (Lib.countByte s 120)+zA 1)) (IntKind.i64.wrap (zA s.length+zA 1))
def w0(s:List UInt8):Int:=IntKind.i64.wrap (zA (valN (zG s.length s)))
def w1(s:List UInt8):Int:=IntKind.i64.wrap (zA 1*w0 s)
def w2(s:List UInt8):Int:=IntKind.i64.wrap (w1 s*zA 1)
def getHQ(s:List UInt8):List (Bool×Bool):=
 [(decide (0≤mS s),true),(decide (0≤mS s),true),(zC (mS s).toNat (mS s).toNat&&zC ((mS s).toNat*16) 140737488355328&&zC (mS s).toNat 9223372036854775807,true),(decide (zA 0<IntKind.i64.wrap (mS s-zA 1)),false),(zE 0 (mS s).toNat,true),(zC 1 (mS s).toNat,true),(true,true),(true,true),
  (s.all isDig&&zC s.length 18,true),(true,true),(zC s.length s.length,true),(decide (zA (zG s.length s).length>zA 19),false),(okD (zG s.length s),true),(decide (w0 s≥zA 0),true),(!decide (w0 s≤zA 4611686018427387904),false),
  (true,true),(zC s.length s.length,true),(zG (s.length-s.length) (List.drop s.length s)==[],true),(zG (s.length-s.length) (List.drop s.length s)==[],true),(decide (w0 s≥zA 0),true),(!decide (w0 s≤zA 4611686018427387904),false)]
theorem get_zero(s:List UInt8):(getFT s).follow [true,true,true,false,true,true,true,true,true,true,true,false,true,true,false,true,true,true,true,true,false,true,false] =
  some (getHQ s++[(w0 s==zA 0,true),(false,false)],⟨.ret,[.tup [.int .i64 true 0,.bool true true]],[],[]⟩):=by kernel_rfl
theorem get_some(s:List UInt8):(getFT s).follow [true,true,true,false,true,true,true,true,true,true,true,false,true,true,false,true,true,true,true,true,false,false,false,true,false,false,true,false,false,false] =
  some (getHQ s++[(w0 s==zA 0,false),(decide (w0 s>zA 4611686018427387904),false),(!decide (w1 s=0),true),(decide (zA 1>IntKind.i64.wrap ((zA 4611686018427387904).tdiv (w1 s))),false),(false,false),
    (decide (w2 s≥zA 0),true),(!decide (w2 s≤zA 4611686018427387904),false),(w2 s==zA 0,false),(decide (w2 s>zA 4611686018427387904),false)],
   ⟨.ret,[.tup [.int .i64 false (IntKind.i64.wrap (zA 1*w2 s)),.bool true true]],[],[]⟩):=by kernel_rfl
theorem mS_one{s:List UInt8}(hd:s.all isDig=true)(hl:s.length≤18):mS s=1:=by
 have hc:Lib.countByte s 120=0:=by
  unfold Lib.countByte
  rw[List.count_eq_zero]
  intro hx
  have:=dig_iff.1 (List.all_eq_true.1 hd _ hx)
  simp at this
 unfold mS
 rw[hc]
 have e1:IntKind.i64.wrap (zA 0+zA 1)=1:=by decide
 have e2:IntKind.i64.wrap (zA s.length+zA 1)=zA (s.length+1):=zap (by omega)
 rw[e1,e2]
 unfold mnI
 simp only[zB]
 split<;>omega
theorem w_vals{s:List UInt8}(hd:s.all isDig=true)(hl:s.length≤18):w0 s=zA (valN s)∧w1 s=zA (valN s)∧w2 s=zA (valN s)∧IntKind.i64.wrap (zA 1*w2 s)=zA (valN s):=by
 have hv:=valN_small hd hl
 have e:IntKind.i64.wrap (zA (valN s))=zA (valN s):=zT _ (by simp only[zB];omega)
 have e0:w0 s=zA (valN s):=by unfold w0;rw[zP];exact e
 have e1:w1 s=zA (valN s):=by unfold w1;rw[e0,show zA 1*zA (valN s)=zA (valN s) by simp];exact e
 have e2:w2 s=zA (valN s):=by unfold w2;rw[e1,show zA (valN s)*zA 1=zA (valN s) by simp];exact e
 exact⟨e0,e1,e2,by rw[e2,show zA 1*zA (valN s)=zA (valN s) by simp];exact e⟩
theorem getH_okQ{s:List UInt8}(h:okD s=true):((getHQ s).all fun p=>p.1==p.2)=true:=by
 obtain⟨hd,h1,hl⟩:=okD_iff.1 h
 obtain⟨e0,_,_,_⟩:=w_vals hd hl
 have hv:=valN_small hd hl
 have a1:decide (w0 s≥zA 0)=true:=by rw[e0];simp
 have a2:(!decide (w0 s≤zA 4611686018427387904))=false:=by rw[e0];simp only[zB,zU,decide_eq_true_eq];omega
 have a3:(zG (s.length-s.length) (List.drop s.length s)==[])=true:=by simp
 have a4:decide (zA (zG s.length s).length>zA 19)=false:=by rw[zP];simp only[zB,decide_eq_false_iff_not];omega
 have a5:okD (zG s.length s)=true:=by rw[zP];exact h
 have a6:zC s.length 18=true:=zI hl
 have a7:zC s.length s.length=true:=zI (zM _)
 unfold getHQ
 rw[mS_one hd hl]
 simp only[zJ,zK,a1,a2,a3,a4,a5,a6,a7,hd]
 decide
def gGet(args:List SV):RT SV:=
 match args with
 | [.str _ s]=>.br (okD s) (.ret (.tup [.int .i64 false (.ofNat (valN s)),.bool true true])) .bad
 | _=>.bad
theorem get_told{F0:Fz}(hF0:∀b cs t,F0 b=some (cs,t)→t=0):zaA F0 env spE getF 10000 gGet:=fun F k h args args' v h0 H hl hg hp=>by
 unfold gGet at hg
 split at hg
 .rename_i c1 s
  obtain⟨hb,hg⟩:=zb5 hg
  simp only[RT.sel,zD]at hg
  subst hg
  obtain⟨hd,h1,hln⟩:=okD_iff.1 hb
  obtain⟨e0,e1,e2,e3⟩:=w_vals hd hln
  have hv:=valN_small hd hln
  by_cases hz:valN s=0
  .refine za3 (k:=k) (TNu_ok hF0) hF0 rfl (zab (get_zero s) ?_) (.cons Wk.str .nil) (.cons (.tup (.cons (.int_eq (by rw[hz];rfl)) (.cons Wk.bool .nil))) .nil) hp h0 H hl
   rw[zQ,getH_okQ hb,e0,hz]
   decide
  .refine za3 (k:=k) (TNu_ok hF0) hF0 rfl (zab (get_some s) ?_) (.cons Wk.str .nil) (.cons (.tup (.cons (.int_eq e3) (.cons Wk.bool .nil))) .nil) hp h0 H hl
   have b1:(zA (valN s)==zA 0)=false:=by rw[beq_eq_false_iff_ne];intro q;simp only[zB]at q;omega
   have b2:decide (zA (valN s)>zA 4611686018427387904)=false:=by simp only[zB,decide_eq_false_iff_not];omega
   have b3:(!decide (zA (valN s)=0))=true:=by simp only[zB,Bool.not_eq_true',decide_eq_false_iff_not];omega
   have b4:decide (zA 1>IntKind.i64.wrap ((zA 4611686018427387904).tdiv (zA (valN s))))=false:=by
    have q:(zA 4611686018427387904).tdiv (zA (valN s))=zA (4611686018427387904 / valN s):=rfl
    have q1:1≤4611686018427387904 / valN s:=by
     rw[Nat.le_div_iff_mul_le (by omega)];omega
    have q2:4611686018427387904 / valN s≤4611686018427387904:=Nat.div_le_self _ _
    have q3:IntKind.i64.wrap (zA (4611686018427387904 / valN s))=zA (4611686018427387904 / valN s):=zT _ (by simp only[zB];omega)
    rw[q,q3]
    simp only[zB,decide_eq_false_iff_not]
    omega
   have b5:decide (zA (valN s)≥zA 0)=true:=by simp
   have b6:(!decide (zA (valN s)≤zA 4611686018427387904))=false:=by simp only[zB,zU,decide_eq_true_eq];omega
   rw[zQ,getH_okQ hb,e0,e1,e2]
   simp only[zJ,zK,b1,b2,b3,b4,b5,b6]
   rfl
 .cases hg
def kvOf(r:List SV):Option (List UInt8×List UInt8):=match r with|[.str _ k,.str _ v]=>some (k,v)|_=>none
def kv0:List UInt8×List UInt8:=([],[])
def findB(key:List UInt8):List (List UInt8×List UInt8)→Option (List UInt8)
 | []=>none
 | (k,v)::l=>match findB key l with
  | some x=>some x
  | none=>bif k==key then some v else none
def optS:Option (List UInt8)→List UInt8
 | some x=>x
 | none=>[]
def optB:Option (List UInt8)→Bool
 | some _=>true
 | none=>false
def someOr(nl:Option Bool)(n:Nat):Bool:=match nl with|some true=>true|_=>zE 0 n
def gFind(args:List SV):RT SV:=
 match args with
 | [x,.str _ key]=>(match slR 2 x with
  | some (n,nl,e)=>.br (zC n 1000000&&(wfR kvOf n e&&someOr nl n)) (.ret (.tup [.str false (optS (findB key (lsR kvOf kv0 n e))),.bool false (optB (findB key (lsR kvOf kv0 n e)))])) .bad
  | none=>.bad)
 | _=>.bad
def kvB(p:List UInt8×List UInt8):ByteArray×ByteArray:=(⟨⟨p.1⟩⟩,⟨⟨p.2⟩⟩)
theorem findR_app(key:ByteArray):∀(l m:List (ByteArray×ByteArray)),findR key (l++m)=match findR key l with|some x=>some x|none=>findR key m
 | [],m=>rfl
 | (k,v)::l,m=>by
  simp only[List.cons_append,findR]
  cases h:(k.data.toList==key.data.toList)with
  | true=>rfl
  | false=>simp only[cond_false];exact findR_app key l m
theorem found_find(key:List UInt8):∀l:List (List UInt8×List UInt8),findR ⟨⟨key⟩⟩ (l.map kvB).reverse=(findB key l).map fun x=>⟨⟨x⟩⟩
 | []=>rfl
 | (k,v)::l=>by
  rw[List.map_cons,List.reverse_cons,findR_app,found_find key l]
  have e:findB key ((k,v)::l)=match findB key l with|some x=>some x|none=>bif k==key then some v else none:=rfl
  rw[e]
  cases h:findB key l with
  | some x=>rfl
  | none=>
   simp only[Option.map_none,kvB,findR]
   cases h2:(k==key)with
   | true=>rfl
   | false=>rfl
theorem kvs_of:∀ {cs:List Value} {l:List (List UInt8×List UInt8)},cs.length=l.length*2→(∀i,(h:i<l.length)→cs[i*2]?=some (.string ⟨⟨l[i].1⟩⟩)∧cs[i*2+1]?=some (.string ⟨⟨l[i].2⟩⟩))→kvs_ cs=some (l.map kvB)
 | [],[],_,_=>rfl
 | [],p::l,h,_=>by simp at h
 | [a],l,h,_=>by
  simp only[List.length_cons,List.length_nil]at h
  omega
 | a::b::cs,[],h,_=>by simp at h
 | a::b::cs,p::l,h,hq=>by
  have h0:=hq 0 (by simp)
  simp only[Nat.zero_mul,Nat.zero_add,List.getElem?_cons_zero,List.getElem?_cons_succ,zD,List.getElem_cons_zero]at h0
  obtain⟨rfl,rfl⟩:=h0
  have ih:=kvs_of (cs:=cs) (l:=l) (by simp at h;omega) (fun i hi=>by
   have:=hq (i+1) (by simpa using hi)
   rw[show(i+1)*2=i*2+1+1 by omega]at this
   simpa using this)
  unfold kvs_
  rw[ih]
  rfl
theorem kv_inv{r:List SV}{p:List UInt8×List UInt8}(h:kvOf r=some p):∃c1 c2,r=[.str c1 p.1,.str c2 p.2]:=by
 unfold kvOf at h
 split at h
 .rename_i c1 k c2 v
  cases h
  exact⟨c1,c2,rfl⟩
 .cases h
theorem find_plain{F0:Fz}:zaA F0 env spE 69 0 gFind:=fun F k h args args' v h0 H hl hg hp=>by
 unfold gFind at hg
 split at hg
 .rename_i x c key
  split at hg
  .rename_i n nl e hx
   obtain⟨hb,hg⟩:=zb5 hg
   simp only[RT.sel,zD]at hg
   subst hg
   simp only[zH]at hb
   obtain⟨b1,b2,b3⟩:=hb
   obtain⟨y1,l1,rfl,hy1,hl2⟩:=hl.cons_inv
   obtain⟨y2,l2,rfl,hy2,hl3⟩:=hl2.cons_inv
   obtain rfl:=hl3.nil_inv
   obtain rfl:=hy2.str_inv
   have hsp:spE 69=some spFind:=by unfold spE;rfl
   have fin:∀r,spFind [y1,.string ⟨⟨key⟩⟩] h=some (found_ (r.map fun x=>⟨⟨x⟩⟩),h)→r=findB key (lsR kvOf kv0 n e)→
     ∃N v' h',(∀m,N≤m→(match spE 69 with|some q=>q [y1,.string ⟨⟨key⟩⟩] h|none=>match zae env spE m (.inr (69,[y1,.string ⟨⟨key⟩⟩])) ⟨0,0,.nil⟩ h with|.ok _ r h=>some (r.eval (.tmp 0),h)|.bad=>none)=some (v',h'))∧
      VRs (fun _=>none) Im0 (.tup [.str false (optS (findB key (lsR kvOf kv0 n e))),.bool false (optB (findB key (lsR kvOf kv0 n e)))]) v'∧h.next≤h'.next∧h'.next≤h.next+0∧∀b,b<h.next→h'.get b=h.get b:=fun r hr hq=>by
    refine⟨0,_,h,fun m _=>by rw[hsp];exact hr,?_,zM _,zM _,fun b _=>rfl⟩
    rw[←hq]
    have two:∀(s:List UInt8) (b:Bool),VRs (fun _=>none) Im0 (.tup [.str false s,.bool false b]) (.tuple ⟨[.string ⟨⟨s⟩⟩,.bool b]⟩):=fun s b=>
     .tup _ _ _ rfl fun i x y hx hy=>by
      rcases i with _|_|i
      .simp at hx hy;subst hx hy;exact .str ..
      .simp at hx hy;subst hx hy;exact .bool ..
      .simp at hx
    cases r with
    | none=>exact two [] false
    | some s=>exact two s true
   unfold slR at hx
   split at hx
   .rename_i st k' n' nl' e'
    split at hx
    .rename_i hk
     simp only[zD,Prod.mk.injEq]at hx
     obtain⟨rfl,rfl,rfl⟩:=hx
     have:=zN hk
     subst this
     cases hy1 with
     | fsl _ _ _ _ _ _ b o cs t cap f1 f2 f3 f4 f5 f6 f7=>
      obtain⟨_,_,_,e2,x2,ro2,hget⟩:=H.frz b cs t f1
      have hld:zaj h ⟨b,o,none⟩ (n'*2)=some ((cs.drop o).take (n'*2)):=by
       unfold zaj
       simp only[hget]
       exact zc6 (by omega)
      have hlen:(lsR kvOf kv0 n' e').length=n':=lsR_len
      have hz:kvs_ ((cs.drop o).take (n'*2))=some ((lsR kvOf kv0 n' e').map kvB):=by
       refine kvs_of (by rw[hlen];simp;omega) fun i hi=>?_
       rw[hlen]at hi
       unfold wfR at b2
       have hw:=List.all_eq_true.1 b2 i (by simpa using hi)
       obtain⟨p,hp2⟩:=Option.isSome_iff_exists.1 hw
       have ep0:(lsR kvOf kv0 n' e')[i]?=some p:=by
        unfold lsR
        simp[hi,hp2]
       have ep:=(List.getElem?_eq_some_iff.1 ep0).2
       obtain⟨c1,c2,er⟩:=kv_inv hp2
       rw[ep]
       have at_:∀j,j<2→((cs.drop o).take (n'*2))[i*2+j]?=cs[o+i*2+j]?:=fun j hj=>by
        rw[List.getElem?_take,if_pos (by omega),List.getElem?_drop,show o+(i*2+j)=o+i*2+j by omega]
       have some_:∀j,j<2→∃y,cs[o+i*2+j]?=some y:=fun j hj=>⟨_,List.getElem?_eq_getElem (by omega)⟩
       obtain⟨u0,hu0⟩:=some_ 0 (by omega)
       obtain⟨u1,hu1⟩:=some_ 1 (by omega)
       have r0:=f7 i 0 (.str c1 p.1) u0 hi (by rw[er];rfl) hu0
       have r1:=f7 i 1 (.str c2 p.2) u1 hi (by rw[er];rfl) hu1
       have a0:=at_ 0 (by omega)
       have a1:=at_ 1 (by omega)
       rw[hu0,r0.str_inv]at a0
       rw[hu1,r1.str_inv]at a1
       exact⟨a0,a1⟩
      refine fin (findB key (lsR kvOf kv0 n' e')) ?_ rfl
      unfold spFind
      simp only[b1,hld,hz]
      rw[found_find]
     | fslN _ _ _ _ _ f1=>exact fin none rfl (by unfold lsR;rfl)
     | fslE _ _ _ _ _ f1=>
      rcases f1 with rfl|rfl<;>(unfold someOr at b3;simp at b3)
    .cases hx
   .simp only[zD,Prod.mk.injEq]at hx
    obtain⟨rfl,rfl,rfl⟩:=hx
    obtain⟨rfl,_⟩:=hy1.raw_inv
    exact fin none rfl (by unfold lsR;rfl)
   .cases hx
  .cases hg
 .cases hg
abbrev newF:FuncId:=8
def stN(n:Int):Sto:=⟨mnI (mxI n 0) 4096,⟨[],[]⟩,⟨[],[]⟩,[],0,-1,false⟩
noncomputable def nwT(n:Int):RT Lf:=fnZ false env TPu newF 100 [.int .i64 false n] []
theorem nw_way(n:Int):(nwT n).follow []=some ([],⟨.ret,[.ptr 0 9 true 0 0],[.lst 9 [[.int .i64 false (mnI (mxI n 0) 4096),.raw (.slice none 0 0),.raw (.slice none 0 0),.raw (.slice none 0 0),.raw (.slice none 0 0),.raw (.slice none 0 0),.int .i64 true 0,.int .i64 true (-1),.bool true false]] stT],[]⟩):=by kernel_rfl
def nwDec(a:List SV)(b:List SB):Option Int:=match a,b with|[.int .i64 _ n],[]=>some n|_,_=>none
noncomputable def gNew0:=gSub nwDec (fun _=>true) fun k n=>⟨.ptr 0 9 true 0 0,[.lst 9 [rowS (k+1) (stN n)] stT],[]⟩
noncomputable def gNew:=gSub nwDec (fun _=>true) fun k n=>⟨.ptr 0 9 true 0 0,bsS (k+1) (stN n),[]⟩
theorem new_told0{F0:Fz}(hF0:∀b cs t,F0 b=some (cs,t)→t=0):SubOk F0 env spE newF 100 gNew0:=zaF (z:=false) (TPu_ok hF0) hF0 rfl fun K a b r hr hp=>by
 unfold nwDec at hr
 split at hr
 .rename_i c n
  injection hr with hr;subst hr
  refine⟨_,_,_,.cons Wk.int .nil,.nil,zab (nw_way n) zac,.cons Wk.ptr .nil,.cons (.lst1 ?_) (fun _=>nofun) .nil,rfl⟩
  exact .cons Wk.int (.cons (Wk.nil_fsl (.inl rfl)) (.cons (Wk.nil_fsl (.inl rfl)) (.cons (Wk.nil_fsl (.inl rfl)) (.cons (Wk.nil_fsl (.inl rfl)) (.cons (Wk.nil_nsl (zM _)) (.cons Wk.int (.cons Wk.int (.cons Wk.bool .nil))))))))
 .cases hr
theorem new_told{F0:Fz}(hF0:∀b cs t,F0 b=some (cs,t)→t=0):SubOk F0 env spE newF 100 gNew:=(new_told0 hF0).phantom fun k a b L2 h=>by
 unfold gNew gSub at h
 unfold gNew0 gSub
 split at h
 .rename_i r hr
  simp only[RT.sel,cond_true,zD]at h
  subst h
  exact⟨⟨.ptr 0 9 true 0 0,[.lst 9 [rowS (k+1) (stN r)] stT],[]⟩,8,cOp.e (k+1) [],opT,rfl,by show 1+1<4000;omega,rfl,rfl,rfl⟩
 .cases h
noncomputable def TNw:Told:=TPu.withF newF (zan 100 [] gNew)
theorem TNw_ok{F0:Fz}(hF0:∀b cs t,F0 b=some (cs,t)→t=0):ToldOk F0 env spE TNw:=zal (TPu_ok hF0) (new_told hF0)
def gTrue(args:List SV):RT SV:=match args with|[]=>.ret (.bool true true)|_=>.bad
theorem run_plain{F0:Fz}{f:FuncId}(hsp:spE f=some (spRun f))(ht:TrueRun f):zaA F0 env spE f 0 gTrue:=zdp (q:=spRun f) hsp fun F args args' v h hl hs=>by
 unfold gTrue at hs
 split at hs
 .obtain rfl:=hl.nil_inv
  have hv:=(Option.some.inj hs).symm
  subst hv
  exact⟨.bool true,by unfold spRun;simp only[if_pos ht],.bool ..⟩
 .cases hs
def kvK(r:List SV):Bool:=match r with|[.str true _,.str true _]=>true|_=>false
def allK(n:Nat)(e:Nat→List SV):Bool:=(List.range n).all fun i=>kvK (e i)
def gFindK(args:List SV):RT SV:=
 match args with
 | [x,.str c key]=>(match slR 2 x with
  | some (n,nl,e)=>.br (zC n 1000000&&(wfR kvOf n e&&someOr nl n)) (.ret (.tup [.str (c&&allK n e) (optS (findB key (lsR kvOf kv0 n e))),.bool (c&&allK n e) (optB (findB key (lsR kvOf kv0 n e)))])) .bad
  | none=>.bad)
 | _=>.bad
theorem find_plainK{F0:Fz}:zaA F0 env spE 69 0 gFindK:=fun F k h args args' v h0 H hl hg hp=>by
 obtain⟨v2,e1,e2,e3⟩:∃v2,(gFind args).sel=some v2∧plainT_ v2=true∧∀w,VRs (fun _=>none) Im0 v2 w→VRs (fun _=>none) Im0 v w:=by
  unfold gFindK at hg
  split at hg
  .rename_i x c key
   split at hg
   .rename_i n nl e hx
    obtain⟨hb,hg⟩:=zb5 hg
    simp only[RT.sel,zD]at hg
    subst hg
    refine⟨.tup [.str false (optS (findB key (lsR kvOf kv0 n e))),.bool false (optB (findB key (lsR kvOf kv0 n e)))],?_,rfl,fun w hw=>?_⟩
    .unfold gFind
     simp only[hx,hb]
     rfl
    .obtain⟨l',rfl,L⟩:=hw.tup_inv
     obtain⟨z1,l1,rfl,z2,L⟩:=L.cons_inv
     obtain⟨z3,l2,rfl,z4,L⟩:=L.cons_inv
     obtain rfl:=L.nil_inv
     rw[z2.str_inv,z4.bool_inv]
     exact VRs.tup_of (.cons (.str ..) (.cons (.bool ..) (.nil ..)))
   .cases hg
  .cases hg
 obtain⟨N,v',h',q1,q2,q3⟩:=find_plain F k h args args' v2 h0 H hl e1 e2
 exact⟨N,v',h',q1,e3 _ q2,q3⟩
end Go.Proofs.YtponjccgpbgnoaaGreatDoor.Se
