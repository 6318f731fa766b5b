/- num.Dec of small numbers, told. -/
import Derived.Test.YtponjccgpbgnoaaGreatDoorRight
set_option linter.unusedVariables false
set_option linter.unusedSimpArgs false
set_option linter.unusedSectionVars false
open Int renaming ofNat→zA,ofNat_eq_natCast→zB
open Nat renaming blt→zC,ble→zD,ble_eq_true_of_le→zO
open Bool renaming and_eq_true→zE,and_eq_false_iff→zQ
open List renaming take→zF,drop→zG,foldl_cons→zH,map_cons→zI,map_nil→zJ,all_cons→zK,all_nil→zL,foldl_nil→zN,range→zP
open Option.some renaming inj→zM
namespace Go.Proofs.YtponjccgpbgnoaaGreatDoor.Se
open Go Go.Proofs.YtponjccgpbgnoaaGreatDoor Go.RowKit
set_option maxRecDepth 1000000
variable [Inhabited QI]
def gNd(args:List SV):RT SV:=
 match args with
 | [.int .u64 _ u]=>.br (decide (100≤u)&&decide (u<1000)) (.ret (.int .i64 true 3)) (.br (decide (1000≤u)&&decide (u<10000)) (.ret (.int .i64 true 4)) (.br (decide (10000≤u)&&decide (u<100000)) (.ret (.int .i64 true 5)) .bad))
 | _=>.bad
theorem nd_plain{F0:Fz}(hP:F0 Tryz.powG=some (powC,0)):zaA F0 env spE 169 0 gNd:=fun F k h args args' v h0 H hl hg hp=>by
 unfold gNd at hg
 split at hg
 .rename_i c u
  have hsp:spE 169=some spNd:=by unfold spE;rfl
  have ha:args'=[.int .u64 u]:=by
   obtain⟨y,l,e,hy,hl2⟩:=hl.cons_inv
   rw[e,hl2.nil_inv,hy.int_inv]
  obtain⟨_,_,_,e2,x2,ro2,hget⟩:=H.frz _ _ _ (h0 _ _ hP)
  have key:∀(n d:Nat),u=zA n→1≤n→n<100000→Lib.nDigits n=d→v=.int .i64 true (.ofNat d)→
    ∃N v' h',(∀m,N≤m→(match spE 169 with|some q=>q args' h|none=>match zae env spE m (.inr (169,args')) ⟨0,0,.nil⟩ h with|.ok _ r h=>some (r.eval (.tmp 0),h)|.bad=>none)=some (v',h'))∧
     VRs (fun _=>none) Im0 v v'∧h.next≤h'.next∧h'.next≤h.next+0∧∀b,b<h.next→h'.get b=h.get b:=by
   rintro n d rfl h1 h2 h3 rfl
   refine⟨0,.int .i64 (Lib.nDigits n),h,fun m _=>?_,by rw[h3];exact .int ..,Nat.le_refl _,Nat.le_refl _,fun b _=>rfl⟩
   rw[hsp,ha]
   show spNd [.int .u64 (zA n)] h=_
   unfold spNd
   simp only
   rw[if_pos ⟨⟨e2,x2,ro2,hget⟩,h1,by omega⟩]
  have nn:∀ {lo:Int},0≤lo→lo≤u→∃n:Nat,u=zA n:=fun h1 h2=>⟨u.toNat,by simp only[zB];omega⟩
  rcases cond_sel (c:=false) hg with⟨hb,g1⟩|⟨_,g1⟩
  .have g2:v=.int .i64 true (.ofNat 3):=(zM g1).symm
   simp only[zE,decide_eq_true_eq]at hb
   obtain⟨n,e⟩:=nn (lo:=100) (by omega) hb.1
   rw[e]at hb
   simp only[zB]at hb
   exact key n 3 e (by omega) (by omega) (Lib.nDigits_unique 2 n (by omega) (by omega)) g2
  .rcases cond_sel (c:=false) g1 with⟨hb,g1⟩|⟨_,g1⟩
   .have g2:v=.int .i64 true (.ofNat 4):=(zM g1).symm
    simp only[zE,decide_eq_true_eq]at hb
    obtain⟨n,e⟩:=nn (lo:=1000) (by omega) hb.1
    rw[e]at hb
    simp only[zB]at hb
    exact key n 4 e (by omega) (by omega) (Lib.nDigits_unique 3 n (by omega) (by omega)) g2
   .obtain⟨hb,g1⟩:=zb5 g1
    have g2:v=.int .i64 true (.ofNat 5):=(zM g1).symm
    simp only[zE,decide_eq_true_eq]at hb
    obtain⟨n,e⟩:=nn (lo:=10000) (by omega) hb.1
    rw[e]at hb
    simp only[zB]at hb
    exact key n 5 e (by omega) (by omega) (Lib.nDigits_unique 4 n (by omega) (by omega)) g2
 .cases hg
noncomputable def TNd:Told:=TB.withF 169 (zaq 0 gNd)
theorem TNd_ok{F0:Fz}(hP:F0 Tryz.powG=some (powC,0)):ToldOk F0 env spE TNd:=za7 TB_ok (nd_plain hP)
abbrev decF:FuncId:=22
noncomputable def decFT(n:Nat):RT Lf:=fnT env TNd decF 1000 [.int .i64 false (.ofNat n)] []
def tab:List UInt8:=[48,48,48,49,48,50,48,51,48,52,48,53,48,54,48,55,48,56,48,57,49,48,49,49,49,50,49,51,49,52,49,53,49,54,49,55,49,56,49,57,50,48,50,49,50,50,50,51,50,52,50,53,50,54,50,55,50,56,50,57,51,48,51,49,51,50,51,51,51,52,51,53,51,54,51,55,51,56,51,57,52,48,52,49,52,50,52,51,52,52,52,53,52,54,52,55,52,56,52,57,53,48,53,49,53,50,53,51,53,52,53,53,53,54,53,55,53,56,53,57,54,48,54,49,54,50,54,51,54,52,54,53,54,54,54,55,54,56,54,57,55,48,55,49,55,50,55,51,55,52,55,53,55,54,55,55,55,56,55,57,56,48,56,49,56,50,56,51,56,52,56,53,56,54,56,55,56,56,56,57,57,48,57,49,57,50,57,51,57,52,57,53,57,54,57,55,57,56,57,57]
def d36:List UInt8:=[48,49,50,51,52,53,54,55,56,57,97,98,99,100,101,102,103,104,105,106,107,108,109,110,111,112,113,114,115,116,117,118,119,120,121,122]
def uS(n:Nat):Int:=IntKind.u32.wrap (IntKind.u64.wrap (zA n))
def loA(n:Nat):Int:=IntKind.u32.wrap ((uS n).tmod 100*2)
def loA1(n:Nat):Int:=IntKind.u32.wrap (loA n+1)
def hiA(n:Nat):Int:=IntKind.u8.wrap (IntKind.u32.wrap (48+IntKind.u32.wrap ((uS n).tdiv 100)))
def mS4(n:Nat):Int:=(uS n).tmod 10000
def loB(n:Nat):Int:=IntKind.u32.wrap ((mS4 n).tmod 100*2)
def loB1(n:Nat):Int:=IntKind.u32.wrap (loB n+1)
def miB(n:Nat):Int:=IntKind.u32.wrap (IntKind.u32.wrap ((mS4 n).tdiv 100)*2)
def miB1(n:Nat):Int:=IntKind.u32.wrap (miB n+1)
def hiB(n:Nat):Int:=IntKind.u8.wrap (IntKind.u32.wrap (48+IntKind.u32.wrap ((uS n).tdiv 10000)))
def bI(x:Int):UInt8:=byteOf [.int .u8 false x]
def bT(x:Int):UInt8:=bI (zA (tab.getD x.toNat 0).toNat)
def s1(n:Nat):Int:=IntKind.i64.wrap (zA n+1)
def s2(n:Nat):Int:=IntKind.i64.wrap (zA n*2)
def s3(n:Nat):Int:=IntKind.i64.wrap (s2 n+2)
def c3(n:Nat):Bool:=decide (100≤IntKind.u64.wrap (zA n))&&decide (IntKind.u64.wrap (zA n)<1000)
def c4(n:Nat):Bool:=decide (1000≤IntKind.u64.wrap (zA n))&&decide (IntKind.u64.wrap (zA n)<10000)
def c5(n:Nat):Bool:=decide (10000≤IntKind.u64.wrap (zA n))&&decide (IntKind.u64.wrap (zA n)<100000)
theorem dec1_way(n:Nat):(decFT n).follow [true,true,true,true,true,true,true]=some ([(true,true),(decide (zA n<100),true),(decide (zA n<10),true),(decide (0≤s1 n),true),(zD (s1 n).toNat 36,true),(true,true),(zD n (s1 n).toNat,true)],
  ⟨.ret,[.str false (zF ((s1 n).toNat-n) (zG n d36))],[],[]⟩):=by kernel_rfl
theorem dec2_way(n:Nat):(decFT n).follow [true,true,false,true,true,true,true]=some ([(true,true),(decide (zA n<100),true),(decide (zA n<10),false),(decide (0≤s3 n),true),(zD (s3 n).toNat 200,true),(decide (0≤s2 n),true),(zD (s2 n).toNat (s3 n).toNat,true)],
  ⟨.ret,[.str false (zF ((s3 n).toNat-(s2 n).toNat) (zG (s2 n).toNat tab))],[],[]⟩):=by kernel_rfl
theorem dec3_way(n:Nat):(decFT n).follow [true,false,false,true,true,true,true,true,false,true]=some ([(true,true),(decide (zA n<100),false),(false,false),(c3 n,true),(decide (0≤loA1 n),true),(zC (loA1 n).toNat 200,true),(decide (0≤loA n),true),(zC (loA n).toNat 200,true),(false,false),(true,true)],
  ⟨.ret,[.str false [bI (hiA n),bT (loA n),bT (loA1 n)]],[],[]⟩):=by kernel_rfl
theorem dec4_way(n:Nat):(decFT n).follow [true,false,false,false,true,true,true,true,true,true,true,true,true,false,true]=some ([(true,true),(decide (zA n<100),false),(false,false),(c3 n,false),(c4 n,true),(decide (0≤loB1 n),true),(zC (loB1 n).toNat 200,true),(decide (0≤loB n),true),(zC (loB n).toNat 200,true),
   (decide (0≤miB1 n),true),(zC (miB1 n).toNat 200,true),(decide (0≤miB n),true),(zC (miB n).toNat 200,true),(false,false),(true,true)],
  ⟨.ret,[.str false [bT (miB n),bT (miB1 n),bT (loB n),bT (loB1 n)]],[],[]⟩):=by kernel_rfl
theorem dec5_way(n:Nat):(decFT n).follow [true,false,false,false,false,true,true,true,true,true,true,true,true,true,false,true]=some ([(true,true),(decide (zA n<100),false),(false,false),(c3 n,false),(c4 n,false),(c5 n,true),(decide (0≤loB1 n),true),(zC (loB1 n).toNat 200,true),(decide (0≤loB n),true),(zC (loB n).toNat 200,true),
   (decide (0≤miB1 n),true),(zC (miB1 n).toNat 200,true),(decide (0≤miB n),true),(zC (miB n).toNat 200,true),(false,false),(true,true)],
  ⟨.ret,[.str false [bI (hiB n),bT (miB n),bT (miB1 n),bT (loB n),bT (loB1 n)]],[],[]⟩):=by kernel_rfl
def dg(d:Nat):UInt8:=UInt8.ofNat (48+d)
def decN(n:Nat):List UInt8:=
 if n<10 then [dg n]
 else if n<100 then [dg (n / 10),dg (n % 10)]
 else if n<1000 then [dg (n / 100),dg (n % 100 / 10),dg (n % 100 % 10)]
 else if n<10000 then [dg (n % 10000 / 100 / 10),dg (n % 10000 / 100 % 10),dg (n % 10000 % 100 / 10),dg (n % 10000 % 100 % 10)]
 else [dg (n / 10000),dg (n % 10000 / 100 / 10),dg (n % 10000 / 100 % 10),dg (n % 10000 % 100 / 10),dg (n % 10000 % 100 % 10)]
theorem dg_nat{d:Nat}(h:d<10):(dg d).toNat=48+d:=by
 unfold dg
 simp only[UInt8.toNat_ofNat']
 omega
theorem dg_dig{d:Nat}(h:d<10):isDig (dg d)=true:=dig_iff.2 (by rw[dg_nat h];omega)
theorem dec_ok{n:Nat}(h:n<100000):okD (decN n)=true∧valN (decN n)=n:=by
 have all:∀l:List Nat,(∀d,d∈l→d<10)→1≤l.length→l.length≤18→okD (l.map dg)=true∧valN (l.map dg)=l.foldl (fun a d=>a*10+d) 0:=fun l hl h1 h2=>by
  refine⟨okD_iff.2 ⟨List.all_eq_true.2 fun x hx=>?_,by simpa using h1,by simpa using h2⟩,?_⟩
  .obtain⟨d,hd,rfl⟩:=List.mem_map.1 hx
   exact dg_dig (hl d hd)
  .unfold valN
   rw[List.foldl_map]
   have:∀(l:List Nat) (a:Nat),(∀d,d∈l→d<10)→l.foldl (fun a d=>a*10+((dg d).toNat-48)) a=l.foldl (fun a d=>a*10+d) a:=by
    intro l
    induction l with
    | nil=>intro a _;rfl
    | cons d l ih=>
     intro a hl
     simp only[zH]
     rw[dg_nat (hl d (by simp)),show 48+d-48=d by omega]
     exact ih _ fun x hx=>hl x (by simp[hx])
   exact this l 0 hl
 unfold decN
 split
 .obtain⟨a,b⟩:=all [n] (by simp;omega) (by simp) (by simp)
  refine⟨a,?_⟩
  simp only[zI,zJ]at b
  rw[b]
  simp
 .split
  .obtain⟨a,b⟩:=all [n / 10,n % 10] (by simp;omega) (by simp) (by simp)
   refine⟨a,?_⟩
   simp only[zI,zJ]at b
   rw[b]
   simp only[zH,zN]
   omega
  .split
   .obtain⟨a,b⟩:=all [n / 100,n % 100 / 10,n % 100 % 10] (by simp;omega) (by simp) (by simp)
    refine⟨a,?_⟩
    simp only[zI,zJ]at b
    rw[b]
    simp only[zH,zN]
    omega
   .split
    .obtain⟨a,b⟩:=all [n % 10000 / 100 / 10,n % 10000 / 100 % 10,n % 10000 % 100 / 10,n % 10000 % 100 % 10] (by simp;omega) (by simp) (by simp)
     refine⟨a,?_⟩
     simp only[zI,zJ]at b
     rw[b]
     simp only[zH,zN]
     omega
    .obtain⟨a,b⟩:=all [n / 10000,n % 10000 / 100 / 10,n % 10000 / 100 % 10,n % 10000 % 100 / 10,n % 10000 % 100 % 10] (by simp;omega) (by simp) (by simp)
     refine⟨a,?_⟩
     simp only[zI,zJ]at b
     rw[b]
     simp only[zH,zN]
     omega
theorem tab_all:(zP 100).all (fun r=>tab.getD (r*2) 0==dg (r / 10)&&tab.getD (r*2+1) 0==dg (r % 10))=true:=by kernel_rfl
theorem tab_at{r:Nat}(h:r<100):tab.getD (r*2) 0=dg (r / 10)∧tab.getD (r*2+1) 0=dg (r % 10):=by
 have:=List.all_eq_true.1 tab_all r (by simpa using h)
 simpa using this
theorem small1:(zP 10).all (fun n=>zF 1 (zG n d36)==[dg n])=true:=by kernel_rfl
theorem small2:(zP 100).all (fun n=>zF 2 (zG (n*2) tab)==[dg (n / 10),dg (n % 10)])=true:=by kernel_rfl
theorem u32_in{n:Nat}(h:n<4294967296):IntKind.u32.wrap (zA n)=zA n:=by
 show zA n % 4294967296=zA n
 exact Int.emod_eq_of_lt (by simp) (by simp only[zB];omega)
theorem u8_in{n:Nat}(h:n<256):IntKind.u8.wrap (zA n)=zA n:=by
 show zA n % 256=zA n
 exact Int.emod_eq_of_lt (by simp) (by simp only[zB];omega)
theorem zb2{n:Nat}(h:n<1099511627776):IntKind.i64.wrap (zA n)=zA n:=IntWalk.i64_in _ (by simp only[zB];omega)
theorem uS_eq{n:Nat}(h:n<100000):uS n=zA n:=by
 unfold uS
 rw[u64_in (by omega),u32_in (by omega)]
theorem bI_nat{n:Nat}:bI (zA n)=UInt8.ofNat n:=rfl
theorem bT_eq{r:Nat}(h:r<100):bT (zA (r*2))=dg (r / 10)∧bT (zA (r*2+1))=dg (r % 10):=by
 obtain⟨h1,h2⟩:=tab_at h
 unfold bT
 have e1:(zA (r*2)).toNat=r*2:=rfl
 have e2:(zA (r*2+1)).toNat=r*2+1:=rfl
 rw[e1,e2,h1,h2,bI_nat,bI_nat]
 exact⟨UInt8.ofNat_toNat,UInt8.ofNat_toNat⟩
theorem two_of{r:Nat}(h:r<100):IntKind.u32.wrap (zA r*2)=zA (r*2)∧IntKind.u32.wrap (zA (r*2)+1)=zA (r*2+1):=by
 refine⟨?_,?_⟩
 .rw[show zA r*2=zA (r*2) by simp];exact u32_in (by omega)
 .rw[show zA (r*2)+1=zA (r*2+1) by simp];exact u32_in (by omega)
theorem hi_of{d:Nat}(h:d<10):IntKind.u8.wrap (IntKind.u32.wrap (48+IntKind.u32.wrap (zA d)))=zA (48+d):=by
 rw[u32_in (by omega),show(48:Int)+zA d=zA (48+d) by simp,u32_in (by omega),u8_in (by omega)]
theorem tests_i{r:Nat}(h:r<100):decide (0≤zA (r*2))=true∧decide (0≤zA (r*2+1))=true∧zC (zA (r*2)).toNat 200=true∧zC (zA (r*2+1)).toNat 200=true:=by
 refine⟨zcb _,zcb _,?_,?_⟩
 .show zC (r*2) 200=true
  simp[Nat.blt_eq];omega
 .show zC (r*2+1) 200=true
  simp[Nat.blt_eq];omega
def gDec(args:List SV):RT SV:=
 match args with
 | [.int .i64 _ x]=>.br (decide (0≤x)&&decide (x<100000)) (.ret (.str false (decN x.toNat))) .bad
 | _=>.bad
theorem dec_tree{n:Nat}(h:n<100000):(decFT n).sel=some ⟨.ret,[.str false (decN n)],[],[]⟩:=by
 have eu:=uS_eq h
 have e64:IntKind.u64.wrap (zA n)=zA n:=u64_in (by omega)
 by_cases h1:n<10
 .have hv:decN n=[dg n]:=by unfold decN;rw[if_pos h1]
  have q1:s1 n=zA (n+1):=by unfold s1;rw[show zA n+1=zA (n+1) by simp];exact zb2 (by omega)
  have q2:=List.all_eq_true.1 small1 n (by simpa using h1)
  have q3:zF ((s1 n).toNat-n) (zG n d36)=[dg n]:=by
   rw[q1,show(zA (n+1)).toNat-n=1 by simp only[zB,Int.toNat_natCast];omega]
   simpa using q2
  have w:=dec1_way n
  rw[q3]at w
  rw[hv]
  refine zab w ?_
  have t1:decide (zA n<100)=true:=by simp only[zB,decide_eq_true_eq];omega
  have t2:decide (zA n<10)=true:=by simp only[zB,decide_eq_true_eq];omega
  have t3:zD (zA (n+1)).toNat 36=true:=zO (by show n+1≤36;omega)
  have t4:zD n (zA (n+1)).toNat=true:=zO (by show n≤n+1;omega)
  rw[q1]
  simp only[zK,zL,t1,t2,t3,t4]
  rfl
 .by_cases h2:n<100
  .have hv:decN n=[dg (n / 10),dg (n % 10)]:=by unfold decN;rw[if_neg h1,if_pos h2]
   have q1:s2 n=zA (n*2):=by unfold s2;rw[show zA n*2=zA (n*2) by simp];exact zb2 (by omega)
   have q1':s3 n=zA (n*2+2):=by unfold s3;rw[q1,show zA (n*2)+2=zA (n*2+2) by simp];exact zb2 (by omega)
   have q2:=List.all_eq_true.1 small2 n (by simpa using h2)
   have q3:zF ((s3 n).toNat-(s2 n).toNat) (zG (s2 n).toNat tab)=[dg (n / 10),dg (n % 10)]:=by
    rw[q1,q1',show(zA (n*2+2)).toNat-(zA (n*2)).toNat=2 by simp only[zB,Int.toNat_natCast];omega]
    show zF 2 (zG (n*2) tab)=_
    simpa using q2
   have w:=dec2_way n
   rw[q3]at w
   rw[hv]
   refine zab w ?_
   have t1:decide (zA n<100)=true:=by simp only[zB,decide_eq_true_eq];omega
   have t2:decide (zA n<10)=false:=by simp only[zB,decide_eq_false_iff_not];omega
   have t3:zD (zA (n*2+2)).toNat 200=true:=zO (by show n*2+2≤200;omega)
   have t4:zD (zA (n*2)).toNat (zA (n*2+2)).toNat=true:=zO (by show n*2≤n*2+2;omega)
   rw[q1,q1']
   simp only[zK,zL,t1,t2,t3,t4]
   rfl
  .have t1:decide (zA n<100)=false:=by simp only[zB,decide_eq_false_iff_not];omega
   by_cases h3:n<1000
   .have hr:n % 100<100:=Nat.mod_lt _ (by decide)
    have a0:loA n=zA (n % 100*2):=by
     unfold loA;rw[eu,show(zA n).tmod 100=zA (n % 100)from rfl];exact(two_of hr).1
    have a1:loA1 n=zA (n % 100*2+1):=by unfold loA1;rw[a0];exact(two_of hr).2
    have a2:hiA n=zA (48+n / 100):=by
     unfold hiA;rw[eu,show(zA n).tdiv 100=zA (n / 100)from rfl];exact hi_of (by omega)
    have hv:decN n=[bI (hiA n),bT (loA n),bT (loA1 n)]:=by
     unfold decN
     rw[if_neg h1,if_neg h2,if_pos h3,a0,a1,a2,(bT_eq hr).1,(bT_eq hr).2]
     rfl
    rw[hv]
    refine zab (dec3_way n) ?_
    have t2:c3 n=true:=by unfold c3;rw[e64];simp only[zB,zE,decide_eq_true_eq];omega
    obtain⟨p1,p2,p3,p4⟩:=tests_i hr
    rw[a0,a1]
    simp only[zK,zL,t1,t2,p1,p2,p3,p4]
    rfl
   .have hm:mS4 n=zA (n % 10000):=by unfold mS4;rw[eu];rfl
    have hr:n % 10000 % 100<100:=Nat.mod_lt _ (by decide)
    have hq:n % 10000 / 100<100:=by omega
    have a0:loB n=zA (n % 10000 % 100*2):=by
     unfold loB;rw[hm,show(zA (n % 10000)).tmod 100=zA (n % 10000 % 100)from rfl];exact(two_of hr).1
    have a1:loB1 n=zA (n % 10000 % 100*2+1):=by unfold loB1;rw[a0];exact(two_of hr).2
    have a2:miB n=zA (n % 10000 / 100*2):=by
     unfold miB;rw[hm,show(zA (n % 10000)).tdiv 100=zA (n % 10000 / 100)from rfl,u32_in (by omega)];exact(two_of hq).1
    have a3:miB1 n=zA (n % 10000 / 100*2+1):=by unfold miB1;rw[a2];exact(two_of hq).2
    obtain⟨p1,p2,p3,p4⟩:=tests_i hr
    obtain⟨p5,p6,p7,p8⟩:=tests_i hq
    have f3:c3 n=false:=by
     unfold c3;rw[e64,zQ];right;simp only[zB,decide_eq_false_iff_not];omega
    by_cases h4:n<10000
    .have hv:decN n=[bT (miB n),bT (miB1 n),bT (loB n),bT (loB1 n)]:=by
      unfold decN
      rw[if_neg h1,if_neg h2,if_neg h3,if_pos h4,a0,a1,a2,a3,(bT_eq hr).1,(bT_eq hr).2,(bT_eq hq).1,(bT_eq hq).2]
     rw[hv]
     refine zab (dec4_way n) ?_
     have t2:c4 n=true:=by unfold c4;rw[e64];simp only[zB,zE,decide_eq_true_eq];omega
     rw[a0,a1,a2,a3]
     simp only[zK,zL,t1,t2,f3,p1,p2,p3,p4,p5,p6,p7,p8]
     rfl
    .have a4:hiB n=zA (48+n / 10000):=by
      unfold hiB;rw[eu,show(zA n).tdiv 10000=zA (n / 10000)from rfl];exact hi_of (by omega)
     have hv:decN n=[bI (hiB n),bT (miB n),bT (miB1 n),bT (loB n),bT (loB1 n)]:=by
      unfold decN
      rw[if_neg h1,if_neg h2,if_neg h3,if_neg h4,a0,a1,a2,a3,a4,(bT_eq hr).1,(bT_eq hr).2,(bT_eq hq).1,(bT_eq hq).2]
      rfl
     rw[hv]
     refine zab (dec5_way n) ?_
     have f4:c4 n=false:=by
      unfold c4;rw[e64,zQ];right;simp only[zB,decide_eq_false_iff_not];omega
     have t2:c5 n=true:=by unfold c5;rw[e64];simp only[zB,zE,decide_eq_true_eq];omega
     rw[a0,a1,a2,a3]
     simp only[zK,zL,t1,t2,f3,f4,p1,p2,p3,p4,p5,p6,p7,p8]
     rfl
theorem dec_told{F0:Fz}(hF0:∀b cs t,F0 b=some (cs,t)→t=0)(hP:F0 Tryz.powG=some (powC,0)):zaA F0 env spE decF 1000 gDec:=fun F k h args args' v h0 H hl hg hp=>by
 unfold gDec at hg
 split at hg
 .rename_i c1 x
  obtain⟨hb,hg⟩:=zb5 hg
  have hv:=(zM hg).symm
  clear hg
  simp only[zE,decide_eq_true_eq]at hb
  obtain⟨n,hn⟩:∃n:Nat,x=zA n:=⟨x.toNat,by simp only[zB];omega⟩
  have h5:n<100000:=by
   have:=hb.2
   rw[hn]at this
   simp only[zB]at this
   omega
  have ht:x.toNat=n:=by rw[hn];rfl
  rw[ht]at hv
  rw[hv]at hp ⊢
  exact za3 (k:=k) (TNd_ok hP) hF0 rfl (dec_tree h5) (.cons (.int_eq hn) .nil) (.cons Wk.str .nil) hp h0 H hl
 .cases hg
end Go.Proofs.YtponjccgpbgnoaaGreatDoor.Se
