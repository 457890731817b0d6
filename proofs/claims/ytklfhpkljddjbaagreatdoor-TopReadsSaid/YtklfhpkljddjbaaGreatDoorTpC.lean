/- The functions of the program as functions of Lean, that its code does what they say, and what they answer; part C. -/
import Derived.Test.YtklfhpkljddjbaaGreatDoorTpB

namespace Go.Proofs.YtklfhpkljddjbaaGreatDoor
set_option linter.all false
section
open Go Go.Proofs.YtklfhpkljddjbaaGreatDoor.Shv
open Tryz
set_option maxRecDepth 100000
def Bj(aI:gG×Int):Option (Int):=
 match aI with
 |(d,i)=>
 if bd i d.gX.length=true then some (bl .i64 1 (cU .i64 (c5 (d.gX.getD i.toNat bX).Kind 9)))
 else none
theorem Kt:bU ax1 Bj:= .ca
def XQ(kind:Int):Option (Bool):=
 some (bif bif decide (kind=4)then true else decide (kind=5)then true else decide (kind=6))
theorem anX:bU ax2 XQ:= .ca
def x9(aw:eS):Option (Int):=
 some (gq .i64 (cU .i64 (c5 aw.A 7)) 3)
theorem XR:bU ax3 x9:= .ca
def DN(aw:eS):Option (Int):=
 x9 aw>>=λr=>some (bl .i64 r (cU .i64 (c5 aw.B 6)))
theorem aly:bU ax4 DN:= .ca (.k XR .n)
def x5(aI:Int×eS×List Int):Option (List Int):=
 match aI with
 |(i,aL,bu)=>
 if decide (i<6)=true then if decide (0<=i)=true then if decide (c5 (sM .u8 aL.A i) 2=1)=true then some [bl .i64 i 1]>>=λt18=>if room 8 (bu++t18).length=true then x5 (bl .i64 i 1,aL,bu++t18)
 else none
 else x5 (bl .i64 i 1,aL,bu)
 else none
 else some bu
  partial_fixpoint
theorem aoh:ew 31 0 [0] agI x5:= .rx x5.partial_correctness
def wg(aw:eS):Option (List Int):=
 x5 (0,aw,[])>>=λo=>if decide ((o.length:Int)=0)=true then some [1]>>=λt24=>if room 8 (o++t24).length=true then some (o++t24)
 else none
 else some o
theorem akX:bU ax5 wg:= .ca .n (.k aoh .n)
def Ku(kind:Int):Option (Bool):=
 some (decide (7<=kind))
theorem alr:bU axN Ku:= .ca
def v7(aI:Int×Int×List eS):Option ((Int) ⊕ (Unit)):=
 match aI with
 |(n,k,b)=>
 if decide (k<n)=true then Bj ((⟨b⟩:gG),k)>>=λdZ=>Ku dZ>>=λdF=>if dF=true then some (.inl k)
 else v7 (n,bl .i64 k 1,b)
 else some (.inr ())
  partial_fixpoint
theorem aov:ew 67 0 [0] agX v7:= .rx v7.partial_correctness (.k Kt (.k alr .n))
def Kv(aI:gG×Int×Int):Option (Int):=
 match aI with
 |(d,i,code)=>
 some (d.gX.length:Int)>>=λt12=>if(!(decide (t12=0)))=true then some (c5 (cU .i64 code) t12)>>=λt16=>Bj (d,t16)>>=λr=>Ku r>>=λbT=>if(bif bT then true else decide (t16<i))=true then some t16
 else if decide (0<i)=true then if(!(decide (i=0)))=true then some (c5 t16 i)
 else none
 else v7 (t12,0,d.gX)>>=λo=>match o with
 |.inl bo=>
 some bo
 |.inr bt=>
 some (-1)
 else none
theorem aoi:bU ayf Kv:= .ca (.k Kt (.k alr .n)) (.k aov .n)
def XL(kind:Int):Option (Bool):=
 some (bif decide (1<=kind)then decide (kind<=4)else false)
theorem an1:bU ayh XL:= .ca
def wb(aI:Int×Int×Int×List eS):Option ((Int) ⊕ (Unit)):=
 match aI with
 |(agA,n,k,b)=>
 if decide (k<n)=true then if(!(decide (n=0)))=true then some (c5 (bl .i64 (cU .i64 agA) k) n)>>=λt21=>Bj ((⟨b⟩:gG),t21)>>=λr=>XL r>>=λbT=>if bT=true then some (.inl t21)
 else wb (agA,n,bl .i64 k 1,b)
 else none
 else some (.inr ())
  partial_fixpoint
theorem aoj:ew 33 0 [0] agK wb:= .rx wb.partial_correctness (.k Kt (.k an1 .n))
def C7(aI:gG×Int):Option (Int):=
 match aI with
 |(d,code)=>
 wb (code,(d.gX.length:Int),0,d.gX)>>=λo=>match o with
 |.inl bo=>
 some bo
 |.inr bt=>
 some (-1)
theorem akY:bU ax7 C7:= .ca .n (.k aoj .n)
def KU(aI:gG×Int×Int):Option (ad×Bool):=
 match aI with
 |(d,t,code)=>
 if bd t d.gX.length=true then some (d.gX.getD t.toNat bX)>>=λaw=>Bj (d,t)>>=λr=>some (decide (r=8))>>=λt21=>(if t21=true then C7 (d,0)else some 0)>>=λbT=>if(bif t21 then decide (bT<0)else false)=true then some ((⟨7,false,0,[],0,[],[],[]⟩:ad),true)
 else if decide (r=1)=true then some ((⟨r,decide (c5 code 2=1),0,[],0,[],[],[]⟩:ad),true)
 else if decide (r=2)=true then x9 aw>>=λdZ=>DN aw>>=λdF=>x9 aw>>=λez=>some (bl .i64 (gq .i64 dF ez) 1)>>=λt47=>if(!(decide (t47=0)))=true then some ((⟨r,false,bl .i64 dZ (c5 (cU .i64 code) t47),[],0,[],[],[]⟩:ad),true)
 else none
 else if decide (r=3)=true then if(bif decide (0<c5 aw.A 4)then decide (c5 code 2=1)else false)=true then some ((⟨r,false,0,[97],0,[],[],[]⟩:ad),true)
 else some ((⟨r,false,0,[],0,[],[],[]⟩:ad),true)
 else if decide (r=4)=true then wg aw>>=λhq=>wg aw>>=λiq=>some (iq.length:Int)>>=λt71=>if(!(decide (t71=0)))=true then some (c5 (cU .i64 code) t71)>>=λt72=>if bd t72 hq.length=true then some ((⟨r,false,0,[],hq.getD t72.toNat 0,[],[],[]⟩:ad),true)
 else none
 else none
 else some (decide (r=5))>>=λt77=>if t77=true then if t77=true then some ((⟨0,false,0,[],0,[],[],[]⟩:ad),false)
 else some ((⟨r,false,0,[],0,[],[],[]⟩:ad),true)
 else if decide (r=6)=true then some ((⟨0,false,0,[],0,[],[],[]⟩:ad),false)
 else some ((⟨r,false,0,[],0,[],[],[]⟩:ad),true)
 else none
theorem an2:bU ayg KU:= .ca (.k Kt (.k akY (.k XR (.k aly (.k akX .n)))))
def Ah(aI:Int×Bool×Int×Int×List eS×eS×List bj):Option (Int×Bool×Int×List eS×eS×List bj):=
 match aI with
 |(wY,zl,tC,k,jz,ia,kO)=>
 if decide (k<(ia.eg.length:Int))=true then if bd k ia.eg.length=true then some (ia.eg.getD k.toNat oh)>>=λcE=>Kv ((⟨jz⟩:gG),wY,cE.aQ)>>=λr=>if(bif (!(decide (bl .i64 1 (cU .i64 (c5 cE.aq 12))=tC)))then true else decide (r<0))=true then Ah (wY,zl,tC,bl .i64 k 1,jz,ia,kO)
 else some (uU (cU .i32 (bl .i64 97 tC)))>>=λt55=>if decide ([109].length+t55.length<=iQ)=true then some ([109]++t55)>>=λt56=>if(bif zl then decide (c5 cE.lp 4=1)else false)=true then if(bif zl then decide (2<=c5 cE.lp 4)else false)=true then KU ((⟨jz⟩:gG),r,nW .u8 cE.lp 4)>>=λbT=>some [(⟨tC,t56,r,true,bT.2,ad.eta bT.1⟩:bj)]>>=λt87=>if room 160 (kO++t87).length=true then some (wY,zl,tC,jz,ia,kO++t87)
 else none
 else some [(⟨tC,t56,r,true,false,(⟨0,false,0,[],0,[],[],[]⟩:ad)⟩:bj)]>>=λakt=>if room 160 (kO++akt).length=true then some (wY,zl,tC,jz,ia,kO++akt)
 else none
 else if(bif zl then decide (2<=c5 cE.lp 4)else false)=true then KU ((⟨jz⟩:gG),r,nW .u8 cE.lp 4)>>=λez=>some [(⟨tC,t56,r,false,ez.2,ad.eta ez.1⟩:bj)]>>=λaku=>if room 160 (kO++aku).length=true then some (wY,zl,tC,jz,ia,kO++aku)
 else none
 else some [(⟨tC,t56,r,false,false,(⟨0,false,0,[],0,[],[],[]⟩:ad)⟩:bj)]>>=λakv=>if room 160 (kO++akv).length=true then some (wY,zl,tC,jz,ia,kO++akv)
 else none
 else none
 else none
 else some (wY,zl,tC,jz,ia,kO)
  partial_fixpoint
theorem aoo:ew 32 0 [0,0] aeC Ah:= .rx Ah.partial_correctness (.k aoi (.k an2 .n))
def Al(aI:Int×Bool×Int×List eS×eS×List bj):Option (List bj):=
 match aI with
 |(lI,aCC,id,aL,bu,bR)=>
 if decide (id<=12)=true then Ah (lI,aCC,id,0,aL,bu,bR)>>=λbo=>Al (bo.1,bo.2.1,bl .i64 bo.2.2.1 1,bo.2.2.2.1,bo.2.2.2.2.1,bo.2.2.2.2.2)
 else some bR
  partial_fixpoint
theorem anZ:ew 32 0 [0] agJ Al:= .rx Al.partial_correctness .n (.k aoo .n)
def DE(aI:gG×Int×Bool):Option (List bj):=
 match aI with
 |(d,i,record)=>
 if bd i d.gX.length=true then Al (i,record,1,d.gX,d.gX.getD i.toNat bX,[])>>=λo=>some o
 else none
theorem anY:bU ax6 DE:= .ca .n (.k anZ .n)
def x2(aI:Int×Int×List Int×Int×List eS×Int×List UInt8×Int×Int×Int×Int×Int×Bool×List au×List fK):Option (Int×Int×List eS×Int×List UInt8×Int×Int×Int×Int×Int×Bool×List au×List fK):=
 match aI with
 |(aja,wY,GW,k,ur,q4,q5,q6,q7,qj,q8,lA,qk,ql,pD)=>
 if decide (k<(GW.length:Int))=true then if bd k GW.length=true then if bd k GW.length=true then some (uU (cU .i32 (bl .i64 97 (GW.getD k.toNat 0))))>>=λt87=>if decide ([115].length+t87.length<=iQ)=true then some [(⟨GW.getD k.toNat 0,[115]++t87⟩:fK)]>>=λt90=>if room 24 (pD++t90).length=true then x2 (aja,wY,GW,bl .i64 k 1,ur,q4,q5,q6,q7,qj,q8,lA,qk,ql,pD++t90)
 else none
 else none
 else none
 else none
 else some (aja,wY,ur,q4,q5,q6,q7,qj,q8,lA,qk,ql,pD)
  partial_fixpoint
theorem an3:ew 13 0 [0,0] aeD x2:= .rx x2.partial_correctness
def ji(aI:Int×Int×List eS×List au):Option (List au):=
 match aI with
 |(n,i,aL,bu)=>
 if decide (i<n)=true then if bd i aL.length=true then some (aL.getD i.toNat bX)>>=λaw=>Bj ((⟨aL⟩:gG),i)>>=λr=>XQ r>>=λbT=>if bT=true then some (uU (cU .i32 (bl .i64 65 i)))>>=λt41=>if decide (r=2)=true then x9 aw>>=λdZ=>DN aw>>=λdF=>some [(⟨r,t41,dZ,dF,0,[],[],0,0,false⟩:au)]>>=λt167=>if room 120 (bu++t167).length=true then ji (n,bl .i64 i 1,aL,bu++t167)
 else none
 else if decide (r=3)=true then some [(⟨r,t41,0,0,cU .i64 (c5 aw.A 4),[],[],0,0,false⟩:au)]>>=λMX=>if room 120 (bu++MX).length=true then ji (n,bl .i64 i 1,aL,bu++MX)
 else none
 else if decide (r=4)=true then wg aw>>=λez=>x2 (n,i,ez,0,aL,r,t41,0,0,0,0,0,decide (c5 aw.B 2=1),bu,[])>>=λbo=>some [(⟨bo.2.2.2.1,bo.2.2.2.2.1,bo.2.2.2.2.2.1,bo.2.2.2.2.2.2.1,bo.2.2.2.2.2.2.2.1,bo.2.2.2.2.2.2.2.2.2.2.2.2,[],bo.2.2.2.2.2.2.2.2.1,bo.2.2.2.2.2.2.2.2.2.1,bo.2.2.2.2.2.2.2.2.2.2.1⟩:au)]>>=λaj'=>
 if room 120 (bo.2.2.2.2.2.2.2.2.2.2.2.1++aj').length=true then ji (bo.1,bl .i64 bo.2.1 1,bo.2.2.1,bo.2.2.2.2.2.2.2.2.2.2.2.1++aj')
 else none
 else if decide (r=5)=true then DE ((⟨aL⟩:gG),i,true)>>=λhq=>some [(⟨r,t41,0,0,0,[],hq,0,0,false⟩:au)]>>=λakc=>if room 120 (bu++akc).length=true then ji (n,bl .i64 i 1,aL,bu++akc)
 else none
 else if decide (r=6)=true then DE ((⟨aL⟩:gG),i,false)>>=λiq=>if decide ((iq.length:Int)=0)=true then some [(⟨5,t41,0,0,0,[],[],0,0,false⟩:au)]>>=λakd=>if room 120 (bu++akd).length=true then ji (n,bl .i64 i 1,aL,bu++akd)
 else none
 else some [(⟨r,t41,0,0,0,[],iq,0,0,decide (c5 aw.B 2=1)⟩:au)]>>=λake=>if room 120 (bu++ake).length=true then ji (n,bl .i64 i 1,aL,bu++ake)
 else none
 else if decide (r=7)=true then if(!(decide (n=0)))=true then some [(⟨r,t41,0,0,cU .i64 (c5 aw.A 4),[],[],0,c5 (cU .i64 aw.C) n,false⟩:au)]>>=λakf=>if room 120 (bu++akf).length=true then ji (n,bl .i64 i 1,aL,bu++akf)
 else none
 else none
 else if decide (r=8)=true then some (cU .i64 (c5 aw.A 4))>>=λt135=>C7 ((⟨aL⟩:gG),aw.B)>>=λir=>if(!(decide (n=0)))=true then some (c5 (cU .i64 aw.C) n)>>=λt144=>if decide (ir<0)=true then some [(⟨7,[],0,0,t135,[],[],0,t144,false⟩:au)]>>=λakg=>if room 120 (bu++akg).length=true then ji (n,bl .i64 i 1,aL,bu++akg)
 else none
 else some [(⟨r,t41,0,0,t135,[],[],ir,t144,false⟩:au)]>>=λakh=>if room 120 (bu++akh).length=true then ji (n,bl .i64 i 1,aL,bu++akh)
 else none
 else none
 else if decide (r=9)=true then if(!(decide (n=0)))=true then some [(⟨r,t41,0,0,0,[],[],0,c5 (cU .i64 aw.C) n,false⟩:au)]>>=λaki=>if room 120 (bu++aki).length=true then ji (n,bl .i64 i 1,aL,bu++aki)
 else none
 else none
 else some [(⟨r,t41,0,0,0,[],[],0,0,false⟩:au)]>>=λaj0=>if room 120 (bu++aj0).length=true then ji (n,bl .i64 i 1,aL,bu++aj0)
 else none
 else if decide (r=2)=true then x9 aw>>=λqP=>DN aw>>=λtP=>some [(⟨r,[],qP,tP,0,[],[],0,0,false⟩:au)]>>=λaj1=>if room 120 (bu++aj1).length=true then ji (n,bl .i64 i 1,aL,bu++aj1)
 else none
 else if decide (r=3)=true then some [(⟨r,[],0,0,cU .i64 (c5 aw.A 4),[],[],0,0,false⟩:au)]>>=λaj2=>if room 120 (bu++aj2).length=true then ji (n,bl .i64 i 1,aL,bu++aj2)
 else none
 else if decide (r=4)=true then wg aw>>=λfB=>x2 (n,i,fB,0,aL,r,[],0,0,0,0,0,decide (c5 aw.B 2=1),bu,[])>>=λbt=>some [(⟨bt.2.2.2.1,bt.2.2.2.2.1,bt.2.2.2.2.2.1,bt.2.2.2.2.2.2.1,bt.2.2.2.2.2.2.2.1,bt.2.2.2.2.2.2.2.2.2.2.2.2,[],bt.2.2.2.2.2.2.2.2.1,bt.2.2.2.2.2.2.2.2.2.1,bt.2.2.2.2.2.2.2.2.2.2.1⟩:au)]>>=λaj3=>if room 120 (bt.2.2.2.2.2.2.2.2.2.2.2.1++aj3).length=true then ji (bt.1,bl .i64 bt.2.1 1,bt.2.2.1,bt.2.2.2.2.2.2.2.2.2.2.2.1++aj3)
 else none
 else if decide (r=5)=true then DE ((⟨aL⟩:gG),i,true)>>=λh3=>some [(⟨r,[],0,0,0,[],h3,0,0,false⟩:au)]>>=λaj4=>if room 120 (bu++aj4).length=true then ji (n,bl .i64 i 1,aL,bu++aj4)
 else none
 else if decide (r=6)=true then DE ((⟨aL⟩:gG),i,false)>>=λBL=>if decide ((BL.length:Int)=0)=true then some [(⟨5,[],0,0,0,[],[],0,0,false⟩:au)]>>=λaj5=>if room 120 (bu++aj5).length=true then ji (n,bl .i64 i 1,aL,bu++aj5)
 else none
 else some [(⟨r,[],0,0,0,[],BL,0,0,decide (c5 aw.B 2=1)⟩:au)]>>=λaj6=>if room 120 (bu++aj6).length=true then ji (n,bl .i64 i 1,aL,bu++aj6)
 else none
 else if decide (r=7)=true then if(!(decide (n=0)))=true then some [(⟨r,[],0,0,cU .i64 (c5 aw.A 4),[],[],0,c5 (cU .i64 aw.C) n,false⟩:au)]>>=λaj7=>if room 120 (bu++aj7).length=true then ji (n,bl .i64 i 1,aL,bu++aj7)
 else none
 else none
 else if decide (r=8)=true then some (cU .i64 (c5 aw.A 4))>>=λajV=>C7 ((⟨aL⟩:gG),aw.B)>>=λg'=>
 if(!(decide (n=0)))=true then some (c5 (cU .i64 aw.C) n)>>=λajW=>if decide (g'<0)=true then some [(⟨7,[],0,0,ajV,[],[],0,ajW,false⟩:au)]>>=λaj8=>if room 120 (bu++aj8).length=true then ji (n,bl .i64 i 1,aL,bu++aj8)
 else none
 else some [(⟨r,[],0,0,ajV,[],[],g',ajW,false⟩:au)]>>=λaj9=>if room 120 (bu++aj9).length=true then ji (n,bl .i64 i 1,aL,bu++aj9)
 else none
 else none
 else if decide (r=9)=true then if(!(decide (n=0)))=true then some [(⟨r,[],0,0,0,[],[],0,c5 (cU .i64 aw.C) n,false⟩:au)]>>=λaka=>if room 120 (bu++aka).length=true then ji (n,bl .i64 i 1,aL,bu++aka)
 else none
 else none
 else some [(⟨r,[],0,0,0,[],[],0,0,false⟩:au)]>>=λakb=>if room 120 (bu++akb).length=true then ji (n,bl .i64 i 1,aL,bu++akb)
 else none
 else none
 else some bu
  partial_fixpoint
theorem ao9:ew 13 0 [0] agE ji:= .rx ji.partial_correctness (.k Kt (.k anX (.k XR (.k aly (.k akX (.k anY (.k akY .n))))))) (.k an3 .n)
def Bm(d:gG):Option (bY×Bool):=
 some (d.gX.length:Int)>>=λt13=>if(bif decide (t13<1)then true else decide (5<t13))=true then some ((⟨[]⟩:bY),false)
 else ji (t13,0,d.gX,[])>>=λo=>some ((⟨o⟩:bY),true)
theorem aoI:bU axO Bm:= .ca .n (.k ao9 .n)
def lV(aI:List tp×Int×List eS):Option (List eS):=
 match aI with
 |(jt,i,aL)=>
 if(bif decide (i<(jt.length:Int))then decide (0<(aL.length:Int))else false)=true then if bd i jt.length=true then some (jt.getD i.toNat wa)>>=λaw=>some (aL.length:Int)>>=λt38=>if(!(decide (t38=0)))=true then some (c5 (cU .i64 aw.Node) t38)>>=λt39=>if bd t39 aL.length=true then if decide (t39.toNat<aL.length)=true then some (aL.getD t39.toNat bX).eg>>=λt46=>if room 3 ([]++t46).length=true then some ([]++t46)>>=λgD=>if decide (t39.toNat<aL.length)=true then if decide (t39.toNat=t39.toNat)=true then
 let aiP:=λpv=>
 some (c5 aw.Kind 8)>>=λEr=>if decide (Er=0)=true then if decide (t39.toNat<aL.length)=true then some (gq .u8 (bl .u8 (aL.getD t39.toNat bX).A (c5 aw.A 5)) 2)>>=λMR=>if decide (t39.toNat<aL.length)=true then lV (jt,bl .i64 i 1,(aL.set t39.toNat (⟨(aL.getD t39.toNat bX).Kind,MR,(aL.getD t39.toNat bX).B,(aL.getD t39.toNat bX).C,(aL.getD t39.toNat bX).eg⟩:eS)).set t39.toNat (⟨((aL.set t39.toNat (⟨(aL.getD t39.toNat bX).Kind,MR,(aL.getD t39.toNat bX).B,(aL.getD t39.toNat bX).C,(aL.getD t39.toNat bX).eg⟩:eS)).getD t39.toNat bX).Kind,((aL.set t39.toNat (⟨(aL.getD t39.toNat bX).Kind,MR,(aL.getD t39.toNat bX).B,(aL.getD t39.toNat bX).C,(aL.getD t39.toNat bX).eg⟩:eS)).getD t39.toNat bX).A,((aL.set t39.toNat (⟨(aL.getD t39.toNat bX).Kind,MR,(aL.getD t39.toNat bX).B,(aL.getD t39.toNat bX).C,(aL.getD t39.toNat bX).eg⟩:eS)).getD t39.toNat bX).B,((aL.set t39.toNat (⟨(aL.getD t39.toNat bX).Kind,MR,(aL.getD t39.toNat bX).B,(aL.getD t39.toNat bX).C,(aL.getD t39.toNat bX).eg⟩:eS)).getD t39.toNat bX).C,gD⟩:eS))
 else none
 else none
 else if decide (Er=1)=true then if decide (t39.toNat<aL.length)=true then some (gq .u8 (bl .u8 (aL.getD t39.toNat bX).B (c5 aw.B 5)) 2)>>=λMT=>if decide (t39.toNat<aL.length)=true then lV (jt,bl .i64 i 1,(aL.set t39.toNat (⟨(aL.getD t39.toNat bX).Kind,(aL.getD t39.toNat bX).A,MT,(aL.getD t39.toNat bX).C,(aL.getD t39.toNat bX).eg⟩:eS)).set t39.toNat (⟨((aL.set t39.toNat (⟨(aL.getD t39.toNat bX).Kind,(aL.getD t39.toNat bX).A,MT,(aL.getD t39.toNat bX).C,(aL.getD t39.toNat bX).eg⟩:eS)).getD t39.toNat bX).Kind,((aL.set t39.toNat (⟨(aL.getD t39.toNat bX).Kind,(aL.getD t39.toNat bX).A,MT,(aL.getD t39.toNat bX).C,(aL.getD t39.toNat bX).eg⟩:eS)).getD t39.toNat bX).A,((aL.set t39.toNat (⟨(aL.getD t39.toNat bX).Kind,(aL.getD t39.toNat bX).A,MT,(aL.getD t39.toNat bX).C,(aL.getD t39.toNat bX).eg⟩:eS)).getD t39.toNat bX).B,((aL.set t39.toNat (⟨(aL.getD t39.toNat bX).Kind,(aL.getD t39.toNat bX).A,MT,(aL.getD t39.toNat bX).C,(aL.getD t39.toNat bX).eg⟩:eS)).getD t39.toNat bX).C,gD⟩:eS))
 else none
 else none
 else if decide (Er=2)=true then if decide (t39.toNat<aL.length)=true then some (c5 aw.A 6)>>=λajU=>if decide (0<=ajU)=true then some (Ex .u8 (aL.getD t39.toNat bX).A (vq .u8 1 ajU))>>=λMV=>if decide (t39.toNat<aL.length)=true then lV (jt,bl .i64 i 1,(aL.set t39.toNat (⟨(aL.getD t39.toNat bX).Kind,MV,(aL.getD t39.toNat bX).B,(aL.getD t39.toNat bX).C,(aL.getD t39.toNat bX).eg⟩:eS)).set t39.toNat (⟨((aL.set t39.toNat (⟨(aL.getD t39.toNat bX).Kind,MV,(aL.getD t39.toNat bX).B,(aL.getD t39.toNat bX).C,(aL.getD t39.toNat bX).eg⟩:eS)).getD t39.toNat bX).Kind,((aL.set t39.toNat (⟨(aL.getD t39.toNat bX).Kind,MV,(aL.getD t39.toNat bX).B,(aL.getD t39.toNat bX).C,(aL.getD t39.toNat bX).eg⟩:eS)).getD t39.toNat bX).A,((aL.set t39.toNat (⟨(aL.getD t39.toNat bX).Kind,MV,(aL.getD t39.toNat bX).B,(aL.getD t39.toNat bX).C,(aL.getD t39.toNat bX).eg⟩:eS)).getD t39.toNat bX).B,((aL.set t39.toNat (⟨(aL.getD t39.toNat bX).Kind,MV,(aL.getD t39.toNat bX).B,(aL.getD t39.toNat bX).C,(aL.getD t39.toNat bX).eg⟩:eS)).getD t39.toNat bX).C,gD⟩:eS))
 else none
 else none
 else none
 else if decide (Er=3)=true then if decide (t39.toNat<aL.length)=true then some (bl .u8 (aL.getD t39.toNat bX).C aw.A)>>=λMW=>if decide (t39.toNat<aL.length)=true then lV (jt,bl .i64 i 1,(aL.set t39.toNat (⟨(aL.getD t39.toNat bX).Kind,(aL.getD t39.toNat bX).A,(aL.getD t39.toNat bX).B,MW,(aL.getD t39.toNat bX).eg⟩:eS)).set t39.toNat (⟨((aL.set t39.toNat (⟨(aL.getD t39.toNat bX).Kind,(aL.getD t39.toNat bX).A,(aL.getD t39.toNat bX).B,MW,(aL.getD t39.toNat bX).eg⟩:eS)).getD t39.toNat bX).Kind,((aL.set t39.toNat (⟨(aL.getD t39.toNat bX).Kind,(aL.getD t39.toNat bX).A,(aL.getD t39.toNat bX).B,MW,(aL.getD t39.toNat bX).eg⟩:eS)).getD t39.toNat bX).A,((aL.set t39.toNat (⟨(aL.getD t39.toNat bX).Kind,(aL.getD t39.toNat bX).A,(aL.getD t39.toNat bX).B,MW,(aL.getD t39.toNat bX).eg⟩:eS)).getD t39.toNat bX).B,((aL.set t39.toNat (⟨(aL.getD t39.toNat bX).Kind,(aL.getD t39.toNat bX).A,(aL.getD t39.toNat bX).B,MW,(aL.getD t39.toNat bX).eg⟩:eS)).getD t39.toNat bX).C,gD⟩:eS))
 else none
 else none
 else if decide (Er=4)=true then if decide (t39.toNat=t39.toNat)=true then if decide ((gD.length:Int)<8)=true then if decide (t39.toNat=t39.toNat)=true then some [(⟨aw.A,aw.B,nW .u8 aw.A 12⟩:tq)]>>=λMX=>if room 3 (gD++MX).length=true then if decide (t39.toNat=t39.toNat)=true then lV (jt,bl .i64 i 1,aL.set t39.toNat (⟨(aL.getD t39.toNat bX).Kind,(aL.getD t39.toNat bX).A,(aL.getD t39.toNat bX).B,(aL.getD t39.toNat bX).C,gD++MX⟩:eS))
 else none
 else none
 else none
 else lV (jt,bl .i64 i 1,aL.set t39.toNat (⟨(aL.getD t39.toNat bX).Kind,(aL.getD t39.toNat bX).A,(aL.getD t39.toNat bX).B,(aL.getD t39.toNat bX).C,gD⟩:eS))
 else none
 else if decide (Er=5)=true then if decide (t39.toNat=t39.toNat)=true then if decide (0<(gD.length:Int))=true then if decide (t39.toNat=t39.toNat)=true then if gW 0 pv gD.length=true then if decide (t39.toNat=t39.toNat)=true then some (bl .i64 pv 1)>>=λHV=>if gW HV (gD.length:Int) gD.length=true then if(decide (pv.toNat+((gD.length:Int).toNat-HV.toNat)<=gD.length)&&decide (HV.toNat+((gD.length:Int).toNat-HV.toNat)<=gD.length))=true then if decide (t39.toNat=t39.toNat)=true then lV (jt,bl .i64 i 1,aL.set t39.toNat (⟨(aL.getD t39.toNat bX).Kind,(aL.getD t39.toNat bX).A,(aL.getD t39.toNat bX).B,(aL.getD t39.toNat bX).C,gD.take pv.toNat++(gD.drop HV.toNat).take ((gD.length:Int).toNat-HV.toNat)⟩:eS))
 else none
 else none
 else none
 else none
 else none
 else none
 else lV (jt,bl .i64 i 1,aL.set t39.toNat (⟨(aL.getD t39.toNat bX).Kind,(aL.getD t39.toNat bX).A,(aL.getD t39.toNat bX).B,(aL.getD t39.toNat bX).C,gD⟩:eS))
 else none
 else if decide (Er=6)=true then if decide (t39.toNat=t39.toNat)=true then if decide (0<(gD.length:Int))=true then if decide (t39.toNat=t39.toNat)=true then if bd pv gD.length=true then if decide (pv.toNat<gD.length)=true then lV (jt,bl .i64 i 1,aL.set t39.toNat (⟨(aL.getD t39.toNat bX).Kind,(aL.getD t39.toNat bX).A,(aL.getD t39.toNat bX).B,(aL.getD t39.toNat bX).C,gD.set pv.toNat (⟨(gD.getD pv.toNat oh).aq,(gD.getD pv.toNat oh).aQ,aw.B⟩:tq)⟩:eS))
 else none
 else none
 else none
 else lV (jt,bl .i64 i 1,aL.set t39.toNat (⟨(aL.getD t39.toNat bX).Kind,(aL.getD t39.toNat bX).A,(aL.getD t39.toNat bX).B,(aL.getD t39.toNat bX).C,gD⟩:eS))
 else none
 else if decide (t39.toNat=t39.toNat)=true then if decide (0<(gD.length:Int))=true then if decide (t39.toNat=t39.toNat)=true then if decide (t39.toNat=t39.toNat)=true then if bd pv gD.length=true then if decide (pv.toNat<gD.length)=true then if bd pv gD.length=true then if decide (pv.toNat<gD.length)=true then lV (jt,bl .i64 i 1,aL.set t39.toNat (⟨(aL.getD t39.toNat bX).Kind,(aL.getD t39.toNat bX).A,(aL.getD t39.toNat bX).B,(aL.getD t39.toNat bX).C,gD.set pv.toNat (⟨(gD.getD pv.toNat oh).aq,bl .u8 (gD.getD pv.toNat oh).aQ aw.B,(gD.getD pv.toNat oh).lp⟩:tq)⟩:eS))
 else none
 else none
 else none
 else none
 else none
 else none
 else lV (jt,bl .i64 i 1,aL.set t39.toNat (⟨(aL.getD t39.toNat bX).Kind,(aL.getD t39.toNat bX).A,(aL.getD t39.toNat bX).B,(aL.getD t39.toNat bX).C,gD⟩:eS))
 else none
 if decide (0<(gD.length:Int))=true then if decide (t39.toNat=t39.toNat)=true then some (gD.length:Int)>>=λt63=>if(!(decide (t63=0)))=true then some (c5 (cU .i64 aw.A) t63)>>=λt64=>aiP t64
 else none
 else none
 else aiP 0
 else none
 else none
 else none
 else none
 else none
 else none
 else none
 else some aL
  partial_fixpoint
theorem aop:ew 14 0 [0] agF lV:= .rx lV.partial_correctness
def QW(aI:gG×List tp):Option (gG):=
 match aI with
 |(d,l)=>
 if room 32 ([]++d.gX).length=true then lV (l,0,[]++d.gX)>>=λo=>some (⟨o⟩:gG)
 else none
theorem an4:bU axT QW:= .ca .n (.k aop .n)
def KD(c:uE):Option (cG×cG×Bool):=
 Bm c.S>>=λr=>QW (c.S,c.L)>>=λdF=>Bm dF>>=λez=>if(bif bif (!r.2)then true else(!ez.2)then true else decide (5<(c.L.length:Int)))=true then some ((⟨(⟨[]⟩:bY),0⟩:cG),(⟨(⟨[]⟩:bY),0⟩:cG),false)
 else some (r.1.Types.length:Int)>>=λt45=>if(!(decide (t45=0)))=true then some (c5 (cU .i64 c.T) t45)>>=λt46=>some (ez.1.Types.length:Int)>>=λt58=>if(!(decide (t58=0)))=true then some ((⟨r.1,t46⟩:cG),(⟨ez.1,c5 (bl .i64 t46 (cU .i64 c.U)) t58⟩:cG),true)
 else none
 else none
theorem aoJ:bU mX KD:= .ca (.k aoI (.k an4 .n))
def Dr(aI:List fK×List fK×Int×Int):Option ((Bool) ⊕ (Unit)):=
 match aI with
 |(Eo,nX,MU,t13)=>
 if decide (t13<MU)=true then if bd t13 Eo.length=true then some (Eo.getD t13.toNat jj)>>=λaw=>if bd t13 nX.length=true then some (nX.getD t13.toNat jj)>>=λcE=>if(!(gu aw.aq cE.aq&&(rr aw.Name cE.Name&&true)))=true then some (.inl false)
 else Dr (Eo,nX,MU,bl .i64 t13 1)
 else none
 else none
 else some (.inr ())
  partial_fixpoint
theorem anK:ew 206 0 [0] afh Dr:= .rx Dr.partial_correctness
def Rl(aI:List fK×List fK):Option (Bool):=
 match aI with
 |(s1,s2)=>
 if(!(decide ((s1.length:Int)=(s2.length:Int))))=true then some false
 else Dr (s1,s2,(s1.length:Int),0)>>=λo=>match o with
 |.inl bo=>
 some bo
 |.inr bt=>
 some true
theorem anM:bU OO Rl:= .ca .n (.k anK .n)
def Ds(aI:List dD×List dD×Int×Int):Option ((Bool) ⊕ (Unit)):=
 match aI with
 |(Eo,nX,MU,t13)=>
 if decide (t13<MU)=true then if bd t13 Eo.length=true then some (Eo.getD t13.toNat gi)>>=λaw=>if bd t13 nX.length=true then some (nX.getD t13.toNat gi)>>=λcE=>if(!(gu aw.aq cE.aq&&(rr aw.Data cE.Data&&true)))=true then some (.inl false)
 else Ds (Eo,nX,MU,bl .i64 t13 1)
 else none
 else none
 else some (.inr ())
  partial_fixpoint
theorem anN:ew 64 0 [0] agW Ds:= .rx Ds.partial_correctness
def KP(aI:List dD×List dD):Option (Bool):=
 match aI with
 |(s1,s2)=>
 if(!(decide ((s1.length:Int)=(s2.length:Int))))=true then some false
 else Ds (s1,s2,(s1.length:Int),0)>>=λo=>match o with
 |.inl bo=>
 some bo
 |.inr bt=>
 some true
theorem alj:bU Pg KP:= .ca .n (.k anN .n)
mutual
def uI(aI:ad×ad):Option (Bool):=
 match aI with
 |(a,b)=>
 some (bif bif bif bif decide (a.Kind=b.Kind)then kh a.cX b.cX else false then decide (a.b5=b.b5)else false then decide (a.ch=b.ch)else false then decide (a.aq=b.aq)else false)>>=λt37=>(if t37=true then KP (a.Rest,b.Rest)else some false)>>=λr=>some (bif t37 then r else false)>>=λt44=>(if t44=true then KN (a.aZ,b.aZ)else some false)>>=λbT=>some (bif t44 then bT else false)>>=λt51=>(if t51=true then KN (a.aB,b.aB)else some false)>>=λdZ=>some (bif t51 then dZ else false)
  partial_fixpoint
def KN(aI:List ad×List ad):Option (Bool):=
 match aI with
 |(s1,s2)=>
 if(!(decide ((s1.length:Int)=(s2.length:Int))))=true then some false
 else F' (s2,s1,(s1.length:Int),0)>>=λo=>match o with
 |.inl bo=>
 some bo
 |.inr bt=>
 some true
  partial_fixpoint
def F'(aI:List ad×List ad×Int×Int):Option ((Bool) ⊕ (Unit)):=
 match aI with
 |(nX,t15,rR,t17)=>
 if decide (t17<rR)=true then if bd t17 t15.length=true then if bd t17 nX.length=true then uI (ad.eta (t15.getD t17.toNat aY),ad.eta (nX.getD t17.toNat aY))>>=λr=>if(!r)=true then some (.inl false)
 else F' (nX,t15,rR,bl .i64 t17 1)
 else none
 else none
 else some (.inr ())
  partial_fixpoint
end
theorem aqj:iv Cx uI/\iv Fm KN/\jT 65 0 [0] Mr F':=uI.mutual_partial_correctness (h6 Cx) (h6 Fm) (jR 65 0 [0] Mr)
 (λ_ h1 _ _ h=>iK h (.k alj (.k (ev Fm h1) .n)))
 (λ_ aa _ _ h=>iK h .n (.k (kD Mr aa) .n))
 (λ_ _ h0 aa _ _ h=>kC Mr aa h (.k (ev Cx h0) .n))
theorem amc:bU Cx uI:=ev _ aqj.1
def KE(aI:bj×bj):Option (Bool):=
 match aI with
 |(aw,y)=>
 some (bif bif bif bif decide (aw.aq=y.aq)then decide (aw.Name=y.Name)else false then decide (aw.aQ=y.aQ)else false then kh aw.dq y.dq else false then kh aw.cV y.cV else false)>>=λt37=>(if t37=true then uI ((⟨aw.cB.Kind,aw.cB.cX,aw.cB.b5,aw.cB.ch,aw.cB.aq,aw.cB.aZ,aw.cB.aB,aw.cB.Rest⟩:ad),ad.eta y.cB)else some false)>>=λr=>some (bif t37 then r else false)
theorem aoK:bU OQ KE:= .ca (.k amc .n)
def yi(aI:List bj×List bj×Int×Int):Option ((Bool) ⊕ (Unit)):=
 match aI with
 |(nX,t15,rR,t17)=>
 if decide (t17<rR)=true then if bd t17 t15.length=true then some (t15.getD t17.toNat aX)>>=λaw=>if bd t17 nX.length=true then some (nX.getD t17.toNat aX)>>=λcE=>KE ((⟨aw.aq,aw.Name,aw.aQ,aw.dq,aw.cV,ad.eta aw.cB⟩:bj),(⟨cE.aq,cE.Name,cE.aQ,cE.dq,cE.cV,ad.eta cE.cB⟩:bj))>>=λr=>if(!r)=true then some (.inl false)
 else yi (nX,t15,rR,bl .i64 t17 1)
 else none
 else none
 else some (.inr ())
  partial_fixpoint
theorem anx:ew 207 0 [0] afi yi:= .rx yi.partial_correctness (.k aoK .n)
def Rj(aI:List bj×List bj):Option (Bool):=
 match aI with
 |(s1,s2)=>
 if(!(decide ((s1.length:Int)=(s2.length:Int))))=true then some false
 else yi (s2,s1,(s1.length:Int),0)>>=λo=>match o with
 |.inl bo=>
 some bo
 |.inr bt=>
 some true
theorem anz:bU OP Rj:= .ca .n (.k anx .n)
def mq(aI:au×au):Option (Bool):=
 match aI with
 |(a,b)=>
 some (bif bif bif bif bif bif bif decide (a.Kind=b.Kind)then decide (a.Name=b.Name)else false then decide (a.cA=b.cA)else false then decide (a.cD=b.cD)else false then decide (a.Max=b.Max)else false then decide (a.Key=b.Key)else false then decide (a.a6=b.a6)else false then kh a.Open b.Open else false)>>=λt58=>(if t58=true then Rl (a.bW,b.bW)else some false)>>=λr=>some (bif t58 then r else false)>>=λt65=>(if t65=true then Rj (a.al,b.al)else some false)>>=λbT=>some (bif t65 then bT else false)
theorem apz:bU Oo mq:= .ca (.k anM (.k anz .n))
def KF(c:Int):Option (Bool):=
 some (bif bif decide (c=95)then true else bif decide (97<=c)then decide (c<=122)else false then true else bif decide (65<=c)then decide (c<=90)else false)
theorem ak3:bU OK KF:= .ca
def Rg(c:Int):Option (Bool):=
 some (bif decide (48<=c)then decide (c<=57)else false)
theorem aqk:bU OL Rg:= .ca
def ta(aI:List UInt8×Int×Int):Option ((Bool) ⊕ (Unit)):=
 match aI with
 |(gp,akk,t19)=>
 if decide (t19<akk)=true then if bd t19 gp.length=true then KF (mR gp t19)>>=λbT=>some (!bT)>>=λt26=>if(bd t19 gp.length||(!t26))=true then (if t26=true then Rg (mR gp t19)else some false)>>=λdZ=>if(bif t26 then(!dZ)else false)=true then some (.inl false)
 else ta (gp,akk,bl .i64 t19 1)
 else none
 else none
 else some (.inr ())
  partial_fixpoint
theorem aoV:ew 145 0 [0] afj ta:= .rx ta.partial_correctness (.k ak3 (.k aqk .n))
def se(s:List UInt8):Option (Bool):=
 some (bif decide (s=[])then true else decide (24<(s.length:Int)))>>=λt10=>if(bd 0 s.length||(!(!t10)))=true then (if(!t10)=true then KF (mR s 0)else some false)>>=λr=>if(bif t10 then true else(!r))=true then some false
 else ta (s,(s.length:Int),0)>>=λo=>match o with
 |.inl bo=>
 some bo
 |.inr bt=>
 some true
 else none
theorem akP:bU Ol se:= .ca (.k ak3 .n) (.k aoV .n)
def yb(aI:List Int×List (List UInt8)×List Int×Int×Int×List (List UInt8)):Option ((Bool) ⊕ (List Int)):=
 match aI with
 |(jt,D3,t9,MS,t11,b)=>
 if decide (t11<MS)=true then if bd t11 t9.length=true then some (t9.getD t11.toNat 0)>>=λaw=>some (bif decide (aw<1)then true else decide (1000<aw))>>=λt21=>some (decide (0<t11))>>=λt24=>some (gq .i64 t11 1)>>=λt29=>if(bd t29 jt.length||(!((!t21)&&t24)))=true then some (bif t21 then true else bif t24 then decide (aw<=jt.getD t29.toNat 0)else false)>>=λt34=>if(bd t11 D3.length||(!(!t34)))=true then some (bif t34 then true else ki b (D3.getD t11.toNat []))>>=λt42=>if(bd t11 D3.length||(!(!t42)))=true then (if(!t42)=true then se (D3.getD t11.toNat [])else some false)>>=λr=>if(bif t42 then true else(!r))=true then some (.inl false)
 else if bd t11 D3.length=true then yb (jt,D3,t9,MS,bl .i64 t11 1,n2 b (D3.getD t11.toNat []))
 else none
 else none
 else none
 else none
 else none
 else some (.inr jt)
  partial_fixpoint
theorem aql:ew 204 0 [0] afk yb:= .rx yb.partial_correctness (.k akP .n)
def K4(aI:List Int×List (List UInt8)):Option (Bool):=
 match aI with
 |(l,names)=>
 yb (l,names,l,(l.length:Int),0,[])>>=λo=>match o with
 |.inl bo=>
 some bo
 |.inr bt=>
 some (decide ((bt.length:Int)<=16))
theorem alO:bU OM K4:= .ca .n (.k aql .n)
def Bg(aI:List fK×List fK×Int×Int×List Int×List (List UInt8)):Option (List fK×List Int×List (List UInt8)):=
 match aI with
 |(jt,t7,M4,t9,bu,bR)=>
 if decide (t9<M4)=true then if bd t9 t7.length=true then some (t7.getD t9.toNat jj)>>=λaw=>some [aw.aq]>>=λt16=>if room 8 (bu++t16).length=true then some [aw.Name]>>=λt21=>if room 16 (bR++t21).length=true then Bg (jt,t7,M4,bl .i64 t9 1,bu++t16,bR++t21)
 else none
 else none
 else none
 else some (jt,bu,bR)
  partial_fixpoint
theorem ao':ew 146 0 [0] afl Bg:= .rx Bg.partial_correctness
def KG(l:List fK):Option (Bool):=
 Bg (l,l,(l.length:Int),0,[],[])>>=λo=>some (decide (0<(o.1.length:Int)))>>=λt26=>(if t26=true then K4 (o.2.1,o.2.2)else some false)>>=λr=>some (bif t26 then r else false)
theorem aoL:bU Om KG:= .ca (.k alO .n) (.k ao' .n)
def R5(v:ad):Option (Bool):=
 uI (ad.eta v,(⟨0,false,0,[],0,[],[],[]⟩:ad))>>=λr=>some r
theorem apA:bU ON R5:= .ca (.k amc .n)
def x6(aI:List bj×Int×Int×au×List Int×List (List UInt8)):Option ((Bool) ⊕ (au×List Int×List (List UInt8))):=
 match aI with
 |(t8,akw,t10,bR,gz,kf)=>
 if decide (t10<akw)=true then if bd t10 t8.length=true then some (t8.getD t10.toNat aX)>>=λaw=>some [aw.aq]>>=λt17=>if room 8 (gz++t17).length=true then some [aw.Name]>>=λt22=>if room 16 (kf++t22).length=true then some (bif bif decide (bR.Kind=6)then bif aw.dq then true else aw.cV else false then true else bif aw.dq then aw.cV else false)>>=λt42=>some (!aw.cV)>>=λt46=>(if((!t42)&&t46)=true then R5 (ad.eta aw.cB)else some false)>>=λbT=>if(bif t42 then true else bif t46 then(!bT)else false)=true then some (.inl false)
 else x6 (t8,akw,bl .i64 t10 1,bR,gz++t17,kf++t22)
 else none
 else none
 else none
 else some (.inr (bR,gz,kf))
  partial_fixpoint
theorem apb:ew 147 0 [0] afm x6:= .rx x6.partial_correctness (.k apA .n)
def Gk(t:au):Option (Bool):=
 x6 (t.al,(t.al.length:Int),0,t,[],[])>>=λo=>match o with
 |.inl bo=>
 some bo
 |.inr bt=>
 some (bif decide (bt.1.Kind=5)then true else decide (0<(bt.2.1.length:Int)))>>=λt62=>(if t62=true then K4 (bt.2.1,bt.2.2)else some false)>>=λr=>some (bif t62 then r else false)
theorem aoM:bU On Gk:= .ca (.k alO .n) (.k apb .n)
def Rv(t:au):Option (Bool):=
 if decide (t.Kind=1)=true then mq ((⟨0,t.Name,t.cA,t.cD,t.Max,t.bW,t.al,t.Key,t.a6,t.Open⟩:au),(⟨0,[],0,0,0,[],[],0,0,false⟩:au))>>=λr=>some r
 else if decide (t.Kind=2)=true then some (decide (t.cA<=t.cD))>>=λt17=>(if t17=true then mq ((⟨0,t.Name,0,0,t.Max,t.bW,t.al,t.Key,t.a6,t.Open⟩:au),(⟨0,[],0,0,0,[],[],0,0,false⟩:au))else some false)>>=λbT=>some (bif t17 then bT else false)
 else if decide (t.Kind=3)=true then some (bif decide (0<=t.Max)then decide (t.Max<=200)else false)>>=λt29=>(if t29=true then mq ((⟨0,t.Name,t.cA,t.cD,0,t.bW,t.al,t.Key,t.a6,t.Open⟩:au),(⟨0,[],0,0,0,[],[],0,0,false⟩:au))else some false)>>=λdZ=>some (bif t29 then dZ else false)
 else if decide (t.Kind=4)=true then se t.Name>>=λdF=>(if dF=true then KG t.bW else some false)>>=λez=>some (bif dF then ez else false)>>=λt40=>(if t40=true then mq ((⟨0,[],t.cA,t.cD,t.Max,[],t.al,t.Key,t.a6,false⟩:au),(⟨0,[],0,0,0,[],[],0,0,false⟩:au))else some false)>>=λhq=>some (bif t40 then hq else false)
 else some (decide (t.Kind=5))>>=λt45=>if t45=true then if t45=true then se t.Name>>=λiq=>(if iq=true then Gk t else some false)>>=λir=>some (bif iq then ir else false)>>=λt53=>(if t53=true then mq ((⟨0,[],t.cA,t.cD,t.Max,t.bW,[],t.Key,t.a6,bif t.Open then decide (t.Kind=5)else false⟩:au),(⟨0,[],0,0,0,[],[],0,0,false⟩:au))else some false)>>=λqP=>some (bif t53 then qP else false)
 else some (decide (t.Kind=7))>>=λt65=>if t65=true then if t65=true then some (bif decide (0<=t.Max)then decide (t.Max<=50)else false)>>=λt74=>if decide (t.Kind=8)=true then (if t74=true then mq ((⟨0,t.Name,t.cA,t.cD,0,t.bW,t.al,0,0,t.Open⟩:au),(⟨0,[],0,0,0,[],[],0,0,false⟩:au))else some false)>>=λtP=>some (bif t74 then tP else false)
 else (if t74=true then mq ((⟨0,t.Name,t.cA,t.cD,0,t.bW,t.al,t.Key,0,t.Open⟩:au),(⟨0,[],0,0,0,[],[],0,0,false⟩:au))else some false)>>=λfB=>some (bif t74 then fB else false)
 else if decide (t.Kind=9)=true then mq ((⟨0,t.Name,t.cA,t.cD,t.Max,t.bW,t.al,t.Key,0,t.Open⟩:au),(⟨0,[],0,0,0,[],[],0,0,false⟩:au))>>=λh3=>some h3
 else some false
 else if decide (t.Kind=8)=true then some (bif decide (0<=t.Max)then decide (t.Max<=50)else false)>>=λEs=>if decide (t.Kind=8)=true then (if Es=true then mq ((⟨0,t.Name,t.cA,t.cD,0,t.bW,t.al,0,0,t.Open⟩:au),(⟨0,[],0,0,0,[],[],0,0,false⟩:au))else some false)>>=λBL=>some (bif Es then BL else false)
 else (if Es=true then mq ((⟨0,t.Name,t.cA,t.cD,0,t.bW,t.al,t.Key,0,t.Open⟩:au),(⟨0,[],0,0,0,[],[],0,0,false⟩:au))else some false)>>=λg'=>
 some (bif Es then g' else false)
 else if decide (t.Kind=9)=true then mq ((⟨0,t.Name,t.cA,t.cD,t.Max,t.bW,t.al,t.Key,0,t.Open⟩:au),(⟨0,[],0,0,0,[],[],0,0,false⟩:au))>>=λlN=>some lN
 else some false
 else if decide (t.Kind=6)=true then se t.Name>>=λmI=>(if mI=true then Gk t else some false)>>=λrN=>some (bif mI then rN else false)>>=λM3=>(if M3=true then mq ((⟨0,[],t.cA,t.cD,t.Max,t.bW,[],t.Key,t.a6,bif t.Open then decide (t.Kind=5)else false⟩:au),(⟨0,[],0,0,0,[],[],0,0,false⟩:au))else some false)>>=λha=>some (bif M3 then ha else false)
 else some (decide (t.Kind=7))>>=λakr=>if akr=true then if akr=true then some (bif decide (0<=t.Max)then decide (t.Max<=50)else false)>>=λTB=>if decide (t.Kind=8)=true then (if TB=true then mq ((⟨0,t.Name,t.cA,t.cD,0,t.bW,t.al,0,0,t.Open⟩:au),(⟨0,[],0,0,0,[],[],0,0,false⟩:au))else some false)>>=λvk=>some (bif TB then vk else false)
 else (if TB=true then mq ((⟨0,t.Name,t.cA,t.cD,0,t.bW,t.al,t.Key,0,t.Open⟩:au),(⟨0,[],0,0,0,[],[],0,0,false⟩:au))else some false)>>=λtN=>some (bif TB then tN else false)
 else if decide (t.Kind=9)=true then mq ((⟨0,t.Name,t.cA,t.cD,t.Max,t.bW,t.al,t.Key,0,t.Open⟩:au),(⟨0,[],0,0,0,[],[],0,0,false⟩:au))>>=λjv=>some jv
 else some false
 else if decide (t.Kind=8)=true then some (bif decide (0<=t.Max)then decide (t.Max<=50)else false)>>=λTC=>if decide (t.Kind=8)=true then (if TC=true then mq ((⟨0,t.Name,t.cA,t.cD,0,t.bW,t.al,0,0,t.Open⟩:au),(⟨0,[],0,0,0,[],[],0,0,false⟩:au))else some false)>>=λjK=>some (bif TC then jK else false)
 else (if TC=true then mq ((⟨0,t.Name,t.cA,t.cD,0,t.bW,t.al,t.Key,0,t.Open⟩:au),(⟨0,[],0,0,0,[],[],0,0,false⟩:au))else some false)>>=λHC=>some (bif TC then HC else false)
 else if decide (t.Kind=9)=true then mq ((⟨0,t.Name,t.cA,t.cD,t.Max,t.bW,t.al,t.Key,0,t.Open⟩:au),(⟨0,[],0,0,0,[],[],0,0,false⟩:au))>>=λME=>some ME
 else some false
theorem aq1:bU N5 Rv:= .ca (.k apz (.k akP (.k aoL (.k aoM .n))))
def C8(aI:List bj×Int×Int×au×List Int):Option (au×List Int):=
 match aI with
 |(t7,M4,t9,bu,bR)=>
 if decide (t9<M4)=true then if bd t9 t7.length=true then some [(t7.getD t9.toNat aX).aQ]>>=λt16=>if room 8 (bR++t16).length=true then C8 (t7,M4,bl .i64 t9 1,bu,bR++t16)
 else none
 else none
 else some (bu,bR)
  partial_fixpoint
theorem aoN:ew 102 0 [0] afn C8:= .rx C8.partial_correctness
def Rw(t:au):Option (List Int):=
 C8 (t.al,(t.al.length:Int),0,t,[])>>=λo=>if decide (o.1.Kind=8)=true then some [o.1.Key]>>=λt25=>if room 8 (o.2++t25).length=true then some (o.2++t25)>>=λl=>if decide (7<=o.1.Kind)=true then some [o.1.a6]>>=λt33=>if room 8 (l++t33).length=true then some (l++t33)
 else none
 else some l
 else none
 else if decide (7<=o.1.Kind)=true then some [o.1.a6]>>=λako=>if room 8 (o.2++ako).length=true then some (o.2++ako)
 else none
 else some o.2
theorem aq2:bU N6 Rw:= .ca .n (.k aoN .n)
def x7(aI:List au×Int×Int×List Int×Int×Int×List au×List (List UInt8)×Int×List UInt8×Int×Int×Int×List fK×List bj×Int×Int×Bool):Option ((Int) ⊕ (List au×Int×Int×List au×List (List UInt8)×Int×List UInt8×Int×Int×Int×List fK×List bj×Int×Int×Bool)):=
 match aI with
 |(ajX,ajZ,MY,t38,M1,t40,oN,r2,xH,uq,vM,zL,zM,vN,zN,IT,zO,ur)=>
 if decide (t40<M1)=true then if bd t40 t38.length=true then some (t38.getD t40.toNat 0)>>=λlo=>if(bif decide (lo<0)then true else decide ((oN.length:Int)<=lo))=true then some (.inl 4)
 else x7 (ajX,ajZ,MY,t38,M1,bl .i64 t40 1,oN,r2,xH,uq,vM,zL,zM,vN,zN,IT,zO,ur)
 else none
 else some (.inr (ajX,ajZ,MY,oN,r2,xH,uq,vM,zL,zM,vN,zN,IT,zO,ur))
  partial_fixpoint
theorem apc:ew 58 0 [0,0] aeE x7:= .rx x7.partial_correctness
def Bk(aI:List au×Int×Int×List au×List (List UInt8)):Option ((Int) ⊕ (Unit)):=
 match aI with
 |(t14,zq,t16,b,aL)=>
 if decide (t16<zq)=true then if bd t16 t14.length=true then some (t14.getD t16.toNat a8)>>=λaw=>Rv aw>>=λr=>if(bif (!r)then true else bif (!(decide (aw.Name=[])))then ki aL aw.Name else false)=true then some (.inl 1)
 else Rw aw>>=λbT=>x7 (t14,zq,t16,bT,(bT.length:Int),0,b,n2 aL aw.Name,aw.Kind,aw.Name,aw.cA,aw.cD,aw.Max,aw.bW,aw.al,aw.Key,aw.a6,aw.Open)>>=λmG=>match mG with
 |.inl il=>
 some (.inl il)
 |.inr er=>
 some (decide (er.2.2.2.2.2.1=8))>>=λt56=>if(bd er.2.2.2.2.2.2.2.2.2.2.2.2.1 er.2.2.2.1.length||(!t56))=true then some (decide ((er.2.2.2.1.getD er.2.2.2.2.2.2.2.2.2.2.2.2.1.toNat a8).Kind<1))>>=λt65=>if(bd er.2.2.2.2.2.2.2.2.2.2.2.2.1 er.2.2.2.1.length||(!(t56&&(!t65))))=true then if(bif t56 then bif t65 then true else decide (4<(er.2.2.2.1.getD er.2.2.2.2.2.2.2.2.2.2.2.2.1.toNat a8).Kind)else false)=true then some (.inl 1)
 else Bk (er.1,er.2.1,bl .i64 er.2.2.1 1,er.2.2.2.1,er.2.2.2.2.1)
 else none
 else none
 else none
 else some (.inr ())
  partial_fixpoint
theorem aoW:ew 58 0 [0] agU Bk:= .rx Bk.partial_correctness (.k aq1 (.k aq2 .n)) (.k apc .n)
def wk(s:bY):Option (Int):=
 if decide (32<(s.Types.length:Int))=true then some 3
 else Bk (s.Types,(s.Types.length:Int),0,s.Types,[])>>=λo=>match o with
 |.inl bo=>
 some bo
 |.inr bt=>
 some 0
theorem C9:bU Pe wk:= .ca .n (.k aoW .n)
def Y6(v:ad):Option (ad):=
 if decide (v.Kind=1)=true then some (⟨v.Kind,v.cX,0,[],0,[],[],[]⟩:ad)
 else if decide (v.Kind=2)=true then some (⟨v.Kind,false,v.b5,[],0,[],[],[]⟩:ad)
 else if decide (v.Kind=3)=true then some (⟨v.Kind,false,0,v.ch,0,[],[],[]⟩:ad)
 else if decide (v.Kind=4)=true then some (⟨v.Kind,false,0,[],v.aq,[],[],[]⟩:ad)
 else if decide (v.Kind=5)=true then some (⟨v.Kind,false,0,[],0,[],v.aB,v.Rest⟩:ad)
 else if decide (v.Kind=6)=true then some (⟨v.Kind,false,0,[],v.aq,[],v.aB,v.Rest⟩:ad)
 else if decide (v.Kind=8)=true then some (⟨v.Kind,false,0,[],0,v.aZ,v.aB,[]⟩:ad)
 else some (decide (v.Kind=7))>>=λt57=>if t57=true then if t57=true then some (⟨v.Kind,false,0,[],0,[],v.aB,[]⟩:ad)
 else some (⟨v.Kind,false,0,[],0,[],[],[]⟩:ad)
 else if decide (v.Kind=9)=true then some (⟨v.Kind,false,0,[],0,[],v.aB,[]⟩:ad)
 else some (⟨v.Kind,false,0,[],0,[],[],[]⟩:ad)
theorem aqP:bU OF Y6:= .ca
def Lq(v:ad):Option (Bool):=
 Y6 (ad.eta v)>>=λr=>some (bif bif bif bif bif bif kh v.cX r.cX then decide (v.b5=r.b5)else false then decide (v.ch=r.ch)else false then decide (v.aq=r.aq)else false then decide ((v.aZ.length:Int)=(r.aZ.length:Int))else false then decide ((v.aB.length:Int)=(r.aB.length:Int))else false then decide ((v.Rest.length:Int)=(r.Rest.length:Int))else false)
theorem apB:bU Oe Lq:= .ca (.k aqP .n)
def Yt(aI:fK×Int):Option (Bool×Int):=
 match aI with
 |(aw,b)=>
 some (decide (aw.aq=b),b)
theorem aoX:bU Ou Yt:= .ca
def vX(aI:List fK×Int×Int×Int):Option ((Int×Int) ⊕ (Int)):=
 match aI with
 |(gp,lP,t8,bR)=>
 if decide (t8<lP)=true then if bd t8 gp.length=true then Yt (gp.getD t8.toNat jj,bR)>>=λr=>if r.1=true then some (.inl (t8,r.2))
 else vX (gp,lP,bl .i64 t8 1,r.2)
 else none
 else some (.inr bR)
  partial_fixpoint
theorem anB:ew 150 1 [0] afo vX:= .rx vX.partial_correctness (.k aoX .n)
def XE(aI:List fK×Int):Option (Int×Int):=
 match aI with
 |(s,b)=>
 vX (s,(s.length:Int),0,b)>>=λo=>match o with
 |.inl bo=>
 some (bo.1,bo.2)
 |.inr bt=>
 some ((-1),bt)
theorem anH:bU Ot XE:= .ca .n (.k anB .n)
def yc(aI:au×Int):Option (Int×Bool):=
 match aI with
 |(t,id)=>
 XE (t.bW,id)>>=λr=>some (tH r.1 0,decide (0<=r.1))
theorem KC:bU Oa yc:= .ca (.k anH .n)
def Di(id:Int):Option (Bool):=
 some (bif decide (1<=id)then decide (id<=1000)else false)
theorem alP:bU Of Di:= .ca
def Yu(aI:bj×Int):Option (Bool×Int):=
 match aI with
 |(m,b)=>
 some (decide (m.aq=b),b)
theorem aoY:bU Oj Yu:= .ca
def yj(aI:List bj×Int×Int×Int):Option ((Int×Int) ⊕ (Int)):=
 match aI with
 |(gp,lP,t8,bR)=>
 if decide (t8<lP)=true then if bd t8 gp.length=true then some (gp.getD t8.toNat aX)>>=λaw=>Yu ((⟨aw.aq,aw.Name,aw.aQ,aw.dq,aw.cV,ad.eta aw.cB⟩:bj),bR)>>=λr=>if r.1=true then some (.inl (t8,r.2))
 else yj (gp,lP,bl .i64 t8 1,r.2)
 else none
 else some (.inr bR)
  partial_fixpoint
theorem anC:ew 142 1 [0] afp yj:= .rx yj.partial_correctness (.k aoY .n)
def XG(aI:List bj×Int):Option (Int×Int):=
 match aI with
 |(s,b)=>
 yj (s,(s.length:Int),0,b)>>=λo=>match o with
 |.inl bo=>
 some (bo.1,bo.2)
 |.inr bt=>
 some ((-1),bt)
theorem anI:bU Oi XG:= .ca .n (.k anC .n)
def kG(aI:au×Int):Option (Int×Bool):=
 match aI with
 |(t,id)=>
 XG (t.al,id)>>=λr=>some (tH r.1 0,decide (0<=r.1))
theorem ra:bU Ps kG:= .ca (.k anI .n)
def yd(aI:Bool×List dD×Int×Int×List au×ad×Int×List UInt8×Int×Int×Int×List fK×List bj×Int×Int×Bool):Option ((Bool) ⊕ (Bool×List au×Int×Bool×Int×List UInt8×Int×List ad×List ad×List dD×Int×List UInt8×Int×Int×Int×List fK×List bj×Int×Int×Bool)):=
 match aI with
 |(aju,t111,ajR,t113,q8,lA,qk,ql,pD,l0,s4,s5,r3,xI,xJ,xK)=>
 if decide (t113<ajR)=true then if bd t113 t111.length=true then some (t111.getD t113.toNat gi)>>=λoG=>kG ((⟨qk,ql,pD,l0,s4,s5,r3,xI,xJ,xK⟩:au),oG.aq)>>=λlN=>(if(!lN.2)=true then Di oG.aq else some false)>>=λha=>some (bif lN.2 then true else(!ha))>>=λt131=>some (decide (0<t113))>>=λt134=>some (gq .i64 t113 1)>>=λt141=>if(bd t141 lA.Rest.length||(!((!t131)&&t134)))=true then if(bif t131 then true else bif t134 then decide (oG.aq<=(lA.Rest.getD t141.toNat gi).aq)else false)=true then some (.inl false)
 else yd (aju,t111,ajR,bl .i64 t113 1,q8,ad.eta lA,qk,ql,pD,l0,s4,s5,r3,xI,xJ,xK)
 else none
 else none
 else some (.inr (aju,q8,lA.Kind,lA.cX,lA.b5,lA.ch,lA.aq,lA.aZ,lA.aB,lA.Rest,qk,ql,pD,l0,s4,s5,r3,xI,xJ,xK))
  partial_fixpoint
theorem aqm:ew 92 0 [0] ag3 yd:= .rx yd.partial_correctness (.k ra (.k alP .n))
def SU(aw:Int):Option (Bool):=
 some (!(decide (aw=aw)))
theorem arX:bU OY SU:= .ca
def Rx(aI:Int×Int):Option (Int):=
 match aI with
 |(aw,y)=>
 SU aw>>=λr=>SU y>>=λbT=>if r=true then if bT=true then some 0
 else some (-1)
 else if bT=true then some 1
 else if decide (aw<y)=true then some (-1)
 else if decide (y<aw)=true then some 1
 else some 0
theorem aq3:bU OG Rx:= .ca (.k arX .n)
def Ry(aw:Int):Option (Bool):=
 some (!(decide (aw=aw)))
theorem aq4:bU Oh Ry:= .ca
def Lj(aI:Int×Int):Option (Int):=
 match aI with
 |(aw,y)=>
 Ry aw>>=λr=>Ry y>>=λbT=>if r=true then if bT=true then some 0
 else some (-1)
 else if bT=true then some 1
 else if decide (aw<y)=true then some (-1)
 else if decide (y<aw)=true then some 1
 else some 0
theorem aqn:bU Pq Lj:= .ca (.k aq4 .n)
def Rz(aw:List UInt8):Option (Bool):=
 some (!(decide (aw=aw)))
theorem aq5:bU OZ Rz:= .ca
def QU(aI:List UInt8×List UInt8):Option (Int):=
 match aI with
 |(aw,y)=>
 Rz aw>>=λr=>Rz y>>=λbT=>if r=true then if bT=true then some 0
 else some (-1)
 else if bT=true then some 1
 else if Op.bytesLess aw y=true then some (-1)
 else if(!(Op.bytesLess aw y||decide (aw=y)))=true then some 1
 else some 0
theorem apH:bU OI QU:= .ca (.k aq5 .n)
def A0(aI:Int×List Int×Int×Int):Option ((Int) ⊕ (Int)):=
 match aI with
 |(aa8,t6,lP,t8)=>
 if decide (t8<lP)=true then if bd t8 t6.length=true then some (t6.getD t8.toNat 0)>>=λaw=>if(!(decide (aw=aa8)))=true then some (.inl aw)
 else A0 (aa8,t6,lP,bl .i64 t8 1)
 else none
 else some (.inr aa8)
  partial_fixpoint
theorem arY:ew 192 0 [0] afq A0:= .rx A0.partial_correctness
def Tv(akG:List Int):Option (Int):=
 A0 (0,akG,(akG.length:Int),0)>>=λo=>match o with
 |.inl bo=>
 some bo
 |.inr bt=>
 some bt
theorem atL:bU OH Tv:= .ca .n (.k arY .n)
def Gm(n:Int):Option (Int):=
 some (Ex .u64 (vq .u64 (cU .u64 n) 1) (cU .u64 (sM .i64 n 63)))
theorem ak6:bU Pa Gm:= .ca
def Br(aI:ad×ad):Option (Int):=
 match aI with
 |(a,b)=>
 if(!(decide (a.Kind=b.Kind)))=true then some 0
 else if decide (a.Kind=1)=true then if kh a.cX b.cX=true then some 0
 else if b.cX=true then some (-1)
 else some 1
 else if decide (a.Kind=2)=true then Gm a.b5>>=λr=>Gm b.b5>>=λbT=>Rx (r,bT)>>=λdZ=>some dZ
 else if decide (a.Kind=3)=true then Lj ((a.ch.length:Int),(b.ch.length:Int))>>=λdF=>QU (a.ch,b.ch)>>=λez=>Tv [dF,ez]>>=λhq=>some hq
 else if decide (a.Kind=4)=true then Lj (a.aq,b.aq)>>=λiq=>some iq
 else some 0
theorem ak7:bU Og Br:= .ca (.k ak6 (.k aq3 (.k aqn (.k apH (.k atL .n)))))
def ye(aI:Bool×Int×List au×ad×Int×List UInt8×Int×Int×Int×List fK×List bj×Int×Int×Bool):Option ((Bool) ⊕ (Bool×List au×ad×Int×List UInt8×Int×Int×Int×List fK×List bj×Int×Int×Bool)):=
 match aI with
 |(ajw,i,q9,qm,vO,vP,vQ,qn,qo,qp,n5,n9,oP,oQ)=>
 if decide (i<(qm.aZ.length:Int))=true then some (gq .i64 i 1)>>=λt291=>if bd t291 qm.aZ.length=true then if bd i qm.aZ.length=true then Br (ad.eta (qm.aZ.getD t291.toNat aY),ad.eta (qm.aZ.getD i.toNat aY))>>=λtN=>if decide (0<=tN)=true then some (.inl false)
 else ye (ajw,bl .i64 i 1,q9,ad.eta qm,vO,vP,vQ,qn,qo,qp,n5,n9,oP,oQ)
 else none
 else none
 else some (.inr (ajw,q9,ad.eta qm,vO,vP,vQ,qn,qo,qp,n5,n9,oP,oQ))
  partial_fixpoint
theorem apI:ew 92 0 [2] ag4 ye:= .rx ye.partial_correctness (.k ak7 .n)
mutual
def Rk(aI:List ad×List au×Int×Bool):Option (Bool×List au×Int×Bool):=
 match aI with
 |(s,b,aL,bu)=>
 XI (s,b,aL,bu)>>=λr=>some (decide (0<=r.1),r.2.1,r.2.2.1,r.2.2.2)
  partial_fixpoint
def XI(aI:List ad×List au×Int×Bool):Option (Int×List au×Int×Bool):=
 match aI with
 |(s,b,aL,bu)=>
 Aa (s,(s.length:Int),0,b,aL,bu)>>=λo=>match o with
 |.inl bo=>
 some (bo.1,bo.2.1,bo.2.2.1,bo.2.2.2)
 |.inr bt=>
 some ((-1),bt.1,bt.2.1,bt.2.2)
  partial_fixpoint
def AX(aI:bY×Int×List ad×Bool):Option (Bool):=
 match aI with
 |(s,t,l,plain)=>
 Rk (l,s.Types,t,plain)>>=λr=>some (!r.1)
  partial_fixpoint
def Yr(aI:ad×List au×Int×Bool):Option (Bool×List au×Int×Bool):=
 match aI with
 |(v,b,aL,bu)=>
 ys ((⟨b⟩:bY),aL,ad.eta v,bu)>>=λr=>some ((!r),b,aL,bu)
  partial_fixpoint
def ys(aI:bY×Int×ad×Bool):Option (Bool):=
 match aI with
 |(s,t,v,plain)=>
 if(bif decide (t<0)then true else decide ((s.Types.length:Int)<=t))=true then some false
 else if bd t s.Types.length=true then some (s.Types.getD t.toNat a8)>>=λaw=>some (!(decide (v.Kind=aw.Kind)))>>=λt39=>(if(!t39)=true then Lq (ad.eta v)else some false)>>=λr=>if(bif t39 then true else(!r))=true then some false
 else if decide (aw.Kind=2)=true then some (bif decide (aw.cA<=v.b5)then decide (v.b5<=aw.cD)else false)
 else if decide (aw.Kind=3)=true then some (decide ((v.ch.length:Int)<=aw.Max))
 else if decide (aw.Kind=4)=true then yc (aw,v.aq)>>=λbT=>some (bif aw.Open then(!plain)else false)>>=λt85=>(if((!bT.2)&&t85)=true then Di v.aq else some false)>>=λez=>some (bif bT.2 then true else bif t85 then ez else false)
 else if decide (aw.Kind=5)=true then if(bif (!(decide ((v.aB.length:Int)=(aw.al.length:Int))))then true else bif plain then decide (0<(v.Rest.length:Int))else false)=true then some false
 else yd (plain,v.Rest,(v.Rest.length:Int),0,s.Types,ad.eta v,aw.Kind,aw.Name,aw.cA,aw.cD,aw.Max,aw.bW,aw.al,aw.Key,aw.a6,aw.Open)>>=λo=>match o with
 |.inl bo=>
 some bo
 |.inr bt=>
 Bs (bt.1,bt.2.2.2.2.2.2.2.2.2.2.2.2.2.2.2.2.1,(bt.2.2.2.2.2.2.2.2.2.2.2.2.2.2.2.2.1.length:Int),0,bt.2.1,bt.2.2.1,bt.2.2.2.1,bt.2.2.2.2.1,bt.2.2.2.2.2.1,bt.2.2.2.2.2.2.1,bt.2.2.2.2.2.2.2.1,bt.2.2.2.2.2.2.2.2.1,bt.2.2.2.2.2.2.2.2.2.1)>>=λmG=>match mG with
 |.inl il=>
 some il
 |.inr er=>
 some true
 else if decide (aw.Kind=6)=true then kG (aw,v.aq)>>=λhq=>if hq.2=true then some (bif decide ((v.aB.length:Int)=1)then decide ((v.Rest.length:Int)=0)else false)>>=λt188=>if(bd hq.1 aw.al.length||(!t188))=true then if(bd 0 v.aB.length||(!t188))=true then (if t188=true then ys ((⟨s.Types⟩:bY),(aw.al.getD hq.1.toNat aX).aQ,ad.eta (v.aB.getD (0:Int).toNat aY),plain)else some false)>>=λqP=>some (bif t188 then qP else false)
 else none
 else none
 else some (bif aw.Open then(!plain)else false)>>=λt209=>(if t209=true then Di v.aq else some false)>>=λtP=>some (bif bif bif t209 then tP else false then decide ((v.aB.length:Int)=0)else false then decide ((v.Rest.length:Int)=1)else false)>>=λt226=>if(bd 0 v.Rest.length||(!t226))=true then some (bif t226 then decide ((v.Rest.getD (0:Int).toNat gi).aq=v.aq)else false)
 else none
 else if decide (aw.Kind=7)=true then some (decide ((v.aB.length:Int)<=aw.Max))>>=λt244=>(if t244=true then AX ((⟨s.Types⟩:bY),aw.a6,v.aB,plain)else some false)>>=λfB=>some (bif t244 then fB else false)
 else if decide (aw.Kind=8)=true then some (bif decide (aw.Max<(v.aZ.length:Int))then true else(!(decide ((v.aB.length:Int)=(v.aZ.length:Int)))))>>=λt270=>(if(!t270)=true then AX ((⟨s.Types⟩:bY),aw.Key,v.aZ,plain)else some false)>>=λh3=>if(bif t270 then true else(!h3))=true then some false
 else ye (plain,1,s.Types,ad.eta v,aw.Kind,aw.Name,aw.cA,aw.cD,aw.Max,aw.bW,aw.al,aw.Key,aw.a6,aw.Open)>>=λW4=>match W4 with
 |.inl BI=>
 some BI
 |.inr p5=>
 AX ((⟨p5.2.1⟩:bY),p5.2.2.2.2.2.2.2.2.2.2.2.1,p5.2.2.1.aB,p5.1)>>=λBL=>some BL
 else if decide (aw.Kind=9)=true then some (decide ((v.aB.length:Int)<=1))>>=λt313=>(if t313=true then AX ((⟨s.Types⟩:bY),aw.a6,v.aB,plain)else some false)>>=λg'=>
 some (bif t313 then g' else false)
 else some true
 else none
  partial_fixpoint
def Aa(aI:List ad×Int×Int×List au×Int×Bool):Option ((Int×List au×Int×Bool) ⊕ (List au×Int×Bool)):=
 match aI with
 |(gp,lP,t8,kO,IC,IM)=>
 if decide (t8<lP)=true then if bd t8 gp.length=true then Yr (ad.eta (gp.getD t8.toNat aY),kO,IC,IM)>>=λr=>if r.1=true then some (.inl (t8,r.2.1,r.2.2.1,r.2.2.2))
 else Aa (gp,lP,bl .i64 t8 1,r.2.1,r.2.2.1,r.2.2.2)
 else none
 else some (.inr (kO,IC,IM))
  partial_fixpoint
def Bs(aI:Bool×List bj×Int×Int×List au×Int×Bool×Int×List UInt8×Int×List ad×List ad×List dD):Option ((Bool) ⊕ (Unit)):=
 match aI with
 |(ajv,t150,ajY,t152,zP,Cm,Cn,s6,s7,oO,jW,n4,mT)=>
 if decide (t152<ajY)=true then if bd t152 t150.length=true then if bd t152 n4.length=true then ys ((⟨zP⟩:bY),(t150.getD t152.toNat aX).aQ,ad.eta (n4.getD t152.toNat aY),ajv)>>=λvk=>if(!vk)=true then some (.inl false)
 else Bs (ajv,t150,ajY,bl .i64 t152 1,zP,Cm,Cn,s6,s7,oO,jW,n4,mT)
 else none
 else none
 else some (.inr ())
  partial_fixpoint
end
theorem anD:iv Hc Rk/\iv Hb XI/\jT 237 3 [0] Md Aa/\iv Fj Yr/\iv xV ys/\iv Fi AX/\jT 92 0 [1] Jk Bs:=Rk.mutual_partial_correctness (h6 Hc) (h6 Hb) (jR 237 3 [0] Md) (h6 Fj) (h6 xV) (h6 Fi) (jR 92 0 [1] Jk)
 (λ_ h1 _ _ h=>iK h (.k (ev Hb h1) .n))
 (λ_ aa _ _ h=>iK h .n (.k (kD Md aa) .n))
 (λ_ _ aa aA _ _ h=>kC Md aa h (.k (ev Fj aA) .n))
 (λ_ aU _ _ h=>iK h (.k (ev xV aU) .n))
 (λ_ _ _ aU bN dO _ _ h=>iK h (.k apB (.k KC (.k alP (.k ra (.k (ev xV aU) (.k (ev Fi bN) .n)))))) (.k aqm (.k (kD Jk dO) (.k apI .n))))
 (λ_ h0 _ _ h=>iK h (.k (ev Hc h0) .n))
 (λ_ _ aU dO _ _ h=>kC Jk dO h (.k (ev xV aU) .n))
theorem alQ:bU xV ys:=ev _ anD.2.2.2.2.1
def G2(aI:bY×Int×ad):Option (Bool):=
 match aI with
 |(s,t,v)=>
 ys (s,t,ad.eta v,true)>>=λr=>some r
theorem amd:bU Pj G2:= .ca (.k alQ .n)
def An(aI:Int×List au×Int×Int×List bj×Int×Int×List au):Option ((Int×Int×Int) ⊕ (List au×Int×Int×List au)):=
 match aI with
 |(i,MY,akj,akl,t24,akm,t26,bu)=>
 if decide (t26<akm)=true then if bd t26 t24.length=true then some (t24.getD t26.toNat aX)>>=λcE=>(if cE.cV=true then G2 ((⟨bu⟩:bY),cE.aQ,ad.eta cE.cB)else some false)>>=λbT=>if(bif cE.cV then(!bT)else false)=true then some (.inl (i,cE.aq,1))
 else An (i,MY,akj,akl,t24,akm,bl .i64 t26 1,bu)
 else none
 else some (.inr (MY,akj,akl,bu))
  partial_fixpoint
theorem an5:ew 245 0 [0,0] adq An:= .rx An.partial_correctness (.k amd .n)
def DF(aI:List au×Int×Int×List au):Option ((Int×Int×Int) ⊕ (Unit)):=
 match aI with
 |(t16,BS,t18,b)=>
 if decide (t18<BS)=true then if bd t18 t16.length=true then some (t16.getD t18.toNat a8)>>=λaw=>An (t18,t16,BS,t18,aw.al,(aw.al.length:Int),0,b)>>=λmG=>match mG with
 |.inl il=>
 some (.inl (il.1,il.2.1,il.2.2))
 |.inr er=>
 DF (er.1,er.2.1,bl .i64 er.2.2.1 1,er.2.2.2)
 else none
 else some (.inr ())
  partial_fixpoint
theorem apd:ew 245 0 [0] afr DF:= .rx DF.partial_correctness .n (.k an5 .n)
def YG(s:bY):Option (Int×Int×Int):=
 wk s>>=λr=>if(!(decide (r=0)))=true then some (0,0,r)
 else DF (s.Types,(s.Types.length:Int),0,s.Types)>>=λo=>match o with
 |.inl bo=>
 some (bo.1,bo.2.1,bo.2.2)
 |.inr bt=>
 some (0,0,0)
theorem ap3:bU O2 YG:= .ca (.k C9 .n) (.k apd .n)
def QV(s:bY):Option (Int):=
 wk s>>=λr=>if(!(decide (r=0)))=true then some r
 else YG s>>=λbT=>some bT.2.2
theorem apJ:bU OW QV:= .ca (.k C9 (.k ap3 .n))
def C2(aI:Int×List bj×Int×Int×List Int):Option (Int×List Int):=
 match aI with
 |(agu,t33,M0,t35,bR)=>
 if decide (t35<M0)=true then if bd t35 t33.length=true then some (t33.getD t35.toNat aX)>>=λcE=>if bd cE.aQ bR.length=true then if decide (cE.aQ.toNat<bR.length)=true then C2 (fV 2 (rE .i64 agu (bR.getD cE.aQ.toNat 0)),t33,M0,bl .i64 t35 1,bR)
 else none
 else none
 else none
 else some (agu,bR)
  partial_fixpoint
theorem apr:ew 246 1 [0] afs C2:= .rx C2.partial_correctness
def C3(aI:Int×List bj×Int×Int×List Int):Option (Int×List Int):=
 match aI with
 |(agv,t52,M3,t54,gz)=>
 if decide (t54<M3)=true then if bd t54 t52.length=true then some (t52.getD t54.toNat aX)>>=λqa=>if bd qa.aQ gz.length=true then if decide (qa.aQ.toNat<gz.length)=true then C3 (bl .i64 agv (gz.getD qa.aQ.toNat 0),t52,M3,bl .i64 t54 1,gz)
 else none
 else none
 else none
 else some (agv,gz)
  partial_fixpoint
theorem aps:ew 246 1 [1] aft C3:= .rx C3.partial_correctness
def RS(aI:au×List Int):Option (Int×List Int):=
 match aI with
 |(aw,b)=>
 if decide (aw.Kind=2)=true then if decide (aw.cA=aw.cD)=true then some (1,b)
 else some (2,b)
 else if decide (aw.Kind=3)=true then if decide (aw.Max=0)=true then some (1,b)
 else some (2,b)
 else if decide (aw.Kind=4)=true then some ((aw.bW.length:Int),b)
 else if decide (aw.Kind=5)=true then C2 (1,aw.al,(aw.al.length:Int),0,b)>>=λo=>some (o.1,o.2)
 else if decide (aw.Kind=6)=true then C3 (0,aw.al,(aw.al.length:Int),0,b)>>=λbo=>some (bo.1,bo.2)
 else if decide (aw.Kind=7)=true then some (decide (aw.Max=0))>>=λt71=>if(bd aw.a6 b.length||(!(!t71)))=true then if(decide (aw.a6.toNat<b.length)||(!(!t71)))=true then if(bif t71 then true else decide (b.getD aw.a6.toNat 0=0))=true then some (1,b)
 else some (2,b)
 else none
 else none
 else if decide (aw.Kind=8)=true then some (decide (aw.Max=0))>>=λt84=>if(bd aw.a6 b.length||(!(!t84)))=true then if(decide (aw.a6.toNat<b.length)||(!(!t84)))=true then some (bif t84 then true else decide (b.getD aw.a6.toNat 0=0))>>=λt92=>if(bd aw.Key b.length||(!(!t92)))=true then if(decide (aw.Key.toNat<b.length)||(!(!t92)))=true then if(bif t92 then true else decide (b.getD aw.Key.toNat 0=0))=true then some (1,b)
 else some (2,b)
 else none
 else none
 else none
 else none
 else if decide (aw.Kind=9)=true then if bd aw.a6 b.length=true then if decide (aw.a6.toNat<b.length)=true then some (bl .i64 1 (b.getD aw.a6.toNat 0),b)
 else none
 else none
 else some (2,b)
theorem apK:bU O3 RS:= .ca .n (.k apr (.k aps .n))
def x4(aI:Bool×List au×Int×Int×List au×List Int):Option (Bool×List au×List Int):=
 match aI with
 |(agw,t14,zq,t16,kf,iy)=>
 if decide (t16<zq)=true then if bd t16 t14.length=true then RS (t14.getD t16.toNat a8,iy)>>=λr=>if(decide (r.2.length=iy.length)&&true)=true then some (fV 2 r.1)>>=λt24=>if bd t16 r.2.length=true then if decide (t16.toNat<r.2.length)=true then if(!(decide (t24=r.2.getD t16.toNat 0)))=true then if bd t16 r.2.length=true then if decide (t16.toNat<r.2.length)=true then x4 (true,t14,zq,bl .i64 t16 1,kf,r.2.set t16.toNat t24)
 else none
 else none
 else x4 (agw,t14,zq,bl .i64 t16 1,kf,r.2)
 else none
 else none
 else none
 else none
 else some (agw,kf,iy)
  partial_fixpoint
theorem an6:ew 221 0 [0,0] adr x4:= .rx x4.partial_correctness (.k apK .n)
def DG(aI:Bool×List au×List Int):Option (List Int):=
 match aI with
 |(changed,aL,bu)=>
 if changed=true then x4 (false,aL,(aL.length:Int),0,aL,bu)>>=λbo=>DG (bo.1,bo.2.1,bo.2.2)
 else some bu
  partial_fixpoint
theorem ape:ew 221 0 [0] afu DG:= .rx DG.partial_correctness .n (.k an6 .n)
def Ra(s:bY):Option (List Int):=
 some (s.Types.length:Int)>>=λt10=>if Hh 8 t10=true then DG (true,s.Types,List.replicate t10.toNat 0)>>=λo=>some o
 else none
theorem ap4:bU OX Ra:= .ca .n (.k ape .n)
def DH(aI:List Int×Int×Int×List Bool):Option (List Bool):=
 match aI with
 |(t14,zq,t16,aL)=>
 if decide (t16<zq)=true then if bd t16 t14.length=true then some [decide (0<t14.getD t16.toNat 0)]>>=λt23=>if room 1 (aL++t23).length=true then DH (t14,zq,bl .i64 t16 1,aL++t23)
 else none
 else none
 else some aL
  partial_fixpoint
theorem apf:ew 165 0 [0] afv DH:= .rx DH.partial_correctness
def YH(s:bY):Option (List Bool×Int):=
 QV s>>=λr=>if(!(decide (r=0)))=true then some ([],r)
 else Ra s>>=λbT=>DH (bT,(bT.length:Int),0,[])>>=λo=>some (o,0)
theorem ap5:bU OD YH:= .ca (.k apJ (.k ap4 .n)) (.k apf .n)
def C4(aI:List Bool×Int×Int):Option ((Int) ⊕ (Unit)):=
 match aI with
 |(t15,rR,t17)=>
 if decide (t17<rR)=true then if bd t17 t15.length=true then if(!(t15.getD t17.toNat false))=true then some (.inl 10)
 else C4 (t15,rR,bl .i64 t17 1)
 else none
 else some (.inr ())
  partial_fixpoint
theorem apt:ew 120 0 [0] afw C4:= .rx C4.partial_correctness
def RT(s:bY):Option (Int):=
 YH s>>=λr=>if(!(decide (r.2=0)))=true then some r.2
 else C4 (r.1,(r.1.length:Int),0)>>=λo=>match o with
 |.inl bo=>
 some bo
 |.inr bt=>
 some 0
theorem apL:bU zR RT:= .ca (.k ap5 .n) (.k apt .n)
def KH(aI:bY×Int):Option (Int):=
 match aI with
 |(s,t)=>
 RT s>>=λr=>if(!(decide (r=0)))=true then some r
 else if(bif decide (t<0)then true else decide ((s.Types.length:Int)<=t))=true then some 4
 else some 0
theorem ap6:bU Pk KH:= .ca (.k apL .n)
def RU(aI:cG×cG):Option (Int):=
 match aI with
 |(w,r)=>
 KH (w.hQ,w.aQ)>>=λbT=>if(!(decide (bT=0)))=true then some bT
 else KH (r.hQ,r.aQ)>>=λdZ=>some dZ
theorem apM:bU O5 RU:= .ca (.k ap6 .n)
def vY(aI:Int×Int×List b3×b3):Option ((Int×List b3) ⊕ (List b3)):=
 match aI with
 |(lP,t8,bR,gz)=>
 if decide (t8<lP)=true then if bd t8 bR.length=true then if decide (t8.toNat<bR.length)=true then if(gu gz.cw (bR.getD t8.toNat fE).cw&&(gu gz.cd (bR.getD t8.toNat fE).cd&&true))=true then some (.inl (t8,bR))
 else vY (lP,bl .i64 t8 1,bR,gz)
 else none
 else none
 else some (.inr bR)
  partial_fixpoint
theorem ank:ew 128 1 [0] ads vY:= .rx vY.partial_correctness
def XK(aI:b3×List b3):Option (Int×List b3):=
 match aI with
 |(v,b)=>
 vY ((b.length:Int),0,b,v)>>=λo=>match o with
 |.inl bo=>
 some (bo.1,bo.2)
 |.inr bt=>
 some ((-1),bt)
theorem aow:bU Tu XK:= .ca .n (.k ank .n)
def Rm(aI:b3×List b3):Option (Bool×List b3):=
 match aI with
 |(v,b)=>
 XK (v,b)>>=λr=>if(decide (r.2.length=b.length)&&true)=true then some (decide (0<=r.1),r.2)
 else none
theorem anl:bU Ph Rm:= .ca (.k aow .n)
def Dz(aI:Int×Int×List b3):Option (List b3):=
 match aI with
 |(a,b,aL)=>
 Rm ((⟨a,b⟩:b3),aL)>>=λr=>if(decide (r.2.length=aL.length)&&true)=true then if(!r.1)=true then some [(⟨a,b⟩:b3)]>>=λt15=>if room 16 (r.2++t15).length=true then some (r.2++t15)
 else none
 else some r.2
 else none
theorem aln:bU Od Dz:= .ca (.k anl .n)
def Ai(aI:List bj×Int×Int×au×au×List b3):Option (au×au×List b3):=
 match aI with
 |(t35,zr,t37,bR,gz,kf)=>
 if decide (t37<zr)=true then if bd t37 t35.length=true then some (t35.getD t37.toNat aX)>>=λqa=>kG (gz,qa.aq)>>=λez=>if ez.2=true then if bd ez.1 gz.al.length=true then Dz (qa.aQ,(gz.al.getD ez.1.toNat aX).aQ,kf)>>=λir=>Ai (t35,zr,bl .i64 t37 1,bR,gz,ir)
 else none
 else Ai (t35,zr,bl .i64 t37 1,bR,gz,kf)
 else none
 else some (bR,gz,kf)
  partial_fixpoint
theorem aoq:ew 86 0 [0] agY Ai:= .rx Ai.partial_correctness (.k ra (.k aln .n))
def Ko(aI:bY×Int×bY×Int):Option (List b3):=
 match aI with
 |(w,wt,r,rt)=>
 if bd wt w.Types.length=true then some (w.Types.getD wt.toNat a8)>>=λaw=>if bd rt r.Types.length=true then some (r.Types.getD rt.toNat a8)>>=λcE=>if(!(decide (aw.Kind=cE.Kind)))=true then some []
 else Ai (aw.al,(aw.al.length:Int),0,aw,cE,[])>>=λo=>if(bif decide (o.1.Kind=8)then decide (0<o.1.Max)else false)=true then Dz (o.1.Key,o.2.1.Key,o.2.2)>>=λbT=>if(bif decide (o.1.Kind=9)then true else bif bif decide (o.1.Kind=7)then true else decide (o.1.Kind=8)then decide (0<o.1.Max)else false)=true then Dz (o.1.a6,o.2.1.a6,bT)>>=λdZ=>some dZ
 else some bT
 else if(bif decide (o.1.Kind=9)then true else bif bif decide (o.1.Kind=7)then true else decide (o.1.Kind=8)then decide (0<o.1.Max)else false)=true then Dz (o.1.a6,o.2.1.a6,o.2.2)>>=λdF=>some dF
 else some o.2.2
 else none
 else none
theorem an7:bU Fp Ko:= .ca (.k aln .n) (.k aoq .n)
def XC(aI:cG×cG):Option (List b3×List Int):=SV Ko aI
theorem apu:bU agM XC:=ab7 an7
def Lk(aw:au):Option (Int):=
 if decide (aw.Kind=1)=true then some 2
 else if decide (aw.Kind=2)=true then some (gq .u64 (cU .u64 aw.cD) (cU .u64 aw.cA))>>=λt16=>if decide (t16<2147483647)=true then some (bl .i64 (cU .i64 t16) 1)
 else some 2147483647
 else if decide (aw.Kind=4)=true then some (aw.bW.length:Int)
 else if decide (aw.Kind=3)=true then if decide (aw.Max=0)=true then some 1
 else some 2147483647
 else some 2147483647
theorem apN:bU Pl Lk:= .ca
def Ao(aI:List fK×Int×Int×au×au):Option ((Bool) ⊕ (au×au)):=
 match aI with
 |(t16,BS,t18,bu,bR)=>
 if decide (t18<BS)=true then if bd t18 t16.length=true then yc (bR,(t16.getD t18.toNat jj).aq)>>=λr=>if(!r.2)=true then some (.inl false)
 else Ao (t16,BS,bl .i64 t18 1,bu,bR)
 else none
 else some (.inr (bu,bR))
  partial_fixpoint
theorem an8:ew 88 0 [0] agZ Ao:= .rx Ao.partial_correctness (.k KC .n)
def Ap(aI:List bj×Int×Int×au):Option ((Bool) ⊕ (Unit)):=
 match aI with
 |(t33,M0,t35,gz)=>
 if decide (t35<M0)=true then if bd t35 t33.length=true then kG (gz,(t33.getD t35.toNat aX).aq)>>=λdF=>if(!dF.2)=true then some (.inl false)
 else Ap (t33,M0,bl .i64 t35 1,gz)
 else none
 else some (.inr ())
  partial_fixpoint
theorem an9:ew 88 0 [1] ag0 Ap:= .rx Ap.partial_correctness (.k ra .n)
def KB(aI:au×au):Option (Bool):=
 match aI with
 |(aw,y)=>
 if y.Open=true then some true
 else Ao (aw.bW,(aw.bW.length:Int),0,aw,y)>>=λo=>match o with
 |.inl bo=>
 some bo
 |.inr bt=>
 Ap (bt.1.al,(bt.1.al.length:Int),0,bt.2)>>=λmG=>match mG with
 |.inl il=>
 some il
 |.inr er=>
 some true
theorem apv:bU Pm KB:= .ca .n (.k an8 (.k an9 .n))
def KI(aI:bY×Int):Option (Int):=
 match aI with
 |(s,t)=>
 wk s>>=λr=>if(!(decide (r=0)))=true then some r
 else if(bif decide (t<0)then true else decide ((s.Types.length:Int)<=t))=true then some 4
 else some 0
theorem ap7:bU Ob KI:= .ca (.k C9 .n)
def RV(aI:bY×Int×ad×bY×Int):Option (Int):=
 match aI with
 |(w,wt,v,r,rt)=>
 KI (w,wt)>>=λbT=>if(!(decide (bT=0)))=true then some bT
 else KI (r,rt)>>=λdZ=>if(!(decide (dZ=0)))=true then some dZ
 else G2 (w,wt,ad.eta v)>>=λdF=>if(!dF)=true then some 1
 else some 0
theorem apO:bU Pf RV:= .ca (.k ap7 (.k amd .n))
def DI(aI:List au×List au×List Int×List Int):Option (ad×Bool×List au×List au×List Int×List Int):=
 match aI with
 |(b,aL,bu,bR)=>
 D0 8 bR>>=λr=>if(decide (r.1.length=bR.length)&&true)=true then some ((⟨0,false,0,[],0,[],[],[]⟩:ad),false,b,aL,r.1,r.2)
 else none
theorem alv:bU Oc DI:= .ca (.k tm .n)
def Gg(aI:Int×List au×List au×List Int×List Int):Option (ad×Bool×List au×List au×List Int×List Int):=
 match aI with
 |(id,b,aL,bu,bR)=>
 D0 8 bR>>=λr=>if(decide (r.1.length=bR.length)&&true)=true then some [id]>>=λt13=>if room 8 (r.2++t13).length=true then some ((⟨0,false,0,[],0,[],[],[]⟩:ad),false,b,aL,r.1,r.2++t13)
 else none
 else none
theorem alp:bU OB Gg:= .ca (.k tm .n)
mutual
def rb(v:ad):Option (ad):=
 iS 120 v.aZ>>=λr=>iS 120 v.aB>>=λbT=>iS 24 v.Rest>>=λdZ=>DJ ((r.length:Int),0,v.Kind,v.cX,v.b5,v.ch,v.aq,0,false,0,[],0,r,bT,dZ)>>=λo=>DK ((o.2.2.2.2.2.2.2.2.2.2.2.1.length:Int),0,o.1,o.2.1,o.2.2.1,o.2.2.2.1,o.2.2.2.2.1,o.2.2.2.2.2.1,o.2.2.2.2.2.2.1,o.2.2.2.2.2.2.2.1,o.2.2.2.2.2.2.2.2.1,o.2.2.2.2.2.2.2.2.2.1,o.2.2.2.2.2.2.2.2.2.2.2.1,o.2.2.2.2.2.2.2.2.2.2.1,o.2.2.2.2.2.2.2.2.2.2.2.2)>>=λbo=>some (⟨bo.1,bo.2.1,bo.2.2.1,bo.2.2.2.1,bo.2.2.2.2.1,bo.2.2.2.2.2.2.2.2.2.2.1,bo.2.2.2.2.2.2.2.2.2.2.2.1,bo.2.2.2.2.2.2.2.2.2.2.2.2⟩:ad)
  partial_fixpoint
def DJ(aI:Int×Int×Int×Bool×Int×List UInt8×Int×Int×Bool×Int×List UInt8×Int×List ad×List ad×List dD):Option (Int×Bool×Int×List UInt8×Int×Int×Bool×Int×List UInt8×Int×List ad×List ad×List dD):=
 match aI with
 |(MZ,t22,q4,q5,q6,q7,qj,q8,lA,qk,ql,pD,l0,s4,s5)=>
 if decide (t22<MZ)=true then if bd t22 l0.length=true then if decide (t22.toNat<l0.length)=true then rb (ad.eta (l0.getD t22.toNat aY))>>=λdF=>if bd t22 l0.length=true then if decide (t22.toNat<l0.length)=true then DJ (MZ,bl .i64 t22 1,q4,q5,q6,q7,qj,q8,lA,qk,ql,pD,l0.set t22.toNat (ad.eta dF),s4,s5)
 else none
 else none
 else none
 else none
 else some (q4,q5,q6,q7,qj,q8,lA,qk,ql,pD,l0,s4,s5)
  partial_fixpoint
def DK(aI:Int×Int×Int×Bool×Int×List UInt8×Int×Int×Bool×Int×List UInt8×Int×List ad×List ad×List dD):Option (Int×Bool×Int×List UInt8×Int×Int×Bool×Int×List UInt8×Int×List ad×List ad×List dD):=
 match aI with
 |(zr,t37,r3,xI,xJ,xK,zP,Cm,Cn,s6,s7,oO,jW,n4,mT)=>
 if decide (t37<zr)=true then if bd t37 jW.length=true then if decide (t37.toNat<jW.length)=true then rb (ad.eta (jW.getD t37.toNat aY))>>=λez=>if bd t37 jW.length=true then if decide (t37.toNat<jW.length)=true then DK (zr,bl .i64 t37 1,r3,xI,xJ,xK,zP,Cm,Cn,s6,s7,oO,jW.set t37.toNat (ad.eta ez),n4,mT)
 else none
 else none
 else none
 else none
 else some (r3,xI,xJ,xK,zP,Cm,Cn,s6,s7,oO,n4,jW,mT)
  partial_fixpoint
end
theorem apw:iv zT rb/\jT 161 0 [1] LN DK/\jT 161 0 [0] LM DJ:=rb.mutual_partial_correctness (h6 zT) (jR 161 0 [1] LN) (jR 161 0 [0] LM)
 (λ_ _ h1 aa _ _ h=>iK h (.k tn (.k uC .n)) (.k (kD LM aa) (.k (kD LN h1) .n)))
 (λ_ _ h0 h1 _ _ h=>kC LN h1 h (.k (ev zT h0) .n))
 (λ_ _ h0 aa _ _ h=>kC LM aa h (.k (ev zT h0) .n))
theorem ap8:bU zT rb:=ev _ apw.1
mutual
def Ga(aI:List ad×List ad):Option (Bool):=
 match aI with
 |(s1,s2)=>
 if(!(decide ((s1.length:Int)=(s2.length:Int))))=true then some false
 else F9 (s2,s1,(s1.length:Int),0)>>=λo=>match o with
 |.inl bo=>
 some bo
 |.inr bt=>
 some true
  partial_fixpoint
def tf(aI:ad×ad):Option (Bool):=
 match aI with
 |(a,b)=>
 some (bif bif bif bif decide (a.Kind=b.Kind)then kh a.cX b.cX else false then decide (a.b5=b.b5)else false then decide (a.ch=b.ch)else false then decide (a.aq=b.aq)else false)>>=λt37=>(if t37=true then KP (a.Rest,b.Rest)else some false)>>=λr=>some (bif t37 then r else false)>>=λt44=>(if t44=true then Ga (a.aZ,b.aZ)else some false)>>=λbT=>some (bif t44 then bT else false)>>=λt51=>(if t51=true then Ga (a.aB,b.aB)else some false)>>=λdZ=>some (bif t51 then dZ else false)
  partial_fixpoint
def F9(aI:List ad×List ad×Int×Int):Option ((Bool) ⊕ (Unit)):=
 match aI with
 |(nX,t15,rR,t17)=>
 if decide (t17<rR)=true then if bd t17 t15.length=true then if bd t17 nX.length=true then tf (ad.eta (t15.getD t17.toNat aY),ad.eta (nX.getD t17.toNat aY))>>=λr=>if(!r)=true then some (.inl false)
 else F9 (nX,t15,rR,bl .i64 t17 1)
 else none
 else none
 else some (.inr ())
  partial_fixpoint
end
theorem anA:iv Fo Ga/\jT 65 0 [0] Ms F9/\iv Cy tf:=Ga.mutual_partial_correctness (h6 Fo) (jR 65 0 [0] Ms) (h6 Cy)
 (λ_ h1 _ _ h=>iK h .n (.k (kD Ms h1) .n))
 (λ_ _ h1 aa _ _ h=>kC Ms h1 h (.k (ev Cy aa) .n))
 (λ_ h0 _ _ h=>iK h (.k alj (.k (ev Fo h0) .n)))
theorem RW:bU Cy tf:=ev _ anA.2.2
def DL(aI:bj×ad):Option (Bool):=
 match aI with
 |(m,item)=>
 (if m.cV=true then tf (ad.eta item,ad.eta m.cB)else some false)>>=λr=>some (bif m.cV then r else false)
theorem XM:bU OC DL:= .ca (.k RW .n)
def YJ(aI:bY×Int):Option (Int):=
 match aI with
 |(s,t)=>
 wk (⟨s.Types⟩:bY)>>=λr=>if(!(decide (r=0)))=true then some r
 else if(bif decide (t<0)then true else decide ((s.Types.length:Int)<=t))=true then some 4
 else some 0
theorem ap9:bU O8 YJ:= .ca (.k C9 .n)
def Dj(aI:bY×Int×ad):Option (Bool):=
 match aI with
 |(s,t,v)=>
 ys ((⟨s.Types⟩:bY),t,ad.eta v,false)>>=λr=>some r
theorem alR:bU O9 Dj:= .ca (.k alQ .n)
def Gl(aI:bY×Int×ad):Option (Int):=
 match aI with
 |(s,t,v)=>
 YJ ((⟨s.Types⟩:bY),t)>>=λr=>if(!(decide (r=0)))=true then some r
 else Dj ((⟨s.Types⟩:bY),t,ad.eta v)>>=λbT=>if(!bT)=true then some 1
 else some 0
theorem ap':bU OJ Gl:= .ca (.k ap9 (.k alR .n))
def C'(aI:Int×Int×List Int):Option (Int×Int×List Int):=
 match aI with
 |(Qr,lI,aL)=>
 if decide (128<=Qr)=true then if bd lI 10=true then if decide (lI.toNat<aL.length)=true then C' (sM .u64 Qr 7,bl .i64 lI 1,aL.set lI.toNat (BJ .u8 (cU .u8 Qr) 128))
 else none
 else none
 else some (Qr,lI,aL)
  partial_fixpoint
theorem apP:ew 98 0 [0] ag5 C':= .rx C'.partial_correctness
def yu(n:Int):Option (List UInt8):=
 C' (n,0,[0,0,0,0,0,0,0,0,0,0])>>=λo=>if bd o.2.1 10=true then if decide (o.2.1.toNat<o.2.2.length)=true then some (o.2.2.set o.2.1.toNat (cU .u8 o.1))>>=λtE=>some (bl .i64 o.2.1 1)>>=λt21=>if gW 0 t21 10=true then if HT (0:Int).toNat t21.toNat tE.length=true then some (strOf ((tE.drop (0:Int).toNat).take t21.toNat))
 else none
 else none
 else none
 else none
theorem Lr:bU Pr yu:= .ca .n (.k apP .n)
def AP(p:List UInt8):Option (List UInt8):=
 yu (cU .u64 (p.length:Int))>>=λr=>if decide (r.length+p.length<=iQ)=true then some (r++p)
 else none
theorem akQ:bU Pc AP:= .ca (.k Lr .n)
def Dt(aI:List UInt8×List UInt8):Option (Int×List UInt8):=
 match aI with
 |(s,b)=>
 some b>>=λr=>if(decide (r.length=b.length)&&true)=true then if room 1 (r.length+s.length)=true then some ((s.length:Int),E4 r s)
 else none
 else none
theorem alk:bU Pb Dt:= .ca (.k we .n)
def GY(aI:Int×Bool×List UInt8):Option (List UInt8):=
 match aI with
 |(id,Ux,p)=>
 some (rE .u64 2 (cU .u64 id))>>=λt10=>if Ux=true then yu (bl .u64 t10 1)>>=λr=>AP p>>=λbT=>if decide (r.length+bT.length<=iQ)=true then some (r++bT)
 else none
 else yu t10>>=λdZ=>AP p>>=λdF=>if decide (dZ.length+dF.length<=iQ)=true then some (dZ++dF)
 else none
theorem YK:bU Pp GY:= .ca (.k Lr (.k akQ .n))
def Rb(aI:bj×ad):Option (Bool):=
 match aI with
 |(m,v)=>
 (if m.cV=true then tf (ad.eta m.cB,ad.eta v)else some false)>>=λr=>some (bif m.cV then r else false)
theorem aqa:bU Po Rb:= .ca (.k RW .n)
def Af(aI:List dD×Int×Int×List au×Int×List jX):Option (List au×Int×List jX):=
 match aI with
 |(t57,akq,t59,xH,uq,vM)=>
 if decide (t59<akq)=true then if bd t59 t57.length=true then some (t57.getD t59.toNat gi)>>=λoG=>GY (oG.aq,false,oG.Data)>>=λqP=>some [(⟨oG.aq,qP⟩:jX)]>>=λt72=>if room 24 (vM++t72).length=true then Af (t57,akq,bl .i64 t59 1,xH,uq,vM++t72)
 else none
 else none
 else some (xH,uq,vM)
  partial_fixpoint
theorem anr:ew 53 1 [1] agS Af:= .rx Af.partial_correctness (.k YK .n)
def Dy(aI:Int×Int×List au×Int×List jX×List UInt8):Option (List au×Int×List UInt8):=
 match aI with
 |(aks,t79,zL,zM,vN,zN)=>
 if decide (t79<aks)=true then if bd t79 vN.length=true then if decide (t79.toNat<vN.length)=true then Dt ((vN.getD t79.toNat GX).text,zN)>>=λtP=>Dy (aks,bl .i64 t79 1,zL,zM,vN,tP.2)
 else none
 else none
 else some (zL,zM,zN)
  partial_fixpoint
theorem ant:ew 53 1 [2] agT Dy:= .rx Dy.partial_correctness (.k alk .n)
def KQ(b:List UInt8):Option (List UInt8):=
 if gu (b.length:Int) (b.length:Int)=true then some b
 else none
theorem alm:bU Pd KQ:= .ca
def Da(aI:Int×Int×List Int):Option (Int×List Int):=
 match aI with
 |(ow,lI,aL)=>
 if decide (0<ow)=true then some (gq .i64 lI 1)>>=λt10=>if bd t10 8=true then if decide (t10.toNat<aL.length)=true then Da (sM .u64 ow 8,t10,aL.set t10.toNat (cU .u8 ow))
 else none
 else none
 else some (lI,aL)
  partial_fixpoint
theorem apQ:ew 51 0 [0] agR Da:= .rx Da.partial_correctness
def K5(n:Int):Option (List UInt8):=
 Da (n,8,[0,0,0,0,0,0,0,0])>>=λo=>if gW o.1 8 8=true then if HT o.1.toNat ((8:Int).toNat-o.1.toNat) o.2.length=true then some (strOf ((o.2.drop o.1.toNat).take ((8:Int).toNat-o.1.toNat)))
 else none
 else none
theorem aqQ:bU O' K5:= .ca .n (.k apQ .n)
mutual
def qw(aI:Int×ad×Int×List au×Int):Option (List UInt8×List au×Int):=
 match aI with
 |(t,v,level,b,aL)=>
 some (tH aL level)>>=λt19=>if bd t b.length=true then some (b.getD t.toNat a8)>>=λaw=>if decide (aw.Kind=1)=true then if v.cX=true then some ([1],b,t19)
 else some ([],b,t19)
 else if decide (aw.Kind=2)=true then Gm v.b5>>=λr=>K5 r>>=λbT=>some (bT,b,t19)
 else if decide (aw.Kind=3)=true then some (v.ch,b,t19)
 else if decide (aw.Kind=4)=true then K5 (cU .u64 v.aq)>>=λdZ=>some (dZ,b,t19)
 else if decide (aw.Kind=5)=true then Rp (aw,ad.eta v,level,b,t19)>>=λdF=>some (dF.1,dF.2.1,dF.2.2)
 else if decide (aw.Kind=6)=true then Kp (aw,ad.eta v,level,b,t19)>>=λir=>some (ir.1,ir.2.1,ir.2.2)
 else if decide (aw.Kind=9)=true then if decide ((v.aB.length:Int)=0)=true then some ([],b,t19)
 else if bd 0 v.aB.length=true then qw (aw.a6,ad.eta (v.aB.getD (0:Int).toNat aY),bl .i64 level 1,b,t19)>>=λh3=>if decide ([1].length+h3.1.length<=iQ)=true then some ([1]++h3.1,h3.2.1,h3.2.2)
 else none
 else none
 else tl (level,v.aB,(v.aB.length:Int),0,b,t19,ad.eta v,aw,[])>>=λo=>KQ o.2.2>>=λmI=>some (mI,o.1,o.2.1)
 else none
  partial_fixpoint
def Rp(aI:au×ad×Int×List au×Int):Option (List UInt8×List au×Int):=
 match aI with
 |(aw,v,level,b,aL)=>
 Ag (level,aw.al,(aw.al.length:Int),0,b,aL,ad.eta v,[])>>=λo=>Af (o.2.2.1.Rest,(o.2.2.1.Rest.length:Int),0,o.1,o.2.1,o.2.2.2)>>=λbo=>XP bo.2.2>>=λr=>if(decide (r.length=bo.2.2.length)&&true)=true then Dy ((r.length:Int),0,bo.1,bo.2.1,r,[])>>=λbt=>KQ bt.2.2>>=λbT=>some (bT,bt.1,bt.2.1)
 else none
  partial_fixpoint
def Kp(aI:au×ad×Int×List au×Int):Option (List UInt8×List au×Int):=
 match aI with
 |(aw,v,level,b,aL)=>
 yu (cU .u64 v.aq)>>=λr=>kG (aw,v.aq)>>=λbT=>if(!bT.2)=true then if bd 0 v.Rest.length=true then some (v.Rest.getD (0:Int).toNat gi)>>=λcE=>if decide (r.length+cE.Data.length<=iQ)=true then some (r++cE.Data,b,aL)
 else none
 else none
 else if bd bT.1 aw.al.length=true then if bd 0 v.aB.length=true then qw ((aw.al.getD bT.1.toNat aX).aQ,ad.eta (v.aB.getD (0:Int).toNat aY),bl .i64 level 1,b,aL)>>=λez=>if decide (r.length+ez.1.length<=iQ)=true then some (r++ez.1,ez.2.1,ez.2.2)
 else none
 else none
 else none
  partial_fixpoint
def tl(aI:Int×List ad×Int×Int×List au×Int×ad×au×List UInt8):Option (List au×Int×List UInt8):=
 match aI with
 |(y8,t84,X7,t86,kf,iy,jz,ia,kO)=>
 if decide (t86<X7)=true then if bd t86 t84.length=true then some (t84.getD t86.toNat aY)>>=λqa=>if decide (ia.Kind=8)=true then if bd t86 jz.aZ.length=true then qw (ia.Key,ad.eta (jz.aZ.getD t86.toNat aY),bl .i64 y8 1,kf,iy)>>=λrN=>AP rN.1>>=λjv=>Dt (jv,kO)>>=λjK=>qw (ia.a6,ad.eta qa,bl .i64 y8 1,rN.2.1,rN.2.2)>>=λvl=>AP vl.1>>=λp6=>Dt (p6,jK.2)>>=λaCv=>tl (y8,t84,X7,bl .i64 t86 1,vl.2.1,vl.2.2,ad.eta jz,ia,aCv.2)
 else none
 else qw (ia.a6,ad.eta qa,bl .i64 y8 1,kf,iy)>>=λmf=>AP mf.1>>=λaCw=>Dt (aCw,kO)>>=λXn=>tl (y8,t84,X7,bl .i64 t86 1,mf.2.1,mf.2.2,ad.eta jz,ia,Xn.2)
 else none
 else some (kf,iy,kO)
  partial_fixpoint
def Ag(aI:Int×List bj×Int×Int×List au×Int×ad×List jX):Option (List au×Int×ad×List jX):=
 match aI with
 |(y8,t18,X3,t20,EY,xG,oN,r2)=>
 if decide (t20<X3)=true then if bd t20 t18.length=true then some (t18.getD t20.toNat aX)>>=λcE=>if bd t20 oN.aB.length=true then Rb ((⟨cE.aq,cE.Name,cE.aQ,cE.dq,cE.cV,ad.eta cE.cB⟩:bj),ad.eta (oN.aB.getD t20.toNat aY))>>=λdZ=>if(!dZ)=true then if bd t20 oN.aB.length=true then qw (cE.aQ,ad.eta (oN.aB.getD t20.toNat aY),bl .i64 y8 1,EY,xG)>>=λdF=>GY (cE.aq,cE.dq,dF.1)>>=λir=>some [(⟨cE.aq,ir⟩:jX)]>>=λt53=>if room 24 (r2++t53).length=true then Ag (y8,t18,X3,bl .i64 t20 1,dF.2.1,dF.2.2,ad.eta oN,r2++t53)
 else none
 else none
 else Ag (y8,t18,X3,bl .i64 t20 1,EY,xG,ad.eta oN,r2)
 else none
 else none
 else some (EY,xG,ad.eta oN,r2)
  partial_fixpoint
end
theorem anu:iv vW qw/\jT 21 1 [0] I' tl/\iv Fl Kp/\iv Fk Rp/\jT 53 1 [0] Ja Ag:=qw.mutual_partial_correctness (h6 vW) (jR 21 1 [0] I') (h6 Fl) (h6 Fk) (jR 53 1 [0] Ja)
 (λ_ _ _ _ h0 h1 aa aA _ _ h=>iK h (.k ak6 (.k aqQ (.k (ev Fk aA) (.k (ev Fl aa) (.k (ev vW h0) (.k alm .n)))))) (.k (kD I' h1) .n))
 (λ_ _ h0 h1 _ _ h=>kC I' h1 h (.k (ev vW h0) (.k akQ (.k alk .n))))
 (λ_ h0 _ _ h=>iK h (.k Lr (.k ra (.k (ev vW h0) .n))))
 (λ_ aU _ _ h=>iK h (.k Ya (.k alm .n)) (.k (kD Ja aU) (.k anr (.k ant .n))))
 (λ_ _ h0 aU _ _ h=>kC Ja aU h (.k aqa (.k (ev vW h0) (.k YK .n))))
theorem aox:bU vW qw:=ev _ anu.1
def sd(aI:bY×Int×ad):Option (List UInt8×Int):=
 match aI with
 |(s,t,v)=>
 Gl ((⟨s.Types⟩:bY),t,ad.eta v)>>=λr=>if(!(decide (r=0)))=true then some ([],r)
 else qw (t,ad.eta v,1,s.Types,0)>>=λbT=>if(bif decide (4096<(bT.1.length:Int))then true else decide (200<bT.2.2))=true then some ([],3)
 else some (bT.1,0)
theorem Yv:bU e8 sd:= .ca (.k ap' (.k aox .n))
def R6(aI:Int×Bool×List UInt8):Option (List UInt8×Int):=
 match aI with
 |(id,Ux,rL)=>
 if(bif decide (id<1)then true else decide (1000<id))=true then some ([],7)
 else if decide (4096<(rL.length:Int))=true then some ([],3)
 else GY (id,Ux,rL)>>=λr=>some (r,0)
theorem apC:bU OT R6:= .ca (.k YK .n)
def Gn(p:List UInt8):Option (List UInt8):=
 yu (cU .u64 (p.length:Int))>>=λr=>if decide (r.length+p.length<=iQ)=true then some (r++p)
 else none
theorem apR:bU OU Gn:= .ca (.k Lr .n)
mutual
def sb(aI:bY×Int×ad):Option (List UInt8):=
 match aI with
 |(s,t,v)=>
 if bd t s.Types.length=true then some (s.Types.getD t.toNat a8)>>=λaw=>if decide (aw.Kind=5)=true then Be ([],aw.al,(aw.al.length:Int),0,s.Types,ad.eta v)>>=λo=>some o
 else if decide (aw.Kind=6)=true then kG (aw,v.aq)>>=λr=>yu (cU .u64 v.aq)>>=λdF=>if bd r.1 aw.al.length=true then if bd 0 v.aB.length=true then sb (s,(aw.al.getD r.1.toNat aX).aQ,ad.eta (v.aB.getD (0:Int).toNat aY))>>=λez=>if decide (dF.length+ez.length<=iQ)=true then some (dF++ez)
 else none
 else none
 else none
 else if decide (aw.Kind=9)=true then Gi ([],v.aB,(v.aB.length:Int),0,s.Types,aw)>>=λbo=>some bo
 else some (decide (aw.Kind=7))>>=λt115=>if t115=true then if t115=true then r' ([],v.aB,(v.aB.length:Int),0,s.Types,ad.eta v,aw)>>=λbt=>some bt
 else sd (s,t,ad.eta v)>>=λhq=>some hq.1
 else if decide (aw.Kind=8)=true then r' ([],v.aB,(v.aB.length:Int),0,s.Types,ad.eta v,aw)>>=λmG=>some mG
 else sd (s,t,ad.eta v)>>=λqP=>some qP.1
 else none
  partial_fixpoint
def Be(aI:List UInt8×List bj×Int×Int×List au×ad):Option (List UInt8):=
 match aI with
 |(QT,t36,X5,t38,b,aL)=>
 if decide (t38<X5)=true then if bd t38 t36.length=true then some (t36.getD t38.toNat aX)>>=λlo=>if bd t38 aL.aB.length=true then DL ((⟨lo.aq,lo.Name,lo.aQ,lo.dq,lo.cV,ad.eta lo.cB⟩:bj),ad.eta (aL.aB.getD t38.toNat aY))>>=λh3=>if(!h3)=true then if bd t38 aL.aB.length=true then sb ((⟨b⟩:bY),lo.aQ,ad.eta (aL.aB.getD t38.toNat aY))>>=λBL=>R6 (lo.aq,lo.dq,BL)>>=λg'=>
 if decide (QT.length+g'.1.length<=iQ)=true then Be (QT++g'.1,t36,X5,bl .i64 t38 1,b,ad.eta aL)
 else none
 else none
 else Be (QT,t36,X5,bl .i64 t38 1,b,ad.eta aL)
 else none
 else none
 else some QT
  partial_fixpoint
def Gi(aI:List UInt8×List ad×Int×Int×List au×au):Option (List UInt8):=
 match aI with
 |(aCe,t101,ajQ,t103,bu,bR)=>
 if decide (t103<ajQ)=true then if bd t103 t101.length=true then sb ((⟨bu⟩:bY),bR.a6,ad.eta (t101.getD t103.toNat aY))>>=λrN=>if decide ([1].length+rN.length<=iQ)=true then Gi ([1]++rN,t101,ajQ,bl .i64 t103 1,bu,bR)
 else none
 else none
 else some aCe
  partial_fixpoint
def r'(aI:List UInt8×List ad×Int×Int×List au×ad×au):Option (List UInt8):=
 match aI with
 |(Mn,t118,X2,t120,gz,kf,iy)=>
 if decide (t120<X2)=true then if bd t120 t118.length=true then some (t118.getD t120.toNat aY)>>=λakM=>if decide (iy.Kind=8)=true then if bd t120 kf.aZ.length=true then sb ((⟨gz⟩:bY),iy.Key,ad.eta (kf.aZ.getD t120.toNat aY))>>=λha=>Gn ha>>=λvk=>if decide (Mn.length+vk.length<=iQ)=true then some (Mn++vk)>>=λt139=>sb ((⟨gz⟩:bY),iy.a6,ad.eta akM)>>=λtN=>Gn tN>>=λjv=>if decide (t139.length+jv.length<=iQ)=true then r' (t139++jv,t118,X2,bl .i64 t120 1,gz,ad.eta kf,iy)
 else none
 else none
 else none
 else sb ((⟨gz⟩:bY),iy.a6,ad.eta akM)>>=λjK=>Gn jK>>=λHC=>if decide (Mn.length+HC.length<=iQ)=true then r' (Mn++HC,t118,X2,bl .i64 t120 1,gz,ad.eta kf,iy)
 else none
 else none
 else some Mn
  partial_fixpoint
end
theorem apg:iv vV sb/\jT 164 0 [2] LQ r'/\jT 164 0 [1] LP Gi/\jT 164 0 [0] LO Be:=sb.mutual_partial_correctness (h6 vV) (jR 164 0 [2] LQ) (jR 164 0 [1] LP) (jR 164 0 [0] LO)
 (λ_ _ _ _ h0 h1 aa aA _ _ h=>iK h (.k ra (.k Lr (.k (ev vV h0) (.k Yv .n)))) (.k (kD LO aA) (.k (kD LP aa) (.k (kD LQ h1) .n))))
 (λ_ _ h0 h1 _ _ h=>kC LQ h1 h (.k (ev vV h0) (.k apR .n)))
 (λ_ _ h0 aa _ _ h=>kC LP aa h (.k (ev vV h0) .n))
 (λ_ _ h0 aA _ _ h=>kC LO aA h (.k XM (.k (ev vV h0) (.k apC .n))))
theorem akZ:bU vV sb:=ev _ apg.1
def vZ(aI:List bj×Int×Int×List au×List au×List Int×ad×au×Int×Bool×Int×List UInt8×Int×Int×Bool×Int×List UInt8×Int×List Int×List ad×List dD):Option ((Bool×List au×List au×ad×List Int×List Int) ⊕ (List au×List au×List Int×Int×Bool×Int×List UInt8×Int×Int×Bool×Int×List UInt8×Int×List Int×List ad×List dD)):=
 match aI with
 |(t115,Ty,t117,pE,n',oa,mU,ob,jA,oR,oS,oT,oU,nz,oV,oc,r4,oW,uu,uv,s8)=>
 if decide (t117<Ty)=true then if bd t117 t115.length=true then some (t115.getD t117.toNat aX)>>=λvv=>kG (ob,vv.aq)>>=λXm=>if Xm.2=true then vZ (t115,Ty,bl .i64 t117 1,pE,n',oa,ad.eta mU,ob,jA,oR,oS,oT,oU,nz,oV,oc,r4,oW,uu,uv,s8)
 else if vv.dq=true then Gg (vv.aq,pE,n',oa,uu)>>=λvm=>some (.inl (vm.2.1,vm.2.2.1,vm.2.2.2.1,ad.eta vm.1,vm.2.2.2.2.1,vm.2.2.2.2.2))
 else if bd t117 mU.aB.length=true then DL ((⟨vv.aq,vv.Name,vv.aQ,vv.dq,vv.cV,ad.eta vv.cB⟩:bj),ad.eta (mU.aB.getD t117.toNat aY))>>=λXn=>if(!Xn)=true then if bd t117 mU.aB.length=true then sb ((⟨pE⟩:bY),vv.aQ,ad.eta (mU.aB.getD t117.toNat aY))>>=λaCx=>some [(⟨vv.aq,aCx⟩:dD)]>>=λt163=>if room 24 (s8++t163).length=true then vZ (t115,Ty,bl .i64 t117 1,pE,n',oa,ad.eta mU,ob,jA,oR,oS,oT,oU,nz,oV,oc,r4,oW,uu,uv,s8++t163)
 else none
 else none
 else vZ (t115,Ty,bl .i64 t117 1,pE,n',oa,ad.eta mU,ob,jA,oR,oS,oT,oU,nz,oV,oc,r4,oW,uu,uv,s8)
 else none
 else none
 else some (.inr (pE,n',oa,jA,oR,oS,oT,oU,nz,oV,oc,r4,oW,uu,uv,s8))
  partial_fixpoint
theorem aor:ew 116 2 [1] afx vZ:= .rx vZ.partial_correctness (.k ra (.k alp (.k XM (.k akZ .n))))
mutual
def Bh(aI:Int×Int×ad×Int×List au×List au×List Int×List Int):Option (ad×Bool×List au×List au×List Int×List Int):=
 match aI with
 |(step,wt,v,rt,b,aL,bu,bR)=>
 some [step]>>=λt20=>if room 8 (bR++t20).length=true then DM (wt,ad.eta v,rt,b,aL,bu,bR++t20)>>=λr=>some (gq .i64 (r.2.2.2.2.2.length:Int) 1)>>=λt42=>if gW 0 t42 r.2.2.2.2.2.length=true then if decide (t42.toNat<=r.2.2.2.2.2.length)=true then some (ad.eta r.1,r.2.1,r.2.2.1,r.2.2.2.1,r.2.2.2.2.1,r.2.2.2.2.2.take t42.toNat)
 else none
 else none
 else none
  partial_fixpoint
def wc(aI:Int×List ad×Int×List au×List au×List Int×List Int):Option (List ad×Bool×List au×List au×List Int×List Int):=
 match aI with
 |(wt,l,rt,b,aL,bu,bR)=>
 DA (wt,rt,l,(l.length:Int),0,b,aL,bu,[],bR)>>=λo=>match o with
 |.inl bo=>
 some ([],bo.1,bo.2.1,bo.2.2.1,bo.2.2.2.1,bo.2.2.2.2)
 |.inr bt=>
 some (bt.2.2.2.1,true,bt.1,bt.2.1,bt.2.2.1,bt.2.2.2.2)
  partial_fixpoint
def DM(aI:Int×ad×Int×List au×List au×List Int×List Int):Option (ad×Bool×List au×List au×List Int×List Int):=
 match aI with
 |(wt,v,rt,b,aL,bu,bR)=>
 if bd wt b.length=true then some (b.getD wt.toNat a8)>>=λaw=>if bd rt aL.length=true then some (aL.getD rt.toNat a8)>>=λcE=>if(!(decide (aw.Kind=cE.Kind)))=true then DI (b,aL,bu,bR)>>=λr=>some (ad.eta r.1,r.2.1,r.2.2.1,r.2.2.2.1,r.2.2.2.2.2,r.2.2.2.2.1)
 else
 let aiT:=λaD7=>
 if(!aD7)=true then DI (b,aL,bu,bR)>>=λir=>some (ad.eta ir.1,ir.2.1,ir.2.2.1,ir.2.2.2.1,ir.2.2.2.2.2,ir.2.2.2.2.1)
 else if decide (aw.Kind=5)=true then Kq (aw,ad.eta v,cE,b,aL,bu,bR)>>=λlN=>some (ad.eta lN.1,lN.2.1,lN.2.2.1,lN.2.2.2.1,lN.2.2.2.2.1,lN.2.2.2.2.2)
 else if decide (aw.Kind=6)=true then Kw (aw,ad.eta v,cE,b,aL,bu,bR)>>=λjK=>some (ad.eta jK.1,jK.2.1,jK.2.2.1,jK.2.2.2.1,jK.2.2.2.2.1,jK.2.2.2.2.2)
 else if decide (aw.Kind=8)=true then wc (aw.Key,v.aZ,cE.Key,b,aL,bu,bR)>>=λp6=>if(!p6.2.1)=true then some ((⟨0,false,0,[],0,[],[],[]⟩:ad),false,p6.2.2.1,p6.2.2.2.1,p6.2.2.2.2.1,p6.2.2.2.2.2)
 else wc (aw.a6,v.aB,cE.a6,p6.2.2.1,p6.2.2.2.1,p6.2.2.2.2.1,p6.2.2.2.2.2)>>=λoz=>if(!oz.2.1)=true then some ((⟨0,false,0,[],0,[],[],[]⟩:ad),false,oz.2.2.1,oz.2.2.2.1,oz.2.2.2.2.1,oz.2.2.2.2.2)
 else some ((⟨v.Kind,v.cX,v.b5,v.ch,v.aq,p6.1,oz.1,[]⟩:ad),true,oz.2.2.1,oz.2.2.2.1,oz.2.2.2.2.1,oz.2.2.2.2.2)
 else wc (aw.a6,v.aB,cE.a6,b,aL,bu,bR)>>=λpf=>if(!pf.2.1)=true then some ((⟨0,false,0,[],0,[],[],[]⟩:ad),false,pf.2.2.1,pf.2.2.2.1,pf.2.2.2.2.1,pf.2.2.2.2.2)
 else some ((⟨v.Kind,v.cX,v.b5,v.ch,v.aq,[],pf.1,[]⟩:ad),true,pf.2.2.1,pf.2.2.2.1,pf.2.2.2.2.1,pf.2.2.2.2.2)
 if decide (aw.Kind=2)=true then aiT (bif decide (cE.cA<=v.b5)then decide (v.b5<=cE.cD)else false)
 else
 let aiS:=λaD6=>
 aiT aD6
 if decide (aw.Kind=3)=true then aiS (decide ((v.ch.length:Int)<=cE.Max))
 else if decide (aw.Kind=4)=true then yc (cE,v.aq)>>=λaCz=>aiS (bif aCz.2 then true else cE.Open)
 else some (decide (aw.Kind=7))>>=λt91=>
 let aiR:=λaD5=>
 let aiQ:=λ(_:Unit)=>
 if decide (aw.Kind=5)=true then Kq (aw,ad.eta v,cE,b,aL,bu,bR)>>=λHD=>some (ad.eta HD.1,HD.2.1,HD.2.2.1,HD.2.2.2.1,HD.2.2.2.2.1,HD.2.2.2.2.2)
 else if decide (aw.Kind=6)=true then Kw (aw,ad.eta v,cE,b,aL,bu,bR)>>=λHE=>some (ad.eta HE.1,HE.2.1,HE.2.2.1,HE.2.2.2.1,HE.2.2.2.2.1,HE.2.2.2.2.2)
 else if decide (aw.Kind=8)=true then wc (aw.Key,v.aZ,cE.Key,b,aL,bu,bR)>>=λw8=>if(!w8.2.1)=true then some ((⟨0,false,0,[],0,[],[],[]⟩:ad),false,w8.2.2.1,w8.2.2.2.1,w8.2.2.2.2.1,w8.2.2.2.2.2)
 else wc (aw.a6,v.aB,cE.a6,w8.2.2.1,w8.2.2.2.1,w8.2.2.2.2.1,w8.2.2.2.2.2)>>=λw9=>if(!w9.2.1)=true then some ((⟨0,false,0,[],0,[],[],[]⟩:ad),false,w9.2.2.1,w9.2.2.2.1,w9.2.2.2.2.1,w9.2.2.2.2.2)
 else some ((⟨v.Kind,v.cX,v.b5,v.ch,v.aq,w8.1,w9.1,[]⟩:ad),true,w9.2.2.1,w9.2.2.2.1,w9.2.2.2.2.1,w9.2.2.2.2.2)
 else wc (aw.a6,v.aB,cE.a6,b,aL,bu,bR)>>=λxa=>if(!xa.2.1)=true then some ((⟨0,false,0,[],0,[],[],[]⟩:ad),false,xa.2.2.1,xa.2.2.2.1,xa.2.2.2.2.1,xa.2.2.2.2.2)
 else some ((⟨v.Kind,v.cX,v.b5,v.ch,v.aq,[],xa.1,[]⟩:ad),true,xa.2.2.1,xa.2.2.2.1,xa.2.2.2.2.1,xa.2.2.2.2.2)
 if aD5=true then if(!(decide ((v.aB.length:Int)<=cE.Max)))=true then DI (b,aL,bu,bR)>>=λHB=>some (ad.eta HB.1,HB.2.1,HB.2.2.1,HB.2.2.2.1,HB.2.2.2.2.2,HB.2.2.2.2.1)
 else aiQ ()
 else aiQ ()
 if t91=true then aiR t91
 else aiR (decide (aw.Kind=8))
 else none
 else none
  partial_fixpoint
def Kq(aI:au×ad×au×List au×List au×List Int×List Int):Option (ad×Bool×List au×List au×List Int×List Int):=
 match aI with
 |(aw,v,y,b,aL,bu,bR)=>
 xZ (y.al,(y.al.length:Int),0,b,aL,bu,aw,ad.eta v,y,0,false,0,[],0,v.Kind,false,0,[],0,bR,[])>>=λo=>match o with
 |.inl bo=>
 some (ad.eta bo.2.2.2.2.1,bo.1,bo.2.1,bo.2.2.1,bo.2.2.2.1,bo.2.2.2.2.2)
 |.inr bt=>
 vZ (bt.2.2.2.1.al,(bt.2.2.2.1.al.length:Int),0,bt.1,bt.2.1,bt.2.2.1,ad.eta bt.2.2.2.2.1,bt.2.2.2.2.2.1,bt.2.2.2.2.2.2.1,bt.2.2.2.2.2.2.2.1,bt.2.2.2.2.2.2.2.2.1,bt.2.2.2.2.2.2.2.2.2.1,bt.2.2.2.2.2.2.2.2.2.2.1,bt.2.2.2.2.2.2.2.2.2.2.2.1,bt.2.2.2.2.2.2.2.2.2.2.2.2.1,bt.2.2.2.2.2.2.2.2.2.2.2.2.2.1,bt.2.2.2.2.2.2.2.2.2.2.2.2.2.2.1,bt.2.2.2.2.2.2.2.2.2.2.2.2.2.2.2.1,bt.2.2.2.2.2.2.2.2.2.2.2.2.2.2.2.2.1,bt.2.2.2.2.2.2.2.2.2.2.2.2.2.2.2.2.2,[])>>=λmG=>match mG with
 |.inl il=>
 some (ad.eta il.2.2.2.1,il.1,il.2.1,il.2.2.1,il.2.2.2.2.2,il.2.2.2.2.1)
 |.inr er=>
 some ((⟨er.2.2.2.2.2.2.2.2.1,er.2.2.2.2.2.2.2.2.2.1,er.2.2.2.2.2.2.2.2.2.2.1,er.2.2.2.2.2.2.2.2.2.2.2.1,er.2.2.2.2.2.2.2.2.2.2.2.2.1,[],er.2.2.2.2.2.2.2.2.2.2.2.2.2.2.1,er.2.2.2.2.2.2.2.2.2.2.2.2.2.2.2⟩:ad),true,er.1,er.2.1,er.2.2.1,er.2.2.2.2.2.2.2.2.2.2.2.2.2.1)
  partial_fixpoint
def Kw(aI:au×ad×au×List au×List au×List Int×List Int):Option (ad×Bool×List au×List au×List Int×List Int):=
 match aI with
 |(aw,v,y,b,aL,bu,bR)=>
 kG (aw,v.aq)>>=λr=>kG (y,v.aq)>>=λdF=>if dF.2=true then if bd r.1 aw.al.length=true then if bd 0 v.aB.length=true then if bd dF.1 y.al.length=true then Bh (v.aq,(aw.al.getD r.1.toNat aX).aQ,ad.eta (v.aB.getD (0:Int).toNat aY),(y.al.getD dF.1.toNat aX).aQ,b,aL,bu,bR)>>=λiq=>if(!iq.2.1)=true then some ((⟨0,false,0,[],0,[],[],[]⟩:ad),false,iq.2.2.1,iq.2.2.2.1,iq.2.2.2.2.1,iq.2.2.2.2.2)
 else some ((⟨v.Kind,false,0,[],v.aq,[],[ad.eta iq.1],[]⟩:ad),true,iq.2.2.1,iq.2.2.2.1,iq.2.2.2.2.1,iq.2.2.2.2.2)
 else none
 else none
 else none
 else if(!y.Open)=true then DI (b,aL,bu,bR)>>=λg'=>
 some (ad.eta g'.1,g'.2.1,g'.2.2.1,g'.2.2.2.1,g'.2.2.2.2.2,g'.2.2.2.2.1)
 else if bd r.1 aw.al.length=true then if bd 0 v.aB.length=true then sb ((⟨b⟩:bY),(aw.al.getD r.1.toNat aX).aQ,ad.eta (v.aB.getD (0:Int).toNat aY))>>=λjv=>some ((⟨v.Kind,false,0,[],v.aq,[],[],[(⟨v.aq,jv⟩:dD)]⟩:ad),true,b,aL,bu,bR)
 else none
 else none
  partial_fixpoint
def DA(aI:Int×Int×List ad×Int×Int×List au×List au×List Int×List ad×List Int):Option ((Bool×List au×List au×List Int×List Int) ⊕ (List au×List au×List Int×List ad×List Int)):=
 match aI with
 |(akL,ajI,t15,rR,t17,xG,oN,r2,xH,uq)=>
 if decide (t17<rR)=true then if bd t17 t15.length=true then Bh (t17,akL,ad.eta (t15.getD t17.toNat aY),ajI,xG,oN,r2,uq)>>=λr=>if(!r.2.1)=true then some (.inl (false,r.2.2.1,r.2.2.2.1,r.2.2.2.2.1,r.2.2.2.2.2))
 else some [ad.eta r.1]>>=λt35=>if room 120 (xH++t35).length=true then DA (akL,ajI,t15,rR,bl .i64 t17 1,r.2.2.1,r.2.2.2.1,r.2.2.2.2.1,xH++t35,r.2.2.2.2.2)
 else none
 else none
 else some (.inr (xG,oN,r2,xH,uq))
  partial_fixpoint
def xZ(aI:List bj×Int×Int×List au×List au×List Int×au×ad×au×Int×Bool×Int×List UInt8×Int×Int×Bool×Int×List UInt8×Int×List Int×List ad):Option ((Bool×List au×List au×List Int×ad×List Int) ⊕ (List au×List au×List Int×au×ad×au×Int×Bool×Int×List UInt8×Int×Int×Bool×Int×List UInt8×Int×List Int×List ad)):=
 match aI with
 |(t25,X4,t27,oO,jW,n4,mT,q9,qm,vO,vP,vQ,qn,qo,qp,n5,n9,oP,oQ,qq,qt)=>
 if decide (t27<X4)=true then if bd t27 t25.length=true then some (t25.getD t27.toNat aX)>>=λcE=>kG (mT,cE.aq)>>=λr=>if(!r.2)=true then if(!cE.cV)=true then Gg (cE.aq,oO,jW,n4,qq)>>=λdF=>some (.inl (dF.2.1,dF.2.2.1,dF.2.2.2.1,dF.2.2.2.2.2,ad.eta dF.1,dF.2.2.2.2.1))
 else rb (ad.eta cE.cB)>>=λfB=>some [ad.eta fB]>>=λt54=>if room 120 (qt++t54).length=true then xZ (t25,X4,bl .i64 t27 1,oO,jW,n4,mT,ad.eta q9,qm,vO,vP,vQ,qn,qo,qp,n5,n9,oP,oQ,qq,qt++t54)
 else none
 else if bd r.1 mT.al.length=true then if bd r.1 q9.aB.length=true then Bh (cE.aq,(mT.al.getD r.1.toNat aX).aQ,ad.eta (q9.aB.getD r.1.toNat aY),cE.aQ,oO,jW,n4,qq)>>=λh3=>if bd r.1 mT.al.length=true then some (mT.al.getD r.1.toNat aX)>>=λoG=>if bd r.1 q9.aB.length=true then DL ((⟨oG.aq,oG.Name,oG.aQ,oG.dq,oG.cV,ad.eta oG.cB⟩:bj),ad.eta (q9.aB.getD r.1.toNat aY))>>=λvk=>some (!h3.2.1)>>=λt90=>(if(vk&&(!t90))=true then DL ((⟨cE.aq,cE.Name,cE.aQ,cE.dq,cE.cV,ad.eta cE.cB⟩:bj),ad.eta h3.1)else some false)>>=λtN=>if(bif vk then bif t90 then true else(!tN)else false)=true then Gg (cE.aq,h3.2.2.1,h3.2.2.2.1,h3.2.2.2.2.1,h3.2.2.2.2.2)>>=λjv=>some (.inl (jv.2.1,jv.2.2.1,jv.2.2.2.1,jv.2.2.2.2.2,ad.eta jv.1,jv.2.2.2.2.1))
 else if(!h3.2.1)=true then some (.inl (false,h3.2.2.1,h3.2.2.2.1,h3.2.2.2.2.1,(⟨0,false,0,[],0,[],[],[]⟩:ad),h3.2.2.2.2.2))
 else some [ad.eta h3.1]>>=λt110=>if room 120 (qt++t110).length=true then xZ (t25,X4,bl .i64 t27 1,h3.2.2.1,h3.2.2.2.1,h3.2.2.2.2.1,mT,ad.eta q9,qm,vO,vP,vQ,qn,qo,qp,n5,n9,oP,oQ,h3.2.2.2.2.2,qt++t110)
 else none
 else none
 else none
 else none
 else none
 else none
 else some (.inr (oO,jW,n4,mT,ad.eta q9,qm,vO,vP,vQ,qn,qo,qp,n5,n9,oP,oQ,qq,qt))
  partial_fixpoint
end
theorem an':iv zU Bh/\iv CA DM/\iv Fg wc/\jT 118 2 [0] LS DA/\iv Ff Kw/\iv Fe Kq/\jT 116 2 [0] LR xZ:=Bh.mutual_partial_correctness (h6 zU) (h6 CA) (h6 Fg) (jR 118 2 [0] LS) (h6 Ff) (h6 Fe) (jR 116 2 [0] LR)
 (λ_ h1 _ _ h=>iK h (.k (ev CA h1) .n))
 (λ_ _ _ aa aU bN _ _ h=>iK h (.k alv (.k (ev Fe bN) (.k (ev Ff aU) (.k (ev Fg aa) (.k KC .n))))))
 (λ_ aA _ _ h=>iK h .n (.k (kD LS aA) .n))
 (λ_ _ h0 aA _ _ h=>kC LS aA h (.k (ev zU h0) .n))
 (λ_ h0 _ _ h=>iK h (.k ra (.k (ev zU h0) (.k alv (.k akZ .n)))))
 (λ_ dO _ _ h=>iK h .n (.k (kD LR dO) (.k aor .n)))
 (λ_ _ h0 dO _ _ h=>kC LR dO h (.k ra (.k alp (.k ap8 (.k (ev zU h0) (.k XM .n))))))
theorem aph:bU CA DM:=ev _ an'.2.1
def Bl(aI:bY×Int×ad×bY×Int):Option (ad×Int):=
 match aI with
 |(w,wt,v,r,rt)=>
 RV (w,wt,ad.eta v,r,rt)>>=λbT=>if(!(decide (bT=0)))=true then some ((⟨0,false,0,[],0,[],[],[]⟩:ad),bT)
 else DM (wt,ad.eta v,rt,w.Types,r.Types,[],[])>>=λdZ=>if(!dZ.2.1)=true then some ((⟨0,false,0,[],0,[],[],[]⟩:ad),12)
 else some (ad.eta dZ.1,0)
theorem XS:bU O0 Bl:= .ca (.k apO (.k aph .n))
def v'(aI:List bj×Int×Int×List au×au×List au×au):Option ((Int) ⊕ (au×au)):=
 match aI with
 |(t21,TA,t23,bu,bR,gz,kf)=>
 if decide (t23<TA)=true then if bd t23 t21.length=true then some (t21.getD t23.toNat aX)>>=λcE=>kG (bR,cE.aq)>>=λbT=>if(!bT.2)=true then if(!cE.cV)=true then some (.inl 7)
 else v' (t21,TA,bl .i64 t23 1,bu,bR,gz,kf)
 else if bd bT.1 bR.al.length=true then some (bR.al.getD bT.1.toNat aX)>>=λqa=>if(!qa.cV)=true then v' (t21,TA,bl .i64 t23 1,bu,bR,gz,kf)
 else if(!cE.cV)=true then some (.inl 7)
 else Bl ((⟨bu⟩:bY),qa.aQ,ad.eta qa.cB,(⟨gz⟩:bY),cE.aQ)>>=λez=>some (!(decide (ez.2=0)))>>=λt63=>(if(!t63)=true then tf (ad.eta ez.1,ad.eta cE.cB)else some false)>>=λir=>if(bif t63 then true else(!ir))=true then some (.inl 10)
 else v' (t21,TA,bl .i64 t23 1,bu,bR,gz,kf)
 else none
 else none
 else some (.inr (bR,kf))
  partial_fixpoint
theorem aoa:ew 89 0 [0] ag1 v':= .rx v'.partial_correctness (.k ra (.k XS (.k RW .n)))
def Bd(aI:List bj×Int×Int×au):Option ((Int) ⊕ (Unit)):=
 match aI with
 |(t73,Es,t75,iy)=>
 if decide (t75<Es)=true then if bd t75 t73.length=true then some (t73.getD t75.toNat aX)>>=λlo=>kG (iy,lo.aq)>>=λqP=>if(bif (!qP.2)then lo.dq else false)=true then some (.inl 6)
 else Bd (t73,Es,bl .i64 t75 1,iy)
 else none
 else some (.inr ())
  partial_fixpoint
theorem aob:ew 89 0 [1] ag2 Bd:= .rx Bd.partial_correctness (.k ra .n)
def Q5(aI:bY×au×bY×au):Option (Int):=
 match aI with
 |(w,aw,r,y)=>
 v' (y.al,(y.al.length:Int),0,w.Types,aw,r.Types,y)>>=λo=>match o with
 |.inl bo=>
 some bo
 |.inr bt=>
 Bd (bt.1.al,(bt.1.al.length:Int),0,bt.2)>>=λmG=>match mG with
 |.inl il=>
 some il
 |.inr er=>
 some 0
theorem apx:bU Pn Q5:= .ca .n (.k aoa (.k aob .n))
def Yw(aI:bY×Int×bY×Int):Option (Int):=
 match aI with
 |(w,wt,r,rt)=>
 if bd wt w.Types.length=true then some (w.Types.getD wt.toNat a8)>>=λaw=>if bd rt r.Types.length=true then some (r.Types.getD rt.toNat a8)>>=λcE=>if(!(decide (aw.Kind=cE.Kind)))=true then some 9
 else if(bif decide (aw.Kind=2)then bif decide (aw.cA<cE.cA)then true else decide (cE.cD<aw.cD)else false)=true then some 2
 else if(bif bif decide (aw.Kind=3)then true else decide (aw.Kind=7)then decide (cE.Max<aw.Max)else false)=true then some 3
 else some (decide (aw.Kind=8))>>=λt63=>if(bd aw.Key w.Types.length||(!t63))=true then (if t63=true then Lk (w.Types.getD aw.Key.toNat a8)else some 0)>>=λbT=>if(bif t63 then decide (cE.Max<fV aw.Max bT)else false)=true then some 3
 else some (decide (aw.Kind=4))>>=λt82=>(if t82=true then KB (aw,cE)else some false)>>=λdZ=>if(bif t82 then(!dZ)else false)=true then some 4
 else some (decide (aw.Kind=6))>>=λt92=>(if t92=true then KB (aw,cE)else some false)>>=λdF=>if(bif t92 then(!dF)else false)=true then some 5
 else if decide (aw.Kind=5)=true then Q5 (w,aw,r,cE)>>=λez=>some ez
 else some 0
 else none
 else none
 else none
theorem aoZ:bU O6 Yw:= .ca (.k apN (.k apv (.k apx .n)))
def Gd(aI:Int×Int×List b3):Option (List b3):=
 match aI with
 |(i,j,bu)=>
 if decide (i<j)=true then if bd j bu.length=true then if decide (j.toNat<bu.length)=true then if bd i bu.length=true then if decide (i.toNat<bu.length)=true then if bd i bu.length=true then if decide (i.toNat<bu.length)=true then some (bu.set i.toNat (bu.getD j.toNat fE))>>=λl=>if bd j l.length=true then if decide (j.toNat<l.length)=true then Gd (bl .i64 i 1,gq .i64 j 1,l.set j.toNat (bu.getD i.toNat fE))
 else none
 else none
 else none
 else none
 else none
 else none
 else none
 else none
 else some bu
  partial_fixpoint
theorem anm:ew 42 1 [0] agN Gd:= .rx Gd.partial_correctness
def Ro(b:List b3):Option (List b3):=
 Gd (0,gq .i64 (b.length:Int) 1,b)>>=λo=>some o
theorem aoy:bU O7 Ro:= .ca .n (.k anm .n)
def Gh(aI:Int×Int×List b3×List Int×List b3):Option (Int×List b3):=
 match aI with
 |(i,ow,iy,jz,ia)=>
 if decide (0<=i)=true then if bd i iy.length=true then if decide (i.toNat<iy.length)=true then some [iy.getD i.toNat fE]>>=λt55=>if room 16 (ia++t55).length=true then if bd i jz.length=true then if decide (i.toNat<jz.length)=true then Gh (jz.getD i.toNat 0,ow,iy,jz,ia++t55)
 else none
 else none
 else none
 else none
 else none
 else some (ow,ia)
  partial_fixpoint
theorem aoc:ew 18 0 [0,0] aeF Gh:= .rx Gh.partial_correctness
def Bi(aI:Int×Int×cG×cG×List b3×List Int):Option ((Int×Int×List b3) ⊕ (Unit)):=
 match aI with
 |(akn,t28,aL,bu,bR,gz)=>
 if decide (t28<akn)=true then if bd t28 bR.length=true then if decide (t28.toNat<bR.length)=true then Yw (aL.hQ,(bR.getD t28.toNat fE).cw,bu.hQ,(bR.getD t28.toNat fE).cd)>>=λhq=>if decide (hq=0)=true then Bi (akn,bl .i64 t28 1,aL,bu,bR,gz)
 else Gh (t28,hq,bR,gz,[])>>=λmG=>Ro mG.2>>=λiq=>if(decide (iq.length=mG.2.length)&&true)=true then some (.inl (mG.1,0,iq))
 else none
 else none
 else none
 else some (.inr ())
  partial_fixpoint
theorem api:ew 18 0 [0] agG Bi:= .rx Bi.partial_correctness (.k aoZ (.k aoy .n)) (.k aoc .n)
def YM(aI:cG×cG):Option (List b3×Int×Int):=
 match aI with
 |(w,r)=>
 RU (w,r)>>=λbT=>if(!(decide (bT=0)))=true then some ([],0,bT)
 else XC (w,r)>>=λdZ=>Bi ((dZ.1.length:Int),0,w,r,dZ.1,dZ.2)>>=λo=>match o with
 |.inl bo=>
 some (bo.2.2,bo.1,bo.2.1)
 |.inr bt=>
 some ([],0,15)
theorem aqb:bU OE YM:= .ca (.k apM (.k apu .n)) (.k api .n)
def QX(aI:cG×cG):Option (Bool×Int):=
 match aI with
 |(w,r)=>
 YM (w,r)>>=λbT=>if decide (bT.2.2=15)=true then some (true,0)
 else if decide (bT.2.2=0)=true then some (false,0)
 else some (false,bT.2.2)
theorem aod:bU o0 QX:= .ca (.k aqb .n)
end
section
open Go Go.Proofs.YtklfhpkljddjbaaGreatDoor.Shv
open Tryz
set_option maxRecDepth 100000

end
section
open Go Go.Proofs.YtklfhpkljddjbaaGreatDoor.Shv
open Tryz
set_option maxRecDepth 100000
def lW(aI:Int×List au×List Int×Int×List Int):Option (ad×Bool×List au×Int×List Int×List Int):=
 match aI with
 |(reason,b,aL,bu,bR)=>
 D0 8 bR>>=λr=>if(decide (r.1.length=bR.length)&&true)=true then some ((⟨0,false,0,[],0,[],[],[]⟩:ad),false,b,reason,r.1,r.2)
 else none
theorem Am:bU N7 lW:= .ca (.k tm .n)
def x8(aI:List UInt8×Int×Int×Int):Option (Int):=
 match aI with
 |(gp,ow,BS,t18)=>
 if decide (t18<BS)=true then if bd t18 gp.length=true then x8 (gp,BJ .u64 (vq .u64 ow 8) (cU .u64 (mR gp t18)),BS,bl .i64 t18 1)
 else none
 else some ow
  partial_fixpoint
theorem apj:ew 104 0 [0] afy x8:= .rx x8.partial_correctness
def KJ(s:List UInt8):Option (Int×Int):=
 some (!(decide (s=[])))>>=λt7=>if(bd 0 s.length||(!t7))=true then if(bif t7 then decide (mR s 0=0)else false)=true then some (0,2)
 else if decide (8<(s.length:Int))=true then some (0,7)
 else x8 (s,0,(s.length:Int),0)>>=λo=>some (o,0)
 else none
theorem aqc:bU N8 KJ:= .ca .n (.k apj .n)
def Q8(n:Int):Option (Int):=
 some (Ex .i64 (cU .i64 (sM .u64 n 1)) (gq .i64 0 (cU .i64 (NL .u64 n 1))))
theorem ao0:bU N9 Q8:= .ca
def Ae(aI:List (List UInt8)×Int×List au×List Int×Int×au×Int×Bool×Int×List UInt8×Int×Int×Bool×Int×List UInt8×Int×List Int×List ad):Option ((Bool×List au×Int×ad×List Int×List Int) ⊕ (List (List UInt8)×List au×List Int×Int×au×Int×Bool×Int×List UInt8×Int×Int×Bool×Int×List UInt8×Int×List Int×List ad)):=
 match aI with
 |(Kl,lI,s8,EZ,E0,IU,IV,IW,NS,NT,NU,NV,NW,NX,NY,NZ,E1,uw)=>
 if decide (lI<(uw.length:Int))=true then some (gq .i64 lI 1)>>=λt86=>if bd t86 uw.length=true then if decide (t86.toNat<uw.length)=true then if bd lI uw.length=true then if decide (lI.toNat<uw.length)=true then Br (ad.eta (uw.getD t86.toNat aY),ad.eta (uw.getD lI.toNat aY))>>=λvl=>if decide (0<=vl)=true then lW (1,s8,EZ,E0,E1)>>=λnq=>some (.inl (nq.2.1,nq.2.2.1,nq.2.2.2.1,ad.eta nq.1,nq.2.2.2.2.1,nq.2.2.2.2.2))
 else Ae (Kl,bl .i64 lI 1,s8,EZ,E0,IU,IV,IW,NS,NT,NU,NV,NW,NX,NY,NZ,E1,uw)
 else none
 else none
 else none
 else none
 else some (.inr (Kl,s8,EZ,E0,IU,IV,IW,NS,NT,NU,NV,NW,NX,NY,NZ,E1,uw))
  partial_fixpoint
theorem anp:ew 110 2 [1] aeT Ae:= .rx Ae.partial_correctness (.k ak7 (.k Am .n))
def Db(aI:List UInt8×Int×Int×Int):Option ((Int×Int×Int) ⊕ (Unit)):=
 match aI with
 |(gp,n,MS,t11)=>
 if decide (t11<MS)=true then if bd t11 gp.length=true then some (mR gp t11)>>=λt16=>if(bif decide (t11=9)then decide (1<t16)else false)=true then some (.inl (0,0,7))
 else if decide (128<=t16)=true then some (rE .i64 7 t11)>>=λt41=>if decide (0<=t41)=true then Db (gp,BJ .u64 n (vq .u64 (cU .u64 (NL .u8 t16 127)) t41),MS,bl .i64 t11 1)
 else none
 else if(bif decide (t16=0)then decide (0<t11)else false)=true then some (.inl (0,0,2))
 else some (rE .i64 7 t11)>>=λt21=>if decide (0<=t21)=true then some (.inl (BJ .u64 n (vq .u64 (cU .u64 t16) t21),bl .i64 t11 1,0))
 else none
 else none
 else some (.inr ())
  partial_fixpoint
theorem apS:ew 243 0 [0] afz Db:= .rx Db.partial_correctness
def RM(s:List UInt8):Option (Int×Int×Int):=
 Db (s,0,fV 10 (s.length:Int),0)>>=λo=>match o with
 |.inl bo=>
 some (bo.1,bo.2.1,bo.2.2)
 |.inr bt=>
 some (0,0,10)
theorem aqR:bU O1 RM:= .ca .n (.k apS .n)
def AR(s:List UInt8):Option (Int×List UInt8×Bool):=
 RM s>>=λr=>if(!(decide (r.2.2=0)))=true then some (0,[],false)
 else if gW r.2.1 (s.length:Int) s.length=true then some (r.1,hU s r.2.1 (s.length:Int),true)
 else none
theorem Yc:bU OR AR:= .ca (.k aqR .n)
def KW(s:List UInt8):Option (List UInt8×List UInt8×Bool):=
 AR s>>=λr=>if(bif (!r.2.2)then true else decide (cU .u64 (r.2.1.length:Int)<r.1))=true then some ([],[],false)
 else if gW 0 r.1 r.2.1.length=true then if gW r.1 (r.2.1.length:Int) r.2.1.length=true then some (hU r.2.1 0 r.1,hU r.2.1 r.1 (r.2.1.length:Int),true)
 else none
 else none
theorem ame:bU OS KW:= .ca (.k Yc .n)
def nA(aI:List UInt8×List (List UInt8)):Option ((Int) ⊕ (List (List UInt8))):=
 match aI with
 |(s,aL)=>
 if(!(decide (s=[])))=true then KW s>>=λr=>if(!r.2.2)=true then some (.inl 12)
 else some [r.1]>>=λt22=>if room 16 (aL++t22).length=true then nA (r.2.1,aL++t22)
 else none
 else some (.inr aL)
  partial_fixpoint
theorem ao1:ew 153 0 [0] aeS nA:= .rx nA.partial_correctness (.k ame .n)
def wm(rL:List UInt8):Option (List (List UInt8)×Int):=
 nA (rL,[])>>=λo=>match o with
 |.inl bo=>
 some ([],bo)
 |.inr bt=>
 some (bt,0)
theorem akR:bU Ow wm:= .ca .n (.k ao1 .n)
mutual
def pF(v:ad):Option (ad):=
 iS 120 v.aZ>>=λr=>iS 120 v.aB>>=λbT=>iS 24 v.Rest>>=λdZ=>C5 ((r.length:Int),0,v.Kind,v.cX,v.b5,v.ch,v.aq,0,false,0,[],0,r,bT,dZ)>>=λo=>C6 ((o.2.2.2.2.2.2.2.2.2.2.2.1.length:Int),0,o.1,o.2.1,o.2.2.1,o.2.2.2.1,o.2.2.2.2.1,o.2.2.2.2.2.1,o.2.2.2.2.2.2.1,o.2.2.2.2.2.2.2.1,o.2.2.2.2.2.2.2.2.1,o.2.2.2.2.2.2.2.2.2.1,o.2.2.2.2.2.2.2.2.2.2.2.1,o.2.2.2.2.2.2.2.2.2.2.1,o.2.2.2.2.2.2.2.2.2.2.2.2)>>=λbo=>some (⟨bo.1,bo.2.1,bo.2.2.1,bo.2.2.2.1,bo.2.2.2.2.1,bo.2.2.2.2.2.2.2.2.2.2.1,bo.2.2.2.2.2.2.2.2.2.2.2.1,bo.2.2.2.2.2.2.2.2.2.2.2.2⟩:ad)
  partial_fixpoint
def C5(aI:Int×Int×Int×Bool×Int×List UInt8×Int×Int×Bool×Int×List UInt8×Int×List ad×List ad×List dD):Option (Int×Bool×Int×List UInt8×Int×Int×Bool×Int×List UInt8×Int×List ad×List ad×List dD):=
 match aI with
 |(MZ,t22,q4,q5,q6,q7,qj,q8,lA,qk,ql,pD,l0,s4,s5)=>
 if decide (t22<MZ)=true then if bd t22 l0.length=true then if decide (t22.toNat<l0.length)=true then pF (ad.eta (l0.getD t22.toNat aY))>>=λdF=>if bd t22 l0.length=true then if decide (t22.toNat<l0.length)=true then C5 (MZ,bl .i64 t22 1,q4,q5,q6,q7,qj,q8,lA,qk,ql,pD,l0.set t22.toNat (ad.eta dF),s4,s5)
 else none
 else none
 else none
 else none
 else some (q4,q5,q6,q7,qj,q8,lA,qk,ql,pD,l0,s4,s5)
  partial_fixpoint
def C6(aI:Int×Int×Int×Bool×Int×List UInt8×Int×Int×Bool×Int×List UInt8×Int×List ad×List ad×List dD):Option (Int×Bool×Int×List UInt8×Int×Int×Bool×Int×List UInt8×Int×List ad×List ad×List dD):=
 match aI with
 |(zr,t37,r3,xI,xJ,xK,zP,Cm,Cn,s6,s7,oO,jW,n4,mT)=>
 if decide (t37<zr)=true then if bd t37 jW.length=true then if decide (t37.toNat<jW.length)=true then pF (ad.eta (jW.getD t37.toNat aY))>>=λez=>if bd t37 jW.length=true then if decide (t37.toNat<jW.length)=true then C6 (zr,bl .i64 t37 1,r3,xI,xJ,xK,zP,Cm,Cn,s6,s7,oO,jW.set t37.toNat (ad.eta ez),n4,mT)
 else none
 else none
 else none
 else none
 else some (r3,xI,xJ,xK,zP,Cm,Cn,s6,s7,oO,n4,jW,mT)
  partial_fixpoint
end
theorem ao2:iv zS pF/\jT 157 0 [1] Lw C6/\jT 157 0 [0] Mc C5:=pF.mutual_partial_correctness (h6 zS) (jR 157 0 [1] Lw) (jR 157 0 [0] Mc)
 (λ_ _ h1 aa _ _ h=>iK h (.k tn (.k uC .n)) (.k (kD Mc aa) (.k (kD Lw h1) .n)))
 (λ_ _ h0 h1 _ _ h=>kC Lw h1 h (.k (ev zS h0) .n))
 (λ_ _ h0 aa _ _ h=>kC Mc aa h (.k (ev zS h0) .n))
theorem apT:bU zS pF:=ev _ ao2.1
def XJ(aI:eB×bj):Option (Bool×bj):=
 match aI with
 |(f,b)=>
 some (decide (f.aq=b.aq),(⟨b.aq,b.Name,b.aQ,b.dq,b.cV,ad.eta b.cB⟩:bj))
theorem aos:bU Oz XJ:= .ca
def xW(aI:List eB×Int×Int×bj):Option ((Int×bj) ⊕ (bj)):=
 match aI with
 |(gp,lP,t8,bR)=>
 if decide (t8<lP)=true then if bd t8 gp.length=true then XJ (gp.getD t8.toNat tj,(⟨bR.aq,bR.Name,bR.aQ,bR.dq,bR.cV,ad.eta bR.cB⟩:bj))>>=λr=>if r.1=true then some (.inl (t8,(⟨r.2.aq,r.2.Name,r.2.aQ,r.2.dq,r.2.cV,ad.eta r.2.cB⟩:bj)))
 else xW (gp,lP,bl .i64 t8 1,(⟨r.2.aq,r.2.Name,r.2.aQ,r.2.dq,r.2.cV,ad.eta r.2.cB⟩:bj))
 else none
 else some (.inr (⟨bR.aq,bR.Name,bR.aQ,bR.dq,bR.cV,ad.eta bR.cB⟩:bj))
  partial_fixpoint
theorem anG:ew 155 1 [0] aeV xW:= .rx xW.partial_correctness (.k aos .n)
def KO(aI:List eB×bj):Option (Int×bj):=
 match aI with
 |(s,b)=>
 xW (s,(s.length:Int),0,(⟨b.aq,b.Name,b.aQ,b.dq,b.cV,ad.eta b.cB⟩:bj))>>=λo=>match o with
 |.inl bo=>
 some (bo.1,(⟨bo.2.aq,bo.2.Name,bo.2.aQ,bo.2.dq,bo.2.cV,ad.eta bo.2.cB⟩:bj))
 |.inr bt=>
 some ((-1),(⟨bt.aq,bt.Name,bt.aQ,bt.dq,bt.cV,ad.eta bt.cB⟩:bj))
theorem anL:bU Oy KO:= .ca .n (.k anG .n)
def xY(aI:List eB×Int×Int×List au×List Int×Int×au×Int×Bool×Int×List UInt8×Int×Int×Bool×Int×List UInt8×Int×List Int×List ad×List dD):Option ((Bool×List au×Int×ad×List Int×List Int) ⊕ (List au×List Int×Int×Int×Bool×Int×List UInt8×Int×Int×Bool×Int×List UInt8×Int×List Int×List ad×List dD)):=
 match aI with
 |(t117,X1,t119,oP,oQ,qq,qt,pE,n',oa,mU,ob,jA,oR,oS,oT,oU,nz,oV,oc)=>
 if decide (t119<X1)=true then if bd t119 t117.length=true then some (t117.getD t119.toNat tj)>>=λlo=>kG (qt,lo.aq)>>=λp6=>if p6.2=true then xY (t117,X1,bl .i64 t119 1,oP,oQ,qq,qt,pE,n',oa,mU,ob,jA,oR,oS,oT,oU,nz,oV,oc)
 else if lo.dq=true then some [lo.aq]>>=λt140=>if room 8 (nz++t140).length=true then lW (6,oP,oQ,qq,nz++t140)>>=λBN=>some (gq .i64 (BN.2.2.2.2.1.length:Int) 1)>>=λt159=>if gW 0 t159 BN.2.2.2.2.1.length=true then if decide (t159.toNat<=BN.2.2.2.2.1.length)=true then some (.inl (false,BN.2.2.1,BN.2.2.2.1,ad.eta BN.1,BN.2.2.2.2.1.take t159.toNat,BN.2.2.2.2.2))
 else none
 else none
 else none
 else some [(⟨lo.aq,lo.Data⟩:dD)]>>=λt171=>if room 24 (oc++t171).length=true then xY (t117,X1,bl .i64 t119 1,oP,oQ,qq,qt,pE,n',oa,mU,ob,jA,oR,oS,oT,oU,nz,oV,oc++t171)
 else none
 else none
 else some (.inr (oP,oQ,qq,pE,n',oa,mU,ob,jA,oR,oS,oT,oU,nz,oV,oc))
  partial_fixpoint
theorem aok:ew 111 2 [1] aeW xY:= .rx xY.partial_correctness (.k ra (.k Am .n))
def lX(aI:Int×List UInt8×List eB):Option ((Int) ⊕ (List eB)):=
 match aI with
 |(last,s,aL)=>
 if(!(decide (s=[])))=true then AR s>>=λr=>if(bif bif (!r.2.2)then true else decide (nW .u64 r.1 2<=last)then true else decide (1000<nW .u64 r.1 2))=true then some (.inl 12)
 else KW r.2.1>>=λez=>if(!ez.2.2)=true then some (.inl 12)
 else some [(⟨cU .i64 (nW .u64 r.1 2),decide (c5 r.1 2=1),ez.1⟩:eB)]>>=λt50=>if room 32 (aL++t50).length=true then lX (nW .u64 r.1 2,ez.2.1,aL++t50)
 else none
 else some (.inr aL)
  partial_fixpoint
theorem aoO:ew 154 0 [0] aeU lX:= .rx lX.partial_correctness (.k Yc (.k ame .n))
def yf(rL:List UInt8):Option (List eB×Int):=
 lX (0,rL,[])>>=λo=>match o with
 |.inl bo=>
 some ([],bo)
 |.inr bt=>
 some (bt,0)
theorem apU:bU Ox yf:= .ca .n (.k aoO .n)
def yw(rL:List UInt8):Option (Int×List UInt8×Int):=
 AR rL>>=λr=>if(bif bif (!r.2.2)then true else decide (r.1<1)then true else decide (1000<r.1))=true then some (0,[],12)
 else some (cU .i64 r.1,r.2.1,0)
theorem aqS:bU Ov yw:= .ca (.k Yc .n)
mutual
def KS(aI:au×List UInt8×List au×List Int×Int×List Int):Option (ad×Bool×List au×List Int×Int×List Int):=
 match aI with
 |(aw,p,b,aL,bu,bR)=>
 wm p>>=λr=>if(bif (!(decide (r.2=0)))then true else(!(decide (c5 (r.1.length:Int) 2=0))))=true then lW (1,b,aL,bu,bR)>>=λdF=>some (ad.eta dF.1,dF.2.1,dF.2.2.1,dF.2.2.2.2.2,dF.2.2.2.1,dF.2.2.2.2.1)
 else if decide (aw.Max<nW .i64 (r.1.length:Int) 2)=true then lW (3,b,aL,bu,bR)>>=λfB=>some (ad.eta fB.1,fB.2.1,fB.2.2.1,fB.2.2.2.2.2,fB.2.2.2.1,fB.2.2.2.2.1)
 else Dv (r.1,0,b,aL,bu,aw,0,false,0,[],0,aw.Kind,false,0,[],0,bR,[])>>=λo=>match o with
 |.inl bo=>
 some (ad.eta bo.2.2.2.2.1,bo.1,bo.2.1,bo.2.2.1,bo.2.2.2.1,bo.2.2.2.2.2)
 |.inr bt=>
 Ae (bt.1,1,bt.2.1,bt.2.2.1,bt.2.2.2.1,bt.2.2.2.2.1,bt.2.2.2.2.2.1,bt.2.2.2.2.2.2.1,bt.2.2.2.2.2.2.2.1,bt.2.2.2.2.2.2.2.2.1,bt.2.2.2.2.2.2.2.2.2.1,bt.2.2.2.2.2.2.2.2.2.2.1,bt.2.2.2.2.2.2.2.2.2.2.2.1,bt.2.2.2.2.2.2.2.2.2.2.2.2.1,bt.2.2.2.2.2.2.2.2.2.2.2.2.2.1,bt.2.2.2.2.2.2.2.2.2.2.2.2.2.2.1,bt.2.2.2.2.2.2.2.2.2.2.2.2.2.2.2.1,bt.2.2.2.2.2.2.2.2.2.2.2.2.2.2.2.2)>>=λmG=>match mG with
 |.inl il=>
 some (ad.eta il.2.2.2.1,il.1,il.2.1,il.2.2.2.2.2,il.2.2.1,il.2.2.2.2.1)
 |.inr er=>
 Dw (er.1,1,er.2.1,er.2.2.1,er.2.2.2.1,er.2.2.2.2.1,er.2.2.2.2.2.1,er.2.2.2.2.2.2.1,er.2.2.2.2.2.2.2.1,er.2.2.2.2.2.2.2.2.1,er.2.2.2.2.2.2.2.2.2.1,er.2.2.2.2.2.2.2.2.2.2.1,er.2.2.2.2.2.2.2.2.2.2.2.1,er.2.2.2.2.2.2.2.2.2.2.2.2.1,er.2.2.2.2.2.2.2.2.2.2.2.2.2.1,er.2.2.2.2.2.2.2.2.2.2.2.2.2.2.1,er.2.2.2.2.2.2.2.2.2.2.2.2.2.2.2.1,er.2.2.2.2.2.2.2.2.2.2.2.2.2.2.2.2,[])>>=λW4=>match W4 with
 |.inl BI=>
 some (ad.eta BI.2.2.2.2.1,BI.1,BI.2.1,BI.2.2.1,BI.2.2.2.1,BI.2.2.2.2.2)
 |.inr p5=>
 some ((⟨p5.2.2.2.2.2.2.2.2.1,p5.2.2.2.2.2.2.2.2.2.1,p5.2.2.2.2.2.2.2.2.2.2.1,p5.2.2.2.2.2.2.2.2.2.2.2.1,p5.2.2.2.2.2.2.2.2.2.2.2.2.1,p5.2.2.2.2.2.2.2.2.2.2.2.2.2.2.1,p5.2.2.2.2.2.2.2.2.2.2.2.2.2.2.2,[]⟩:ad),true,p5.1,p5.2.1,p5.2.2.1,p5.2.2.2.2.2.2.2.2.2.2.2.2.2.1)
  partial_fixpoint
def QZ(aI:au×List UInt8×List au×List Int×Int×List Int):Option (ad×Bool×List au×List Int×Int×List Int):=
 match aI with
 |(aw,p,b,aL,bu,bR)=>
 wm p>>=λr=>if(!(decide (r.2=0)))=true then lW (1,b,aL,bu,bR)>>=λdF=>some (ad.eta dF.1,dF.2.1,dF.2.2.1,dF.2.2.2.2.2,dF.2.2.2.1,dF.2.2.2.2.1)
 else if decide (aw.Max<(r.1.length:Int))=true then lW (3,b,aL,bu,bR)>>=λfB=>some (ad.eta fB.1,fB.2.1,fB.2.2.1,fB.2.2.2.2.2,fB.2.2.2.1,fB.2.2.2.2.1)
 else DB (r.1,(r.1.length:Int),0,b,aL,bu,aw,0,false,0,[],0,aw.Kind,false,0,[],0,bR,[])>>=λo=>match o with
 |.inl bo=>
 some (ad.eta bo.2.2.2.2.1,bo.1,bo.2.1,bo.2.2.1,bo.2.2.2.1,bo.2.2.2.2.2)
 |.inr bt=>
 some ((⟨bt.2.2.2.2.2.2.2.2.1,bt.2.2.2.2.2.2.2.2.2.1,bt.2.2.2.2.2.2.2.2.2.2.1,bt.2.2.2.2.2.2.2.2.2.2.2.1,bt.2.2.2.2.2.2.2.2.2.2.2.2.1,[],bt.2.2.2.2.2.2.2.2.2.2.2.2.2.2,[]⟩:ad),true,bt.1,bt.2.1,bt.2.2.1,bt.2.2.2.2.2.2.2.2.2.2.2.2.2.1)
  partial_fixpoint
def og(aI:Int×Int×List UInt8×List au×List Int×Int×List Int):Option (ad×Bool×List au×List Int×Int×List Int):=
 match aI with
 |(step,t,p,b,aL,bu,bR)=>
 some [step]>>=λt18=>if room 8 (bR++t18).length=true then x0 (t,p,b,aL,bu,bR++t18)>>=λr=>some (gq .i64 (r.2.2.2.2.2.length:Int) 1)>>=λt39=>if gW 0 t39 r.2.2.2.2.2.length=true then if decide (t39.toNat<=r.2.2.2.2.2.length)=true then some (ad.eta r.1,r.2.1,r.2.2.1,r.2.2.2.1,r.2.2.2.2.1,r.2.2.2.2.2.take t39.toNat)
 else none
 else none
 else none
  partial_fixpoint
def x0(aI:Int×List UInt8×List au×List Int×Int×List Int):Option (ad×Bool×List au×List Int×Int×List Int):=
 match aI with
 |(t,p,b,aL,bu,bR)=>
 if decide (200<=(bR.length:Int))=true then lW (8,b,aL,bu,bR)>>=λr=>some (ad.eta r.1,r.2.1,r.2.2.1,r.2.2.2.2.2,r.2.2.2.1,r.2.2.2.2.1)
 else if bd t b.length=true then some (b.getD t.toNat a8)>>=λaw=>if decide (aw.Kind=1)=true then some (decide (p=[1]))>>=λt50=>if(bif (!(decide (p=[])))then(!t50)else false)=true then lW (1,b,aL,bu,bR)>>=λir=>some (ad.eta ir.1,ir.2.1,ir.2.2.1,ir.2.2.2.2.2,ir.2.2.2.1,ir.2.2.2.2.1)
 else some ((⟨aw.Kind,t50,0,[],0,[],[],[]⟩:ad),true,b,aL,bu,bR)
 else if decide (aw.Kind=2)=true then KJ p>>=λlN=>if(!(decide (lN.2=0)))=true then lW (1,b,aL,bu,bR)>>=λha=>some (ad.eta ha.1,ha.2.1,ha.2.2.1,ha.2.2.2.2.2,ha.2.2.2.1,ha.2.2.2.2.1)
 else Q8 lN.1>>=λvl=>if(bif decide (vl<aw.cA)then true else decide (aw.cD<vl))=true then lW (2,b,aL,bu,bR)>>=λnq=>some (ad.eta nq.1,nq.2.1,nq.2.2.1,nq.2.2.2.2.2,nq.2.2.2.1,nq.2.2.2.2.1)
 else some ((⟨aw.Kind,false,vl,[],0,[],[],[]⟩:ad),true,b,aL,bu,bR)
 else if decide (aw.Kind=3)=true then if decide (aw.Max<(p.length:Int))=true then lW (3,b,aL,bu,bR)>>=λmf=>some (ad.eta mf.1,mf.2.1,mf.2.2.1,mf.2.2.2.2.2,mf.2.2.2.1,mf.2.2.2.2.1)
 else some ((⟨aw.Kind,false,0,p,0,[],[],[]⟩:ad),true,b,aL,bu,bR)
 else if decide (aw.Kind=4)=true then KJ p>>=λSN=>if(bif bif (!(decide (SN.2=0)))then true else decide (SN.1<1)then true else decide (1000<SN.1))=true then lW (1,b,aL,bu,bR)>>=λpf=>some (ad.eta pf.1,pf.2.1,pf.2.2.1,pf.2.2.2.2.2,pf.2.2.2.1,pf.2.2.2.2.1)
 else some (cU .i64 SN.1)>>=λt130=>yc (aw,t130)>>=λaCy=>if(bif (!aCy.2)then(!aw.Open)else false)=true then lW (4,b,aL,bu,bR)>>=λHF=>some (ad.eta HF.1,HF.2.1,HF.2.2.1,HF.2.2.2.2.2,HF.2.2.2.1,HF.2.2.2.2.1)
 else some ((⟨aw.Kind,false,0,[],t130,[],[],[]⟩:ad),true,b,aL,bu,bR)
 else if decide (aw.Kind=9)=true then if decide (p=[])=true then some ((⟨aw.Kind,false,0,[],0,[],[],[]⟩:ad),true,b,aL,bu,bR)
 else if bd 0 p.length=true then if(!(decide (mR p 0=1)))=true then lW (1,b,aL,bu,bR)>>=λHG=>some (ad.eta HG.1,HG.2.1,HG.2.2.1,HG.2.2.2.2.2,HG.2.2.2.1,HG.2.2.2.2.1)
 else if gW 1 (p.length:Int) p.length=true then og (0,aw.a6,hU p 1 (p.length:Int),b,aL,bu,bR)>>=λHH=>some ((⟨aw.Kind,false,0,[],0,[],[ad.eta HH.1],[]⟩:ad),HH.2.1,HH.2.2.1,HH.2.2.2.1,HH.2.2.2.2.1,HH.2.2.2.2.2)
 else none
 else none
 else if decide (aw.Kind=6)=true then QY (aw,p,b,aL,bu,bR)>>=λHI=>some (ad.eta HI.1,HI.2.1,HI.2.2.1,HI.2.2.2.1,HI.2.2.2.2.1,HI.2.2.2.2.2)
 else if decide (aw.Kind=7)=true then QZ (aw,p,b,aL,bu,bR)>>=λvn=>some (ad.eta vn.1,vn.2.1,vn.2.2.1,vn.2.2.2.1,vn.2.2.2.2.1,vn.2.2.2.2.2)
 else if decide (aw.Kind=8)=true then KS (aw,p,b,aL,bu,bR)>>=λHJ=>some (ad.eta HJ.1,HJ.2.1,HJ.2.2.1,HJ.2.2.2.1,HJ.2.2.2.2.1,HJ.2.2.2.2.2)
 else KT (aw,p,b,aL,bu,bR)>>=λHK=>some (ad.eta HK.1,HK.2.1,HK.2.2.1,HK.2.2.2.1,HK.2.2.2.2.1,HK.2.2.2.2.2)
 else none
  partial_fixpoint
def KT(aI:au×List UInt8×List au×List Int×Int×List Int):Option (ad×Bool×List au×List Int×Int×List Int):=
 match aI with
 |(aw,p,b,aL,bu,bR)=>
 yf p>>=λr=>if(!(decide (r.2=0)))=true then lW (1,b,aL,bu,bR)>>=λdF=>some (ad.eta dF.1,dF.2.1,dF.2.2.1,dF.2.2.2.2.2,dF.2.2.2.1,dF.2.2.2.2.1)
 else uB (r.1,aw.al,(aw.al.length:Int),0,b,aL,bu,aw,0,false,0,[],0,aw.Kind,false,0,[],0,bR,[])>>=λo=>match o with
 |.inl bo=>
 some (ad.eta bo.2.2.2.2.1,bo.1,bo.2.1,bo.2.2.1,bo.2.2.2.1,bo.2.2.2.2.2)
 |.inr bt=>
 xY (bt.1,(bt.1.length:Int),0,bt.2.1,bt.2.2.1,bt.2.2.2.1,bt.2.2.2.2.1,bt.2.2.2.2.2.1,bt.2.2.2.2.2.2.1,bt.2.2.2.2.2.2.2.1,bt.2.2.2.2.2.2.2.2.1,bt.2.2.2.2.2.2.2.2.2.1,bt.2.2.2.2.2.2.2.2.2.2.1,bt.2.2.2.2.2.2.2.2.2.2.2.1,bt.2.2.2.2.2.2.2.2.2.2.2.2.1,bt.2.2.2.2.2.2.2.2.2.2.2.2.2.1,bt.2.2.2.2.2.2.2.2.2.2.2.2.2.2.1,bt.2.2.2.2.2.2.2.2.2.2.2.2.2.2.2.1,bt.2.2.2.2.2.2.2.2.2.2.2.2.2.2.2.2,[])>>=λmG=>match mG with
 |.inl il=>
 some (ad.eta il.2.2.2.1,il.1,il.2.1,il.2.2.2.2.2,il.2.2.1,il.2.2.2.2.1)
 |.inr er=>
 some ((⟨er.2.2.2.2.2.2.2.2.1,er.2.2.2.2.2.2.2.2.2.1,er.2.2.2.2.2.2.2.2.2.2.1,er.2.2.2.2.2.2.2.2.2.2.2.1,er.2.2.2.2.2.2.2.2.2.2.2.2.1,[],er.2.2.2.2.2.2.2.2.2.2.2.2.2.2.1,er.2.2.2.2.2.2.2.2.2.2.2.2.2.2.2⟩:ad),true,er.1,er.2.1,er.2.2.1,er.2.2.2.2.2.2.2.2.2.2.2.2.2.1)
  partial_fixpoint
def QY(aI:au×List UInt8×List au×List Int×Int×List Int):Option (ad×Bool×List au×List Int×Int×List Int):=
 match aI with
 |(aw,p,b,aL,bu,bR)=>
 yw p>>=λr=>if(!(decide (r.2.2=0)))=true then lW (1,b,aL,bu,bR)>>=λez=>some (ad.eta ez.1,ez.2.1,ez.2.2.1,ez.2.2.2.2.2,ez.2.2.2.1,ez.2.2.2.2.1)
 else kG (aw,r.1)>>=λh3=>if h3.2=true then if bd h3.1 aw.al.length=true then og (r.1,(aw.al.getD h3.1.toNat aX).aQ,r.2.1,b,aL,bu,bR)>>=λlN=>some ((⟨aw.Kind,false,0,[],r.1,[],[ad.eta lN.1],[]⟩:ad),lN.2.1,lN.2.2.1,lN.2.2.2.1,lN.2.2.2.2.1,lN.2.2.2.2.2)
 else none
 else if(!aw.Open)=true then lW (5,b,aL,bu,bR)>>=λjK=>some (ad.eta jK.1,jK.2.1,jK.2.2.1,jK.2.2.2.2.2,jK.2.2.2.1,jK.2.2.2.2.1)
 else some ((⟨aw.Kind,false,0,[],r.1,[],[],[(⟨r.1,r.2.1⟩:dD)]⟩:ad),true,b,aL,bu,bR)
  partial_fixpoint
def Dv(aI:List (List UInt8)×Int×List au×List Int×Int×au×Int×Bool×Int×List UInt8×Int×Int×Bool×Int×List UInt8×Int×List Int×List ad):Option ((Bool×List au×List Int×Int×ad×List Int) ⊕ (List (List UInt8)×List au×List Int×Int×au×Int×Bool×Int×List UInt8×Int×Int×Bool×Int×List UInt8×Int×List Int×List ad)):=
 match aI with
 |(jt,i,n',oa,mU,ob,jA,oR,oS,oT,oU,nz,oV,oc,r4,oW,uu,uv)=>
 if decide (i<(jt.length:Int))=true then if bd i jt.length=true then og (nW .i64 i 2,ob.Key,jt.getD i.toNat [],n',oa,mU,uu)>>=λha=>if(!ha.2.1)=true then some (.inl (false,ha.2.2.1,ha.2.2.2.1,ha.2.2.2.2.1,ad.eta ha.1,ha.2.2.2.2.2))
 else some [ad.eta ha.1]>>=λt73=>if room 120 (uv++t73).length=true then Dv (jt,bl .i64 i 2,ha.2.2.1,ha.2.2.2.1,ha.2.2.2.2.1,ob,jA,oR,oS,oT,oU,nz,oV,oc,r4,oW,ha.2.2.2.2.2,uv++t73)
 else none
 else none
 else some (.inr (jt,n',oa,mU,ob,jA,oR,oS,oT,oU,nz,oV,oc,r4,oW,uu,uv))
  partial_fixpoint
def Dw(aI:List (List UInt8)×Int×List au×List Int×Int×au×Int×Bool×Int×List UInt8×Int×Int×Bool×Int×List UInt8×Int×List Int×List ad×List ad):Option ((Bool×List au×List Int×Int×ad×List Int) ⊕ (List au×List Int×Int×Int×Bool×Int×List UInt8×Int×Int×Bool×Int×List UInt8×Int×List Int×List ad×List ad)):=
 match aI with
 |(Qk,Kh,IX,ID,IE,IF,IG,EX,IH,II,IJ,IK,IL,IN,IP,IQ,NQ,NR,IS)=>
 if decide (Kh<(Qk.length:Int))=true then if bd Kh Qk.length=true then og (nW .i64 Kh 2,IF.a6,Qk.getD Kh.toNat [],IX,ID,IE,NQ)>>=λmf=>if(!mf.2.1)=true then some (.inl (false,mf.2.2.1,mf.2.2.2.1,mf.2.2.2.2.1,ad.eta mf.1,mf.2.2.2.2.2))
 else some [ad.eta mf.1]>>=λt125=>if room 120 (IS++t125).length=true then Dw (Qk,bl .i64 Kh 2,mf.2.2.1,mf.2.2.2.1,mf.2.2.2.2.1,IF,IG,EX,IH,II,IJ,IK,IL,IN,IP,IQ,mf.2.2.2.2.2,NR,IS++t125)
 else none
 else none
 else some (.inr (IX,ID,IE,IG,EX,IH,II,IJ,IK,IL,IN,IP,IQ,NQ,NR,IS))
  partial_fixpoint
def DB(aI:List (List UInt8)×Int×Int×List au×List Int×Int×au×Int×Bool×Int×List UInt8×Int×Int×Bool×Int×List UInt8×Int×List Int×List ad):Option ((Bool×List au×List Int×Int×ad×List Int) ⊕ (List au×List Int×Int×Int×Bool×Int×List UInt8×Int×Int×Bool×Int×List UInt8×Int×List Int×List ad)):=
 match aI with
 |(t38,M1,t40,zO,ur,q4,q5,q6,q7,qj,q8,lA,qk,ql,pD,l0,s4,s5,r3)=>
 if decide (t40<M1)=true then if bd t40 t38.length=true then og (t40,q5.a6,t38.getD t40.toNat [],zO,ur,q4,s5)>>=λha=>if(!ha.2.1)=true then some (.inl (false,ha.2.2.1,ha.2.2.2.1,ha.2.2.2.2.1,ad.eta ha.1,ha.2.2.2.2.2))
 else some [ad.eta ha.1]>>=λt60=>if room 120 (r3++t60).length=true then DB (t38,M1,bl .i64 t40 1,ha.2.2.1,ha.2.2.2.1,ha.2.2.2.2.1,q5,q6,q7,qj,q8,lA,qk,ql,pD,l0,s4,ha.2.2.2.2.2,r3++t60)
 else none
 else none
 else some (.inr (zO,ur,q4,q6,q7,qj,q8,lA,qk,ql,pD,l0,s4,s5,r3))
  partial_fixpoint
def uB(aI:List eB×List bj×Int×Int×List au×List Int×Int×au×Int×Bool×Int×List UInt8×Int×Int×Bool×Int×List UInt8×Int×List Int×List ad):Option ((Bool×List au×List Int×Int×ad×List Int) ⊕ (List eB×List au×List Int×Int×au×Int×Bool×Int×List UInt8×Int×Int×Bool×Int×List UInt8×Int×List Int×List ad)):=
 match aI with
 |(tE,t39,X6,t41,s6,s7,oO,jW,n4,mT,q9,qm,vO,vP,vQ,qn,qo,qp,n5,n9)=>
 if decide (t41<X6)=true then if bd t41 t39.length=true then some (t39.getD t41.toNat aX)>>=λcE=>KO (tE,(⟨cE.aq,cE.Name,cE.aQ,cE.dq,cE.cV,ad.eta cE.cB⟩:bj))>>=λfB=>if decide (0<=fB.1)=true then if bd fB.1 tE.length=true then og (fB.2.aq,fB.2.aQ,(tE.getD fB.1.toNat tj).Data,s6,s7,oO,n5)>>=λg'=>
 if(!g'.2.1)=true then some (.inl (false,g'.2.2.1,g'.2.2.2.1,g'.2.2.2.2.1,ad.eta g'.1,g'.2.2.2.2.2))
 else some [ad.eta g'.1]>>=λt102=>if room 120 (n9++t102).length=true then uB (tE,t39,X6,bl .i64 t41 1,g'.2.2.1,g'.2.2.2.1,g'.2.2.2.2.1,jW,n4,mT,q9,qm,vO,vP,vQ,qn,qo,qp,g'.2.2.2.2.2,n9++t102)
 else none
 else none
 else if fB.2.cV=true then pF (ad.eta fB.2.cB)>>=λjv=>some [ad.eta jv]>>=λt113=>if room 120 (n9++t113).length=true then uB (tE,t39,X6,bl .i64 t41 1,s6,s7,oO,jW,n4,mT,q9,qm,vO,vP,vQ,qn,qo,qp,n5,n9++t113)
 else none
 else some [fB.2.aq]>>=λt55=>if room 8 (n5++t55).length=true then lW (7,s6,s7,oO,n5++t55)>>=λjK=>some (gq .i64 (jK.2.2.2.2.1.length:Int) 1)>>=λt74=>if gW 0 t74 jK.2.2.2.2.1.length=true then if decide (t74.toNat<=jK.2.2.2.2.1.length)=true then some (.inl (false,jK.2.2.1,jK.2.2.2.2.2,jK.2.2.2.1,ad.eta jK.1,jK.2.2.2.2.1.take t74.toNat))
 else none
 else none
 else none
 else none
 else some (.inr (tE,s6,s7,oO,jW,n4,mT,q9,qm,vO,vP,vQ,qn,qo,qp,n5,n9))
  partial_fixpoint
end
theorem aol:iv Fb KS/\jT 110 2 [2] LW Dw/\iv uQ og/\iv Cz x0/\iv Fc KT/\jT 111 2 [0] Lx uB/\iv Fa QZ/\jT 109 2 [0] LU DB/\iv E' QY/\jT 110 2 [0] LV Dv:=KS.mutual_partial_correctness (h6 Fb) (jR 110 2 [2] LW) (h6 uQ) (h6 Cz) (h6 Fc) (jR 111 2 [0] Lx) (h6 Fa) (jR 109 2 [0] LU) (h6 E') (jR 110 2 [0] LV)
 (λ_ _ h1 lE _ _ h=>iK h (.k akR (.k Am .n)) (.k (kD LV lE) (.k anp (.k (kD LW h1) .n))))
 (λ_ _ h1 aa _ _ h=>kC LW h1 h (.k (ev uQ aa) .n))
 (λ_ aA _ _ h=>iK h (.k (ev Cz aA) .n))
 (λ_ _ _ _ _ h0 aa aU dO hW _ _ h=>iK h (.k Am (.k aqc (.k ao0 (.k KC (.k (ev uQ aa) (.k (ev E' hW) (.k (ev Fa dO) (.k (ev Fb h0) (.k (ev Fc aU) .n))))))))))
 (λ_ bN _ _ h=>iK h (.k apU (.k Am .n)) (.k (kD Lx bN) (.k aok .n)))
 (λ_ _ aa bN _ _ h=>kC Lx bN h (.k anL (.k (ev uQ aa) (.k apT (.k Am .n)))))
 (λ_ hV _ _ h=>iK h (.k akR (.k Am .n)) (.k (kD LU hV) .n))
 (λ_ _ aa hV _ _ h=>kC LU hV h (.k (ev uQ aa) .n))
 (λ_ aa _ _ h=>iK h (.k aqS (.k Am (.k ra (.k (ev uQ aa) .n)))))
 (λ_ _ aa lE _ _ h=>kC LV lE h (.k (ev uQ aa) .n))
theorem aoz:bU Cz x0:=ev _ aol.2.2.2.1
def Zv(aI:bY×Int×List UInt8):Option (ad×th×Int):=
 match aI with
 |(s,t,m)=>
 wk s>>=λr=>if(!(decide (r=0)))=true then some ((⟨0,false,0,[],0,[],[],[]⟩:ad),(⟨[],0⟩:th),r)
 else if(bif decide (t<0)then true else decide ((s.Types.length:Int)<=t))=true then some ((⟨0,false,0,[],0,[],[],[]⟩:ad),(⟨[],0⟩:th),4)
 else if decide (4096<(m.length:Int))=true then some ((⟨0,false,0,[],0,[],[],[]⟩:ad),(⟨[],3⟩:th),12)
 else x0 (t,m,s.Types,[],0,[])>>=λbT=>if(!bT.2.1)=true then some ((⟨0,false,0,[],0,[],[],[]⟩:ad),(⟨bT.2.2.2.1,bT.2.2.2.2.1⟩:th),12)
 else some (ad.eta bT.1,(⟨[],0⟩:th),0)
theorem aq6:bU OV Zv:= .ca (.k C9 (.k aoz .n))
def wi(aI:bY×Int×List UInt8):Option (ad×Int):=
 match aI with
 |(s,t,m)=>
 Zv (s,t,m)>>=λr=>some (ad.eta r.1,r.2.2)
theorem ak8:bU zW wi:= .ca (.k aq6 .n)
def oe(aI:Int×List au×List Int×Bool):Option (Int×List au×List Int×Bool):=
 match aI with
 |(n,b,aL,bu)=>
 if decide ((aL.length:Int)=0)=true then some (0,b,aL,bu)
 else if bd 0 aL.length=true then if(!(decide (n=0)))=true then if gW 1 (aL.length:Int) aL.length=true then some (c5 (cU .i64 (aL.getD (0:Int).toNat 0)) n,b,hU aL 1 (aL.length:Int),bu)
 else none
 else none
 else none
theorem Dx:bU ax8 oe:= .ca
def Du(aI:List UInt8×Int×List au×List Int×Bool):Option (List UInt8×List au×List Int×Bool):=
 match aI with
 |(gp,n,iy,jz,ia)=>
 if decide (0<n)=true then oe (3,iy,jz,ia)>>=λhq=>some (uU (cU .i32 (bl .i64 97 hq.1)))>>=λt21=>if decide (gp.length+t21.length<=iQ)=true then Du (gp++t21,gq .i64 n 1,hq.2.1,hq.2.2.1,hq.2.2.2)
 else none
 else some (gp,iy,jz,ia)
  partial_fixpoint
theorem anP:ew 44 1 [0] agO Du:= .rx Du.partial_correctness (.k Dx .n)
def Rn(aI:Int×List au×List Int×Bool):Option (List UInt8×List au×List Int×Bool):=
 match aI with
 |(most,b,aL,bu)=>
 oe (bl .i64 (fV most 3) 1,b,aL,bu)>>=λr=>Du ([],r.1,r.2.1,r.2.2.1,r.2.2.2)>>=λo=>some (o.1,o.2.1,o.2.2.1,o.2.2.2)
theorem aot:bU ax9 Rn:= .ca (.k Dx .n) (.k anP .n)
def Ge(aI:List au×List Int×Bool):Option (Bool×List au×List Int×Bool):=
 match aI with
 |(b,aL,bu)=>
 if bu=true then oe (4,b,aL,bu)>>=λr=>some (bif bu then decide (r.1=3)else false,r.2.1,r.2.2.1,r.2.2.2)
 else some (bif bu then false else false,b,aL,bu)
theorem aoA:bU ax' Ge:= .ca (.k Dx .n)
def x1(aI:Int×Int×au):Option ((Int×Bool) ⊕ (Unit)):=
 match aI with
 |(Ki,i,b)=>
 if decide (i<(b.al.length:Int))=true then if bd i b.al.length=true then if decide ((b.al.getD i.toNat aX).aq=Ki)=true then some (.inl (i,true))
 else x1 (Ki,bl .i64 i 1,b)
 else none
 else some (.inr ())
  partial_fixpoint
theorem aoB:ew 132 0 [0] aeX x1:= .rx x1.partial_correctness
def Kx(aI:au×Int):Option (Int×Bool):=
 match aI with
 |(t,id)=>
 x1 (id,0,t)>>=λo=>match o with
 |.inl bo=>
 some (bo.1,bo.2)
 |.inr bt=>
 some (0,false)
theorem anQ:bU axP Kx:= .ca .n (.k aoB .n)
def v8(aI:Int×Int×au):Option ((Int×Bool) ⊕ (Unit)):=
 match aI with
 |(Ki,i,b)=>
 if decide (i<(b.bW.length:Int))=true then if bd i b.bW.length=true then if decide ((b.bW.getD i.toNat jj).aq=Ki)=true then some (.inl (i,true))
 else v8 (Ki,bl .i64 i 1,b)
 else none
 else some (.inr ())
  partial_fixpoint
theorem aoC:ew 133 0 [0] aeY v8:= .rx v8.partial_correctness
def Q0(aI:au×Int):Option (Int×Bool):=
 match aI with
 |(t,id)=>
 v8 (id,0,t)>>=λo=>match o with
 |.inl bo=>
 some (bo.1,bo.2)
 |.inr bt=>
 some (0,false)
theorem anR:bU axQ Q0:= .ca .n (.k aoC .n)
def Q6(aI:au×Int):Option (Bool):=
 match aI with
 |(t,n)=>
 Kx (t,n)>>=λr=>Q0 (t,n)>>=λdF=>some (bif r.2 then true else dF.2)
theorem aoP:bU ayk Q6:= .ca (.k anQ (.k anR .n))
def Gb(aI:Int×List au×List Int×Bool×au):Option (Int×List au×List Int×Bool):=
 match aI with
 |(ow,iy,jz,ia,kO)=>
 Q6 (kO,ow)>>=λhq=>if hq=true then Gb (bl .i64 ow 1,iy,jz,ia,kO)
 else some (ow,iy,jz,ia)
  partial_fixpoint
theorem anO:ew 46 1 [0] agP Gb:= .rx Gb.partial_correctness (.k aoP .n)
def Ad(aI:au×List au×List Int×Bool):Option (Int×List au×List Int×Bool):=
 match aI with
 |(t,b,aL,bu)=>
 oe (14,b,aL,bu)>>=λr=>Gb (bl .i64 1 r.1,r.2.1,r.2.2.1,r.2.2.2,t)>>=λo=>some (o.1,o.2.1,o.2.2.1,o.2.2.2)
theorem ani:bU aya Ad:= .ca (.k Dx .n) (.k anO .n)
def Gf(aI:Int×List au×List Int×Bool):Option (dD×List au×List Int×Bool):=
 match aI with
 |(n,b,aL,bu)=>
 some [[],[1],[97],[3,1,2]]>>=λt6=>oe (4,b,aL,bu)>>=λr=>if bd r.1 t6.length=true then some ((⟨n,t6.getD r.1.toNat []⟩:dD),r.2.1,r.2.2.1,r.2.2.2)
 else none
theorem aoD:bU ayb Gf:= .ca (.k Dx .n)
def q'(aI:Bool×Bool):Option (Int):=
 match aI with
 |(less,equal)=>
 if equal=true then some 0
 else if less=true then some (-1)
 else some 1
theorem apk:bU axR q':= .ca
def Ky(n:Int):Option (Int):=
 if decide (0<=n)=true then some (rE .u64 2 (cU .u64 n))
 else some (bl .u64 (rE .u64 2 (cU .u64 (gq .i64 0 (bl .i64 n 1)))) 1)
theorem anS:bU axS Ky:= .ca
def DD(aI:ad×ad):Option (Int):=
 match aI with
 |(a,b)=>
 if(!(decide (a.Kind=b.Kind)))=true then some 0
 else if decide (a.Kind=1)=true then q' (b.cX,kh a.cX b.cX)>>=λr=>some r
 else if decide (a.Kind=2)=true then Ky a.b5>>=λbT=>Ky b.b5>>=λdZ=>q' (decide (bT<dZ),decide (a.b5=b.b5))>>=λdF=>some dF
 else if decide (a.Kind=3)=true then if(!(decide ((a.ch.length:Int)=(b.ch.length:Int))))=true then q' (decide ((a.ch.length:Int)<(b.ch.length:Int)),false)>>=λez=>some ez
 else q' (Op.bytesLess a.ch b.ch,decide (a.ch=b.ch))>>=λhq=>some hq
 else if decide (a.Kind=4)=true then q' (decide (a.aq<b.aq),decide (a.aq=b.aq))>>=λiq=>some iq
 else some 0
theorem alq:bU ayl DD:= .ca (.k apk (.k anS .n))
def Bf(aI:Int×ad×ad×ad×Int×Bool×Int×List UInt8×Int):Option (Int×ad×ad×ad×Int×Bool×Int×List UInt8×Int):=
 match aI with
 |(lI,ia,kO,IC,IM,EY,xG,oN,r2)=>
 some (decide (lI<(ia.aZ.length:Int)))>>=λt12=>if(bd lI ia.aZ.length||(!t12))=true then (if t12=true then DD (ad.eta (ia.aZ.getD lI.toNat aY),ad.eta kO)else some 0)>>=λbT=>if(bif t12 then decide (bT<0)else false)=true then Bf (bl .i64 lI 1,ad.eta ia,ad.eta kO,ad.eta IC,IM,EY,xG,oN,r2)
 else some (lI,ad.eta ia,ad.eta kO,ad.eta IC,IM,EY,xG,oN,r2)
 else none
  partial_fixpoint
theorem anT:ew 48 0 [0] agQ Bf:= .rx Bf.partial_correctness (.k alq .n)
def Q9(aI:ad×ad×ad):Option (ad):=
 match aI with
 |(v,key,item)=>
 Bf (0,ad.eta v,ad.eta key,ad.eta item,0,false,0,[],0)>>=λo=>some (decide (o.1<(o.2.1.aZ.length:Int)))>>=λt29=>if(bd o.1 o.2.1.aZ.length||(!t29))=true then (if t29=true then DD (ad.eta (o.2.1.aZ.getD o.1.toNat aY),ad.eta o.2.2.1)else some 0)>>=λr=>if(bif t29 then decide (r=0)else false)=true then some (ad.eta o.2.1)
 else if gW 0 o.1 o.2.1.aZ.length=true then some (hU o.2.1.aZ 0 o.1)>>=λt45=>if room 120 ([]++t45).length=true then some ([]++t45)>>=λl=>some [ad.eta o.2.2.1]>>=λt48=>if room 120 (l++t48).length=true then some (l++t48)>>=λtE=>if gW o.1 (o.2.1.aZ.length:Int) o.2.1.aZ.length=true then some (hU o.2.1.aZ o.1 (o.2.1.aZ.length:Int))>>=λt53=>if room 120 (tE++t53).length=true then if gW 0 o.1 o.2.1.aB.length=true then some (hU o.2.1.aB 0 o.1)>>=λt60=>if room 120 ([]++t60).length=true then some ([]++t60)>>=λgD=>some [ad.eta o.2.2.2.1]>>=λt63=>if room 120 (gD++t63).length=true then some (gD++t63)>>=λKl=>if gW o.1 (o.2.1.aB.length:Int) o.2.1.aB.length=true then some (hU o.2.1.aB o.1 (o.2.1.aB.length:Int))>>=λt68=>if room 120 (Kl++t68).length=true then some (⟨o.2.1.Kind,o.2.1.cX,o.2.1.b5,o.2.1.ch,o.2.1.aq,tE++t53,Kl++t68,o.2.1.Rest⟩:ad)
 else none
 else none
 else none
 else none
 else none
 else none
 else none
 else none
 else none
 else none
 else none
theorem ao3:bU ayc Q9:= .ca (.k alq .n) (.k anT .n)
mutual
def qv(aI:Int×List au×List Int×Bool):Option (ad×List au×List Int×Bool):=
 match aI with
 |(t,b,aL,bu)=>
 if bd t b.length=true then some (b.getD t.toNat a8)>>=λaw=>if decide (aw.Kind=1)=true then oe (2,b,aL,bu)>>=λr=>some ((⟨aw.Kind,decide (r.1=1),0,[],0,[],[],[]⟩:ad),r.2.1,r.2.2.1,r.2.2.2)
 else if decide (aw.Kind=2)=true then oe (256,b,aL,bu)>>=λhq=>some (bl .i64 (gq .i64 aw.cD aw.cA) 1)>>=λt51=>if(!(decide (t51=0)))=true then some ((⟨aw.Kind,false,bl .i64 aw.cA (c5 hq.1 t51),[],0,[],[],[]⟩:ad),hq.2.1,hq.2.2.1,hq.2.2.2)
 else none
 else if decide (aw.Kind=3)=true then Rn (aw.Max,b,aL,bu)>>=λfB=>some ((⟨aw.Kind,false,0,fB.1,0,[],[],[]⟩:ad),fB.2.1,fB.2.2.1,fB.2.2.2)
 else if decide (aw.Kind=4)=true then oe ((aw.bW.length:Int),b,aL,bu)>>=λmI=>if bd mI.1 aw.bW.length=true then some (aw.bW.getD mI.1.toNat jj)>>=λcE=>if aw.Open=true then Ge (mI.2.1,mI.2.2.1,mI.2.2.2)>>=λjv=>if(bif aw.Open then jv.1 else false)=true then Ad (aw,jv.2.1,jv.2.2.1,jv.2.2.2)>>=λnq=>some ((⟨aw.Kind,false,0,[],nq.1,[],[],[]⟩:ad),nq.2.1,nq.2.2.1,nq.2.2.2)
 else some ((⟨aw.Kind,false,0,[],cE.aq,[],[],[]⟩:ad),jv.2.1,jv.2.2.1,jv.2.2.2)
 else if(bif aw.Open then false else false)=true then Ad (aw,mI.2.1,mI.2.2.1,mI.2.2.2)>>=λvm=>some ((⟨aw.Kind,false,0,[],vm.1,[],[],[]⟩:ad),vm.2.1,vm.2.2.1,vm.2.2.2)
 else some ((⟨aw.Kind,false,0,[],cE.aq,[],[],[]⟩:ad),mI.2.1,mI.2.2.1,mI.2.2.2)
 else none
 else if decide (aw.Kind=5)=true then uA (0,b,aL,bu,0,false,0,[],0,aw.Kind,aw.Name,aw.cA,aw.cD,aw.Max,aw.bW,aw.al,aw.Key,aw.a6,aw.Open,aw.Kind,false,0,[],0,[])>>=λo=>Ge (o.1,o.2.1,o.2.2.1)>>=λoz=>if oz.1=true then Ad ((⟨o.2.2.2.2.2.2.2.2.1,o.2.2.2.2.2.2.2.2.2.1,o.2.2.2.2.2.2.2.2.2.2.1,o.2.2.2.2.2.2.2.2.2.2.2.1,o.2.2.2.2.2.2.2.2.2.2.2.2.1,o.2.2.2.2.2.2.2.2.2.2.2.2.2.1,o.2.2.2.2.2.2.2.2.2.2.2.2.2.2.1,o.2.2.2.2.2.2.2.2.2.2.2.2.2.2.2.1,o.2.2.2.2.2.2.2.2.2.2.2.2.2.2.2.2.1,o.2.2.2.2.2.2.2.2.2.2.2.2.2.2.2.2.2.1⟩:au),oz.2.1,oz.2.2.1,oz.2.2.2)>>=λSO=>Gf (SO.1,SO.2.1,SO.2.2.1,SO.2.2.2)>>=λSP=>some ((⟨o.2.2.2.2.2.2.2.2.2.2.2.2.2.2.2.2.2.2.1,o.2.2.2.2.2.2.2.2.2.2.2.2.2.2.2.2.2.2.2.1,o.2.2.2.2.2.2.2.2.2.2.2.2.2.2.2.2.2.2.2.2.1,o.2.2.2.2.2.2.2.2.2.2.2.2.2.2.2.2.2.2.2.2.2.1,o.2.2.2.2.2.2.2.2.2.2.2.2.2.2.2.2.2.2.2.2.2.2.1,[],o.2.2.2.2.2.2.2.2.2.2.2.2.2.2.2.2.2.2.2.2.2.2.2,[SP.1]⟩:ad),SP.2.1,SP.2.2.1,SP.2.2.2)
 else some ((⟨o.2.2.2.2.2.2.2.2.2.2.2.2.2.2.2.2.2.2.1,o.2.2.2.2.2.2.2.2.2.2.2.2.2.2.2.2.2.2.2.1,o.2.2.2.2.2.2.2.2.2.2.2.2.2.2.2.2.2.2.2.2.1,o.2.2.2.2.2.2.2.2.2.2.2.2.2.2.2.2.2.2.2.2.2.1,o.2.2.2.2.2.2.2.2.2.2.2.2.2.2.2.2.2.2.2.2.2.2.1,[],o.2.2.2.2.2.2.2.2.2.2.2.2.2.2.2.2.2.2.2.2.2.2.2,[]⟩:ad),oz.2.1,oz.2.2.1,oz.2.2.2)
 else if decide (aw.Kind=6)=true then if aw.Open=true then Ge (b,aL,bu)>>=λEh=>if(bif aw.Open then Eh.1 else false)=true then Ad (aw,Eh.2.1,Eh.2.2.1,Eh.2.2.2)>>=λMF=>Gf (MF.1,MF.2.1,MF.2.2.1,MF.2.2.2)>>=λSQ=>some ((⟨aw.Kind,false,0,[],MF.1,[],[],[SQ.1]⟩:ad),SQ.2.1,SQ.2.2.1,SQ.2.2.2)
 else oe ((aw.al.length:Int),Eh.2.1,Eh.2.2.1,Eh.2.2.2)>>=λtO=>if bd tO.1 aw.al.length=true then some (aw.al.getD tO.1.toNat aX)>>=λqa=>qv (qa.aQ,tO.2.1,tO.2.2.1,tO.2.2.2)>>=λzh=>some ((⟨aw.Kind,false,0,[],qa.aq,[],[ad.eta zh.1],[]⟩:ad),zh.2.1,zh.2.2.1,zh.2.2.2)
 else none
 else if(bif aw.Open then false else false)=true then Ad (aw,b,aL,bu)>>=λMG=>Gf (MG.1,MG.2.1,MG.2.2.1,MG.2.2.2)>>=λvn=>some ((⟨aw.Kind,false,0,[],MG.1,[],[],[vn.1]⟩:ad),vn.2.1,vn.2.2.1,vn.2.2.2)
 else oe ((aw.al.length:Int),b,aL,bu)>>=λMH=>if bd MH.1 aw.al.length=true then some (aw.al.getD MH.1.toNat aX)>>=λlo=>qv (lo.aQ,MH.2.1,MH.2.2.1,MH.2.2.2)>>=λSR=>some ((⟨aw.Kind,false,0,[],lo.aq,[],[ad.eta SR.1],[]⟩:ad),SR.2.1,SR.2.2.1,SR.2.2.2)
 else none
 else if decide (aw.Kind=7)=true then oe (bl .i64 (fV aw.Max 3) 1,b,aL,bu)>>=λSS=>Ab (SS.1,SS.2.1,SS.2.2.1,SS.2.2.2,0,false,0,[],0,aw.Kind,aw.Name,aw.cA,aw.cD,aw.Max,aw.bW,aw.al,aw.Key,aw.a6,aw.Open,aw.Kind,false,0,[],0,[])>>=λbo=>some ((⟨bo.2.2.2.2.2.2.2.2.1,bo.2.2.2.2.2.2.2.2.2.1,bo.2.2.2.2.2.2.2.2.2.2.1,bo.2.2.2.2.2.2.2.2.2.2.2.1,bo.2.2.2.2.2.2.2.2.2.2.2.2.1,[],bo.2.2.2.2.2.2.2.2.2.2.2.2.2,[]⟩:ad),bo.1,bo.2.1,bo.2.2.1)
 else if decide (aw.Kind=8)=true then oe (bl .i64 (fV aw.Max 3) 1,b,aL,bu)>>=λSG=>Ac (SG.1,SG.2.1,SG.2.2.1,SG.2.2.2,0,false,0,[],0,aw.Kind,aw.Name,aw.cA,aw.cD,aw.Max,aw.bW,aw.al,aw.Key,aw.a6,aw.Open,aw.Kind,false,0,[],0,[],[],[])>>=λbt=>some ((⟨bt.2.2.2.2.2.2.2.2.1,bt.2.2.2.2.2.2.2.2.2.1,bt.2.2.2.2.2.2.2.2.2.2.1,bt.2.2.2.2.2.2.2.2.2.2.2.1,bt.2.2.2.2.2.2.2.2.2.2.2.2.1,bt.2.2.2.2.2.2.2.2.2.2.2.2.2.1,bt.2.2.2.2.2.2.2.2.2.2.2.2.2.2.1,bt.2.2.2.2.2.2.2.2.2.2.2.2.2.2.2⟩:ad),bt.1,bt.2.1,bt.2.2.1)
 else oe (2,b,aL,bu)>>=λEf=>if decide (Ef.1=1)=true then qv (aw.a6,Ef.2.1,Ef.2.2.1,Ef.2.2.2)>>=λSH=>some ((⟨aw.Kind,false,0,[],0,[],[ad.eta SH.1],[]⟩:ad),SH.2.1,SH.2.2.1,SH.2.2.2)
 else some ((⟨aw.Kind,false,0,[],0,[],[],[]⟩:ad),Ef.2.1,Ef.2.2.1,Ef.2.2.2)
 else none
  partial_fixpoint
def uA(aI:Int×List au×List Int×Bool×Int×Bool×Int×List UInt8×Int×Int×List UInt8×Int×Int×Int×List fK×List bj×Int×Int×Bool×Int×Bool×Int×List UInt8×Int×List ad):Option (List au×List Int×Bool×Int×Bool×Int×List UInt8×Int×Int×List UInt8×Int×Int×Int×List fK×List bj×Int×Int×Bool×Int×Bool×Int×List UInt8×Int×List ad):=
 match aI with
 |(i,qn,qo,qp,n5,n9,oP,oQ,qq,qt,pE,n',oa,mU,ob,jA,oR,oS,oT,oU,nz,oV,oc,r4,oW)=>
 if decide (i<(jA.length:Int))=true then if bd i jA.length=true then some (jA.getD i.toNat aX)>>=λoG=>if oG.cV=true then oe (3,qn,qo,qp)>>=λEg=>if(bif oG.cV then decide (Eg.1=0)else false)=true then if bd i jA.length=true then some [ad.eta (jA.getD i.toNat aX).cB]>>=λt113=>if room 120 (oW++t113).length=true then uA (bl .i64 i 1,Eg.2.1,Eg.2.2.1,Eg.2.2.2,n5,n9,oP,oQ,qq,qt,pE,n',oa,mU,ob,jA,oR,oS,oT,oU,nz,oV,oc,r4,oW++t113)
 else none
 else none
 else if bd i jA.length=true then qv ((jA.getD i.toNat aX).aQ,Eg.2.1,Eg.2.2.1,Eg.2.2.2)>>=λSI=>some [ad.eta SI.1]>>=λt126=>if room 120 (oW++t126).length=true then uA (bl .i64 i 1,SI.2.1,SI.2.2.1,SI.2.2.2,n5,n9,oP,oQ,qq,qt,pE,n',oa,mU,ob,jA,oR,oS,oT,oU,nz,oV,oc,r4,oW++t126)
 else none
 else none
 else if(bif oG.cV then false else false)=true then if bd i jA.length=true then some [ad.eta (jA.getD i.toNat aX).cB]>>=λajS=>if room 120 (oW++ajS).length=true then uA (bl .i64 i 1,qn,qo,qp,n5,n9,oP,oQ,qq,qt,pE,n',oa,mU,ob,jA,oR,oS,oT,oU,nz,oV,oc,r4,oW++ajS)
 else none
 else none
 else if bd i jA.length=true then qv ((jA.getD i.toNat aX).aQ,qn,qo,qp)>>=λSJ=>some [ad.eta SJ.1]>>=λajT=>if room 120 (oW++ajT).length=true then uA (bl .i64 i 1,SJ.2.1,SJ.2.2.1,SJ.2.2.2,n5,n9,oP,oQ,qq,qt,pE,n',oa,mU,ob,jA,oR,oS,oT,oU,nz,oV,oc,r4,oW++ajT)
 else none
 else none
 else none
 else some (qn,qo,qp,n5,n9,oP,oQ,qq,qt,pE,n',oa,mU,ob,jA,oR,oS,oT,oU,nz,oV,oc,r4,oW)
  partial_fixpoint
def Ab(aI:Int×List au×List Int×Bool×Int×Bool×Int×List UInt8×Int×Int×List UInt8×Int×Int×Int×List fK×List bj×Int×Int×Bool×Int×Bool×Int×List UInt8×Int×List ad):Option (List au×List Int×Bool×Int×Bool×Int×List UInt8×Int×Int×Bool×Int×List UInt8×Int×List ad):=
 match aI with
 |(n,uu,uv,s8,EZ,E0,IU,IV,IW,NS,NT,NU,NV,NW,NX,NY,NZ,E1,uw,IX,ID,IE,IF,IG,EX)=>
 if decide (0<n)=true then qv (E1,uu,uv,s8)>>=λSK=>some [ad.eta SK.1]>>=λt193=>if room 120 (EX++t193).length=true then Ab (gq .i64 n 1,SK.2.1,SK.2.2.1,SK.2.2.2,EZ,E0,IU,IV,IW,NS,NT,NU,NV,NW,NX,NY,NZ,E1,uw,IX,ID,IE,IF,IG,EX++t193)
 else none
 else some (uu,uv,s8,EZ,E0,IU,IV,IW,IX,ID,IE,IF,IG,EX)
  partial_fixpoint
def Ac(aI:Int×List au×List Int×Bool×Int×Bool×Int×List UInt8×Int×Int×List UInt8×Int×Int×Int×List fK×List bj×Int×Int×Bool×Int×Bool×Int×List UInt8×Int×List ad×List ad×List dD):Option (List au×List Int×Bool×Int×Bool×Int×List UInt8×Int×Int×Bool×Int×List UInt8×Int×List ad×List ad×List dD):=
 match aI with
 |(ow,IH,II,IJ,IK,IL,IN,IP,IQ,NQ,NR,IS,axz,axA,axB,axC,agh,agi,axD,agj,agk,agl,agm,agn,ago,agp,agq)=>
 if decide (0<ow)=true then qv (agh,IH,II,IJ)>>=λSL=>qv (agi,SL.2.1,SL.2.2.1,SL.2.2.2)>>=λSM=>Q9 ((⟨agj,agk,agl,agm,agn,ago,agp,agq⟩:ad),ad.eta SL.1,ad.eta SM.1)>>=λBM=>Ac (gq .i64 ow 1,SM.2.1,SM.2.2.1,SM.2.2.2,IK,IL,IN,IP,IQ,NQ,NR,IS,axz,axA,axB,axC,agh,agi,axD,BM.Kind,BM.cX,BM.b5,BM.ch,BM.aq,BM.aZ,BM.aB,BM.Rest)
 else some (IH,II,IJ,IK,IL,IN,IP,IQ,agj,agk,agl,agm,agn,ago,agp,agq)
  partial_fixpoint
end
theorem anj:iv Cw qv/\jT 19 1 [2] I9 Ac/\jT 19 1 [1] I8 Ab/\jT 19 1 [0] I7 uA:=qv.mutual_partial_correctness (h6 Cw) (jR 19 1 [2] I9) (jR 19 1 [1] I8) (jR 19 1 [0] I7)
 (λ_ _ _ _ h0 h1 aa aA _ _ h=>iK h (.k Dx (.k aot (.k aoA (.k ani (.k aoD (.k (ev Cw h0) .n)))))) (.k (kD I7 aA) (.k (kD I8 aa) (.k (kD I9 h1) .n))))
 (λ_ _ h0 h1 _ _ h=>kC I9 h1 h (.k (ev Cw h0) (.k ao3 .n)))
 (λ_ _ h0 aa _ _ h=>kC I8 aa h (.k (ev Cw h0) .n))
 (λ_ _ h0 aA _ _ h=>kC I7 aA h (.k Dx (.k (ev Cw h0) .n)))
theorem aom:bU Cw qv:=ev _ anj.1
def Q7(aI:bY×Int×List Int):Option (ad):=
 match aI with
 |(s,t,E7)=>
 some (fV 60 (E7.length:Int))>>=λt12=>if gW 0 t12 E7.length=true then qv (t,s.Types,hU E7 0 t12,false)>>=λr=>some (ad.eta r.1)
 else none
theorem aoQ:bU Jd Q7:= .ca (.k aom .n)
def Gp(r:cG):Option (Int):=
 wk r.hQ>>=λbT=>if(!(decide (bT=0)))=true then some bT
 else if(bif decide (r.aQ<0)then true else decide ((r.hQ.Types.length:Int)<=r.aQ))=true then some 4
 else some 0
theorem apV:bU axL Gp:= .ca (.k C9 .n)
def uD(aI:List cG×Int×Int):Option ((Int) ⊕ (Unit)):=
 match aI with
 |(t6,lP,t8)=>
 if decide (t8<lP)=true then if bd t8 t6.length=true then Gp (t6.getD t8.toNat Bb)>>=λr=>if(!(decide (r=0)))=true then some (.inl r)
 else uD (t6,lP,bl .i64 t8 1)
 else none
 else some (.inr ())
  partial_fixpoint
theorem aoR:ew 60 0 [0] agV uD:= .rx uD.partial_correctness (.k apV .n)
def RX(l:List cG):Option (Int):=
 uD (l,(l.length:Int),0)>>=λo=>match o with
 |.inl bo=>
 some bo
 |.inr bt=>
 some 0
theorem apW:bU ayd RX:= .ca .n (.k aoR .n)
def RY(aI:bY×Int):Option (Int):=
 match aI with
 |(s,t)=>
 wk s>>=λr=>if(!(decide (r=0)))=true then some r
 else if(bif decide (t<0)then true else decide ((s.Types.length:Int)<=t))=true then some 4
 else some 0
theorem apX:bU axV RY:= .ca (.k C9 .n)
def RZ(aI:bY×Int×ad):Option (Int):=
 match aI with
 |(s,t,v)=>
 RY (s,t)>>=λr=>if(!(decide (r=0)))=true then some r
 else Dj (s,t,ad.eta v)>>=λbT=>if(!bT)=true then some 1
 else some 0
theorem apY:bU axU RZ:= .ca (.k apX (.k alR .n))
def uG(aI:au×ad):Option (Bool):=
 match aI with
 |(aw,v)=>
 if(!(decide (aw.Kind=4)))=true then some false
 else yc (aw,v.aq)>>=λr=>some (!r.2)
theorem al5:bU axW uG:= .ca (.k KC .n)
def R7(aI:ad×List au×au):Option (Bool×List au×au):=
 match aI with
 |(k,b,aL)=>
 if bd aL.Key b.length=true then uG (b.getD aL.Key.toNat a8,ad.eta k)>>=λr=>some (r,b,aL)
 else none
theorem apD:bU ax0 R7:= .ca (.k al5 .n)
def yk(aI:List ad×Int×Int×List au×au):Option ((Int×List au×au) ⊕ (List au×au)):=
 match aI with
 |(gp,lP,t8,iy,jz)=>
 if decide (t8<lP)=true then if bd t8 gp.length=true then R7 (ad.eta (gp.getD t8.toNat aY),iy,jz)>>=λr=>if r.1=true then some (.inl (t8,r.2.1,r.2.2))
 else yk (gp,lP,bl .i64 t8 1,r.2.1,r.2.2)
 else none
 else some (.inr (iy,jz))
  partial_fixpoint
theorem anE:ew 237 2 [0] adt yk:= .rx yk.partial_correctness (.k apD .n)
def XH(aI:List ad×List au×au):Option (Int×List au×au):=
 match aI with
 |(s,b,aL)=>
 yk (s,(s.length:Int),0,b,aL)>>=λo=>match o with
 |.inl bo=>
 some (bo.1,bo.2.1,bo.2.2)
 |.inr bt=>
 some ((-1),bt.1,bt.2)
theorem anJ:bU awv XH:= .ca .n (.k anE .n)
def XD(aI:List ad×List au×au):Option (Bool×List au×au):=
 match aI with
 |(s,b,aL)=>
 XH (s,b,aL)>>=λr=>some (decide (0<=r.1),r.2.1,r.2.2)
theorem anF:bU aww XD:= .ca (.k anJ .n)
def RN(aI:bY×au×ad):Option (Bool):=
 match aI with
 |(s,aw,v)=>
 XD (v.aZ,s.Types,aw)>>=λr=>some r.1
theorem aqo:bU axX RN:= .ca (.k anF .n)
def wh(aI:Int×Int×au×ad×List nD):Option (List nD):=
 match aI with
 |(Tz,t12,aL,bu,bR)=>
 if decide (t12<Tz)=true then if decide (aL.Kind=5)=true then if bd t12 aL.al.length=true then if bd t12 aL.al.length=true then some [(⟨(aL.al.getD t12.toNat aX).aQ,(aL.al.getD t12.toNat aX).aq⟩:nD)]>>=λt40=>if room 16 (bR++t40).length=true then wh (Tz,bl .i64 t12 1,aL,ad.eta bu,bR++t40)
 else none
 else none
 else none
 else if decide (aL.Kind=6)=true then kG (aL,bu.aq)>>=λr=>if bd r.1 aL.al.length=true then some [(⟨(aL.al.getD r.1.toNat aX).aQ,bu.aq⟩:nD)]>>=λt61=>if room 16 (bR++t61).length=true then wh (Tz,bl .i64 t12 1,aL,ad.eta bu,bR++t61)
 else none
 else none
 else some [(⟨aL.a6,t12⟩:nD)]>>=λt22=>if room 16 (bR++t22).length=true then wh (Tz,bl .i64 t12 1,aL,ad.eta bu,bR++t22)
 else none
 else some bR
  partial_fixpoint
theorem aqd:ew 217 0 [0] aeZ wh:= .rx wh.partial_correctness (.k ra .n)
def RA(aI:au×ad):Option (List nD):=
 match aI with
 |(aw,v)=>
 wh ((v.aB.length:Int),0,aw,ad.eta v,[])>>=λo=>some o
theorem aq7:bU axY RA:= .ca .n (.k aqd .n)
mutual
def tg(aI:bY×Int×ad):Option (ad×Bool):=
 match aI with
 |(s,t,v)=>
 if bd t s.Types.length=true then some (s.Types.getD t.toNat a8)>>=λaw=>uG (aw,ad.eta v)>>=λr=>(if(!r)=true then RN (s,aw,ad.eta v)else some false)>>=λbT=>if(bif bif r then true else bT then true else bif decide (aw.Kind=6)then decide ((v.aB.length:Int)=0)else false)=true then some ((⟨0,false,0,[],0,[],[],[]⟩:ad),false)
 else iS 120 v.aZ>>=λdZ=>RA (aw,ad.eta v)>>=λdF=>Bo (dF,(dF.length:Int),0,s.Types,ad.eta v,0,false,0,[],0,v.Kind,v.cX,v.b5,v.ch,v.aq,dZ,[])>>=λo=>match o with
 |.inl bo=>
 some ((⟨bo.2.1,bo.2.2.1,bo.2.2.2.1,bo.2.2.2.2.1,bo.2.2.2.2.2,[],[],[]⟩:ad),bo.1)
 |.inr bt=>
 some ((⟨bt.2.2.2.2.2.1,bt.2.2.2.2.2.2.1,bt.2.2.2.2.2.2.2.1,bt.2.2.2.2.2.2.2.2.1,bt.2.2.2.2.2.2.2.2.2.1,bt.2.2.2.2.2.2.2.2.2.2.1,bt.2.2.2.2.2.2.2.2.2.2.2,[]⟩:ad),true)
 else none
  partial_fixpoint
def Bo(aI:List nD×Int×Int×List au×ad×Int×Bool×Int×List UInt8×Int×Int×Bool×Int×List UInt8×Int×List ad×List ad):Option ((Bool×Int×Bool×Int×List UInt8×Int) ⊕ (Int×Bool×Int×List UInt8×Int×Int×Bool×Int×List UInt8×Int×List ad×List ad)):=
 match aI with
 |(t49,akp,t51,uq,vM,zL,zM,vN,zN,IT,zO,ur,q4,q5,q6,q7,qj)=>
 if decide (t51<akp)=true then if bd t51 t49.length=true then if bd t51 vM.aB.length=true then tg ((⟨uq⟩:bY),(t49.getD t51.toNat Y5).t,ad.eta (vM.aB.getD t51.toNat aY))>>=λez=>if(!ez.2)=true then some (.inl (false,0,false,0,[],0))
 else some [ad.eta ez.1]>>=λt74=>if room 120 (qj++t74).length=true then Bo (t49,akp,bl .i64 t51 1,uq,ad.eta vM,zL,zM,vN,zN,IT,zO,ur,q4,q5,q6,q7,qj++t74)
 else none
 else none
 else none
 else some (.inr (zL,zM,vN,zN,IT,zO,ur,q4,q5,q6,q7,qj))
  partial_fixpoint
end
theorem apZ:iv OA tg/\jT 159 0 [0] Ly Bo:=tg.mutual_partial_correctness (h6 OA) (jR 159 0 [0] Ly)
 (λ_ h1 _ _ h=>iK h (.k al5 (.k aqo (.k tn (.k aq7 .n)))) (.k (kD Ly h1) .n))
 (λ_ _ h0 h1 _ _ h=>kC Ly h1 h (.k (ev OA h0) .n))
theorem aq8:bU OA tg:=ev _ apZ.1
def RB(aI:bY×Int×ad):Option (ad×Int):=
 match aI with
 |(s,t,v)=>
 RZ (s,t,ad.eta v)>>=λr=>if(!(decide (r=0)))=true then some ((⟨0,false,0,[],0,[],[],[]⟩:ad),r)
 else tg (s,t,ad.eta v)>>=λbT=>if(!bT.2)=true then some ((⟨0,false,0,[],0,[],[],[]⟩:ad),12)
 else some (ad.eta bT.1,0)
theorem aq9:bU axM RB:= .ca (.k apY (.k aq8 .n))
def Yx(aI:cG×cG×List UInt8):Option (pM×Int):=
 match aI with
 |(w,r,m)=>
 wi (w.hQ,w.aQ,m)>>=λbT=>if(!(decide (bT.2=0)))=true then some ((⟨(⟨0,false,0,[],0,[],[],[]⟩:ad),(⟨0,false,0,[],0,[],[],[]⟩:ad),[]⟩:pM),12)
 else RB (w.hQ,w.aQ,ad.eta bT.1)>>=λez=>if(!(decide (ez.2=0)))=true then some ((⟨(⟨0,false,0,[],0,[],[],[]⟩:ad),(⟨0,false,0,[],0,[],[],[]⟩:ad),[]⟩:pM),12)
 else Bl (w.hQ,w.aQ,ad.eta ez.1,r.hQ,r.aQ)>>=λir=>if(!(decide (ir.2=0)))=true then some ((⟨(⟨0,false,0,[],0,[],[],[]⟩:ad),(⟨0,false,0,[],0,[],[],[]⟩:ad),[]⟩:pM),12)
 else sd (w.hQ,w.aQ,ad.eta bT.1)>>=λfB=>if(!(decide (fB.2=0)))=true then some ((⟨(⟨0,false,0,[],0,[],[],[]⟩:ad),(⟨0,false,0,[],0,[],[],[]⟩:ad),[]⟩:pM),3)
 else wi (r.hQ,r.aQ,fB.1)>>=λg'=>
 if(!(decide (g'.2=0)))=true then some ((⟨(⟨0,false,0,[],0,[],[],[]⟩:ad),(⟨0,false,0,[],0,[],[],[]⟩:ad),[]⟩:pM),12)
 else sd (r.hQ,r.aQ,ad.eta g'.1)>>=λrN=>if(!(decide (rN.2=0)))=true then some ((⟨(⟨0,false,0,[],0,[],[],[]⟩:ad),(⟨0,false,0,[],0,[],[],[]⟩:ad),[]⟩:pM),3)
 else some ((⟨ad.eta bT.1,ad.eta g'.1,rN.1⟩:pM),0)
theorem ao4:bU aye Yx:= .ca (.k ak8 (.k aq9 (.k XS (.k Yv .n))))
def Zw(aI:cG×cG×List UInt8):Option (pM×Int):=
 match aI with
 |(w,r,m)=>
 RX [w,r]>>=λbT=>if(!(decide (bT=0)))=true then some ((⟨(⟨0,false,0,[],0,[],[],[]⟩:ad),(⟨0,false,0,[],0,[],[],[]⟩:ad),[]⟩:pM),bT)
 else Yx (w,r,m)>>=λdZ=>some ((⟨ad.eta dZ.1.v,ad.eta dZ.1.u,dZ.1.message⟩:pM),dZ.2)
theorem aq':bU axZ Zw:= .ca (.k apW (.k ao4 .n))
def Q'(aI:cG×cG×List UInt8):Option (List UInt8×Int):=
 match aI with
 |(w,r,m)=>
 Zw (w,r,m)>>=λbT=>some (bT.1.message,bT.2)
theorem ao5:bU Uy Q':= .ca (.k aq' .n)
def R0(aI:bY×Int×ad×bY×Int×ad):Option (Bool):=
 match aI with
 |(w,wt,v,r,rt,u)=>
 Bl (w,wt,ad.eta v,r,rt)>>=λbT=>some (decide (bT.2=0))>>=λt25=>(if t25=true then tf (ad.eta bT.1,ad.eta u)else some false)>>=λez=>some (bif t25 then ez else false)
theorem ap0:bU axK R0:= .ca (.k XS (.k RW .n))
def xX(aI:Int×ad×ad):Option ((Bool) ⊕ (ad×ad)):=
 match aI with
 |(i,bR,gz)=>
 if decide (i<(bR.Rest.length:Int))=true then if bd i bR.Rest.length=true then some (bR.Rest.getD i.toNat gi)>>=λaw=>if bd i gz.Rest.length=true then some (gz.Rest.getD i.toNat gi)>>=λcE=>if(!(gu aw.aq cE.aq&&(rr aw.Data cE.Data&&true)))=true then some (.inl false)
 else xX (bl .i64 i 1,ad.eta bR,ad.eta gz)
 else none
 else none
 else some (.inr (ad.eta bR,ad.eta gz))
  partial_fixpoint
theorem anq:ew 26 0 [0] agH xX:= .rx xX.partial_correctness
mutual
def Ak(aI:ad×ad):Option (Bool):=
 match aI with
 |(a,b)=>
 if(bif bif bif bif bif (!(decide (a.Kind=b.Kind)))then true else(!(kh a.cX b.cX))then true else(!(decide (a.b5=b.b5)))then true else(!(decide (a.ch=b.ch)))then true else(!(decide (a.aq=b.aq)))then true else(!(decide ((a.Rest.length:Int)=(b.Rest.length:Int)))))=true then some false
 else xX (0,(⟨a.Kind,a.cX,a.b5,a.ch,a.aq,a.aZ,a.aB,a.Rest⟩:ad),(⟨b.Kind,b.cX,b.b5,b.ch,b.aq,b.aZ,b.aB,b.Rest⟩:ad))>>=λo=>match o with
 |.inl bo=>
 some bo
 |.inr bt=>
 KR (bt.1.aZ,bt.2.aZ)>>=λr=>(if r=true then KR (bt.1.aB,bt.2.aB)else some false)>>=λbT=>some (bif r then bT else false)
  partial_fixpoint
def KR(aI:List ad×List ad):Option (Bool):=
 match aI with
 |(a,b)=>
 if(!(decide ((a.length:Int)=(b.length:Int))))=true then some false
 else Gc (a,b,0)>>=λo=>match o with
 |.inl bo=>
 some bo
 |.inr bt=>
 some true
  partial_fixpoint
def Gc(aI:List ad×List ad×Int):Option ((Bool) ⊕ (Unit)):=
 match aI with
 |(NJ,aL,i)=>
 if decide (i<(NJ.length:Int))=true then if bd i NJ.length=true then if bd i aL.length=true then Ak (ad.eta (NJ.getD i.toNat aY),ad.eta (aL.getD i.toNat aY))>>=λr=>if(!r)=true then some (.inl false)
 else Gc (NJ,aL,bl .i64 i 1)
 else none
 else none
 else some (.inr ())
  partial_fixpoint
end
theorem aon:iv O4 Ak/\iv US KR/\jT 66 0 [0] Jb Gc:=Ak.mutual_partial_correctness (h6 O4) (h6 US) (jR 66 0 [0] Jb)
 (λ_ h1 _ _ h=>iK h (.k (ev US h1) .n) (.k anq .n))
 (λ_ aa _ _ h=>iK h .n (.k (kD Jb aa) .n))
 (λ_ _ h0 aa _ _ h=>kC Jb aa h (.k (ev O4 h0) .n))
theorem aoE:bU O4 Ak:=ev _ aon.1
def Q4(aI:ad×ad):Option (Bool):=
 match aI with
 |(a,b)=>
 Ak (ad.eta a,ad.eta b)>>=λr=>some r
theorem apl:bU Fh Q4:= .ca (.k aoE .n)
def Mu(aI:uE×List Int):Option (Bool):=
 match aI with
 |(c,E7)=>
 KD c>>=λr=>Q3 ()>>=λez=>if(bif bif (!ez)then true else(!r.2.2)then true else decide (60<(E7.length:Int)))=true then Q3 ()>>=λhq=>some hq
 else QX (r.1,r.2.1)>>=λiq=>Q7 (r.1.hQ,r.1.aQ,E7)>>=λtP=>sd (r.1.hQ,r.1.aQ,ad.eta tP)>>=λfB=>if(bif bif (!(decide (iq.2=0)))then true else(!iq.1)then true else(!(decide (fB.2=0))))=true then some (decide (iq.2=0))
 else wi (r.2.1.hQ,r.2.1.aQ,fB.1)>>=λg'=>
 Q' (r.1,r.2.1,fB.1)>>=λrN=>wi (r.2.1.hQ,r.2.1.aQ,rN.1)>>=λtN=>some (bif bif decide (g'.2=0)then decide (rN.2=0)else false then decide (tN.2=0)else false)>>=λt104=>(if t104=true then R0 (r.1.hQ,r.1.aQ,ad.eta tP,r.2.1.hQ,r.2.1.aQ,ad.eta g'.1)else some false)>>=λHC=>some (bif t104 then HC else false)>>=λt117=>(if t117=true then Q4 (ad.eta g'.1,ad.eta tN.1)else some false)>>=λME=>some (bif t117 then ME else false)
theorem axi:bU e7 Mu:= .ca (.k aoJ (.k anW (.k aod (.k aoQ (.k Yv (.k ak8 (.k ao5 (.k ap0 (.k apl .n)))))))))
structure aEn where
 Value:ad
 Path:List Int
 at5:Bool
structure aEo where
 Value:ad
 aEc:th
 at5:Bool
def Q1(b:Int):Option (Bool):=
 some (bif bif bif decide (97<=b)then decide (b<=122)else false then true else bif decide (65<=b)then decide (b<=90)else false then true else decide (b=95))
def Xz(b:Int):Option (Bool):=
 some (bif decide (48<=b)then decide (b<=57)else false)
def DC(aI:List UInt8×Int):Option ((Bool) ⊕ (Unit)):=
 match aI with
 |(gp,i)=>
 if decide (i<(gp.length:Int))=true then if bd i gp.length=true then Q1 (mR gp i)>>=λbT=>some (!bT)>>=λt27=>if(bd i gp.length||(!t27))=true then (if t27=true then Xz (mR gp i)else some false)>>=λdZ=>if(bif t27 then(!dZ)else false)=true then some (.inl false)
    else DC (gp,bl .i64 i 1)
   else none
  else none
 else some (.inr ())
  partial_fixpoint
def akS(s:List UInt8):Option (Bool):=
 some (bif decide (s=[])then true else decide (24<(s.length:Int)))>>=λt10=>if(bd 0 s.length||(!(!t10)))=true then (if(!t10)=true then Q1 (mR s 0)else some false)>>=λr=>if(bif t10 then true else(!r))=true then some false
  else DC (s,0)>>=λo=>match o with
   |.inl bo=>
    some bo
   |.inr bt=>
    some true
 else none
end
section
open Go Go.Proofs.YtklfhpkljddjbaaGreatDoor.Shv
set_option maxRecDepth 100000
def nu(s:List UInt8):Nat->Nat->Nat->Int×Int×Int
 |0,_,_=>(0,0,10)
 |f+1,i,n=>
  if i<s.length then if i=9/\1<(s.getD i 0).toNat then(0,0,7)
   else if 128<=(s.getD i 0).toNat then nu s f (i+1) (n+((s.getD i 0).toNat%128)*2^(7*i))
   else if(s.getD i 0).toNat=0/\0<i then(0,0,2)
   else(((n+(s.getD i 0).toNat*2^(7*i):Nat):Int),((i+1:Nat):Int),0)
  else(0,0,10)
theorem ajx{i:Nat}(h:i<=9):2^(7*i)<=9223372036854775808:=by
 have:2^(7*i)<=2^63:=Qz (by omega) (by omega);omega
theorem ajy(i:Nat):2^(7*(i+1))=2^(7*i)*128:=by rw[Nat.mul_add,Nat.pow_add]
theorem ajP{n i b:Nat}(a':n<2^(7*i)):n+(b%128)*2^(7*i)<2^(7*(i+1)):=by
 rw[ajy];have:b%128*2^(7*i)<=127*2^(7*i):=hj _ (by omega);omega
theorem U5{n i b:Nat}(ak:i<=9)(a':n<2^(7*i))(ag:b<128)(lE:i=9->b<=1):b*2^(7*i)<18446744073709551616/\n+b*2^(7*i)<18446744073709551616:=by
 rcases Nat.lt_or_ge i 9 with h|h
 . have:2^(7*i)<=2^56:=Qz (by omega) (by omega);have e:(2:Nat)^56=72057594037927936:=by decide
   have:b*2^(7*i)<=127*2^(7*i):=hj _ (by omega);omega
 grind
theorem ae5(s:List UInt8):∀(f i n:Nat),i+f=10->n<2^(7*i)->∃o,Db (s,(n:Int),((min 10 s.length:Nat):Int),(i:Int))=some o/\(match o with|.inl x=>x|.inr _=>(0,0,10))=nu s f i n
 |0,i,n,h,a'=>by
  refine⟨.inr (),?_,rfl⟩;rw[Db]
  grind
 |f+1,i,n,h,a'=>by
  rw[Db];simp only[nu,bL,aK,K3];by_cases ak:i<s.length
  . have ag:=Z4 s i;generalize (s.getD i 0).toNat=b at ag⊢;rw[af (by simp;omega),af (bQ ak),af ak];have hm:rE .i64 7 (i:Int)=((7*i:Nat):Int):=by rw[awY (by omega) (by omega)];norm_cast
    rw[hm];have bq:decide ((0:Int)<=((7*i:Nat):Int))=true:=by simp;omega
    by_cases lE:i=9/\1<b
    . rw[af lE,af (by obtain⟨h1,aa⟩:=lE;subst h1;simp;omega)]
      grind
    . rw[ah lE,ah (by grind)];by_cases JE:128<=b
      . rw[af JE,af (by simp;omega),af bq];have ayS:i=9->False:=λh1=>lE ⟨h1,by omega⟩
        have aV:b%128<128:=Nat.mod_lt _ (by omega);have aJ:=U5 (i:=i) (n:=n) (b:=b%128) (by omega) a' aV (λh1=>(ayS h1).elim);rw[aub ag,qU (by omega),acw (by omega) aJ.1,aeA (by have:=ajx (i:=i) (by omega);omega) aJ.1,aff a',c0 (by omega)];exact ae5 s f (i+1) (n+b%128*2^(7*i)) (by omega) (ajP a')
      . rw[ah JE,ah (by simp;omega)];by_cases h0:b=0/\0<i
        . simp_all
        . rw[ah h0,ah (by grind),af bq];have aJ:=U5 (i:=i) (n:=n) (b:=b) (by omega) a' (by omega) (λh1=>by omega);rw[qU (by omega),acw (by omega) aJ.1,aeA (by have:=ajx (i:=i) (by omega);omega) aJ.1,aff a',c0 (by omega)]
          grind
  . rw[ah (by simp;omega),ah ak]
    grind
theorem ae6(s:List UInt8):RM s=some (nu s 10 0 0):=by
 obtain⟨o,h1,aa⟩:=ae5 s 10 0 0 rfl (by decide);rw[RM];have:fV 10 (s.length:Int)=((min 10 s.length:Nat):Int):=acx 10 s.length
 grind
theorem adu(s:List UInt8):∀(f i n:Nat),i<=s.length->i+f=10->n<2^(7*i)->(∃e:Int,e≠0/\nu s f i n=(0,0,e))\/∃m k:Nat,nu s f i n=((m:Int),(k:Int),0)/\i<k/\k<=s.length/\m<18446744073709551616
 |0,i,n,nM,h,a'=>.inl ⟨10,by decide,rfl⟩
 |f+1,i,n,nM,h,a'=>by
  simp only[nu];have ag:=Z4 s i;generalize (s.getD i 0).toNat=b at ag⊢;by_cases ak:i<s.length
  . rw[af ak];by_cases lE:i=9/\1<b
    . simp_all
    . rw[ah lE];by_cases JE:128<=b
      . rw[af JE];rcases adu s f (i+1) (n+b%128*2^(7*i)) (by omega) (by omega) (ajP a')with h|⟨m,k,h1,aa,aA,aU⟩
        . exact .inl h
        grind
      . rw[ah JE];by_cases h0:b=0/\0<i
        . simp_all
        . rw[ah h0];have aJ:=U5 (i:=i) (n:=n) (b:=b) (by omega) a' (by omega) (λh1=>by omega);exact .inr ⟨_,i+1,rfl,by omega,by omega,aJ.2⟩
  . rw[ah ak];exact .inl ⟨10,by decide,rfl⟩
theorem xh(s:List UInt8):(∃e:Int,e≠0/\nu s 10 0 0=(0,0,e))\/∃m k:Nat,nu s 10 0 0=((m:Int),(k:Int),0)/\0<k/\k<=s.length/\m<18446744073709551616:=
 adu s 10 0 0 (by simp) rfl (by simp)
theorem A6{s:List UInt8}{e:Int}(he:e≠0)(h:nu s 10 0 0=(0,0,e)):AR s=some (0,[],false):=by
 grind[AR,ae6]
theorem wG{s:List UInt8}{m k:Nat}(h:nu s 10 0 0=((m:Int),(k:Int),0))(hk:k<=s.length):AR s=some ((m:Int),s.drop k,true):=by
 grind[AR,ae6,uV,CZ]
def gI:Option (List UInt8×List UInt8)->List UInt8×List UInt8×Bool
 |none=>([],[],false)
 |some (a,b)=>(a,b,true)
def p9(s:List UInt8):Option (List UInt8×List UInt8):=
 match nu s 10 0 0 with
 |(m,k,e)=>if e=0/\m.toNat+k.toNat<=s.length then some ((s.drop k.toNat).take m.toNat,(s.drop k.toNat).drop m.toNat)else none
theorem A1{s a b:List UInt8}(h:p9 s=some (a,b)):a.length+b.length<s.length:=by
 unfold p9 at h;rcases xh s with⟨e,he,aF⟩|⟨m,k,aF,nc,hk,hm⟩
 . grind
 grind
theorem wH{s:List UInt8}(hs:s.length<=1000000):KW s=some (gI (p9 s)):=by
 rw[KW];unfold p9;rcases xh s with⟨e,he,aF⟩|⟨m,k,aF,nc,hk,hm⟩
 . rw[A6 he aF,aF];simp[he,gI]
 . rw[wG aF hk,aF];simp only[bL,aK,lb,true_and,tJ];rw[qU (by omega)];by_cases hle:m+k<=s.length
   . rw[ah (by simp;omega),af (show gW 0 m _=true from uV (a:=0) (by omega) (by omega)),af (uV (by omega) (gP _)),af hle];have:(s.length-k:Nat)=(s.drop k).length:=by simp
     rw[this,CZ,G7];rfl
   . rw[af (by simp;omega),ah hle];rfl
theorem ZP:∀(n:Nat) (s:List UInt8) (b:List (List UInt8)),s.length<=n->s.length+b.length<=100000->∃o,nA (s,b)=some o/\∀l,o= .inr l->l.length<=s.length+b.length:=by
 intro n
 induction n with
 |zero=>
  simp_all[nA]
 |succ n ih=>
  intro s b h1 aa;rw[nA,wH (by omega)];simp only[bL,aK];by_cases hs:s=[]
  . grind
  . have ay:(!(decide (s=[])))=true:=by grind
    rw[af ay];cases aF:p9 s with
    |none=>exact⟨.inl 12,rfl,λl aj=>by grind⟩
    |some p=>
     obtain⟨x,y⟩:=p;have aj:=A1 aF;have ai:room 16 (b++[(gI (some (x,y))).1]).length=true:=e6 (by simp) (by grind);have a':¬((!(gI (some (x,y))).2.2)=true):=by simp[gI]
     rw[af ai];obtain⟨o,aA,bN⟩:=ih y (b++[x]) (by omega) (by grind);exact⟨o,aA,λl kX=>by grind⟩
theorem atM{s:List UInt8}(h:s.length<=90000):∃o,wm s=some o/\o.1.length<=s.length:=by
 obtain⟨o,h1,aA⟩:=ZP _ s [] (gP _) (by grind);rw[wm];cases o<;>simp_all
theorem acz:∀(n:Nat) (s:List UInt8) (last:Nat) (b:List eB),s.length<=n->s.length+b.length<=100000->∃o,lX ((last:Int),s,b)=some o/\∀l,o= .inr l->l.length<=s.length+b.length:=by
 intro n
 induction n with
 |zero=>
  simp_all[rF,lX,ah]
 |succ n ih=>
  intro s last b h1 aa;rw[lX];by_cases hs:s=[]
  . simp_all
  . have ay:(!(decide (s=[])))=true:=by grind
    rw[af ay];rcases xh s with⟨e,he,aF⟩|⟨m,k,aF,nc,hk,hm⟩
    . rw[A6 he aF];simp_all
    . rw[wG aF hk];simp only[bL,aK];rw[MC hm];by_cases FE:m/2<=last\/1000<m/2
      . exact⟨.inl 12,by grind,λl aj=>by grind⟩
      . have hw:cU .i64 _=((m/2:Nat):Int):=vu (by omega) (by omega);rw[ah (by grind),hw,wH (by grind)];simp only[aK];cases ar:p9 _ with
        |none=>exact⟨.inl 12,rfl,λl aj=>by grind⟩
        |some p=>
         obtain⟨x,y⟩:=p;have aj:=A1 ar;rw[tJ]at aj;have ai:room 32 (b++[(⟨((m/2:Nat):Int),decide (c5 (m:Int) 2=1),(gI (some (x,y))).1⟩:eB)]).length=true:=e6 (by simp) (by grind);have a':¬((!(gI (some (x,y))).2.2)=true):=by simp[gI]
         rw[ah a',af ai];obtain⟨o,aA,bN⟩:=ih y (m/2) (b++[(⟨((m/2:Nat):Int),decide (c5 (m:Int) 2=1),x⟩:eB)]) (by omega) (by grind);exact⟨o,aA,λl kX=>by grind⟩
theorem atg{s:List UInt8}(h:s.length<=90000):∃o,yf s=some o/\o.1.length<=s.length:=by
 obtain⟨o,h1,aA⟩:=acz _ s 0 [] (gP _) (by grind);rw[yf];cases o<;>simp_all
theorem awy(s:List UInt8):∃o,yw s=some o:=by
 rw[yw];rcases xh s with⟨e,he,aF⟩|⟨m,k,aF,nc,hk,hm⟩
 . rw[A6 he aF];simp
 . rw[wG aF hk];simp only[bL,aK];by_cases FE:m<1\/1000<m
   . exact⟨(0,[],12),by grind⟩
   . rw[ah (by grind)];simp
def fC(n:Nat):List UInt8:=if n<128 then[UInt8.ofNat n]else UInt8.ofNat (n%128+128)::fC (n/128)
termination_by n
decreasing_by omega
theorem AY{n:Nat}(h:n<128):fC n=[UInt8.ofNat n]:=by rw[fC,af h]
theorem yA{n:Nat}(h:¬n<128):fC n=UInt8.ofNat (n%128+128)::fC (n/128):=by rw[fC,ah h]
theorem av5{a:Nat}(h:a<256):BJ .u8 (a:Int) 128=((a%128+128:Nat):Int):=by
 have key:∀a:Nat,a<256->BJ .u8 a 128=a%128+128:=by decide+kernel
 grind
theorem aaM(n:Nat):cU .u8 (n:Int)=((n%256:Nat):Int):=by rfl
theorem aCR(n:Nat):sM .u64 (n:Int) 7=((n/128:Nat):Int):=by
 unfold sM;have:(2^min (7:Int).toNat IntKind.u64.bits)=128:=by rfl
 grind
theorem asi(m:Nat)(l:List Int):strOf ((m:Int)::l)=UInt8.ofNat m::strOf l:=rfl
theorem alS(a b:List Int):strOf (a++b)=strOf a++strOf b:=BG
theorem Yf{α:Type}:∀(l:List α) (i:Nat) (x:α),i<l.length->(l.set i x).take (i+1)=l.take i++[x]
 |[],i,x,h=>by grind
 |a::l,0,x,h=>by rfl
 |a::l,i+1,x,h=>by simp[Yf l i x (by grind)]
theorem ae7:∀(f n i:Nat) (b:List Int),i+f=9->n<128*128^f->b.length=10->∃(dY dk:Nat) (bI:List Int),C' ((n:Int),(i:Int),b)=some ((dY:Int),(dk:Int),bI)/\dY<128/\dk<=9/\bI.length=10/\strOf (bI.take dk)++[UInt8.ofNat dY]=strOf (b.take i)++fC n
 |f,n,i,b,ak,a',ag=>by
  rw[C'];by_cases hs:n<128
  . rw[ah (by grind)]
    grind[AY]
  . rw[af (by grind),af (bQ (by
     omega)),af (by
     grind)]
    match f,ak,a' with
    |0,ak,a'=>grind
    |f+1,ak,a'=>
     rw[aCR,c0 (by omega),aaM,av5 (Nat.mod_lt _ (by simp))];have aV:n/128<128*128^f:=by omega
     obtain⟨dY,dk,bI,h1,aa,aA,aU,bN⟩:=ae7 f _ (i+1) (b.set i _) (by omega) aV (by grind);refine⟨dY,dk,bI,h1,aa,aA,aU,?_⟩;rw[bN,Yf _ _ _ (by omega),alS,yA hs];have P0:strOf [n%128+128]=[UInt8.ofNat _]:=rfl
     grind
theorem yp{n:Nat}(a':n<18446744073709551616):yu (n:Int)=some (fC n):=by
 obtain⟨dY,dk,bI,h1,aa,aA,aU,bN⟩:=ae7 9 n 0 [0,0,0,0,0,0,0,0,0,0] rfl (by grind) rfl;rw[yu];have jm:C' (n,0,[0,0,0,0,0,0,0,0,0,0])=some _:=h1;rw[jm];simp only[bL,aK];have AK:gW 0 (dk+1:Nat) 10=true:=uV (by simp) (by omega)
 rw[af (bQ (by omega)),af (by grind),c0 (by omega),af AK,af (by grind[HT]),b6,aaM];have:dY%256=dY:=BC (by omega);rw[this];simp;rw[Yf _ _ _ (by omega),alS];have dO:strOf [dY]=[UInt8.ofNat dY]:=rfl;rw[dO,bN];rfl
theorem ZQ:∀(f n:Nat),n<128^(f+1)->(fC n).length<=f+1
 |f,n,a'=>by
  by_cases hs:n<128
  . grind[AY]
  . rw[yA hs]
    match f,a' with
    |0,a'=>grind
    |f+1,a'=>
     have:=ZQ f (n/128) (by omega)
     grind
theorem wv{n:Nat}(a':n<18446744073709551616):(fC n).length<=10:=ZQ 9 n (by grind)
theorem wy(n:Nat):0<(fC n).length:=by
 grind[fC]
theorem wo{n:Nat}(h:n<256):(UInt8.ofNat n).toNat=n:=by simp_all
theorem ae8:∀(f i acc n:Nat) (pre rest:List UInt8),i+f=10->pre.length=i->n*2^(7*i)<18446744073709551616->(n=0->i=0)->nu (pre++(fC n++rest)) f i acc=(((acc+n*2^(7*i):Nat):Int),((i+(fC n).length:Nat):Int),0)
 |0,i,acc,n,pre,rest,ak,ar,a',h0=>by grind
 |f+1,i,acc,n,pre,rest,ak,ar,a',h0=>by
  have hlen:i<(pre++(fC n++rest)).length:=by
   grind[wy]
  have eU:∀(x:UInt8) (r:List UInt8),fC n=x::r->(pre++(fC n++rest)).getD i 0=x:=by grind
  simp only[nu];rw[af hlen];by_cases hs:n<128
  . rw[eU _ _ (AY hs),wo (by omega),ah (by
     grind),ah (by omega),ah (by
     grind),AY hs]
    rfl
  . have aEK:i<9:=by grind
    rw[eU _ _ (yA hs),wo (by omega),ah (by omega),af (by simp)];have aE6:n%128*2^(7*i)+n/128*2^(7*(i+1))=n*2^(7*i):=by
     rw[ajy];have h1:n/128*(2^(7*i)*128)=(n/128*128)*2^(7*i):=by grind
     rw[h1,<-ni]
     grind
    have hbound:n/128*2^(7*(i+1))<18446744073709551616:=by omega
    have:=ae8 f _ (acc+n%128*2^(7*i)) _ (pre++[UInt8.ofNat (n%128+128)]) rest (by omega) (by grind) hbound (by omega);have es:pre++(fC n++rest)=pre++[UInt8.ofNat (n%128+128)]++(fC (n/128)++rest):=by rw[yA hs];simp
    grind
theorem aaQ{n:Nat}(a':n<18446744073709551616)(rest:List UInt8):nu (fC n++rest) 10 0 0=((n:Int),((fC n).length:Int),0):=by
 have:=ae8 10 0 0 n [] rest rfl rfl (by grind) (λ_=>rfl)
 grind
def eD(p:List UInt8):List UInt8:=fC p.length++p
theorem pG{n:Nat}(h:n<=9223372036854775807):decide (n<=iQ)=true:=by
 grind[iQ]
theorem Sn{p:List UInt8}(h:p.length<=1152921504606846976):AP p=some (eD p):=by
 rw[AP,qU (by omega),yp (by omega)];simp only[bL,aK];have:=wv (n:=p.length) (by omega);rw[af (pG (by omega))];rfl
def hJ(id:Nat)(c:Bool)(p:List UInt8):List UInt8:=fC (2*id+(if c then 1 else 0))++eD p
theorem asj{p:List UInt8}(h:p.length<=1152921504606846976):(eD p).length<=p.length+10:=by
 grind[wv,eD]
theorem ZR{id:Nat}{c:Bool}{p:List UInt8}(hid:id<=4611686018427387903)(h:p.length<=1152921504606846900):GY ((id:Int),c,p)=some (hJ id c p):=by
 rw[GY];have hm:rE .u64 2 (cU .u64 id)=(2*id:Nat):=by rw[qU (by omega)];exact WK (a:=2) (by omega)
 simp only[bL,aK];rw[hm,Sn (by omega)];have aj:=asj (p:=p) (by omega);cases c with
 |true=>
  have aC:bl .u64 _ 1=(2*id+1:Nat):=agd (b:=1) (by omega);rw[aC,yp (by omega)];have:=wv (n:=2*id+1) (by omega);simp only[aK];rw[af (pG (by omega))];rfl
 |false=>
  rw[yp (by omega)];have:=wv (n:=2*id) (by omega);simp only[aK];rw[af (pG (by omega))];rfl
theorem am0{p rest:List UInt8}(h:p.length<=100000):p9 (eD p++rest)=some (p,rest):=by
 unfold p9 eD;rw[rI,aaQ (by omega)];simp
 grind
theorem arZ{id:Nat}{c:Bool}{p rest:List UInt8}{last:Nat}{b:List eB}(h1:last<id)(hid:id<=1000)(h:(hJ id c p++rest).length<=100000)(ag:b.length<=90000):
 lX ((last:Int),hJ id c p++rest,b)=lX ((id:Int),rest,b++[⟨(id:Int),c,p⟩]):=by
 have kY:p.length<=100000:=by
  grind[hJ,eD,List.length_append]
 have b4:hJ id c p++rest≠[]:=by
  intro ay
  grind[wy,hJ,List.length_append,List.length_nil]
 have az:nu (hJ id c p++rest) 10 0 0=(((2*id+(if c then 1 else 0):Nat):Int),((fC (2*id+(if c then 1 else 0))).length:Int),0):=by
  grind[hJ,List.append_assoc,aaQ]
 have a':=wG az (by grind[hJ]);have av:(hJ id c p++rest).drop (fC (2*id+(if c then 1 else 0))).length=eD p++rest:=by
  grind[hJ]
 rw[av]at a';have hdiv:(2*id+(if c then 1 else 0))/2=id:=by grind
 have Wb:decide (c5 ((2*id+(if c then 1 else 0):Nat):Int) 2=1)=c:=by
  have:c5 _ 2=(((2*id+(if c then 1 else 0))%2:Nat):Int):=aCF (b:=2)
  grind
 rw[lX,af (by grind),a'];simp only[bL,aK];rw[MC (by omega),hdiv,ah (by grind),Wb,wH (by grind),am0 kY];simp only[aK];have hw:cU .i64 (id:Int)=(id:Int):=vu (by simp) (by omega);have qH:¬((!(gI (some (p,rest))).2.2)=true):=by simp[gI]
 rw[hw];have ai:room 32 (b++[(⟨(id:Int),c,(gI (some (p,rest))).1⟩:eB)]).length=true:=e6 (by simp) (by grind);rw[af ai];rfl
inductive c6:ad->Prop
 |mk (v:ad) (hs:v.ch.length<=reachBytes) (h1:v.aZ.length<=reachBytes) (aa:v.aB.length<=reachBytes) (aA:v.Rest.length<=reachBytes)
  (hk:∀x,x∈v.aZ->c6 x) (ak:∀x,x∈v.aB->c6 x) (ai:∀x,x∈v.Rest->x.Data.length<=reachBytes)
  (dJ: -9223372036854775808<=v.Kind/\v.Kind<=9223372036854775807) (dn: -9223372036854775808<=v.b5/\v.b5<=9223372036854775807) (ej: -9223372036854775808<=v.aq/\v.aq<=9223372036854775807)
  (cJ:∀x,x∈v.Rest->-9223372036854775808<=x.aq/\x.aq<=9223372036854775807):c6 v
theorem kg{n:Nat}(h:n<=reachBytes):n<9223372036854775807:=Nat.lt_of_le_of_lt h (by decide)
theorem scan{jL:Type}(L:Nat->Option jL)(n:Nat)(p:Nat->Bool)(bad Fw:jL)(mC:∀i,i<n->L i=if p i=true then L (i+1)else some bad)(wQ:L n=some Fw):
 (L 0=some Fw/\∀j,j<n->p j=true)\/(L 0=some bad/\∃j,j<n/\p j=false):=by
 have key:∀k i,i+k=n->(L i=some Fw/\∀j,i<=j->j<n->p j=true)\/(L i=some bad/\∃j,j<n/\p j=false):=by
  intro k
  induction k<;>grind
 rcases key n 0 (by simp)with⟨h1,aa⟩|h
 all_goals grind
theorem gM{α:Type}{l:List α}{i:Nat}(h:i<l.length)(d:α):l.getD i d=l[i]:=by grind
theorem RC{α:Type}{a b:List α}{p:Nat->Bool}(aj:a.length=b.length)(ar:∀(i:Nat) (h1:i<a.length) (aa:i<b.length),p i=true↔a[i]=b[i]):
 (∀j,j<a.length->p j=true)↔a=b:=by
 grind[List.ext_getElem]
def hG{α:Type}(o:Option Bool)(a b:α):Prop:=∃r,o=some r/\(r=true↔a=b)
theorem hG.W8 {α:Type}{a b:List α}{p:Nat->Bool}(aj:a.length=b.length)(ar:∀(i:Nat) (h1:i<a.length) (aa:i<b.length),p i=true↔a[i]=b[i]){o:Option Bool}
 (h:(o=some true/\∀j,j<a.length->p j=true)\/(o=some false/\∃j,j<a.length/\p j=false)):hG o a b:=by
 rcases h with⟨h1,aa⟩|⟨h1,j,aa,aA⟩
 . exact⟨true,h1,by simp[(RC aj ar).1 aa]⟩
 . refine⟨false,h1,?_⟩
   grind
theorem ae9{a b:dD}:(gu a.aq b.aq&&(rr a.Data b.Data&&true))=true↔a=b:=by cases a;cases b;simp[gu,rr]
theorem awz{a b:fK}:(gu a.aq b.aq&&(rr a.Name b.Name&&true))=true↔a=b:=by
 cases a;cases b;simp[gu,rr]
theorem GJ{α:Type}{a b:List α}(h:¬a.length=b.length):hG (some false) a b:=⟨false,rfl,by grind⟩
theorem ae'{a b:List dD}(aC:a.length<=reachBytes):hG (KP (a,b)) a b:=by
 rw[KP];by_cases aj:a.length=b.length
 . have ai:=kg aC;have:=scan (λi=>Ds (a,b,(a.length:Int),(i:Int))) a.length (λi=>gu (a.getD i gi).aq (b.getD i gi).aq&&(rr (a.getD i gi).Data (b.getD i gi).Data&&true)) (.inl false) (.inr ())
    (λi ak=>by
     rw[Ds,af (by grind),af (bQ ak)];simp[bL,aK,b6];rw[af (bQ (by omega)),c0 (by omega)]
     grind)
    (by simp_all[Ds])
   refine hG.W8 (p:=λi=>gu (a.getD i gi).aq (b.getD i gi).aq&&(rr (a.getD i gi).Data (b.getD i gi).Data&&true)) aj (λi h1 aa=>by simp only[gM h1,gM aa];exact ae9) ?_
   grind
 . rw[af (by grind)];exact GJ aj
theorem awA{a b:List fK}(aC:a.length<=reachBytes):hG (Rl (a,b)) a b:=by
 rw[Rl];by_cases aj:a.length=b.length
 . have ai:=kg aC;have:=scan (λi=>Dr (a,b,(a.length:Int),(i:Int))) a.length (λi=>gu (a.getD i jj).aq (b.getD i jj).aq&&(rr (a.getD i jj).Name (b.getD i jj).Name&&true)) (.inl false) (.inr ())
    (λi ak=>by
     rw[Dr,af (bQ ak)];simp;rw[af (bQ (by omega)),c0 (by omega)]
     grind)
    (by simp_all[Dr])
   refine hG.W8 (p:=λi=>gu (a.getD i jj).aq (b.getD i jj).aq&&(rr (a.getD i jj).Name (b.getD i jj).Name&&true)) aj (λi h1 aa=>by simp only[gM h1,gM aa];exact awz) ?_
   grind
 . rw[af (by grind)];exact GJ aj
theorem Z7(v:ad):(⟨v.Kind,v.cX,v.b5,v.ch,v.aq,v.aZ,v.aB,v.Rest⟩:ad)=v:=by cases v;rfl
theorem acA{a b:ad}:a=b↔a.Kind=b.Kind/\a.cX=b.cX/\a.b5=b.b5/\a.ch=b.ch/\a.aq=b.aq/\a.Rest=b.Rest/\a.aZ=b.aZ/\a.aB=b.aB:=by
 constructor
 . grind
 . cases a;cases b
   grind
section
variable {f:ad×ad->Option Bool}
theorem Y7 {a b:List ad}(aj:a.length=b.length)(ih:∀x,x∈a->∀y,hG (f (x,y)) x y)(L:Nat->Option (Bool ⊕ Unit))
 (mC:∀i,i<a.length->L i=(f (ad.eta (a.getD i aY),ad.eta (b.getD i aY))>>=λr=>if(!r)=true then some (.inl false)else L (i+1)))
 (wQ:L a.length=some (.inr ())):hG (L 0>>=λo=>match o with|.inl x=>some x|.inr _=>some true) a b:=by
 have eU:∀(i:Nat) (h1:i<a.length) (aa:i<b.length),hG (f (ad.eta (a.getD i aY),ad.eta (b.getD i aY))) a[i] b[i]:=by
  grind[gM,ad.cr]
 have:=scan L a.length (λi=>(f (ad.eta (a.getD i aY),ad.eta (b.getD i aY))).getD false) (.inl false) (.inr ())
  (λi ak=>by
   obtain⟨r,h1,aa⟩:=eU i ak (by omega)
   grind) wQ
 refine hG.W8 aj (λi h1 aa=>?_) ?_ (p:=λi=>(f (ad.eta (a.getD i aY),ad.eta (b.getD i aY))).getD false)
 . obtain⟨r,aA,aU⟩:=eU i h1 aa
   grind
 grind
end
theorem aeH{a b:List ad}(aC:a.length<=reachBytes)(ih:∀x,x∈a->∀y,hG (tf (x,y)) x y):hG (Ga (a,b)) a b:=by
 rw[Ga];by_cases aj:a.length=b.length
 . rw[ah (by grind)];have ai:=kg aC;exact Y7 aj ih (λi=>F9 (b,a,a.length,i))
    (λi ak=>by
     rw[F9,af (by grind),af (bQ ak),af (bQ (by omega)),c0 (by omega)]
     rfl)
    (by grind[F9])
 . rw[af (by grind)];exact GJ aj
theorem aeI{a b:List ad}(aC:a.length<=reachBytes)(ih:∀x,x∈a->∀y,hG (uI (x,y)) x y):hG (KN (a,b)) a b:=by
 rw[KN];by_cases aj:a.length=b.length
 . rw[ah (by grind)];have ai:=kg aC;exact Y7 aj ih (λi=>F' (b,a,a.length,i))
    (λi ak=>by
     rw[F',af (by grind),af (bQ ak),af (bQ (by omega)),c0 (by omega)]
     rfl)
    (by simp_all[F'])
 . rw[af (by grind)];exact GJ aj
theorem aeJ{a b:List ad}(aC:a.length<=reachBytes)(ih:∀x,x∈a->∀y,hG (Ak (x,y)) x y):hG (KR (a,b)) a b:=by
 rw[KR];by_cases aj:a.length=b.length
 . rw[ah (by grind)];have ai:=kg aC;exact Y7 aj ih (λi=>Gc (a,b,i))
    (λi ak=>by
     rw[Gc,af (by grind),af (bQ ak),af (bQ (by omega)),c0 (by omega)]
     rfl)
    (by grind[Gc])
 . rw[af (by grind)];exact GJ aj
theorem three{a b:ad}{bN:Bool}(nF:bN=true↔a.Kind=b.Kind/\a.cX=b.cX/\a.b5=b.b5/\a.ch=b.ch/\a.aq=b.aq){x y z:Option Bool}(I:hG x a.Rest b.Rest)(ao:hG y a.aZ b.aZ)(bq:hG z a.aB b.aB):
 hG (some bN>>=λt37=>(if t37=true then x else some false)>>=λr=>some (bif t37 then r else false)>>=λt44=>(if t44=true then y else some false)>>=λbT=>some (bif t44 then bT else false)>>=λt51=>(if t51=true then z else some false)>>=λdZ=>some (bif t51 then dZ else false)) a b:=by
 obtain⟨rx,o',aFd⟩:=I;obtain⟨ajJ,Kc,Qe⟩:=ao;obtain⟨aCL,nQ,AN⟩:=bq;subst o';subst Kc;subst nQ;refine⟨bN&&rx&&ajJ&&aCL,?_,?_⟩
 . cases bN<;>cases rx<;>cases ajJ<;>rfl
 grind[acA]
theorem ahh{a b:ad}:(bif bif bif bif decide (a.Kind=b.Kind)then kh a.cX b.cX else false then decide (a.b5=b.b5)else false then decide (a.ch=b.ch)else false then decide (a.aq=b.aq)else false)=true↔a.Kind=b.Kind/\a.cX=b.cX/\a.b5=b.b5/\a.ch=b.ch/\a.aq=b.aq:=by
 grind[kh]
theorem abF{a:ad}(h:c6 a):∀b,hG (tf (a,b)) a b:=by
 induction h with
 |mk a hs h1 aa aA hk ak ai dJ dn ej cJ iY gU=>
  intro b;rw[tf];exact three ahh (ae' aA) (aeH h1 iY) (aeH aa gU)
theorem Y8{a:ad}(h:c6 a):∀b,hG (uI (a,b)) a b:=by
 induction h with
 |mk a hs h1 aa aA hk ak ai dJ dn ej cJ iY gU=>
  intro b;rw[uI];exact three ahh (ae' aA) (aeI h1 iY) (aeI aa gU)
theorem av6{a:ad}(h:c6 a):∀b,hG (Ak (a,b)) a b:=by
 induction h with
 |mk a hs h1 aa aA hk ak ai dJ dn ej cJ iY gU=>
  intro b;rw[Ak];by_cases bN:a.Kind=b.Kind/\a.cX=b.cX/\a.b5=b.b5/\a.ch=b.ch/\a.aq=b.aq/\a.Rest.length=b.Rest.length
  . obtain⟨aR,bw,e7,mX,nF,o0⟩:=bN;rw[ah (by grind[kh])];have aip:=kg aA;have AJ:=scan (λi=>xX ((i:Int),a,b)) a.Rest.length (λi=>gu (a.Rest.getD i gi).aq (b.Rest.getD i gi).aq&&(rr (a.Rest.getD i gi).Data (b.Rest.getD i gi).Data&&true)) (.inl false) (.inr (a,b))
     (λi hY=>by
      rw[xX,af (bQ hY)];simp only[bL,aK,b6,ad.cr];rw[af (bQ (by omega)),c0 (by omega)]
      grind)
     (by rw[xX,ah (by simp),ad.cr,ad.cr])
    have h0:xX (((0:Nat):Int),a,b)=xX (0,a,b):=rfl;simp only[h0]at AJ;rw[Z7,Z7];have ar:∀(i:Nat) (h1:i<a.Rest.length) (aa:i<b.Rest.length),(gu (a.Rest.getD i gi).aq (b.Rest.getD i gi).aq&&(rr (a.Rest.getD i gi).Data (b.Rest.getD i gi).Data&&true))=true↔a.Rest[i]=b.Rest[i]:=λi h1 aa=>by grind[gM,ae9]
    rcases AJ with⟨g1,g2⟩|⟨g1,j,g2,g3⟩
    . have aiq:=(RC o0 ar).1 g2;rw[g1];obtain⟨xd,k1,k2⟩:=aeJ (a:=a.aZ) (b:=b.aZ) h1 iY;obtain⟨aCH,i1,i2⟩:=aeJ (a:=a.aB) (b:=b.aB) aa gU;simp only[bL,aK];rw[k1,i1];refine⟨xd&&aCH,by cases xd<;>rfl,?_⟩;simp_all[acA,dM]
    . rw[g1];refine⟨false,rfl,?_⟩
      grind
  . rw[af]
    . refine⟨false,rfl,?_⟩
      grind
    . simp only[W3,kh]
      grind
def yD(c:Int):Bool:=decide (c=95\/(97<=c/\c<=122)\/(65<=c/\c<=90))
def Lz(c:Int):Bool:=decide (48<=c/\c<=57)
theorem SX(c:Int):KF c=some (yD c):=by
 rw[KF];unfold yD
 grind
theorem acB(c:Int):Q1 c=some (yD c):=by
 rw[Q1];unfold yD
 grind
theorem atN(c:Int):Rg c=some (Lz c):=by
 rw[Rg];unfold Lz
 grind
theorem atO(c:Int):Xz c=some (Lz c):=by
 rw[Xz];unfold Lz
 grind
theorem adv{jL:Type}(A B dR:Bool)(X Y:Option jL)(dP:dR=true):
 (some A>>=λbT=>some (!bT)>>=λt26=>if(dR||(!t26))=true then(if t26=true then some B else some false)>>=λdZ=>if(bif t26 then(!dZ)else false)=true then X else Y else none)=if(A||B)=true then Y else X:=by
 subst dP;cases A<;>cases B<;>rfl
theorem av7(s:List UInt8):∃r,se s=some r/\akS s=some r:=by
 rw[se,akS];simp only[bL,aK];by_cases ag:s=[]\/24<s.length
 . have ht:(bif decide (s=[])then true else decide (24<(s.length:Int)))=true:=by grind
   rw[ht];simp_all
 . have b4:s≠[]:=λh=>ag (.inl h)
   have hlen:s.length<=24:=by omega
   have ht:(bif decide (s=[])then true else decide (24<(s.length:Int)))=false:=by grind
   have mA:0<s.length:=Eb.2 b4;have et:bd 0 s.length=true:=bQ (k:=0) mA;simp only[ht,et,Hp,dc,j7,aK,SX,acB,pe];cases aj:yD (mR s 0)with
   |false=>exact⟨false,rfl,rfl⟩
   |true=>
    rw[ah (by simp),ah (by simp)]
    let p:Nat->Bool:=λi=>yD (mR s i)||Lz (mR s i)
    have s1:=scan (λi=>ta (s,(s.length:Int),(i:Int))) s.length p (.inl false) (.inr ())
     (λi ak=>by
      rw[ta,af (by simp;omega),af (bQ ak),SX,atN,c0 (by omega)]
      exact adv _ _ _ _ _ (bQ ak))
     (by rw[ta,ah (by simp)])
    have s2:=scan (λi=>DC (s,(i:Int))) s.length p (.inl false) (.inr ())
     (λi ak=>by
      rw[DC,af (by simp;omega),af (bQ ak),acB,atO,c0 (by omega)]
      exact adv _ _ _ _ _ (bQ ak))
     (by rw[DC,ah (by simp)])
    have aR:ta (s,(s.length:Int),((0:Nat):Int))=ta (s,(s.length:Int),0):=rfl;have bw:DC (s,((0:Nat):Int))=DC (s,0):=rfl;simp only[aR,bw]at s1 s2;rcases s1 with⟨a1,a2⟩|⟨a1,j,a2,a3⟩<;>rcases s2 with⟨b1,b2⟩|⟨b1,k,b2,cf⟩
    . simp_all
    . grind
    . grind
    simp_all
def nm(s:List UInt8):Bool:=(se s).getD false
theorem Ql(s:List UInt8):se s=some (nm s):=by
 obtain⟨r,h1,_⟩:=av7 s;unfold nm;rw[h1];rfl
def y4(l:List Int)(names:List (List UInt8))(i:Nat):Bool:=
 decide (1<=l.getD i 0)&&decide (l.getD i 0<=1000)&&(decide (i=0)||decide (l.getD (i-1) 0<l.getD i 0))&&nm (names.getD i []) && !((names.take i).contains (names.getD i []))
def sL(l:List (List UInt8)):List (List UInt8):=l.foldl n2 []
theorem atP(ks:List (List UInt8))(a s:List UInt8):ki (n2 ks a) s=(ki ks s||decide (a=s)):=by
 unfold n2;split
 . grind
 . simp[ki,List.any_append]
theorem abG(l:List (List UInt8))(s:List UInt8):ki (sL l) s=l.contains s:=by
 have key:∀(l:List (List UInt8)) (ks:List (List UInt8)),ki (l.foldl n2 ks) s=(ki ks s||l.contains s):=by
  intro l
  induction l with
  |nil=>intro ks;simp
  |cons a r ih=>
   intro ks;rw[BE,ih,atP,Bool.or_assoc]
   grind
 have:=key l []
 simpa[sL,ki]using this
theorem abH{l:List (List UInt8)}{i:Nat}(h:i<l.length):n2 (sL (l.take i)) (l.getD i [])=sL (l.take (i+1)):=by
 unfold sL;rw[W1,List.foldl_append,gQ h,gM h];rfl
theorem av8{jL:Type}(A Z Cb C dR H N:Bool)(X Y:Option jL)(dP:dR=true)(Vc:Z=true->Cb=true):
 (if(Cb||(!((!A)&&Z)))=true then
  some (bif A then true else bif Z then C else false)>>=λt34=>
  if(dR||(!(!t34)))=true then
   some (bif t34 then true else H)>>=λt42=>
   if(dR||(!(!t42)))=true then
    (if(!t42)=true then some N else some false)>>=λr=>
    if(bif t42 then true else(!r))=true then X else(if dR=true then Y else none)
   else none
  else none
 else none)=if(!A&&(!Z || !C)&&N && !H)=true then Y else X:=by
 subst dP;cases Z with
 |true=>have:=Vc rfl;subst this;cases A<;>cases C<;>cases H<;>cases N<;>rfl
 |false=>cases A<;>cases Cb<;>cases C<;>cases H<;>cases N<;>rfl
theorem afa{l:List Int}{names:List (List UInt8)}(aj:l.length<=reachBytes)(a':names.length=l.length):∃r,K4 (l,names)=some r/\(r=true↔(∀i,i<l.length->y4 l names i=true)/\l.length<=16):=by
 rw[K4];have ai:=kg aj;have AJ:=scan (λi=>yb (l,names,l,(l.length:Int),(i:Int),sL (names.take i))) l.length (y4 l names) (.inl false) (.inr l)
  (λi ak=>by
   have et:i<names.length:=by omega
   rw[yb,af (by simp;omega),af (bQ ak)];simp only[b6];rw[Ql,c0 (by omega),abH et,abG];have j3:0<i->gq .i64 (i:Int) 1=((i-1:Nat):Int):=by intro h;rw[om (by omega) (by omega)];omega
   refine(av8 (bif decide (l.getD i 0<1)then true else decide (1000<l.getD i 0)) (decide ((0:Int)<(i:Int))) (bd (gq .i64 (i:Int) 1) l.length) (decide (l.getD i 0<=l.getD (gq .i64 (i:Int) 1).toNat 0)) (bd (i:Int) names.length) ((names.take i).contains (names.getD i [])) (nm (names.getD i [])) _ _ (bQ et) (λbq=>?_)).trans ?_
   . have mA:0<i:=by simp at bq;omega
     rw[j3 mA];exact bQ (by omega)
   . have:(!(bif decide (l.getD i 0<1)then true else decide (1000<l.getD i 0))&&(!(decide ((0:Int)<(i:Int))) || !(decide (l.getD i 0<=l.getD (gq .i64 (i:Int) 1).toNat 0)))&&nm (names.getD i []) && !((names.take i).contains (names.getD i [])))=y4 l names i:=by
      unfold y4
      grind
     rw[this])
  (by rw[yb,ah (by simp)])
 have e0:yb (l,names,l,(l.length:Int),((0:Nat):Int),sL (names.take 0))=yb (l,names,l,(l.length:Int),0,[]):=rfl;simp only[e0]at AJ;rcases AJ with⟨h1,aa⟩|⟨h1,j,aa,aA⟩
 . rw[h1];refine⟨decide ((l.length:Int)<=16),rfl,?_⟩
   grind
 . rw[h1];refine⟨false,rfl,?_⟩
   grind
theorem S1{k n:Nat}(hk:k<=16)(h:n*24<=reachBytes):room k n=true:=by
 unfold room kJ en;unfold reachBytes at h;simp only[dM,ij];have:(2*n+192)*k<=(2*n+192)*16:=Nat.mul_le_mul_left _ hk;omega
theorem K'{α:Type}(l:List α)(i:Nat)(d:α)(h:i<l.length):l.take i++[l.getD i d]=l.take (i+1):=by simp_all
theorem C0{α β:Type}(f:α->β)(l:List α)(i:Nat)(d:α)(e:β)(h:i<l.length):(l.map f).getD i e=f (l.getD i d):=by grind
theorem amf{l:List (List UInt8)}{i:Nat}{s:List UInt8}(ak:i<=l.length):(l.take i).contains s=true↔∃k,k<i/\l.getD k []=s:=by
 rw[List.contains_iff_mem];constructor
 . intro h;obtain⟨k,hk,he⟩:=la h;rw[BD]at hk;refine⟨k,by omega,?_⟩
   grind
 . rintro ⟨k,hk,he⟩
   rw[<-he,gM (by omega)];have:(l.take i)[k]'(by rw[BD];omega)=l[k]:=List.getElem_take
   grind
theorem abI(l:List fK)(aj:l.length*24<=reachBytes):∀(k i:Nat),i+k=l.length->Bg (l,l,(l.length:Int),(i:Int),(l.map (·.aq)).take i,(l.map (·.Name)).take i)=some (l,l.map (·.aq),l.map (·.Name))
 |0,i,h=>by
  have:i=l.length:=by omega
  subst this;rw[Bg,ah (by simp)];rw[Ea (by simp),Ea (by simp)]
 |k+1,i,h=>by
  have ai:l.length<9223372036854775807:=by unfold reachBytes at aj;omega
  have ak:i<l.length:=by omega
  rw[Bg,af (by simp;omega),af (bQ ak)];simp only[bL,aK,b6];rw[<-C0 (·.aq) l i jj 0 ak,<-C0 (·.Name) l i jj [] ak,K' _ _ _ (by simpa using ak),K' _ _ _ (by simpa using ak)];rw[af (S1 (by omega) (by simp;omega)),af (S1 (by omega) (by simp;omega)),c0 (by omega)];exact abI l aj k (i+1) (by omega)
theorem av9{l:List fK}(aj:l.length*24<=reachBytes):∃r,KG l=some r/\(r=true↔0<l.length/\(∀i,i<l.length->y4 (l.map (·.aq)) (l.map (·.Name)) i=true)/\l.length<=16):=by
 have h:=abI l aj l.length 0 (by omega);have bg:Bg (l,l,(l.length:Int),0,[],[])=some (l,l.map (·.aq),l.map (·.Name)):=h;rw[KG,bg];simp only[bL,aK];obtain⟨r,h1,aa⟩:=afa (l:=l.map (·.aq)) (names:=l.map (·.Name)) (by simp;unfold reachBytes at*;omega) (by simp);rw[p3]at aa
 grind
structure oL (t:au):Prop where
 syms:t.bW.length*24<=reachBytes
 w1:t.al.length*24<=reachBytes
 xT:∀m,m∈t.al->c6 m.cB
theorem uT{n:Nat}(h:n*24<=reachBytes):n<=reachBytes:=by unfold reachBytes at*;omega
theorem asl{a b:bj}:a=b↔a.aq=b.aq/\a.Name=b.Name/\a.aQ=b.aQ/\a.dq=b.dq/\a.cV=b.cV/\a.cB=b.cB:=by cases a;cases b;simp
theorem uJ(x:bj):(⟨x.aq,x.Name,x.aQ,x.dq,x.cV,ad.eta x.cB⟩:bj)=x:=by cases x;simp[ad.cr]
theorem ayN{a b:bj}:(bif bif bif bif decide (a.aq=b.aq)then decide (a.Name=b.Name)else false then decide (a.aQ=b.aQ)else false then kh a.dq b.dq else false then kh a.cV b.cV else false)=true↔a.aq=b.aq/\a.Name=b.Name/\a.aQ=b.aQ/\a.dq=b.dq/\a.cV=b.cV:=by
 simp only[W3,kh]
 grind
theorem aDD{a b:bj}{q:Bool}(aE:q=true↔a.aq=b.aq/\a.Name=b.Name/\a.aQ=b.aQ/\a.dq=b.dq/\a.cV=b.cV){x:Option Bool}(I:hG x a.cB b.cB):
 hG (some q>>=λt37=>(if t37=true then x else some false)>>=λr=>some (bif t37 then r else false)) a b:=by
 obtain⟨rx,h1,aa⟩:=I;subst h1;refine⟨q&&rx,by cases q<;>cases rx<;>rfl,?_⟩;rw[asl,dM,aE,aa];constructor
 . rintro ⟨⟨a1,a2,a3,a4,a5⟩,bx⟩;exact⟨a1,a2,a3,a4,a5,bx⟩
 . rintro ⟨a1,a2,a3,a4,a5,bx⟩;exact⟨⟨a1,a2,a3,a4,a5⟩,bx⟩
theorem ath{a:bj}(h:c6 a.cB)(b:bj):hG (KE (a,b)) a b:=by
 rw[KE];simp only[Z7,ad.cr];exact aDD ayN (Y8 h _)
theorem ar0 {f:bj×bj->Option Bool}{jL:Type}{g:jL}{a b:List bj}(aj:a.length=b.length)(ih:∀x,x∈a->∀y,hG (f (x,y)) x y)(L:Nat->Option (Bool ⊕ jL))
 (mC:∀i,i<a.length->L i=(f (a.getD i aX,b.getD i aX)>>=λr=>if(!r)=true then some (.inl false)else L (i+1)))
 (wQ:L a.length=some (.inr g)):(L 0=some (.inr g)/\a=b)\/(L 0=some (.inl false)/\a≠b):=by
 have eU:∀(i:Nat) (h1:i<a.length) (aa:i<b.length),hG (f (a.getD i aX,b.getD i aX)) a[i] b[i]:=by grind
 have ar:∀(i:Nat) (h1:i<a.length) (aa:i<b.length),(f (a.getD i aX,b.getD i aX)).getD false=true↔a[i]=b[i]:=by
  intro i h1 aa;obtain⟨r,aA,aU⟩:=eU i h1 aa
  grind
 have:=scan L a.length (λi=>(f (a.getD i aX,b.getD i aX)).getD false) (.inl false) (.inr g)
  (λi ak=>by
   obtain⟨r,h1,aa⟩:=eU i ak (by omega)
   grind) wQ
 rcases this with⟨h1,aa⟩|⟨h1,j,aa,aA⟩
 . exact .inl ⟨h1,(RC aj ar).1 aa⟩
 . refine .inr ⟨h1,λe=>?_⟩;have:=(RC aj ar).2 e j aa;rw[aA]at this;cases this
theorem aqp{a b:List bj}(aC:a.length<=reachBytes)(av:∀m,m∈a->c6 m.cB):hG (Rj (a,b)) a b:=by
 rw[Rj];by_cases aj:a.length=b.length
 . rw[ah (by simp;omega)];have ai:=kg aC;have hs:=ar0 (g:=()) aj (f:=KE) (λx I y=>ath (av x I) y) (λi=>yi (b,a,(a.length:Int),(i:Int)))
    (λi ak=>by
     rw[yi,af (by simp;omega),af (bQ ak)];simp only[bL,aK,b6,uJ]
     rw[af (bQ (by omega)),c0 (by omega)])
    (by rw[yi,ah (by simp)])
   have e0:yi (b,a,(a.length:Int),((0:Nat):Int))=yi (b,a,(a.length:Int),0):=rfl;simp only[e0]at hs;rcases hs with⟨h1,aa⟩|⟨h1,aa⟩
   . rw[h1];exact⟨true,rfl,by simp[aa]⟩
   . rw[h1];exact⟨false,rfl,by simp[aa]⟩
 . rw[af (by simp;omega)];exact GJ aj
theorem atQ{a b:au}:a=b↔a.Kind=b.Kind/\a.Name=b.Name/\a.cA=b.cA/\a.cD=b.cD/\a.Max=b.Max/\a.Key=b.Key/\a.a6=b.a6/\a.Open=b.Open/\a.bW=b.bW/\a.al=b.al:=by
 cases a;cases b
 grind
theorem awB{a b:au}:(bif bif bif bif bif bif bif decide (a.Kind=b.Kind)then decide (a.Name=b.Name)else false then decide (a.cA=b.cA)else false then decide (a.cD=b.cD)else false then decide (a.Max=b.Max)else false then decide (a.Key=b.Key)else false then decide (a.a6=b.a6)else false then kh a.Open b.Open else false)=true↔
 a.Kind=b.Kind/\a.Name=b.Name/\a.cA=b.cA/\a.cD=b.cD/\a.Max=b.Max/\a.Key=b.Key/\a.a6=b.a6/\a.Open=b.Open:=by
 simp only[W3,kh];by_cases h1:a.Kind=b.Kind<;>by_cases aa:a.Name=b.Name<;>by_cases aA:a.cA=b.cA<;>by_cases aU:a.cD=b.cD<;>simp[h1,aa,aA,aU]
 by_cases bN:a.Max=b.Max<;>by_cases dO:a.Key=b.Key<;>by_cases hV:a.a6=b.a6<;>simp[bN,dO,hV]
theorem yE{a:au}(h:oL a)(b:au):hG (mq (a,b)) a b:=by
 rw[mq];obtain⟨rs,s1,s2⟩:=awA (a:=a.bW) (b:=b.bW) (uT h.syms);obtain⟨ajG,m1,m2⟩:=aqp (a:=a.al) (b:=b.al) (uT h.w1) h.xT;have e8:=awB (a:=a) (b:=b)
 generalize (bif bif bif bif bif bif bif decide (a.Kind=b.Kind)then decide (a.Name=b.Name)else false then decide (a.cA=b.cA)else false then decide (a.cD=b.cD)else false then decide (a.Max=b.Max)else false then decide (a.Key=b.Key)else false then decide (a.a6=b.a6)else false then kh a.Open b.Open else false)=q at e8⊢
 simp only[bL,aK];rw[s1,m1];refine⟨q&&rs&&ajG,by cases q<;>cases rs<;>cases ajG<;>rfl,?_⟩;rw[atQ,dM,dM,e8,s2,m2]
 grind
theorem adw(a:au):(⟨a.Kind,a.Name,a.cA,a.cD,a.Max,a.bW,a.al,a.Key,a.a6,a.Open⟩:au)=a:=by cases a;rfl
def Hd(v:ad):Bool:=(uI (v,aY)).getD false
theorem av'{v:ad}(h:c6 v):uI (v,aY)=some (Hd v):=by
 obtain⟨r,h1,aa⟩:=Y8 h aY;unfold Hd;rw[h1];rfl
theorem atS{v:ad}(h:c6 v):R5 v=some (Hd v):=by
 rw[R5,ad.cr];have:=av' h;unfold aY at this
 grind
def E2(union:Bool)(m:bj):Bool:=(union&&(m.dq||m.cV))||(m.dq&&m.cV)||(!m.cV && !Hd m.cB)
theorem bZ{α:Type}{l:List α}{i:Nat}(h:i<l.length)(d:α):l.getD i d∈l:=by grind
theorem asm{t:au}(h:oL t):∃r,Gk t=some r/\(r=true↔(∀i,i<t.al.length->E2 (decide (t.Kind=6)) (t.al.getD i aX)=false)/\(t.Kind=5\/0<t.al.length)/\(∀i,i<t.al.length->y4 (t.al.map (·.aq)) (t.al.map (·.Name)) i=true)/\t.al.length<=16):=by
 have ai:t.al.length<9223372036854775807:=kg (uT h.w1);have AJ:=scan (λi=>x6 (t.al,(t.al.length:Int),(i:Int),t,(t.al.map (·.aq)).take i,(t.al.map (·.Name)).take i)) t.al.length (λi=>!(E2 (decide (t.Kind=6)) (t.al.getD i aX))) (.inl false) (.inr (t,t.al.map (·.aq),t.al.map (·.Name)))
  (λi ak=>by
   have bq:=atS (h.xT _ (bZ ak aX));rw[x6,af (by simp;omega),af (bQ ak)];simp only[bL,aK,b6,ad.cr];rw[<-C0 (·.aq) t.al i aX 0 ak,<-C0 (·.Name) t.al i aX [] ak,K' _ _ _ (by simpa using ak),K' _ _ _ (by simpa using ak)];have ag:((t.al.map (·.aq)).take (i+1)).length*24<=reachBytes:=by
    refine jJ (hj _ ?_) h.w1;simp;omega
   have jn:((t.al.map (·.Name)).take (i+1)).length*24<=reachBytes:=by grind
   rw[af (S1 (by omega) ag),af (S1 (by omega) jn),c0 (by omega),bq];unfold E2
   grind)
  (by
   rw[x6,ah (by simp)]
   rw[Ea (by simp),Ea (by simp)])
 have e0:x6 (t.al,(t.al.length:Int),((0:Nat):Int),t,(t.al.map (·.aq)).take 0,(t.al.map (·.Name)).take 0)=x6 (t.al,(t.al.length:Int),0,t,[],[]):=rfl;simp only[e0]at AJ;rw[Gk];obtain⟨r,h1,aa⟩:=afa (l:=t.al.map (·.aq)) (names:=t.al.map (·.Name)) (by simpa using uT h.w1) (by simp);rw[p3]at aa
 rcases AJ with⟨g1,g2⟩|⟨g1,j,g2,g3⟩
 . rw[g1];simp only[bL,aK];rw[h1];refine⟨(bif decide (t.Kind=5)then true else decide (0<((t.al.map (·.aq)).length:Int)))&&r,?_,?_⟩
   . grind
   grind
 grind
theorem oL.plain{k l h m kk e:Int}{n:List UInt8}{S:List fK}{d':List bj}{o:Bool}(aN:S.length*24<=reachBytes)(fN:d'.length*24<=reachBytes)(av:∀x,x∈d'->c6 x.cB):oL ⟨k,n,l,h,m,S,d',kk,e,o⟩:=⟨aN,fN,av⟩
def jw(t:au):List Int:=t.al.map (·.aQ)++(if t.Kind=8 then[t.Key]else[])++(if 7<=t.Kind then[t.a6]else[])
theorem aaA{k n:Nat}(hk:k<=16){m:Nat}(h:m*24<=reachBytes)(a':n<=m+2):room k n=true:=by
 unfold room kJ en;unfold reachBytes at h;simp;have:(2*n+192)*k<=(2*n+192)*16:=Nat.mul_le_mul_left _ hk;omega
theorem abJ(t:au)(h:t.al.length*24<=reachBytes):∀(k i:Nat),i+k=t.al.length->C8 (t.al,(t.al.length:Int),(i:Int),t,(t.al.map (·.aQ)).take i)=some (t,t.al.map (·.aQ))
 |0,i,ak=>by grind[C8,List.take_of_length_le]
 |k+1,i,ak=>by
  have ai:=kg (uT h);have aV:i<t.al.length:=by omega
  rw[C8,af (by grind),af (bQ aV)];simp only[bL,aK,b6];rw[<-C0 (·.aQ) _ i _ 0 aV,K' _ _ _ (by grind),c0 (by omega),af (aaA (by simp) h (by grind))];exact abJ t h k _ (by omega)
theorem awa{t:au}(h:t.al.length*24<=reachBytes):Rw t=some (jw t):=by
 have h0:=abJ t h t.al.length 0 (by simp);rw[Rw];unfold jw;have cc:room 8 (t.al.map (·.aQ)++[t.Key]).length=true:=aaA (by simp) h (by simp);have eC:room 8 (t.al.map (·.aQ)++[t.Key]++[t.a6]).length=true:=aaA (m:=t.al.length) (by simp) h (by simp)
 grind
def Mm(n:Nat)(u:Int):Bool:=bif decide (u<0)then true else decide ((n:Int)<=u)
theorem atT{jL:Type}(L:Nat->Option jL)(l:List Int)(q:Int->Bool)(bad Fw:jL)(mC:∀i,i<l.length->L i=if q (l.getD i 0)=true then some bad else L (i+1))(wQ:L l.length=some Fw):
 L 0=some (if l.any q=true then bad else Fw):=by
 have:=scan L l.length (λi=>!(q (l.getD i 0))) bad _ (λi ak=>by grind) wQ
 grind[List.getElem_of_mem]
theorem ati{t:au}(h:t.al.length*24<=reachBytes):(jw t).length<9223372036854775807:=by
 grind[jw,reachBytes]
theorem awC{ts:List au}{t:au}(hu:(jw t).any (Mm ts.length)=false)(hW:t.Kind=8):bd t.Key ts.length=true:=by
 grind[jw,Mm,bd]
theorem Gz{jL:Type}(L:Nat->Option jL)(n:Nat)(q:Nat->Bool)(yU:Nat->jL)(WI:jL)(mC:∀i,i<n->L i=if q i=true then some (yU i)else L (i+1))(wQ:L n=some WI):
 (∃j,j<n/\q j=true/\(∀k,k<j->q k=false)/\L 0=some (yU j))\/((∀k,k<n->q k=false)/\L 0=some WI):=by
 have key:∀k i,i+k=n->(∀m,m<i->q m=false)->L 0=L i->(∃j,j<n/\q j=true/\(∀k,k<j->q k=false)/\L 0=some (yU j))\/((∀k,k<n->q k=false)/\L 0=some WI):=by
  intro k
  induction k with
  |zero=> intro i ak hm h0; have:i = n:= by omega
          subst this;exact .inr ⟨hm,by rw[h0,wQ]⟩
  |succ k ih=>
   intro i ak hm h0;rw[mC i (by omega)]at h0
   grind
 exact key n 0 (by omega) (λm hm=>by omega) rfl
def DO(l:List bj)(id:Int)(r:Int×Bool):Prop:=(∃j:Nat,j<l.length/\(l.getD j aX).aq=id/\(∀k,k<j->(l.getD k aX).aq≠id)/\r=((j:Int),true))\/((∀k,k<l.length->(l.getD k aX).aq≠id)/\r=(0,false))
theorem am1{l:List bj}{id:Int}{r q:Int×Bool}(h1:DO l id r)(aa:DO l id q):r=q:=by
 rcases h1 with⟨j,a1,a2,a3,rfl⟩|⟨a1,rfl⟩<;>rcases aa with⟨k,b1,b2,cf,rfl⟩|⟨b1,rfl⟩
 . grind
 . grind
 . grind
 . rfl
theorem Bp{t:au}{id:Int}(aj:t.al.length<9223372036854775807):∃r,kG (t,id)=some r/\DO t.al id r:=by
 rw[kG,XG];have h:=Gz (λi=>yj (t.al,(t.al.length:Int),(i:Int),id)) t.al.length (λi=>decide ((t.al.getD i aX).aq=id)) (λi=>.inl ((i:Int),id)) (.inr id)
  (λi ak=>by
   rw[yj,af (by simp;omega),af (bQ ak)];simp only[bL,aK,b6,uJ,Yu]
   rw[c0 (by omega)])
  (by rw[yj,ah (by simp)])
 have e0:yj (t.al,(t.al.length:Int),((0:Nat):Int),id)=yj (t.al,(t.al.length:Int),0,id):=rfl;simp only[e0]at h;rcases h with⟨j,h1,aa,aA,aU⟩|⟨h1,aU⟩
 . rw[aU];refine⟨((j:Int),true),?_,.inl ⟨j,h1,by simpa using aa,λk hk=>by simpa using aA k hk,rfl⟩⟩;have aR:tH (j:Int) 0=(j:Int):=by unfold tH;omega
   simp_all
 . rw[aU];exact⟨(0,false),rfl,.inr ⟨λk hk=>by simpa using h1 k hk,rfl⟩⟩
theorem apE{t:au}{id:Int}(aj:t.al.length<9223372036854775807):∃r,Kx (t,id)=some r/\DO t.al id r:=by
 rw[Kx];have h:=Gz (λi=>x1 (id,(i:Int),t)) t.al.length (λi=>decide ((t.al.getD i aX).aq=id)) (λi=>.inl ((i:Int),true)) (.inr ())
  (λi ak=>by
   rw[x1,af (by simp;omega),af (bQ ak),c0 (by omega)]
   grind)
  (by rw[x1,ah (by simp)])
 have e0:x1 (id,((0:Nat):Int),t)=x1 (id,0,t):=rfl;simp only[e0]at h;rcases h with⟨j,h1,aa,aA,aU⟩|⟨h1,aU⟩
 . rw[aU];exact⟨((j:Int),true),rfl,.inl ⟨j,h1,by simpa using aa,λk hk=>by simpa using aA k hk,rfl⟩⟩
 . rw[aU];exact⟨(0,false),rfl,.inr ⟨λk hk=>by simpa using h1 k hk,rfl⟩⟩
theorem am2{t:au}(id:Int)(aj:t.al.length<9223372036854775807):∃r,kG (t,id)=some r/\Kx (t,id)=some r/\DO t.al id r:=by
 obtain⟨r,h1,aa⟩:=Bp (id:=id) aj;obtain⟨q,aA,aU⟩:=apE (id:=id) aj;have:=am1 aa aU
 grind
def He(l:List fK)(id:Int)(r:Int×Bool):Prop:=(∃j:Nat,j<l.length/\(l.getD j jj).aq=id/\(∀k,k<j->(l.getD k jj).aq≠id)/\r=((j:Int),true))\/((∀k,k<l.length->(l.getD k jj).aq≠id)/\r=(0,false))
theorem ar1{l:List fK}{id:Int}{r q:Int×Bool}(h1:He l id r)(aa:He l id q):r=q:=by
 rcases h1 with⟨j,a1,a2,a3,rfl⟩|⟨a1,rfl⟩<;>rcases aa with⟨k,b1,b2,cf,rfl⟩|⟨b1,rfl⟩
 . grind
 . grind
 . grind
 . rfl
theorem G3{t:au}(id:Int)(aj:t.bW.length<9223372036854775807):∃r,yc (t,id)=some r/\Q0 (t,id)=some r/\He t.bW id r:=by
 rw[yc,XE,Q0];have h:=Gz (λi=>vX (t.bW,(t.bW.length:Int),(i:Int),id)) t.bW.length (λi=>decide ((t.bW.getD i jj).aq=id)) (λi=>.inl ((i:Int),id)) (.inr id)
  (λi ak=>by
   rw[vX,af (by simp;omega),af (bQ ak)];simp only[bL,aK,b6,Yt]
   rw[c0 (by omega)])
  (by rw[vX,ah (by simp)])
 have e0:vX (t.bW,(t.bW.length:Int),((0:Nat):Int),id)=vX (t.bW,(t.bW.length:Int),0,id):=rfl;have g:=Gz (λi=>v8 (id,(i:Int),t)) t.bW.length (λi=>decide ((t.bW.getD i jj).aq=id)) (λi=>.inl ((i:Int),true)) (.inr ())
  (λi ak=>by
   rw[v8,af (by simp;omega),af (bQ ak),c0 (by omega)]
   grind)
  (by rw[v8,ah (by simp)])
 have g0:v8 (id,((0:Nat):Int),t)=v8 (id,0,t):=rfl;simp only[e0]at h;simp only[g0]at g;have fr:∃r,(vX (t.bW,(t.bW.length:Int),0,id)>>=λo=>match o with|.inl bo=>some (bo.1,bo.2)|.inr bt=>some ((-1),bt))>>=(λr=>some (tH r.1 0,decide (0<=r.1)))=some r/\He t.bW id r:=by
  rcases h with⟨j,h1,aa,aA,aU⟩|⟨h1,aU⟩
  . rw[aU];refine⟨((j:Int),true),?_,.inl ⟨j,h1,by simpa using aa,λk hk=>by simpa using aA k hk,rfl⟩⟩;have aR:tH (j:Int) 0=(j:Int):=by unfold tH;omega
    simp_all
  . rw[aU];exact⟨(0,false),rfl,.inr ⟨λk hk=>by simpa using h1 k hk,rfl⟩⟩
 have eF:∃r,(v8 (id,0,t)>>=λo=>match o with|.inl bo=>some (bo.1,bo.2)|.inr bt=>some (0,false))=some r/\He t.bW id r:=by
  rcases g with⟨j,h1,aa,aA,aU⟩|⟨h1,aU⟩
  . rw[aU];exact⟨((j:Int),true),rfl,.inl ⟨j,h1,by simpa using aa,λk hk=>by simpa using aA k hk,rfl⟩⟩
  . rw[aU];exact⟨(0,false),rfl,.inr ⟨λk hk=>by simpa using h1 k hk,rfl⟩⟩
 obtain⟨r,a1,a2⟩:=fr;obtain⟨q,b1,b2⟩:=eF;have:=ar1 a2 b2
 grind
def kx(n:Int):Int:=if 0<=n then 2*n else -2*n-1
theorem adY{a b:Int}(h:kx a=kx b):a=b:=by
 unfold kx at h;split at h<;>split at h<;>omega
def di(n:Int):Prop:= -9223372036854775808<=n/\n<=9223372036854775807
theorem Hf{n:Int}(h:di n):Ky n=some (kx n):=by
 obtain⟨h1,aa⟩:=h;rw[Ky];unfold kx;by_cases h0:0<=n
 . rw[af (by simp[h0]),af h0];obtain⟨k,rfl⟩:∃k:Nat,n=(k:Int):=⟨n.toNat,by omega⟩
   rw[qU (by omega)];have:=WK (a:=2) (b:=k) (by omega)
   grind
 . rw[ah (by simp[h0]),ah h0];rw[nE (by omega) (by omega),om (by omega) (by omega)];obtain⟨k,hk⟩:∃k:Nat,0-(n+1)=(k:Int):=⟨(0-(n+1)).toNat,by omega⟩
   rw[hk,qU (by omega)];have aA:=WK (a:=2) (b:=k) (by omega);have Fx:rE .u64 2 (k:Int)=((2*k:Nat):Int):=aA;rw[Fx];have aU:=agd (a:=2*k) (b:=1) (by omega)
   grind
theorem atU(a:Nat)(h:a<18446744073709551616):Ex .u64 (a:Int) 0=(a:Int):=by
 have e:(BitVec.ofInt 64 (a:Int) ^^^ BitVec.ofInt 64 (0:Int)).toNat=a:=by grind
 show IntKind.u64.wrap (((BitVec.ofInt 64 (a:Int) ^^^ BitVec.ofInt 64 (0:Int)).toNat:Nat):Int)=_;rw[e];exact tW (by omega) (by omega)
theorem atV(a:Nat)(h:a<18446744073709551616):Ex .u64 (a:Int) 18446744073709551615=((18446744073709551615-a:Nat):Int):=by
 have e:(BitVec.ofInt 64 (a:Int) ^^^ BitVec.ofInt 64 (18446744073709551615:Int)).toNat=18446744073709551615-a:=by
  have h1:BitVec.ofInt 64 (18446744073709551615:Int)=BitVec.allOnes 64:=by decide
  rw[h1,Hx,BitVec.xor_allOnes,BitVec.toNat_not,LZ,YL,BC h]
 all_goals (try omega)
 show IntKind.u64.wrap (((BitVec.ofInt 64 (a:Int) ^^^ BitVec.ofInt 64 (18446744073709551615:Int)).toNat:Nat):Int)=_;rw[e];exact tW (by omega) (by omega)
theorem aCQ{n:Int}(h:di n):sM .i64 n 63=if 0<=n then 0 else -1:=by
 obtain⟨h1,aa⟩:=h;unfold sM;have e:((2:Int)^min (63:Int).toNat IntKind.i64.bits)=9223372036854775808:=by decide
 grind
theorem Hg{n:Int}(h:di n):Gm n=some (kx n):=by
 rw[Gm,aCQ h];obtain⟨h1,aa⟩:=h;unfold kx;have hs:∀m:Int,vq .u64 m 1=IntKind.u64.wrap (m*2):=by
  intro m;unfold vq;rfl
 rw[hs]
 congr 1
 by_cases h0:0<=n
 . rw[af h0,af h0];obtain⟨k,rfl⟩:∃k:Nat,n=(k:Int):=⟨n.toNat,by omega⟩
   rw[qU (by omega),tW (by omega) (by omega)];have:cU .u64 0=0:=by decide
   rw[this];have:=atU (2*k) (by omega)
   grind
 . rw[ah h0,ah h0];have:cU .u64 (-1)=18446744073709551615:=by decide
   rw[this];obtain⟨k,hk⟩:∃k:Nat,n+9223372036854775808=(k:Int):=⟨(n+9223372036854775808).toNat,by omega⟩
   have e:IntKind.u64.wrap (cU .u64 n*2)=((2*k:Nat):Int):=by
    unfold cU;rw[IntKind.wrap_u64,IntKind.wrap_u64];omega
   rw[e,atV _ (by omega)];omega
theorem agy(a b:Int):Rx (a,b)=some (if a<b then -1 else if b<a then 1 else 0):=by
 rw[Rx];simp only[SU,bL,aK,fg,gN,dK,dB]
 grind
theorem N3(a b:Int):Lj (a,b)=some (if a<b then -1 else if b<a then 1 else 0):=by
 rw[Lj];simp only[Ry,bL,aK,fg,gN,dK,dB]
 grind
theorem agz(a b:List UInt8):QU (a,b)=some (if Op.bytesLess a b=true then -1 else if(Op.bytesLess a b||decide (a=b))=true then 0 else 1):=by
 rw[QU];simp only[Rz,bL,aK,fg,gN,dK,dB]
 grind
theorem ajl(a b:Int):Tv [a,b]=some (if a≠0 then a else b):=by
 rw[Tv];have h0:A0 (0,[a,b],((2:Nat):Int),((0:Nat):Int))=if a≠0 then some (.inl a)else(if b≠0 then some (.inl b)else some (.inr 0)):=by
  rw[A0,af (by decide),af (show bd ((0:Nat):Int) ([a,b]:List Int).length=true from bQ (k:=0) (n:=2) (by omega))];simp only[bL,aK,b6,Ec];by_cases aC:a=0
  . rw[ah (by simp[aC]),ah (by simp[aC])];have aR:bl .i64 ((0:Nat):Int) 1=((1:Nat):Int):=c0 (by omega);rw[aR,A0,af (by decide),af (show bd ((1:Nat):Int) ([a,b]:List Int).length=true from bQ (k:=1) (n:=2) (by omega))];simp only[bL,aK,b6,List.getD_cons_succ,Ec];by_cases ag:b=0
    . rw[ah (by simp[ag]),ah (by simp[ag])];have bw:bl .i64 ((1:Nat):Int) 1=((2:Nat):Int):=c0 (by omega);rw[bw,A0,ah (by decide)]
    grind
  grind
 grind
theorem Yg:∀a:List UInt8,Op.bytesLess a a=false
 |[]=>rfl
 |x::r=>by
  simp[Op.bytesLess,Yg r]
theorem Ze{a b:ad}(aC:di a.b5)(ag:di b.b5):∃r,Br (a,b)=some r/\DD (a,b)=some r:=by
 rw[Br,DD];by_cases hk:a.Kind=b.Kind
 . rw[ah (show ¬((!(decide (a.Kind=b.Kind)))=true) by simp[hk]),ah (show ¬((!(decide (a.Kind=b.Kind)))=true) by simp[hk])];by_cases k1:a.Kind=1
   . rw[af (show decide (a.Kind=1)=true by simp[k1]),af (show decide (a.Kind=1)=true by simp[k1])];simp only[q'];cases kh a.cX b.cX<;>cases b.cX<;>exact⟨_,rfl,rfl⟩
   . rw[ah (show ¬(decide (a.Kind=1)=true) by simp[k1]),ah (show ¬(decide (a.Kind=1)=true) by simp[k1])];by_cases k2:a.Kind=2
     . rw[af (show decide (a.Kind=2)=true by simp[k2]),af (show decide (a.Kind=2)=true by simp[k2]),Hg aC,Hg ag,Hf aC,Hf ag];simp only[bL,aK,agy,q'];by_cases he:a.b5=b.b5
       . grind
       . have b4:kx a.b5≠kx b.b5:=λh=>he (adY h)
         grind
     . rw[ah (show ¬(decide (a.Kind=2)=true) by simp[k2]),ah (show ¬(decide (a.Kind=2)=true) by simp[k2])];by_cases k3:a.Kind=3
       . rw[af (show decide (a.Kind=3)=true by simp[k3]),af (show decide (a.Kind=3)=true by simp[k3])];simp only[bL,aK,N3,agz,ajl,q'];by_cases aj:a.ch.length=b.ch.length
         . have aE:¬((!(decide ((a.ch.length:Int)=(b.ch.length:Int))))=true):=by simp;omega
           rw[ah aE,aj];have aR:¬((b.ch.length:Int)<(b.ch.length:Int)):=by omega
           simp only[aR,dB,ne_eq,not_true_eq_false];by_cases he:a.ch=b.ch
           . rw[he,Yg]
             grind
           grind
         grind
       . rw[ah (show ¬(decide (a.Kind=3)=true) by simp[k3]),ah (show ¬(decide (a.Kind=3)=true) by simp[k3])];by_cases k4:a.Kind=4
         . rw[af (show decide (a.Kind=4)=true by simp[k4]),af (show decide (a.Kind=4)=true by simp[k4])];simp only[bL,aK,N3,q']
           grind
         simp_all
 simp_all
def F8(k:Int):Prop:=1<=k/\k<=9
section
variable {ts:List au}(a':ts.length<9223372036854775807)(gk:∀t,t∈ts->oL t)(cq:∀t,t∈ts->F8 t.Kind)
theorem au3{jL:Type}(j4 f Z:Bool)(MM:Int)(Cb C:Int->Bool)(X Y:Option jL)(Vc:Z=true->Cb MM=true):
 ((if(!j4)=true then some f else some false)>>=λha=>some (bif j4 then true else(!ha))>>=λt131=>some Z>>=λt134=>some MM>>=λt141=>
  if(Cb t141||(!((!t131)&&t134)))=true then if(bif t131 then true else bif t134 then C t141 else false)=true then X else Y else none)=if(!j4&&f&&(!Z || !(C MM)))=true then Y else X:=by
 simp only[bL,aK];generalize C MM=c;cases Z with
 |true=>rw[Vc rfl];cases j4<;>cases f<;>cases c<;>rfl
 |false=>generalize Cb MM=d;cases j4<;>cases f<;>cases d<;>cases c<;>rfl
theorem Z8{i:Nat}(h:0<i)(aa:i<9223372036854775807):gq .i64 (i:Int) 1=((i-1:Nat):Int):=by
 rw[om (by omega) (by omega)];omega
end
theorem SE{v:ad}(h:c6 v):di v.b5:=by cases h with|mk _ _ _ _ _ _ _ _ dJ dn=>exact dn
theorem k7{o:Option Bool}{r:Bool}(aO:o=some r)(q:Bool):(some q>>=λt244=>(if t244=true then o else some false)>>=λfB=>some (bif t244 then fB else false))=some (q&&r):=by grind
theorem GK{U:dC}{t:aS}{l:List (t.den U.D)}(h:WF U ⟨.slice t,l⟩):l.length<=reachBytes/\l.length*t.bytes U<=reachBytes/\∀x,x∈l->∀c,c∈t.row U x->WF U c:=by cases h with|slice t l h1 aa aA=>exact⟨h1,aa,aA⟩
theorem abK(s:bY):(⟨s.Types⟩:bY)=s:=by cases s;rfl
def iJ(n:Nat):List UInt8:=if n=0 then[]else iJ (n/256)++[UInt8.ofNat (n%256)]
termination_by n
decreasing_by omega
theorem adx{α:Type}:∀(l:List α) (k:Nat) (x:α),k<l.length->(l.set k x).drop k=x::l.drop (k+1)
 |[],k,x,h=>by simp at h
 |a::l,0,x,h=>by simp
 |a::l,k+1,x,h=>by simp[adx l k x (by simpa using h)]
theorem aCS(n:Nat):sM .u64 (n:Int) 8=((n/256:Nat):Int):=by
 unfold sM;have:((2:Int)^min (8:Int).toNat IntKind.u64.bits)=256:=by decide
 grind
theorem afb:∀(i n:Nat) (b:List Int),n<256^i->i<=8->b.length=8->∃(dk:Nat) (bI:List Int),Da ((n:Int),(i:Int),b)=some ((dk:Int),bI)/\dk<=8/\bI.length=8/\strOf (bI.drop dk)=iJ n++strOf (b.drop i)
 |i,n,b,a',ak,ag=>by
  rw[Da];by_cases h0:n=0
  . subst h0;rw[ah (by simp)];refine⟨i,b,rfl,ak,ag,?_⟩;rw[iJ,af rfl];rfl
  . rw[af (by simp;omega)]
    match i,a',ak with
    |0,a',ak=>simp at a';omega
    |i+1,a',ak=>
     have hs:gq .i64 ((i+1:Nat):Int) 1=(i:Int):=by rw[om (by omega) (by omega)];omega
     simp only[bL,aK];rw[hs,af (bQ (by omega)),af (by simp[ag];omega),aCS,aaM,b6];have aV:n/256<256^i:=by omega
     obtain⟨dk,bI,h1,aa,aA,aU⟩:=afb i (n/256) (b.set i ((n%256:Nat):Int)) aV (by omega) (by simp[ag]);refine⟨dk,bI,h1,aa,aA,?_⟩;rw[aU,adx _ _ _ (by omega),asi]
     conv=>rhs;rw[iJ,ah h0]
     grind
theorem Tw{n:Nat}(a':n<18446744073709551616):K5 (n:Int)=some (iJ n):=by
 have e:(256:Nat)^8=18446744073709551616:=by decide
 obtain⟨dk,bI,h1,aa,aA,aU⟩:=afb 8 n [0,0,0,0,0,0,0,0] (by rw[e];exact a') (by omega) rfl;have jm:Da ((n:Int),8,[0,0,0,0,0,0,0,0])=some ((dk:Int),bI):=h1;rw[K5,jm];simp only[bL,aK,b6];have AK:gW (dk:Int) 8 8=true:=uV (b:=8) (by omega) (by omega);have hW:(8:Int).toNat=8:=rfl
 rw[af AK,hW,af (by simp[HT,aA];omega)];rw[Ea (by simp[aA]),aU];simp[strOf]
theorem GL:∀(f n:Nat),n<256^f->(iJ n).length<=f
 |0,n,h=>by
  have:n=0:=by simpa using h
  subst this;rw[iJ,af rfl];simp
 |f+1,n,h=>by
  rw[iJ];split
  . simp
  . have:=GL f (n/256) (by omega);simp;omega
end
end Go.Proofs.YtklfhpkljddjbaaGreatDoor
