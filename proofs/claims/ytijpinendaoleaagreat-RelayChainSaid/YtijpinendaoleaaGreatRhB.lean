/- The functions of the program as functions of Lean, that its code does what they say, and what they answer; part B. -/
import Derived.Test.YtijpinendaoleaaGreatRhA

namespace Go.Proofs.YtijpinendaoleaaGreat
set_option linter.all false
section
open Go Go.Proofs.YtijpinendaoleaaGreat.Shv
open Tryz
set_option maxRecDepth 100000
def aup(cx:hI×Int×List UInt8):Option (q3×Int):=
 match cx with
 | (s,t,m)=>
 ap4 (s,t) >>=λr=>if(!(decide (r=0)))=true then some ((⟨(⟨0,false,0,[],0,[],[],[]⟩:ak),(⟨[],0⟩:R2),false⟩:q3),r)
 else if decide (4096 < (m.length:Int))=true then OW ([],3) >>=λh8=>some ((⟨ak.eta h8.Value,h8.HW,h8.zt⟩:q3),0)
 else TV (s,t,m,1,[]) >>=λG'=>
 some ((⟨ak.eta G'.Value,G'.HW,G'.zt⟩:q3),0)
theorem aOc :hp aCh:= .m (by kernel_rfl)
theorem aQz :hF aCh aup:= .fn aOc (.k aQ' (.k aa7 (.k aPO .n))) .n λ_=>by kernel_rfl
def ap0(cx:hI×Int×List UInt8):Option (ak×Int):=
 match cx with
 | (s,t,m)=>
 aup (s,t,m) >>=λr=>if(bif decide (r.2=0)then(!r.1.zt)else false)=true then some (ak.eta r.1.Value,12)
 else some (ak.eta r.1.Value,r.2)
theorem aNU :hp aB4:= .m (by kernel_rfl)
theorem aPv :hF aB4 ap0:= .fn aNU (.k aQz .n) .n λ_=>by kernel_rfl
def aeB(v:ak):Option (Bool):=
 some (bif bif bif bif bif bif bif decide (v.Kind=1)then true else(!v.oi)then bif decide (v.Kind=2)then true else decide (v.hX=0)else false then bif decide (v.Kind=3)then true else decide (v.js=[])else false then bif bif decide (v.Kind=4)then true else decide (v.Kind=6)then true else decide (v.a8=0)else false then bif decide (v.Kind=8)then true else decide ((v.eI.length:Int)=0)else false then bif decide (5<=v.Kind)then true else decide ((v.cy.length:Int)=0)else false then bif bif decide (v.Kind=5)then true else decide (v.Kind=6)then true else decide ((v.Rest.length:Int)=0)else false)
theorem aOl :hp aCm:= .m (by kernel_rfl)
theorem aQA :hF aCm aeB:= .fn aOl .n .n λ_=>by kernel_rfl
def Tm(cx:Int×Bool):Option (Bool):=
 match cx with
 | (n,known)=>
 some (bif bif (!known)then decide (1<=n)else false then decide (n<=1000)else false)
theorem aOm :hp aCn:= .m (by kernel_rfl)
theorem aDe :hF aCn Tm:= .fn aOm .n .n λ_=>by kernel_rfl
def UF(cx:List pI×Int×f7):Option ((Bool) ⊕ (Unit)):=
 match cx with
 | (JW,i,b)=>
 if decide (i < (JW.length:Int))=true then if ez i JW.length=true then Tj (b,(JW.getD i.toNat j').a8) >>=λr=>if ez i JW.length=true then Tm ((JW.getD i.toNat j').a8,r.2) >>=λn2=>some (!n2) >>=λt31=>some (decide (0 < i)) >>=λt34=>if(ez i JW.length || (!((!t31) && t34)))=true then some (BJ .i64 i 1) >>=λt43=>if(ez t43 JW.length || (!((!t31) && t34)))=true then if(bif t31 then true else bif t34 then decide ((JW.getD i.toNat j').a8<=(JW.getD t43.toNat j').a8)else false)=true then some (.inl false)
 else UF (JW,e0 .i64 i 1,b)
 else none
 else none
 else none
 else none
 else some (.inr ())
  partial_fixpoint
theorem aPP :sa 95 0 [0] aCp UF:= .rc UF.partial_correctness (.k acA (.k aDe .n)) .n λ_ _=>by kernel_rfl
def acG(cx:f7×List pI):Option (Bool):=
 match cx with
 | (t,l)=>
 UF (l,0,t) >>=λo=>match o with
 | .inl ha=>
 some ha
 | .inr fr=>
 some true
theorem aOn :hp aCo:= .m (by kernel_rfl)
theorem aQB :hF aCo acG:= .fn aOn .n (.k aPP .n) λ_=>by kernel_rfl
def Qg(cx:Int×ak):Option ((Bool) ⊕ (Unit)):=
 match cx with
 | (G2,WZ)=>
 if decide (G2 < (WZ.eI.length:Int))=true then some (BJ .i64 G2 1) >>=λt270=>if ez t270 WZ.eI.length=true then if ez G2 WZ.eI.length=true then ZB (ak.eta (WZ.eI.getD t270.toNat eJ),ak.eta (WZ.eI.getD G2.toNat eJ)) >>=λVo=>if decide (0<=Vo)=true then some (.inl false)
 else Qg (e0 .i64 G2 1,ak.eta WZ)
 else none
 else none
 else some (.inr ())
  partial_fixpoint
theorem aPw :sa 60 0 [1] aB8 Qg:= .rc Qg.partial_correctness (.k api .n) .n λ_ _=>by kernel_rfl
mutual
def ZG(cx:hI×Int×List ak×Bool):Option (Bool):=
 match cx with
 | (s,t,l,plain)=>
 VG (t,l,plain,0,s.Types) >>=λo=>match o with
 | .inl ha=>
 some ha
 | .inr fr=>
 some true
  partial_fixpoint
def R1(cx:hI×Int×ak×Bool):Option (Bool):=
 match cx with
 | (s,t,v,plain)=>
 if(bif decide (t < 0)then true else decide ((s.Types.length:Int)<=t))=true then some false
 else if ez t s.Types.length=true then some (s.Types.getD t.toNat hz) >>=λa'=>
 some (!(decide (v.Kind=a'.Kind))) >>=λt34=>(if(!t34)=true then aeB (ak.eta v)else some false) >>=λr=>if(bif bif t34 then true else(!r)then true else bif plain then decide (0 < (v.Rest.length:Int))else false)=true then some false
 else if decide (a'.Kind=1)=true then some true
 else if decide (a'.Kind=2)=true then some (bif decide (a'.hU<=v.hX)then decide (v.hX<=a'.hV)else false)
 else if decide (a'.Kind=3)=true then some (decide ((v.js.length:Int)<=a'.Max))
 else if decide (a'.Kind=4)=true then ag5 (a',v.a8) >>=λh8=>some (bif a'.Open then(!plain)else false) >>=λt91=>(if((!h8.2) && t91)=true then Tm (v.a8,h8.2)else some false) >>=λrm=>some (bif h8.2 then true else bif t91 then rm else false)
 else if decide (a'.Kind=5)=true then some (!(decide ((v.cy.length:Int)=(a'.b8.length:Int)))) >>=λt107=>(if(!t107)=true then acG (a',v.Rest)else some false) >>=λwm=>if(bif t107 then true else(!wm))=true then some false
 else RY (plain,0,s.Types,ak.eta v,a'.Kind,a'.Name,a'.hU,a'.hV,a'.Max,a'.hl,a'.b8,a'.Key,a'.ev,a'.Open) >>=λo=>match o with
 | .inl ha=>
 some ha
 | .inr fr=>
 some true
 else if decide (a'.Kind=6)=true then Tj (a',v.a8) >>=λK1=>if K1.2=true then some (bif decide ((v.cy.length:Int)=1)then decide ((v.Rest.length:Int)=0)else false) >>=λt156=>if(ez K1.1 a'.b8.length || (!t156))=true then if(ez 0 v.cy.length || (!t156))=true then (if t156=true then R1 (s,(a'.b8.getD K1.1.toNat ii).e2,ak.eta (v.cy.getD (0:Int).toNat eJ),plain)else some false) >>=λMe=>some (bif t156 then Me else false)
 else none
 else none
 else some (bif a'.Open then(!plain)else false) >>=λt177=>(if t177=true then Tm (v.a8,K1.2)else some false) >>=λEJ=>some (bif bif bif t177 then EJ else false then decide ((v.cy.length:Int)=0)else false then decide ((v.Rest.length:Int)=1)else false) >>=λt195=>if(ez 0 v.Rest.length || (!t195))=true then some (bif t195 then decide ((v.Rest.getD (0:Int).toNat j').a8=v.a8)else false)
 else none
 else if decide (a'.Kind=7)=true then some (decide ((v.cy.length:Int)<=a'.Max)) >>=λt213=>(if t213=true then ZG (s,a'.ev,v.cy,plain)else some false) >>=λJn=>some (bif t213 then Jn else false)
 else if decide (a'.Kind=8)=true then some (bif decide (a'.Max < (v.eI.length:Int))then true else(!(decide ((v.cy.length:Int)=(v.eI.length:Int))))) >>=λt239=>(if(!t239)=true then ZG (s,a'.Key,v.eI,plain)else some false) >>=λS3=>some (bif t239 then true else(!S3)) >>=λt249=>(if(!t249)=true then ZG (s,a'.ev,v.cy,plain)else some false) >>=λNy=>if(bif t249 then true else(!Ny))=true then some false
 else Qg (1,ak.eta v) >>=λMU=>match MU with
 | .inl Js=>
 some Js
 | .inr iJ=>
 some true
 else some (decide ((v.cy.length:Int)<=1)) >>=λt283=>(if t283=true then ZG (s,a'.ev,v.cy,plain)else some false) >>=λOS=>some (bif t283 then OS else false)
 else none
  partial_fixpoint
def VG(cx:Int×List ak×Bool×Int×List f7):Option ((Bool) ⊕ (Unit)):=
 match cx with
 | (aMq,JW,aol,i,b)=>
 if decide (i < (JW.length:Int))=true then if ez i JW.length=true then R1 ((⟨b⟩:hI),aMq,ak.eta (JW.getD i.toNat eJ),aol) >>=λr=>if(!r)=true then some (.inl false)
 else VG (aMq,JW,aol,e0 .i64 i 1,b)
 else none
 else some (.inr ())
  partial_fixpoint
def RY(cx:Bool×Int×List f7×ak×Int×List UInt8×Int×Int×Int×List r'×List li×Int×Int×Bool):Option ((Bool) ⊕ (Unit)):=
 match cx with
 | (aol,i,b,c6,hr,h5,N9,Su,QF,MZ,J5,Ob,afA,afB)=>
 if decide (i < (c6.cy.length:Int))=true then if ez i J5.length=true then if ez i c6.cy.length=true then R1 ((⟨b⟩:hI),(J5.getD i.toNat ii).e2,ak.eta (c6.cy.getD i.toNat eJ),aol) >>=λNL=>if(!NL)=true then some (.inl false)
 else RY (aol,e0 .i64 i 1,b,ak.eta c6,hr,h5,N9,Su,QF,MZ,J5,Ob,afA,afB)
 else none
 else none
 else some (.inr ())
  partial_fixpoint
end
theorem aCq :hp amE:= .m (by kernel_rfl)
theorem amv :hp adm:= .m (by kernel_rfl)
theorem aRc :(∀h r,ZG h=some r->tr amE h r)/\(∀h r,VG h=some r->yJ 96 0 [0] amF h r)/\(∀h r,R1 h=some r->tr adm h r)/\(∀h r,RY h=some r->yJ 60 0 [0] amu h r):=ZG.mutual_partial_correctness (tr amE) (yJ 96 0 [0] amF) (tr adm) (yJ 60 0 [0] amu)
 (λ_ h1 _ _ h=>MB amE aCq .n (.k (N4 amF h1) .n) (.trans (by kernel_rfl) h))
 (λ_ _ h1 ah _ _ h=>N3 amF h1 (.k (yt adm amv ah) .n) .n (.trans (by kernel_rfl) h))
 (λ_ _ _ h0 ah b' _ _ h=>MB adm amv (.k aQA (.k atw (.k aDe (.k aQB (.k acA (.k (yt adm amv ah) (.k (yt amE aCq h0) .n))))))) (.k (N4 amu b') (.k aPw .n)) (.trans (by kernel_rfl) h))
 (λ_ _ ah b' _ _ h=>N3 amu b' (.k (yt adm amv ah) .n) .n (.trans (by kernel_rfl) h))
theorem aQU :hF adm R1:= .of amv aRc.2.2.1
def auq(cx:hI×Int×ak):Option (Bool):=
 match cx with
 | (s,t,v)=>
 R1 (s,t,ak.eta v,false) >>=λr=>some r
theorem aNH :hp aBQ:= .m (by kernel_rfl)
theorem aQC :hF aBQ auq:= .fn aNH (.k aQU .n) .n λ_=>by kernel_rfl
def ak1(cx:hI×Int×ak):Option (Int):=
 match cx with
 | (s,t,v)=>
 aha s >>=λr=>if(!(decide (r=0)))=true then some r
 else if(bif decide (t < 0)then true else decide ((s.Types.length:Int)<=t))=true then some 4
 else auq (s,t,ak.eta v) >>=λh8=>if(!h8)=true then some 1
 else some 0
theorem aNZ :hp aB6:= .m (by kernel_rfl)
theorem aRd :hF aB6 ak1:= .fn aNZ (.k aCY (.k aQC .n)) .n λ_=>by kernel_rfl
def ag7(cx:Int×List UInt8):Option (List UInt8):=
 match cx with
 | (PW,azd)=>
 if decide (0 < PW)=true then some (strOf [jJ .u8 (kt PW 256)]) >>=λt10=>if decide (t10.length+azd.length<=Lh)=true then ag7 (MV .u64 PW 256,t10++azd)
 else none
 else some azd
  partial_fixpoint
theorem aPx :sa 98 0 [0] aCt ag7:= .rc ag7.partial_correctness .n .n λ_ _=>by kernel_rfl
def ak'(n:Int):Option (List UInt8):=
 ag7 (n,[]) >>=λo=>some o
theorem aOp :hp aCs:= .m (by kernel_rfl)
theorem aQm :hF aCs ak':= .fn aOp .n (.k aPx .n) λ_=>by kernel_rfl
def ag8(cx:Int×List Int):Option (Int×List Int):=
 match cx with
 | (ab1,c6)=>
 if decide (128<=ab1)=true then some [jJ .u8 (e0 .u64 (kt ab1 128) 128)] >>=λt11=>if room 1 (c6++t11).length=true then ag8 (MV .u64 ab1 128,c6++t11)
 else none
 else some (ab1,c6)
  partial_fixpoint
theorem aQV :sa 100 0 [0] aIw ag8:= .rc ag8.partial_correctness .n .n λ_ _=>by kernel_rfl
def acJ(n:Int):Option (List UInt8):=
 ag8 (n,[]) >>=λo=>some [jJ .u8 o.1] >>=λt18=>if room 1 (o.2++t18).length=true then some (strOf (o.2++t18))
 else none
theorem aX' :hp aA7:= .m (by kernel_rfl)
theorem aun :hF aA7 acJ:= .fn aX' .n (.k aQV .n) λ_=>by kernel_rfl
def acH(p:List UInt8):Option (List UInt8):=
 acJ (jJ .u64 (p.length:Int)) >>=λr=>if decide (r.length+p.length<=Lh)=true then some (r++p)
 else none
theorem aYa :hp aA8:= .m (by kernel_rfl)
theorem atB :hF aA8 acH:= .fn aYa (.k aun .n) .n λ_=>by kernel_rfl
def ak2(cx:Int×Bool×List UInt8):Option (List UInt8):=
 match cx with
 | (id,auU,p)=>
 some (jJ .u64 (Nv .i64 2 id)) >>=λt10=>if auU=true then acJ (e0 .u64 t10 1) >>=λr=>acH p >>=λh8=>if decide (r.length+h8.length<=Lh)=true then some (r++h8)
 else none
 else acJ t10 >>=λG'=>
 acH p >>=λn2=>if decide (G'.length+n2.length<=Lh)=true then some (G'++n2)
 else none
theorem aYb :hp aA9:= .m (by kernel_rfl)
theorem aC0 :hF aA9 ak2:= .fn aYb (.k aun (.k atB .n)) .n λ_=>by kernel_rfl
def Ys(cx:List UInt8×Int×Int×List f7×ak×f7):Option (List UInt8×Int×List f7×ak×f7):=
 match cx with
 | (asz,anL,k,W1,Tt,XW)=>
 if decide (k < (Tt.Rest.length:Int))=true then if ez k Tt.Rest.length=true then if decide ((Tt.Rest.getD k.toNat j').a8=anL)=true then if ez k Tt.Rest.length=true then ak2 (anL,false,(Tt.Rest.getD k.toNat j').Data) >>=λasJ=>if decide (asz.length+asJ.length<=Lh)=true then Ys (asz++asJ,anL,e0 .i64 k 1,W1,ak.eta Tt,XW)
 else none
 else none
 else Ys (asz,anL,e0 .i64 k 1,W1,ak.eta Tt,XW)
 else none
 else some (asz,anL,W1,ak.eta Tt,XW)
  partial_fixpoint
theorem aO2 :sa 61 0 [0,2] aH1 Ys:= .rc Ys.partial_correctness (.k aC0 .n) .n λ_ _=>by kernel_rfl
mutual
def WE(cx:hI×Int×ak):Option (List UInt8):=
 match cx with
 | (s,t,v)=>
 if ez t s.Types.length=true then some (s.Types.getD t.toNat hz) >>=λa'=>
 if decide (a'.Kind=1)=true then if v.oi=true then some [1]
 else some []
 else if decide (a'.Kind=2)=true then ag6 v.hX >>=λr=>ak' r >>=λh8=>some h8
 else if decide (a'.Kind=3)=true then some v.js
 else if decide (a'.Kind=4)=true then ak' (jJ .u64 v.a8) >>=λG'=>
 some G'
 else if decide (a'.Kind=9)=true then if decide ((v.cy.length:Int)=0)=true then some []
 else if ez 0 v.cy.length=true then WE (s,a'.ev,ak.eta (v.cy.getD (0:Int).toNat eJ)) >>=λn2=>if decide ([1].length+n2.length<=Lh)=true then some ([1]++n2)
 else none
 else none
 else if decide (a'.Kind=6)=true then if decide (0 < (v.Rest.length:Int))=true then acJ (jJ .u64 v.a8) >>=λrm=>if ez 0 v.Rest.length=true then some (v.Rest.getD (0:Int).toNat j') >>=λVv=>if decide (rm.length+Vv.Data.length<=Lh)=true then some (rm++Vv.Data)
 else none
 else none
 else Tj (a',v.a8) >>=λwm=>acJ (jJ .u64 v.a8) >>=λOC=>if ez wm.1 a'.b8.length=true then if ez 0 v.cy.length=true then WE (s,(a'.b8.getD wm.1.toNat ii).e2,ak.eta (v.cy.getD (0:Int).toNat eJ)) >>=λMe=>if decide (OC.length+Me.length<=Lh)=true then some (OC++Me)
 else none
 else none
 else none
 else if decide (a'.Kind=7)=true then aeP ([],0,s.Types,ak.eta v,a') >>=λo=>some o
 else if decide (a'.Kind=8)=true then aeQ ([],0,s.Types,ak.eta v,a') >>=λha=>some ha
 else Pi ([],1,s.Types,ak.eta v,a') >>=λfr=>some fr
 else none
  partial_fixpoint
def aeP(cx:List UInt8×Int×List f7×ak×f7):Option (List UInt8):=
 match cx with
 | (aze,i,b,c6,hr)=>
 if decide (i < (c6.cy.length:Int))=true then if ez i c6.cy.length=true then WE ((⟨b⟩:hI),hr.ev,ak.eta (c6.cy.getD i.toNat eJ)) >>=λEJ=>acH EJ >>=λJn=>if decide (aze.length+Jn.length<=Lh)=true then aeP (aze++Jn,e0 .i64 i 1,b,ak.eta c6,hr)
 else none
 else none
 else some aze
  partial_fixpoint
def aeQ(cx:List UInt8×Int×List f7×ak×f7):Option (List UInt8):=
 match cx with
 | (azf,G2,h5,N9,Su)=>
 if decide (G2 < (N9.cy.length:Int))=true then if ez G2 N9.eI.length=true then WE ((⟨h5⟩:hI),Su.Key,ak.eta (N9.eI.getD G2.toNat eJ)) >>=λS3=>acH S3 >>=λNy=>if decide (azf.length+Ny.length<=Lh)=true then some (azf++Ny) >>=λt144=>if ez G2 N9.cy.length=true then WE ((⟨h5⟩:hI),Su.ev,ak.eta (N9.cy.getD G2.toNat eJ)) >>=λOS=>acH OS >>=λNL=>if decide (t144.length+NL.length<=Lh)=true then aeQ (t144++NL,e0 .i64 G2 1,h5,ak.eta N9,Su)
 else none
 else none
 else none
 else none
 else some azf
  partial_fixpoint
def Pi(cx:List UInt8×Int×List f7×ak×f7):Option (List UInt8):=
 match cx with
 | (aog,id,QF,MZ,J5)=>
 if decide (id<=1000)=true then Tj (J5,id) >>=λVo=>if Vo.2=true then if ez Vo.1 J5.b8.length=true then some (J5.b8.getD Vo.1.toNat ii) >>=λas4=>some (!as4.nk) >>=λt175=>if(ez Vo.1 MZ.cy.length || (!(!t175)))=true then (if(!t175)=true then UE (ak.eta (MZ.cy.getD Vo.1.toNat eJ),ak.eta as4.j0)else some false) >>=λWj=>if(bif t175 then true else(!Wj))=true then if ez Vo.1 MZ.cy.length=true then WE ((⟨QF⟩:hI),as4.e2,ak.eta (MZ.cy.getD Vo.1.toNat eJ)) >>=λVp=>ak2 (id,as4.sJ,Vp) >>=λP0=>if decide (aog.length+P0.length<=Lh)=true then Ys (aog++P0,id,0,QF,ak.eta MZ,J5) >>=λMU=>Pi (MU.1,e0 .i64 MU.2.1 1,MU.2.2.1,ak.eta MU.2.2.2.1,MU.2.2.2.2)
 else none
 else none
 else Ys (aog,id,0,QF,ak.eta MZ,J5) >>=λJs=>Pi (Js.1,e0 .i64 Js.2.1 1,Js.2.2.1,ak.eta Js.2.2.2.1,Js.2.2.2.2)
 else none
 else none
 else Ys (aog,id,0,QF,ak.eta MZ,J5) >>=λiJ=>Pi (iJ.1,e0 .i64 iJ.2.1 1,iJ.2.2.1,ak.eta iJ.2.2.2.1,iJ.2.2.2.2)
 else some aog
  partial_fixpoint
end
theorem aiA :hp abz:= .m (by kernel_rfl)
theorem aQj :(∀h r,WE h=some r->tr abz h r)/\(∀h r,Pi h=some r->yJ 61 0 [2] amy h r)/\(∀h r,aeQ h=some r->yJ 61 0 [1] amx h r)/\(∀h r,aeP h=some r->yJ 61 0 [0] amw h r):=WE.mutual_partial_correctness (tr abz) (yJ 61 0 [2] amy) (yJ 61 0 [1] amx) (yJ 61 0 [0] amw)
 (λ_ _ _ _ h0 h1 ah b' _ _ h=>MB abz aiA (.k aCW (.k aQm (.k (yt abz aiA h0) (.k aun (.k acA .n))))) (.k (N4 amw b') (.k (N4 amx ah) (.k (N4 amy h1) .n))) (.trans (by kernel_rfl) h))
 (λ_ _ h0 h1 _ _ h=>N3 amy h1 (.k acA (.k apf (.k (yt abz aiA h0) (.k aC0 .n)))) (.k aO2 .n) (.trans (by kernel_rfl) h))
 (λ_ _ h0 ah _ _ h=>N3 amx ah (.k (yt abz aiA h0) (.k atB .n)) .n (.trans (by kernel_rfl) h))
 (λ_ _ h0 b' _ _ h=>N3 amw b' (.k (yt abz aiA h0) (.k atB .n)) .n (.trans (by kernel_rfl) h))
theorem aPQ :hF abz WE:= .of aiA aQj.1
mutual
def Yv(cx:hI×Int×ak):Option (Int):=
 match cx with
 | (s,t,v)=>
 if ez t s.Types.length=true then Qe (0,0,s.Types,ak.eta v,s.Types.getD t.toNat hz) >>=λo=>if decide (0 < (o.2.eI.length:Int))=true then some (e0 .i64 1 (Rz o.1 1))
 else some (e0 .i64 1 o.1)
 else none
  partial_fixpoint
def Qe(cx:Int×Int×List f7×ak×f7):Option (Int×ak):=
 match cx with
 | (below_1,i,c6,hr,h5)=>
 if decide (i < (hr.cy.length:Int))=true then if decide (h5.Kind=5)=true then if ez i h5.b8.length=true then some (h5.b8.getD i.toNat ii) >>=λu3=>if(ez i hr.cy.length || (!u3.nk))=true then (if u3.nk=true then UE (ak.eta (hr.cy.getD i.toNat eJ),ak.eta u3.j0)else some false) >>=λr=>if(bif u3.nk then r else false)=true then Qe (below_1,e0 .i64 i 1,c6,ak.eta hr,h5)
 else if decide (h5.Kind=6)=true then Tj (h5,hr.a8) >>=λh8=>if ez h8.1 h5.b8.length=true then if ez i hr.cy.length=true then Yv ((⟨c6⟩:hI),(h5.b8.getD h8.1.toNat ii).e2,ak.eta (hr.cy.getD i.toNat eJ)) >>=λrm=>Qe (Rz below_1 rm,e0 .i64 i 1,c6,ak.eta hr,h5)
 else none
 else none
 else if ez i hr.cy.length=true then Yv ((⟨c6⟩:hI),u3.e2,ak.eta (hr.cy.getD i.toNat eJ)) >>=λwm=>Qe (Rz below_1 wm,e0 .i64 i 1,c6,ak.eta hr,h5)
 else none
 else none
 else none
 else if decide (h5.Kind=6)=true then Tj (h5,hr.a8) >>=λK1=>if ez K1.1 h5.b8.length=true then if ez i hr.cy.length=true then Yv ((⟨c6⟩:hI),(h5.b8.getD K1.1.toNat ii).e2,ak.eta (hr.cy.getD i.toNat eJ)) >>=λMe=>Qe (Rz below_1 Me,e0 .i64 i 1,c6,ak.eta hr,h5)
 else none
 else none
 else if ez i hr.cy.length=true then Yv ((⟨c6⟩:hI),h5.ev,ak.eta (hr.cy.getD i.toNat eJ)) >>=λEJ=>Qe (Rz below_1 EJ,e0 .i64 i 1,c6,ak.eta hr,h5)
 else none
 else some (below_1,ak.eta hr)
  partial_fixpoint
end
theorem avN :hp aiB:= .m (by kernel_rfl)
theorem aPE :(∀h r,Yv h=some r->tr aiB h r)/\(∀h r,Qe h=some r->yJ 62 0 [0] amz h r):=Yv.mutual_partial_correctness (tr aiB) (yJ 62 0 [0] amz)
 (λ_ h1 _ _ h=>MB aiB avN .n (.k (N4 amz h1) .n) (.trans (by kernel_rfl) h))
 (λ_ _ h0 h1 _ _ h=>N3 amz h1 (.k apf (.k acA (.k (yt aiB avN h0) .n))) .n (.trans (by kernel_rfl) h))
theorem aQW :hF aiB Yv:= .of avN aPE.1
def ag9(cx:hI×Int×ak):Option (List UInt8×Int):=
 match cx with
 | (s,t,v)=>
 ak1 (s,t,ak.eta v) >>=λr=>if(!(decide (r=0)))=true then some ([],r)
 else WE (s,t,ak.eta v) >>=λh8=>some (decide (4096 < (h8.length:Int))) >>=λt23=>(if(!t23)=true then Yv (s,t,ak.eta v)else some 0) >>=λG'=>
 if(bif t23 then true else decide (200 < G'))=true then some ([],3)
 else some (h8,0)
theorem aNB :hp aBH:= .m (by kernel_rfl)
theorem aCX :hF aBH ag9:= .fn aNB (.k aRd (.k aPQ (.k aQW .n))) .n λ_=>by kernel_rfl
def ahA(cx:hI×Int×List UInt8):Option (List UInt8×Int):=
 match cx with
 | (s,t,m)=>
 ap0 (s,t,m) >>=λr=>if(!(decide (r.2=0)))=true then some ([],r.2)
 else ag9 (s,t,ak.eta r.1) >>=λn2=>some (n2.1,n2.2)
theorem aNx :hp aBr:= .m (by kernel_rfl)
theorem aPR :hF aBr ahA:= .fn aNx (.k aPv (.k aCX .n)) .n λ_=>by kernel_rfl
end
section
open Go Go.Proofs.YtijpinendaoleaaGreat.Shv
open Tryz
set_option maxRecDepth 100000
def RU(cx:Int×List f7×List Int×Bool):Option (Int×List f7×List Int×Bool):=
 match cx with
 | (n,b,c6,hr)=>
 if decide ((c6.length:Int)=0)=true then some (0,b,c6,hr)
 else if ez 0 c6.length=true then if(!(decide (n=0)))=true then if Jt 1 (c6.length:Int) c6.length=true then some (kt (jJ .i64 (c6.getD (0:Int).toNat 0)) n,b,Jp c6 1 (c6.length:Int),hr)
 else none
 else none
 else none
theorem aYc :hp aA':= .m (by kernel_rfl)
theorem aeO :hF aA' RU:= .fn aYc .n .n λ_=>by kernel_rfl
def aeL(cx:List UInt8×Int×List f7×List Int×Bool):Option (List UInt8×List f7×List Int×Bool):=
 match cx with
 | (Hr,n,QF,MZ,J5)=>
 if decide (0 < n)=true then RU (3,QF,MZ,J5) >>=λwm=>some (YC (jJ .i32 (e0 .i64 97 wm.1))) >>=λt21=>if decide (Hr.length+t21.length<=Lh)=true then aeL (Hr++t21,BJ .i64 n 1,wm.2.1,wm.2.2.1,wm.2.2.2)
 else none
 else some (Hr,QF,MZ,J5)
  partial_fixpoint
theorem aPl :sa 107 1 [0] aIx aeL:= .rc aeL.partial_correctness (.k aeO .n) .n λ_ _=>by kernel_rfl
def aph(cx:Int×List f7×List Int×Bool):Option (List UInt8×List f7×List Int×Bool):=
 match cx with
 | (most,b,c6,hr)=>
 RU (e0 .i64 (SU most 3) 1,b,c6,hr) >>=λr=>aeL ([],r.1,r.2.1,r.2.2.1,r.2.2.2) >>=λo=>some (o.1,o.2.1,o.2.2.1,o.2.2.2)
theorem aYd :hp aBa:= .m (by kernel_rfl)
theorem aP9 :hF aBa aph:= .fn aYd (.k aeO .n) (.k aPl .n) λ_=>by kernel_rfl
def ahx(cx:List f7×List Int×Bool):Option (Bool×List f7×List Int×Bool):=
 match cx with
 | (b,c6,hr)=>
 if hr=true then RU (4,b,c6,hr) >>=λr=>some (bif hr then decide (r.1=3)else false,r.2.1,r.2.2.1,r.2.2.2)
 else some (bif hr then false else false,b,c6,hr)
theorem aYe :hp aBb:= .m (by kernel_rfl)
theorem aQk :hF aBb ahx:= .fn aYe (.k aeO .n) .n λ_=>by kernel_rfl
def ap9(cx:f7×Int):Option (Bool):=
 match cx with
 | (t,n)=>
 Tj (t,n) >>=λr=>ag5 (t,n) >>=λn2=>some (bif r.2 then true else n2.2)
theorem aYf :hp aBx:= .m (by kernel_rfl)
theorem aQD :hF aBx ap9:= .fn aYf (.k acA (.k atw .n)) .n λ_=>by kernel_rfl
def ahv(cx:Int×List f7×List Int×Bool×f7):Option (Int×List f7×List Int×Bool):=
 match cx with
 | (PW,QF,MZ,J5,Ob)=>
 ap9 (Ob,PW) >>=λwm=>if wm=true then ahv (e0 .i64 PW 1,QF,MZ,J5,Ob)
 else some (PW,QF,MZ,J5)
  partial_fixpoint
theorem aPj :sa 109 1 [0] aIy ahv:= .rc ahv.partial_correctness (.k aQD .n) .n λ_ _=>by kernel_rfl
def acY(cx:f7×List f7×List Int×Bool):Option (Int×List f7×List Int×Bool):=
 match cx with
 | (t,b,c6,hr)=>
 RU (14,b,c6,hr) >>=λr=>ahv (e0 .i64 1 r.1,r.2.1,r.2.2.1,r.2.2.2,t) >>=λo=>some (o.1,o.2.1,o.2.2.1,o.2.2.2)
theorem aYg :hp aBc:= .m (by kernel_rfl)
theorem aPm :hF aBc acY:= .fn aYg (.k aeO .n) (.k aPj .n) λ_=>by kernel_rfl
def ahy(cx:Int×List f7×List Int×Bool):Option (pI×List f7×List Int×Bool):=
 match cx with
 | (n,b,c6,hr)=>
 some [[],[1],[97],[3,1,2]] >>=λt6=>RU (4,b,c6,hr) >>=λr=>if ez r.1 t6.length=true then some ((⟨n,t6.getD r.1.toNat []⟩:pI),r.2.1,r.2.2.1,r.2.2.2)
 else none
theorem aYh :hp aBe:= .m (by kernel_rfl)
theorem aQl :hF aBe ahy:= .fn aYh (.k aeO .n) .n λ_=>by kernel_rfl
def acD(cx:Int×ak×ak×ak×Int×Bool×Int×List UInt8×Int):Option (Int×ak×ak×ak×Int×Bool×Int×List UInt8×Int):=
 match cx with
 | (G2,J5,Ob,afA,afB,WZ,aik,Tq,W0)=>
 some (decide (G2 < (J5.eI.length:Int))) >>=λt12=>if(ez G2 J5.eI.length || (!t12))=true then (if t12=true then ZB (ak.eta (J5.eI.getD G2.toNat eJ),ak.eta Ob)else some 0) >>=λh8=>if(bif t12 then decide (h8 < 0)else false)=true then acD (e0 .i64 G2 1,ak.eta J5,ak.eta Ob,ak.eta afA,afB,WZ,aik,Tq,W0)
 else some (G2,ak.eta J5,ak.eta Ob,ak.eta afA,afB,WZ,aik,Tq,W0)
 else none
  partial_fixpoint
theorem aQX :sa 111 0 [0] aIz acD:= .rc acD.partial_correctness (.k api .n) .n λ_ _=>by kernel_rfl
def aqb(cx:ak×ak×ak):Option (ak):=
 match cx with
 | (v,key,item)=>
 acD (0,ak.eta v,ak.eta key,ak.eta item,0,false,0,[],0) >>=λo=>some (decide (o.1 < (o.2.1.eI.length:Int))) >>=λt29=>if(ez o.1 o.2.1.eI.length || (!t29))=true then (if t29=true then ZB (ak.eta (o.2.1.eI.getD o.1.toNat eJ),ak.eta o.2.2.1)else some 0) >>=λr=>if(bif t29 then decide (r=0)else false)=true then some (ak.eta o.2.1)
 else if Jt 0 o.1 o.2.1.eI.length=true then some (Jp o.2.1.eI 0 o.1) >>=λt45=>if room 120 ([]++t45).length=true then some ([]++t45) >>=λl=>some [ak.eta o.2.2.1] >>=λt48=>if room 120 (l++t48).length=true then some (l++t48) >>=λJW=>if Jt o.1 (o.2.1.eI.length:Int) o.2.1.eI.length=true then some (Jp o.2.1.eI o.1 (o.2.1.eI.length:Int)) >>=λt53=>if room 120 (JW++t53).length=true then if Jt 0 o.1 o.2.1.cy.length=true then some (Jp o.2.1.cy 0 o.1) >>=λt60=>if room 120 ([]++t60).length=true then some ([]++t60) >>=λJJ=>some [ak.eta o.2.2.2.1] >>=λt63=>if room 120 (JJ++t63).length=true then some (JJ++t63) >>=λLG=>if Jt o.1 (o.2.1.cy.length:Int) o.2.1.cy.length=true then some (Jp o.2.1.cy o.1 (o.2.1.cy.length:Int)) >>=λt68=>if room 120 (LG++t68).length=true then some (⟨o.2.1.Kind,o.2.1.oi,o.2.1.hX,o.2.1.js,o.2.1.a8,JW++t53,LG++t68,o.2.1.Rest⟩:ak)
 else none
 else none
 else none
 else none
 else none
 else none
 else none
 else none
 else none
 else none
 else none
theorem aYi :hp aBf:= .m (by kernel_rfl)
theorem aQn :hF aBf aqb:= .fn aYi (.k api .n) (.k aQX .n) λ_=>by kernel_rfl
mutual
def TU(cx:Int×List f7×List Int×Bool):Option (ak×List f7×List Int×Bool):=
 match cx with
 | (t,b,c6,hr)=>
 if ez t b.length=true then some (b.getD t.toNat hz) >>=λa'=>
 if decide (a'.Kind=1)=true then RU (2,b,c6,hr) >>=λr=>some ((⟨a'.Kind,decide (r.1=1),0,[],0,[],[],[]⟩:ak),r.2.1,r.2.2.1,r.2.2.2)
 else if decide (a'.Kind=2)=true then RU (256,b,c6,hr) >>=λwm=>some (e0 .i64 (BJ .i64 a'.hV a'.hU) 1) >>=λt51=>if(!(decide (t51=0)))=true then some ((⟨a'.Kind,false,e0 .i64 a'.hU (kt wm.1 t51),[],0,[],[],[]⟩:ak),wm.2.1,wm.2.2.1,wm.2.2.2)
 else none
 else if decide (a'.Kind=3)=true then aph (a'.Max,b,c6,hr) >>=λEJ=>some ((⟨a'.Kind,false,0,EJ.1,0,[],[],[]⟩:ak),EJ.2.1,EJ.2.2.1,EJ.2.2.2)
 else if decide (a'.Kind=4)=true then RU ((a'.hl.length:Int),b,c6,hr) >>=λNL=>if ez NL.1 a'.hl.length=true then some (a'.hl.getD NL.1.toNat I') >>=λu3=>if a'.Open=true then ahx (NL.2.1,NL.2.2.1,NL.2.2.2) >>=λVp=>if(bif a'.Open then Vp.1 else false)=true then acY (a',Vp.2.1,Vp.2.2.1,Vp.2.2.2) >>=λS4=>some ((⟨a'.Kind,false,0,[],S4.1,[],[],[]⟩:ak),S4.2.1,S4.2.2.1,S4.2.2.2)
 else some ((⟨a'.Kind,false,0,[],u3.a8,[],[],[]⟩:ak),Vp.2.1,Vp.2.2.1,Vp.2.2.2)
 else if(bif a'.Open then false else false)=true then acY (a',NL.2.1,NL.2.2.1,NL.2.2.2) >>=λasL=>some ((⟨a'.Kind,false,0,[],asL.1,[],[],[]⟩:ak),asL.2.1,asL.2.2.1,asL.2.2.2)
 else some ((⟨a'.Kind,false,0,[],u3.a8,[],[],[]⟩:ak),NL.2.1,NL.2.2.1,NL.2.2.2)
 else none
 else if decide (a'.Kind=5)=true then Yr (0,b,c6,hr,0,false,0,[],0,a'.Kind,a'.Name,a'.hU,a'.hV,a'.Max,a'.hl,a'.b8,a'.Key,a'.ev,a'.Open,a'.Kind,false,0,[],0,[]) >>=λo=>ahx (o.1,o.2.1,o.2.2.1) >>=λagI=>if agI.1=true then acY ((⟨o.2.2.2.2.2.2.2.2.1,o.2.2.2.2.2.2.2.2.2.1,o.2.2.2.2.2.2.2.2.2.2.1,o.2.2.2.2.2.2.2.2.2.2.2.1,o.2.2.2.2.2.2.2.2.2.2.2.2.1,o.2.2.2.2.2.2.2.2.2.2.2.2.2.1,o.2.2.2.2.2.2.2.2.2.2.2.2.2.2.1,o.2.2.2.2.2.2.2.2.2.2.2.2.2.2.2.1,o.2.2.2.2.2.2.2.2.2.2.2.2.2.2.2.2.1,o.2.2.2.2.2.2.2.2.2.2.2.2.2.2.2.2.2.1⟩:f7),agI.2.1,agI.2.2.1,agI.2.2.2) >>=λasN=>ahy (asN.1,asN.2.1,asN.2.2.1,asN.2.2.2) >>=λasO=>some ((⟨o.2.2.2.2.2.2.2.2.2.2.2.2.2.2.2.2.2.2.1,o.2.2.2.2.2.2.2.2.2.2.2.2.2.2.2.2.2.2.2.1,o.2.2.2.2.2.2.2.2.2.2.2.2.2.2.2.2.2.2.2.2.1,o.2.2.2.2.2.2.2.2.2.2.2.2.2.2.2.2.2.2.2.2.2.1,o.2.2.2.2.2.2.2.2.2.2.2.2.2.2.2.2.2.2.2.2.2.2.1,[],o.2.2.2.2.2.2.2.2.2.2.2.2.2.2.2.2.2.2.2.2.2.2.2,[asO.1]⟩:ak),asO.2.1,asO.2.2.1,asO.2.2.2)
 else some ((⟨o.2.2.2.2.2.2.2.2.2.2.2.2.2.2.2.2.2.2.1,o.2.2.2.2.2.2.2.2.2.2.2.2.2.2.2.2.2.2.2.1,o.2.2.2.2.2.2.2.2.2.2.2.2.2.2.2.2.2.2.2.2.1,o.2.2.2.2.2.2.2.2.2.2.2.2.2.2.2.2.2.2.2.2.2.1,o.2.2.2.2.2.2.2.2.2.2.2.2.2.2.2.2.2.2.2.2.2.2.1,[],o.2.2.2.2.2.2.2.2.2.2.2.2.2.2.2.2.2.2.2.2.2.2.2,[]⟩:ak),agI.2.1,agI.2.2.1,agI.2.2.2)
 else if decide (a'.Kind=6)=true then if a'.Open=true then ahx (b,c6,hr) >>=λagJ=>if(bif a'.Open then agJ.1 else false)=true then acY (a',agJ.2.1,agJ.2.2.1,agJ.2.2.2) >>=λaop=>ahy (aop.1,aop.2.1,aop.2.2.1,aop.2.2.2) >>=λasP=>some ((⟨a'.Kind,false,0,[],aop.1,[],[],[asP.1]⟩:ak),asP.2.1,asP.2.2.1,asP.2.2.2)
 else RU ((a'.b8.length:Int),agJ.2.1,agJ.2.2.1,agJ.2.2.2) >>=λYi=>if ez Yi.1 a'.b8.length=true then some (a'.b8.getD Yi.1.toNat ii) >>=λVv=>TU (Vv.e2,Yi.2.1,Yi.2.2.1,Yi.2.2.2) >>=λacb=>some ((⟨a'.Kind,false,0,[],Vv.a8,[],[ak.eta acb.1],[]⟩:ak),acb.2.1,acb.2.2.1,acb.2.2.2)
 else none
 else if(bif a'.Open then false else false)=true then acY (a',b,c6,hr) >>=λaoq=>ahy (aoq.1,aoq.2.1,aoq.2.2.1,aoq.2.2.2) >>=λZj=>some ((⟨a'.Kind,false,0,[],aoq.1,[],[],[Zj.1]⟩:ak),Zj.2.1,Zj.2.2.1,Zj.2.2.2)
 else RU ((a'.b8.length:Int),b,c6,hr) >>=λaor=>if ez aor.1 a'.b8.length=true then some (a'.b8.getD aor.1.toNat ii) >>=λS8=>TU (S8.e2,aor.2.1,aor.2.2.1,aor.2.2.2) >>=λasQ=>some ((⟨a'.Kind,false,0,[],S8.a8,[],[ak.eta asQ.1],[]⟩:ak),asQ.2.1,asQ.2.2.1,asQ.2.2.2)
 else none
 else if decide (a'.Kind=7)=true then RU (e0 .i64 (SU a'.Max 3) 1,b,c6,hr) >>=λasR=>acV (asR.1,asR.2.1,asR.2.2.1,asR.2.2.2,0,false,0,[],0,a'.Kind,a'.Name,a'.hU,a'.hV,a'.Max,a'.hl,a'.b8,a'.Key,a'.ev,a'.Open,a'.Kind,false,0,[],0,[]) >>=λha=>some ((⟨ha.2.2.2.2.2.2.2.2.1,ha.2.2.2.2.2.2.2.2.2.1,ha.2.2.2.2.2.2.2.2.2.2.1,ha.2.2.2.2.2.2.2.2.2.2.2.1,ha.2.2.2.2.2.2.2.2.2.2.2.2.1,[],ha.2.2.2.2.2.2.2.2.2.2.2.2.2,[]⟩:ak),ha.1,ha.2.1,ha.2.2.1)
 else if decide (a'.Kind=8)=true then RU (e0 .i64 (SU a'.Max 3) 1,b,c6,hr) >>=λasC=>acW (asC.1,asC.2.1,asC.2.2.1,asC.2.2.2,0,false,0,[],0,a'.Kind,a'.Name,a'.hU,a'.hV,a'.Max,a'.hl,a'.b8,a'.Key,a'.ev,a'.Open,a'.Kind,false,0,[],0,[],[],[]) >>=λfr=>some ((⟨fr.2.2.2.2.2.2.2.2.1,fr.2.2.2.2.2.2.2.2.2.1,fr.2.2.2.2.2.2.2.2.2.2.1,fr.2.2.2.2.2.2.2.2.2.2.2.1,fr.2.2.2.2.2.2.2.2.2.2.2.2.1,fr.2.2.2.2.2.2.2.2.2.2.2.2.2.1,fr.2.2.2.2.2.2.2.2.2.2.2.2.2.2.1,fr.2.2.2.2.2.2.2.2.2.2.2.2.2.2.2⟩:ak),fr.1,fr.2.1,fr.2.2.1)
 else RU (2,b,c6,hr) >>=λagG=>if decide (agG.1=1)=true then TU (a'.ev,agG.2.1,agG.2.2.1,agG.2.2.2) >>=λasD=>some ((⟨a'.Kind,false,0,[],0,[],[ak.eta asD.1],[]⟩:ak),asD.2.1,asD.2.2.1,asD.2.2.2)
 else some ((⟨a'.Kind,false,0,[],0,[],[],[]⟩:ak),agG.2.1,agG.2.2.1,agG.2.2.2)
 else none
  partial_fixpoint
def Yr(cx:Int×List f7×List Int×Bool×Int×Bool×Int×List UInt8×Int×Int×List UInt8×Int×Int×Int×List r'×List li×Int×Int×Bool×Int×Bool×Int×List UInt8×Int×List ak):Option (List f7×List Int×Bool×Int×Bool×Int×List UInt8×Int×Int×List UInt8×Int×Int×Int×List r'×List li×Int×Int×Bool×Int×Bool×Int×List UInt8×Int×List ak):=
 match cx with
 | (i,SA,SD,Q',TB,SE,Ub,Uc,Xa,XZ,X0,UT,UU,UW,Ud,Oa,UX,UY,UZ,U0,OG,U1,Ue,YO,U2)=>
 if decide (i < (Oa.length:Int))=true then if ez i Oa.length=true then some (Oa.getD i.toNat ii) >>=λZr=>if Zr.nk=true then RU (3,SA,SD,Q') >>=λagH=>if(bif Zr.nk then decide (agH.1=0)else false)=true then if ez i Oa.length=true then some [ak.eta (Oa.getD i.toNat ii).j0] >>=λt113=>if room 120 (U2++t113).length=true then Yr (e0 .i64 i 1,agH.2.1,agH.2.2.1,agH.2.2.2,TB,SE,Ub,Uc,Xa,XZ,X0,UT,UU,UW,Ud,Oa,UX,UY,UZ,U0,OG,U1,Ue,YO,U2++t113)
 else none
 else none
 else if ez i Oa.length=true then TU ((Oa.getD i.toNat ii).e2,agH.2.1,agH.2.2.1,agH.2.2.2) >>=λasE=>some [ak.eta asE.1] >>=λt126=>if room 120 (U2++t126).length=true then Yr (e0 .i64 i 1,asE.2.1,asE.2.2.1,asE.2.2.2,TB,SE,Ub,Uc,Xa,XZ,X0,UT,UU,UW,Ud,Oa,UX,UY,UZ,U0,OG,U1,Ue,YO,U2++t126)
 else none
 else none
 else if(bif Zr.nk then false else false)=true then if ez i Oa.length=true then some [ak.eta (Oa.getD i.toNat ii).j0] >>=λaLI=>if room 120 (U2++aLI).length=true then Yr (e0 .i64 i 1,SA,SD,Q',TB,SE,Ub,Uc,Xa,XZ,X0,UT,UU,UW,Ud,Oa,UX,UY,UZ,U0,OG,U1,Ue,YO,U2++aLI)
 else none
 else none
 else if ez i Oa.length=true then TU ((Oa.getD i.toNat ii).e2,SA,SD,Q') >>=λasF=>some [ak.eta asF.1] >>=λaLJ=>if room 120 (U2++aLJ).length=true then Yr (e0 .i64 i 1,asF.2.1,asF.2.2.1,asF.2.2.2,TB,SE,Ub,Uc,Xa,XZ,X0,UT,UU,UW,Ud,Oa,UX,UY,UZ,U0,OG,U1,Ue,YO,U2++aLJ)
 else none
 else none
 else none
 else some (SA,SD,Q',TB,SE,Ub,Uc,Xa,XZ,X0,UT,UU,UW,Ud,Oa,UX,UY,UZ,U0,OG,U1,Ue,YO,U2)
  partial_fixpoint
def acV(cx:Int×List f7×List Int×Bool×Int×Bool×Int×List UInt8×Int×Int×List UInt8×Int×Int×Int×List r'×List li×Int×Int×Bool×Int×Bool×Int×List UInt8×Int×List ak):Option (List f7×List Int×Bool×Int×Bool×Int×List UInt8×Int×Int×Bool×Int×List UInt8×Int×List ak):=
 match cx with
 | (n,adb,abr,abt,abu,abv,ade,adf,adg,afC,afD,afE,adh,ara,arb,arc,ard,ail,YP,ame,al2,al3,al4,al5,aij)=>
 if decide (0 < n)=true then TU (ail,adb,abr,abt) >>=λasG=>some [ak.eta asG.1] >>=λt193=>if room 120 (aij++t193).length=true then acV (BJ .i64 n 1,asG.2.1,asG.2.2.1,asG.2.2.2,abu,abv,ade,adf,adg,afC,afD,afE,adh,ara,arb,arc,ard,ail,YP,ame,al2,al3,al4,al5,aij++t193)
 else none
 else some (adb,abr,abt,abu,abv,ade,adf,adg,ame,al2,al3,al4,al5,aij)
  partial_fixpoint
def acW(cx:Int×List f7×List Int×Bool×Int×Bool×Int×List UInt8×Int×Int×List UInt8×Int×Int×Int×List r'×List li×Int×Int×Bool×Int×Bool×Int×List UInt8×Int×List ak×List ak×List pI):Option (List f7×List Int×Bool×Int×Bool×Int×List UInt8×Int×Int×Bool×Int×List UInt8×Int×List ak×List ak×List pI):=
 match cx with
 | (PW,al6,al7,al8,al9,al',ama,amb,amc,aq9,aq',amd,aNe,aNf,aNg,aNh,aAM,aAN,aNi,aAO,aAP,aAQ,aAR,aAS,aAT,aAU,aAV)=>
 if decide (0 < PW)=true then TU (aAM,al6,al7,al8) >>=λasH=>TU (aAN,asH.2.1,asH.2.2.1,asH.2.2.2) >>=λasI=>aqb ((⟨aAO,aAP,aAQ,aAR,aAS,aAT,aAU,aAV⟩:ak),ak.eta asH.1,ak.eta asI.1) >>=λad5=>acW (BJ .i64 PW 1,asI.2.1,asI.2.2.1,asI.2.2.2,al9,al',ama,amb,amc,aq9,aq',amd,aNe,aNf,aNg,aNh,aAM,aAN,aNi,ad5.Kind,ad5.oi,ad5.hX,ad5.js,ad5.a8,ad5.eI,ad5.cy,ad5.Rest)
 else some (al6,al7,al8,al9,al',ama,amb,amc,aAO,aAP,aAQ,aAR,aAS,aAT,aAU,aAV)
  partial_fixpoint
end
theorem aiD :hp abA:= .m (by kernel_rfl)
theorem aPn :(∀h r,TU h=some r->tr abA h r)/\(∀h r,acW h=some r->yJ 66 1 [2] amC h r)/\(∀h r,acV h=some r->yJ 66 1 [1] amB h r)/\(∀h r,Yr h=some r->yJ 66 1 [0] amA h r):=TU.mutual_partial_correctness (tr abA) (yJ 66 1 [2] amC) (yJ 66 1 [1] amB) (yJ 66 1 [0] amA)
 (λ_ _ _ _ h0 h1 ah b' _ _ h=>MB abA aiD (.k aeO (.k aP9 (.k aQk (.k aPm (.k aQl (.k (yt abA aiD h0) .n)))))) (.k (N4 amA b') (.k (N4 amB ah) (.k (N4 amC h1) .n))) (.trans (by kernel_rfl) h))
 (λ_ _ h0 h1 _ _ h=>N3 amC h1 (.k (yt abA aiD h0) (.k aQn .n)) .n (.trans (by kernel_rfl) h))
 (λ_ _ h0 ah _ _ h=>N3 amB ah (.k (yt abA aiD h0) .n) .n (.trans (by kernel_rfl) h))
 (λ_ _ h0 b' _ _ h=>N3 amA b' (.k aeO (.k (yt abA aiD h0) .n)) .n (.trans (by kernel_rfl) h))
theorem aDk :hF abA TU:= .of aiD aPn.1
def ap'(cx:hI×Int×List Int):Option (ak):=
 match cx with
 | (s,t,afI)=>
 some (SU 60 (afI.length:Int)) >>=λt12=>if Jt 0 t12 afI.length=true then TU (t,s.Types,Jp afI 0 t12,false) >>=λr=>some (ak.eta r.1)
 else none
theorem aNF :hp aBP:= .m (by kernel_rfl)
theorem aQE :hF aBP ap':= .fn aNF (.k aDk .n) .n λ_=>by kernel_rfl
def apW(cx:hI×Int×List Int):Option (ak):=
 match cx with
 | (s,t,afI)=>
 some (SU 60 (afI.length:Int)) >>=λt12=>if Jt 0 t12 afI.length=true then TU (t,s.Types,Jp afI 0 t12,true) >>=λr=>some (ak.eta r.1)
 else none
theorem aNV :hp aB5:= .m (by kernel_rfl)
theorem aPS :hF aB5 apW:= .fn aNV (.k aDk .n) .n λ_=>by kernel_rfl
def alf(d:WG):Option (hI×Int×ak×ak×Bool):=
 aaP d.S >>=λr=>if(!r.2)=true then some (r.1,0,(⟨0,false,0,[],0,[],[],[]⟩:ak),(⟨0,false,0,[],0,[],[],[]⟩:ak),false)
 else some (r.1.Types.length:Int) >>=λt26=>if(!(decide (t26=0)))=true then some (kt (jJ .i64 d.T) t26) >>=λt27=>ap' (r.1,t27,d.C) >>=λn2=>apW (r.1,t27,d.C) >>=λrm=>some (r.1,t27,ak.eta n2,ak.eta rm,true)
 else none
theorem aNz :hp aBt:= .m (by kernel_rfl)
theorem aRV :hF aBt alf:= .fn aNz (.k aDb (.k aQE (.k aPS .n))) .n λ_=>by kernel_rfl
end
section
open Go Go.Proofs.YtijpinendaoleaaGreat.Shv
open Tryz
set_option maxRecDepth 100000
set_option linter.all false

end
section
open Go Go.Proofs.YtijpinendaoleaaGreat.Shv
open Tryz
set_option maxRecDepth 100000
def PD(cx:List NE×Int×List x0):Option (List x0):=
 match cx with
 | (vv,i,c6)=>
 if(bif decide (i < (vv.length:Int))then decide (0 < (c6.length:Int))else false)=true then if ez i vv.length=true then some (vv.getD i.toNat ZC) >>=λa'=>
 some (c6.length:Int) >>=λt38=>if(!(decide (t38=0)))=true then some (kt (jJ .i64 a'.Node) t38) >>=λt39=>if ez t39 c6.length=true then if decide (t39.toNat < c6.length)=true then some (c6.getD t39.toNat hE).r1 >>=λt46=>if room 3 ([]++t46).length=true then some ([]++t46) >>=λJJ=>if decide (t39.toNat < c6.length)=true then if decide (t39.toNat=t39.toNat)=true then
 let aKM:=λTS=>
 some (kt a'.Kind 8) >>=λagM=>if decide (agM=0)=true then if decide (t39.toNat < c6.length)=true then some (BJ .u8 (e0 .u8 (c6.getD t39.toNat hE).A (kt a'.A 5)) 2) >>=λaoz=>if decide (t39.toNat < c6.length)=true then PD (vv,e0 .i64 i 1,(c6.set t39.toNat (⟨(c6.getD t39.toNat hE).Kind,aoz,(c6.getD t39.toNat hE).B,(c6.getD t39.toNat hE).C,(c6.getD t39.toNat hE).r1⟩:x0)).set t39.toNat (⟨((c6.set t39.toNat (⟨(c6.getD t39.toNat hE).Kind,aoz,(c6.getD t39.toNat hE).B,(c6.getD t39.toNat hE).C,(c6.getD t39.toNat hE).r1⟩:x0)).getD t39.toNat hE).Kind,((c6.set t39.toNat (⟨(c6.getD t39.toNat hE).Kind,aoz,(c6.getD t39.toNat hE).B,(c6.getD t39.toNat hE).C,(c6.getD t39.toNat hE).r1⟩:x0)).getD t39.toNat hE).A,((c6.set t39.toNat (⟨(c6.getD t39.toNat hE).Kind,aoz,(c6.getD t39.toNat hE).B,(c6.getD t39.toNat hE).C,(c6.getD t39.toNat hE).r1⟩:x0)).getD t39.toNat hE).B,((c6.set t39.toNat (⟨(c6.getD t39.toNat hE).Kind,aoz,(c6.getD t39.toNat hE).B,(c6.getD t39.toNat hE).C,(c6.getD t39.toNat hE).r1⟩:x0)).getD t39.toNat hE).C,JJ⟩:x0))
 else none
 else none
 else if decide (agM=1)=true then if decide (t39.toNat < c6.length)=true then some (BJ .u8 (e0 .u8 (c6.getD t39.toNat hE).B (kt a'.B 5)) 2) >>=λaoB=>if decide (t39.toNat < c6.length)=true then PD (vv,e0 .i64 i 1,(c6.set t39.toNat (⟨(c6.getD t39.toNat hE).Kind,(c6.getD t39.toNat hE).A,aoB,(c6.getD t39.toNat hE).C,(c6.getD t39.toNat hE).r1⟩:x0)).set t39.toNat (⟨((c6.set t39.toNat (⟨(c6.getD t39.toNat hE).Kind,(c6.getD t39.toNat hE).A,aoB,(c6.getD t39.toNat hE).C,(c6.getD t39.toNat hE).r1⟩:x0)).getD t39.toNat hE).Kind,((c6.set t39.toNat (⟨(c6.getD t39.toNat hE).Kind,(c6.getD t39.toNat hE).A,aoB,(c6.getD t39.toNat hE).C,(c6.getD t39.toNat hE).r1⟩:x0)).getD t39.toNat hE).A,((c6.set t39.toNat (⟨(c6.getD t39.toNat hE).Kind,(c6.getD t39.toNat hE).A,aoB,(c6.getD t39.toNat hE).C,(c6.getD t39.toNat hE).r1⟩:x0)).getD t39.toNat hE).B,((c6.set t39.toNat (⟨(c6.getD t39.toNat hE).Kind,(c6.getD t39.toNat hE).A,aoB,(c6.getD t39.toNat hE).C,(c6.getD t39.toNat hE).r1⟩:x0)).getD t39.toNat hE).C,JJ⟩:x0))
 else none
 else none
 else if decide (agM=2)=true then if decide (t39.toNat < c6.length)=true then some (kt a'.A 6) >>=λaLK=>if decide (0<=aLK)=true then some (agS .u8 (c6.getD t39.toNat hE).A (Zm .u8 1 aLK)) >>=λaoC=>if decide (t39.toNat < c6.length)=true then PD (vv,e0 .i64 i 1,(c6.set t39.toNat (⟨(c6.getD t39.toNat hE).Kind,aoC,(c6.getD t39.toNat hE).B,(c6.getD t39.toNat hE).C,(c6.getD t39.toNat hE).r1⟩:x0)).set t39.toNat (⟨((c6.set t39.toNat (⟨(c6.getD t39.toNat hE).Kind,aoC,(c6.getD t39.toNat hE).B,(c6.getD t39.toNat hE).C,(c6.getD t39.toNat hE).r1⟩:x0)).getD t39.toNat hE).Kind,((c6.set t39.toNat (⟨(c6.getD t39.toNat hE).Kind,aoC,(c6.getD t39.toNat hE).B,(c6.getD t39.toNat hE).C,(c6.getD t39.toNat hE).r1⟩:x0)).getD t39.toNat hE).A,((c6.set t39.toNat (⟨(c6.getD t39.toNat hE).Kind,aoC,(c6.getD t39.toNat hE).B,(c6.getD t39.toNat hE).C,(c6.getD t39.toNat hE).r1⟩:x0)).getD t39.toNat hE).B,((c6.set t39.toNat (⟨(c6.getD t39.toNat hE).Kind,aoC,(c6.getD t39.toNat hE).B,(c6.getD t39.toNat hE).C,(c6.getD t39.toNat hE).r1⟩:x0)).getD t39.toNat hE).C,JJ⟩:x0))
 else none
 else none
 else none
 else if decide (agM=3)=true then if decide (t39.toNat < c6.length)=true then some (e0 .u8 (c6.getD t39.toNat hE).C a'.A) >>=λaoD=>if decide (t39.toNat < c6.length)=true then PD (vv,e0 .i64 i 1,(c6.set t39.toNat (⟨(c6.getD t39.toNat hE).Kind,(c6.getD t39.toNat hE).A,(c6.getD t39.toNat hE).B,aoD,(c6.getD t39.toNat hE).r1⟩:x0)).set t39.toNat (⟨((c6.set t39.toNat (⟨(c6.getD t39.toNat hE).Kind,(c6.getD t39.toNat hE).A,(c6.getD t39.toNat hE).B,aoD,(c6.getD t39.toNat hE).r1⟩:x0)).getD t39.toNat hE).Kind,((c6.set t39.toNat (⟨(c6.getD t39.toNat hE).Kind,(c6.getD t39.toNat hE).A,(c6.getD t39.toNat hE).B,aoD,(c6.getD t39.toNat hE).r1⟩:x0)).getD t39.toNat hE).A,((c6.set t39.toNat (⟨(c6.getD t39.toNat hE).Kind,(c6.getD t39.toNat hE).A,(c6.getD t39.toNat hE).B,aoD,(c6.getD t39.toNat hE).r1⟩:x0)).getD t39.toNat hE).B,((c6.set t39.toNat (⟨(c6.getD t39.toNat hE).Kind,(c6.getD t39.toNat hE).A,(c6.getD t39.toNat hE).B,aoD,(c6.getD t39.toNat hE).r1⟩:x0)).getD t39.toNat hE).C,JJ⟩:x0))
 else none
 else none
 else if decide (agM=4)=true then if decide (t39.toNat=t39.toNat)=true then if decide ((JJ.length:Int) < 8)=true then if decide (t39.toNat=t39.toNat)=true then some [(⟨a'.A,a'.B,MV .u8 a'.A 12⟩:XL)] >>=λaoE=>if room 3 (JJ++aoE).length=true then if decide (t39.toNat=t39.toNat)=true then PD (vv,e0 .i64 i 1,c6.set t39.toNat (⟨(c6.getD t39.toNat hE).Kind,(c6.getD t39.toNat hE).A,(c6.getD t39.toNat hE).B,(c6.getD t39.toNat hE).C,JJ++aoE⟩:x0))
 else none
 else none
 else none
 else PD (vv,e0 .i64 i 1,c6.set t39.toNat (⟨(c6.getD t39.toNat hE).Kind,(c6.getD t39.toNat hE).A,(c6.getD t39.toNat hE).B,(c6.getD t39.toNat hE).C,JJ⟩:x0))
 else none
 else if decide (agM=5)=true then if decide (t39.toNat=t39.toNat)=true then if decide (0 < (JJ.length:Int))=true then if decide (t39.toNat=t39.toNat)=true then if Jt 0 TS JJ.length=true then if decide (t39.toNat=t39.toNat)=true then some (e0 .i64 TS 1) >>=λajJ=>if Jt ajJ (JJ.length:Int) JJ.length=true then if(decide (TS.toNat+((JJ.length:Int).toNat - ajJ.toNat)<=JJ.length) && decide (ajJ.toNat+((JJ.length:Int).toNat - ajJ.toNat)<=JJ.length))=true then if decide (t39.toNat=t39.toNat)=true then PD (vv,e0 .i64 i 1,c6.set t39.toNat (⟨(c6.getD t39.toNat hE).Kind,(c6.getD t39.toNat hE).A,(c6.getD t39.toNat hE).B,(c6.getD t39.toNat hE).C,JJ.take TS.toNat++(JJ.drop ajJ.toNat).take ((JJ.length:Int).toNat - ajJ.toNat)⟩:x0))
 else none
 else none
 else none
 else none
 else none
 else none
 else PD (vv,e0 .i64 i 1,c6.set t39.toNat (⟨(c6.getD t39.toNat hE).Kind,(c6.getD t39.toNat hE).A,(c6.getD t39.toNat hE).B,(c6.getD t39.toNat hE).C,JJ⟩:x0))
 else none
 else if decide (agM=6)=true then if decide (t39.toNat=t39.toNat)=true then if decide (0 < (JJ.length:Int))=true then if decide (t39.toNat=t39.toNat)=true then if ez TS JJ.length=true then if decide (TS.toNat < JJ.length)=true then PD (vv,e0 .i64 i 1,c6.set t39.toNat (⟨(c6.getD t39.toNat hE).Kind,(c6.getD t39.toNat hE).A,(c6.getD t39.toNat hE).B,(c6.getD t39.toNat hE).C,JJ.set TS.toNat (⟨(JJ.getD TS.toNat RZ).a8,(JJ.getD TS.toNat RZ).e2,a'.B⟩:XL)⟩:x0))
 else none
 else none
 else none
 else PD (vv,e0 .i64 i 1,c6.set t39.toNat (⟨(c6.getD t39.toNat hE).Kind,(c6.getD t39.toNat hE).A,(c6.getD t39.toNat hE).B,(c6.getD t39.toNat hE).C,JJ⟩:x0))
 else none
 else if decide (t39.toNat=t39.toNat)=true then if decide (0 < (JJ.length:Int))=true then if decide (t39.toNat=t39.toNat)=true then if decide (t39.toNat=t39.toNat)=true then if ez TS JJ.length=true then if decide (TS.toNat < JJ.length)=true then if ez TS JJ.length=true then if decide (TS.toNat < JJ.length)=true then PD (vv,e0 .i64 i 1,c6.set t39.toNat (⟨(c6.getD t39.toNat hE).Kind,(c6.getD t39.toNat hE).A,(c6.getD t39.toNat hE).B,(c6.getD t39.toNat hE).C,JJ.set TS.toNat (⟨(JJ.getD TS.toNat RZ).a8,e0 .u8 (JJ.getD TS.toNat RZ).e2 a'.B,(JJ.getD TS.toNat RZ).OV⟩:XL)⟩:x0))
 else none
 else none
 else none
 else none
 else none
 else none
 else PD (vv,e0 .i64 i 1,c6.set t39.toNat (⟨(c6.getD t39.toNat hE).Kind,(c6.getD t39.toNat hE).A,(c6.getD t39.toNat hE).B,(c6.getD t39.toNat hE).C,JJ⟩:x0))
 else none
 if decide (0 < (JJ.length:Int))=true then if decide (t39.toNat=t39.toNat)=true then some (JJ.length:Int) >>=λt63=>if(!(decide (t63=0)))=true then some (kt (jJ .i64 a'.A) t63) >>=λt64=>aKM t64
 else none
 else none
 else aKM 0
 else none
 else none
 else none
 else none
 else none
 else none
 else none
 else some c6
  partial_fixpoint
theorem aP' :sa 20 0 [0] aBJ PD:= .rc PD.partial_correctness .n .n λ_ _=>by kernel_rfl
def apX(cx:JA×List NE):Option (JA):=
 match cx with
 | (d,l)=>
 if room 32 ([]++d.Jv).length=true then PD (l,0,[]++d.Jv) >>=λo=>some (⟨o⟩:JA)
 else none
theorem aNC :hp aBI:= .m (by kernel_rfl)
theorem aPT :hF aBI apX:= .fn aNC .n (.k aP' .n) λ_=>by kernel_rfl
def acL(cx:List JM×List UInt8×List JM×Int×Int):Option ((List UInt8×Int×Int) ⊕ (List JM×List UInt8)):=
 match cx with
 | (vv,anR,t11,aed,t13)=>
 if decide (t13 < aed)=true then if ez t13 t11.length=true then some (t11.getD t13.toNat XQ) >>=λa'=>
 ahi (a'.PG,a'.e2,anR) >>=λr=>if(!(decide (r.2=0)))=true then some (.inl ([],t13,r.2))
 else acL (vv,r.1,t11,aed,e0 .i64 t13 1)
 else none
 else some (.inr (vv,anR))
  partial_fixpoint
theorem aRW :sa 21 0 [0] aBM acL:= .rc acL.partial_correctness (.k aSe .n) .n λ_ _=>by kernel_rfl
def akJ(cx:List JM×List UInt8):Option (List UInt8×Int×Int):=
 match cx with
 | (l,m)=>
 acL (l,m,l,(l.length:Int),0) >>=λo=>match o with
 | .inl ha=>
 some (ha.1,ha.2.1,ha.2.2)
 | .inr fr=>
 some (fr.2,(fr.1.length:Int),0)
theorem aND :hp aBK:= .m (by kernel_rfl)
theorem aRL :hF aBK akJ:= .fn aND .n (.k aRW .n) λ_=>by kernel_rfl
def acB(cx:List JM×List UInt8×Int):Option ((List UInt8×Int×Int) ⊕ (List JM×List UInt8)):=
 match cx with
 | (vv,anR,i)=>
 if decide (i < (vv.length:Int))=true then if ez i vv.length=true then if ez i vv.length=true then ahA ((vv.getD i.toNat XQ).PG,(vv.getD i.toNat XQ).e2,anR) >>=λr=>if(!(decide (r.2=0)))=true then some (.inl ([],i,r.2))
 else acB (vv,r.1,e0 .i64 i 1)
 else none
 else none
 else some (.inr (vv,anR))
  partial_fixpoint
theorem aPF :sa 22 0 [0] aBO acB:= .rc acB.partial_correctness (.k aPR .n) .n λ_ _=>by kernel_rfl
def ap6(cx:List JM×List UInt8):Option (List UInt8×Int×Int):=
 match cx with
 | (l,m)=>
 acB (l,m,0) >>=λo=>match o with
 | .inl ha=>
 some (ha.1,ha.2.1,ha.2.2)
 | .inr fr=>
 some (fr.2,(fr.1.length:Int),0)
theorem aNE :hp aBN:= .m (by kernel_rfl)
theorem aRe :hF aBN ap6:= .fn aNE .n (.k aPF .n) λ_=>by kernel_rfl
def acZ(cx:Int×List UInt8×List (List NE)×Int×Int×aaM×List JM×List JM):Option (List UInt8×List JM×List JM):=
 match cx with
 | (t,aKR,t57,aoG,t59,hr,h5,N9)=>
 if decide (t59 < aoG)=true then if ez t59 t57.length=true then apX (hr.D.S,t57.getD t59.toNat []) >>=λazr=>aaP azr >>=λXt=>some [(⟨Xt.1,t⟩:JM)] >>=λt76=>if room 32 (h5++t76).length=true then some [(⟨Xt.1,t⟩:JM),(⟨Xt.1,t⟩:JM)] >>=λt85=>if room 32 (N9++t85).length=true then acZ (t,aKR,t57,aoG,e0 .i64 t59 1,hr,h5++t76,N9++t85)
 else none
 else none
 else none
 else some (aKR,h5,N9)
  partial_fixpoint
theorem aOX :sa 5 0 [0] aB7 acZ:= .rc acZ.partial_correctness (.k aPT (.k aDb .n)) .n λ_ _=>by kernel_rfl
def alj(a':aaM):Option (Bool):=
 alf a'.D >>=λr=>akZ () >>=λK1=>if(bif bif (!K1)then true else(!r.2.2.2.2)then true else decide (4 < (a'.RP.length:Int)))=true then akZ () >>=λK3=>some K3
 else ag9 (r.1,r.2.1,ak.eta r.2.2.2.1) >>=λOC=>if(!(decide (OC.2=0)))=true then some true
 else acZ (r.2.1,OC.1,a'.RP,(a'.RP.length:Int),0,a',[],[]) >>=λo=>akJ (o.2.1,o.1) >>=λJn=>ap6 (o.2.1,o.1) >>=λNL=>if(bif bif (!(decide (Jn.1=NL.1)))then true else(!(decide (Jn.2.1=NL.2.1)))then true else(!(decide (Jn.2.2=NL.2.2))))=true then some false
 else akJ (o.2.2,o.1) >>=λWj=>some (bif bif decide (Wj.2.2=Jn.2.2)then decide (Wj.1=Jn.1)else false then bif bif decide (Jn.2.2=0)then decide (Wj.2.1=Nv .i64 2 Jn.2.1)else false then true else bif (!(decide (Jn.2.2=0)))then decide (Wj.2.1=Nv .i64 2 Jn.2.1)else false else false)
theorem aN0 :hp QH:= .m (by kernel_rfl)
theorem aX8 :hF QH alj:= .fn aN0 (.k aRV (.k aQ1 (.k aCX (.k aRL (.k aRe .n))))) (.k aOX .n) λ_=>by kernel_rfl
end
section
open Go Go.Proofs.YtijpinendaoleaaGreat.Shv
set_option maxRecDepth 100000
def Pn(s:List UInt8):Nat->Nat->Nat->Int×Int×Int
 | 0,_,_=>(0,0,10)
 | f+1,i,n=>
  if i < s.length then if i=9/\1 < (s.getD i 0).toNat then(0,0,7)
   else if 128<=(s.getD i 0).toNat then Pn s f (i+1) (n+((s.getD i 0).toNat % 128)*2 ^ (7*i))
   else if(s.getD i 0).toNat=0/\0 < i then(0,0,2)
   else(((n+(s.getD i 0).toNat*2 ^ (7*i):Nat):Int),((i+1:Nat):Int),0)
  else(0,0,10)
theorem aLg{i:Nat}(h:i<=9):2 ^ (7*i)<=9223372036854775808:=by
 have:2 ^ (7*i)<=2 ^ 63:=ajr (by omega) (by omega);omega
theorem aLh(i:Nat):2 ^ (7*(i+1))=2 ^ (7*i)*128:=by rw[Nat.mul_add,Nat.pow_add]
theorem azP{n i b:Nat}(dy:n < 2 ^ (7*i)):n+(b % 128)*2 ^ (7*i) < 2 ^ (7*(i+1)):=by
 rw[aLh];have:b % 128*2 ^ (7*i)<=127*2 ^ (7*i):=K0 _ (by omega);omega
theorem amL{n i b:Nat}(ay:i<=9)(dy:n < 2 ^ (7*i))(al:b < 128)(Uh:i=9->b<=1):b*2 ^ (7*i) < 18446744073709551616/\n+b*2 ^ (7*i) < 18446744073709551616:=by
 rcases Nat.lt_or_ge i 9 with h | h
 . have:2 ^ (7*i)<=2 ^ 56:=ajr (by omega) (by omega);have e:(2:Nat) ^ 56=72057594037927936:=by decide
   have:b*2 ^ (7*i)<=127*2 ^ (7*i):=K0 _ (by omega);omega
 grind
theorem aIe(s:List UInt8):∀(f i n:Nat),i+f=10->n < 2 ^ (7*i)->∃o,aeG (s,(n:Int),((min 10 s.length:Nat):Int),(i:Int))=some o/\(match o with | .inl x=>x | .inr _=>(0,0,10))=Pn s f i n
 | 0,i,n,h,dy=>by
  refine⟨.inr (),?_,rfl⟩;rw[aeG]
  grind
 | f+1,i,n,h,dy=>by
  rw[aeG];simp only[Pn,g',cm,acR];by_cases ay:i < s.length
  . have al:=akr s i;generalize (s.getD i 0).toNat=b at al ⊢;rw[ao (by simp;omega),ao (gA ay),ao ay];have hm:Nv .i64 7 (i:Int)=((7*i:Nat):Int):=by rw[aIJ (by omega) (by omega)];norm_cast
    rw[hm];have ga:decide ((0:Int)<=((7*i:Nat):Int))=true:=by simp;omega
    by_cases Uh:i=9/\1 < b
    . rw[ao Uh,ao (by obtain⟨h1,ah⟩:=Uh;subst h1;simp;omega)]
      grind
    . rw[aJ Uh,aJ (by grind)];by_cases adv:128<=b
      . rw[ao adv,ao (by simp;omega),ao ga];have axw:i=9->False:=λh1=>Uh ⟨h1,by omega⟩
        have ec:b % 128 < 128:=an9 _ (by omega);have cJ:=amL (i:=i) (n:=n) (b:=b % 128) (by omega) dy ec (λh1=>(axw h1).elim);rw[aV1 al,Q2 (by omega),aG3 (by omega) cJ.1,aHV (by have:=aLg (i:=i) (by omega);omega) cJ.1,aII dy,j2 (by omega)];exact aIe s f (i+1) (n+b % 128*2 ^ (7*i)) (by omega) (azP dy)
      . rw[aJ adv,aJ (by simp;omega)];by_cases h0:b=0/\0 < i
        . simp_all
        . rw[aJ h0,aJ (by grind),ao ga];have cJ:=amL (i:=i) (n:=n) (b:=b) (by omega) dy (by omega) (λh1=>by omega);rw[Q2 (by omega),aG3 (by omega) cJ.1,aHV (by have:=aLg (i:=i) (by omega);omega) cJ.1,aII dy,j2 (by omega)]
          grind
  . rw[aJ (by simp;omega),aJ ay]
    grind
theorem aJa(s:List UInt8):apy s=some (Pn s 10 0 0):=by
 obtain⟨o,h1,ah⟩:=aIe s 10 0 0 rfl (by decide);rw[apy];have:SU 10 (s.length:Int)=((min 10 s.length:Nat):Int):=awi 10 s.length
 grind
theorem aFy(s:List UInt8):∀(f i n:Nat),i<=s.length->i+f=10->n < 2 ^ (7*i)->∃o,aeZ (s,(n:Int),(if i < 10 then((2 ^ (7*i):Nat):Int)else Nv .u64 ((2 ^ (7*9):Nat):Int) 128),(i:Int))=some o/\(i < 10->(match o with | .inl x=>x | .inr _=>(0,0,7))=Pn s f i n)
 | 0,i,n,OK,h,dy=>by
  refine⟨.inr (),?_,λrz=>by omega⟩;rw[aeZ]
  grind
 | f+1,i,n,OK,h,dy=>by
  rw[aeZ];simp only[Pn,g',cm,acR];rw[ao (show decide ((i:Int) < 10)=true by simp;omega),ao (show i < 10 by omega)];by_cases ay:i < s.length
  . have al:=akr s i;generalize (s.getD i 0).toNat=b at al ⊢;rw[aJ (by simp;omega),ao (gA ay),ao ay,Q2 (by omega)];by_cases Uh:i=9/\1 < b
    . rw[ao Uh,ao (by obtain⟨h1,ah⟩:=Uh;subst h1;simp;omega)]
      grind
    . rw[aJ Uh,aJ (by grind)];have X7:kt (b:Int) 128=((b % 128:Nat):Int):=aot (b:=128);have ec:b % 128 < 128:=an9 _ (by omega);by_cases adv:128<=b
      . rw[ao adv,aJ (by simp;omega)];have axw:i=9->False:=λh1=>Uh ⟨h1,by omega⟩
        have cJ:=amL (i:=i) (n:=n) (b:=b % 128) (by omega) dy ec (λh1=>(axw h1).elim);rw[X7,agq cJ.1,afx cJ.2,j2 (by omega)];obtain⟨o,h1,ah⟩:=aFy s f (i+1) (n+b % 128*2 ^ (7*i)) (by omega) (by omega) (azP dy);have hu:Nv .u64 ((2 ^ (7*i):Nat):Int) 128=((2 ^ (7*(i+1)):Nat):Int):=by
         have:=agq (a:=2 ^ (7*i)) (b:=128) (by
          have:2 ^ (7*i)<=2 ^ 56:=ajr (by omega) (by omega)
          omega)
         grind
        grind
      . rw[aJ adv,ao (by simp;omega)];have ax':b % 128=b:=aak (by omega);have cJ:=amL (i:=i) (n:=n) (b:=b) (by omega) dy (by omega) (λh1=>by omega);by_cases h0:b=0/\0 < i
        . simp_all
        . rw[aJ h0,aJ (by grind)];rw[X7,ax',agq cJ.1,afx cJ.2,j2 (by omega)]
          grind
  . rw[ao (by simp;omega),aJ ay]
    grind
theorem awT(s:List UInt8):ahd s=some (Pn s 10 0 0):=by
 obtain⟨o,h1,ah⟩:=aFy s 10 0 0 (by omega) rfl (by decide);rw[ahd]
 grind
theorem aGn(s:List UInt8):∀(f i n:Nat),i<=s.length->i+f=10->n < 2 ^ (7*i)->(∃e:Int,e≠0/\Pn s f i n=(0,0,e))\/∃m k:Nat,Pn s f i n=((m:Int),(k:Int),0)/\i < k/\k<=s.length/\m < 18446744073709551616
 | 0,i,n,OK,h,dy=>.inl ⟨10,by decide,rfl⟩
 | f+1,i,n,OK,h,dy=>by
  simp only[Pn];have al:=akr s i;generalize (s.getD i 0).toNat=b at al ⊢;by_cases ay:i < s.length
  . rw[ao ay];by_cases Uh:i=9/\1 < b
    . simp_all
    . rw[aJ Uh];by_cases adv:128<=b
      . rw[ao adv];rcases aGn s f (i+1) (n+b % 128*2 ^ (7*i)) (by omega) (by omega) (azP dy)with h | ⟨m,k,h1,ah,b',ea⟩
        . exact .inl h
        grind
      . rw[aJ adv];by_cases h0:b=0/\0 < i
        . simp_all
        . rw[aJ h0];have cJ:=amL (i:=i) (n:=n) (b:=b) (by omega) dy (by omega) (λh1=>by omega);exact .inr ⟨_,i+1,rfl,by omega,by omega,cJ.2⟩
  . rw[aJ ay];exact .inl ⟨10,by decide,rfl⟩
theorem Xw(s:List UInt8):(∃e:Int,e≠0/\Pn s 10 0 0=(0,0,e))\/∃m k:Nat,Pn s 10 0 0=((m:Int),(k:Int),0)/\0 < k/\k<=s.length/\m < 18446744073709551616:=
 aGn s 10 0 0 (by omega) rfl (by decide)
theorem ZO{s:List UInt8}{e:Int}(he:e≠0)(h:Pn s 10 0 0=(0,0,e)):acO s=some (0,[],false):=by
 rw[acO,aJa,h]
 grind
theorem XI{s:List UInt8}{m k:Nat}(h:Pn s 10 0 0=((m:Int),(k:Int),0))(hk:k<=s.length):acO s=some ((m:Int),s.drop k,true):=by
 rw[acO,aJa,h];simp only[g',cm];rw[aJ (by simp),ao (TY hk (JK _)),ZN]
def ID :Option (List UInt8×List UInt8)->List UInt8×List UInt8×Bool
 | none=>([],[],false)
 | some (a,b)=>(a,b,true)
def Q1(s:List UInt8):Option (List UInt8×List UInt8):=
 match Pn s 10 0 0 with
 | (m,k,e)=>if e=0/\m.toNat+k.toNat<=s.length then some ((s.drop k.toNat).take m.toNat,(s.drop k.toNat).drop m.toNat)else none
theorem ZK{s a b:List UInt8}(h:Q1 s=some (a,b)):a.length+b.length < s.length:=by
 unfold Q1 at h;rcases Xw s with⟨e,he,cv⟩ | ⟨m,k,cv,O',hk,hm⟩
 . grind
 grind
theorem XP{s:List UInt8}(hs:s.length<=1000000):akI s=some (ID (Q1 s)):=by
 rw[akI];unfold Q1;rcases Xw s with⟨e,he,cv⟩ | ⟨m,k,cv,O',hk,hm⟩
 . rw[ZO he cv,cv];simp[he,ID]
 . rw[XI cv hk,cv];simp only[g',cm,aaj,adT,Yd];rw[Q2 (by omega)];by_cases hle:m+k<=s.length
   . rw[aJ (by simp;omega),ao (show Jt 0 (m:Int) (s.length - k)=true from TY (a:=0) (by omega) (by omega)),ao (TY (by omega) (JK _)),ao hle];have:((s.length - k:Nat):Int)=((s.drop k).length:Int):=by simp
     rw[this,ZN,afu];rfl
   . rw[ao (by simp;omega),aJ hle];rfl
theorem aJb{s:List UInt8}(hs:s.length<=1000000):ak9 s=some (ID (Q1 s)):=by
 rw[ak9,awT];unfold Q1;rcases Xw s with⟨e,he,cv⟩ | ⟨m,k,cv,O',hk,hm⟩
 . rw[cv];simp[he,ID]
 . rw[cv];simp only[g',cm,aaj,adT];have L6:BJ .i64 (s.length:Int) (k:Int)=((s.length - k:Nat):Int):=by rw[Q7 (by omega) (by omega)];omega
   rw[L6,Q2 (by omega)];by_cases hle:m+k<=s.length
   . rw[aJ (by simp;omega),ao hle];have hw:jJ .i64 (m:Int)=(m:Int):=TQ (by omega) (by omega);rw[hw,aqr (by omega),ao (TY (by omega) (by omega)),ao (TY (by omega) (JK _)),ZN];have:Jp s (k:Int) ((k+m:Nat):Int)=(s.drop k).take m:=by
      unfold Jp;rw[aaj,aaj,List.drop_take]
      grind
     rw[this,an3];rfl
   . rw[ao (by simp;omega),aJ hle];rfl
theorem awj :∀(n:Nat) (s:List UInt8) (b:List (List UInt8)),s.length<=n->s.length+b.length<=100000->∃o,Py (s,b)=some o/\∀l,o= .inr l->l.length<=s.length+b.length:=by
 intro n
 induction n with
 | zero=>
  intro s b h1 ah;have:s=[]:=Uu (by omega);subst this;refine⟨.inr b,?_,λl a6=>by cases a6;omega⟩;rw[Py];rw[aJ (by simp)]
 | succ n ih=>
  intro s b h1 ah;rw[Py,XP (by omega)];simp only[g',cm];by_cases hs:s=[]
  . grind
  . have b7:(!(decide (s=[])))=true:=by simp[hs]
    rw[ao b7];cases cv:Q1 s with
    | none=>exact⟨.inl 12,rfl,λl a6=>by cases a6⟩
    | some p=>
     obtain⟨x,y⟩:=p;have a6:=ZK cv;have ar:room 16 (b++[(ID (some (x,y))).1]).length=true:=CJ (by omega) (by simp;omega);have dy:¬((!(ID (some (x,y))).2.2)=true):=by simp[ID]
     rw[aJ dy,ao ar];obtain⟨o,b',hf⟩:=ih y (b++[x]) (by omega) (by simp;omega);exact⟨o,b',λl L1=>by have:=hf l L1;simp at this;omega⟩
theorem aVi{s:List UInt8}(h:s.length<=90000):∃o,WJ s=some o/\o.1.length<=s.length:=by
 obtain⟨o,h1,b'⟩:=awj s.length s [] (JK _) (by simp;omega);rw[WJ,h1];cases o with
 | inl e=>exact⟨_,rfl,by simp⟩
 | inr l=>exact⟨_,rfl,by have:=b' l rfl;simpa using this⟩
theorem aWQ :∀(n:Nat) (s:List UInt8) (b:List (List UInt8)),s.length<=n->s.length+b.length<=100000->aeS (s,b)=Py (s,b):=by
 intro n
 induction n with
 | zero=>
  intro s b h1 ah;have:s=[]:=Uu (by omega);subst this;rw[Py,aeS,aJ (by simp),aJ (by simp)]
 | succ n ih=>
  intro s b h1 ah;rw[Py,aeS,XP (by omega),aJb (by omega)];simp only[g',cm];by_cases hs:s=[]
  . grind
  . have b7:(!(decide (s=[])))=true:=by simp[hs]
    rw[ao b7,ao b7];cases cv:Q1 s with
    | none=>rfl
    | some p=>
     obtain⟨x,y⟩:=p;have a6:=ZK cv;have ar:room 16 (b++[(ID (some (x,y))).1]).length=true:=CJ (by omega) (by simp;omega);have dy:¬((!(ID (some (x,y))).2.2)=true):=by simp[ID]
     rw[aJ dy,ao ar,aJ dy,ao ar];exact ih y (b++[x]) (by omega) (by simp;omega)
theorem aVj{s:List UInt8}(h:s.length<=90000):ahb s=WJ s:=by
 rw[WJ,ahb,aWQ s.length s [] (JK _) (by simp;omega)]
theorem aFz :∀(n:Nat) (s:List UInt8) (last:Nat) (b:List qy),s.length<=n->s.length+b.length<=100000->∃o,NB ((last:Int),s,b)=some o/\∀l,o= .inr l->l.length<=s.length+b.length:=by
 intro n
 induction n with
 | zero=>
  intro s last b h1 ah;have:s=[]:=Uu (by omega);subst this;refine⟨.inr b,?_,λl a6=>by cases a6;omega⟩;rw[NB];rw[aJ (by simp)]
 | succ n ih=>
  intro s last b h1 ah;rw[NB];by_cases hs:s=[]
  . subst hs;exact⟨.inr b,by rw[aJ (by simp)],λl a6=>by cases a6;omega⟩
  . have b7:(!(decide (s=[])))=true:=by simp[hs]
    rw[ao b7];rcases Xw s with⟨e,he,cv⟩ | ⟨m,k,cv,O',hk,hm⟩
    . rw[ZO he cv];exact⟨.inl 12,rfl,λl a6=>by cases a6⟩
    . rw[XI cv hk];simp only[g',cm];rw[agF hm];by_cases axJ:m / 2<=last\/1000 < m / 2
      . exact⟨.inl 12,by rw[ao (by simp;omega)],λl a6=>by cases a6⟩
      . have hw:jJ .i64 ((m / 2:Nat):Int)=((m / 2:Nat):Int):=TQ (by omega) (by omega);rw[aJ (by simp;omega),hw,XP (by simp;omega)];simp only[cm];cases bo:Q1 (s.drop k)with
        | none=>exact⟨.inl 12,rfl,λl a6=>by cases a6⟩
        | some p=>
         obtain⟨x,y⟩:=p;have a6:=ZK bo;rw[Yd]at a6;have ar:room 32 (b++[(⟨((m / 2:Nat):Int),decide (kt (m:Int) 2=1),(ID (some (x,y))).1⟩:qy)]).length=true:=CJ (by omega) (by simp;omega);have dy:¬((!(ID (some (x,y))).2.2)=true):=by simp[ID]
         rw[aJ dy,ao ar];obtain⟨o,b',hf⟩:=ih y (m / 2) (b++[(⟨((m / 2:Nat):Int),decide (kt (m:Int) 2=1),x⟩:qy)]) (by omega) (by simp;omega);exact⟨o,b',λl L1=>by have:=hf l L1;simp at this;omega⟩
theorem aUv{s:List UInt8}(h:s.length<=90000):∃o,XN s=some o/\o.1.length<=s.length:=by
 obtain⟨o,h1,b'⟩:=aFz s.length s 0 [] (JK _) (by simp;omega);have KR:NB (0,s,[])=some o:=h1;rw[XN,KR];cases o with
 | inl e=>exact⟨_,rfl,by simp⟩
 | inr l=>exact⟨_,rfl,by have:=b' l rfl;simpa using this⟩
theorem aVk :∀(n:Nat) (s:List UInt8) (last:Nat) (b:List qy),s.length<=n->s.length+b.length<=100000->acx (s,(last:Int),b)=NB ((last:Int),s,b):=by
 intro n
 induction n with
 | zero=>
  intro s last b h1 ah;have:s=[]:=Uu (by omega);subst this;rw[NB,acx,aJ (by simp),aJ (by simp)]
 | succ n ih=>
  intro s last b h1 ah;rw[NB,acx,awT];by_cases hs:s=[]
  . simp_all
  . have b7:(!(decide (s=[])))=true:=by simp[hs]
    rw[ao b7,ao b7];rcases Xw s with⟨e,he,cv⟩ | ⟨m,k,cv,O',hk,hm⟩
    . rw[ZO he cv,cv];simp_all
    . rw[XI cv hk,cv];simp only[g',cm];rw[agF hm];by_cases axJ:m / 2<=last\/1000 < m / 2
      . have eh:(bif bif (!true)then true else decide (((m / 2:Nat):Int)<=(last:Int))then true else decide (1000 < ((m / 2:Nat):Int)))=true:=by simp;omega
        rw[ao eh];rw[ao];by_cases a3h:2001 < m
        . simp;omega
        . have hw:jJ .i64 ((m / 2:Nat):Int)=((m / 2:Nat):Int):=TQ (by omega) (by omega)
          grind
      . have hw:jJ .i64 ((m / 2:Nat):Int)=((m / 2:Nat):Int):=TQ (by omega) (by omega);have aNm:¬(bif bif (!true)then true else decide (((m / 2:Nat):Int)<=(last:Int))then true else decide (1000 < ((m / 2:Nat):Int)))=true:=by simp;omega
        rw[hw,aJ (by simp;omega),ao (TY hk (JK _)),ZN,aJb (by simp;omega),aJ aNm,XP (by simp;omega)];simp only[cm];cases bo:Q1 (s.drop k)with
        | none=>rfl
        | some p=>
         obtain⟨x,y⟩:=p;have a6:=ZK bo;rw[Yd]at a6;have ar:room 32 (b++[(⟨((m / 2:Nat):Int),decide (kt (m:Int) 2=1),(ID (some (x,y))).1⟩:qy)]).length=true:=CJ (by omega) (by simp;omega);have dy:¬((!(ID (some (x,y))).2.2)=true):=by simp[ID]
         rw[aJ dy,ao ar,aJ dy,ao ar];exact ih y (m / 2) (b++[(⟨((m / 2:Nat):Int),decide (kt (m:Int) 2=1),x⟩:qy)]) (by omega) (by simp;omega)
theorem goN{s:List UInt8}(h:s.length<=90000):akW s=XN s:=by
 have h1:acx (s,0,[])=NB (0,s,[]):=aVk s.length s 0 [] (JK _) (by simp;omega);rw[XN,akW,h1]
theorem aYj(s:List UInt8):∃o,XD s=some o:=by
 rw[XD];rcases Xw s with⟨e,he,cv⟩ | ⟨m,k,cv,O',hk,hm⟩
 . rw[ZO he cv];exact⟨_,rfl⟩
 . rw[XI cv hk];simp only[g',cm];by_cases axJ:m < 1\/1000 < m
   . exact⟨(0,[],12),by rw[ao (by simp;omega)]⟩
   . rw[aJ (by simp;omega)];exact⟨_,rfl⟩
theorem aYk(s:List UInt8):∃o,XD s=some o/\ak8 s=some o:=by
 rw[XD,ak8,awT];rcases Xw s with⟨e,he,cv⟩ | ⟨m,k,cv,O',hk,hm⟩
 . rw[ZO he cv,cv];simp_all
 . rw[XI cv hk,cv];simp only[g',cm];by_cases axJ:m < 1\/1000 < m
   . exact⟨(0,[],12),by rw[ao (by simp;omega)],by rw[ao (by simp;omega)]⟩
   . rw[aJ (by simp;omega),aJ (by simp;omega),ao (TY hk (JK _)),ZN]
     grind
def JU(n:Nat):List UInt8:=if n < 128 then[UInt8.ofNat n]else UInt8.ofNat (n % 128+128)::JU (n / 128)
termination_by n
decreasing_by omega
theorem ag2{n:Nat}(h:n < 128):JU n=[UInt8.ofNat n]:=by rw[JU,ao h]
theorem ah1{n:Nat}(h:¬n < 128):JU n=UInt8.ofNat (n % 128+128)::JU (n / 128):=by rw[JU,aJ h]
theorem aWR{a:Nat}(h:a < 256):ad1 .u8 (a:Int) 128=((a % 128+128:Nat):Int):=by
 have key:∀a:Nat,a < 256->ad1 .u8 (a:Int) 128=((a % 128+128:Nat):Int):=by decide+kernel
 grind
theorem ajN(n:Nat):jJ .u8 (n:Int)=((n % 256:Nat):Int):=by rfl
theorem a16(n:Nat):Xu .u64 (n:Int) 7=((n / 128:Nat):Int):=by
 unfold Xu;have:((2:Int) ^ min (7:Int).toNat IntKind.u64.bits)=128:=by decide
 grind
theorem aTC(m:Nat)(l:List Int):strOf ((m:Int)::l)=UInt8.ofNat m::strOf l:=rfl
theorem apI(a b:List Int):strOf (a++b)=strOf a++strOf b:=ajh
theorem auG{α:Type}:∀(l:List α) (i:Nat) (x:α),i < l.length->(l.set i x).take (i+1)=l.take i++[x]
 | [],i,x,h=>by simp at h
 | a::l,0,x,h=>by simp
 | a::l,i+1,x,h=>by simp[auG l i x (by simpa using h)]
theorem aJc :∀(f n i:Nat) (b:List Int),i+f=9->n < 128*128 ^ f->b.length=10->∃(DI ny:Nat) (hq:List Int),aeI ((n:Int),(i:Int),b)=some ((DI:Int),(ny:Int),hq)/\DI < 128/\ny<=9/\hq.length=10/\strOf (hq.take ny)++[UInt8.ofNat DI]=strOf (b.take i)++JU n
 | f,n,i,b,ay,dy,al=>by
  rw[aeI];by_cases hs:n < 128
  . rw[aJ (by simp;omega)];exact⟨n,i,b,rfl,hs,by omega,al,by rw[ag2 hs]⟩
  . rw[ao (by simp;omega),ao (gA (by
     omega)),ao (by
     cases f with
     | zero=>simp at dy;omega
     | succ f=>simp[al];omega)]
    match f,ay,dy with
    | 0,ay,dy=>simp at dy;omega
    | f+1,ay,dy=>
     rw[a16,j2 (by omega),ajN,aWR (an9 _ (by omega)),hJ];have ec:n / 128 < 128*128 ^ f:=by omega
     obtain⟨DI,ny,hq,h1,ah,b',ea,hf⟩:=aJc f (n / 128) (i+1) (b.set i ((n % 256 % 128+128:Nat):Int)) (by omega) ec (by simp[al]);refine⟨DI,ny,hq,h1,ah,b',ea,?_⟩;rw[hf,auG _ _ _ (by omega),apI,ah1 hs];have:n % 256 % 128=n % 128:=by omega
     rw[this];have adE:strOf [((n % 128+128:Nat):Int)]=[UInt8.ofNat (n % 128+128)]:=rfl
     grind
theorem axl :(128:Nat)*128 ^ 9=1180591620717411303424:=by decide
theorem alC{n:Nat}(dy:n < 18446744073709551616):ae7 (n:Int)=some (JU n):=by
 obtain⟨DI,ny,hq,h1,ah,b',ea,hf⟩:=aJc 9 n 0 [0,0,0,0,0,0,0,0,0,0] rfl (by rw[axl];omega) rfl;rw[ae7];have KR:aeI ((n:Int),0,[0,0,0,0,0,0,0,0,0,0])=some ((DI:Int),(ny:Int),hq):=h1;rw[KR];simp only[g',cm];have aac:Jt 0 ((ny+1:Nat):Int) 10=true:=TY (a:=0) (by omega) (by omega)
 rw[ao (gA (by omega)),ao (by simp[ea];omega),j2 (by omega),ao aac,ao (by simp[ajG,ea];omega),hJ,hJ,ajN];have:DI % 256=DI:=aak (by omega);rw[this];simp only[adR,Ph];rw[auG _ _ _ (by omega),apI];have tJ:strOf [(DI:Int)]=[UInt8.ofNat DI]:=rfl;rw[tJ,hf];rfl
theorem aFA :∀(f n:Nat) (b:List Int),n < 128 ^ f->n < 18446744073709551616->b.length+f<=1000->∃(DI:Nat) (hq:List Int),ag8 ((n:Int),b)=some ((DI:Int),hq)/\DI < 128/\hq.length<=1000/\strOf hq++[UInt8.ofNat DI]=strOf b++JU n
 | f,n,b,dy,aY2,al=>by
  rw[ag8];by_cases hs:n < 128
  . rw[aJ (by simp;omega)];exact⟨n,b,rfl,hs,by omega,by rw[ag2 hs]⟩
  . rw[ao (by simp;omega)]
    match f,dy with
    | 0,dy=>simp at dy;omega
    | f+1,dy=>
     have X7:kt (n:Int) 128=((n % 128:Nat):Int):=aot (b:=128);have Qk:e0 .u64 ((n % 128:Nat):Int) 128=((n % 128+128:Nat):Int):=afx (b:=128) (by omega);have eg:MV .u64 (n:Int) 128=((n / 128:Nat):Int):=by
      unfold MV;have e:(n:Int).tdiv 128=((n / 128:Nat):Int):=by rw[aoa (by omega)];omega
      rw[e];exact Wt (by omega) (by omega)
     simp only[g',cm];rw[X7,Qk,eg,ajN,ao (CJ (by omega) (by simp;omega))];have ec:n / 128 < 128 ^ f:=by omega
     obtain⟨DI,hq,h1,ah,b',ea⟩:=aFA f (n / 128) (b++[(((n % 128+128) % 256:Nat):Int)]) ec (by omega) (by simp;omega);refine⟨DI,hq,h1,ah,b',?_⟩;rw[ea,apI,ah1 hs];have:(n % 128+128) % 256=n % 128+128:=by omega
     rw[this];have adE:strOf [((n % 128+128:Nat):Int)]=[UInt8.ofNat (n % 128+128)]:=rfl
     grind
theorem akt{n:Nat}(dy:n < 18446744073709551616):acJ (n:Int)=some (JU n):=by
 obtain⟨DI,hq,h1,ah,b',ea⟩:=aFA 10 n [] (by have:=axl;rw[an8,ajm];omega) dy (by simp);rw[acJ,h1];simp only[g',cm];rw[ao (CJ (by omega) (by simp;omega)),ajN,apI];have:DI % 256=DI:=aak (by omega);rw[this];have tJ:strOf [(DI:Int)]=[UInt8.ofNat DI]:=rfl;rw[tJ,ea];rfl
theorem aGo :∀(f n:Nat),n < 128 ^ (f+1)->(JU n).length<=f+1
 | f,n,dy=>by
  by_cases hs:n < 128
  . rw[ag2 hs];simp
  . rw[ah1 hs]
    match f,dy with
    | 0,dy=>simp at dy;omega
    | f+1,dy=>
     have:=aGo f (n / 128) (by omega);simp;omega
theorem VO{n:Nat}(dy:n < 18446744073709551616):(JU n).length<=10:=aGo 9 n (by have:=axl;rw[an8,ajm];omega)
theorem acs(n:Nat):0 < (JU n).length:=by
 rw[JU];split <;> simp
theorem WL{n:Nat}(h:n < 256):(UInt8.ofNat n).toNat=n:=by simp_all
theorem aJd :∀(f i acc n:Nat) (pre rest:List UInt8),i+f=10->pre.length=i->n*2 ^ (7*i) < 18446744073709551616->(n=0->i=0)->Pn (pre++(JU n++rest)) f i acc=(((acc+n*2 ^ (7*i):Nat):Int),((i+(JU n).length:Nat):Int),0)
 | 0,i,acc,n,pre,rest,ay,bo,dy,h0=>by grind
 | f+1,i,acc,n,pre,rest,ay,bo,dy,h0=>by
  have hlen:i < (pre++(JU n++rest)).length:=by
   have:=acs n;simp;omega
  have x':∀(x:UInt8) (r:List UInt8),JU n=x::r->(pre++(JU n++rest)).getD i 0=x:=by grind
  simp only[Pn];rw[ao hlen];by_cases hs:n < 128
  . rw[x' _ _ (ag2 hs),WL (by omega),aJ (by
     grind),aJ (by omega),aJ (by
     rintro ⟨h1,ah⟩
     have:=h0 h1;omega),ag2 hs]
    simp
  . have a3r:i < 9:=by grind
    rw[x' _ _ (ah1 hs),WL (by omega),aJ (by omega),ao (by omega)];have ax':(n % 128+128) % 128=n % 128:=by omega
    have a3K:n % 128*2 ^ (7*i)+n / 128*2 ^ (7*(i+1))=n*2 ^ (7*i):=by
     rw[aLh];have h1:n / 128*(2 ^ (7*i)*128)=(n / 128*128)*2 ^ (7*i):=by grind
     rw[h1,<-NJ]
     grind
    have hbound:n / 128*2 ^ (7*(i+1)) < 18446744073709551616:=by omega
    have:=aJd f (i+1) (acc+n % 128*2 ^ (7*i)) (n / 128) (pre++[UInt8.ofNat (n % 128+128)]) rest (by omega) (by simp[bo]) hbound (by omega);rw[ax'];have es:pre++(JU n++rest)=pre++[UInt8.ofNat (n % 128+128)]++(JU (n / 128)++rest):=by rw[ah1 hs];simp
    grind
theorem av2{n:Nat}(dy:n < 18446744073709551616)(rest:List UInt8):Pn (JU n++rest) 10 0 0=((n:Int),((JU n).length:Int),0):=by
 have:=aJd 10 0 0 n [] rest rfl rfl (by simpa using dy) (λ_=>rfl)
 grind
def H'(p:List UInt8):List UInt8:=JU p.length++p
theorem P'{n:Nat}(h:n<=9223372036854775807):decide (n<=Lh)=true:=by
 unfold Lh;simp;omega
theorem aqj{p:List UInt8}(h:p.length<=1152921504606846976):acN p=some (H' p):=by
 rw[acN,Q2 (by omega),alC (by omega)];simp only[g',cm];have:=VO (n:=p.length) (by omega);rw[ao (P' (by omega))];rfl
theorem apq{p:List UInt8}(h:p.length<=1152921504606846976):acH p=some (H' p):=by
 rw[acH,Q2 (by omega),akt (by omega)];simp only[g',cm];have:=VO (n:=p.length) (by omega);rw[ao (P' (by omega))];rfl
def Ol(id:Nat)(c:Bool)(p:List UInt8):List UInt8:=JU (2*id+(if c then 1 else 0))++H' p
theorem aEI{p:List UInt8}(h:p.length<=1152921504606846976):(H' p).length<=p.length+10:=by
 have:=VO (n:=p.length) (by omega);unfold H';simp;omega
theorem aGp{id:Nat}{c:Bool}{p:List UInt8}(Lx:id<=4611686018427387903)(h:p.length<=1152921504606846900):akE ((id:Int),c,p)=some (Ol id c p):=by
 rw[akE];have hm:Nv .u64 2 (jJ .u64 (id:Int))=((2*id:Nat):Int):=by rw[Q2 (by omega)];exact agq (a:=2) (by omega)
 simp only[g',cm];rw[hm,aqj (by omega)];have a6:=aEI (p:=p) (by omega);cases c with
 | true=>
  have ch:e0 .u64 ((2*id:Nat):Int) 1=((2*id+1:Nat):Int):=afx (b:=1) (by omega);rw[ao rfl,ch,alC (by omega)];have:=VO (n:=2*id+1) (by omega);simp only[cm];rw[ao (P' (by omega))];rfl
 | false=>
  rw[aJ (by simp),alC (by omega)];have:=VO (n:=2*id) (by omega);simp only[cm];rw[ao (P' (by omega))];rfl
theorem aEW{id:Nat}{c:Bool}{p:List UInt8}(Lx:id<=4611686018427387903)(h:p.length<=1152921504606846900):ak2 ((id:Int),c,p)=some (Ol id c p):=by
 rw[ak2];have hm:jJ .u64 (Nv .i64 2 (id:Int))=((2*id:Nat):Int):=by
  rw[aIJ (by omega) (by omega)];have:(2:Int)*(id:Int)=((2*id:Nat):Int):=by omega
  rw[this];exact Q2 (by omega)
 simp only[g',cm];rw[hm,apq (by omega)];have a6:=aEI (p:=p) (by omega);cases c with
 | true=>
  have ch:e0 .u64 ((2*id:Nat):Int) 1=((2*id+1:Nat):Int):=afx (b:=1) (by omega);rw[ao rfl,ch,akt (by omega)];have:=VO (n:=2*id+1) (by omega);simp only[cm];rw[ao (P' (by omega))];rfl
 | false=>
  rw[aJ (by simp),akt (by omega)];have:=VO (n:=2*id) (by omega);simp only[cm];rw[ao (P' (by omega))];rfl
theorem aEX{p rest:List UInt8}(h:p.length<=100000):Q1 (H' p++rest)=some (p,rest):=by
 unfold Q1 H';rw[SY,av2 (by omega)];simp only[aaj,adT]
 grind
theorem aSG{id:Nat}{c:Bool}{p rest:List UInt8}{last:Nat}{b:List qy}(h1:last < id)(Lx:id <=1000)(h:(Ol id c p++rest).length <=100000)(al:b.length <=90000):
 NB ((last:Int),Ol id c p++rest,b)=NB ((id:Int),rest,b++[⟨(id:Int),c,p⟩]):=by
 have QQ:p.length<=100000:=by
  have ah:=h;simp only[Ol,H',vx]at ah;omega
 have hG:Ol id c p++rest≠[]:=by
  intro b7;have ah:=JQ List.length b7;have:=acs (2*id+(if c then 1 else 0));simp only[Ol,vx,Qo]at ah;omega
 have ai:2*id+(if c then 1 else 0)<=2001:=by split <;> omega
 have b9:Pn (Ol id c p++rest) 10 0 0=(((2*id+(if c then 1 else 0):Nat):Int),((JU (2*id+(if c then 1 else 0))).length:Int),0):=by
  unfold Ol;rw[SY];exact av2 (by omega) _
 have dy:=XI b9 (by unfold Ol;simp);have a7:(Ol id c p++rest).drop (JU (2*id+(if c then 1 else 0))).length=H' p++rest:=by
  unfold Ol
  grind
 rw[a7]at dy;have hdiv:(2*id+(if c then 1 else 0)) / 2=id:=by split <;> omega
 have X7:decide (kt ((2*id+(if c then 1 else 0):Nat):Int) 2=1)=c:=by
  have:kt ((2*id+(if c then 1 else 0):Nat):Int) 2=(((2*id+(if c then 1 else 0)) % 2:Nat):Int):=aot (b:=2)
  grind
 rw[NB,ao (by simp only[ab6,aod];exact hG),dy];simp only[g',cm];rw[agF (by omega),hdiv,aJ (by simp;omega),X7,XP (by grind),aEX QQ];simp only[cm];have hw:jJ .i64 (id:Int)=(id:Int):=TQ (by omega) (by omega);have Ul:¬((!(ID (some (p,rest))).2.2)=true):=by simp[ID]
 rw[aJ Ul,hw];have ar:room 32 (b++[(⟨(id:Int),c,(ID (some (p,rest))).1⟩:qy)]).length=true:=CJ (by omega) (by simp;omega);rw[ao ar];rfl
inductive qa:ak->Prop
 | mk (v : ak) (hs : v.js.length <= reachBytes) (h1 : v.eI.length <= reachBytes) (ah : v.cy.length <= reachBytes) (b' : v.Rest.length <= reachBytes)
  (hk:∀x,x∈v.eI->qa x) (ay:∀x,x∈v.cy->qa x) (ar:∀x,x∈v.Rest->x.Data.length<=reachBytes)
  (I0: -9223372036854775808<=v.Kind/\v.Kind<=9223372036854775807) (D': -9223372036854775808<=v.hX/\v.hX<=9223372036854775807) (Jm: -9223372036854775808<=v.a8/\v.a8<=9223372036854775807)
  (p':∀x,x∈v.Rest->-9223372036854775808<=x.a8/\x.a8<=9223372036854775807):qa v
theorem Jg{n:Nat}(h:n<=reachBytes):n < 9223372036854775807:=Nat.lt_of_le_of_lt h (by decide)
theorem scan{Ky:Type}(L:Nat -> Option Ky)(n:Nat)(p:Nat -> Bool)(bad afV:Ky)(QR:∀i,i < n -> L i=if p i=true then L (i+1)else some bad)(Y3:L n=some afV):
 (L 0=some afV/\∀j,j < n->p j=true)\/(L 0=some bad/\∃j,j < n/\p j=false):=by
 have key:∀k i,i+k=n->(L i=some afV/\∀j,i<=j->j < n->p j=true)\/(L i=some bad/\∃j,j < n/\p j=false):=by
  intro k
  induction k with
  | zero => intro i ay; have : i = n := by omega
            subst this;exact .inl ⟨Y3,λj h1 ah=>by omega⟩
  | succ k ih=>grind
 rcases key n 0 (by omega)with⟨h1,ah⟩ | h
 . exact .inl ⟨h1,λj c7=>ah j (RE _) c7⟩
 . exact .inr h
theorem Ld{α:Type}{l:List α}{i:Nat}(h:i < l.length)(d:α):l.getD i d=l[i]:=by grind
theorem aho{α:Type}{a b:List α}{p:Nat -> Bool}(a6:a.length=b.length)(bo:∀(i:Nat) (h1:i < a.length) (ah:i < b.length),p i=true↔a[i]=b[i]):
 (∀j,j < a.length->p j=true)↔a=b:=by
 constructor
 . intro h;exact List.ext_getElem a6 λi h1 ah=>(bo i h1 ah).1 (h i h1)
 . rintro rfl j c7
   exact(bo j c7 c7).2 rfl
def Lj{α:Type}(o:Option Bool)(a b:α):Prop:=∃r,o=some r/\(r=true↔a=b)
theorem Lj.azb {α:Type} {a b:List α} {p:Nat -> Bool} (a6:a.length=b.length) (bo:∀(i:Nat) (h1:i < a.length) (ah:i < b.length),p i=true↔a[i]=b[i]) {o:Option Bool}
 (h:(o=some true/\∀j,j < a.length->p j=true)\/(o=some false/\∃j,j < a.length/\p j=false)):Lj o a b:=by
 rcases h with⟨h1,ah⟩ | ⟨h1,j,ah,b'⟩
 . exact⟨true,h1,by simp[(aho a6 bo).1 ah]⟩
 . refine⟨false,h1,?_⟩;constructor
   . intro h;cases h
   . intro h;have:=(aho a6 bo).2 h j ah;rw[b']at this;cases this
theorem aJe{a b:pI}:(PM a.a8 b.a8 && (TD a.Data b.Data && true))=true↔a=b:=by cases a;cases b;simp[PM,TD]
theorem aJf{a b:r'}:(PM a.a8 b.a8 && (TD a.Name b.Name && true))=true↔a=b:=by
 cases a;cases b;simp[PM,TD]
theorem aYl{α:Type}{a b:List α}(h:¬a.length=b.length):a≠b:=λe=>h (JQ List.length e)
theorem ah2{α:Type}{a b:List α}(h:¬a.length=b.length):Lj (some false) a b:=⟨false,rfl,by simp[aYl h]⟩
theorem aJg{a b:List pI}(ch:a.length<=reachBytes):Lj (aki (a,b)) a b:=by
 rw[aki];by_cases a6:a.length=b.length
 . rw[aJ (by simp;omega)];have ar:=Jg ch;have:=scan (λi=>aaF (a,b,(a.length:Int),(i:Int))) a.length (λi=>PM (a.getD i j').a8 (b.getD i j').a8 && (TD (a.getD i j').Data (b.getD i j').Data && true)) (.inl false) (.inr ())
    (λi ay=>by
     rw[aaF,ao (by simp;omega),ao (gA ay)];simp only[g',cm,hJ];rw[ao (gA (by omega)),j2 (by omega)]
     grind)
    (by rw[aaF,aJ (by simp)])
   have h0:aaF (a,b,(a.length:Int),((0:Nat):Int))=aaF (a,b,(a.length:Int),0):=rfl;simp only[h0]at this;refine Lj.azb (p:=λi=>PM (a.getD i j').a8 (b.getD i j').a8 && (TD (a.getD i j').Data (b.getD i j').Data && true)) a6 (λi h1 ah=>by simp only[Ld h1,Ld ah];exact aJe) ?_
   grind
 . rw[ao (by simp;omega)];exact ah2 a6
theorem aYm{a b:List r'}(ch:a.length<=reachBytes):Lj (ape (a,b)) a b:=by
 rw[ape];by_cases a6:a.length=b.length
 . rw[aJ (by simp;omega)];have ar:=Jg ch;have:=scan (λi=>aaE (a,b,(a.length:Int),(i:Int))) a.length (λi=>PM (a.getD i I').a8 (b.getD i I').a8 && (TD (a.getD i I').Name (b.getD i I').Name && true)) (.inl false) (.inr ())
    (λi ay=>by
     rw[aaE,ao (by simp;omega),ao (gA ay)];simp only[g',cm,hJ];rw[ao (gA (by omega)),j2 (by omega)]
     grind)
    (by rw[aaE,aJ (by simp)])
   have h0:aaE (a,b,(a.length:Int),((0:Nat):Int))=aaE (a,b,(a.length:Int),0):=rfl;simp only[h0]at this;refine Lj.azb (p:=λi=>PM (a.getD i I').a8 (b.getD i I').a8 && (TD (a.getD i I').Name (b.getD i I').Name && true)) a6 (λi h1 ah=>by simp only[Ld h1,Ld ah];exact aJf) ?_
   grind
 . rw[ao (by simp;omega)];exact ah2 a6
theorem aqR(v:ak):(⟨v.Kind,v.oi,v.hX,v.js,v.a8,v.eI,v.cy,v.Rest⟩:ak)=v:=by cases v;rfl
theorem aFB{a b:ak}:a=b↔a.Kind=b.Kind/\a.oi=b.oi/\a.hX=b.hX/\a.js=b.js/\a.a8=b.a8/\a.Rest=b.Rest/\a.eI=b.eI/\a.cy=b.cy:=by
 constructor
 . grind
 . cases a;cases b
   grind
section
variable {f:ak×ak->Option Bool}
theorem atM {a b:List ak} (a6:a.length=b.length) (ih:∀x,x∈a -> ∀y,Lj (f (x,y)) x y) (L:Nat -> Option (Bool ⊕ Unit))
 (QR:∀i,i < a.length->L i=(f (ak.eta (a.getD i eJ),ak.eta (b.getD i eJ)) >>=λr=>if(!r)=true then some (.inl false)else L (i+1)))
 (Y3:L a.length=some (.inr ())):Lj (L 0 >>=λo=>match o with | .inl x=>some x | .inr _=>some true) a b:=by
 have x':∀(i:Nat) (h1:i < a.length) (ah:i < b.length),Lj (f (ak.eta (a.getD i eJ),ak.eta (b.getD i eJ))) a[i] b[i]:=by
  intro i h1 ah;rw[Ld h1,Ld ah,ak.h7,ak.h7]
  grind
 have:=scan L a.length (λi=>(f (ak.eta (a.getD i eJ),ak.eta (b.getD i eJ))).getD false) (.inl false) (.inr ())
  (λi ay=>by
   obtain⟨r,h1,ah⟩:=x' i ay (by omega)
   grind) Y3
 refine Lj.azb a6 (λi h1 ah=>?_) ?_ (p:=λi=>(f (ak.eta (a.getD i eJ),ak.eta (b.getD i eJ))).getD false)
 . obtain⟨r,b',ea⟩:=x' i h1 ah;rw[b'];exact ea
 . rcases this with⟨h1,ah⟩ | ⟨h1,ah⟩
   . exact .inl ⟨by rw[h1];rfl,ah⟩
   . exact .inr ⟨by rw[h1];rfl,ah⟩
end
theorem aH2{a b:List ak}(ch:a.length<=reachBytes)(ih:∀x,x∈a->∀y,Lj (afo (x,y)) x y):Lj (ahu (a,b)) a b:=by
 rw[ahu];by_cases a6:a.length=b.length
 . rw[aJ (by simp;omega)];have ar:=Jg ch;exact atM a6 ih (λi=>ahs (b,a,(a.length:Int),(i:Int)))
    (λi ay=>by
     rw[ahs,ao (by simp;omega),ao (gA ay),ao (gA (by omega)),j2 (by omega)]
     rfl)
    (by rw[ahs,aJ (by simp)])
 . rw[ao (by simp;omega)];exact ah2 a6
theorem aH3{a b:List ak}(ch:a.length<=reachBytes)(ih:∀x,x∈a->∀y,Lj (XO (x,y)) x y):Lj (akg (a,b)) a b:=by
 rw[akg];by_cases a6:a.length=b.length
 . rw[aJ (by simp;omega)];have ar:=Jg ch;exact atM a6 ih (λi=>aht (b,a,(a.length:Int),(i:Int)))
    (λi ay=>by
     rw[aht,ao (by simp;omega),ao (gA ay),ao (gA (by omega)),j2 (by omega)]
     rfl)
    (by rw[aht,aJ (by simp)])
 . rw[ao (by simp;omega)];exact ah2 a6
theorem aH4{a b:List ak}(ch:a.length<=reachBytes)(ih:∀x,x∈a->∀y,Lj (UE (x,y)) x y):Lj (akk (a,b)) a b:=by
 rw[akk];by_cases a6:a.length=b.length
 . rw[aJ (by simp;omega)];have ar:=Jg ch;exact atM a6 ih (λi=>ahw (a,b,(i:Int)))
    (λi ay=>by
     rw[ahw,ao (by simp;omega),ao (gA ay),ao (gA (by omega)),j2 (by omega)]
     rfl)
    (by rw[ahw,aJ (by simp)])
 . rw[ao (by simp;omega)];exact ah2 a6
theorem three{a b:ak}{hf:Bool}(QH:hf=true↔a.Kind=b.Kind /\ a.oi=b.oi /\ a.hX=b.hX /\ a.js=b.js /\ a.a8=b.a8){x y z:Option Bool}(ad:Lj x a.Rest b.Rest)(bJ:Lj y a.eI b.eI)(ga:Lj z a.cy b.cy):
 Lj (some hf >>=λt37=>(if t37=true then x else some false) >>=λr=>some (bif t37 then r else false) >>=λt44=>(if t44=true then y else some false) >>=λh8=>some (bif t44 then h8 else false) >>=λt51=>(if t51=true then z else some false) >>=λG'=>some (bif t51 then G' else false)) a b:=by
 obtain⟨rx,TK,a0I⟩:=ad;obtain⟨aLA,anF,anG⟩:=bJ;obtain⟨a1Y,agj,anH⟩:=ga;subst TK;subst anF;subst agj;refine⟨hf && rx && aLA && a1Y,?_,?_⟩
 . cases hf <;> cases rx <;> cases aLA <;> rfl
 . rw[aFB];simp only[k0];rw[QH,a0I,anG,anH];constructor
   . rintro ⟨⟨⟨⟨h1,ah,b',ea,hf⟩,tJ⟩,M1⟩,Lu⟩;exact⟨h1,ah,b',ea,hf,tJ,M1,Lu⟩
   . rintro ⟨h1,ah,b',ea,hf,tJ,M1,Lu⟩;exact⟨⟨⟨⟨h1,ah,b',ea,hf⟩,tJ⟩,M1⟩,Lu⟩
theorem aCH{a b:ak}:(bif bif bif bif decide (a.Kind=b.Kind)then MK a.oi b.oi else false then decide (a.hX=b.hX)else false then decide (a.js=b.js)else false then decide (a.a8=b.a8)else false)=true↔a.Kind=b.Kind/\a.oi=b.oi/\a.hX=b.hX/\a.js=b.js/\a.a8=b.a8:=by
 simp only[an1,MK]
 grind
theorem aTD{a:ak}(h:qa a):∀b,Lj (afo (a,b)) a b:=by
 induction h with
 | mk a hs h1 ah b' hk ay ar I0 D' Jm p' QU NH=>
  intro b;rw[afo];exact three aCH (aJg b') (aH2 h1 QU) (aH2 ah NH)
theorem aqI{a:ak}(h:qa a):∀b,Lj (XO (a,b)) a b:=by
 induction h with
 | mk a hs h1 ah b' hk ay ar I0 D' Jm p' QU NH=>
  intro b;rw[XO];exact three aCH (aJg b') (aH3 h1 QU) (aH3 ah NH)
theorem av3{a:ak}(h:qa a):∀b,Lj (UE (a,b)) a b:=by
 induction h with
 | mk a hs h1 ah b' hk ay ar I0 D' Jm p' QU NH=>
  intro b;rw[UE];by_cases hf:a.Kind=b.Kind/\a.oi=b.oi/\a.hX=b.hX/\a.js=b.js/\a.a8=b.a8/\a.Rest.length=b.Rest.length
  . obtain⟨eh,hj,I2,U4,QH,aiz⟩:=hf;rw[aJ (by simp[eh,hj,I2,U4,QH,aiz,MK])];have aKk:=Jg b';have Of:=scan (λi=>aaG ((i:Int),a,b)) a.Rest.length (λi=>PM (a.Rest.getD i j').a8 (b.Rest.getD i j').a8 && (TD (a.Rest.getD i j').Data (b.Rest.getD i j').Data && true)) (.inl false) (.inr (a,b))
     (λi V8=>by
      rw[aaG,ao (by simp;omega),ao (gA V8)];simp only[g',cm,hJ,ak.h7];rw[ao (gA (by omega)),j2 (by omega)]
      grind)
     (by rw[aaG,aJ (by simp),ak.h7,ak.h7])
    have h0:aaG (((0:Nat):Int),a,b)=aaG (0,a,b):=rfl;simp only[h0]at Of;rw[aqR,aqR];have bo:∀(i:Nat) (h1:i < a.Rest.length) (ah:i < b.Rest.length),(PM (a.Rest.getD i j').a8 (b.Rest.getD i j').a8 && (TD (a.Rest.getD i j').Data (b.Rest.getD i j').Data && true))=true↔a.Rest[i]=b.Rest[i]:=λi h1 ah=>by rw[Ld h1,Ld ah];exact aJe
    rcases Of with⟨g1,g2⟩ | ⟨g1,j,g2,g3⟩
    . have aKl:=(aho aiz bo).1 g2;rw[g1];obtain⟨Vr,hg,hv⟩:=aH4 (a:=a.eI) (b:=b.eI) h1 QU;obtain⟨aou,i1,i2⟩:=aH4 (a:=a.cy) (b:=b.cy) ah NH;simp only[g',cm];rw[hg,i1];refine⟨Vr && aou,by cases Vr <;> rfl,?_⟩;rw[aFB,k0,hv,i2]
      grind
    . rw[g1];refine⟨false,rfl,?_⟩
      grind
  . rw[ao]
    . refine⟨false,rfl,?_⟩
      grind
    . simp only[an1,MK]
      grind
def YD(c:Int):Bool:=decide (c=95\/(97<=c/\c<=122)\/(65<=c/\c<=90))
def alD(c:Int):Bool:=decide (48<=c/\c<=57)
theorem aqS(c:Int):ald c=some (YD c):=by
 rw[ald];unfold YD
 grind
theorem aFC(c:Int):akd c=some (YD c):=by
 rw[akd];unfold YD
 grind
theorem aVl(c:Int):aqh c=some (alD c):=by
 rw[aqh];unfold alD
 grind
theorem aVm(c:Int):ap3 c=some (alD c):=by
 rw[ap3];unfold alD
 grind
theorem aGq{Ky:Type}(A B ns:Bool)(X Y:Option Ky)(C2:ns=true):
 (some A >>=λh8=>some (!h8) >>=λt26=>if(ns || (!t26))=true then(if t26=true then some B else some false) >>=λG'=>if(bif t26 then(!G')else false)=true then X else Y else none)=if(A || B)=true then Y else X:=by
 subst C2;cases A <;> cases B <;> rfl
theorem aH5(s:List UInt8):∃r,VL s=some r/\aeY s=some r:=by
 rw[VL,aeY];simp only[g',cm];by_cases al:s=[]\/24 < s.length
 . have ht:(bif decide (s=[])then true else decide (24 < (s.length:Int)))=true:=by grind
   rw[ht];simp_all
 . have hG:s≠[]:=λh=>al (.inl h)
   have hlen:s.length<=24:=by omega
   have ht:(bif decide (s=[])then true else decide (24 < (s.length:Int)))=false:=by grind
   have Rt:0 < s.length:=agy.2 hG;have yb:ez 0 s.length=true:=gA (k:=0) Rt;simp only[ht,yb,ass,qb,Uw,cm,aqS,aFC,OB];cases a6:YD (MD s 0)with
   | false=>exact⟨false,rfl,rfl⟩
   | true=>
    rw[aJ (by simp),aJ (by simp)]
    let p:Nat->Bool:=λi=>YD (MD s i) || alD (MD s i)
    have s1:=scan (λi=>WH (s,(s.length:Int),(i:Int))) s.length p (.inl false) (.inr ())
     (λi ay=>by
      rw[WH,ao (by simp;omega),ao (gA ay),aqS,aVl,j2 (by omega)]
      exact aGq _ _ _ _ _ (gA ay))
     (by rw[WH,aJ (by simp)])
    have s2:=scan (λi=>aa3 (s,(i:Int))) s.length p (.inl false) (.inr ())
     (λi ay=>by
      rw[aa3,ao (by simp;omega),ao (gA ay),aFC,aVm,j2 (by omega)]
      exact aGq _ _ _ _ _ (gA ay))
     (by rw[aa3,aJ (by simp)])
    have eh:WH (s,(s.length:Int),((0:Nat):Int))=WH (s,(s.length:Int),0):=rfl;have hj:aa3 (s,((0:Nat):Int))=aa3 (s,0):=rfl;simp only[eh,hj]at s1 s2;rcases s1 with⟨a1,a2⟩ | ⟨a1,j,a2,a3⟩ <;> rcases s2 with⟨b1,b2⟩ | ⟨b1,k,b2,k9⟩
    . simp_all
    . grind
    . grind
    simp_all
def nm(s:List UInt8):Bool:=(VL s).getD false
theorem ago(s:List UInt8):VL s=some (nm s):=by
 obtain⟨r,h1,_⟩:=aH5 s;unfold nm;rw[h1];rfl
theorem aos(s:List UInt8):aeY s=some (nm s):=by
 obtain⟨r,h1,ah⟩:=aH5 s;unfold nm;rw[h1,ah];rfl
theorem ayO{s:List UInt8}(h:nm s=true):s≠[]:=by
 rintro rfl
 unfold nm at h;rw[VL]at h;simp at h
def Vf(l:List Int)(names:List (List UInt8))(i:Nat):Bool:=
 decide (1<=l.getD i 0) && decide (l.getD i 0<=1000) && (decide (i=0) || decide (l.getD (i - 1) 0 < l.getD i 0)) && nm (names.getD i []) && !((names.take i).contains (names.getD i []))
def Wn(l:List (List UInt8)):List (List UInt8):=l.foldl Sr []
theorem aVn(ks:List (List UInt8))(a s:List UInt8):SI (Sr ks a) s=(SI ks s || decide (a=s)):=by
 unfold Sr;split
 . grind
 . simp[SI,List.any_append]
theorem aEJ(l:List (List UInt8))(s:List UInt8):SI (Wn l) s=l.contains s:=by
 have key:∀(l:List (List UInt8)) (ks:List (List UInt8)),SI (l.foldl Sr ks) s=(SI ks s || l.contains s):=by
  intro l
  induction l with
  | nil=>intro ks;simp
  | cons a r ih=>
   intro ks;rw[List.foldl_cons,ih,aVn,Bool.or_assoc]
   grind
 have:=key l []
 simpa[Wn,SI]using this
theorem aEK{l:List (List UInt8)}{i:Nat}(h:i < l.length):Sr (Wn (l.take i)) (l.getD i [])=Wn (l.take (i+1)):=by
 unfold Wn;rw[List.take_add_one,List.foldl_append,J9 h,Ld h];rfl
theorem aWS{Ky:Type}(A Z VC C ns H N:Bool)(X Y:Option Ky)(C2:ns=true)(amQ:Z=true -> VC=true):
 (if(VC || (!((!A) && Z)))=true then
  some (bif A then true else bif Z then C else false) >>=λt34=>
  if(ns || (!(!t34)))=true then
   some (bif t34 then true else H) >>=λt42=>
   if(ns || (!(!t42)))=true then
    (if(!t42)=true then some N else some false) >>=λr=>
    if(bif t42 then true else(!r))=true then X else(if ns=true then Y else none)
   else none
  else none
 else none)=if(!A && (!Z || !C) && N && !H)=true then Y else X:=by
 subst C2;cases Z with
 | true=>have:=amQ rfl;subst this;cases A <;> cases C <;> cases H <;> cases N <;> rfl
 | false=>cases A <;> cases VC <;> cases C <;> cases H <;> cases N <;> rfl
theorem aJh{l:List Int}{names:List (List UInt8)}(a6:l.length<=reachBytes)(dy:names.length=l.length):∃r,akQ (l,names)=some r/\(r=true↔(∀i,i < l.length->Vf l names i=true)/\l.length<=16):=by
 rw[akQ];have ar:=Jg a6;have Of:=scan (λi=>aaQ (l,names,l,(l.length:Int),(i:Int),Wn (names.take i))) l.length (Vf l names) (.inl false) (.inr l)
  (λi ay=>by
   have yb:i < names.length:=by omega
   rw[aaQ,ao (by simp;omega),ao (gA ay)];simp only[hJ];rw[ago,j2 (by omega),aEK yb,aEJ];have L6:0 < i->BJ .i64 (i:Int) 1=((i - 1:Nat):Int):=by intro h;rw[Q7 (by omega) (by omega)];omega
   refine(aWS (bif decide (l.getD i 0 < 1)then true else decide (1000 < l.getD i 0)) (decide ((0:Int) < (i:Int))) (ez (BJ .i64 (i:Int) 1) l.length) (decide (l.getD i 0<=l.getD (BJ .i64 (i:Int) 1).toNat 0)) (ez (i:Int) names.length) ((names.take i).contains (names.getD i [])) (nm (names.getD i [])) _ _ (gA yb) (λga=>?_)).trans ?_
   . have Rt:0 < i:=by simp at ga;omega
     rw[L6 Rt];exact gA (by omega)
   . have:(!(bif decide (l.getD i 0 < 1)then true else decide (1000 < l.getD i 0)) && (!(decide ((0:Int) < (i:Int))) || !(decide (l.getD i 0<=l.getD (BJ .i64 (i:Int) 1).toNat 0))) && nm (names.getD i []) && !((names.take i).contains (names.getD i [])))=Vf l names i:=by
      unfold Vf
      grind
     rw[this])
  (by rw[aaQ,aJ (by simp)])
 have u1:aaQ (l,names,l,(l.length:Int),((0:Nat):Int),Wn (names.take 0))=aaQ (l,names,l,(l.length:Int),0,[]):=rfl;simp only[u1]at Of;rcases Of with⟨h1,ah⟩ | ⟨h1,j,ah,b'⟩
 . rw[h1];refine⟨decide ((l.length:Int)<=16),rfl,?_⟩
   grind
 . rw[h1];refine⟨false,rfl,?_⟩
   grind
theorem asS{k n:Nat}(hk:k<=16)(h:n*24<=reachBytes):room k n=true:=by
 unfold room Qy KJ;unfold reachBytes at h;simp only[k0,ye];have:(2*n+192)*k<=(2*n+192)*16:=Nat.mul_le_mul_left _ hk;omega
theorem ag4{α:Type}(l:List α)(i:Nat)(d:α)(h:i < l.length):l.take i++[l.getD i d]=l.take (i+1):=by simp_all
theorem Qb{α β:Type}(f:α->β)(l:List α)(i:Nat)(d:α)(e:β)(h:i < l.length):(l.map f).getD i e=f (l.getD i d):=by grind
theorem aaR{l:List (List UInt8)}{i:Nat}{s:List UInt8}(ay:i<=l.length):(l.take i).contains s=true↔∃k,k < i/\l.getD k []=s:=by
 rw[List.contains_iff_mem];constructor
 . intro h;obtain⟨k,hk,he⟩:=OR h;rw[aal]at hk;refine⟨k,by omega,?_⟩
   grind
 . rintro ⟨k,hk,he⟩
   rw[<-he,Ld (by omega)];have:(l.take i)[k]'(by rw[aal];omega)=l[k]:=List.getElem_take
   grind
def X1(l:List Int)(i:Nat):Int:=if i=0 then 0 else l.getD (i - 1) 0
theorem aHk{l:List Int}{names:List (List UInt8)}{i:Nat}(ay:i < l.length)(dy:names.length=l.length):
 Vf l names i=(decide (X1 l i < l.getD i 0) && decide (1<=l.getD i 0) && decide (l.getD i 0<=1000) && nm (names.getD i []) && !((names.take i).contains (names.getD i []))):=by
 unfold Vf X1;generalize l.getD i 0=x;generalize l.getD (i - 1) 0=y;generalize nm (names.getD i [])=a;generalize (names.take i).contains (names.getD i [])=b;by_cases h0:i=0
 . subst h0;by_cases h1:1<=x
   . have:decide ((0:Int) < x)=true:=by simp;omega
     simp[h1,this]
   . simp[h1]
 . simp only[h0,uJ,LV,Bool.false_or];by_cases h1:1<=x <;> by_cases ah:x<=1000 <;> by_cases b':y < x <;> simp[h1,ah,b']
theorem aEL(l:List r')(a6:l.length*24<=reachBytes):∀(k i:Nat),i+k=l.length->acE (l,l,(l.length:Int),(i:Int),(l.map (·.a8)).take i,(l.map (·.Name)).take i)=some (l,l.map (·.a8),l.map (·.Name))
 | 0,i,h=>by
  have:i=l.length:=by omega
  subst this;rw[acE,aJ (by simp)];rw[adW (by simp),adW (by simp)]
 | k+1,i,h=>by
  have ar:l.length < 9223372036854775807:=by unfold reachBytes at a6;omega
  have ay:i < l.length:=by omega
  rw[acE,ao (by simp;omega),ao (gA ay)];simp only[g',cm,hJ];rw[<-Qb (·.a8) l i I' 0 ay,<-Qb (·.Name) l i I' [] ay,ag4 _ _ _ (by simpa using ay),ag4 _ _ _ (by simpa using ay)];rw[ao (asS (by omega) (by simp;omega)),ao (asS (by omega) (by simp;omega)),j2 (by omega)];exact aEL l a6 k (i+1) (by omega)
theorem aHl{l:List r'}(a6:l.length*24<=reachBytes):∃r,ahf l=some r/\(r=true↔0 < l.length/\(∀i,i < l.length->Vf (l.map (·.a8)) (l.map (·.Name)) i=true)/\l.length<=16):=by
 have h:=aEL l a6 l.length 0 (by omega);have rz:acE (l,l,(l.length:Int),0,[],[])=some (l,l.map (·.a8),l.map (·.Name)):=h;rw[ahf,rz];simp only[g',cm];obtain⟨r,h1,ah⟩:=aJh (l:=l.map (·.a8)) (names:=l.map (·.Name)) (by simp;unfold reachBytes at*;omega) (by simp);rw[SZ]at ah
 grind
theorem aLu(a b:Int):ale (a,b)=some (decide (a < b) && decide (1<=b) && decide (b<=1000)):=by
 rw[ale]
 grind
theorem aTE(l:List r')(a6:l.length <=reachBytes)(i:Nat)(ay:i < l.length):
 ZW (l,(i:Int),0)=some (if((l.map (·.Name)).take i).contains ((l.map (·.Name)).getD i [])=true then .inl false else .inr (l,(i:Int))):=by
 have ar:=Jg a6;have Of:=scan (λk=>ZW (l,(i:Int),(k:Int))) i (λk=>!(decide ((l.getD k I').Name=(l.getD i I').Name))) (.inl false) (.inr (l,(i:Int)))
  (λk hk=>by
   rw[ZW,ao (by simp;omega),ao (gA (by omega)),ao (gA ay),j2 (by omega)]
   grind)
  (by rw[ZW,aJ (by simp)])
 have u1:ZW (l,(i:Int),((0:Nat):Int))=ZW (l,(i:Int),0):=rfl;simp only[u1]at Of;rw[Qb (·.Name) l i I' [] ay];rcases Of with⟨h1,ah⟩ | ⟨h1,j,ah,b'⟩
 . rw[h1,aJ];rw[aaR (by simp;omega)]
   rintro ⟨k,hk,he⟩
   rw[Qb (·.Name) l k I' [] (by omega)]at he;have:=ah k hk;rw[he]at this;simp at this
 . rw[h1,ao];rw[aaR (by simp;omega)];refine⟨j,ah,?_⟩;rw[Qb (·.Name) l j I' [] (by omega)]
   simpa using b'
theorem aWT{l:List r'}(a6:l.length<=reachBytes):∃r,aj' l=some r/\(r=true↔0 < l.length/\(∀i,i < l.length->Vf (l.map (·.a8)) (l.map (·.Name)) i=true)/\l.length<=16):=by
 have ar:=Jg a6;have Of:=scan (λi=>aaZ (l,X1 (l.map (·.a8)) i,(i:Int))) l.length (Vf (l.map (·.a8)) (l.map (·.Name))) (.inl false) (.inr l)
  (λi ay=>by
   rw[aaZ,ao (by simp;omega),ao (gA ay),aLu,aTE l a6 i ay,aHk (by simpa using ay) (by simp)];simp only[g',cm,hJ];rw[<-Qb (·.a8) l i I' 0 ay,<-Qb (·.Name) l i I' [] ay,aos];generalize (decide (X1 (l.map (·.a8)) i < (l.map (·.a8)).getD i 0) && decide (1<=(l.map (·.a8)).getD i 0) && decide ((l.map (·.a8)).getD i 0<=1000))=q
   rw[ao (by rw[gA ay];rfl)];cases q with
   | false=>rfl
   | true=>
    simp only[N2,Uw,qb,cm,Zf];cases nm ((l.map (·.Name)).getD i [])with
    | false=>rfl
    | true=>
     simp only[N2,OB,q2,uJ,Zf];cases b7:((l.map (·.Name)).take i).contains ((l.map (·.Name)).getD i [])with
     | true=>simp
     | false=>
      simp only[q2,uJ,Uw,qb];rw[ao (gA ay),j2 (by omega)];have:X1 (l.map (·.a8)) (i+1)=(l.getD i I').a8:=by
       unfold X1
       grind
      grind)
  (by rw[aaZ,aJ (by simp)])
 have u1:aaZ (l,X1 (l.map (·.a8)) 0,((0:Nat):Int))=aaZ (l,0,0):=rfl;simp only[u1]at Of;rw[aj'];rcases Of with⟨h1,ah⟩ | ⟨h1,j,ah,b'⟩
 . rw[h1];refine⟨_,rfl,?_⟩
   grind
 . rw[h1];refine⟨false,rfl,?_⟩
   grind
theorem aUw{l:List r'}(a6:l.length*24<=reachBytes):∃r,ahf l=some r/\aj' l=some r:=by
 obtain⟨r,h1,ah⟩:=aHl a6;obtain⟨q,b',ea⟩:=aWT (l:=l) (by unfold reachBytes at*;omega)
 grind
structure LY (t:f7):Prop where
 syms:t.hl.length*24<=reachBytes
 OP:t.b8.length*24<=reachBytes
 V1:∀m,m∈t.b8->qa m.j0
theorem Qz{n:Nat}(h:n*24<=reachBytes):n<=reachBytes:=by unfold reachBytes at*;omega
theorem aTF{a b:li}:a=b↔a.a8=b.a8/\a.Name=b.Name/\a.e2=b.e2/\a.sJ=b.sJ/\a.nk=b.nk/\a.j0=b.j0:=by cases a;cases b;simp
theorem XF(x:li):(⟨x.a8,x.Name,x.e2,x.sJ,x.nk,ak.eta x.j0⟩:li)=x:=by cases x;simp[ak.h7]
theorem aCI{a b:li}:(bif bif bif bif decide (a.a8=b.a8)then decide (a.Name=b.Name)else false then decide (a.e2=b.e2)else false then MK a.sJ b.sJ else false then MK a.nk b.nk else false)=true↔a.a8=b.a8/\a.Name=b.Name/\a.e2=b.e2/\a.sJ=b.sJ/\a.nk=b.nk:=by
 simp only[an1,MK]
 grind
theorem aMs{a b:li}{q:Bool}(eg:q=true↔a.a8=b.a8 /\ a.Name=b.Name /\ a.e2=b.e2 /\ a.sJ=b.sJ /\ a.nk=b.nk){x:Option Bool}(ad:Lj x a.j0 b.j0):
 Lj (some q >>=λt37=>(if t37=true then x else some false) >>=λr=>some (bif t37 then r else false)) a b:=by
 obtain⟨rx,h1,ah⟩:=ad;subst h1;refine⟨q && rx,by cases q <;> cases rx <;> rfl,?_⟩;rw[aTF,k0,eg,ah];constructor
 . rintro ⟨⟨a1,a2,a3,a4,a5⟩,MG⟩;exact⟨a1,a2,a3,a4,a5,MG⟩
 . rintro ⟨a1,a2,a3,a4,a5,MG⟩;exact⟨⟨a1,a2,a3,a4,a5⟩,MG⟩
theorem aUx{a:li}(h:qa a.j0)(b:li):Lj (alc (a,b)) a b:=by
 rw[alc];simp only[aqR,ak.h7];exact aMs aCI (aqI h _)
theorem aUy{a:li}(h:qa a.j0)(b:li):Lj (UV (a,b)) a b:=by
 rw[UV];simp only[aqR,ak.h7];exact aMs aCI (av3 h _)
theorem aEY {f:li×li -> Option Bool} {Ky:Type} {g:Ky} {a b:List li} (a6:a.length=b.length) (ih:∀x,x∈a -> ∀y,Lj (f (x,y)) x y) (L:Nat -> Option (Bool ⊕ Ky))
 (QR:∀i,i < a.length->L i=(f (a.getD i ii,b.getD i ii) >>=λr=>if(!r)=true then some (.inl false)else L (i+1)))
 (Y3:L a.length=some (.inr g)):(L 0=some (.inr g)/\a=b)\/(L 0=some (.inl false)/\a≠b):=by
 have x':∀(i:Nat) (h1:i < a.length) (ah:i < b.length),Lj (f (a.getD i ii,b.getD i ii)) a[i] b[i]:=by grind
 have bo:∀(i:Nat) (h1:i < a.length) (ah:i < b.length),(f (a.getD i ii,b.getD i ii)).getD false=true↔a[i]=b[i]:=by
  intro i h1 ah;obtain⟨r,b',ea⟩:=x' i h1 ah
  grind
 have:=scan L a.length (λi=>(f (a.getD i ii,b.getD i ii)).getD false) (.inl false) (.inr g)
  (λi ay=>by
   obtain⟨r,h1,ah⟩:=x' i ay (by omega)
   grind) Y3
 rcases this with⟨h1,ah⟩ | ⟨h1,j,ah,b'⟩
 . exact .inl ⟨h1,(aho a6 bo).1 ah⟩
 . refine .inr ⟨h1,λe=>?_⟩;have:=(aho a6 bo).2 e j ah;rw[b']at this;cases this
theorem aS6{a b:List li}(ch:a.length<=reachBytes)(a7:∀m,m∈a->qa m.j0):Lj (apn (a,b)) a b:=by
 rw[apn];by_cases a6:a.length=b.length
 . rw[aJ (by simp;omega)];have ar:=Jg ch;have hs:=aEY (g:=()) a6 (f:=alc) (λx ad y=>aUx (a7 x ad) y) (λi=>aaB (b,a,(a.length:Int),(i:Int)))
    (λi ay=>by
     rw[aaB,ao (by simp;omega),ao (gA ay)];simp only[g',cm,hJ,XF]
     rw[ao (gA (by omega)),j2 (by omega)])
    (by rw[aaB,aJ (by simp)])
   have u1:aaB (b,a,(a.length:Int),((0:Nat):Int))=aaB (b,a,(a.length:Int),0):=rfl;simp only[u1]at hs;rcases hs with⟨h1,ah⟩ | ⟨h1,ah⟩
   . rw[h1];exact⟨true,rfl,by simp[ah]⟩
   . rw[h1];exact⟨false,rfl,by simp[ah]⟩
 . rw[ao (by simp;omega)];exact ah2 a6
theorem aGr{a b:f7}:a=b↔a.Kind=b.Kind/\a.Name=b.Name/\a.hU=b.hU/\a.hV=b.hV/\a.Max=b.Max/\a.Key=b.Key/\a.ev=b.ev/\a.Open=b.Open/\a.hl=b.hl/\a.b8=b.b8:=by
 cases a;cases b
 grind
theorem aYn{a b:f7}:(bif bif bif bif bif bif bif decide (a.Kind=b.Kind)then decide (a.Name=b.Name)else false then decide (a.hU=b.hU)else false then decide (a.hV=b.hV)else false then decide (a.Max=b.Max)else false then decide (a.Key=b.Key)else false then decide (a.ev=b.ev)else false then MK a.Open b.Open else false)=true↔
 a.Kind=b.Kind/\a.Name=b.Name/\a.hU=b.hU/\a.hV=b.hV/\a.Max=b.Max/\a.Key=b.Key/\a.ev=b.ev/\a.Open=b.Open:=by
 simp only[an1,MK];by_cases h1:a.Kind=b.Kind <;> by_cases ah:a.Name=b.Name <;> by_cases b':a.hU=b.hU <;> by_cases ea:a.hV=b.hV <;> simp[h1,ah,b',ea]
 by_cases hf:a.Max=b.Max <;> by_cases tJ:a.Key=b.Key <;> by_cases M1:a.ev=b.ev <;> simp[hf,tJ,M1]
theorem R9{a:f7}(h:LY a)(b:f7):Lj (P8 (a,b)) a b:=by
 rw[P8];obtain⟨rs,s1,s2⟩:=aYm (a:=a.hl) (b:=b.hl) (Qz h.syms);obtain⟨aLx,m1,m2⟩:=aS6 (a:=a.b8) (b:=b.b8) (Qz h.OP) h.V1;have e8:=aYn (a:=a) (b:=b)
 generalize (bif bif bif bif bif bif bif decide (a.Kind=b.Kind)then decide (a.Name=b.Name)else false then decide (a.hU=b.hU)else false then decide (a.hV=b.hV)else false then decide (a.Max=b.Max)else false then decide (a.Key=b.Key)else false then decide (a.ev=b.ev)else false then MK a.Open b.Open else false)=q at e8 ⊢
 simp only[g',cm];rw[s1,m1];refine⟨q && rs && aLx,by cases q <;> cases rs <;> cases aLx <;> rfl,?_⟩;rw[aGr,k0,k0,e8,s2,m2]
 grind
theorem aqk(a:f7):(⟨a.Kind,a.Name,a.hU,a.hV,a.Max,a.hl,a.b8,a.Key,a.ev,a.Open⟩:f7)=a:=by cases a;rfl
theorem abg{a:f7}(h:LY a)(b:f7):Lj (apk (a,b)) a b:=by
 rw[apk];simp only[aqk];by_cases hf:(a.Kind=b.Kind/\a.Name=b.Name/\a.hU=b.hU/\a.hV=b.hV/\a.Max=b.Max/\a.Key=b.Key/\a.ev=b.ev/\a.Open=b.Open)/\a.hl.length=b.hl.length/\a.b8.length=b.b8.length
 . obtain⟨⟨eh,hj,I2,U4,QH,aiz,aB',e8⟩,arq,amm⟩:=hf;rw[aJ (by simp[eh,hj,I2,U4,QH,aiz,aB',e8,arq,amm,MK])];have ar:=Jg (Qz h.syms);have aiV:=Jg (Qz h.OP)
   have Of:=scan (λi=>aaI ((i:Int),a,b)) a.hl.length (λi=>PM (a.hl.getD i I').a8 (b.hl.getD i I').a8 && (TD (a.hl.getD i I').Name (b.hl.getD i I').Name && true)) (.inl false) (.inr (a,b))
    (λi V8=>by
     rw[aaI,ao (by simp;omega),ao (gA V8)];simp only[g',cm,hJ];rw[ao (gA (by omega)),j2 (by omega)]
     grind)
    (by rw[aaI,aJ (by simp)])
   have h0:aaI (((0:Nat):Int),a,b)=aaI (0,a,b):=rfl;simp only[h0]at Of;have bo:∀(i:Nat) (h1:i < a.hl.length) (ah:i < b.hl.length),(PM (a.hl.getD i I').a8 (b.hl.getD i I').a8 && (TD (a.hl.getD i I').Name (b.hl.getD i I').Name && true))=true↔a.hl[i]=b.hl[i]:=λi h1 ah=>by rw[Ld h1,Ld ah];exact aJf
   rcases Of with⟨g1,g2⟩ | ⟨g1,j,g2,g3⟩
   . have aiY:=(aho arq bo).1 g2;rw[g1];simp only[g',cm];have hs:=aEY (g:=()) amm (f:=UV) (λx ad y=>aUy (h.V1 x ad) y) (λi=>aaJ ((i:Int),a,b))
      (λi ay=>by
       rw[aaJ,ao (by simp;omega),ao (gA ay)];simp only[g',cm,hJ,XF]
       rw[ao (gA (by omega)),j2 (by omega)])
      (by rw[aaJ,aJ (by simp)])
     have u1:aaJ (((0:Nat):Int),a,b)=aaJ (0,a,b):=rfl;simp only[u1]at hs;rcases hs with⟨hg,hv⟩ | ⟨hg,hv⟩
     . rw[hg];refine⟨true,rfl,?_⟩;rw[aGr]
       grind
     . rw[hg];refine⟨false,rfl,?_⟩
       grind
   . rw[g1];refine⟨false,rfl,?_⟩
     grind
 . rw[ao]
   . refine⟨false,rfl,?_⟩
     grind
   . simp only[an1,MK];by_cases s4:a.Kind=b.Kind <;> by_cases qi:a.Name=b.Name <;> by_cases JY:a.hU=b.hU <;> by_cases Xs:a.hV=b.hV <;> simp[s4,qi,JY,Xs]
     grind
def abk(v:ak):Bool:=(XO (v,eJ)).getD false
theorem aWU{v:ak}(h:qa v):XO (v,eJ)=some (abk v):=by
 obtain⟨r,h1,ah⟩:=aqI h eJ;unfold abk;rw[h1];rfl
theorem aWV{v:ak}(h:qa v):UE (v,eJ)=some (abk v):=by
 obtain⟨r,h1,ah⟩:=aqI h eJ;obtain⟨q,b',ea⟩:=av3 h eJ;unfold abk;rw[h1,b']
 grind
theorem aVo{v:ak}(h:qa v):apG v=some (abk v):=by
 rw[apG,ak.h7];have:=aWU h;unfold eJ at this
 grind
def YQ(union:Bool)(m:li):Bool:=(union && (m.sJ || m.nk)) || (m.sJ && m.nk) || (!m.nk && !abk m.j0)
theorem j1{α:Type}{l:List α}{i:Nat}(h:i < l.length)(d:α):l.getD i d∈l:=by grind
theorem aEM{t:f7}(h:LY t):∃r,aeE t=some r/\(r=true↔(∀i,i < t.b8.length->YQ (decide (t.Kind=6)) (t.b8.getD i ii)=false)/\(t.Kind=5\/0 < t.b8.length)/\(∀i,i < t.b8.length->Vf (t.b8.map (·.a8)) (t.b8.map (·.Name)) i=true)/\t.b8.length<=16):=by
 have ar:t.b8.length < 9223372036854775807:=Jg (Qz h.OP);have Of:=scan (λi=>aba (t.b8,(t.b8.length:Int),(i:Int),t,(t.b8.map (·.a8)).take i,(t.b8.map (·.Name)).take i)) t.b8.length (λi=>!(YQ (decide (t.Kind=6)) (t.b8.getD i ii))) (.inl false) (.inr (t,t.b8.map (·.a8),t.b8.map (·.Name)))
  (λi ay=>by
   have ga:=aVo (h.V1 _ (j1 ay ii));rw[aba,ao (by simp;omega),ao (gA ay)];simp only[g',cm,hJ,ak.h7];rw[<-Qb (·.a8) t.b8 i ii 0 ay,<-Qb (·.Name) t.b8 i ii [] ay,ag4 _ _ _ (by simpa using ay),ag4 _ _ _ (by simpa using ay)];have al:((t.b8.map (·.a8)).take (i+1)).length*24<=reachBytes:=by
    refine RD (K0 _ ?_) h.OP;simp;omega
   have ML:((t.b8.map (·.Name)).take (i+1)).length*24<=reachBytes:=by grind
   rw[ao (asS (by omega) al),ao (asS (by omega) ML),j2 (by omega),ga];unfold YQ
   grind)
  (by
   rw[aba,aJ (by simp)]
   rw[adW (by simp),adW (by simp)])
 have u1:aba (t.b8,(t.b8.length:Int),((0:Nat):Int),t,(t.b8.map (·.a8)).take 0,(t.b8.map (·.Name)).take 0)=aba (t.b8,(t.b8.length:Int),0,t,[],[]):=rfl;simp only[u1]at Of;rw[aeE];obtain⟨r,h1,ah⟩:=aJh (l:=t.b8.map (·.a8)) (names:=t.b8.map (·.Name)) (by simpa using Qz h.OP) (by simp);rw[SZ]at ah
 rcases Of with⟨g1,g2⟩ | ⟨g1,j,g2,g3⟩
 . rw[g1];simp only[g',cm];rw[h1];refine⟨(bif decide (t.Kind=5)then true else decide (0 < ((t.b8.map (·.a8)).length:Int))) && r,?_,?_⟩
   . grind
   grind
 grind
theorem aTG(l:List li)(record:Bool)(a6:l.length <=reachBytes)(i:Nat)(ay:i < l.length):
 Zx (l,record,(i:Int),0,l.getD i ii)=some (if((l.map (·.Name)).take i).contains ((l.map (·.Name)).getD i [])=true then .inl false else .inr (l,record,(i:Int),l.getD i ii)):=by
 have ar:=Jg a6;have Of:=scan (λk=>Zx (l,record,(i:Int),(k:Int),l.getD i ii)) i (λk=>!(decide ((l.getD k ii).Name=(l.getD i ii).Name))) (.inl false) (.inr (l,record,(i:Int),l.getD i ii))
  (λk hk=>by
   rw[Zx,ao (by simp;omega),ao (gA (by omega)),j2 (by omega)];simp only[hJ,XF]
   grind)
  (by rw[Zx,aJ (by simp),XF])
 have u1:Zx (l,record,(i:Int),((0:Nat):Int),l.getD i ii)=Zx (l,record,(i:Int),0,l.getD i ii):=rfl;simp only[u1]at Of;rw[Qb (·.Name) l i ii [] ay];rcases Of with⟨h1,ah⟩ | ⟨h1,j,ah,b'⟩
 . rw[h1,aJ];rw[aaR (by simp;omega)]
   rintro ⟨k,hk,he⟩
   rw[Qb (·.Name) l k ii [] (by omega)]at he;have:=ah k hk;rw[he]at this;simp at this
 . rw[h1,ao];rw[aaR (by simp;omega)];refine⟨j,ah,?_⟩;rw[Qb (·.Name) l j ii [] (by omega)]
   simpa using b'
theorem aTH{l:List li}{record:Bool}(a6:l.length<=reachBytes)(a7:∀m,m∈l->qa m.j0):∃r,ahz (l,record)=some r/\(r=true↔(∀i,i < l.length->YQ (!record) (l.getD i ii)=false)/\(record=true\/0 < l.length)/\(∀i,i < l.length->Vf (l.map (·.a8)) (l.map (·.Name)) i=true)/\l.length<=16):=by
 have ar:=Jg a6;have Of:=scan (λi=>aa0 (l,record,X1 (l.map (·.a8)) i,(i:Int))) l.length (λi=>Vf (l.map (·.a8)) (l.map (·.Name)) i && !(YQ (!record) (l.getD i ii))) (.inl false) (.inr (l,record))
  (λi ay=>by
   have ga:=aWV (a7 _ (j1 ay ii));unfold eJ at ga;rw[aa0,ao (by simp;omega),ao (gA ay)];simp only[g',cm,hJ,ak.h7,XF,aHk (l:=l.map (·.a8)) (names:=l.map (·.Name)) (i:=i) (by simpa using ay) (by simp)];rw[aTG l record a6 i ay,ga];have aZq:X1 (l.map (·.a8)) (i+1)=(l.getD i ii).a8:=by
    unfold X1
    grind
   rw[<-Qb (·.a8) l i ii 0 ay,<-Qb (·.Name) l i ii [] ay,aLu,aos];simp only[cm];generalize (decide (X1 (l.map (·.a8)) i < (l.map (·.a8)).getD i 0) && decide (1<=(l.map (·.a8)).getD i 0) && decide ((l.map (·.a8)).getD i 0<=1000))=q;cases q with
   | false=>simp
   | true=>
    simp only[N2,Uw,qb,cm,Zf];cases nm ((l.map (·.Name)).getD i [])with
    | false=>simp
    | true=>
     simp only[N2,Zf,S0,OB];unfold YQ;cases record <;> cases (l.getD i ii).sJ <;> cases (l.getD i ii).nk <;> cases abk (l.getD i ii).j0 <;>
      simp only[N2,Uw,Bool.or_self,Bool.and_self,Bool.or_true,ass,Bool.and_true,Bool.and_false,Bool.false_and,Zf,Bool.false_or,S0,RG,OB,qb,uJ,q2,cm] <;>
      first
       | rfl
       | (cases b7:((l.map (·.Name)).take i).contains ((l.map (·.Name)).getD i [])with
        | true=>simp
        | false=>
         simp only[q2,uJ,Uw,qb];rw[j2 (by omega),aZq]
         try rfl))
  (by rw[aa0,aJ (by simp)])
 have u1:aa0 (l,record,X1 (l.map (·.a8)) 0,((0:Nat):Int))=aa0 (l,record,0,0):=rfl;simp only[u1]at Of;rw[ahz];rcases Of with⟨h1,ah⟩ | ⟨h1,j,ah,b'⟩
 . rw[h1];refine⟨_,rfl,?_⟩
   grind
 . rw[h1];refine⟨false,rfl,?_⟩
   grind
theorem aFD{t:f7}(h:LY t)(hk:t.Kind=5\/t.Kind=6):∃r,aeE t=some r/\ahz (t.b8,decide (t.Kind=5))=some r:=by
 obtain⟨r,h1,ah⟩:=aEM h;obtain⟨q,b',ea⟩:=aTH (l:=t.b8) (record:=decide (t.Kind=5)) (Qz h.OP) h.V1;have hu:(!(decide (t.Kind=5)))=decide (t.Kind=6):=by grind
 grind
theorem LY.plain{k l h m kk e:Int}{n:List UInt8}{S:List r'}{Ms:List li}{o:Bool}(dx:S.length*24<=reachBytes)(J8:Ms.length*24<=reachBytes)(a7:∀x,x∈Ms->qa x.j0):LY ⟨k,n,l,h,m,S,Ms,kk,e,o⟩:=⟨dx,J8,a7⟩
theorem aON{N:List UInt8}{L H M K E:Int}{S:List r'}{Ms:List li}{O:Bool}(h:LY (⟨1,N,L,H,M,S,Ms,K,E,O⟩:f7)):∃r,N6 (⟨1,N,L,H,M,S,Ms,K,E,O⟩:f7)=some r/\Pz (⟨1,N,L,H,M,S,Ms,K,E,O⟩:f7)=some r/\(r=true->N=[]):=by
 obtain⟨a,a1,a2⟩:=R9 (a:=(⟨0,N,L,H,M,S,Ms,K,E,O⟩:f7)) ⟨h.syms,h.OP,h.V1⟩ (⟨0,[],0,0,0,[],[],0,0,false⟩:f7);obtain⟨b,b1,b2⟩:=abg h (⟨1,[],0,0,0,[],[],0,0,false⟩:f7);have JC:a=b:=by grind
 subst JC;refine⟨a,by simp[N6,a1],by simp[Pz,Yx,UG,b1];try (cases a <;> rfl),λar=>?_⟩
 grind
theorem aOO{N:List UInt8}{L H M K E:Int}{S:List r'}{Ms:List li}{O:Bool}(h:LY (⟨2,N,L,H,M,S,Ms,K,E,O⟩:f7)):∃r,N6 (⟨2,N,L,H,M,S,Ms,K,E,O⟩:f7)=some r/\Pz (⟨2,N,L,H,M,S,Ms,K,E,O⟩:f7)=some r/\(r=true->N=[]):=by
 obtain⟨a,a1,a2⟩:=R9 (a:=(⟨0,N,0,0,M,S,Ms,K,E,O⟩:f7)) ⟨h.syms,h.OP,h.V1⟩ (⟨0,[],0,0,0,[],[],0,0,false⟩:f7);obtain⟨b,b1,b2⟩:=abg h (⟨2,[],L,H,0,[],[],0,0,false⟩:f7);have JC:a=b:=by grind
 subst JC;refine⟨decide (L<=H) && a,?_,?_,λar=>?_⟩
 . simp only[N6]
   grind
 . simp only[Pz];generalize decide (L<=H)=q;simp[Yx,UG,b1]
   grind
 grind
theorem aOP{N:List UInt8}{L H M K E:Int}{S:List r'}{Ms:List li}{O:Bool}(h:LY (⟨3,N,L,H,M,S,Ms,K,E,O⟩:f7)):∃r,N6 (⟨3,N,L,H,M,S,Ms,K,E,O⟩:f7)=some r/\Pz (⟨3,N,L,H,M,S,Ms,K,E,O⟩:f7)=some r/\(r=true->N=[]):=by
 obtain⟨a,a1,a2⟩:=R9 (a:=(⟨0,N,L,H,0,S,Ms,K,E,O⟩:f7)) ⟨h.syms,h.OP,h.V1⟩ (⟨0,[],0,0,0,[],[],0,0,false⟩:f7);obtain⟨b,b1,b2⟩:=abg h (⟨3,[],0,0,M,[],[],0,0,false⟩:f7);have JC:a=b:=by grind
 subst JC;refine⟨(bif decide (0<=M)then decide (M<=200)else false) && a,?_,?_,λar=>?_⟩
 . simp only[N6]
   grind
 . simp only[Pz];generalize (bif decide (0<=M)then decide (M<=200)else false)=q;simp[Yx,UG,b1]
   grind
 grind
theorem aOQ{N:List UInt8}{L H M K E:Int}{S:List r'}{Ms:List li}{O:Bool}(h:LY (⟨4,N,L,H,M,S,Ms,K,E,O⟩:f7)):∃r,N6 (⟨4,N,L,H,M,S,Ms,K,E,O⟩:f7)=some r/\Pz (⟨4,N,L,H,M,S,Ms,K,E,O⟩:f7)=some r/\(r=true->N≠[]):=by
 obtain⟨a,a1,a2⟩:=R9 (a:=(⟨0,[],L,H,M,[],Ms,K,E,false⟩:f7)) ⟨(by simp),h.OP,h.V1⟩ (⟨0,[],0,0,0,[],[],0,0,false⟩:f7);obtain⟨b,b1,b2⟩:=abg h (⟨4,N,0,0,0,S,[],0,0,O⟩:f7);have JC:a=b:=by grind
 subst JC;obtain⟨q,s4,qi⟩:=aUw (l:=S) h.syms;refine⟨nm N && q && a,?_,?_,λar=>?_⟩
 . simp only[N6];simp[a1,s4,ago]
   grind
 . simp only[Pz]
   try simp at qi
   simp[Yx,UG,b1,qi,aos]
   grind
 . simp only[k0]at ar;exact ayO ar.1.1
theorem aOR{N:List UInt8}{L H M K E:Int}{S:List r'}{Ms:List li}{O:Bool}(h:LY (⟨5,N,L,H,M,S,Ms,K,E,O⟩:f7)):∃r,N6 (⟨5,N,L,H,M,S,Ms,K,E,O⟩:f7)=some r/\Pz (⟨5,N,L,H,M,S,Ms,K,E,O⟩:f7)=some r/\(r=true->N≠[]):=by
 obtain⟨a,a1,a2⟩:=R9 (a:=(⟨0,[],L,H,M,S,[],K,E,(bif O then decide ((5:Int)=5)else false)⟩:f7)) ⟨h.syms,(by simp),(by simp)⟩ (⟨0,[],0,0,0,[],[],0,0,false⟩:f7);obtain⟨b,b1,b2⟩:=abg h (⟨5,N,0,0,0,[],Ms,0,0,false⟩:f7);have JC:a=b:=by grind
 subst JC;obtain⟨q,s4,qi⟩:=aFD h (by simp);refine⟨nm N && q && a,?_,?_,λar=>?_⟩
 . simp only[N6]
   try simp at a1
   try simp at s4
   simp[a1,s4,ago]
   grind
 . simp only[Pz]
   try simp at qi
   simp[Yx,UG,b1,qi,aos]
   grind
 . simp only[k0]at ar;exact ayO ar.1.1
theorem aOS{N:List UInt8}{L H M K E:Int}{S:List r'}{Ms:List li}{O:Bool}(h:LY (⟨6,N,L,H,M,S,Ms,K,E,O⟩:f7)):∃r,N6 (⟨6,N,L,H,M,S,Ms,K,E,O⟩:f7)=some r/\Pz (⟨6,N,L,H,M,S,Ms,K,E,O⟩:f7)=some r/\(r=true->N≠[]):=by
 obtain⟨a,a1,a2⟩:=R9 (a:=(⟨0,[],L,H,M,S,[],K,E,(bif O then decide ((6:Int)=5)else false)⟩:f7)) ⟨h.syms,(by simp),(by simp)⟩ (⟨0,[],0,0,0,[],[],0,0,false⟩:f7);obtain⟨b,b1,b2⟩:=abg h (⟨6,N,0,0,0,[],Ms,0,0,O⟩:f7);have JC:a=b:=by grind
 subst JC;obtain⟨q,s4,qi⟩:=aFD h (by simp);refine⟨nm N && q && a,?_,?_,λar=>?_⟩
 . simp only[N6]
   try simp at a1
   try simp at s4
   simp[a1,s4,ago]
   grind
 . simp only[Pz]
   try simp at qi
   simp[Yx,UG,b1,qi,aos]
   grind
 . simp only[k0]at ar;exact ayO ar.1.1
theorem aOT{N:List UInt8}{L H M K E:Int}{S:List r'}{Ms:List li}{O:Bool}(h:LY (⟨7,N,L,H,M,S,Ms,K,E,O⟩:f7)):∃r,N6 (⟨7,N,L,H,M,S,Ms,K,E,O⟩:f7)=some r/\Pz (⟨7,N,L,H,M,S,Ms,K,E,O⟩:f7)=some r/\(r=true->N=[]):=by
 obtain⟨a,a1,a2⟩:=R9 (a:=(⟨0,N,L,H,0,S,Ms,K,0,O⟩:f7)) ⟨h.syms,h.OP,h.V1⟩ (⟨0,[],0,0,0,[],[],0,0,false⟩:f7);obtain⟨b,b1,b2⟩:=abg h (⟨7,[],0,0,M,[],[],0,E,false⟩:f7);have JC:a=b:=by grind
 subst JC;refine⟨(bif decide (0<=M)then decide (M<=50)else false) && a,?_,?_,λar=>?_⟩
 . simp only[N6]
   grind
 . simp only[Pz];generalize (bif decide (0<=M)then decide (M<=50)else false)=q;simp[Yx,UG,b1]
   grind
 grind
theorem aOU{N:List UInt8}{L H M K E:Int}{S:List r'}{Ms:List li}{O:Bool}(h:LY (⟨8,N,L,H,M,S,Ms,K,E,O⟩:f7)):∃r,N6 (⟨8,N,L,H,M,S,Ms,K,E,O⟩:f7)=some r/\Pz (⟨8,N,L,H,M,S,Ms,K,E,O⟩:f7)=some r/\(r=true->N=[]):=by
 obtain⟨a,a1,a2⟩:=R9 (a:=(⟨0,N,L,H,0,S,Ms,0,0,O⟩:f7)) ⟨h.syms,h.OP,h.V1⟩ (⟨0,[],0,0,0,[],[],0,0,false⟩:f7);obtain⟨b,b1,b2⟩:=abg h (⟨8,[],0,0,M,[],[],K,E,false⟩:f7);have JC:a=b:=by grind
 subst JC;refine⟨(bif decide (0<=M)then decide (M<=50)else false) && a,?_,?_,λar=>?_⟩
 . simp only[N6]
   grind
 . simp only[Pz];generalize (bif decide (0<=M)then decide (M<=50)else false)=q;simp[Yx,UG,b1]
   grind
 grind
theorem aOV{N:List UInt8}{L H M K E:Int}{S:List r'}{Ms:List li}{O:Bool}(h:LY (⟨9,N,L,H,M,S,Ms,K,E,O⟩:f7)):∃r,N6 (⟨9,N,L,H,M,S,Ms,K,E,O⟩:f7)=some r/\Pz (⟨9,N,L,H,M,S,Ms,K,E,O⟩:f7)=some r/\(r=true->N=[]):=by
 obtain⟨a,a1,a2⟩:=R9 (a:=(⟨0,N,L,H,M,S,Ms,K,0,O⟩:f7)) ⟨h.syms,h.OP,h.V1⟩ (⟨0,[],0,0,0,[],[],0,0,false⟩:f7);obtain⟨b,b1,b2⟩:=abg h (⟨9,[],0,0,0,[],[],0,E,false⟩:f7);have JC:a=b:=by grind
 subst JC;refine⟨a,by simp[N6,a1],by simp[Pz,Yx,UG,b1];try (cases a <;> rfl),λar=>?_⟩
 grind
def VF(k:Int):Bool:=bif bif decide (k=4)then true else decide (k=5)then true else decide (k=6)
theorem aFE{t:f7}(h:LY t):∃r,N6 t=some r/\Pz t=some r/\(r=true->1<=t.Kind/\t.Kind<=9/\VF t.Kind=!(decide (t.Name=[]))):=by
 by_cases hk:1<=t.Kind/\t.Kind<=9
 . obtain⟨Q4,N,L,H,M,S,Ms,K,E,O⟩:=t;simp only at hk;have:Q4=1\/Q4=2\/Q4=3\/Q4=4\/Q4=5\/Q4=6\/Q4=7\/Q4=8\/Q4=9:=by omega
   rcases this with rfl | rfl | rfl | rfl | rfl | rfl | rfl | rfl | rfl
   . obtain⟨r,h1,ah,b'⟩:=aON h;exact⟨r,h1,ah,λar=>⟨hk.1,hk.2,by simp[VF,b' ar]⟩⟩
   . obtain⟨r,h1,ah,b'⟩:=aOO h;exact⟨r,h1,ah,λar=>⟨hk.1,hk.2,by simp[VF,b' ar]⟩⟩
   . obtain⟨r,h1,ah,b'⟩:=aOP h;exact⟨r,h1,ah,λar=>⟨hk.1,hk.2,by simp[VF,b' ar]⟩⟩
   . obtain⟨r,h1,ah,b'⟩:=aOQ h;exact⟨r,h1,ah,λar=>⟨hk.1,hk.2,by simp[VF,b' ar]⟩⟩
   . obtain⟨r,h1,ah,b'⟩:=aOR h;exact⟨r,h1,ah,λar=>⟨hk.1,hk.2,by simp[VF,b' ar]⟩⟩
   . obtain⟨r,h1,ah,b'⟩:=aOS h;exact⟨r,h1,ah,λar=>⟨hk.1,hk.2,by simp[VF,b' ar]⟩⟩
   . obtain⟨r,h1,ah,b'⟩:=aOT h;exact⟨r,h1,ah,λar=>⟨hk.1,hk.2,by simp[VF,b' ar]⟩⟩
   . obtain⟨r,h1,ah,b'⟩:=aOU h;exact⟨r,h1,ah,λar=>⟨hk.1,hk.2,by simp[VF,b' ar]⟩⟩
   . obtain⟨r,h1,ah,b'⟩:=aOV h;exact⟨r,h1,ah,λar=>⟨hk.1,hk.2,by simp[VF,b' ar]⟩⟩
 . refine⟨false,?_,?_,λh=>by cases h⟩
   . have e:∀k:Int,1<=k->k<=9->¬t.Kind=k:=λk h1 ah e=>hk (by omega)
     simp[N6,e 1,e 2,e 3,e 4,e 5,e 6,e 7,e 8,e 9]
   . have e:(bif decide (t.Kind < 1)then true else decide (9 < t.Kind))=true:=by grind
     rw[Pz,e];rfl
def LL(t:f7):List Int:=t.b8.map (·.e2)++(if t.Kind=8 then[t.Key]else[])++(if 7<=t.Kind then[t.ev]else[])
theorem ahQ{k n:Nat}(hk:k<=16){m:Nat}(h:m*24<=reachBytes)(dy:n<=m+2):room k n=true:=by
 unfold room Qy KJ;unfold reachBytes at h;simp only[k0,ye];have:(2*n+192)*k<=(2*n+192)*16:=Nat.mul_le_mul_left _ hk;omega
theorem aEN(t:f7)(h:t.b8.length*24<=reachBytes):∀(k i:Nat),i+k=t.b8.length->acK (t.b8,(t.b8.length:Int),(i:Int),t,(t.b8.map (·.e2)).take i)=some (t,t.b8.map (·.e2))
 | 0,i,ay=>by rw[acK,aJ (by simp;omega),adW (by simp;omega)]
 | k+1,i,ay=>by
  have ar:=Jg (Qz h);have ec:i < t.b8.length:=by omega
  rw[acK,ao (by simp;omega),ao (gA ec)];simp only[g',cm,hJ];rw[<-Qb (·.e2) t.b8 i ii 0 ec,ag4 _ _ _ (by simpa using ec),j2 (by omega),ao (ahQ (m:=t.b8.length) (by omega) h (by simp;omega))];exact aEN t h k (i+1) (by omega)
theorem aWW{t:f7}(h:t.b8.length*24<=reachBytes):apQ t=some (LL t):=by
 have h0:=aEN t h t.b8.length 0 (by omega);have Jj:acK (t.b8,(t.b8.length:Int),0,t,[])=some (t,t.b8.map (·.e2)):=h0;rw[apQ,Jj];unfold LL;simp only[g',cm];have kJ:room 8 (t.b8.map (·.e2)++[t.Key]).length=true:=ahQ (m:=t.b8.length) (by omega) h (by simp)
 have oJ:room 8 (t.b8.map (·.e2)++[t.Key]++[t.ev]).length=true:=ahQ (m:=t.b8.length) (by omega) h (by simp)
 grind
theorem aEO(t:f7)(h:t.b8.length*24<=reachBytes):∀(k i:Nat),i+k=t.b8.length->acC ((i:Int),t,(t.b8.map (·.e2)).take i)=some (t,t.b8.map (·.e2))
 | 0,i,ay=>by rw[acC,aJ (by simp;omega),adW (by simp;omega)]
 | k+1,i,ay=>by
  have ar:=Jg (Qz h);have ec:i < t.b8.length:=by omega
  rw[acC,ao (by simp;omega),ao (gA ec)];simp only[g',cm,hJ];rw[<-Qb (·.e2) t.b8 i ii 0 ec,ag4 _ _ _ (by simpa using ec),j2 (by omega),ao (ahQ (m:=t.b8.length) (by omega) h (by simp;omega))];exact aEO t h k (i+1) (by omega)
theorem aWX{t:f7}(h:t.b8.length*24<=reachBytes)(hk:t.Kind<=9):ap7 t=some (LL t):=by
 have h0:=aEO t h t.b8.length 0 (by omega);have Jj:acC (0,t,[])=some (t,t.b8.map (·.e2)):=h0;rw[ap7,Jj];unfold LL;simp only[g',cm];have kJ:room 8 (t.b8.map (·.e2)++[t.Key]).length=true:=ahQ (m:=t.b8.length) (by omega) h (by simp)
 have oJ:room 8 (t.b8.map (·.e2)++[t.Key]++[t.ev]).length=true:=ahQ (m:=t.b8.length) (by omega) h (by simp)
 grind
theorem aWY(k:Int):UG k=some (VF k):=rfl
def agm(k:Int):Bool:=bif decide (1<=k)then decide (k<=4)else false
def Xr(n:Nat)(u:Int):Bool:=bif decide (u < 0)then true else decide ((n:Int)<=u)
def aeb(ts:List f7)(i:Nat):Option Int:=
 let t:=ts.getD i hz
 if !((N6 t).getD false)then some 1
 else if !(decide (t.Name=[])) && ((ts.map (·.Name)).take i).contains t.Name then some 1
 else if(LL t).any (Xr ts.length)then some 4
 else if decide (t.Kind=8) && !(agm (ts.getD t.Key.toNat hz).Kind)then some 1
 else none
theorem awk{ts:List f7}{i:Nat}{t:f7}{r:Bool}(vk:ts.getD i hz=t)(f1:N6 t=some r):
 aeb ts i=if(!r)=true then some 1 else if(!(decide (t.Name=[])) && ((ts.map (·.Name)).take i).contains t.Name)=true then some 1 else if(LL t).any (Xr ts.length)=true then some 4 else if(decide (t.Kind=8) && !(agm (ts.getD t.Key.toNat hz).Kind))=true then some 1 else none:=by
 subst vk;unfold aeb;simp only[f1,Xo]
theorem aGs{Ky:Type}(L:Nat -> Option Ky)(l:List Int)(q:Int -> Bool)(bad afV:Ky)(QR:∀i,i < l.length -> L i=if q (l.getD i 0)=true then some bad else L (i+1))(Y3:L l.length=some afV):
 L 0=some (if l.any q=true then bad else afV):=by
 have:=scan L l.length (λi=>!(q (l.getD i 0))) bad afV (λi ay=>by grind) Y3;rcases this with⟨h1,ah⟩ | ⟨h1,j,ah,b'⟩
 . rw[h1,aJ];intro h;rw[ajg]at h;obtain⟨x,ad,eg⟩:=h;obtain⟨j,c7,he⟩:=OR ad;have:=ah j c7;rw[Ld c7,he,eg]at this;cases this
 . rw[h1,ao];rw[ajg];refine⟨l.getD j 0,j1 ah 0,by simpa using b'⟩
theorem aFF{t:f7}(h:t.b8.length*24<=reachBytes):(LL t).length < 9223372036854775807:=by
 unfold LL reachBytes at*
 grind
theorem aYo {L:Nat -> Option (Int ⊕ Unit)} {L':Nat -> Option (Int ⊕ Unit)} {n:Nat} {step:Nat -> Option Int}
 (h:∀i,i < n->L i=match step i with | some e=>some (.inl e) | none=>L (i+1)) (he:L n=some (.inr ()))
 (rz:∀i,i < n->L' i=match step i with | some e=>some (.inl e) | none=>L' (i+1)) (L0:L' n=some (.inr ())):∃o,L 0=some o/\L' 0=some o/\((o= .inr ()/\∀i,i < n->step i=none)\/∃i e,i < n/\step i=some e/\o= .inl e):=by
 have key:∀k i,i+k=n->∃o,L i=some o/\L' i=some o/\((o= .inr ()/\∀m,i<=m->m < n->step m=none)\/∃m e,m < n/\step m=some e/\o= .inl e):=by
  intro k
  induction k with
  | zero => intro i ay; have : i = n := by omega
            subst this;exact⟨_,he,L0,.inl ⟨rfl,λm h1 ah=>by omega⟩⟩
  | succ k ih=>
   intro i ay;rw[h i (by omega),rz i (by omega)];cases u':step i with
   | some e=>exact⟨_,rfl,rfl,.inr ⟨i,e,by omega,u',rfl⟩⟩
   | none=>
    obtain⟨o,KY,KZ,JD⟩:=ih (i+1) (by omega)
    grind
 obtain⟨o,KY,KZ,JD⟩:=key n 0 (by omega);refine⟨o,KY,KZ,?_⟩;rcases JD with⟨a,b⟩ | h
 . exact .inl ⟨a,λi ay=>b i (RE _) ay⟩
 . exact .inr h
theorem aJi{ts:List f7}{t:f7}(hu:(LL t).any (Xr ts.length)=false)(Lu:t.Kind=8):ez t.Key ts.length=true:=by
 have hm:t.Key∈LL t:=by unfold LL;simp[Lu]
 rw[ay4]at hu;have:=hu _ hm;unfold Xr at this;unfold ez
 grind
theorem aYp(ts:List f7)(t:f7)(i:Nat)(ay:i < ts.length)(ar:ts.length < 9223372036854775807):
 Zy ((i:Int),0,ts,t.Kind,t.Name,t.hU,t.hV,t.Max,t.hl,t.b8,t.Key,t.ev,t.Open)=some (if(VF t.Kind && ((ts.map (·.Name)).take i).contains t.Name)=true then .inl 1 else .inr ((i:Int),ts,t.Kind,t.Name,t.hU,t.hV,t.Max,t.hl,t.b8,t.Key,t.ev,t.Open)):=by
 have Of:=scan (λk=>Zy ((i:Int),(k:Int),ts,t.Kind,t.Name,t.hU,t.hV,t.Max,t.hl,t.b8,t.Key,t.ev,t.Open)) i (λk=>!(bif VF t.Kind then decide ((ts.getD k hz).Name=t.Name)else false)) (.inl 1) (.inr ((i:Int),ts,t.Kind,t.Name,t.hU,t.hV,t.Max,t.hl,t.b8,t.Key,t.ev,t.Open))
  (λk hk=>by
   rw[Zy,ao (by simp;omega),aWY];simp only[g',cm];rw[ao (by rw[gA (show k < ts.length by omega)];rfl),j2 (by omega),hJ]
   grind)
  (by rw[Zy,aJ (by simp)])
 have u1:Zy ((i:Int),((0:Nat):Int),ts,t.Kind,t.Name,t.hU,t.hV,t.Max,t.hl,t.b8,t.Key,t.ev,t.Open)=Zy ((i:Int),0,ts,t.Kind,t.Name,t.hU,t.hV,t.Max,t.hl,t.b8,t.Key,t.ev,t.Open):=rfl;simp only[u1]at Of;rcases Of with⟨h1,ah⟩ | ⟨h1,j,ah,b'⟩
 . rw[h1,aJ];rw[k0,aaR (by simp;omega)]
   rintro ⟨dy,k,hk,he⟩
   rw[Qb (·.Name) ts k hz [] (by omega)]at he;have:=ah k hk;rw[dy,he]at this;simp at this
 . rw[h1,ao];rw[k0,aaR (by simp;omega)];cases dy:VF t.Kind with
   | false=>rw[dy]at b';cases b'
   | true=>
    refine⟨rfl,j,ah,?_⟩;rw[Qb (·.Name) ts j hz [] (by omega)];rw[dy]at b'
    simpa using b'
theorem aYq(ts:List f7)(t:f7)(i:Nat)(l:List Int)(a6:l.length < 9223372036854775807):
 ac5 ((i:Int),l,0,ts,t.Kind,t.Name,t.hU,t.hV,t.Max,t.hl,t.b8,t.Key,t.ev,t.Open)=some (if l.any (Xr ts.length)=true then .inl 4 else .inr ((i:Int),ts,t.Kind,t.Name,t.hU,t.hV,t.Max,t.hl,t.b8,t.Key,t.ev,t.Open)):=
 aGs (λj=>ac5 ((i:Int),l,(j:Int),ts,t.Kind,t.Name,t.hU,t.hV,t.Max,t.hl,t.b8,t.Key,t.ev,t.Open)) l (Xr ts.length) (.inl 4) (.inr ((i:Int),ts,t.Kind,t.Name,t.hU,t.hV,t.Max,t.hl,t.b8,t.Key,t.ev,t.Open))
  (λj c7=>by
   rw[ac5,ao (by simp;omega),ao (gA c7)];simp only[g',cm];rw[ao (by rw[gA c7];rfl),j2 (by omega)]
   rfl)
  (by rw[ac5,aJ (by simp)])
theorem aTI{s:hI}(hs:s.Types.length<=reachBytes)(ht:∀t,t∈s.Types->LY t):∃e,ahl s=some e/\aha s=some e/\(e=0->s.Types.length<=32/\∀i,i < s.Types.length->aeb s.Types i=none)/\((s.Types.length<=32/\∀i,i < s.Types.length->aeb s.Types i=none)->e=0):=by
 rw[ahl,aha];by_cases aJz:32 < s.Types.length
 . exact⟨3,by rw[ao (by simp;omega)],by rw[ao (by simp;omega)],λh=>(by cases h),λh=>absurd h.1 (by omega)⟩
 . rw[aJ (by simp;omega),aJ (by simp;omega)];have ar:s.Types.length < 9223372036854775807:=by omega
   have:=aYo (L:=λi=>acI (s.Types,(s.Types.length:Int),(i:Int),s.Types,Wn ((s.Types.map (·.Name)).take i))) (L':=λi=>aa6 ((i:Int),s.Types)) (n:=s.Types.length) (step:=aeb s.Types)
    (λi ay=>by
     have Np:=ht _ (j1 ay hz);obtain⟨r,f1,f2,f3⟩:=aFE Np;rw[acI,ao (by simp;omega),ao (gA ay)];simp only[g',cm,hJ];generalize vk:s.Types.getD i hz=t at*;rw[awk vk f1,f1];simp only[cm,aEJ];cases r with
     | false=>rw[ao (show(bif (!false)then true else bif (!(decide (t.Name=[])))then((s.Types.map (·.Name)).take i).contains t.Name else false)=true from rfl),ao (show(!false)=true from rfl)]
     | true=>
      rw[aJ (show ¬((!true)=true) by simp)];by_cases a7:(!(decide (t.Name=[])) && ((s.Types.map (·.Name)).take i).contains t.Name)=true
      . grind
      . have MM:¬((bif (!(decide (t.Name=[])))then((s.Types.map (·.Name)).take i).contains t.Name else false)=true):=by grind
        rw[aJ (show ¬((bif (!true)then true else bif (!(decide (t.Name=[])))then((s.Types.map (·.Name)).take i).contains t.Name else false)=true)from MM),aJ a7,aWW Np.OP];simp only[cm];have ar2:=aFF Np.OP
        have yb:=aGs (λj=>aaL (s.Types,(s.Types.length:Int),(i:Int),LL t,((LL t).length:Int),(j:Int),s.Types,Sr (Wn ((s.Types.map (·.Name)).take i)) t.Name,t.Kind,t.Name,t.hU,t.hV,t.Max,t.hl,t.b8,t.Key,t.ev,t.Open)) (LL t) (Xr s.Types.length) (.inl 4)
         (.inr (s.Types,(s.Types.length:Int),(i:Int),s.Types,Sr (Wn ((s.Types.map (·.Name)).take i)) t.Name,t.Kind,t.Name,t.hU,t.hV,t.Max,t.hl,t.b8,t.Key,t.ev,t.Open))
         (λj c7=>by
          rw[aaL,ao (by simp;omega),ao (gA c7),j2 (by omega)]
          rfl)
         (by rw[aaL,aJ (by simp)])
        have u1:aaL (s.Types,(s.Types.length:Int),(i:Int),LL t,((LL t).length:Int),((0:Nat):Int),s.Types,Sr (Wn ((s.Types.map (·.Name)).take i)) t.Name,t.Kind,t.Name,t.hU,t.hV,t.Max,t.hl,t.b8,t.Key,t.ev,t.Open)=aaL (s.Types,(s.Types.length:Int),(i:Int),LL t,((LL t).length:Int),0,s.Types,Sr (Wn ((s.Types.map (·.Name)).take i)) t.Name,t.Kind,t.Name,t.hU,t.hV,t.Max,t.hl,t.b8,t.Key,t.ev,t.Open):=rfl
        rw[<-u1,yb];cases hu:(LL t).any (Xr s.Types.length)with
        | true=>rfl
        | false=>
         simp only[q2,uJ,cm];have a0w:Sr (Wn ((s.Types.map (·.Name)).take i)) t.Name=Wn ((s.Types.map (·.Name)).take (i+1)):=by
          have h1:=aEK (l:=s.Types.map (·.Name)) (i:=i) (by simpa using ay)
          grind
         rw[a0w,j2 (by omega)];by_cases Lu:t.Kind=8
         . have hk:=aJi hu Lu;rw[ao (by rw[hk];rfl),ao (by rw[hk];rfl)];simp only[Lu,M6,RG,Zf,agm]
           grind
         grind)
    (by rw[acI,aJ (by simp)])
    (λi ay=>by
     have Np:=ht _ (j1 ay hz);obtain⟨r,f1,f2,f3⟩:=aFE Np;rw[aa6,ao (by simp;omega),ao (gA ay)];simp only[g',cm,hJ];generalize vk:s.Types.getD i hz=t at*;rw[awk vk f1,f2,aYp s.Types t i ay ar];simp only[cm];cases r with
     | false=>rfl
     | true=>
      obtain⟨hg,hv,h3⟩:=f3 rfl;rw[aJ (show ¬((!true)=true) by simp),aJ (show ¬((!true)=true) by simp),h3];cases a7:(!(decide (t.Name=[])) && ((s.Types.map (·.Name)).take i).contains t.Name)with
      | true=>rfl
      | false=>
       simp only[q2,uJ,aqk];rw[aWX Np.OP hv];simp only[cm];rw[aYq s.Types t i (LL t) (aFF Np.OP)];cases hu:(LL t).any (Xr s.Types.length)with
       | true=>rfl
       | false=>
        simp only[q2,uJ,cm];rw[j2 (by omega)];by_cases Lu:t.Kind=8
        . have hk:=aJi hu Lu;rw[ao (by rw[hk];rfl)];simp only[Lu,M6,qb,ako,cm,RG,Zf];show(if(!(agm (s.Types.getD t.Key.toNat hz).Kind))=true then some (.inl 1)else aa6 (((i+1:Nat):Int),s.Types))=_
          grind
        grind)
    (by rw[aa6,aJ (by simp)])
   obtain⟨o,h1,ah,b'⟩:=this;have KR:acI (s.Types,(s.Types.length:Int),0,s.Types,[])=some o:=h1;have Xd:aa6 (0,s.Types)=some o:=ah;rw[KR,Xd];rcases b' with⟨rfl,ea⟩ | ⟨i,e,ea,hf,rfl⟩
   . simp_all
   . refine⟨_,rfl,rfl,λh0=>?_,λh=>by have:=h.2 i ea;rw[hf]at this;cases this⟩
     exfalso
     subst h0;unfold aeb at hf
     grind
theorem ae9{Ky:Type}(L:Nat -> Option Ky)(n:Nat)(q:Nat -> Bool)(ax1:Nat -> Ky)(ayK:Ky)(QR:∀i,i < n -> L i=if q i=true then some (ax1 i)else L (i+1))(Y3:L n=some ayK):
 (∃j,j < n/\q j=true/\(∀k,k < j->q k=false)/\L 0=some (ax1 j))\/((∀k,k < n->q k=false)/\L 0=some ayK):=by
 have key:∀k i,i+k=n->(∀m,m < i->q m=false)->L 0=L i->(∃j,j < n/\q j=true/\(∀k,k < j->q k=false)/\L 0=some (ax1 j))\/((∀k,k < n->q k=false)/\L 0=some ayK):=by
  intro k
  induction k with
  | zero => intro i ay hm h0; have : i = n := by omega
            subst this;exact .inr ⟨hm,by rw[h0,Y3]⟩
  | succ k ih=>
   intro i ay hm h0;rw[QR i (by omega)]at h0
   grind
 exact key n 0 (by omega) (λm hm=>by omega) rfl
def ahR(l:List li)(id:Int)(r:Int×Bool):Prop:=(∃j:Nat,j < l.length/\(l.getD j ii).a8=id/\(∀k,k < j->(l.getD k ii).a8≠id)/\r=((j:Int),true))\/((∀k,k < l.length->(l.getD k ii).a8≠id)/\r=(0,false))
theorem aSH{l:List li}{id:Int}{r q:Int×Bool}(h1:ahR l id r)(ah:ahR l id q):r=q:=by
 rcases h1 with⟨j,a1,a2,a3,rfl⟩ | ⟨a1,rfl⟩ <;> rcases ah with⟨k,b1,b2,k9,rfl⟩ | ⟨b1,rfl⟩
 . grind
 . grind
 . grind
 . rfl
theorem aqd{t:f7}{id:Int}(a6:t.b8.length < 9223372036854775807):∃r,UH (t,id)=some r/\ahR t.b8 id r:=by
 rw[UH,ats];have h:=ae9 (λi=>aaC (t.b8,(t.b8.length:Int),(i:Int),id)) t.b8.length (λi=>decide ((t.b8.getD i ii).a8=id)) (λi=>.inl ((i:Int),id)) (.inr id)
  (λi ay=>by
   rw[aaC,ao (by simp;omega),ao (gA ay)];simp only[g',cm,hJ,XF,aus]
   rw[j2 (by omega)])
  (by rw[aaC,aJ (by simp)])
 have u1:aaC (t.b8,(t.b8.length:Int),((0:Nat):Int),id)=aaC (t.b8,(t.b8.length:Int),0,id):=rfl;simp only[u1]at h;rcases h with⟨j,h1,ah,b',ea⟩ | ⟨h1,ea⟩
 . rw[ea];refine⟨((j:Int),true),?_,.inl ⟨j,h1,by simpa using ah,λk hk=>by simpa using b' k hk,rfl⟩⟩;have eh:Rz (j:Int) 0=(j:Int):=by unfold Rz;omega
   simp_all
 . rw[ea];exact⟨(0,false),rfl,.inr ⟨λk hk=>by simpa using h1 k hk,rfl⟩⟩
theorem auC{t:f7}{id:Int}(a6:t.b8.length < 9223372036854775807):∃r,Tj (t,id)=some r/\ahR t.b8 id r:=by
 rw[Tj];have h:=ae9 (λi=>aa4 (id,(i:Int),t)) t.b8.length (λi=>decide ((t.b8.getD i ii).a8=id)) (λi=>.inl ((i:Int),true)) (.inr ())
  (λi ay=>by
   rw[aa4,ao (by simp;omega),ao (gA ay),j2 (by omega)]
   grind)
  (by rw[aa4,aJ (by simp)])
 have u1:aa4 (id,((0:Nat):Int),t)=aa4 (id,0,t):=rfl;simp only[u1]at h;rcases h with⟨j,h1,ah,b',ea⟩ | ⟨h1,ea⟩
 . rw[ea];exact⟨((j:Int),true),rfl,.inl ⟨j,h1,by simpa using ah,λk hk=>by simpa using b' k hk,rfl⟩⟩
 . rw[ea];exact⟨(0,false),rfl,.inr ⟨λk hk=>by simpa using h1 k hk,rfl⟩⟩
theorem YA{t:f7}(id:Int)(a6:t.b8.length < 9223372036854775807):∃r,UH (t,id)=some r/\Tj (t,id)=some r/\ahR t.b8 id r:=by
 obtain⟨r,h1,ah⟩:=aqd (id:=id) a6;obtain⟨q,b',ea⟩:=auC (id:=id) a6;have:=aSH ah ea
 grind
def ahS(l:List r')(id:Int)(r:Int×Bool):Prop:=(∃j:Nat,j < l.length/\(l.getD j I').a8=id/\(∀k,k < j->(l.getD k I').a8≠id)/\r=((j:Int),true))\/((∀k,k < l.length->(l.getD k I').a8≠id)/\r=(0,false))
theorem aSI{l:List r'}{id:Int}{r q:Int×Bool}(h1:ahS l id r)(ah:ahS l id q):r=q:=by
 rcases h1 with⟨j,a1,a2,a3,rfl⟩ | ⟨a1,rfl⟩ <;> rcases ah with⟨k,b1,b2,k9,rfl⟩ | ⟨b1,rfl⟩
 . grind
 . grind
 . grind
 . rfl
theorem akK{t:f7}(id:Int)(a6:t.hl.length < 9223372036854775807):∃r,aky (t,id)=some r/\ag5 (t,id)=some r/\ahS t.hl id r:=by
 rw[aky,atC,ag5];have h:=ae9 (λi=>ZV (t.hl,(t.hl.length:Int),(i:Int),id)) t.hl.length (λi=>decide ((t.hl.getD i I').a8=id)) (λi=>.inl ((i:Int),id)) (.inr id)
  (λi ay=>by
   rw[ZV,ao (by simp;omega),ao (gA ay)];simp only[g',cm,hJ,aur]
   rw[j2 (by omega)])
  (by rw[ZV,aJ (by simp)])
 have u1:ZV (t.hl,(t.hl.length:Int),((0:Nat):Int),id)=ZV (t.hl,(t.hl.length:Int),0,id):=rfl;have g:=ae9 (λi=>ZA (id,(i:Int),t)) t.hl.length (λi=>decide ((t.hl.getD i I').a8=id)) (λi=>.inl ((i:Int),true)) (.inr ())
  (λi ay=>by
   rw[ZA,ao (by simp;omega),ao (gA ay),j2 (by omega)]
   grind)
  (by rw[ZA,aJ (by simp)])
 have g0:ZA (id,((0:Nat):Int),t)=ZA (id,0,t):=rfl;simp only[u1]at h;simp only[g0]at g;have vJ:∃r,(ZV (t.hl,(t.hl.length:Int),0,id) >>=λo=>match o with | .inl ha=>some (ha.1,ha.2) | .inr fr=>some ((-1),fr)) >>=(λr=>some (Rz r.1 0,decide (0<=r.1)))=some r/\ahS t.hl id r:=by
  rcases h with⟨j,h1,ah,b',ea⟩ | ⟨h1,ea⟩
  . rw[ea];refine⟨((j:Int),true),?_,.inl ⟨j,h1,by simpa using ah,λk hk=>by simpa using b' k hk,rfl⟩⟩;have eh:Rz (j:Int) 0=(j:Int):=by unfold Rz;omega
    simp_all
  . rw[ea];exact⟨(0,false),rfl,.inr ⟨λk hk=>by simpa using h1 k hk,rfl⟩⟩
 have E1:∃r,(ZA (id,0,t) >>=λo=>match o with | .inl ha=>some (ha.1,ha.2) | .inr fr=>some (0,false))=some r/\ahS t.hl id r:=by
  rcases g with⟨j,h1,ah,b',ea⟩ | ⟨h1,ea⟩
  . rw[ea];exact⟨((j:Int),true),rfl,.inl ⟨j,h1,by simpa using ah,λk hk=>by simpa using b' k hk,rfl⟩⟩
  . rw[ea];exact⟨(0,false),rfl,.inr ⟨λk hk=>by simpa using h1 k hk,rfl⟩⟩
 obtain⟨r,a1,a2⟩:=vJ;obtain⟨q,b1,b2⟩:=E1;have:=aSI a2 b2
 grind
def Po(n:Int):Int:=if 0<=n then 2*n else -2*n - 1
theorem aHm{a b:Int}(h:Po a=Po b):a=b:=by
 unfold Po at h;split at h <;> split at h <;> omega
def nc(n:Int):Prop:= -9223372036854775808<=n/\n<=9223372036854775807
theorem afv{n:Int}(h:nc n):ag6 n=some (Po n):=by
 obtain⟨h1,ah⟩:=h;rw[ag6];unfold Po;by_cases h0:0<=n
 . rw[ao (by simp[h0]),ao h0];obtain⟨k,rfl⟩:∃k:Nat,n=(k:Int):=⟨n.toNat,by omega⟩
   rw[Q2 (by omega)];have:=agq (a:=2) (b:=k) (by omega)
   grind
 . rw[aJ (by simp[h0]),aJ h0];rw[UJ (by omega) (by omega),Q7 (by omega) (by omega)];obtain⟨k,hk⟩:∃k:Nat,0 - (n+1)=(k:Int):=⟨(0 - (n+1)).toNat,by omega⟩
   rw[hk,Q2 (by omega)];have b':=agq (a:=2) (b:=k) (by omega);have adr:Nv .u64 2 (k:Int)=((2*k:Nat):Int):=b';rw[adr];have ea:=afx (a:=2*k) (b:=1) (by omega)
   grind
theorem aVp(a:Nat)(h:a < 18446744073709551616):agS .u64 (a:Int) 0=(a:Int):=by
 have e:(BitVec.ofInt 64 (a:Int) ^^^ BitVec.ofInt 64 (0:Int)).toNat=a:=by grind
 show IntKind.u64.wrap (((BitVec.ofInt 64 (a:Int) ^^^ BitVec.ofInt 64 (0:Int)).toNat:Nat):Int)=_;rw[e];exact Wt (by omega) (by omega)
theorem aVq(a:Nat)(h:a < 18446744073709551616):agS .u64 (a:Int) 18446744073709551615=((18446744073709551615 - a:Nat):Int):=by
 have e:(BitVec.ofInt 64 (a:Int) ^^^ BitVec.ofInt 64 (18446744073709551615:Int)).toNat=18446744073709551615 - a:=by
  have h1:BitVec.ofInt 64 (18446744073709551615:Int)=BitVec.allOnes 64:=by decide
  rw[h1,ajq,BitVec.xor_allOnes,BitVec.toNat_not,ajf,ajM,aak h]
 all_goals (try omega)
 show IntKind.u64.wrap (((BitVec.ofInt 64 (a:Int) ^^^ BitVec.ofInt 64 (18446744073709551615:Int)).toNat:Nat):Int)=_;rw[e];exact Wt (by omega) (by omega)
theorem a15{n:Int}(h:nc n):Xu .i64 n 63=if 0<=n then 0 else -1:=by
 obtain⟨h1,ah⟩:=h;unfold Xu;have e:((2:Int) ^ min (63:Int).toNat IntKind.i64.bits)=9223372036854775808:=by decide
 grind
theorem axm{n:Int}(h:nc n):ahh n=some (Po n):=by
 rw[ahh,a15 h];obtain⟨h1,ah⟩:=h;unfold Po;have hs:∀m:Int,Zm .u64 m 1=IntKind.u64.wrap (m*2):=by
  intro m;unfold Zm;rfl
 rw[hs]
 congr 1
 by_cases h0:0<=n
 . rw[ao h0,ao h0];obtain⟨k,rfl⟩:∃k:Nat,n=(k:Int):=⟨n.toNat,by omega⟩
   rw[Q2 (by omega),Wt (by omega) (by omega)];have:jJ .u64 0=0:=by decide
   rw[this];have:=aVp (2*k) (by omega)
   grind
 . rw[aJ h0,aJ h0];have:jJ .u64 (-1)=18446744073709551615:=by decide
   rw[this];obtain⟨k,hk⟩:∃k:Nat,n+9223372036854775808=(k:Int):=⟨(n+9223372036854775808).toNat,by omega⟩
   have e:IntKind.u64.wrap (jJ .u64 n*2)=((2*k:Nat):Int):=by
    unfold jJ;rw[IntKind.wrap_u64,IntKind.wrap_u64];omega
   rw[e,aVq _ (by omega)];omega
theorem aNo(a b:Int):apR (a,b)=some (if a < b then -1 else if b < a then 1 else 0):=by
 rw[apR];simp only[aqQ,g',cm,M6,N2,q2,uJ]
 grind
theorem aA1(a b:Int):akz (a,b)=some (if a < b then -1 else if b < a then 1 else 0):=by
 rw[akz];simp only[apS,g',cm,M6,N2,q2,uJ]
 grind
theorem aNp(a b:List UInt8):aqi (a,b)=some (if Op.bytesLess a b=true then -1 else if(Op.bytesLess a b || decide (a=b))=true then 0 else 1):=by
 rw[aqi];simp only[apT,g',cm,M6,N2,q2,uJ]
 grind
theorem a1s(a b:Int):aqB [a,b]=some (if a≠0 then a else b):=by
 rw[aqB];have h0:aco (0,[a,b],((2:Nat):Int),((0:Nat):Int))=if a≠0 then some (.inl a)else(if b≠0 then some (.inl b)else some (.inr 0)):=by
  rw[aco,ao (by decide),ao (show ez ((0:Nat):Int) ([a,b]:List Int).length=true from gA (k:=0) (n:=2) (by omega))];simp only[g',cm,hJ,Vj];by_cases ch:a=0
  . rw[aJ (by simp[ch]),aJ (by simp[ch])];have eh:e0 .i64 ((0:Nat):Int) 1=((1:Nat):Int):=j2 (by omega);rw[eh,aco,ao (by decide),ao (show ez ((1:Nat):Int) ([a,b]:List Int).length=true from gA (k:=1) (n:=2) (by omega))];simp only[g',cm,hJ,anX,Vj];by_cases al:b=0
    . rw[aJ (by simp[al]),aJ (by simp[al])];have hj:e0 .i64 ((1:Nat):Int) 1=((2:Nat):Int):=j2 (by omega);rw[hj,aco,aJ (by decide)]
    grind
  grind
 grind
theorem aEc :∀a:List UInt8,Op.bytesLess a a=false
 | []=>rfl
 | x::r=>by
  simp[Op.bytesLess,aEc r]
theorem apJ{a b:ak}(ch:nc a.hX)(al:nc b.hX):∃r,PP (a,b)=some r/\ZB (a,b)=some r:=by
 rw[PP,ZB];by_cases hk:a.Kind=b.Kind
 . rw[aJ (show ¬((!(decide (a.Kind=b.Kind)))=true) by simp[hk]),aJ (show ¬((!(decide (a.Kind=b.Kind)))=true) by simp[hk])];by_cases hg:a.Kind=1
   . rw[ao (show decide (a.Kind=1)=true by simp[hg]),ao (show decide (a.Kind=1)=true by simp[hg])];simp only[VH];cases MK a.oi b.oi <;> cases b.oi <;> exact⟨_,rfl,rfl⟩
   . rw[aJ (show ¬(decide (a.Kind=1)=true) by simp[hg]),aJ (show ¬(decide (a.Kind=1)=true) by simp[hg])];by_cases hv:a.Kind=2
     . rw[ao (show decide (a.Kind=2)=true by simp[hv]),ao (show decide (a.Kind=2)=true by simp[hv]),axm ch,axm al,afv ch,afv al];simp only[g',cm,aNo,VH];by_cases he:a.hX=b.hX
       . grind
       . have hG:Po a.hX≠Po b.hX:=λh=>he (aHm h)
         grind
     . rw[aJ (show ¬(decide (a.Kind=2)=true) by simp[hv]),aJ (show ¬(decide (a.Kind=2)=true) by simp[hv])];by_cases h3:a.Kind=3
       . rw[ao (show decide (a.Kind=3)=true by simp[h3]),ao (show decide (a.Kind=3)=true by simp[h3])];simp only[g',cm,aA1,aNp,a1s,VH];by_cases a6:a.js.length=b.js.length
         . have eg:¬((!(decide ((a.js.length:Int)=(b.js.length:Int))))=true):=by simp;omega
           rw[aJ eg,a6];have eh:¬((b.js.length:Int) < (b.js.length:Int)):=by omega
           simp only[eh,uJ,ne_eq,not_true_eq_false];by_cases he:a.js=b.js
           . rw[he,aEc]
             grind
           grind
         grind
       . rw[aJ (show ¬(decide (a.Kind=3)=true) by simp[h3]),aJ (show ¬(decide (a.Kind=3)=true) by simp[h3])];by_cases oo:a.Kind=4
         . rw[ao (show decide (a.Kind=4)=true by simp[oo]),ao (show decide (a.Kind=4)=true by simp[oo])];simp only[g',cm,aA1,VH]
           grind
         simp_all
 simp_all
def aAp(KY KZ:Option Bool):Prop:=∃r,KY=some r/\KZ=some r
theorem awU {Ky ao3:Type} (L:Nat -> Option (Bool ⊕ Ky)) (L':Nat -> Option (Bool ⊕ ao3)) (n:Nat) (p:Nat -> Bool) (g:Ky) (Ou:ao3)
 (h:∀i,i < n->L i=if p i=true then L (i+1)else some (.inl false)) (he:L n=some (.inr g))
 (rz:∀i,i < n->L' i=if p i=true then L' (i+1)else some (.inl false)) (L0:L' n=some (.inr Ou)):
 (L 0=some (.inr g)/\L' 0=some (.inr Ou)/\∀j,j < n->p j=true)\/(L 0=some (.inl false)/\L' 0=some (.inl false)/\∃j,j < n/\p j=false):=by
 rcases scan L n p (.inl false) (.inr g) h he with⟨a1,a2⟩ | ⟨a1,j,a2,a3⟩ <;> rcases scan L' n p (.inl false) (.inr Ou) rz L0 with⟨b1,b2⟩ | ⟨b1,k,b2,k9⟩
 . exact .inl ⟨a1,b1,a2⟩
 . have:=a2 k b2;rw[k9]at this;cases this
 . have:=b2 j a2;rw[a3]at this;cases this
 . exact .inr ⟨a1,b1,j,a2,a3⟩
def abl(k:Int):Prop:=1<=k/\k<=9
theorem aSJ{v:ak}(hk:abl v.Kind):∃p,apH v=some p/\aeB v=some p/\(p=true->v.Kind≠5->v.Kind≠6->v.Rest=[]):=by
 obtain⟨K,B,ns,S,a8,LW,qx,R⟩:=v;simp only at hk;rw[apH,ak.h7,aeB];have:K=1\/K=2\/K=3\/K=4\/K=5\/K=6\/K=7\/K=8\/K=9:=by unfold abl at hk;omega
 have a3a:∀(x:Int),decide (x=x)=true:=λx=>by simp
 rcases this with rfl | rfl | rfl | rfl | rfl | rfl | rfl | rfl | rfl
 all_goals
  refine⟨_,rfl,?_,?_⟩
  . simp[apz,MK]
    try (cases B <;> simp)
  . simp[apz,MK]
section
variable {ts:List f7} (dy:ts.length < 9223372036854775807) (vk:∀t,t∈ts->LY t) (qs:∀t,t∈ts->abl t.Kind)
def Fit(ts:List f7)(x:ak):Prop:=∀t plain,aAp (VN ((⟨ts⟩:hI),t,x,plain)) (R1 ((⟨ts⟩:hI),t,x,plain))
theorem aFG{l:List ak}(a6:l.length <=reachBytes)(ih:∀x,x∈l -> Fit ts x)(t:Int)(plain:Bool):
 aAp (acS ((⟨ts⟩:hI),t,l,plain)) (ZG ((⟨ts⟩:hI),t,l,plain)):=by
 have ar:=Jg a6
 let p:Nat->Bool:=λi=>(VN ((⟨ts⟩:hI),t,l.getD i eJ,plain)).getD false
 have bo:∀i,i < l.length->VN ((⟨ts⟩:hI),t,l.getD i eJ,plain)=some (p i)/\R1 ((⟨ts⟩:hI),t,l.getD i eJ,plain)=some (p i):=by
  intro i ay;obtain⟨r,h1,ah⟩:=ih _ (j1 ay eJ) t plain
  grind
 have cJ:=ae9 (λi=>acU (l,(l.length:Int),(i:Int),ts,t,plain)) l.length (λi=>!(p i)) (λi=>.inl ((i:Int),ts,t,plain)) (.inr (ts,t,plain))
  (λi ay=>by
   rw[acU,ao (by simp;omega),ao (gA ay),atT];simp only[ak.h7,hJ];rw[(bo i ay).1,j2 (by omega)]
   rfl)
  (by rw[acU,aJ (by simp)])
 have hs:=scan (λi=>VG (t,l,plain,(i:Int),ts)) l.length p (.inl false) (.inr ())
  (λi ay=>by
   rw[VG,ao (by simp;omega),ao (gA ay)];simp only[ak.h7,hJ];rw[(bo i ay).2,j2 (by omega)]
   grind)
  (by rw[VG,aJ (by simp)])
 have eh:acU (l,(l.length:Int),((0:Nat):Int),ts,t,plain)=acU (l,(l.length:Int),0,ts,t,plain):=rfl;have hj:VG (t,l,plain,((0:Nat):Int),ts)=VG (t,l,plain,0,ts):=rfl;simp only[eh]at cJ;simp only[hj]at hs;rw[acS,apo,att,ZG];rcases cJ with⟨j,a1,a2,a3,a4⟩ | ⟨a1,a4⟩ <;> rcases hs with⟨b1,b2⟩ | ⟨b1,k,b2,k9⟩
 . have:=b2 j a1;simp[this]at a2
 . rw[a4,b1];refine⟨false,?_,rfl⟩;have e:decide ((0:Int)<=(j:Int))=true:=by simp
   simp only[g',cm,e,N2]
 . rw[a4,b1];exact⟨true,rfl,rfl⟩
 . have:=a1 k b2;simp[k9]at this
def azD(t:f7)(l:List pI)(i:Nat):Bool:=
 !((UH (t,(l.getD i j').a8)).getD (0,false)).2 && (decide (1<=(l.getD i j').a8) && decide ((l.getD i j').a8<=1000)) && (decide (i=0) || decide ((l.getD (i - 1) j').a8 < (l.getD i j').a8))
theorem aVr{Ky:Type}(Nu f Z:Bool)(Zl:Int)(VC C:Int -> Bool)(X Y:Option Ky)(amQ:Z=true -> VC Zl=true):
 ((if(!Nu)=true then some f else some false) >>=λK8=>some (bif Nu then true else(!K8)) >>=λt131=>some Z >>=λt134=>some Zl >>=λt141=>
  if(VC t141 || (!((!t131) && t134)))=true then if(bif t131 then true else bif t134 then C t141 else false)=true then X else Y else none)=if(!Nu && f && (!Z || !(C Zl)))=true then Y else X:=by
 simp only[g',cm];generalize C Zl=c;cases Z with
 | true=>rw[amQ rfl];cases Nu <;> cases f <;> cases c <;> rfl
 | false=>generalize VC Zl=d;cases Nu <;> cases f <;> cases d <;> cases c <;> rfl
theorem aEZ{Ky:Type}(ZY aAs Z:Bool)(Zl:Int)(VC C:Int -> Bool)(X Y:Option Ky)(aY5:aAs=true)(amQ:Z=true -> VC Zl=true):
 (some ZY >>=λn2=>some (!n2) >>=λt31=>some Z >>=λt34=>
  if(aAs || (!((!t31) && t34)))=true then some Zl >>=λt43=>if(VC t43 || (!((!t31) && t34)))=true then if(bif t31 then true else bif t34 then C t43 else false)=true then X else Y else none else none)=if(ZY && (!Z || !(C Zl)))=true then Y else X:=by
 subst aY5;simp only[g',cm];generalize C Zl=c;cases Z with
 | true=>rw[amQ rfl];cases ZY <;> cases c <;> rfl
 | false=>generalize VC Zl=d;cases ZY <;> cases d <;> cases c <;> rfl
theorem acp{i:Nat}(h:0 < i)(ah:i < 9223372036854775807):BJ .i64 (i:Int) 1=((i - 1:Nat):Int):=by
 rw[Q7 (by omega) (by omega)];omega
theorem a1S{t:f7}(ht:t.b8.length < 9223372036854775807)(v:ak)(a6:v.Rest.length <=reachBytes)(plain:Bool)(ts:List f7):
 let inr:=(plain,ts,v.Kind,v.oi,v.hX,v.js,v.a8,v.eI,v.cy,v.Rest,t.Kind,t.Name,t.hU,t.hV,t.Max,t.hl,t.b8,t.Key,t.ev,t.Open)
 ((WI (plain,v.Rest,(v.Rest.length:Int),0,ts,v,t.Kind,t.Name,t.hU,t.hV,t.Max,t.hl,t.b8,t.Key,t.ev,t.Open)=some (.inr inr)/\acG (t,v.Rest)=some true)\/
  (WI (plain,v.Rest,(v.Rest.length:Int),0,ts,v,t.Kind,t.Name,t.hU,t.hV,t.Max,t.hl,t.b8,t.Key,t.ev,t.Open)=some (.inl false)/\acG (t,v.Rest)=some false)):=by
 intro inr;have ar:=Jg a6;have aKf:∀i,i < v.Rest.length->∀r,UH (t,(v.Rest.getD i j').a8)=some r->azD t v.Rest i=(!r.2 && (bif decide (1<=(v.Rest.getD i j').a8)then decide ((v.Rest.getD i j').a8<=1000)else false) && (!(decide ((0:Int) < (i:Int))) || !(decide ((v.Rest.getD i j').a8<=(v.Rest.getD (BJ .i64 (i:Int) 1).toNat j').a8)))):=by
  intro i ay r hm;unfold azD;rw[hm,Xo];generalize (v.Rest.getD i j').a8=x;by_cases h0:i=0
  . grind
  . have ga:decide ((0:Int) < (i:Int))=true:=by simp;omega
    rw[ga,acp (by omega) (by omega),hJ]
    grind
 have h:=awU (λi=>WI (plain,v.Rest,(v.Rest.length:Int),(i:Int),ts,v,t.Kind,t.Name,t.hU,t.hV,t.Max,t.hl,t.b8,t.Key,t.ev,t.Open)) (λi=>UF (v.Rest,(i:Int),t)) v.Rest.length (azD t v.Rest) inr ()
  (λi ay=>by
   obtain⟨r,h1,_,_⟩:=YA (t:=t) (v.Rest.getD i j').a8 ht;rw[WI,ao (by simp;omega),ao (gA ay),aKf i ay r h1];simp only[hJ,aqk,ak.h7,akR,g',cm];rw[h1,j2 (by omega)]
   exact aVr r.2 (bif decide (1<=(v.Rest.getD i j').a8)then decide ((v.Rest.getD i j').a8<=1000)else false) (decide ((0:Int) < (i:Int))) (BJ .i64 (i:Int) 1) (λj=>ez j v.Rest.length) (λj=>decide ((v.Rest.getD i j').a8<=(v.Rest.getD j.toNat j').a8)) _ _ (λga=>by
    have:0 < i:=by simp at ga;omega
    show ez _ _=true
    rw[acp this (by omega)];exact gA (by omega)))
  (by rw[WI,aJ (by simp)])
  (λi ay=>by
   obtain⟨r,h1,ah,_⟩:=YA (t:=t) (v.Rest.getD i j').a8 ht;rw[UF,ao (by simp;omega),ao (gA ay),aKf i ay r h1];simp only[hJ];rw[ah,j2 (by omega)];have Lx:Tm ((v.Rest.getD i j').a8,r.2)=some ((!r.2) && (bif decide (1<=(v.Rest.getD i j').a8)then decide ((v.Rest.getD i j').a8<=1000)else false)):=by
    rw[Tm]
    grind
   show(if ez (i:Int) v.Rest.length=true then Tm ((v.Rest.getD i j').a8,r.2) >>=_ else none)=_;rw[ao (gA ay),Lx]
   exact aEZ ((!r.2) && (bif decide (1<=(v.Rest.getD i j').a8)then decide ((v.Rest.getD i j').a8<=1000)else false)) (ez (i:Int) v.Rest.length) (decide ((0:Int) < (i:Int))) (BJ .i64 (i:Int) 1) (λj=>ez j v.Rest.length) (λj=>decide ((v.Rest.getD i j').a8<=(v.Rest.getD j.toNat j').a8)) _ _ (gA ay) (λga=>by
    have:0 < i:=by simp at ga;omega
    show ez _ _=true
    rw[acp this (by omega)];exact gA (by omega)))
  (by rw[UF,aJ (by simp)])
 have eh:WI (plain,v.Rest,(v.Rest.length:Int),((0:Nat):Int),ts,v,t.Kind,t.Name,t.hU,t.hV,t.Max,t.hl,t.b8,t.Key,t.ev,t.Open)=WI (plain,v.Rest,(v.Rest.length:Int),0,ts,v,t.Kind,t.Name,t.hU,t.hV,t.Max,t.hl,t.b8,t.Key,t.ev,t.Open):=rfl;have hj:UF (v.Rest,((0:Nat):Int),t)=UF (v.Rest,0,t):=rfl
 simp only[eh,hj]at h;rw[acG];rcases h with⟨h1,ah,_⟩ | ⟨h1,ah,_⟩
 . exact .inl ⟨h1,by rw[ah];rfl⟩
 . exact .inr ⟨h1,by rw[ah];rfl⟩
end
theorem aTJ{ts:List f7}{t:f7}{v:ak}(a6:v.cy.length=t.b8.length)(ar:t.b8.length < 9223372036854775807)(ih:∀x,x∈v.cy -> Fit ts x)(plain:Bool):
 (Yy (plain,t.b8,(t.b8.length:Int),0,ts,v.Kind,v.oi,v.hX,v.js,v.a8,v.eI,v.cy,v.Rest)=some (.inr ())/\RY (plain,0,ts,v,t.Kind,t.Name,t.hU,t.hV,t.Max,t.hl,t.b8,t.Key,t.ev,t.Open)=some (.inr ()))\/
 (Yy (plain,t.b8,(t.b8.length:Int),0,ts,v.Kind,v.oi,v.hX,v.js,v.a8,v.eI,v.cy,v.Rest)=some (.inl false)/\RY (plain,0,ts,v,t.Kind,t.Name,t.hU,t.hV,t.Max,t.hl,t.b8,t.Key,t.ev,t.Open)=some (.inl false)):=by
 let p:Nat->Bool:=λi=>(VN ((⟨ts⟩:hI),(t.b8.getD i ii).e2,v.cy.getD i eJ,plain)).getD false
 have bo:∀i,i < t.b8.length->VN ((⟨ts⟩:hI),(t.b8.getD i ii).e2,v.cy.getD i eJ,plain)=some (p i)/\R1 ((⟨ts⟩:hI),(t.b8.getD i ii).e2,v.cy.getD i eJ,plain)=some (p i):=by
  intro i ay;obtain⟨r,h1,ah⟩:=ih _ (j1 (by omega:i < v.cy.length) eJ) (t.b8.getD i ii).e2 plain
  grind
 have h:=awU (λi=>Yy (plain,t.b8,(t.b8.length:Int),(i:Int),ts,v.Kind,v.oi,v.hX,v.js,v.a8,v.eI,v.cy,v.Rest)) (λi=>RY (plain,(i:Int),ts,v,t.Kind,t.Name,t.hU,t.hV,t.Max,t.hl,t.b8,t.Key,t.ev,t.Open)) t.b8.length p () ()
  (λi ay=>by
   rw[Yy,ao (by simp;omega),ao (gA ay),ao (gA (by omega))];simp only[hJ,ak.h7];rw[(bo i ay).1,j2 (by omega)]
   grind)
  (by rw[Yy,aJ (by simp)])
  (λi ay=>by
   rw[RY,ao (by simp;omega),ao (gA ay),ao (gA (by omega))];simp only[hJ,ak.h7];rw[(bo i ay).2,j2 (by omega)]
   grind)
  (by rw[RY,aJ (by simp;omega)])
 have eh:Yy (plain,t.b8,(t.b8.length:Int),((0:Nat):Int),ts,v.Kind,v.oi,v.hX,v.js,v.a8,v.eI,v.cy,v.Rest)=Yy (plain,t.b8,(t.b8.length:Int),0,ts,v.Kind,v.oi,v.hX,v.js,v.a8,v.eI,v.cy,v.Rest):=rfl
 have hj:RY (plain,((0:Nat):Int),ts,v,t.Kind,t.Name,t.hU,t.hV,t.Max,t.hl,t.b8,t.Key,t.ev,t.Open)=RY (plain,0,ts,v,t.Kind,t.Name,t.hU,t.hV,t.Max,t.hl,t.b8,t.Key,t.ev,t.Open):=rfl;simp only[eh,hj]at h;rcases h with⟨h1,ah,_⟩ | ⟨h1,ah,_⟩
 . exact .inl ⟨h1,ah⟩
 . exact .inr ⟨h1,ah⟩
theorem aid{v:ak}(h:qa v):nc v.hX:=by cases h with | mk _ _ _ _ _ _ _ _ I0 D'=>exact D'
theorem aUz{ts:List f7}{t:f7}{v:ak}(ar:v.eI.length < 9223372036854775807)(hk:∀x,x∈v.eI -> qa x)(plain:Bool):
 let inr:=(plain,ts,v,t.Kind,t.Name,t.hU,t.hV,t.Max,t.hl,t.b8,t.Key,t.ev,t.Open)
 (VJ (plain,1,ts,v,t.Kind,t.Name,t.hU,t.hV,t.Max,t.hl,t.b8,t.Key,t.ev,t.Open)=some (.inr inr)/\Qg (1,v)=some (.inr ()))\/
 (VJ (plain,1,ts,v,t.Kind,t.Name,t.hU,t.hV,t.Max,t.hl,t.b8,t.Key,t.ev,t.Open)=some (.inl false)/\Qg (1,v)=some (.inl false)):=by
 intro inr;by_cases h0:v.eI.length=0
 . left;refine⟨?_,?_⟩
   . rw[VJ,aJ (by simp[h0]),ak.h7]
   . rw[Qg,aJ (by simp[h0])]
 let c:Nat->Int:=λi=>(PP (v.eI.getD i eJ,v.eI.getD (i+1) eJ)).getD 0
 have b7:∀i,i+1 < v.eI.length->PP (v.eI.getD i eJ,v.eI.getD (i+1) eJ)=some (c i)/\ZB (v.eI.getD i eJ,v.eI.getD (i+1) eJ)=some (c i):=by
  intro i ay;obtain⟨r,h1,ah⟩:=apJ (aid (hk _ (j1 (by omega:i < v.eI.length) eJ))) (aid (hk _ (j1 ay eJ)))
  grind
 have h:=awU (λi=>VJ (plain,((i+1:Nat):Int),ts,v,t.Kind,t.Name,t.hU,t.hV,t.Max,t.hl,t.b8,t.Key,t.ev,t.Open)) (λi=>Qg (((i+1:Nat):Int),v)) (v.eI.length - 1) (λi=>!(decide (0<=c i))) inr ()
  (λi ay=>by
   have hs:=acp (i:=i+1) (by omega) (by omega);have Ve:BJ .i64 ((i+1:Nat):Int) 1=(i:Int):=by rw[hs];simp
   rw[VJ,ao (by simp;omega)];simp only[g',cm];rw[Ve,ao (gA (by omega)),ao (gA (by omega))];simp only[hJ,ak.h7];rw[(b7 i (by omega)).1,j2 (by omega)]
   grind)
  (by
   have e:v.eI.length - 1+1=v.eI.length:=by omega
   rw[e,VJ,aJ (by simp),ak.h7])
  (λi ay=>by
   have hs:=acp (i:=i+1) (by omega) (by omega);have Ve:BJ .i64 ((i+1:Nat):Int) 1=(i:Int):=by rw[hs];simp
   rw[Qg,ao (by simp;omega)];simp only[g',cm];rw[Ve,ao (gA (by omega)),ao (gA (by omega))];simp only[hJ,ak.h7];rw[(b7 i (by omega)).2,j2 (by omega)]
   grind)
  (by
   have e:v.eI.length - 1+1=v.eI.length:=by omega
   rw[e,Qg,aJ (by simp)])
 have eh:VJ (plain,((0+1:Nat):Int),ts,v,t.Kind,t.Name,t.hU,t.hV,t.Max,t.hl,t.b8,t.Key,t.ev,t.Open)=VJ (plain,1,ts,v,t.Kind,t.Name,t.hU,t.hV,t.Max,t.hl,t.b8,t.Key,t.ev,t.Open):=rfl;have hj:Qg (((0+1:Nat):Int),v)=Qg (1,v):=rfl;simp only[eh,hj]at h;rcases h with⟨h1,ah,_⟩ | ⟨h1,ah,_⟩
 . exact .inl ⟨h1,ah⟩
 . exact .inr ⟨h1,ah⟩
theorem aEP{α β:Type}{a:List α}{b:List β}(h:decide ((a.length:Int)=(b.length:Int))=true):a.length=b.length:=by grind
theorem aKF{o:Option (Int×Bool)}{r:Int×Bool}(c8:o=some r)(O plain f:Bool):
 (o >>=λh8=>some (bif O then(!plain)else false) >>=λt85=>(if((!h8.2) && t85)=true then some f else some false) >>=λrm=>some (bif h8.2 then true else bif t85 then rm else false))=some (r.2 || (O && !plain && f)):=by
 subst c8;obtain⟨k,Nu⟩:=r;cases Nu <;> cases O <;> cases plain <;> cases f <;> rfl
theorem ayC{o:Option (Int×Bool)}{r:Int×Bool}(c8:o=some r)(O plain f:Bool)(F:Bool -> Option Bool)(q0:F false=some f):
 (o >>=λh8=>some (bif O then(!plain)else false) >>=λt85=>(if((!h8.2) && t85)=true then F h8.2 else some false) >>=λrm=>some (bif h8.2 then true else bif t85 then rm else false))=some (r.2 || (O && !plain && f)):=by
 subst c8;obtain⟨k,Nu⟩:=r;cases Nu <;> cases O <;> cases plain <;> simp[q0]
theorem Ns{o:Option Bool}{r:Bool}(c8:o=some r)(q:Bool):(some q >>=λt244=>(if t244=true then o else some false) >>=λEJ=>some (bif t244 then EJ else false))=some (q && r):=by grind
theorem ayD(c VC aAt f:Bool){X:Option Bool}(Xf:c=true->X=some f)(h1:c=true->VC=true/\aAt=true):(some c >>=λt188=>if(VC || (!t188))=true then if(aAt || (!t188))=true then(if t188=true then X else some false) >>=λOC=>some (bif t188 then OC else false)else none else none)=some (c && f):=by grind
theorem a00(A b q m:Bool){ro:Option Bool}(ar:ro=some q){L:Option (Bool ⊕ Unit)}(vK:A=true -> L=some (if m=true then .inr ()else .inl false)):
 (if(bif (bif false then true else(!true))then true else b)=true then some false else some (!A) >>=λt107=>(if(!t107)=true then ro else some false) >>=λwm=>if(bif t107 then true else(!wm))=true then some false else L >>=λo=>match o with | .inl x=>some x | .inr _=>some true)=some (A && !b && q && m):=by
 subst ar;cases A with
 | false=>cases b <;> rfl
 | true=>
  rw[vK rfl];cases b <;> cases q <;> cases m <;> rfl
theorem ayE(g f hN hR ns E:Bool)(h1:hR=true->ns=true):(some g >>=λt209=>(if t209=true then some f else some false) >>=λMe=>some (bif bif bif t209 then Me else false then hN else false then hR else false) >>=λt226=>if(ns || (!t226))=true then some (bif t226 then E else false)else none)=some (g && f && hN && hR && E):=by grind
theorem aKG(c:Bool){ok aap:Option Bool}{k i:Bool}(hk:ok=some k)(ay:aap=some i){L:Option (Bool ⊕ Unit)}{q:Bool}(vK:L=some (if q=true then .inr ()else .inl false)):
 (some c >>=λt239=>(if(!t239)=true then ok else some false) >>=λS3=>some (bif t239 then true else(!S3)) >>=λt249=>(if(!t249)=true then aap else some false) >>=λNy=>if(bif t249 then true else(!Ny))=true then some false else L >>=λMU=>match MU with | .inl Js=>some Js | .inr _=>some true)=some (!c && k && q && i):=by
 subst hk;subst ay;subst vK;cases c <;> cases k <;> cases q <;> cases i <;> rfl
theorem aUA{ts:List f7}(dy:ts.length < 9223372036854775807)(vk:∀t,t∈ts->LY t)(qs:∀t,t∈ts->abl t.Kind){v:ak}(cv:qa v):Fit ts v:=by
 induction cv with
 | mk v hs h1 ah b' hk ay Um I0 D' Jm p' QU NH=>
  intro t plain;rw[VN,R1];by_cases Vb:(bif decide (t < 0)then true else decide (((⟨ts⟩:hI).Types.length:Int)<=t))=true
  . rw[ao Vb,ao Vb];exact⟨false,rfl,rfl⟩
  . rw[aJ Vb,aJ Vb];have yb:0<=t/\t < ts.length:=by grind
    obtain⟨j,rfl⟩:∃j:Nat,t=(j:Int):=⟨t.toNat,by omega⟩
    have c7:j < ts.length:=by omega
    rw[ao (gA c7),ao (gA c7)];simp only[hJ,ak.h7];have agi:=vk _ (j1 c7 hz);have adG:=qs _ (j1 c7 hz);generalize ts.getD j hz=x at agi adG ⊢;have hm:=Jg (Qz agi.OP);have aiY:=Jg (Qz agi.syms);by_cases V9:v.Kind=x.Kind
    . obtain⟨p,aaq,aoi,agC⟩:=aSJ (v:=v) (by rw[V9];exact adG);rw[aaq,aoi];cases p with
      | false=>exact⟨false,by simp[V9],by simp[V9]⟩
      | true=>
       have af1:=aFG (ts:=ts) ah NH;have af2:=aFG (ts:=ts) h1 QU;obtain⟨K,N,L,H,M,S,Ms,Oj,E,O⟩:=x;obtain⟨Q0,B,ns,Sj,a8,LW,qx,R⟩:=v;simp only at V9;subst V9;have ad2:=agC rfl;simp only at ad2 adG hm aiY h1 ah b';have b7:Q0=1\/Q0=2\/Q0=3\/Q0=4\/Q0=5\/Q0=6\/Q0=7\/Q0=8\/Q0=9:=by unfold abl at adG;omega
       rcases b7 with rfl | rfl | rfl | rfl | rfl | rfl | rfl | rfl | rfl
       . obtain rfl:R=[]:=ad2 (by decide) (by decide);cases plain <;> exact⟨true,rfl,rfl⟩
       . obtain rfl:R=[]:=ad2 (by decide) (by decide);cases plain <;> exact⟨_,rfl,rfl⟩
       . obtain rfl:R=[]:=ad2 (by decide) (by decide);cases plain <;> exact⟨_,rfl,rfl⟩
       . obtain rfl:R=[]:=ad2 (by decide) (by decide);obtain⟨r,kJ,oJ,_⟩:=akK (t:=⟨4,N,L,H,M,S,Ms,Oj,E,O⟩) a8 aiY;have cJ:Tm (a8,false)=some (bif decide (1<=a8)then decide (a8<=1000)else false):=by rfl
         cases plain
         . exact⟨_,aKF kJ O false _,ayC oJ O false _ (λb=>Tm (a8,b)) cJ⟩
         . exact⟨_,aKF kJ O true _,ayC oJ O true _ (λb=>Tm (a8,b)) cJ⟩
       ·
        have a3G:=a1S (t:=⟨5,N,L,H,M,S,Ms,Oj,E,O⟩) hm ⟨5,B,ns,Sj,a8,LW,qx,R⟩ b' plain ts;have JH:decide ((qx.length:Int)=(Ms.length:Int))=true->_:=λvJ=>aTJ (ts:=ts) (t:=⟨5,N,L,H,M,S,Ms,Oj,E,O⟩) (v:=⟨5,B,ns,Sj,a8,LW,qx,R⟩) (aEP vJ) hm NH plain
        have eg:∃q:Bool,WI (plain,R,(R.length:Int),0,ts,⟨5,B,ns,Sj,a8,LW,qx,R⟩,5,N,L,H,M,S,Ms,Oj,E,O)=some (if q=true then .inr (plain,ts,5,B,ns,Sj,a8,LW,qx,R,5,N,L,H,M,S,Ms,Oj,E,O)else .inl false)/\acG (⟨5,N,L,H,M,S,Ms,Oj,E,O⟩,R)=some q:=by grind
        obtain⟨q,s4,qi⟩:=eg;have a0b:∃m:Bool,decide ((qx.length:Int)=(Ms.length:Int))=true->(Yy (plain,Ms,(Ms.length:Int),0,ts,5,B,ns,Sj,a8,LW,qx,R)=some (if m=true then .inr ()else .inl false)/\RY (plain,0,ts,⟨5,B,ns,Sj,a8,LW,qx,R⟩,5,N,L,H,M,S,Ms,Oj,E,O)=some (if m=true then .inr ()else .inl false)):=by
         cases vJ:decide ((qx.length:Int)=(Ms.length:Int))with
         | false=>exact⟨true,λh=>by cases h⟩
         | true=>
          rcases JH vJ with⟨a,b⟩ | ⟨a,b⟩
          . simp_all
          simp_all
        obtain⟨m,TJ⟩:=a0b;refine⟨(decide ((qx.length:Int)=(Ms.length:Int))) && !(bif plain then decide (0 < (R.length:Int))else false) && q && m,?_,?_⟩
        . show(if(bif (!(decide ((qx.length:Int)=(Ms.length:Int))))then true else bif plain then decide (0 < (R.length:Int))else false)=true then some false else WI (plain,R,(R.length:Int),0,ts,⟨5,B,ns,Sj,a8,LW,qx,R⟩,5,N,L,H,M,S,Ms,Oj,E,O) >>=_)=_
          grind
        . exact a00 (decide ((qx.length:Int)=(Ms.length:Int))) (bif plain then decide (0 < (R.length:Int))else false) q m qi (λvJ=>(TJ vJ).2)
       ·
        obtain⟨r,kJ,oJ,cJ⟩:=YA (t:=⟨6,N,L,H,M,S,Ms,Oj,E,O⟩) a8 hm;have Lx:∀b,b=false->Tm (a8,b)=some (bif decide (1<=a8)then decide (a8<=1000)else false):=by
         intro b al;subst al;rfl
        have Xf:∃f:Bool,(bif decide ((qx.length:Int)=1)then decide ((R.length:Int)=0)else false)=true->(VN ((⟨ts⟩:hI),(Ms.getD r.1.toNat ii).e2,qx.getD (0:Int).toNat eJ,plain)=some f/\R1 ((⟨ts⟩:hI),(Ms.getD r.1.toNat ii).e2,qx.getD (0:Int).toNat eJ,plain)=some f):=by
         by_cases KR:qx.length=1
         . obtain⟨f,f1,f2⟩:=NH (qx.getD 0 eJ) (j1 (by omega:0 < qx.length) eJ) (Ms.getD r.1.toNat ii).e2 plain
           grind
         grind
        obtain⟨f,aJS⟩:=Xf;have arM:r.2=true->(bif decide ((qx.length:Int)=1)then decide ((R.length:Int)=0)else false)=true->ez r.1 Ms.length=true/\ez 0 qx.length=true:=by
         intro tJ O8;constructor
         . rcases cJ with⟨k,hg,_,_,rfl⟩ | ⟨_,rfl⟩
           . exact gA hg
           . cases tJ
         . by_cases KR:qx.length=1
           . exact gA (k:=0) (by omega)
           grind
        have arD:decide ((R.length:Int)=1)=true->ez 0 R.length=true:=by
         intro h;have:=aah h;exact gA (k:=0) (by omega)
        obtain⟨aou,Vr⟩:=r;refine⟨if Vr=true then(bif decide ((qx.length:Int)=1)then decide ((R.length:Int)=0)else false) && f else(bif O then(!plain)else false) && (bif decide (1<=a8)then decide (a8<=1000)else false) && decide ((qx.length:Int)=0) && decide ((R.length:Int)=1) && decide ((R.getD (0:Int).toNat j').a8=a8),?_,?_⟩
        . show(UH (⟨6,N,L,H,M,S,Ms,Oj,E,O⟩,a8) >>=_)=_;rw[kJ];cases Vr with
          | true=>exact ayD _ (ez aou Ms.length) (ez 0 qx.length) f (λh=>(aJS h).1) (arM rfl)
          | false=>exact ayE (bif O then(!plain)else false) (bif decide (1<=a8)then decide (a8<=1000)else false) (decide ((qx.length:Int)=0)) (decide ((R.length:Int)=1)) (ez 0 R.length) (decide ((R.getD (0:Int).toNat j').a8=a8)) arD
        . show(if(bif (bif false then true else(!true))then true else(bif plain then decide (0 < (R.length:Int))else false))=true then some false else Tj (⟨6,N,L,H,M,S,Ms,Oj,E,O⟩,a8) >>=_)=_;rw[oJ];cases Z8:(bif plain then decide (0 < (R.length:Int))else false)with
          | true=>
           have QQ:plain=true:=by grind
           subst QQ;have aZb:decide ((R.length:Int)=0)=false:=by grind
           grind
          | false=>
           cases Vr with
           | true=>exact ayD _ (ez aou Ms.length) (ez 0 qx.length) f (λh=>(aJS h).2) (arM rfl)
           | false=>exact ayE (bif O then(!plain)else false) (bif decide (1<=a8)then decide (a8<=1000)else false) (decide ((qx.length:Int)=0)) (decide ((R.length:Int)=1)) (ez 0 R.length) (decide ((R.getD (0:Int).toNat j').a8=a8)) arD
       . obtain rfl:R=[]:=ad2 (by decide) (by decide);obtain⟨r,kJ,oJ⟩:=af1 E plain;cases plain
         . exact⟨_,Ns kJ _,Ns oJ _⟩
         . exact⟨_,Ns kJ _,Ns oJ _⟩
       . obtain rfl:R=[]:=ad2 (by decide) (by decide);obtain⟨k,hg,hv⟩:=af2 Oj plain;obtain⟨i,i1,i2⟩:=af1 E plain;have Pe:=aUz (ts:=ts) (t:=⟨8,N,L,H,M,S,Ms,Oj,E,O⟩) (v:=⟨8,B,ns,Sj,a8,LW,qx,[]⟩) (Jg h1) hk plain
         obtain⟨q,a3',aLm⟩:∃q:Bool,VJ (plain,1,ts,⟨8,B,ns,Sj,a8,LW,qx,[]⟩,8,N,L,H,M,S,Ms,Oj,E,O)=some (if q=true then .inr (plain,ts,⟨8,B,ns,Sj,a8,LW,qx,[]⟩,8,N,L,H,M,S,Ms,Oj,E,O)else .inl false)/\Qg (1,⟨8,B,ns,Sj,a8,LW,qx,[]⟩)=some (if q=true then .inr ()else .inl false):=by
          rcases Pe with⟨a,b⟩ | ⟨a,b⟩
          . simp_all
          simp_all
         refine⟨!(bif decide (M < (LW.length:Int))then true else(!(decide ((qx.length:Int)=(LW.length:Int))))) && k && q && i,?_,?_⟩
         . show(some (bif decide (M < (LW.length:Int))then true else(!(decide ((qx.length:Int)=(LW.length:Int))))) >>=λt270=>(if(!t270)=true then acS ((⟨ts⟩:hI),Oj,LW,plain)else some false) >>=λJn=>if(bif t270 then true else(!Jn))=true then some false else VJ (plain,1,ts,⟨8,B,ns,Sj,a8,LW,qx,[]⟩,8,N,L,H,M,S,Ms,Oj,E,O) >>=_)=_
           grind
         . cases plain
           . exact aKG (bif decide (M < (LW.length:Int))then true else(!(decide ((qx.length:Int)=(LW.length:Int))))) hv i2 aLm
           . exact aKG (bif decide (M < (LW.length:Int))then true else(!(decide ((qx.length:Int)=(LW.length:Int))))) hv i2 aLm
       . obtain rfl:R=[]:=ad2 (by decide) (by decide);obtain⟨r,kJ,oJ⟩:=af1 E plain;cases plain
         . exact⟨_,Ns kJ _,Ns oJ _⟩
         . exact⟨_,Ns kJ _,Ns oJ _⟩
    . exact⟨false,by simp[V9],by simp[V9]⟩
theorem aff{U:pK}{t:eb}{l:List (t.den U.D)}(h:WF U ⟨.slice t,l⟩):l.length<=reachBytes/\l.length*t.bytes U<=reachBytes/\∀x,x∈l->∀c,c∈t.row U x->WF U c:=by cases h with | slice t l h1 ah b'=>exact⟨h1,ah,b'⟩
theorem aTK(s:hI):(⟨s.Types⟩:hI)=s:=by cases s;rfl
def OD(n:Nat):List UInt8:=if n=0 then[]else OD (n / 256)++[UInt8.ofNat (n % 256)]
termination_by n
decreasing_by omega
theorem aGt{α:Type}:∀(l:List α) (k:Nat) (x:α),k < l.length->(l.set k x).drop k=x::l.drop (k+1)
 | [],k,x,h=>by simp at h
 | a::l,0,x,h=>by simp
 | a::l,k+1,x,h=>by simp[aGt l k x (by simpa using h)]
theorem a18(n:Nat):Xu .u64 (n:Int) 8=((n / 256:Nat):Int):=by
 unfold Xu;have:((2:Int) ^ min (8:Int).toNat IntKind.u64.bits)=256:=by decide
 grind
theorem aJj :∀(i n:Nat) (b:List Int),n < 256 ^ i->i<=8->b.length=8->∃(ny:Nat) (hq:List Int),aeH ((n:Int),(i:Int),b)=some ((ny:Int),hq)/\ny<=8/\hq.length=8/\strOf (hq.drop ny)=OD n++strOf (b.drop i)
 | i,n,b,dy,ay,al=>by
  rw[aeH];by_cases h0:n=0
  . subst h0;rw[aJ (by simp)];refine⟨i,b,rfl,ay,al,?_⟩;rw[OD,ao rfl];rfl
  . rw[ao (by simp;omega)]
    match i,dy,ay with
    | 0,dy,ay=>simp at dy;omega
    | i+1,dy,ay=>
     have hs:BJ .i64 ((i+1:Nat):Int) 1=(i:Int):=by rw[Q7 (by omega) (by omega)];omega
     simp only[g',cm];rw[hs,ao (gA (by omega)),ao (by simp[al];omega),a18,ajN,hJ];have ec:n / 256 < 256 ^ i:=by omega
     obtain⟨ny,hq,h1,ah,b',ea⟩:=aJj i (n / 256) (b.set i ((n % 256:Nat):Int)) ec (by omega) (by simp[al]);refine⟨ny,hq,h1,ah,b',?_⟩;rw[ea,aGt _ _ _ (by omega),aTC]
     conv=>rhs;rw[OD,aJ h0]
     grind
theorem aJk{n:Nat}(dy:n < 18446744073709551616):akS (n:Int)=some (OD n):=by
 have e:(256:Nat) ^ 8=18446744073709551616:=by decide
 obtain⟨ny,hq,h1,ah,b',ea⟩:=aJj 8 n [0,0,0,0,0,0,0,0] (by rw[e];exact dy) (by omega) rfl;have KR:aeH ((n:Int),8,[0,0,0,0,0,0,0,0])=some ((ny:Int),hq):=h1;rw[akS,KR];simp only[g',cm,hJ];have aac:Jt (ny:Int) 8 8=true:=TY (b:=8) (by omega) (by omega);have Lu:(8:Int).toNat=8:=rfl
 rw[ao aac,Lu,ao (by simp[ajG,b'];omega)];rw[adW (by simp[b']),ea];simp[strOf]
theorem aql :∀(f n:Nat),n < 256 ^ f->(OD n).length<=f
 | 0,n,h=>by
  have:n=0:=by simpa using h
  subst this;rw[OD,ao rfl];simp
 | f+1,n,h=>by
  rw[OD];split
  . simp
  . have:=aql f (n / 256) (by omega);simp;omega
theorem aFH :∀(f n:Nat) (out:List UInt8),n < 256 ^ f->n < 18446744073709551616->out.length+f<=1000->ag7 ((n:Int),out)=some (OD n++out)
 | f,n,out,dy,aY2,c8=>by
  rw[ag7];by_cases h0:n=0
  . subst h0;rw[aJ (by simp),OD,ao rfl];rfl
  . rw[ao (by simp;omega)]
    match f,dy,c8 with
    | 0,dy,c8=>simp at dy;omega
    | f+1,dy,c8=>
     have X7:kt (n:Int) 256=((n % 256:Nat):Int):=aot (b:=256);have eg:MV .u64 (n:Int) 256=((n / 256:Nat):Int):=by
      unfold MV;have e:(n:Int).tdiv 256=((n / 256:Nat):Int):=by rw[aoa (by omega)];omega
      rw[e];exact Wt (by omega) (by omega)
     have adE:strOf [((n % 256 % 256:Nat):Int)]=[UInt8.ofNat (n % 256)]:=by
      have:n % 256 % 256=n % 256:=by omega
      rw[this];rfl
     simp only[g',cm];rw[X7,eg,ajN,adE,ao (P' (by simp;omega))];have ec:n / 256 < 256 ^ f:=by omega
     rw[aFH f (n / 256) _ ec (by omega) (by simp;omega)]
     conv=>rhs;rw[OD,aJ h0]
     grind
theorem aFI{n:Nat}(dy:n < 18446744073709551616):ak' (n:Int)=some (OD n):=by
 have e:(256:Nat) ^ 8=18446744073709551616:=by decide
 rw[ak',aFH 8 n [] (by rw[e];exact dy) dy (by simp)];simp
end
section
open Go Go.Proofs.YtijpinendaoleaaGreat.Shv Go.Sort
set_option maxRecDepth 100000
section
variable {α:Type}
theorem aGu{β Ky:Type}{f g:β->List Ky}:∀{l:List β},(∀x,x∈l->f x=g x)->l.flatMap f=l.flatMap g
 | [],_=>rfl
 | x::l,h=>by
  simp only[MS];rw[h x (.head _),aGu λy bJ=>h y (.tail _ bJ)]
theorem aEQ(x:α)(n:Nat)(f:Nat->List α):∀(ks:List Nat),ks.Nodup->n∈ks->(ks.flatMap λi=>if n=i then x::f i else f i).Perm (x::ks.flatMap f)
 | [],_,h=>by cases h
 | k::ks,dy,h=>by
  rw[List.nodup_cons]at dy;simp only[MS];by_cases e:n=k
  . rw[ao e];have:(ks.flatMap λi=>if n=i then x::f i else f i)=ks.flatMap f:=aGu λy bJ=>by grind
    simp_all
  . rw[aJ e];have hm:n∈ks:=(LJ.1 h).resolve_left e;refine((aEQ x n f ks dy.2 hm).append_left (f k)).trans ?_;simp_all
theorem aER(key:α->Nat)(ks:List Nat)(dy:ks.Nodup):∀l:List α,(∀x,x∈l->key x∈ks)->(ks.flatMap λi=>l.filter λx=>decide (key x=i)).Perm l
 | [],_=>by simp
 | x::l,h=>by
  have e:(λi=>(x::l).filter λy=>decide (key y=i))=λi=>if key x=i then x::(l.filter λy=>decide (key y=i))else l.filter λy=>decide (key y=i):=by grind
  rw[e];exact(aEQ x (key x) _ ks dy (h x (.head _))).trans ((aER key ks dy l λy bJ=>h y (.tail _ bJ)).cons x)
theorem aS7(key:α->Nat)(a n:Nat)(l:List α):((List.range' a n).flatMap λi=>l.filter λx=>decide (key x=i)).Pairwise (λx y=>decide (key y < key x)=false):=by
 rw[List.pairwise_flatMap];constructor
 . intro i ay;rw[List.pairwise_iff_forall_sublist]
   grind
 . refine(List.pairwise_lt_range' (s:=a) (n:=n)).imp ?_
   grind
theorem aGv{α β:Type}[Inhabited α][Inhabited β]{lt:α->α->Bool}{ayJ:β->β->Bool}(g:α->β)(h:∀a b,ayJ (g a) (g b)=lt a b):∀l,OO ayJ (l.map g)=(OO lt l).map g
 | []=>rfl
 | x::l=>by
  have key:∀r,aae ayJ (g x) (r.map g)=(aae lt x r).map g:=by
   intro r
   induction r with
   | nil=>rfl
   | cons y r ih=>
    simp only[aae,List.map]
    grind
  simp only[OO,List.map];rw[aGv g h l,key]
theorem aFJ{α:Type}[Inhabited α]{lt:α->α->Bool}:∀{l:List α},l.Pairwise (λx y=>lt x y=true\/lt y x=true)->UK lt l=true
 | [],_=>rfl
 | x::l,h=>by
  rw[Vk]at h;simp only[UK,k0,r0,Qp];exact⟨h.1,aFJ h.2⟩
end
mutual
def wt :ak->Nat
 | ⟨_,_,_,s,_,ks,is,r⟩=>10+s.length+(r.map λx=>x.Data.length+1).sum+ry ks+ry is
def ry :List ak->Nat
 | []=>0
 | v::l=>wt v+ry l
end
structure Fd where
 id:Nat
 c:Bool
 p:List UInt8
instance:Inhabited Fd:=⟨⟨0,false,[]⟩⟩
def MQ(a b:Fd):Bool:=decide (a.id < b.id)
def Fd.text(f:Fd):List UInt8:=Ol f.id f.c f.p
def Qm :List (List UInt8)->List (List UInt8)->List UInt8
 | k::ks,v::vs=>H' k++(H' v++Qm ks vs)
 | _,_=>[]
def zJ(l:List li)(id:Int):Option li:=l.find? λm=>decide (m.a8=id)
open Classical in
noncomputable def NK (m:li) (v:ak):Bool:=m.nk && decide (m.j0=v)
def Ux(r:pI):Fd:=⟨r.a8.toNat,false,r.Data⟩
mutual
noncomputable def n' (ts:List f7) (t:Int):ak->List UInt8
 | ⟨_,b,i,s,id,ks,is,r⟩=>
  let x:=ts.getD t.toNat hz
  if x.Kind=1 then(if b=true then[1]else[])
  else if x.Kind=2 then OD (Po i).toNat
  else if x.Kind=3 then s
  else if x.Kind=4 then OD id.toNat
  else if x.Kind=5 then(OO MQ (Ks ts x.b8 is++r.map Ux)).flatMap Fd.text
  else if x.Kind=6 then JU id.toNat++(match zJ x.b8 id with
   | some m=>(ob ts m.e2 is).headD []
   | none=>(r.map pI.Data).headD [])
  else if x.Kind=7 then(ob ts x.ev is).flatMap H'
  else if x.Kind=8 then Qm (ob ts x.Key ks) (ob ts x.ev is)
  else match ob ts x.ev is with
   | []=>[]
   | p::_=>1::p
noncomputable def ob (ts:List f7) (t:Int):List ak->List (List UInt8)
 | []=>[]
 | v::l=>n' ts t v::ob ts t l
noncomputable def Ks (ts:List f7):List li->List ak->List Fd
 | m::ms,v::l=>if NK m v=true then Ks ts ms l else⟨m.a8.toNat,m.sJ,n' ts m.e2 v⟩::Ks ts ms l
 | _,_=>[]
end
mutual
noncomputable def J0 (ts:List f7) (t:Int):ak->Nat
 | ⟨_,_,_,_,id,ks,is,_⟩=>
  let x:=ts.getD t.toNat hz
  1+max (if ks=[]then 0 else 1) (if x.Kind=5 then OU ts x.b8 is
   else if x.Kind=6 then(match zJ x.b8 id with
    | some m=>JS ts m.e2 is
    | none=>0)
   else JS ts x.ev is)
noncomputable def JS (ts:List f7) (t:Int):List ak->Nat
 | []=>0
 | v::l=>max (J0 ts t v) (JS ts t l)
noncomputable def OU (ts:List f7):List li->List ak->Nat
 | m::ms,v::l=>if NK m v=true then OU ts ms l else max (J0 ts m.e2 v) (OU ts ms l)
 | _,_=>0
end
def qj(n:Int):Prop:=1<=n/\n<=1000
def WS(ms:List li)(r:List pI):Prop:=r.Pairwise (λa b=>a.a8 < b.a8)/\∀x,x∈r->qj x.a8/\zJ ms x.a8=none
def OT(a b:ak):Int:=(PP (a,b)).getD 0
def TZ(ks:List ak):Prop:=∀i,i+1 < ks.length->OT (ks.getD i eJ) (ks.getD (i+1) eJ) < 0
mutual
def xJ(ts:List f7)(pl:Bool)(t:Int):ak->Prop
 | ⟨k,b,i,s,id,ks,is,r⟩=>
  let x:=ts.getD t.toNat hz
  (0<=t/\t < ts.length/\k=x.Kind/\(pl=true->r=[]))/\
  (k=1/\i=0/\s=[]/\id=0/\ks=[]/\is=[]/\r=[]\/
  k=2/\b=false/\s=[]/\id=0/\ks=[]/\is=[]/\r=[]/\x.hU<=i/\i<=x.hV\/
  k=3/\b=false/\i=0/\id=0/\ks=[]/\is=[]/\r=[]/\(s.length:Int)<=x.Max\/
  k=4/\b=false/\i=0/\s=[]/\ks=[]/\is=[]/\r=[]/\((∃y,y∈x.hl/\y.a8=id)\/x.Open=true/\pl=false/\qj id)\/
  k=5/\b=false/\i=0/\s=[]/\id=0/\ks=[]/\WS x.b8 r/\Pm ts pl x.b8 is\/
  k=6/\b=false/\i=0/\s=[]/\ks=[]/\(match zJ x.b8 id with
   | some m=>r=[]/\is.length=1/\M8 ts pl m.e2 is
   | none=>x.Open=true/\pl=false/\qj id/\is=[]/\∃d,r=[⟨id,d⟩])\/
  k=7/\b=false/\i=0/\s=[]/\id=0/\ks=[]/\r=[]/\(is.length:Int)<=x.Max/\M8 ts pl x.ev is\/
  k=8/\b=false/\i=0/\s=[]/\id=0/\r=[]/\(ks.length:Int)<=x.Max/\is.length=ks.length/\M8 ts pl x.Key ks/\M8 ts pl x.ev is/\TZ ks\/
  k=9/\b=false/\i=0/\s=[]/\id=0/\ks=[]/\r=[]/\is.length<=1/\M8 ts pl x.ev is)
def M8(ts:List f7)(pl:Bool)(t:Int):List ak->Prop
 | []=>True
 | v::l=>xJ ts pl t v/\M8 ts pl t l
def Pm(ts:List f7)(pl:Bool):List li->List ak->Prop
 | m::ms,v::l=>xJ ts pl m.e2 v/\Pm ts pl ms l
 | [],[]=>True
 | _,_=>False
end
theorem Qv(v:ak):wt v=10+v.js.length+(v.Rest.map λx=>x.Data.length+1).sum+ry v.eI+ry v.cy:=by cases v;rw[wt]
theorem TX(v:ak)(l:List ak):ry (v::l)=wt v+ry l:=by rw[ry]
theorem OX :ry []=0:=by rw[ry]
theorem Qc :∀{l:List ak} {x:ak},x∈l->wt x<=ry l
 | y::l,x,h=>by
  rw[TX];rcases LJ.1 h with rfl | h
  . omega
  . have:=Qc h;omega
theorem aES{p:List UInt8}(h:p.length < 1152921504606846976):(H' p).length<=p.length+10:=by
 have:=VO (n:=p.length) (by omega);unfold H';simp;omega
theorem aGw{f:Fd}(h:f.p.length < 1152921504606846976)(ay:f.id<=9223372036854775807):f.text.length<=f.p.length+20:=by
 have:=aES h;have:=VO (n:=2*f.id+(if f.c then 1 else 0)) (by split <;> omega);unfold Fd.text Ol;simp only[vx];omega
theorem aRM{α β:Type}{f:α->List β}{a b:List α}(h:a.Perm b):(a.flatMap f).length=(b.flatMap f).length:=(h.flatMap_right f).length_eq
theorem aqD{n:Int}(h:nc n):(Po n).toNat < 18446744073709551616:=by
 unfold Po nc at*;split <;> omega
section
variable {ts:List f7}
def aj1(ts:List f7)(v:ak):Prop:=∀t,(n' ts t v).length+20<=21*wt v
theorem awW :∀{l:List ak} {t:Int},ry l<=1099511627776->(∀x,x∈l->aj1 ts x)->((ob ts t l).flatMap H').length<=21*ry l
 | [],t,_,_=>by rw[ob];simp
 | v::l,t,hw,h=>by
  rw[ob,MS,vx];rw[TX]at hw ⊢;have h1:=h v (.head _) t;have ah:=awW (t:=t) (by omega) λx ad=>h x (.tail _ ad)
  have b':=aES (p:=n' ts t v) (by omega);omega
theorem ZJ :∀{l:List ak} {t:Int},(ob ts t l).length=l.length
 | [],t=>by rw[ob];rfl
 | v::l,t=>by rw[ob,Pg,Pg,ZJ]
theorem aqT :∀{l:List ak} {t:Int},ob ts t l=l.map (n' ts t)
 | [],t=>by rw[ob];rfl
 | v::l,t=>by rw[ob,List.map,aqT]
theorem aHn :∀(a b:List (List UInt8)),(Qm a b).length<=(a.flatMap H').length+(b.flatMap H').length
 | [],b=>by simp[Qm]
 | k::ks,[]=>by simp[Qm]
 | k::ks,v::vs=>by
  have:=aHn ks vs;simp only[Qm,MS,vx];omega
theorem aFK :∀{ms:List li} {l:List ak},ry l<=1099511627776->(∀m,m∈ms->m.a8<=1000)->(∀x,x∈l->aj1 ts x)->((Ks ts ms l).flatMap Fd.text).length<=21*ry l
 | [],l,_,_,_=>by rw[Ks] <;> simp
 | m::ms,[],_,_,_=>by rw[Ks] <;> simp
 | m::ms,v::l,hw,hm,h=>by
  rw[TX]at hw ⊢;rw[Ks];have h1:=h v (.head _) m.e2;have ah:=aFK (ms:=ms) (l:=l) (by omega) (λx ad=>hm x (.tail _ ad)) λx ad=>h x (.tail _ ad)
  have ea:=hm m (.head _);split
  . omega
  . rw[MS,vx];have b':=aGw (f:=⟨m.a8.toNat,m.sJ,n' ts m.e2 v⟩) (by show(n' ts m.e2 v).length < _;omega) (by show m.a8.toNat<=_;omega)
    grind
theorem aGx :∀{l:List pI},(∀x,x∈l->x.Data.length<=reachBytes/\x.a8<=9223372036854775807)->True->((l.map Ux).flatMap Fd.text).length<=21*(l.map λx=>x.Data.length+1).sum
 | [],_,_=>by simp
 | r::l,h,_=>by
  have h1:=h r (.head _);have ah:=aGx (l:=l) (λx ad=>h x (.tail _ ad)) trivial;unfold reachBytes at h1;have b':=aGw (f:=Ux r) (by show r.Data.length < _;omega) (by show r.a8.toNat<=_;omega);have adr:(Ux r).text.length<=r.Data.length+20:=b'
  grind
def aAy(ts:List f7):Prop:=∀x,x∈ts->∀m,m∈x.b8->m.a8<=1000
theorem aSK{α:Type}(l:List α)(i:Nat)(d:α):l.getD i d∈l\/l.getD i d=d:=by grind
theorem aFL{l:List (List UInt8)}{n:Nat}(h:∀x,x∈l->x.length<=n):(l.headD []).length<=n:=by
 cases l with
 | nil=>simp
 | cons x l=>exact h x (.head _)
theorem aHo :∀{l:List Nat} {n:Nat},n∈l->n<=l.sum
 | a::l,n,h=>by
  rw[adS];rcases LJ.1 h with rfl | h
  . omega
  . have:=aHo h;omega
theorem aVs(J8:aAy ts){v:ak}(h:qa v):wt v<=1099511627776->aj1 ts v:=by
 induction h with
 | mk v hs h1 ah b' hk ay ar I0 D' Jm p' QU NH=>
  intro hw t;have adF:=Qv v;have aMQ:∀x,x∈v.eI->aj1 ts x:=λx ad=>QU x ad (by have:=Qc ad;omega)
  have atk:∀x,x∈v.cy->aj1 ts x:=λx ad=>NH x ad (by have:=Qc ad;omega)
  have atn:=λt=>awW (t:=t) (l:=v.eI) (by omega) aMQ
  have atm:=λt=>awW (t:=t) (l:=v.cy) (by omega) atk
  have ad:∀m,m∈(ts.getD t.toNat hz).b8->m.a8<=1000:=by
   rcases aSK ts t.toNat hz with h | h
   . exact J8 _ h
   . rw[h];intro m hm;cases hm
  have a29:∀t,((ob ts t v.cy).headD []).length+20<=21*ry v.cy+20:=λt=>by
   have:((ob ts t v.cy).headD []).length<=21*ry v.cy:=aFL λp bo=>by
    rw[aqT]at bo;obtain⟨x,ad,rfl⟩:=Lp.1 bo;have:=atk x ad t;have:=Qc ad;omega
   omega
  have a2':((v.Rest.map Ux).flatMap Fd.text).length<=21*(v.Rest.map λx=>x.Data.length+1).sum:=aGx (λx ad=>⟨ar x ad,(p' x ad).2⟩) trivial;have a2V:=aFK (ts:=ts) (ms:=(ts.getD t.toNat hz).b8) (l:=v.cy) (by omega) ad atk;have a2U:((v.Rest.map pI.Data).headD []).length<=(v.Rest.map λx=>x.Data.length+1).sum:=aFL λp bo=>by
   obtain⟨x,ad,rfl⟩:=Lp.1 bo;have:x.Data.length+1<=(v.Rest.map λx=>x.Data.length+1).sum:=aHo (Lp.2 ⟨x,ad,rfl⟩);omega
  obtain⟨K,b,i,s,id,ks,is,r⟩:=v;simp only at*;rw[n'];have ga:=aql 8 _ (aqD D');have Lx:id.toNat < 18446744073709551616:=by omega
  have al:=aql 8 _ Lx;have bo:=VO Lx;generalize ts.getD t.toNat hz=x at*;split
  . grind
  . split
    . omega
    . split
      . omega
      . split
        . omega
        . split
          . rw[aRM (acn _ _),ay1,vx];omega
          . split
            . grind
            . split
              . grind
              . split
                . have:=aHn (ob ts x.Key ks) (ob ts x.ev is)
                  grind
                grind
end
section
variable (ts:List f7)
mutual
theorem aMy :∀(v:ak) (t:Int),J0 ts t v<=wt v
 | ⟨_,_,_,_,id,ks,is,_⟩,t=>by
  rw[J0,wt];have h1:=az1 is;have ah:=az0 is
  grind
theorem az1 :∀(l:List ak) (t:Int),JS ts t l<=ry l
 | [],t=>by rw[JS];omega
 | v::l,t=>by
  rw[JS,ry];have:=aMy v t;have:=az1 l t;omega
theorem az0 :∀(l:List ak) (ms:List li),OU ts ms l<=ry l
 | [], ms => by rw [OU]; · omega
                . intros;simp_all
 | v :: l, [] => by rw [OU]; · omega
                    . intros;simp_all
 | v::l,m::ms=>by
  rw[OU,ry];have:=aMy v m.e2;have:=az0 l ms
  grind
end
end
section
variable {ts:List f7}
theorem ahT :∀{ms:List li} {l:List ak} {x:Fd},x∈Ks ts ms l->∃m,m∈ms/\x.id=m.a8.toNat
 | [],l,x,h=>by
  rw[Ks]at h
  . cases h
  grind
 | m::ms,[],x,h=>by
  rw[Ks]at h
  . cases h
  grind
 | m::ms,v::l,x,h=>by
  rw[Ks]at h;split at h
  . obtain⟨K7,h1,ah⟩:=ahT h
    grind
  . rcases LJ.1 h with rfl | h
    . grind
    . obtain⟨K7,h1,ah⟩:=ahT h
      grind
theorem aET{ms:List li}{l:List ak}{n:Nat}(h:∀m,m∈ms->m.a8.toNat≠n):((Ks ts ms l).filter λx=>decide (x.id=n))=[]:=by
 rw[List.filter_eq_nil_iff];intro x ad;obtain⟨m,h1,ah⟩:=ahT ad
 grind
theorem aE0 :∀{ms:List li} {l:List ak} {n j:Nat},ms.Pairwise (λa b=>a.a8.toNat≠b.a8.toNat) -> l.length=ms.length -> j < ms.length -> (ms.getD j ii).a8.toNat=n ->
 ((Ks ts ms l).filter λx=>decide (x.id=n))=if NK (ms.getD j ii) (l.getD j eJ)=true then[]else[⟨n,(ms.getD j ii).sJ,n' ts (ms.getD j ii).e2 (l.getD j eJ)⟩]
 | [],l,n,j,_,_,c7,_=>by cases c7
 | m::ms,[],n,j,_,a6,_,_=>by cases a6
 | m::ms,v::l,n,0,a7,a6,c7,he=>by
  rw[Vk]at a7;simp only[Vj]at he ⊢;have dy:=aET (ts:=ts) (l:=l) (ms:=ms) (n:=n) λx ad=>by have:=a7.1 x ad;omega
  rw[Ks]
  grind
 | m::ms,v::l,n,j+1,a7,a6,c7,he=>by
  rw[Vk]at a7;simp only[anX]at he ⊢;have SN:j < ms.length:=by simpa using c7
  have hm:ms.getD j ii∈ms:=by grind
  have hG:=a7.1 _ hm;have ih:=aE0 (l:=l) a7.2 (by simpa using a6) SN he;rw[Ks]
  grind
theorem aSL(l:List pI)(n:Nat)(h:∀x,x∈l->0<=x.a8):((l.map Ux).filter λx=>decide (x.id=n))=(l.filter λx=>decide (x.a8=(n:Int))).map Ux:=by
 rw[List.filter_map]
 congr 1
 apply List.filter_congr;intro x ad;have:=h x ad;show decide (x.a8.toNat=n)=_
 grind
noncomputable def LE (ts:List f7) (ms:List li) (l:List ak) (r:List pI):List Fd:=Ks ts ms l++r.map Ux
def Q5(ms:List li):Prop:=ms.Pairwise (λa b=>a.a8 < b.a8)/\∀m,m∈ms->qj m.a8
theorem aHp{ms:List li}(h:Q5 ms):ms.Pairwise (λa b=>a.a8.toNat≠b.a8.toNat):=by
 refine h.1.imp_of_mem λ{a b} ch al ec=>?_
 have:=h.2 a ch;have:=h.2 b al;unfold qj at*;omega
theorem aw0 :∀{ms:List li} {l:List ak},ms.Pairwise (λa b=>a.a8.toNat≠b.a8.toNat)->(Ks ts ms l).Pairwise (λa b=>a.id≠b.id)
 | [],l,_=>by
  rw[Ks]
  . exact .nil
  grind
 | m::ms,[],_=>by
  rw[Ks]
  . exact .nil
  grind
 | m::ms,v::l,h=>by
  rw[Vk]at h;rw[Ks];split
  . exact aw0 h.2
  . rw[Vk];refine⟨λx ad=>?_,aw0 h.2⟩;obtain⟨K7,h1,ah⟩:=ahT ad
    grind
theorem aaX{ms:List li}{id:Int}(h:zJ ms id=none):∀m,m∈ms->m.a8≠id:=by
 unfold zJ at h
 grind
theorem apB{ms:List li}{l:List ak}{r:List pI}(h:Q5 ms)(ar:WS ms r):UK MQ (LE ts ms l r)=true:=by
 apply aFJ;have key:(LE ts ms l r).Pairwise (λa b=>a.id≠b.id):=by
  unfold LE;rw[ay0];refine⟨aw0 (aHp h),?_,?_⟩
  . rw[agz];refine ar.1.imp_of_mem λ{a b} ch al ec=>?_
    have:=(ar.2 a ch).1;have:=(ar.2 b al).1;show a.a8.toNat≠b.a8.toNat;unfold qj at*;omega
  . intro x ad y bJ;obtain⟨m,h1,ah⟩:=ahT ad;obtain⟨q,b',rfl⟩:=Lp.1 bJ;have ea:=aaX (ar.2 q b').2 m h1;have:=h.2 m h1;have:=(ar.2 q b').1;show x.id≠q.a8.toNat;unfold qj at*;omega
 refine key.imp λ{a b} hG=>?_
 simp only[MQ,ye];omega
theorem aDG{ms:List li}{l:List ak}{r:List pI}(h:Q5 ms)(ar:WS ms r){x:Fd}(ad:x∈LE ts ms l r):1<=x.id/\x.id<=1000:=by
 rcases Nw.1 ad with ad | ad
 . obtain⟨m,h1,ah⟩:=ahT ad;have:=h.2 m h1;unfold qj at*;omega
 . obtain⟨q,b',rfl⟩:=Lp.1 ad;have:=(ar.2 q b').1;unfold qj at*;show 1<=q.a8.toNat/\q.a8.toNat<=1000;omega
theorem aHq :SWO MQ:=by refine⟨λx=>?_,λx y z h1 ah=>?_,λx y z h1 ah=>?_⟩ <;> simp[MQ]at* <;> omega
theorem aRN{l:List Fd}(bo:UK MQ l=true)(ar:∀x,x∈l -> 1 <=x.id /\ x.id <=1000):
 OO MQ l=(List.range' 1 1000).flatMap λn=>l.filter λx=>decide (x.id=n):=by
 refine aEV bo (acn _ _) (aER Fd.id _ List.nodup_range' l λx ad=>?_) (apP aHq l) (aS7 Fd.id 1 1000 l);have:=ar x ad;rw[List.mem_range'_1];omega
end
section
variable {ts:List f7} {pl:Bool}
theorem Lc :∀{l:List ak} {t:Int},M8 ts pl t l↔∀x,x∈l->xJ ts pl t x
 | [],t=>by rw[M8];simp
 | v::l,t=>by
  rw[M8,Lc]
  grind
theorem abc :∀{ms:List li} {l:List ak},Pm ts pl ms l↔l.length=ms.length/\∀i,i < ms.length->xJ ts pl (ms.getD i ii).e2 (l.getD i eJ)
 | [],[]=>by
  have:Pm ts pl [] []=True:=by rw[Pm]
  grind
 | [],v::l=>by
  have:Pm ts pl [] (v::l)=False:=by rw[Pm] <;> (intros;simp_all)
  grind
 | m::ms,[]=>by
  have:Pm ts pl (m::ms) []=False:=by rw[Pm] <;> (intros;simp_all)
  grind
 | m::ms,v::l=>by
  rw[Pm,abc];constructor
  . grind
  . rintro ⟨h1,ah⟩
    exact⟨ah 0 (by simp),by simpa using h1,λi ay=>ah (i+1) (by simpa using ay)⟩
end
def xe(o:Option Bool)(P:Prop):Prop:=∃r,o=some r/\(r=true↔P)
theorem xe.imp{o:Option Bool}{P Q:Prop}(h:xe o P)(e:P↔Q):xe o Q:=by grind
theorem xe.of{b:Bool}{P:Prop}(e:b=true↔P):xe (some b) P:=⟨b,rfl,e⟩
theorem xe.loop{L:Nat -> Option (Bool ⊕ Unit)}{n:Nat}{p:Nat -> Bool}{g:Unit}{o:Option (Bool ⊕ Unit)}(h0:o=L 0)(QR:∀i,i < n -> L i=if p i=true then L (i+1)else some (.inl false))(Y3:L n=some (.inr g)):
 xe (o >>=λo=>match o with | .inl x=>some x | .inr _=>some true) (∀i,i < n->p i=true):=by
 subst h0;rcases scan L n p (.inl false) (.inr g) QR Y3 with⟨h1,ah⟩ | ⟨h1,j,ah,b'⟩
 . rw[h1];exact⟨true,rfl,by simpa using ah⟩
 . rw[h1];refine⟨false,rfl,?_⟩;constructor
   . intro h;cases h
   . intro h;have:=h j ah;rw[b']at this;cases this
theorem aqs{α:Type}(f:α->Int)(d:α):∀l:List α,l.Pairwise (λa b=>f a < f b)↔∀i,i+1 < l.length->f (l.getD i d) < f (l.getD (i+1) d)
 | []=>by simp
 | [a]=>by simp
 | a::b::l=>by
  rw[Vk,aqs f d (b::l)];constructor
  . rintro ⟨h1,ah⟩ i ay
    cases i with
    | zero=>exact h1 b (.head _)
    | succ i=>exact ah i (by simpa using ay)
  . intro h;have ah:∀i,i+1 < (b::l).length->f ((b::l).getD i d) < f ((b::l).getD (i+1) d):=λi ay=>h (i+1) (by simpa using ay)
    refine⟨λx ad=>?_,ah⟩;have h0:=h 0 (by simp);simp only[Vj,anX]at h0;have b':=(aqs f d (b::l)).2 ah;rw[Vk]at b'
    grind
section
variable {ts:List f7}
def ati(ts:List f7)(x:ak):Prop:=∀t pl,xe (R1 ((⟨ts⟩:hI),t,x,pl)) (xJ ts pl t x)
theorem aGy{l:List ak}(a6:l.length<=reachBytes)(ih:∀x,x∈l->ati ts x)(t:Int)(pl:Bool):xe (ZG ((⟨ts⟩:hI),t,l,pl)) (M8 ts pl t l):=by
 have ar:=Jg a6
 let p:Nat->Bool:=λi=>(R1 ((⟨ts⟩:hI),t,l.getD i eJ,pl)).getD false
 have bo:∀i,i < l.length->R1 ((⟨ts⟩:hI),t,l.getD i eJ,pl)=some (p i)/\(p i=true↔xJ ts pl t (l.getD i eJ)):=by
  intro i ay;obtain⟨r,h1,ah⟩:=ih _ (j1 ay eJ) t pl
  grind
 rw[ZG];refine(xe.loop (L:=λi=>VG (t,l,pl,(i:Int),ts)) (n:=l.length) (p:=p) (g:=()) rfl (λi ay=>?_) ?_).imp ?_
 . show VG (t,l,pl,(i:Int),ts)=if p i=true then VG (t,l,pl,((i+1:Nat):Int),ts)else _
   rw[VG,ao (by simp;omega),ao (gA ay)];simp only[ak.h7,hJ];rw[(bo i ay).1,j2 (by omega)]
   grind
 . show VG (t,l,pl,(l.length:Int),ts)=_;rw[VG,aJ (by simp)]
 . rw[Lc];constructor
   . intro h x ad;obtain⟨i,ay,rfl⟩:=OR ad
     grind
   grind
theorem afp{l:List li}{id:Int}{r:Int×Bool}(h:ahR l id r):(r.2=true/\∃j:Nat,j < l.length/\r.1=(j:Int)/\zJ l id=some (l.getD j ii)/\(l.getD j ii).a8=id)\/(r.2=false/\zJ l id=none):=by
 rcases h with⟨j,h1,ah,b',rfl⟩ | ⟨h1,rfl⟩
 . refine .inl ⟨rfl,j,h1,rfl,?_,ah⟩;unfold zJ;rw[asu];refine⟨by rw[ye];exact ah,j,h1,(Ld h1 _).symm,λk hk=>?_⟩
   grind
 . refine .inr ⟨rfl,?_⟩;unfold zJ;rw[anZ];intro m hm;obtain⟨i,ay,rfl⟩:=OR hm
   grind
theorem aUB{t:f7}(ht:t.b8.length < 9223372036854775807){l:List pI}(a6:l.length<=reachBytes):xe (acG (t,l)) (WS t.b8 l):=by
 have ar:=Jg a6;rw[acG]
 let p:Nat->Bool:=λi=>!((UH (t,(l.getD i j').a8)).getD (0,false)).2 && (bif decide (1<=(l.getD i j').a8)then decide ((l.getD i j').a8<=1000)else false) && (!(decide ((0:Int) < (i:Int))) || !(decide ((l.getD i j').a8<=(l.getD (BJ .i64 (i:Int) 1).toNat j').a8)))
 refine(xe.loop (L:=λi=>UF (l,(i:Int),t)) (n:=l.length) (p:=p) (g:=()) rfl (λi ay=>?_) ?_).imp ?_
 . show UF (l,(i:Int),t)=if p i=true then UF (l,((i+1:Nat):Int),t)else _
   obtain⟨r,h1,ah,_⟩:=YA (t:=t) (l.getD i j').a8 ht;have ayk:p i=(!r.2 && (bif decide (1<=(l.getD i j').a8)then decide ((l.getD i j').a8<=1000)else false) && (!(decide ((0:Int) < (i:Int))) || !(decide ((l.getD i j').a8<=(l.getD (BJ .i64 (i:Int) 1).toNat j').a8)))):=by simp only[p,h1,Xo]
   rw[ayk,UF,ao (by simp;omega),ao (gA ay)];simp only[hJ];rw[ah,j2 (by omega)];have Lx:Tm ((l.getD i j').a8,r.2)=some ((!r.2) && (bif decide (1<=(l.getD i j').a8)then decide ((l.getD i j').a8<=1000)else false)):=by
    rw[Tm]
    grind
   show(if ez (i:Int) l.length=true then Tm ((l.getD i j').a8,r.2) >>=_ else none)=_;rw[ao (gA ay),Lx]
   exact aEZ ((!r.2) && (bif decide (1<=(l.getD i j').a8)then decide ((l.getD i j').a8<=1000)else false)) (ez (i:Int) l.length) (decide ((0:Int) < (i:Int))) (BJ .i64 (i:Int) 1) (λj=>ez j l.length) (λj=>decide ((l.getD i j').a8<=(l.getD j.toNat j').a8)) _ _ (gA ay) (λga=>by
    have:0 < i:=by simp at ga;omega
    show ez _ _=true
    rw[acp this (by omega)];exact gA (by omega))
 . show UF (l,(l.length:Int),t)=_;rw[UF,aJ (by simp)]
 . unfold WS;rw[aqs (λa:pI=>a.a8) j'];have key:∀i,i < l.length->(p i=true↔(qj (l.getD i j').a8/\zJ t.b8 (l.getD i j').a8=none)/\(i=0\/(l.getD (i - 1) j').a8 < (l.getD i j').a8)):=by
    intro i ay;obtain⟨r,h1,ah,cJ⟩:=YA (t:=t) (l.getD i j').a8 ht;have ayk:p i=(!r.2 && (bif decide (1<=(l.getD i j').a8)then decide ((l.getD i j').a8<=1000)else false) && (!(decide ((0:Int) < (i:Int))) || !(decide ((l.getD i j').a8<=(l.getD (BJ .i64 (i:Int) 1).toNat j').a8)))):=by simp only[p,h1,Xo]
    rw[ayk];have dy:r.2=false↔zJ t.b8 (l.getD i j').a8=none:=by
     rcases afp cJ with⟨a,j,_,_,b,_⟩ | ⟨a,b⟩
     . grind
     grind
    rw[<-dy];unfold qj;by_cases h0:i=0
    . grind
    . have ga:decide ((0:Int) < (i:Int))=true:=by simp;omega
      rw[ga,acp (by omega) (by omega),hJ]
      grind
   constructor
   . intro h;refine⟨λi ay=>?_,λx ad=>?_⟩
     . grind
     . obtain⟨i,ay,rfl⟩:=OR ad;simp_all
   . rintro ⟨h1,ah⟩ i ay
     refine(key i ay).2 ⟨ah _ (j1 ay j'),?_⟩;by_cases h0:i=0
     . omega
     . right;have:=h1 (i - 1) (by omega);have e:i - 1+1=i:=by omega
       grind
theorem aTL{t:f7}{v:ak}(a6:v.cy.length=t.b8.length)(ar:t.b8.length < 9223372036854775807)(ih:∀x,x∈v.cy -> ati ts x)(pl:Bool):
 xe (RY (pl,0,ts,v,t.Kind,t.Name,t.hU,t.hV,t.Max,t.hl,t.b8,t.Key,t.ev,t.Open) >>=λo=>match o with | .inl ha=>some ha | .inr _=>some true) (Pm ts pl t.b8 v.cy):=by
 let p:Nat->Bool:=λi=>(R1 ((⟨ts⟩:hI),(t.b8.getD i ii).e2,v.cy.getD i eJ,pl)).getD false
 have bo:∀i,i < t.b8.length->R1 ((⟨ts⟩:hI),(t.b8.getD i ii).e2,v.cy.getD i eJ,pl)=some (p i)/\(p i=true↔xJ ts pl (t.b8.getD i ii).e2 (v.cy.getD i eJ)):=by
  intro i ay;obtain⟨r,h1,ah⟩:=ih _ (j1 (by omega:i < v.cy.length) eJ) (t.b8.getD i ii).e2 pl
  grind
 refine(xe.loop (L:=λi=>RY (pl,(i:Int),ts,v,t.Kind,t.Name,t.hU,t.hV,t.Max,t.hl,t.b8,t.Key,t.ev,t.Open)) (n:=t.b8.length) (p:=p) (g:=()) rfl (λi ay=>?_) ?_).imp ?_
 . show RY (pl,(i:Int),ts,v,t.Kind,t.Name,t.hU,t.hV,t.Max,t.hl,t.b8,t.Key,t.ev,t.Open)=if p i=true then RY (pl,((i+1:Nat):Int),ts,v,t.Kind,t.Name,t.hU,t.hV,t.Max,t.hl,t.b8,t.Key,t.ev,t.Open)else _
   rw[RY,ao (by simp;omega),ao (gA ay),ao (gA (by omega))];simp only[hJ,ak.h7];rw[(bo i ay).1,j2 (by omega)];cases p i <;> rfl
 . show RY (pl,(t.b8.length:Int),ts,v,t.Kind,t.Name,t.hU,t.hV,t.Max,t.hl,t.b8,t.Key,t.ev,t.Open)=_;rw[RY,aJ (by simp;omega)]
 . rw[abc];constructor
   . intro h;exact⟨a6,λi ay=>(bo i ay).2.1 (h i ay)⟩
   . rintro ⟨_,h⟩ i ay;exact(bo i ay).2.2 (h i ay)
theorem aUC{v:ak}(ar:v.eI.length < 9223372036854775807)(hk:∀x,x∈v.eI -> qa x):
 xe (Qg (1,v) >>=λMU=>match MU with | .inl Js=>some Js | .inr _=>some true) (TZ v.eI):=by
 by_cases h0:v.eI.length=0
 . rw[Qg,aJ (by simp[h0])];refine⟨true,rfl,?_⟩;unfold TZ;simp only[true_iff];intro i ay;omega
 refine(xe.loop (L:=λi=>Qg (((i+1:Nat):Int),v)) (n:=v.eI.length - 1) (p:=λi=>!(decide (0<=OT (v.eI.getD i eJ) (v.eI.getD (i+1) eJ)))) (g:=()) rfl (λi ay=>?_) ?_).imp ?_
 . show Qg (((i+1:Nat):Int),v)=if _ then Qg (((i+1+1:Nat):Int),v)else _
   have Ve:BJ .i64 ((i+1:Nat):Int) 1=(i:Int):=by rw[acp (by omega) (by omega)];simp
   obtain⟨r,hN,hR⟩:=apJ (aid (hk _ (j1 (by omega:i < v.eI.length) eJ))) (aid (hk _ (j1 (by omega:i+1 < v.eI.length) eJ)));have cv:OT (v.eI.getD i eJ) (v.eI.getD (i+1) eJ)=r:=by unfold OT;rw[hN];rfl
   rw[cv,Qg,ao (by simp;omega)];simp only[g',cm];rw[Ve,ao (gA (by omega)),ao (gA (by omega))];simp only[hJ,ak.h7];rw[hR,j2 (by omega)];simp only[cm];cases decide (0<=r) <;> rfl
 . have e:v.eI.length - 1+1=v.eI.length:=by omega
   show Qg (((v.eI.length - 1+1:Nat):Int),v)=_;rw[e,Qg,aJ (by simp)]
 . unfold TZ;constructor
   . intro h i ay;have:=h i (by omega)
     simpa using this
   . intro h i ay;have:=h i (by omega)
     simpa using this
theorem WN(pl:Bool)(t:Int)(v:ak):xJ ts pl t v↔
 (0<=t/\t < ts.length/\v.Kind=(ts.getD t.toNat hz).Kind/\(pl=true->v.Rest=[]))/\
 (v.Kind=1/\v.hX=0/\v.js=[]/\v.a8=0/\v.eI=[]/\v.cy=[]/\v.Rest=[]\/
 v.Kind=2/\v.oi=false/\v.js=[]/\v.a8=0/\v.eI=[]/\v.cy=[]/\v.Rest=[]/\(ts.getD t.toNat hz).hU<=v.hX/\v.hX<=(ts.getD t.toNat hz).hV\/
 v.Kind=3/\v.oi=false/\v.hX=0/\v.a8=0/\v.eI=[]/\v.cy=[]/\v.Rest=[]/\(v.js.length:Int)<=(ts.getD t.toNat hz).Max\/
 v.Kind=4/\v.oi=false/\v.hX=0/\v.js=[]/\v.eI=[]/\v.cy=[]/\v.Rest=[]/\((∃y,y∈(ts.getD t.toNat hz).hl/\y.a8=v.a8)\/(ts.getD t.toNat hz).Open=true/\pl=false/\qj v.a8)\/
 v.Kind=5/\v.oi=false/\v.hX=0/\v.js=[]/\v.a8=0/\v.eI=[]/\WS (ts.getD t.toNat hz).b8 v.Rest/\Pm ts pl (ts.getD t.toNat hz).b8 v.cy\/
 v.Kind=6/\v.oi=false/\v.hX=0/\v.js=[]/\v.eI=[]/\(match zJ (ts.getD t.toNat hz).b8 v.a8 with
  | some m=>v.Rest=[]/\v.cy.length=1/\M8 ts pl m.e2 v.cy
  | none=>(ts.getD t.toNat hz).Open=true/\pl=false/\qj v.a8/\v.cy=[]/\∃d,v.Rest=[⟨v.a8,d⟩])\/
 v.Kind=7/\v.oi=false/\v.hX=0/\v.js=[]/\v.a8=0/\v.eI=[]/\v.Rest=[]/\(v.cy.length:Int)<=(ts.getD t.toNat hz).Max/\M8 ts pl (ts.getD t.toNat hz).ev v.cy\/
 v.Kind=8/\v.oi=false/\v.hX=0/\v.js=[]/\v.a8=0/\v.Rest=[]/\(v.eI.length:Int)<=(ts.getD t.toNat hz).Max/\v.cy.length=v.eI.length/\M8 ts pl (ts.getD t.toNat hz).Key v.eI/\M8 ts pl (ts.getD t.toNat hz).ev v.cy/\TZ v.eI\/
 v.Kind=9/\v.oi=false/\v.hX=0/\v.js=[]/\v.a8=0/\v.eI=[]/\v.Rest=[]/\v.cy.length<=1/\M8 ts pl (ts.getD t.toNat hz).ev v.cy):=by
 cases v;rw[xJ];try exact Iff.rfl
end
def XS(v:ak):Prop:=(v.Kind=1\/v.oi=false)/\(v.Kind=2\/v.hX=0)/\(v.Kind=3\/v.js=[])/\((v.Kind=4\/v.Kind=6)\/v.a8=0)/\(v.Kind=8\/v.eI=[])/\(5<=v.Kind\/v.cy=[])/\((v.Kind=5\/v.Kind=6)\/v.Rest=[])
theorem aUD(v:ak):xe (aeB v) (XS v):=by
 rw[aeB];refine .of ?_;unfold XS;have e:∀{α:Type} (l:List α),((l.length:Int)=0)↔l=[]:=λl=>by simp_all
 grind
theorem aNq{z b:Bool}{o:Option Bool}{P Z Q:Prop}(ga:z=true↔Z)(al:b=false↔Q)(c8:xe o P):xe (if(bif (bif false then true else(!z))then true else b)=true then some false else o) (Z/\Q/\P):=by
 obtain⟨r,rfl,h⟩:=c8;cases z with
 | false=>
  refine⟨false,rfl,?_⟩
  grind
 | true=>
  cases b with
  | true=>refine⟨false,rfl,?_⟩;simp at al;simp[al]
  | false=>refine⟨r,rfl,?_⟩;simp at ga al;simp[ga,al,h]
theorem aih{q:Bool}{o:Option Bool}{P Q:Prop}(eg:q=true↔Q)(c8:xe o P):xe (some q >>=λt244=>(if t244=true then o else some false) >>=λEJ=>some (bif t244 then EJ else false)) (Q/\P):=by
 obtain⟨r,rfl,h⟩:=c8;refine⟨q && r,by cases q <;> cases r <;> rfl,?_⟩
 grind
theorem aM4{A:Bool}{ro L:Option Bool}{aAA aAE aAC:Prop}(vJ:A=true↔aAA)(ar:xe ro aAE)(J8:A=true -> xe L aAC):
 xe (some (!A) >>=λt107=>(if(!t107)=true then ro else some false) >>=λwm=>if(bif t107 then true else(!wm))=true then some false else L) (aAA/\aAE/\aAC):=by
 obtain⟨q,rfl,eg⟩:=ar;cases A with
 | false=>refine⟨false,rfl,?_⟩;simp at vJ;simp[vJ]
 | true=>
  obtain⟨m,rfl,hm⟩:=J8 rfl;cases q with
  | false=>refine⟨false,rfl,?_⟩;simp at eg;simp[eg]
  | true=>refine⟨m,rfl,?_⟩;simp at vJ eg;simp[vJ,eg,hm]
theorem aM5{c:Bool}{ok aap L:Option Bool}{aAB atn atm aAD:Prop}(b7:c=false↔aAB)(hk:xe ok atn)(ay:xe aap atm)(vK:xe L aAD):
 xe (some c >>=λt239=>(if(!t239)=true then ok else some false) >>=λS3=>some (bif t239 then true else(!S3)) >>=λt249=>(if(!t249)=true then aap else some false) >>=λNy=>if(bif t249 then true else(!Ny))=true then some false else L) (aAB/\atn/\atm/\aAD):=by
 obtain⟨k,rfl,hk⟩:=hk;obtain⟨i,rfl,ay⟩:=ay;obtain⟨q,rfl,eg⟩:=vK;rw[<-b7,<-hk,<-ay,<-eg];cases c <;> cases k <;> cases i <;> exact⟨_,rfl,by simp⟩
theorem aqJ{l:List r'}{id:Int}{r:Int×Bool}(h:ahS l id r):r.2=true↔∃y,y∈l/\y.a8=id:=by
 rcases h with⟨j,h1,ah,b',rfl⟩ | ⟨h1,rfl⟩
 . grind
 . constructor
   . grind
   . rintro ⟨y,bJ,he⟩
     obtain⟨i,ay,rfl⟩:=OR bJ
     grind
section
variable {ts:List f7} (dy:ts.length < 9223372036854775807) (vk:∀t,t∈ts->LY t) (qs:∀t,t∈ts->abl t.Kind)
include dy vk qs in
theorem aGz{v:ak}(cv:qa v):ati ts v:=by
 induction cv with
 | mk v hs h1 ah b' hk ay Um I0 D' Jm p' QU NH=>
  intro t pl;rw[R1];by_cases Vb:(bif decide (t < 0)then true else decide (((⟨ts⟩:hI).Types.length:Int)<=t))=true
  . rw[ao Vb];refine⟨false,rfl,?_⟩;rw[WN]
    grind
  . rw[aJ Vb];have yb:0<=t/\t < ts.length:=by grind
    obtain⟨j,rfl⟩:∃j:Nat,t=(j:Int):=⟨t.toNat,by omega⟩
    have c7:j < ts.length:=by omega
    rw[ao (gA c7)];simp only[WN,hJ,ak.h7];have agi:=vk _ (j1 c7 hz);have adG:=qs _ (j1 c7 hz);generalize ts.getD j hz=x at agi adG ⊢;have hm:=Jg (Qz agi.OP);have aiY:=Jg (Qz agi.syms);by_cases V9:v.Kind=x.Kind
    . obtain⟨z,z1,z2⟩:=aUD v;have af1:=aGy (ts:=ts) ah NH;have af2:=aGy (ts:=ts) h1 QU;show xe ((if(!(!(decide (v.Kind=x.Kind))))=true then aeB v else some false) >>=_) _;rw[ao (by simp[V9]),z1];obtain⟨K,N,L,H,M,S,Ms,Oj,E,O⟩:=x;obtain⟨Q0,B,ns,Sj,a8,LW,qx,R⟩:=v;simp only at V9;subst V9;simp only at adG hm aiY h1 ah b' z1
      have al:(bif pl then decide (0 < (R.length:Int))else false)=false↔(pl=true->R=[]):=by simp_all
      have b7:Q0=1\/Q0=2\/Q0=3\/Q0=4\/Q0=5\/Q0=6\/Q0=7\/Q0=8\/Q0=9:=by unfold abl at adG;omega
      have cut : ∀ {o : Option Bool} {P W : Prop}, xe o P -> ((XS ⟨Q0, B, ns, Sj, a8, LW, qx, R⟩ /\ (pl = true -> R = []) /\ P) ↔ W) ->
       xe (some z >>=λr=>if(bif (bif false then true else(!r))then true else bif pl then decide (0 < (R.length:Int))else false)=true then some false else o) W:=λc8 hw=>(aNq z2 al c8).imp hw
      have ga:(0:Int)<=j/\(j:Int) < ts.length:=yb;rcases b7 with rfl | rfl | rfl | rfl | rfl | rfl | rfl | rfl | rfl
      . exact cut (P:=True) (.of (b:=true) (by simp)) (by unfold XS;simp[ga];grind)
      . exact cut (P:=L<=ns/\ns<=H) (.of (b:=bif decide (L<=ns)then decide (ns<=H)else false) (by by_cases g:L<=ns <;> simp[g])) (by unfold XS;simp[ga];grind)
      . exact cut (P:=(Sj.length:Int)<=M) (.of (b:=decide ((Sj.length:Int)<=M)) (by simp)) (by unfold XS;simp[ga];grind)
      . obtain⟨r,_,oJ,cJ⟩:=akK (t:=⟨4,N,L,H,M,S,Ms,Oj,E,O⟩) a8 aiY;have Lx:Tm (a8,false)=some (bif decide (1<=a8)then decide (a8<=1000)else false):=by rfl
        have ea:=ayC oJ O pl _ (λb=>Tm (a8,b)) Lx;have hs:=aqJ cJ;simp only at hs;refine cut (P:=(∃y,y∈S/\y.a8=a8)\/O=true/\pl=false/\qj a8) ⟨_,ea,?_⟩ (by unfold XS;simp[ga];grind);rw[<-hs];unfold qj
        grind
      . refine cut (P:=qx.length=Ms.length/\WS Ms R/\Pm ts pl Ms qx) ?_ (by
         have:Pm ts pl Ms qx->qx.length=Ms.length:=λh=>(abc.1 h).1
         unfold XS;simp[ga];grind)
        exact aM4 (A:=decide ((qx.length:Int)=(Ms.length:Int))) (by simp;omega) (aUB (t:=⟨5,N,L,H,M,S,Ms,Oj,E,O⟩) hm b') (λvJ=>aTL (ts:=ts) (t:=⟨5,N,L,H,M,S,Ms,Oj,E,O⟩) (v:=⟨5,B,ns,Sj,a8,LW,qx,R⟩) (aEP vJ) hm NH pl)
      . obtain⟨r,_,oJ,cJ⟩:=YA (t:=⟨6,N,L,H,M,S,Ms,Oj,E,O⟩) a8 hm;have Lx:∀b,b=false->Tm (a8,b)=some (bif decide (1<=a8)then decide (a8<=1000)else false):=by
         intro b al;subst al;rfl
        have arD:decide ((R.length:Int)=1)=true->ez 0 R.length=true:=by
         intro h;have:=aah h;exact gA (k:=0) (by omega)
        refine cut (P:=match zJ Ms a8 with
         | some m=>R=[]/\qx.length=1/\M8 ts pl m.e2 qx
         | none=>O=true/\pl=false/\qj a8/\qx=[]/\∃d,R=[⟨a8,d⟩]) ?_ (by
          unfold XS;simp[ga]
          grind)
        obtain⟨aou,Vr⟩:=r;show xe (Tj (⟨6,N,L,H,M,S,Ms,Oj,E,O⟩,a8) >>=_) _;rw[oJ];rcases afp cJ with⟨e,k,hg,hv,h3,oo⟩ | ⟨e,h3⟩
        . simp only at e hg hv h3 oo;subst e;subst hv;rw[h3];have Xf:∃f:Bool,((bif decide ((qx.length:Int)=1)then decide ((R.length:Int)=0)else false)=true->R1 ((⟨ts⟩:hI),(Ms.getD (k:Int).toNat ii).e2,qx.getD (0:Int).toNat eJ,pl)=some f)/\(qx.length=1->(f=true↔M8 ts pl (Ms.getD k ii).e2 qx)):=by
           by_cases KR:qx.length=1
           . obtain⟨f,f1,f2⟩:=NH (qx.getD 0 eJ) (j1 (by omega:0 < qx.length) eJ) (Ms.getD k ii).e2 pl;refine⟨f,λ_=>f1,λ_=>?_⟩;rw[f2]
             match qx,KR with
             | [y],_=>rw[Lc];simp
           . refine⟨false,λh=>?_,λh=>absurd h KR⟩
             grind
          obtain⟨f,f1,f2⟩:=Xf;have arM:(bif decide ((qx.length:Int)=1)then decide ((R.length:Int)=0)else false)=true->ez (k:Int) Ms.length=true/\ez 0 qx.length=true:=by
           intro O8;refine⟨gA hg,?_⟩;by_cases KR:qx.length=1
           . exact gA (k:=0) (by omega)
           grind
          refine⟨_,ayD _ (ez (k:Int) Ms.length) (ez 0 qx.length) f f1 arM,?_⟩;by_cases g1:qx.length=1
          . simp_all
          grind
        . simp only at e h3;subst e;rw[h3];refine⟨_,ayE (bif O then(!pl)else false) (bif decide (1<=a8)then decide (a8<=1000)else false) (decide ((qx.length:Int)=0)) (decide ((R.length:Int)=1)) (ez 0 R.length) (decide ((R.getD (0:Int).toNat j').a8=a8)) arD,?_⟩;unfold qj
          match R with
          | []=>simp
          | [⟨a1T,rd⟩]=>cases O <;> cases pl <;> by_cases g1:1<=a8 <;> by_cases g2:a8<=1000 <;> cases qx <;> by_cases g3:a1T=a8 <;> simp[g1,g2,g3] <;> omega
          | a::b::c=>simp;omega
      . exact cut (P:=(qx.length:Int)<=M/\M8 ts pl E qx) (aih (by simp) (af1 E pl)) (by unfold XS;simp[ga];grind)
      . refine cut (P:=((LW.length:Int)<=M/\qx.length=LW.length)/\M8 ts pl Oj LW/\M8 ts pl E qx/\TZ LW) ?_ (by unfold XS;simp[ga];grind);refine aM5 (c:=bif decide (M < (LW.length:Int))then true else(!(decide ((qx.length:Int)=(LW.length:Int))))) ?_ (af2 Oj pl) (af1 E pl) (aUC (v:=⟨8,B,ns,Sj,a8,LW,qx,R⟩) (Jg h1) hk)
        grind
      . exact cut (P:=qx.length<=1/\M8 ts pl E qx) (aih (q:=decide ((qx.length:Int)<=1)) (by simp;omega) (af1 E pl)) (by unfold XS;simp[ga];grind)
    . refine⟨false,by simp[V9],?_⟩
      grind
end
theorem a1V{n:Nat}(h:n<=70368744177664):room 1 n=true:=by
 unfold room Qy KJ
 grind
theorem aJl{n:Nat}(h:n<=2199023255552):room 24 n=true:=by
 unfold room Qy KJ
 grind
theorem bws{s b:List UInt8}(h:b.length+s.length<=70368744177664):aes (s,b)=some ((s.length:Int),b++s):=by
 rw[aes];simp only[g',cm];rw[ao (by simp),ao (a1V h)];rfl
theorem auP(b:List UInt8):akj b=some b:=by rw[akj,ao (by simp[PM])]
theorem alQ(a b:Nat):Rz (a:Int) (b:Int)=((max a b:Nat):Int):=by unfold Rz;omega
theorem NP{α:Type}{l:List α}{i:Nat}(h:i < l.length)(d:α):l.drop i=l.getD i d::l.drop (i+1):=by simp_all
def QI(f:Fd):N5:=⟨(f.id:Int),f.text⟩
theorem aTM{m:li}(hm:qa m.j0)(v:ak):aqc (m,v)=some (NK m v):=by
 rw[aqc];unfold NK;cases a7:m.nk with
 | false=>simp
 | true=>
  obtain⟨r,h1,ah⟩:=aTD hm v;simp only[ak.h7]
  grind
theorem aHr{m:li}{v:ak}(cv:qa v)(a7:m.nk=true):UE (v,m.j0)=some (NK m v):=by
 obtain⟨r,h1,ah⟩:=av3 cv m.j0;rw[h1];unfold NK
 grind
section
variable {ts:List f7}
def abo(ts:List f7)(x:ak)(t:Int):Prop:=∀L D:Nat,1<=L->L+wt x<=1125899906842624->WC (t,x,(L:Int),ts,(D:Int))=some (n' ts t x,ts,((max D (L+J0 ts t x - 1):Nat):Int))
theorem aFM :∀{ms:List li} {l:List ak},(Ks ts ms l).length<=ms.length
 | [],l=>by
  rw[Ks]
  . simp
  grind
 | m::ms,[]=>by
  rw[Ks]
  . simp
  grind
 | m::ms,v::l=>by
  rw[Ks];have:=aFM (ms:=ms) (l:=l)
  grind
theorem afg(t:Int)(v:ak):1<=J0 ts t v:=by
 cases v;rw[J0];omega
theorem aJm {Ms:List li} {v:ak} (J8:Ms.length <=1000) (a7:∀m,m∈Ms -> qa m.j0) (Lx:∀m,m∈Ms -> qj m.a8) (a6:v.cy.length=Ms.length) (hlen:∀x,x∈v.cy -> ∀t,(n' ts t x).length <=70368744177664)
 (hw:∀i,i < Ms.length->NK (Ms.getD i ii) (v.cy.getD i eJ)=false->abo ts (v.cy.getD i eJ) (Ms.getD i ii).e2) (L:Nat) (vK:1<=L) (ads:L+ry v.cy < 1125899906842624):
 ∀(k i:Nat) (D:Nat) (acc:List N5),i+k=Ms.length->L<=D->acc.length+k<=100000->
 ac3 ((L:Int),Ms,(Ms.length:Int),(i:Int),ts,(D:Int),v,acc)=some (ts,((max D (L+OU ts (Ms.drop i) (v.cy.drop i)):Nat):Int),v,acc++(Ks ts (Ms.drop i) (v.cy.drop i)).map QI)
 | 0,i,D,acc,ay,NG,ch=>by
  rw[ac3,aJ (by simp;omega),ak.h7,MR (by omega:Ms.length<=i)];rw[OU,Ks]
  . simp;omega
  . grind
  grind
 | k+1,i,D,acc,ay,NG,ch=>by
  have ec:i < Ms.length:=by omega
  have PR:i < v.cy.length:=by omega
  rw[ac3,ao (by simp;omega),ao (gA ec)];simp only[g',cm,hJ,ak.h7,XF];rw[ao (gA PR),aTM (a7 _ (j1 ec ii))];rw[NP ec ii,NP PR eJ,OU,Ks];have af7:=aJm J8 a7 Lx a6 hlen hw L vK ads k (i+1);cases c8:NK (Ms.getD i ii) (v.cy.getD i eJ)with
  | true=>
   simp only[cm,N2,q2,uJ,qb];rw[j2 (by omega)]
   grind
  | false=>
   have C3:v.cy.getD i eJ∈v.cy:=j1 PR eJ;have ar5:=Qc C3;have v':=hw i ec c8 (L+1) D (by omega) (by omega);have SO:=afg (ts:=ts) (Ms.getD i ii).e2 (v.cy.getD i eJ);have C2:=Lx _ (j1 ec ii);obtain⟨n,dy⟩:∃n:Nat,(Ms.getD i ii).a8=(n:Int):=⟨(Ms.getD i ii).a8.toNat,by unfold qj at C2;omega⟩
   simp only[cm,Uw,qb,q2,uJ];have QQ:=hlen _ C3 (Ms.getD i ii).e2;have eh:e0 .i64 (L:Int) 1=((L+1:Nat):Int):=j2 (by omega);rw[ao (gA PR),eh,v'];simp only[cm];rw[dy,aGp (by unfold qj at C2;omega) (by omega)];simp only[cm]
   rw[ao (aJl (by simp;omega)),j2 (by omega),af7 _ _ (by omega) (by omega) (by simp;omega)];have:(⟨(n:Int),Ol n (Ms.getD i ii).sJ (n' ts (Ms.getD i ii).e2 (v.cy.getD i eJ))⟩:N5)=QI ⟨(n:Int).toNat,(Ms.getD i ii).sJ,n' ts (Ms.getD i ii).e2 (v.cy.getD i eJ)⟩:=by rfl
   simp_all
theorem aJn{R:List pI}(ar:∀x,x∈R -> qj x.a8 /\ x.Data.length <=reachBytes)(JG:R.length <=2199023255552)(D:Int):∀(k i:Nat) (acc:List N5),i+k=R.length -> acc.length+k <=2199023255552 ->
 ac1 (R,(R.length:Int),(i:Int),ts,D,acc)=some (ts,D,acc++((R.drop i).map Ux).map QI)
 | 0,i,acc,ay,ch=>by
  rw[ac1,aJ (by simp;omega),MR (by omega:R.length<=i)];simp
 | k+1,i,acc,ay,ch=>by
  have ec:i < R.length:=by omega
  obtain⟨C2,afX⟩:=ar _ (j1 ec j');obtain⟨n,dy⟩:∃n:Nat,(R.getD i j').a8=(n:Int):=⟨(R.getD i j').a8.toNat,by unfold qj at C2;omega⟩
  unfold reachBytes at afX;rw[ac1,ao (by simp;omega),ao (gA ec)];simp only[g',cm,hJ];rw[dy,aGp (by unfold qj at C2;omega) (by omega)];simp only[cm];rw[ao (aJl (by simp;omega)),j2 (by omega),aJn ar JG D k (i+1) _ (by omega) (by simp;omega),NP ec j']
  have:(⟨(n:Int),Ol n false (R.getD i j').Data⟩:N5)=QI (Ux (R.getD i j')):=by
   show _=(⟨(((R.getD i j').a8.toNat:Nat):Int),Ol (R.getD i j').a8.toNat false (R.getD i j').Data⟩:N5)
   grind
  grind
theorem aJo{l:List Fd}(D:Int):∀(k i:Nat) (b:List UInt8),i+k=l.length -> l.length <=2199023255552 -> b.length+((l.drop i).flatMap Fd.text).length <=70368744177664 ->
 ac2 ((l.length:Int),(i:Int),ts,D,l.map QI,b)=some (ts,D,b++(l.drop i).flatMap Fd.text)
 | 0,i,b,ay,_,al=>by
  rw[ac2,aJ (by simp;omega),MR (by omega:l.length<=i)];simp
 | k+1,i,b,ay,a6,al=>by
  have ec:i < l.length:=by omega
  rw[ac2,ao (by simp;omega),ao (gA (by simp;omega)),ao (by simp;omega)];rw[NP ec default]at al ⊢;simp only[MS,vx]at al ⊢;have b9:(l.map QI).getD i ahk=QI (l.getD i default):=Qb QI l i default ahk ec;simp only[hJ,b9];have:(QI (l.getD i default)).text=(l.getD i default).text:=rfl;rw[this,bws (by omega)]
  simp only[g',cm];rw[j2 (by omega),aJo D k (i+1) _ (by omega) a6 (by rw[vx];omega)];simp
end
structure UM (ts:List f7):Prop where
 n:ts.length<=1000
 T:∀t,t∈ts->LY t
 K:∀t,t∈ts->abl t.Kind
 M:aAy ts
 A:∀x,x∈ts->(x.Kind=5\/x.Kind=6)->Q5 x.b8/\x.b8.length<=16
 S:∀x,x∈ts->x.Kind=4->∀y,y∈x.hl->qj y.a8
 ajZ:∀x,x∈ts->x.Kind=8->1<=(ts.getD x.Key.toNat hz).Kind/\(ts.getD x.Key.toNat hz).Kind<=4
section
variable {ts:List f7}
theorem az2{t:Int}{v:ak}(h:(ts.getD t.toNat hz).Kind=1):n' ts t v=if v.oi=true then[1]else[]:=by cases v;rw[n'];simp only[h];rfl
theorem az3{t:Int}{v:ak}(h:(ts.getD t.toNat hz).Kind=2):n' ts t v=OD (Po v.hX).toNat:=by cases v;rw[n'];simp only[h];rfl
theorem az4{t:Int}{v:ak}(h:(ts.getD t.toNat hz).Kind=3):n' ts t v=v.js:=by cases v;rw[n'];simp only[h];rfl
theorem az5{t:Int}{v:ak}(h:(ts.getD t.toNat hz).Kind=4):n' ts t v=OD v.a8.toNat:=by cases v;rw[n'];simp only[h];rfl
theorem az6{t:Int}{v:ak}(h:(ts.getD t.toNat hz).Kind=5):n' ts t v=(OO MQ (LE ts (ts.getD t.toNat hz).b8 v.cy v.Rest)).flatMap Fd.text:=by cases v;rw[n'];simp only[h];rfl
theorem az7{t:Int}{v:ak}(h:(ts.getD t.toNat hz).Kind=6):n' ts t v=JU v.a8.toNat++(match zJ (ts.getD t.toNat hz).b8 v.a8 with
 | some m=>(ob ts m.e2 v.cy).headD []
 | none=>(v.Rest.map pI.Data).headD []):=by
 cases v;rw[n'];simp only[h];rfl
theorem az8{t:Int}{v:ak}(h:(ts.getD t.toNat hz).Kind=7):n' ts t v=(ob ts (ts.getD t.toNat hz).ev v.cy).flatMap H':=by cases v;rw[n'];simp only[h];rfl
theorem az9{t:Int}{v:ak}(h:(ts.getD t.toNat hz).Kind=8):n' ts t v=Qm (ob ts (ts.getD t.toNat hz).Key v.eI) (ob ts (ts.getD t.toNat hz).ev v.cy):=by cases v;rw[n'];simp only[h];rfl
theorem az'{t:Int}{v:ak}(h:(ts.getD t.toNat hz).Kind=9):n' ts t v=match ob ts (ts.getD t.toNat hz).ev v.cy with
 | []=>[]
 | p::_=>1::p:=by
 cases v;rw[n'];simp only[h];rfl
theorem aqt(t:Int)(v:ak):J0 ts t v=1+max (if v.eI=[]then 0 else 1) (if(ts.getD t.toNat hz).Kind=5 then OU ts (ts.getD t.toNat hz).b8 v.cy
 else if(ts.getD t.toNat hz).Kind=6 then(match zJ (ts.getD t.toNat hz).b8 v.a8 with
  | some m=>JS ts m.e2 v.cy
  | none=>0)
 else JS ts (ts.getD t.toNat hz).ev v.cy):=by
 cases v;rw[J0];try rfl
theorem aw6{t:Int}{v:ak}(hk:v.eI=[])(ay:v.cy=[]):J0 ts t v=1:=by
 rw[aqt,hk,ay];have h1:JS ts (ts.getD t.toNat hz).ev []=0:=by rw[JS]
 have ah:OU ts (ts.getD t.toNat hz).b8 []=0:=by rw[OU];intros;simp_all
 rw[h1,ah]
 have b' : (match zJ (ts.getD t.toNat hz).b8 v.a8 with
  | some m=>JS ts m.e2 []
  | none=>0)=0:=by
  split
  . rw[JS]
  . rfl
 grind
theorem aFN{x:f7}{v:ak}(Lu:¬x.Kind=8)(hlen:∀y,y∈v.cy -> (n' ts x.ev y).length <=1000000000000000)(hw:∀y,y∈v.cy -> abo ts y x.ev)(a6:v.cy.length <=reachBytes)(L:Nat)(vK:1 <=L)(ads:L+ry v.cy < 1125899906842624):
 ∀(k i D:Nat) (acc:List UInt8),i+k=v.cy.length->L<=D->acc.length+((ob ts x.ev (v.cy.drop i)).flatMap H').length<=70368744177664->
 XJ ((L:Int),v.cy,(v.cy.length:Int),(i:Int),ts,(D:Int),v,x,acc)=some (ts,((max D (L+JS ts x.ev (v.cy.drop i)):Nat):Int),acc++(ob ts x.ev (v.cy.drop i)).flatMap H')
 | 0,i,D,acc,ay,NG,ch=>by
  rw[XJ,aJ (by simp;omega),MR (by omega:v.cy.length<=i),JS,ob];simp;omega
 | k+1,i,D,acc,ay,NG,ch=>by
  have ec:i < v.cy.length:=by omega
  have ar:=Jg a6;have C3:v.cy.getD i eJ∈v.cy:=j1 ec eJ;have ar5:=Qc C3;rw[NP ec eJ,ob,MS,vx]at ch;have bo:=hlen _ C3;have v':=hw _ C3 (L+1) D (by omega) (by omega);have SO:=afg (ts:=ts) x.ev (v.cy.getD i eJ);have eh:e0 .i64 (L:Int) 1=((L+1:Nat):Int):=j2 (by omega)
  rw[XJ,ao (by simp;omega),ao (gA ec)];simp only[g',cm,hJ,ak.h7];rw[aJ (by simp[Lu]),eh,v'];simp only[cm];rw[aqj (by omega)];simp only[cm];rw[bws (by omega)];simp only[cm]
  rw[j2 (by omega),aFN Lu hlen hw a6 L vK ads k (i+1) _ _ (by omega) (by omega) (by rw[vx];omega),NP ec eJ,JS,ob,MS,SY]
  grind
theorem aGA {x:f7} {v:ak} (Lu:x.Kind=8) (Y6:v.cy.length=v.eI.length) (hlen:∀y,y∈v.cy -> (n' ts x.ev y).length <=1000000000000000) (aiT:∀y,y∈v.eI -> (n' ts x.Key y).length <=1000000000000000)
 (hw:∀y,y∈v.cy->abo ts y x.ev) (agh:∀y,y∈v.eI->abo ts y x.Key) (h1:∀y,y∈v.eI->J0 ts x.Key y=1) (a6:v.cy.length<=reachBytes) (L:Nat) (vK:1<=L) (ads:L+ry v.cy+ry v.eI < 1125899906842624):
 ∀(k i D:Nat) (acc:List UInt8),i+k=v.cy.length->L<=D->acc.length+(Qm (ob ts x.Key (v.eI.drop i)) (ob ts x.ev (v.cy.drop i))).length<=70368744177664->
 XJ ((L:Int),v.cy,(v.cy.length:Int),(i:Int),ts,(D:Int),v,x,acc)=some (ts,((max D (L+max (if v.eI.drop i=[]then 0 else 1) (JS ts x.ev (v.cy.drop i))):Nat):Int),acc++Qm (ob ts x.Key (v.eI.drop i)) (ob ts x.ev (v.cy.drop i)))
 | 0,i,D,acc,ay,NG,ch=>by
  rw[XJ,aJ (by simp;omega),MR (by omega:v.cy.length<=i),MR (by omega:v.eI.length<=i),JS,ob,ob,Qm]
  . simp;omega
  grind
 | k+1,i,D,acc,ay,NG,ch=>by
  have ec:i < v.cy.length:=by omega
  have PR:i < v.eI.length:=by omega
  have ar:=Jg a6;have C3:v.cy.getD i eJ∈v.cy:=j1 ec eJ;have af4:v.eI.getD i eJ∈v.eI:=j1 PR eJ;have ar5:=Qc C3;have a3N:=Qc af4;rw[NP ec eJ,NP PR eJ,ob,ob,Qm,vx,vx]at ch;have bo:=hlen _ C3;have E':=aiT _ af4;have amT:=agh _ af4 (L+1) D (by omega) (by omega);rw[h1 _ af4]at amT
  have v':=hw _ C3 (L+1) (max D (L+1+1 - 1)) (by omega) (by omega);have SO:=afg (ts:=ts) x.ev (v.cy.getD i eJ);have eh:e0 .i64 (L:Int) 1=((L+1:Nat):Int):=j2 (by omega);rw[XJ,ao (by simp;omega),ao (gA ec)];simp only[g',cm,hJ,ak.h7];rw[ao (by simp[Lu]),ao (gA PR),eh,amT];simp only[cm]
  rw[aqj (by omega)];simp only[cm];rw[bws (by omega)];simp only[cm];rw[v'];simp only[cm];rw[aqj (by omega)];simp only[cm];rw[bws (by rw[vx];omega)];simp only[cm]
  rw[j2 (by omega),aGA Lu Y6 hlen aiT hw agh h1 a6 L vK ads k (i+1) _ _ (by omega) (by omega) (by rw[vx,vx];omega),NP ec eJ,NP PR eJ,JS,ob,ob,Qm,SY,SY]
  grind
end
section
variable {ts:List f7} (H:UM ts)
theorem aie(H:UM ts){v:ak}(cv:qa v)(hw:wt v<=1099511627776)(t:Int):(n' ts t v).length<=23089744183296:=by
 have:=aVs H.M cv hw t;omega
theorem aUE{ms:List li}{l:List ak}{r:List pI}(h:Q5 ms)(ar:WS ms r):auk ((LE ts ms l r).map QI)=some ((OO MQ (LE ts ms l r)).map QI):=by
 have e:∀a b:Fd,Xv (QI a) (QI b)=MQ a b:=λa b=>by unfold Xv MQ QI;simp
 have Nl:SWO Xv:=by refine⟨λx=>?_,λx y z h1 ah=>?_,λx y z h1 ah=>?_⟩ <;> simp[Xv]at* <;> omega
 have bo:UK Xv ((LE ts ms l r).map QI)=true:=by
  have h0:=apB (ts:=ts) (l:=l) h ar;generalize LE ts ms l r=q at h0
  induction q with
  | nil=>rfl
  | cons a q ih=>
   simp only[UK,k0,r0,QX]at h0 ⊢
   grind
 unfold auk;rw[aHW Nl bo,aGv QI e]
theorem asb{D L b w:Nat}(h:w=1+b):max (max D L) (L+b)=max D (L+w - 1):=by omega
theorem a1e{D L b w:Nat}(h:w=1+b):max (max D L) (L+1+b - 1)=max D (L+w - 1):=by omega
theorem aKV{b w:Nat}(h:w=1+max 0 b):w=1+b:=by omega
theorem aWZ {x:f7} {v:ak} (PQ:∀m,m∈x.b8 -> qa m.j0) (SQ:Q5 x.b8) (anh:x.b8.length <=16) (MI:WS x.b8 v.Rest) (OK:v.cy.length=x.b8.length)
 (Um:∀y,y∈v.Rest->y.Data.length<=reachBytes) (Rq:∀x,x∈v.cy->∀t,(n' ts t x).length<=23089744183296)
 (Rk:∀i,i < x.b8.length->abo ts (v.cy.getD i eJ) (x.b8.getD i ii).e2)
 (abR:((OO MQ (LE ts x.b8 v.cy v.Rest)).flatMap Fd.text).length<=23089744183296)
 (L D:Nat) (vK:1<=L) (NG:L<=D) (ads:L+ry v.cy < 1125899906842624) (a3o:(v.Rest.map λx=>x.Data.length+1).sum<=1099511627776):
 apj (x,v,(L:Int),ts,(D:Int))=some ((OO MQ (LE ts x.b8 v.cy v.Rest)).flatMap Fd.text,ts,((max D (L+OU ts x.b8 v.cy):Nat):Int)):=by
 have a0a:=SQ.2;have aZc:∀y,y∈v.Rest->qj y.a8/\y.Data.length<=reachBytes:=λy bJ=>⟨(MI.2 y bJ).1,Um y bJ⟩
 have aZb:v.Rest.length<=(v.Rest.map λx=>x.Data.length+1).sum:=by
  generalize v.Rest=R
  induction R with
  | nil=>simp
  | cons a R ih=>simp only[Pg,QX,adS];omega
 have a3B:=aFM (ts:=ts) (ms:=x.b8) (l:=v.cy);have aca:=aJm (ts:=ts) (Ms:=x.b8) (v:=v) (by omega) PQ a0a OK (λy bJ t=>by have:=Rq y bJ t;omega) (λi ay _=>Rk i ay) L vK (by omega) x.b8.length 0 D [] (by omega) (by omega) (by simp;omega);have a1C:ac3 ((L:Int),x.b8,(x.b8.length:Int),0,ts,(D:Int),v,[])=_:=aca;rw[apj]
 simp only[ak.h7];rw[a1C];simp only[g',cm,Ph,PX];generalize ((max D (L+OU ts x.b8 v.cy):Nat):Int)=d;have kJ:=aJn (ts:=ts) (R:=v.Rest) aZc (by omega) d v.Rest.length 0 ((Ks ts x.b8 v.cy).map QI) (by omega) (by simp;omega)
 have a1D:ac1 (v.Rest,(v.Rest.length:Int),0,ts,d,(Ks ts x.b8 v.cy).map QI)=_:=kJ;rw[a1D];simp only[cm,Ph];rw[<-ajh];have hs:=aUE (ts:=ts) (l:=v.cy) SQ MI;have hlen:(LE ts x.b8 v.cy v.Rest).length<=2199023255552:=by unfold LE;simp;omega
 have u1:Ks ts x.b8 v.cy++v.Rest.map Ux=LE ts x.b8 v.cy v.Rest:=rfl;rw[u1];generalize LE ts x.b8 v.cy v.Rest=q at*;rw[hs];simp only[cm];have anm:=acn MQ q;rw[ao (by simp[anm.length_eq])];have aZ8:(OO MQ q).length<=2199023255552:=by rw[anm.length_eq];exact hlen
 generalize OO MQ q=z at*;have oJ:=aJo (ts:=ts) (l:=z) d z.length 0 [] (NI _) aZ8 (by simp only[Ph,Qo];omega);have a1E:ac2 (((z.map QI).length:Int),0,ts,d,z.map QI,[])=some (ts,d,[]++(z.drop 0).flatMap Fd.text):=by grind
 rw[a1E];simp only[cm,auP,Ph,PX]
theorem aUF {x:f7} {v:ak} (hm:x.b8.length < 9223372036854775807) (SQ:Q5 x.b8) (Jm: -9223372036854775808 <=v.a8 /\ v.a8 <=9223372036854775807)
 (vy:match zJ x.b8 v.a8 with
  | some m=>v.Rest=[]/\v.cy.length=1/\M8 ts false m.e2 v.cy
  | none=>x.Open=true/\True/\qj v.a8/\v.cy=[]/\∃d,v.Rest=[⟨v.a8,d⟩])
 (Um:∀y,y∈v.Rest->y.Data.length<=reachBytes) (Rq:∀x,x∈v.cy->∀t,(n' ts t x).length<=23089744183296)
 (Rk:∀x,x∈v.cy->∀t,xJ ts false t x->abo ts x t)
 (L D:Nat) (vK:1<=L) (NG:L<=D) (ads:L+ry v.cy < 1125899906842624):
 aj9 (x, v, (L : Int), ts, (D : Int)) = some (JU v.a8.toNat ++ (match zJ x.b8 v.a8 with
  | some m=>(ob ts m.e2 v.cy).headD []
  | none=>(v.Rest.map pI.Data).headD []),ts,((max D (L+(match zJ x.b8 v.a8 with
  | some m=>JS ts m.e2 v.cy
  | none=>0)):Nat):Int)):=by
 obtain⟨r,kJ,_,cJ⟩:=YA (t:=x) v.a8 hm;rcases afp cJ with⟨e,q,s4,qi,JY,Xs⟩ | ⟨e,JY⟩
 . rw[JY]at vy;rw[JY];simp only at vy ⊢;obtain⟨d1,d2,d3⟩:=vy;have C2:=SQ.2 _ (j1 s4 ii);rw[Xs]at C2;obtain⟨n,dy⟩:∃n:Nat,v.a8=(n:Int):=⟨v.a8.toNat,by unfold qj at C2;omega⟩
   rw[aj9];simp only[ak.h7];rw[kJ,dy,Q2 (by unfold qj at C2;omega),alC (by unfold qj at C2;omega)];simp only[g',cm];rw[aJ (by simp[e]),qi,ao (gA s4)]
   match C2:v.cy,d2 with
   | [y],_=>
    have bJ:y∈v.cy:=by rw[C2];exact .head _
    have Ui:ez 0 ([y]:List ak).length=true:=gA (k:=0) (by simp);have ar5:=Qc bJ;have cJ:=Lc.1 d3 y bJ;have v':=Rk y bJ _ cJ (L+1) D (by omega) (by omega);have eh:e0 .i64 (L:Int) 1=((L+1:Nat):Int):=j2 (by omega);rw[ao Ui,eh];simp only[hJ,adR,Vj];rw[v'];have bo:=Rq y bJ (x.b8.getD q ii).e2
    have ayi:=VO (n:=n) (by rw[dy]at Jm;omega);simp only[cm];rw[ao (P' (by omega))];have SO:=afg (ts:=ts) (x.b8.getD q ii).e2 y;have abC:JS ts (x.b8.getD q ii).e2 [y]=J0 ts (x.b8.getD q ii).e2 y:=by
     have u1:JS ts (x.b8.getD q ii).e2 []=0:=by rw[JS]
     rw[JS,u1];omega
    have afR:ob ts (x.b8.getD q ii).e2 [y]=[n' ts (x.b8.getD q ii).e2 y]:=by rw[ob,ob]
    have e:max D (L+1+J0 ts (x.b8.getD q ii).e2 y - 1)=max D (L+J0 ts (x.b8.getD q ii).e2 y):=by omega
    rw[afR,abC,e];rfl
 . rw[JY]at vy;rw[JY];simp only at vy ⊢;obtain⟨d1,d2,d3,d4,d,d5⟩:=vy;obtain⟨n,dy⟩:∃n:Nat,v.a8=(n:Int):=⟨v.a8.toNat,by unfold qj at d3;omega⟩
   have afX:=Um ⟨v.a8,d⟩ (by rw[d5];exact .head _);simp only at afX;unfold reachBytes at afX;have ayi:=VO (n:=n) (by rw[dy]at Jm;omega);rw[aj9];simp only[ak.h7];rw[kJ,d5,dy,Q2 (by unfold qj at d3;omega),alC (by unfold qj at d3;omega)];simp only[g',cm]
   have Ui:ez 0 ([⟨(n:Int),d⟩]:List pI).length=true:=gA (k:=0) (by simp);rw[ao (by simp[e]),ao Ui];simp only[adR,Vj];rw[ao (P' (by omega))];have e:max D (L+0)=D:=by omega
   rw[e];rfl
set_option maxHeartbeats 400000 in
theorem aW0(H:UM ts){v:ak}(cv:qa v):wt v<=1099511627776->∀t,xJ ts false t v->abo ts v t:=by
 induction cv with
 | mk v hs h1 ah b' hk ay Um I0 D' Jm p' QU NH=>
  intro hw t cJ L D vK ads;have amR:qa v:= .mk v hs h1 ah b' hk ay Um I0 D' Jm p';have adF:=Qv v;have Rq:∀x,x∈v.cy->∀t,(n' ts t x).length<=23089744183296:=λx ad t=>aie H (ay x ad) (by have:=Qc ad;omega) t
  have ax5:∀x,x∈v.eI->∀t,(n' ts t x).length<=23089744183296:=λx ad t=>aie H (hk x ad) (by have:=Qc ad;omega) t
  have Rk:∀x,x∈v.cy->∀t,xJ ts false t x->abo ts x t:=λx ad t=>NH x ad (by have:=Qc ad;omega) t
  have axD:∀x,x∈v.eI->∀t,xJ ts false t x->abo ts x t:=λx ad t=>QU x ad (by have:=Qc ad;omega) t
  have abR:=aie H amR hw t;obtain⟨⟨g1,g2,g3,_⟩,cJ⟩:=(WN _ _ _).1 cJ;obtain⟨j,rfl⟩:∃j:Nat,t=(j:Int):=⟨t.toNat,by omega⟩
  have c7:j < ts.length:=by omega
  rw[WC];simp only[g',cm];rw[ao (gA c7),alQ];simp only[hJ,ak.h7]at cJ g3 ⊢;have OM:=j1 c7 hz;have QP:=aqt (ts:=ts) (j:Int) v;have X8:=@az2 ts (j:Int) v;have Y':=@az3 ts (j:Int) v;have anv:=@az4 ts (j:Int) v;have anw:=@az5 ts (j:Int) v;have age:=@az6 ts (j:Int) v;have anx:=@az7 ts (j:Int) v
  have aiZ:=@az8 ts (j:Int) v;have ai0:=@az9 ts (j:Int) v;have anz:=@az' ts (j:Int) v;simp only[hJ]at QP X8 Y' anv anw age anx aiZ ai0 anz;have vJ:=H.A _ OM;have aJB:=H.ajZ _ OM;have dx:=H.S _ OM;generalize ts.getD j hz=x at*;have aJ1:¬x.Kind=5->¬x.Kind=6->v.eI=[]->J0 ts (j:Int) v=1+JS ts x.ev v.cy:=λa b c=>by grind
  have leaf:v.eI=[]->v.cy=[]->max D (L+J0 ts (j:Int) v - 1)=max D L:=λa b=>by rw[aw6 a b];omega
  rcases cJ with⟨k,hN,hR,px,xi,vy,MI⟩ | ⟨k,hN,hR,px,xi,vy,MI,Nj,Rb⟩ | ⟨k,hN,hR,px,xi,vy,MI,Nj⟩ | ⟨k,hN,hR,px,xi,vy,MI,Nj⟩ | ⟨k,hN,hR,px,xi,vy,MI,Nj⟩ | ⟨k,hN,hR,px,xi,vy⟩ | ⟨k,hN,hR,px,xi,vy,MI,Nj,Rb⟩ | ⟨k,hN,hR,px,xi,vy,MI,Nj,Rb,amf,aAZ⟩ | ⟨k,hN,hR,px,xi,vy,MI,Nj,Rb⟩ <;> rw[k]at g3
  . grind
  . have hY:=g3.symm;rw[aJ (by simp[hY]),ao (by simp[hY]),Y' hY,leaf xi vy,axm D'];simp only[cm];have ga:=aqD D';obtain⟨n,dy⟩:∃n:Nat,Po v.hX=(n:Int):=⟨(Po v.hX).toNat,by unfold Po;split <;> omega⟩
    rw[dy,aaj]at ga;rw[dy,aJk ga];rfl
  . have hY:=g3.symm;rw[aJ (by simp[hY]),aJ (by simp[hY]),ao (by simp[hY]),anv hY,leaf xi vy]
  . have hY:=g3.symm;rw[aJ (by simp[hY]),aJ (by simp[hY]),aJ (by simp[hY]),ao (by simp[hY]),anw hY,leaf xi vy]
    obtain⟨n,dy⟩:∃n:Nat,v.a8=(n:Int):=⟨v.a8.toNat,by
     rcases Nj with⟨y,bJ,he⟩ | ⟨_,_,he⟩
     . have:=dx hY y bJ;unfold qj at this;omega
     . unfold qj at he;omega⟩
    rw[dy,Q2 (by omega),aJk (by omega),aaj];rfl
  . have hY:=g3.symm;rw[aJ (by simp[hY]),aJ (by simp[hY]),aJ (by simp[hY]),aJ (by simp[hY]),ao (by simp[hY]),age hY];obtain⟨SQ,anh⟩:=vJ (.inl hY);obtain⟨OK,am8⟩:=abc.1 Nj
    rw[aWZ (H.T _ OM).V1 SQ anh MI OK (λy bJ=>Um y bJ) Rq (λi ay=>Rk _ (j1 (by omega) eJ) _ (am8 i ay)) (by rw[<-age hY];exact abR) L (max D L) vK (by omega) (by omega) (by omega)];simp only[cm];rw[ao hY,ao vy]at QP;have e:max (max D L) (L+OU ts x.b8 v.cy)=max D (L+J0 ts (j:Int) v - 1):=asb (aKV QP);rw[e]
  . have hY:=g3.symm;rw[aJ (by simp[hY]),aJ (by simp[hY]),aJ (by simp[hY]),aJ (by simp[hY]),aJ (by simp[hY]),ao (by simp[hY]),anx hY];obtain⟨SQ,anh⟩:=vJ (.inr hY);rw[aJ (show ¬x.Kind=5 by omega),ao hY,ao xi]at QP;rw[aUF (Jg (Qz (H.T _ OM).OP)) SQ Jm vy (λy bJ=>Um y bJ) Rq Rk L (max D L) vK (by omega) (by omega)]
    simp only[cm]
    exact JQ (λz : Nat => (some (JU v.a8.toNat ++ (match zJ x.b8 v.a8 with
     | some m=>(ob ts m.e2 v.cy).headD []
     | none=>(v.Rest.map pI.Data).headD []),ts,(z:Int)):Option (List UInt8×List f7×Int))) (asb (D:=D) (L:=L) (aKV QP))
  . have hY:=g3.symm;rw[aJ (by simp[hY]),aJ (by simp[hY]),aJ (by simp[hY]),aJ (by simp[hY]),aJ (by simp[hY]),aJ (by simp[hY]),aJ (by simp[hY])];have cJ:=Lc.1 Rb;rw[aiZ hY]at abR
    have:=aFN (x:=x) (v:=v) (by omega) (λy bJ=>by have:=Rq y bJ x.ev;omega) (λy bJ=>Rk y bJ x.ev (cJ y bJ)) ah L vK (by omega) v.cy.length 0 (max D L) [] (by omega) (by omega) (by simp only[Ph,Qo];omega);have h0:XJ ((L:Int),v.cy,(v.cy.length:Int),0,ts,((max D L:Nat):Int),v,x,[])=_:=this;rw[h0]
    simp only[cm,auP];have a6:=aJ1 (by omega) (by omega) vy;have e:max (max D L) (L+JS ts x.ev v.cy)=max D (L+J0 ts (j:Int) v - 1):=asb a6;rw[aiZ hY,Ph,PX,e]
  . have hY:=g3.symm;rw[aJ (by simp[hY]),aJ (by simp[hY]),aJ (by simp[hY]),aJ (by simp[hY]),aJ (by simp[hY]),aJ (by simp[hY]),aJ (by simp[hY])];have cJ:=Lc.1 amf;have arK:=Lc.1 Rb;rw[ai0 hY]at abR;obtain⟨a3X,a3Y⟩:=aJB hY;have Ro:∀y,y∈v.eI->J0 ts x.Key y=1:=λy bJ=>by
     obtain⟨⟨_,_,k9,_⟩,b⟩:=(WN _ _ _).1 (arK y bJ);apply aw6 <;> grind
    have:=aGA (x:=x) (v:=v) hY Nj (λy bJ=>by have:=Rq y bJ x.ev;omega) (λy bJ=>by have:=ax5 y bJ x.Key;omega) (λy bJ=>Rk y bJ x.ev (cJ y bJ)) (λy bJ=>axD y bJ x.Key (arK y bJ)) Ro ah L vK (by omega) v.cy.length 0 (max D L) [] (by omega) (by omega) (by simp only[Ph,Qo];omega)
    have h0:XJ ((L:Int),v.cy,(v.cy.length:Int),0,ts,((max D L:Nat):Int),v,x,[])=_:=this;rw[h0];simp only[cm,auP];rw[aJ (show ¬x.Kind=5 by omega),aJ (show ¬x.Kind=6 by omega)]at QP;simp only[Ph,PX]
    have e:max (max D L) (L+max (if v.eI=[]then 0 else 1) (JS ts x.ev v.cy))=max D (L+J0 ts (j:Int) v - 1):=asb QP;rw[ai0 hY,e]
  . have hY:=g3.symm;rw[aJ (by simp[hY]),aJ (by simp[hY]),aJ (by simp[hY]),aJ (by simp[hY]),aJ (by simp[hY]),aJ (by simp[hY]),ao (by simp[hY]),anz hY];have cJ:=Lc.1 Rb
    match C2:v.cy,Nj with
    | [],_=>rw[ao (by simp),leaf vy C2,ob]
    | [y],_=>
     have bJ:y∈v.cy:=by rw[C2];exact .head _
     have Ui:ez 0 ([y]:List ak).length=true:=gA (k:=0) (by simp);rw[aJ (by simp),ao Ui];have ar5:=Qc bJ;have v':=Rk y bJ x.ev (cJ y bJ) (L+1) (max D L) (by omega) (by omega);have eh:e0 .i64 (L:Int) 1=((L+1:Nat):Int):=j2 (by omega);rw[eh];simp only[adR,Vj];rw[v'];have bo:=Rq y bJ x.ev
     simp only[cm];rw[ao (P' (by simp;omega))];have a6:=aJ1 (by omega) (by omega) vy;rw[C2]at a6;have SO:=afg (ts:=ts) x.ev y;have abC:JS ts x.ev [y]=J0 ts x.ev y:=by
      have u1:JS ts x.ev []=0:=by rw[JS]
      rw[JS,u1];omega
     have afR:ob ts x.ev [y]=[n' ts x.ev y]:=by rw[ob,ob]
     rw[abC]at a6;have e:max (max D L) (L+1+J0 ts x.ev y - 1)=max D (L+J0 ts (j:Int) v - 1):=a1e a6;rw[afR,e];rfl
    | a::b::c,h=>simp at h
end
end
end Go.Proofs.YtijpinendaoleaaGreat
