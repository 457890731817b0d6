/- The functions of the program as functions of Lean, that its code does what they say, and what they answer; part B. -/
import Derived.Test.YtopcfbelfjclmaaGreatDoorCkA

namespace Go.Proofs.YtopcfbelfjclmaaGreatDoor
set_option linter.all false
section
open Go Go.Proofs.YtopcfbelfjclmaaGreatDoor.Shv
open Tryz
set_option maxRecDepth 100000
def tg:Int×aj×az->ag (aj×az)
 |(i,a,b)=>
 if (i<(a.af.length:Int):J) then ite (aE i a.af.length) (some [(a.af.getD i.toNat aH).aC]>>=λt19=>ite (cn 8 (b++t19).length) (tg (a' .i64 i 1,a,b++t19)) none) none else some (a,b)
  partial_fixpoint
theorem X0:cy 99 0 [0] UY tg:= .rx tg.partial_correctness
def DH(t:aj):ag az:=
 tg (0,t,[])>>=λo=>if (o.1.ae=8:J) then some [o.1.aR]>>=λt27=>ite (cn 8 (o.2++t27).length) (some (o.2++t27)>>=λl=>if(bif bif (o.1.ae=7:J)then true else (o.1.ae=8:J)then true else (o.1.ae=9:J)) then some [o.1.aF]>>=λt45=>ite (cn 8 (l++t45).length) (some (l++t45)) none else some l) none else if(bif bif (o.1.ae=7:J)then true else (o.1.ae=8:J)then true else (o.1.ae=9:J)) then some [o.1.aF]>>=λa=>ite (cn 8 (o.2++a).length) (some (o.2++a)) none else some o.2
theorem aad:bj aje DH:= .bo .n (.k X0 .n)
def HS(a:Int):ag (J):=
 some (bif (1<=a:J)then (a<=4:J)else false)
theorem X1:bj ah2 HS:= .bo
def oF:Int×Int×I aj×Int×aq×Int×Int×Int×I df×I aU×Int×Int×J->ag ((Int) ⊕ (Int×I aj×Int×aq×Int×Int×Int×I df×I aU×Int×Int×J))
 |(d,k,a,b,c,e,f,g,i,j,l,m,n)=>
 if (k<d:J) then lD b>>=λo=>ite (aE k a.length||(!o)) (if(bif o then ((a.getD k.toNat aN).aP=c:J)else false) then some (.inl 1)else oF (d,a' .i64 k 1,a,b,c,e,f,g,i,j,l,m,n)) none else some (.inr (d,a,b,c,e,f,g,i,j,l,m,n))
  partial_fixpoint
theorem Xe:cy 62 0 [0,0] QR oF:= .rx oF.partial_correctness (.k Wq .n)
def ra:Int×az×Int×I aj×Int×aq×Int×Int×Int×I df×I aU×Int×Int×J->ag ((Int) ⊕ (Int×I aj×Int×aq×Int×Int×Int×I df×I aU×Int×Int×J))
 |(o,l,a,b,c,d,e,f,g,i,j,k,m,n)=>
 if (a<(l.length:Int):J) then ite (aE a l.length) (some (l.getD a.toNat 0<0:J)>>=λt58=>ite (aE a l.length||(!(!t58))) (if(bif t58 then true else ((b.length:Int)<=l.getD a.toNat 0:J)) then some (.inl 4)else ra (o,l,a' .i64 a 1,b,c,d,e,f,g,i,j,k,m,n)) none) none else some (.inr (o,b,c,d,e,f,g,i,j,k,m,n))
  partial_fixpoint
theorem Xf:cy 62 0 [1,0] QS ra:= .rx ra.partial_correctness
def rj(m:Int×I aj):ag ((Int) ⊕ (Unit)):=
 match m with
 |(i,b)=>
 if (i<(b.length:Int):J) then ite (aE i b.length) (some (b.getD i.toNat aN)>>=λc=>hY c>>=λr=>if !r then some (.inl 1)else oF (i,0,b,c.ae,c.aP,c.br,c.bB,c.Max,c.bc,c.af,c.aR,c.aF,c.bt)>>=λe=>match e with
 |.inl f=>
 some (.inl f)
 |.inr a=>
 DH (⟨a.2.2.1,a.2.2.2.1,a.2.2.2.2.1,a.2.2.2.2.2.1,a.2.2.2.2.2.2.1,a.2.2.2.2.2.2.2.1,a.2.2.2.2.2.2.2.2.1,a.2.2.2.2.2.2.2.2.2.1,a.2.2.2.2.2.2.2.2.2.2.1,a.2.2.2.2.2.2.2.2.2.2.2⟩:aj)>>=λk=>ra (a.1,k,0,a.2.1,a.2.2.1,a.2.2.2.1,a.2.2.2.2.1,a.2.2.2.2.2.1,a.2.2.2.2.2.2.1,a.2.2.2.2.2.2.2.1,a.2.2.2.2.2.2.2.2.1,a.2.2.2.2.2.2.2.2.2.1,a.2.2.2.2.2.2.2.2.2.2.1,a.2.2.2.2.2.2.2.2.2.2.2)>>=λg=>match g with
 |.inl j=>
 some (.inl j)
 |.inr d=>
 some (d.2.2.1=8:J)>>=λt71=>ite (aE d.2.2.2.2.2.2.2.2.2.1 d.2.1.length||(!t71)) ((if t71 then HS (d.2.1.getD d.2.2.2.2.2.2.2.2.2.1.toNat aN).ae else some false)>>=λl=>if(bif t71 then(!l)else false) then some (.inl 1)else rj (a' .i64 d.1 1,d.2.1)) none) none else some (.inr ())
  partial_fixpoint
theorem YD:cy 62 0 [0] Uu rj:= .rx rj.partial_correctness (.k ZS (.k aad (.k X1 .n))) (.k Xe (.k Xf .n))
def pJ(s:aT):ag (Int):=
 if (32<(s.bh.length:Int):J) then some 3 else rj (0,s.bh)>>=λo=>match o with
 |.inl a=>
 some a
 |.inr b=>
 some 0
theorem Ds:bj ai7 pJ:= .bo .n (.k YD .n)
def ux(v:ab):ag (J):=
 some (bif bif bif bif bif bif bif (v.ae=1:J)then true else(!v.ct)then bif (v.ae=2:J)then true else (v.bE=0:J)else false then bif (v.ae=3:J)then true else (v.bZ=[]:J)else false then bif bif (v.ae=4:J)then true else (v.ae=6:J)then true else (v.ai=0:J)else false then bif (v.ae=8:J)then true else ((v.a7.length:Int)=0:J)else false then bif (5<=v.ae:J)then true else ((v.aw.length:Int)=0:J)else false then bif bif (v.ae=5:J)then true else (v.ae=6:J)then true else ((v.aX.length:Int)=0:J)else false)
theorem aae:bj aia ux:= .bo
def oG:Int×Int×aj->ag ((Int×J) ⊕ (Unit))
 |(a,i,b)=>
 if (i<(b.bc.length:Int):J) then ite (aE i b.bc.length) (if ((b.bc.getD i.toNat dV).ai=a:J) then some (.inl (i,true))else oG (a,a' .i64 i 1,b)) none else some (.inr ())
  partial_fixpoint
theorem Yo:cy 95 0 [0] UX oG:= .rx oG.partial_correctness
def pG(b:aj×Int):ag (Int×J):=
 match b with
 |(t,id)=>
 oG (id,0,t)>>=λo=>match o with
 |.inl a=>
 some (a.1,a.2)
 |.inr c=>
 some (0,false)
theorem zf:bj aja pG:= .bo .n (.k Yo .n)
def jt:Int×J->ag (J)
 |(n,a)=>
 some (bif bif (!a)then (1<=n:J)else false then (n<=1000:J)else false)
theorem Ln:bj aib jt:= .bo
def pA:Int×Int×aj->ag ((Int×J) ⊕ (Unit))
 |(a,i,b)=>
 if (i<(b.af.length:Int):J) then ite (aE i b.af.length) (if ((b.af.getD i.toNat aH).ai=a:J) then some (.inl (i,true))else pA (a,a' .i64 i 1,b)) none else some (.inr ())
  partial_fixpoint
theorem Yp:cy 61 0 [0] Ut pA:= .rx pA.partial_correctness
def gD(b:aj×Int):ag (Int×J):=
 match b with
 |(t,id)=>
 pA (id,0,t)>>=λo=>match o with
 |.inl a=>
 some (a.1,a.2)
 |.inr c=>
 some (0,false)
theorem kl:bj ai6 gD:= .bo .n (.k Yp .n)
def l6:I ch×Int×aj->ag ((J) ⊕ (Unit))
 |(a,i,b)=>
 if (i<(a.length:Int):J) then ite (aE i a.length) (gD (b,(a.getD i.toNat cj).ai)>>=λr=>ite (aE i a.length) (jt ((a.getD i.toNat cj).ai,r.2)>>=λc=>some (!c)>>=λt31=>some (0<i:J)>>=λt34=>ite (aE i a.length||(!((!t31)&&t34))) (some (dD .i64 i 1)>>=λt43=>ite (aE t43 a.length||(!((!t31)&&t34))) (if(bif t31 then true else bif t34 then ((a.getD i.toNat cj).ai<=(a.getD t43.toNat cj).ai:J)else false) then some (.inl false)else l6 (a,a' .i64 i 1,b)) none) none) none) none else some (.inr ())
  partial_fixpoint
theorem X2:cy 113 0 [0] Q' l6:= .rx l6.partial_correctness (.k kl (.k Ln .n))
def uz(b:aj×I ch):ag (J):=
 match b with
 |(t,l)=>
 l6 (l,0,t)>>=λo=>match o with
 |.inl a=>
 some a
 |.inr c=>
 some true
theorem aaf:bj aic uz:= .bo .n (.k X2 .n)
def vW(n:Int):ag (Int):=
 if (0<=n:J) then some (fH .u64 2 (da .u64 n))else some (a' .u64 (fH .u64 2 (da .u64 (dD .i64 0 (a' .i64 n 1)))) 1)
theorem Wn:bj aix vW:= .bo
def jb:J×J->ag (Int)
 |(b,a)=>
 if a then some 0 else if b then some (-1)else some 1
theorem Y9:bj aiE jb:= .bo
def pF:ab×ab->ag (Int)
 |(a,b)=>
 if !(a.ae=b.ae:J) then some 0 else if (a.ae=1:J) then jb (b.ct,e7 a.ct b.ct)>>=λr=>some r else if (a.ae=2:J) then vW a.bE>>=λc=>vW b.bE>>=λd=>jb ((c<d:J),(a.bE=b.bE:J))>>=λe=>some e else if (a.ae=3:J) then if !((a.bZ.length:Int)=(b.bZ.length:Int):J) then jb (((a.bZ.length:Int)<(b.bZ.length:Int):J),false)>>=λf=>some f else jb (Op.bytesLess a.bZ b.bZ,(a.bZ=b.bZ:J))>>=λg=>some g else if (a.ae=4:J) then jb ((a.ai<b.ai:J),(a.ai=b.ai:J))>>=λi=>some i else some 0
theorem Wj:bj aid pF:= .bo (.k Y9 (.k Wn .n))
def jP:Int×ab->ag ((J) ⊕ (Unit))
 |(b,a)=>
 if (b<(a.a7.length:Int):J) then some (dD .i64 b 1)>>=λt270=>ite (aE t270 a.a7.length) (ite (aE b a.a7.length) (pF (ab.eta (a.a7.getD t270.toNat aM),ab.eta (a.a7.getD b.toNat aM))>>=λc=>if (0<=c:J) then some (.inl false)else jP (a' .i64 b 1,ab.eta a)) none) none else some (.inr ())
  partial_fixpoint
theorem Zq:cy 65 0 [1] Uw jP:= .rx jP.partial_correctness (.k Wj .n)
mutual
def oe(c:aT×Int×I ab×J):ag (J):=
 match c with
 |(s,t,l,plain)=>
 ny (t,l,plain,0,s.bh)>>=λo=>match o with
 |.inl q=>
 some q
 |.inr K=>
 some true
  partial_fixpoint
def jc(c:aT×Int×ab×J):ag (J):=
 match c with
 |(s,t,v,plain)=>
 if(bif (t<0:J)then true else ((s.bh.length:Int)<=t:J)) then some false else ite (aE t s.bh.length) (some (s.bh.getD t.toNat aN)>>=λa=>some (!(v.ae=a.ae:J))>>=λt34=>(if !t34 then ux (ab.eta v)else some false)>>=λr=>if(bif bif t34 then true else(!r)then true else bif plain then (0<(v.aX.length:Int):J)else false) then some false else if (a.ae=1:J) then some true else if (a.ae=2:J) then some (bif (a.br<=v.bE:J)then (v.bE<=a.bB:J)else false)else if (a.ae=3:J) then some ((v.bZ.length:Int)<=a.Max:J)else if (a.ae=4:J) then pG (a,v.ai)>>=λu=>some (bif a.bt then(!plain)else false)>>=λt91=>(if((!u.2)&&t91) then jt (v.ai,u.2)else some false)>>=λX=>some (bif u.2 then true else bif t91 then X else false)else if (a.ae=5:J) then some (!((v.aw.length:Int)=(a.af.length:Int):J))>>=λt107=>(if !t107 then uz (a,v.aX)else some false)>>=λY=>if(bif t107 then true else(!Y)) then some false else lC (plain,0,s.bh,ab.eta v,a.ae,a.aP,a.br,a.bB,a.Max,a.bc,a.af,a.aR,a.aF,a.bt)>>=λo=>match o with
 |.inl q=>
 some q
 |.inr K=>
 some true else if (a.ae=6:J) then gD (a,v.ai)>>=λj=>if j.2 then some (bif ((v.aw.length:Int)=1:J)then ((v.aX.length:Int)=0:J)else false)>>=λt156=>ite (aE j.1 a.af.length||(!t156)) (ite (aE 0 v.aw.length||(!t156)) ((if t156 then jc (s,(a.af.getD j.1.toNat aH).aC,ab.eta (v.aw.getD (0:Int).toNat aM),plain)else some false)>>=λZ=>some (bif t156 then Z else false)) none) none else some (bif a.bt then(!plain)else false)>>=λt177=>(if t177 then jt (v.ai,j.2)else some false)>>=λO=>some (bif bif bif t177 then O else false then ((v.aw.length:Int)=0:J)else false then ((v.aX.length:Int)=1:J)else false)>>=λt195=>ite (aE 0 v.aX.length||(!t195)) (some (bif t195 then ((v.aX.getD (0:Int).toNat cj).ai=v.ai:J)else false)) none else if (a.ae=7:J) then some ((v.aw.length:Int)<=a.Max:J)>>=λt213=>(if t213 then oe (s,a.aF,v.aw,plain)else some false)>>=λP=>some (bif t213 then P else false)else if (a.ae=8:J) then some (bif (a.Max<(v.a7.length:Int):J)then true else(!((v.aw.length:Int)=(v.a7.length:Int):J)))>>=λt239=>(if !t239 then oe (s,a.aR,v.a7,plain)else some false)>>=λQ=>some (bif t239 then true else(!Q))>>=λt249=>(if !t249 then oe (s,a.aF,v.aw,plain)else some false)>>=λS=>if(bif t249 then true else(!S)) then some false else jP (1,ab.eta v)>>=λL=>match L with
 |.inl N=>
 some N
 |.inr aa=>
 some true else some ((v.aw.length:Int)<=1:J)>>=λw=>(if w then oe (s,a.aF,v.aw,plain)else some false)>>=λU=>some (bif w then U else false)) none
  partial_fixpoint
def ny:Int×I ab×J×Int×I aj->ag ((J) ⊕ (Unit))
 |(x,g,e,i,b)=>
 if (i<(g.length:Int):J) then ite (aE i g.length) (jc ((⟨b⟩:aT),x,ab.eta (g.getD i.toNat aM),e)>>=λr=>if !r then some (.inl false)else ny (x,g,e,a' .i64 i 1,b)) none else some (.inr ())
  partial_fixpoint
def lC:J×Int×I aj×ab×Int×aq×Int×Int×Int×I df×I aU×Int×Int×J->ag ((J) ⊕ (Unit))
 |(e,i,b,f,A,B,D,E,F,G,p,H,y,z)=>
 if (i<(f.aw.length:Int):J) then ite (aE i p.length) (ite (aE i f.aw.length) (jc ((⟨b⟩:aT),(p.getD i.toNat aH).aC,ab.eta (f.aw.getD i.toNat aM),e)>>=λW=>if !W then some (.inl false)else lC (e,a' .i64 i 1,b,ab.eta f,A,B,D,E,F,G,p,H,y,z)) none) none else some (.inr ())
  partial_fixpoint
end
theorem Y':eP Gm oe/\fa 114 0 [0] Bu ny/\eP vH jc/\fa 65 0 [0] yE lC:=oe.mutual_partial_correctness (eG Gm) (e' 114 0 [0] Bu) (eG vH) (e' 65 0 [0] yE)
 (λ_ h1 _ _ h=>eV h .n (.k (fl Bu h1) .n))
 (λ_ _ h1 a _ _ h=>fk Bu h1 h (.k (cL vH a) .n))
 (λ_ _ _ h0 a b _ _ h=>eV h (.k aae (.k zf (.k Ln (.k aaf (.k kl (.k (cL vH a) (.k (cL Gm h0) .n))))))) (.k (fl yE b) (.k Zq .n)))
 (λ_ _ a b _ _ h=>fk yE b h (.k (cL vH a) .n))
theorem ZT:bj vH jc:=cL _ Y'.2.2.1
def pK:aT×Int×ab->ag (J)
 |(s,t,v)=>
 jc (s,t,ab.eta v,true)>>=λr=>some r
theorem HT:bj aiZ pK:= .bo (.k ZT .n)
def n2:Int×I aU×Int×I aj->ag ((Int×Int×Int) ⊕ (Int×I aj))
 |(c,l,i,b)=>
 if (i<(l.length:Int):J) then ite (aE i l.length) (some (l.getD i.toNat aH)>>=λa=>ite (aE i l.length||(!a.bH)) (ite (aE i l.length||(!a.bH)) ((if a.bH then pK ((⟨b⟩:aT),(l.getD i.toNat aH).aC,ab.eta (l.getD i.toNat aH).bm)else some false)>>=λd=>if(bif a.bH then(!d)else false) then ite (aE i l.length) (some (.inl (c,(l.getD i.toNat aH).ai,1))) none else n2 (c,l,a' .i64 i 1,b)) none) none) none else some (.inr (c,b))
  partial_fixpoint
theorem XU:cy 247 0 [0,0] OK n2:= .rx n2.partial_correctness (.k HT .n)
def n'(e:Int×I aj):ag ((Int×Int×Int) ⊕ (Unit)):=
 match e with
 |(t,b)=>
 if (t<(b.length:Int):J) then ite (aE t b.length) (n2 (t,(b.getD t.toNat aN).af,0,b)>>=λd=>match d with
 |.inl a=>
 some (.inl (a.1,a.2.1,a.2.2))
 |.inr c=>
 n' (a' .i64 c.1 1,c.2)) none else some (.inr ())
  partial_fixpoint
theorem Xw:cy 247 0 [0] Ra n':= .rx n'.partial_correctness .n (.k XU .n)
def Dn(s:aT):ag (Int×Int×Int):=
 pJ s>>=λr=>if !(r=0:J) then some (0,0,r)else n' (0,s.bh)>>=λo=>match o with
 |.inl a=>
 some (a.1,a.2.1,a.2.2)
 |.inr b=>
 some (0,0,0)
theorem YE:bj aiN Dn:= .bo (.k Ds .n) (.k Xw .n)
def y7(s:aT):ag (Int):=
 pJ s>>=λr=>if !(r=0:J) then some r else Dn s>>=λa=>some a.2.2
theorem Za:bj aiG y7:= .bo (.k Ds (.k YE .n))
def rk:Int×Int×az×aj->ag (Int×az)
 |(d,i,a,b)=>
 if (i<(b.af.length:Int):J) then ite (aE i b.af.length) (some (b.af.getD i.toNat aH)>>=λc=>ite (aE c.aC a.length) (ite (c.aC.toNat<a.length:J) (rk (c4 2 (fH .i64 d (a.getD c.aC.toNat 0)),a' .i64 i 1,a,b)) none) none) none else some (d,a)
  partial_fixpoint
theorem YF:cy 248 1 [0] Rb rk:= .rx rk.partial_correctness
def rl:Int×Int×az×aj->ag (Int×az)
 |(e,c,a,b)=>
 if (c<(b.af.length:Int):J) then ite (aE c b.af.length) (some (b.af.getD c.toNat aH)>>=λd=>ite (aE d.aC a.length) (ite (d.aC.toNat<a.length:J) (rl (c4 2 (a' .i64 e (a.getD d.aC.toNat 0)),a' .i64 c 1,a,b)) none) none) none else some (e,a)
  partial_fixpoint
theorem YG:cy 248 1 [1] Rc rl:= .rx rl.partial_correctness
def DA:aj×az->ag (Int×az)
 |(a,b)=>
 if (a.ae=2:J) then if (a.br=a.bB:J) then some (1,b)else some (2,b)else if (a.ae=3:J) then if (a.Max=0:J) then some (1,b)else some (2,b)else if (a.ae=4:J) then some (c4 2 (a.bc.length:Int),b)else if (a.ae=5:J) then rk (1,0,b,a)>>=λo=>some (o.1,o.2)else if (a.ae=6:J) then rl (0,0,b,a)>>=λd=>some (d.1,d.2)else some (a.ae=7:J)>>=λt74=>if t74 then if t74 then some (a.Max=0:J)>>=λt78=>ite (aE a.aF b.length||(!(!t78))) (ite ((a.aF.toNat<b.length:J)||(!(!t78))) (if(bif t78 then true else (b.getD a.aF.toNat 0=0:J)) then some (1,b)else some (2,b)) none) none else if (a.ae=9:J) then ite (aE a.aF b.length) (ite (a.aF.toNat<b.length:J) (some (c4 2 (a' .i64 1 (b.getD a.aF.toNat 0)),b)) none) none else some (2,b)else if (a.ae=8:J) then some (a.Max=0:J)>>=λc=>ite (aE a.aF b.length||(!(!c))) (ite ((a.aF.toNat<b.length:J)||(!(!c))) (if(bif c then true else (b.getD a.aF.toNat 0=0:J)) then some (1,b)else some (2,b)) none) none else if (a.ae=9:J) then ite (aE a.aF b.length) (ite (a.aF.toNat<b.length:J) (some (c4 2 (a' .i64 1 (b.getD a.aF.toNat 0)),b)) none) none else some (2,b)
theorem Zb:bj aiO DA:= .bo .n (.k YF (.k YG .n))
def q8:Int×Int×I aj×az->ag (Int×I aj×az)
 |(c,i,a,b)=>
 if (i<(a.length:Int):J) then ite (aE i a.length) (DA (a.getD i.toNat aN,b)>>=λr=>ite ((r.2.length=b.length:J)&&true) (ite (aE i r.2.length) (ite (i.toNat<r.2.length:J) (q8 (c,a' .i64 i 1,a,r.2.set i.toNat r.1)) none) none) none) none else some (c,a,b)
  partial_fixpoint
theorem Xx:cy 217 0 [0,0] OL q8:= .rx q8.partial_correctness (.k Zb .n)
def rb:Int×I aj×az->ag az
 |(d,b,c)=>
 if (d<=fH .i64 2 (b.length:Int):J) then q8 (d,0,b,c)>>=λa=>rb (a' .i64 a.1 1,a.2.1,a.2.2)else some c
  partial_fixpoint
theorem Yq:cy 217 0 [0] Re rb:= .rx rb.partial_correctness .n (.k Xx .n)
def Du(s:aT):ag az:=
 some (s.bh.length:Int)>>=λt8=>ite (y2 8 t8) (rb (0,s.bh,List.replicate t8.toNat 0)>>=λo=>some o) none
theorem Zr:bj aiH Du:= .bo .n (.k Yq .n)
def re:az×Int×I J->ag (I J)
 |(n,i,a)=>
 if (i<(n.length:Int):J) then ite (aE i n.length) (some [(0<n.getD i.toNat 0:J)]>>=λt27=>ite (cn 1 (a++t27).length) (re (n,a' .i64 i 1,a++t27)) none) none else some a
  partial_fixpoint
theorem Yr:cy 164 0 [0] Rf re:= .rx re.partial_correctness
def zn(s:aT):ag (I J×Int):=
 y7 s>>=λr=>if !(r=0:J) then some ([],r)else Du s>>=λa=>re (a,0,[])>>=λo=>some (o,0)
theorem Zs:bj ain zn:= .bo (.k Za (.k Zr .n)) (.k Yr .n)
def rm:I J×Int->ag ((Int) ⊕ (Unit))
 |(l,i)=>
 if (i<(l.length:Int):J) then ite (aE i l.length) (if !(l.getD i.toNat false) then some (.inl 10)else rm (l,a' .i64 i 1)) none else some (.inr ())
  partial_fixpoint
theorem X5:cy 94 0 [0] UW rm:= .rx rm.partial_correctness
def tx(s:aT):ag (Int):=
 zn s>>=λr=>if !(r.2=0:J) then some r.2 else rm (r.1,0)>>=λo=>match o with
 |.inl a=>
 some a
 |.inr b=>
 some 0
theorem Zc:bj ai' tx:= .bo (.k Zs .n) (.k X5 .n)
def uB:aT×Int->ag (Int)
 |(s,t)=>
 tx s>>=λr=>if !(r=0:J) then some r else if(bif (t<0:J)then true else ((s.bh.length:Int)<=t:J)) then some 4 else some 0
theorem ZU:bj ai2 uB:= .bo (.k Zc .n)
def tz:cv×cv->ag (Int)
 |(w,r)=>
 uB (w.dO,w.aC)>>=λa=>if !(a=0:J) then some a else uB (r.dO,r.aC)>>=λb=>some b
theorem WT:bj aiR tz:= .bo (.k ZU .n)
def ob:I bn×Int×bn->ag ((J) ⊕ (Unit))
 |(a,i,b)=>
 if (i<(a.length:Int):J) then ite (aE i a.length) (some (a.getD i.toNat dH)>>=λc=>if(eJ c.cg b.cg&&(eJ c.bY b.bY&&true)) then some (.inl true)else ob (a,a' .i64 i 1,b)) none else some (.inr ())
  partial_fixpoint
theorem Zd:cy 35 0 [0] QT ob:= .rx ob.partial_correctness
def zW(b:I bn×bn):ag (J):=
 match b with
 |(l,p)=>
 ob (l,0,p)>>=λo=>match o with
 |.inl a=>
 some a
 |.inr c=>
 some false
theorem Lo:bj aiS zW:= .bo .n (.k Zd .n)
def Dh:cv×cv×bn->ag (J)
 |(w,r,p)=>
 some (bif bif bif (0<=p.cg:J)then (p.cg<(w.dO.bh.length:Int):J)else false then (0<=p.bY:J)else false then (p.bY<(r.dO.bh.length:Int):J)else false)
theorem aag:bj aiU Dh:= .bo
def rW:Int×Int×aj->ag (Int)
 |(a,v,b)=>
 if(bif (a<100:J)then (v<b.bB:J)else false) then rW (a' .i64 a 1,a' .i64 v 1,b)else some a
  partial_fixpoint
theorem X3:cy 58 0 [0] Un rW:= .rx rW.partial_correctness
def v'(a:aj):ag (Int):=
 if (a.ae=1:J) then some 2 else if (a.ae=2:J) then rW (1,a.br,a)>>=λo=>some o else if (a.ae=4:J) then some (a.bc.length:Int)else if (a.Max=0:J) then some 1 else some 100
theorem aah:bj ai3 v':= .bo .n (.k X3 .n)
def r0:Int×aj×aj->ag ((J) ⊕ (aj×aj))
 |(i,a,b)=>
 if (i<(a.bc.length:Int):J) then ite (aE i a.bc.length) (pG (b,(a.bc.getD i.toNat dV).ai)>>=λr=>if !r.2 then some (.inl false)else r0 (a' .i64 i 1,a,b)) none else some (.inr (a,b))
  partial_fixpoint
theorem Zt:cy 59 0 [0] Uo r0:= .rx r0.partial_correctness (.k zf .n)
def r1:Int×aj×aj->ag ((J) ⊕ (Unit))
 |(b,a,c)=>
 if (b<(a.af.length:Int):J) then ite (aE b a.af.length) (gD (c,(a.af.getD b.toNat aH).ai)>>=λd=>if !d.2 then some (.inl false)else r1 (a' .i64 b 1,a,c)) none else some (.inr ())
  partial_fixpoint
theorem Zu:cy 59 0 [1] Up r1:= .rx r1.partial_correctness (.k kl .n)
def uC(f:aj×aj):ag (J):=
 match f with
 |(e,y)=>
 r0 (0,e,y)>>=λo=>match o with
 |.inl b=>
 some b
 |.inr a=>
 r1 (0,a.1,a.2)>>=λc=>match c with
 |.inl d=>
 some d
 |.inr g=>
 some true
theorem ZV:bj ai4 uC:= .bo .n (.k Zt (.k Zu .n))
def r5:aT×Int->ag (Int)
 |(s,t)=>
 pJ s>>=λr=>if !(r=0:J) then some r else if(bif (t<0:J)then true else ((s.bh.length:Int)<=t:J)) then some 4 else some 0
theorem WU:bj ah9 r5:= .bo (.k Ds .n)
def DB:aT×Int×ab×aT×Int->ag (Int)
 |(w,wt,v,r,rt)=>
 r5 (w,wt)>>=λa=>if !(a=0:J) then some a else r5 (r,rt)>>=λb=>if !(b=0:J) then some b else pK (w,wt,ab.eta v)>>=λc=>if !c then some 1 else some 0
theorem YH:bj ai9 DB:= .bo (.k WU (.k HT .n))
def kQ(so:az):ag (dU):=
 ite (cn 8 ([]++so).length) (some (⟨(⟨0,false,0,[],0,[],[],[]⟩:ab),[]++so,false⟩:dU)) none
theorem DS:bj aie kQ:= .bo
def vX:Int×aq->ag aq
 |(a,b)=>
 if (0<a:J) then some (strOf [da .u8 (f' a 256)])>>=λt10=>ite (t10.length+b.length<=eS:J) (vX (gA .u64 a 256,t10++b)) none else some b
  partial_fixpoint
theorem Zv:cy 173 0 [0] Rg vX:= .rx vX.partial_correctness
def zM(n:Int):ag aq:=
 vX (n,[])>>=λo=>some o
theorem ZW:bj aiw zM:= .bo .n (.k Zv .n)
def vY:Int×az->ag (Int×az)
 |(a,b)=>
 if (128<=a:J) then some [da .u8 (a' .u64 (f' a 128) 128)]>>=λt11=>ite (cn 1 (b++t11).length) (vY (gA .u64 a 128,b++t11)) none else some (a,b)
  partial_fixpoint
theorem Zw:cy 175 0 [0] Su vY:= .rx vY.partial_correctness
def r'(n:Int):ag aq:=
 vY (n,[])>>=λo=>some [da .u8 o.1]>>=λt18=>ite (cn 1 (o.2++t18).length) (some (strOf (o.2++t18))) none
theorem It:bj aiy r':= .bo .n (.k Zw .n)
def r8(p:aq):ag aq:=
 r' (da .u64 (p.length:Int))>>=λr=>ite (r.length+p.length<=eS:J) (some (r++p)) none
theorem Iq:bj aiz r8:= .bo (.k It .n)
def Ah:Int×J×aq->ag aq
 |(id,d,p)=>
 some (da .u64 (fH .i64 2 id))>>=λt10=>if d then r' (a' .u64 t10 1)>>=λr=>r8 p>>=λa=>ite (r.length+a.length<=eS:J) (some (r++a)) none else r' t10>>=λb=>r8 p>>=λc=>ite (b.length+c.length<=eS:J) (some (b++c)) none
theorem WV:bj aiA Ah:= .bo (.k It (.k Iq .n))
def nu:aq×Int×Int×I aj×ab×aj->ag (aq×Int×I aj×ab×aj)
 |(c,b,k,d,a,e)=>
 if (k<(a.aX.length:Int):J) then ite (aE k a.aX.length) (if ((a.aX.getD k.toNat cj).ai=b:J) then ite (aE k a.aX.length) (Ah (b,false,(a.aX.getD k.toNat cj).bT)>>=λf=>ite (c.length+f.length<=eS:J) (nu (c++f,b,a' .i64 k 1,d,ab.eta a,e)) none) none else nu (c,b,a' .i64 k 1,d,ab.eta a,e)) none else some (c,b,d,ab.eta a,e)
  partial_fixpoint
theorem Xm:cy 107 0 [0,2] OM nu:= .rx nu.partial_correctness (.k WV .n)
mutual
def km:aT×Int×ab->ag aq
 |(s,t,v)=>
 ite (aE t s.bh.length) (some (s.bh.getD t.toNat aN)>>=λa=>if (a.ae=1:J) then if v.ct then some [1]else some []else if (a.ae=2:J) then vW v.bE>>=λr=>zM r>>=λZ=>some Z else if (a.ae=3:J) then some v.bZ else if (a.ae=4:J) then zM (da .u64 v.ai)>>=λan=>some an else if (a.ae=9:J) then if ((v.aw.length:Int)=0:J) then some []else ite (aE 0 v.aw.length) (km (s,a.aF,ab.eta (v.aw.getD (0:Int).toNat aM))>>=λO=>ite ([1].length+O.length<=eS:J) (some ([1]++O)) none) none else if (a.ae=6:J) then if (0<(v.aX.length:Int):J) then r' (da .u64 v.ai)>>=λP=>ite (aE 0 v.aX.length) (some (v.aX.getD (0:Int).toNat cj)>>=λW=>ite (P.length+W.bT.length<=eS:J) (some (P++W.bT)) none) none else gD (a,v.ai)>>=λQ=>r' (da .u64 v.ai)>>=λS=>ite (aE Q.1 a.af.length) (ite (aE 0 v.aw.length) (km (s,(a.af.getD Q.1.toNat aH).aC,ab.eta (v.aw.getD (0:Int).toNat aM))>>=λU=>ite (S.length+U.length<=eS:J) (some (S++U)) none) none) none else if (a.ae=7:J) then tJ ([],0,s.bh,ab.eta v,a)>>=λo=>some o else if (a.ae=8:J) then tK ([],0,s.bh,ab.eta v,a)>>=λX=>some X else pw ([],1,s.bh,ab.eta v,a)>>=λY=>some Y) none
  partial_fixpoint
def tJ:aq×Int×I aj×ab×aj->ag aq
 |(E,i,b,y,G)=>
 if (i<(y.aw.length:Int):J) then ite (aE i y.aw.length) (km ((⟨b⟩:aT),G.aF,ab.eta (y.aw.getD i.toNat aM))>>=λaa=>r8 aa>>=λH=>ite (E.length+H.length<=eS:J) (tJ (E++H,a' .i64 i 1,b,ab.eta y,G)) none) none else some E
  partial_fixpoint
def tK:aq×Int×I aj×ab×aj->ag aq
 |(F,p,B,g,D)=>
 if (p<(g.aw.length:Int):J) then ite (aE p g.a7.length) (km ((⟨B⟩:aT),D.aR,ab.eta (g.a7.getD p.toNat aM))>>=λak=>r8 ak>>=λK=>ite (F.length+K.length<=eS:J) (some (F++K)>>=λt144=>ite (aE p g.aw.length) (km ((⟨B⟩:aT),D.aF,ab.eta (g.aw.getD p.toNat aM))>>=λal=>r8 al>>=λL=>ite (t144.length+L.length<=eS:J) (tK (t144++L,a' .i64 p 1,B,ab.eta g,D)) none) none) none) none else some F
  partial_fixpoint
def pw:aq×Int×I aj×ab×aj->ag aq
 |(x,id,z,c,j)=>
 if (id<=1000:J) then gD (j,id)>>=λe=>if e.2 then ite (aE e.1 j.af.length) (some (j.af.getD e.1.toNat aH)>>=λA=>some (!A.bH)>>=λt175=>ite (aE e.1 c.aw.length||(!(!t175))) ((if !t175 then kP (ab.eta (c.aw.getD e.1.toNat aM),ab.eta A.bm)else some false)>>=λam=>if(bif t175 then true else(!am)) then ite (aE e.1 c.aw.length) (km ((⟨z⟩:aT),A.aC,ab.eta (c.aw.getD e.1.toNat aM))>>=λap=>Ah (id,A.b4,ap)>>=λN=>ite (x.length+N.length<=eS:J) (nu (x++N,id,0,z,ab.eta c,j)>>=λq=>pw (q.1,a' .i64 q.2.1 1,q.2.2.1,ab.eta q.2.2.2.1,q.2.2.2.2)) none) none else nu (x,id,0,z,ab.eta c,j)>>=λu=>pw (u.1,a' .i64 u.2.1 1,u.2.2.1,ab.eta u.2.2.2.1,u.2.2.2.2)) none) none else nu (x,id,0,z,ab.eta c,j)>>=λw=>pw (w.1,a' .i64 w.2.1 1,w.2.2.1,ab.eta w.2.2.2.1,w.2.2.2.2)else some x
  partial_fixpoint
end
theorem Ys:eP s4 km/\fa 107 0 [2] Bx pw/\fa 107 0 [1] Bw tK/\fa 107 0 [0] Bv tJ:=km.mutual_partial_correctness (eG s4) (e' 107 0 [2] Bx) (e' 107 0 [1] Bw) (e' 107 0 [0] Bv)
 (λ_ _ _ _ h0 h1 a b _ _ h=>eV h (.k Wn (.k ZW (.k (cL s4 h0) (.k It (.k kl .n))))) (.k (fl Bv b) (.k (fl Bw a) (.k (fl Bx h1) .n))))
 (λ_ _ h0 h1 _ _ h=>fk Bx h1 h (.k kl (.k DO (.k (cL s4 h0) (.k WV .n)))) (.k Xm .n))
 (λ_ _ h0 a _ _ h=>fk Bw a h (.k (cL s4 h0) (.k Iq .n)))
 (λ_ _ h0 b _ _ h=>fk Bv b h (.k (cL s4 h0) (.k Iq .n)))
theorem HO:bj s4 km:=cL _ Ys.1
def oc(v:ab):ag (dU):=
 some (⟨ab.eta v,[],true⟩:dU)
theorem Ir:bj aii oc:= .bo
def sa:az×Int->ag az
 |(so,step)=>
 ite (cn 8 ([]++so).length) (some ([]++so)>>=λl=>some [step]>>=λt9=>ite (cn 8 (l++t9).length) (some (l++t9)) none) none
theorem An:bj aif sa:= .bo
def v7:ab×ab->ag (J)
 |(a,b)=>
 kP (ab.eta a,ab.eta b)>>=λr=>some r
theorem WW:bj aio v7:= .bo (.k DO .n)
def wz:aU×ab->ag (J)
 |(m,v)=>
 (if m.bH then v7 (ab.eta m.bm,ab.eta v)else some false)>>=λr=>some (bif m.bH then r else false)
theorem Wg:bj aiF wz:= .bo (.k WW .n)
def oH:az×Int×I aj×aj×ab×aj×Int×J×Int×aq×Int×J×Int×J×Int×aq×Int×I ab×I ch->ag ((dU) ⊕ (Int×J×Int×aq×Int×J×Int×J×Int×aq×Int×I ab×I ch))
 |(u,i,e,c,b,f,g,j,k,l,m,n,o,p,q,r,s,t,d)=>
 if (i<(c.af.length:Int):J) then ite (aE i c.af.length) (some (c.af.getD i.toNat aH)>>=λa=>gD (f,a.ai)>>=λw=>if w.2 then oH (u,a' .i64 i 1,e,c,ab.eta b,f,g,j,k,l,m,n,o,p,q,r,s,t,d)else if a.b4 then sa (u,a.ai)>>=λx=>kQ x>>=λv=>some (.inl (⟨ab.eta v.bX,v.fb,v.cA⟩:dU))else ite (aE i b.aw.length) (wz ((⟨a.ai,a.aP,a.aC,a.b4,a.bH,ab.eta a.bm⟩:aU),ab.eta (b.aw.getD i.toNat aM))>>=λy=>if !y then ite (aE i b.aw.length) (km ((⟨e⟩:aT),a.aC,ab.eta (b.aw.getD i.toNat aM))>>=λz=>some [(⟨a.ai,z⟩:ch)]>>=λt170=>ite (cn 24 (d++t170).length) (oH (u,a' .i64 i 1,e,c,ab.eta b,f,g,j,k,l,m,n,o,p,q,r,s,t,d++t170)) none) none else oH (u,a' .i64 i 1,e,c,ab.eta b,f,g,j,k,l,m,n,o,p,q,r,s,t,d)) none) none else some (.inr (g,j,k,l,m,n,o,p,q,r,s,t,d))
  partial_fixpoint
theorem Yt:cy 118 0 [1] Sv oH:= .rx oH.partial_correctness (.k kl (.k An (.k DS (.k Wg (.k HO .n)))))
mutual
def mZ(t:aT×Int×ab×aT×Int×az):ag (dU):=
 match t with
 |(w,wt,v,r,rt,so)=>
 ite (aE wt w.bh.length) (some (w.bh.getD wt.toNat aN)>>=λc=>ite (aE rt r.bh.length) (some (r.bh.getD rt.toNat aN)>>=λe=>if !(c.ae=e.ae:J) then kQ so>>=λq=>some (⟨ab.eta q.bX,q.fb,q.cA⟩:dU)else if(bif (c.ae=2:J)then bif (v.bE<e.br:J)then true else (e.bB<v.bE:J)else false) then kQ so>>=λK=>some (⟨ab.eta K.bX,K.fb,K.cA⟩:dU)else if(bif (c.ae=3:J)then (e.Max<(v.bZ.length:Int):J)else false) then kQ so>>=λp=>some (⟨ab.eta p.bX,p.fb,p.cA⟩:dU)else if (c.ae=4:J) then pG (e,v.ai)>>=λN=>if(bif (!N.2)then(!e.bt)else false) then kQ so>>=λj=>some (⟨ab.eta j.bX,j.fb,j.cA⟩:dU)else if(bif bif (c.ae=7:J)then true else (c.ae=8:J)then (e.Max<(v.aw.length:Int):J)else false) then kQ so>>=λD=>some (⟨ab.eta D.bX,D.fb,D.cA⟩:dU)else if (c.ae=6:J) then Ai (w,c,ab.eta v,r,e,so)>>=λz=>some (⟨ab.eta z.bX,z.fb,z.cA⟩:dU)else if (c.ae=5:J) then zo (w,c,ab.eta v,r,e,so)>>=λu=>some (⟨ab.eta u.bX,u.fb,u.cA⟩:dU)else oK (so,0,w.bh,ab.eta v,r.bh,0,false,0,[],0,false,c,e,v.ae,v.ct,v.bE,v.bZ,v.ai,v.aX,[])>>=λo=>match o with
 |.inl F=>
 some (⟨ab.eta F.bX,F.fb,F.cA⟩:dU)
 |.inr a=>
 oL (a.1,0,a.2.1,ab.eta a.2.2.1,a.2.2.2.1,a.2.2.2.2.1,a.2.2.2.2.2.1,a.2.2.2.2.2.2.1,a.2.2.2.2.2.2.2.1,a.2.2.2.2.2.2.2.2.1,a.2.2.2.2.2.2.2.2.2.1,a.2.2.2.2.2.2.2.2.2.2.1,a.2.2.2.2.2.2.2.2.2.2.2.1,a.2.2.2.2.2.2.2.2.2.2.2.2.1,a.2.2.2.2.2.2.2.2.2.2.2.2.2.1,a.2.2.2.2.2.2.2.2.2.2.2.2.2.2.1,a.2.2.2.2.2.2.2.2.2.2.2.2.2.2.2.1,a.2.2.2.2.2.2.2.2.2.2.2.2.2.2.2.2.1,a.2.2.2.2.2.2.2.2.2.2.2.2.2.2.2.2.2.1,a.2.2.2.2.2.2.2.2.2.2.2.2.2.2.2.2.2.2,[])>>=λbq=>match bq with
 |.inl G=>
 some (⟨ab.eta G.bX,G.fb,G.cA⟩:dU)
 |.inr g=>
 oc (⟨g.2.2.2.2.2.2.1,g.2.2.2.2.2.2.2.1,g.2.2.2.2.2.2.2.2.1,g.2.2.2.2.2.2.2.2.2.1,g.2.2.2.2.2.2.2.2.2.2.1,g.2.2.2.2.2.2.2.2.2.2.2.2.1,g.2.2.2.2.2.2.2.2.2.2.2.2.2,g.2.2.2.2.2.2.2.2.2.2.2.1⟩:ab)>>=λx=>some (⟨ab.eta x.bX,x.fb,x.cA⟩:dU)else if(bif bif (c.ae=7:J)then true else (c.ae=8:J)then (e.Max<(v.aw.length:Int):J)else false) then kQ so>>=λH=>some (⟨ab.eta H.bX,H.fb,H.cA⟩:dU)else if (c.ae=6:J) then Ai (w,c,ab.eta v,r,e,so)>>=λbv=>some (⟨ab.eta bv.bX,bv.fb,bv.cA⟩:dU)else if (c.ae=5:J) then zo (w,c,ab.eta v,r,e,so)>>=λbz=>some (⟨ab.eta bz.bX,bz.fb,bz.cA⟩:dU)else oK (so,0,w.bh,ab.eta v,r.bh,0,false,0,[],0,false,c,e,v.ae,v.ct,v.bE,v.bZ,v.ai,v.aX,[])>>=λg1=>match g1 with
 |.inl bs=>
 some (⟨ab.eta bs.bX,bs.fb,bs.cA⟩:dU)
 |.inr f=>
 oL (f.1,0,f.2.1,ab.eta f.2.2.1,f.2.2.2.1,f.2.2.2.2.1,f.2.2.2.2.2.1,f.2.2.2.2.2.2.1,f.2.2.2.2.2.2.2.1,f.2.2.2.2.2.2.2.2.1,f.2.2.2.2.2.2.2.2.2.1,f.2.2.2.2.2.2.2.2.2.2.1,f.2.2.2.2.2.2.2.2.2.2.2.1,f.2.2.2.2.2.2.2.2.2.2.2.2.1,f.2.2.2.2.2.2.2.2.2.2.2.2.2.1,f.2.2.2.2.2.2.2.2.2.2.2.2.2.2.1,f.2.2.2.2.2.2.2.2.2.2.2.2.2.2.2.1,f.2.2.2.2.2.2.2.2.2.2.2.2.2.2.2.2.1,f.2.2.2.2.2.2.2.2.2.2.2.2.2.2.2.2.2.1,f.2.2.2.2.2.2.2.2.2.2.2.2.2.2.2.2.2.2,[])>>=λg2=>match g2 with
 |.inl bi=>
 some (⟨ab.eta bi.bX,bi.fb,bi.cA⟩:dU)
 |.inr B=>
 oc (⟨B.2.2.2.2.2.2.1,B.2.2.2.2.2.2.2.1,B.2.2.2.2.2.2.2.2.1,B.2.2.2.2.2.2.2.2.2.1,B.2.2.2.2.2.2.2.2.2.2.1,B.2.2.2.2.2.2.2.2.2.2.2.2.1,B.2.2.2.2.2.2.2.2.2.2.2.2.2,B.2.2.2.2.2.2.2.2.2.2.2.1⟩:ab)>>=λbU=>some (⟨ab.eta bU.bX,bU.fb,bU.cA⟩:dU)) none) none
  partial_fixpoint
def zo(t:aT×aj×ab×aT×aj×az):ag (dU):=
 match t with
 |(w,c,v,r,y,so)=>
 pB (so,0,w.bh,c,ab.eta v,r.bh,y,0,false,0,[],0,false,v.ae,false,0,[],0,[])>>=λo=>match o with
 |.inl F=>
 some (⟨ab.eta F.bX,F.fb,F.cA⟩:dU)
 |.inr a=>
 oH (a.1,0,a.2.1,a.2.2.1,ab.eta a.2.2.2.1,a.2.2.2.2.1,a.2.2.2.2.2.1,a.2.2.2.2.2.2.1,a.2.2.2.2.2.2.2.1,a.2.2.2.2.2.2.2.2.1,a.2.2.2.2.2.2.2.2.2.1,a.2.2.2.2.2.2.2.2.2.2.1,a.2.2.2.2.2.2.2.2.2.2.2.1,a.2.2.2.2.2.2.2.2.2.2.2.2.1,a.2.2.2.2.2.2.2.2.2.2.2.2.2.1,a.2.2.2.2.2.2.2.2.2.2.2.2.2.2.1,a.2.2.2.2.2.2.2.2.2.2.2.2.2.2.2.1,a.2.2.2.2.2.2.2.2.2.2.2.2.2.2.2.2,[])>>=λbq=>match bq with
 |.inl G=>
 some (⟨ab.eta G.bX,G.fb,G.cA⟩:dU)
 |.inr g=>
 oc (⟨g.2.2.2.2.2.2.1,g.2.2.2.2.2.2.2.1,g.2.2.2.2.2.2.2.2.1,g.2.2.2.2.2.2.2.2.2.1,g.2.2.2.2.2.2.2.2.2.2.1,[],g.2.2.2.2.2.2.2.2.2.2.2.1,g.2.2.2.2.2.2.2.2.2.2.2.2⟩:ab)>>=λq=>some (⟨ab.eta q.bX,q.fb,q.cA⟩:dU)
  partial_fixpoint
def Ai:aT×aj×ab×aT×aj×az->ag (dU)
 |(w,c,v,r,y,so)=>
 gD (c,v.ai)>>=λq=>gD (y,v.ai)>>=λN=>if(bif (!N.2)then(!y.bt)else false) then kQ so>>=λj=>some (⟨ab.eta j.bX,j.fb,j.cA⟩:dU)else if !N.2 then ite (aE q.1 c.af.length) (ite (aE 0 v.aw.length) (km (w,(c.af.getD q.1.toNat aH).aC,ab.eta (v.aw.getD (0:Int).toNat aM))>>=λD=>oc (⟨v.ae,false,0,[],v.ai,[],[],[(⟨v.ai,D⟩:ch)]⟩:ab)>>=λz=>some (⟨ab.eta z.bX,z.fb,z.cA⟩:dU)) none) none else ite (aE q.1 c.af.length) (ite (aE 0 v.aw.length) (ite (aE N.1 y.af.length) (sa (so,v.ai)>>=λu=>mZ (w,(c.af.getD q.1.toNat aH).aC,ab.eta (v.aw.getD (0:Int).toNat aM),r,(y.af.getD N.1.toNat aH).aC,u)>>=λx=>if !x.cA then some (⟨ab.eta x.bX,x.fb,x.cA⟩:dU)else oc (⟨v.ae,false,0,[],v.ai,[],[ab.eta x.bX],[]⟩:ab)>>=λH=>some (⟨ab.eta H.bX,H.fb,H.cA⟩:dU)) none) none) none
  partial_fixpoint
def oK:az×Int×I aj×ab×I aj×Int×J×Int×aq×Int×J×aj×aj×Int×J×Int×aq×Int×I ch×I ab->ag ((dU) ⊕ (az×I aj×ab×I aj×Int×J×Int×aq×Int×J×aj×aj×Int×J×Int×aq×Int×I ch×I ab))
 |(bu,i,a4,Q,a5,ca,cd,ce,ci,cs,cV,a9,bd,c5,ds,dt,dw,ec,eq,be)=>
 if (i<(Q.a7.length:Int):J) then ite (aE i Q.a7.length) (sa (bu,i)>>=λg3=>mZ ((⟨a4⟩:aT),a9.aR,ab.eta (Q.a7.getD i.toNat aM),(⟨a5⟩:aT),bd.aR,g3)>>=λU=>if !U.cA then some (.inl (⟨ab.eta U.bX,U.fb,U.cA⟩:dU))else some [ab.eta U.bX]>>=λt161=>ite (cn 120 (be++t161).length) (oK (bu,a' .i64 i 1,a4,ab.eta Q,a5,ca,cd,ce,ci,cs,cV,a9,bd,c5,ds,dt,dw,ec,eq,be++t161)) none) none else some (.inr (bu,a4,ab.eta Q,a5,ca,cd,ce,ci,cs,cV,a9,bd,c5,ds,dt,dw,ec,eq,be))
  partial_fixpoint
def oL:az×Int×I aj×ab×I aj×Int×J×Int×aq×Int×J×aj×aj×Int×J×Int×aq×Int×I ch×I ab×I ab->ag ((dU) ⊕ (Int×J×Int×aq×Int×J×Int×J×Int×aq×Int×I ch×I ab×I ab))
 |(g0,S,es,Y,ex,fd,ff,fo,fs,gc,gd,ge,gl,gs,gt,gy,b0,b1,b2,b5,aa)=>
 if (S<(Y.aw.length:Int):J) then ite (aE S Y.aw.length) (sa (g0,S)>>=λg4=>mZ ((⟨es⟩:aT),ge.aF,ab.eta (Y.aw.getD S.toNat aM),(⟨ex⟩:aT),gl.aF,g4)>>=λW=>if !W.cA then some (.inl (⟨ab.eta W.bX,W.fb,W.cA⟩:dU))else some [ab.eta W.bX]>>=λt194=>ite (cn 120 (aa++t194).length) (oL (g0,a' .i64 S 1,es,ab.eta Y,ex,fd,ff,fo,fs,gc,gd,ge,gl,gs,gt,gy,b0,b1,b2,b5,aa++t194)) none) none else some (.inr (fd,ff,fo,fs,gc,gd,gs,gt,gy,b0,b1,b2,b5,aa))
  partial_fixpoint
def pB:az×Int×I aj×aj×ab×I aj×aj×Int×J×Int×aq×Int×J×Int×J×Int×aq×Int×I ab->ag ((dU) ⊕ (az×I aj×aj×ab×aj×Int×J×Int×aq×Int×J×Int×J×Int×aq×Int×I ab))
 |(Z,k,X,A,E,ak,L,al,am,an,ap,ax,aA,aD,a0,a1,a2,a3,P)=>
 if (k<(L.af.length:Int):J) then ite (aE k L.af.length) (some (L.af.getD k.toNat aH)>>=λe=>sa (Z,e.ai)>>=λK=>gD (A,e.ai)>>=λp=>if(bif (!p.2)then(!e.bH)else false) then kQ K>>=λbW=>some (.inl (⟨ab.eta bW.bX,bW.fb,bW.cA⟩:dU))else if !p.2 then some [ab.eta e.bm]>>=λt65=>ite (cn 120 (P++t65).length) (pB (Z,a' .i64 k 1,X,A,ab.eta E,ak,L,al,am,an,ap,ax,aA,aD,a0,a1,a2,a3,P++t65)) none else ite (aE p.1 A.af.length) (ite (aE p.1 E.aw.length) (mZ ((⟨X⟩:aT),(A.af.getD p.1.toNat aH).aC,ab.eta (E.aw.getD p.1.toNat aM),(⟨ak⟩:aT),e.aC,K)>>=λj=>ite (aE p.1 A.af.length) (some (A.af.getD p.1.toNat aH)>>=λO=>ite (aE p.1 E.aw.length) (wz ((⟨O.ai,O.aP,O.aC,O.b4,O.bH,ab.eta O.bm⟩:aU),ab.eta (E.aw.getD p.1.toNat aM))>>=λD=>some (!j.cA)>>=λt99=>(if(D&&(!t99)) then wz ((⟨e.ai,e.aP,e.aC,e.b4,e.bH,ab.eta e.bm⟩:aU),ab.eta j.bX)else some false)>>=λz=>if(bif D then bif t99 then true else(!z)else false) then kQ K>>=λu=>some (.inl (⟨ab.eta u.bX,u.fb,u.cA⟩:dU))else if !j.cA then some (.inl (⟨ab.eta j.bX,j.fb,j.cA⟩:dU))else some [ab.eta j.bX]>>=λt118=>ite (cn 120 (P++t118).length) (pB (Z,a' .i64 k 1,X,A,ab.eta E,ak,L,al,am,an,ap,ax,aA,aD,a0,a1,a2,a3,P++t118)) none) none) none) none) none) none else some (.inr (Z,X,A,ab.eta E,L,al,am,an,ap,ax,aA,aD,a0,a1,a2,a3,P))
  partial_fixpoint
end
theorem Zx:eP s7 mZ/\fa 67 0 [1] yG oL/\fa 67 0 [0] yF oK/\eP Gp zo/\fa 118 0 [0] By pB/\eP Gn Ai:=mZ.mutual_partial_correctness (eG s7) (e' 67 0 [1] yG) (e' 67 0 [0] yF) (eG Gp) (e' 118 0 [0] By) (eG Gn)
 (λ_ _ _ _ h1 a c d _ _ h=>eV h (.k DS (.k zf (.k (cL Gn d) (.k (cL Gp c) (.k Ir .n))))) (.k (fl yF a) (.k (fl yG h1) .n)))
 (λ_ _ h0 h1 _ _ h=>fk yG h1 h (.k An (.k (cL s7 h0) .n)))
 (λ_ _ h0 a _ _ h=>fk yF a h (.k An (.k (cL s7 h0) .n)))
 (λ_ b _ _ h=>eV h (.k Ir .n) (.k (fl By b) (.k Yt .n)))
 (λ_ _ h0 b _ _ h=>fk By b h (.k An (.k kl (.k DS (.k (cL s7 h0) (.k Wg .n))))))
 (λ_ h0 _ _ h=>eV h (.k kl (.k DS (.k HO (.k Ir (.k An (.k (cL s7 h0) .n)))))))
theorem aai:bj s7 mZ:=cL _ Zx.1
def zj:aT×Int×ab×aT×Int->ag (ab×Int)
 |(w,wt,v,r,rt)=>
 DB (w,wt,ab.eta v,r,rt)>>=λa=>if !(a=0:J) then some ((⟨0,false,0,[],0,[],[],[]⟩:ab),a)else mZ (w,wt,ab.eta v,r,rt,[])>>=λb=>if !b.cA then some ((⟨0,false,0,[],0,[],[],[]⟩:ab),12)else some (ab.eta b.bX,0)
theorem Wk:bj ai0 zj:= .bo (.k YH (.k aai .n))
def DC:aT×Int×ab×aT×Int×ab->ag (J)
 |(w,wt,v,r,rt,u)=>
 zj (w,wt,ab.eta v,r,rt)>>=λa=>some (a.2=0:J)>>=λt25=>(if t25 then v7 (ab.eta a.1,ab.eta u)else some false)>>=λb=>some (bif t25 then b else false)
theorem YI:bj ajb DC:= .bo (.k Wk (.k WW .n))
def rf:Int×I aj×aj×I aj×aj->ag ((Int) ⊕ (aj×aj))
 |(i,e,a,f,c)=>
 if (i<(c.af.length:Int):J) then ite (aE i c.af.length) (some (c.af.getD i.toNat aH)>>=λd=>gD (a,d.ai)>>=λb=>some (!d.bH)>>=λt37=>some (!b.2)>>=λt40=>ite (aE b.1 a.af.length||(!(t37&&(!t40)))) (if(bif t37 then bif t40 then true else(a.af.getD b.1.toNat aH).bH else false) then some (.inl 7)else ite (aE b.1 a.af.length||(!b.2)) (some (bif b.2 then(a.af.getD b.1.toNat aH).bH else false)>>=λt58=>ite (aE b.1 a.af.length||(!t58)) (ite (aE b.1 a.af.length||(!t58)) ((if t58 then DC ((⟨e⟩:aT),(a.af.getD b.1.toNat aH).aC,ab.eta (a.af.getD b.1.toNat aH).bm,(⟨f⟩:aT),d.aC,ab.eta d.bm)else some false)>>=λg=>if(bif t58 then(!g)else false) then some (.inl 10)else rf (a' .i64 i 1,e,a,f,c)) none) none) none) none) none else some (.inr (a,c))
  partial_fixpoint
theorem Yu:cy 60 0 [0] Ur rf:= .rx rf.partial_correctness (.k kl (.k YI .n))
def rh:Int×aj×aj->ag ((Int) ⊕ (Unit))
 |(b,a,c)=>
 if (b<(a.af.length:Int):J) then ite (aE b a.af.length) (gD (c,(a.af.getD b.toNat aH).ai)>>=λd=>some (!d.2)>>=λt100=>ite (aE b a.af.length||(!t100)) (if(bif t100 then(a.af.getD b.toNat aH).b4 else false) then some (.inl 6)else rh (a' .i64 b 1,a,c)) none) none else some (.inr ())
  partial_fixpoint
theorem Yv:cy 60 0 [1] Us rh:= .rx rh.partial_correctness (.k kl .n)
def zp(f:aT×aj×aT×aj):ag (Int):=
 match f with
 |(w,e,r,y)=>
 rf (0,w.bh,e,r.bh,y)>>=λo=>match o with
 |.inl b=>
 some b
 |.inr a=>
 rh (0,a.1,a.2)>>=λc=>match c with
 |.inl d=>
 some d
 |.inr g=>
 some 0
theorem Zy:bj ai5 zp:= .bo .n (.k Yu (.k Yv .n))
def Dv:aT×Int×aT×Int->ag (Int)
 |(w,wt,r,rt)=>
 ite (aE wt w.bh.length) (some (w.bh.getD wt.toNat aN)>>=λa=>ite (aE rt r.bh.length) (some (r.bh.getD rt.toNat aN)>>=λb=>if !(a.ae=b.ae:J) then some 9 else if (a.ae=2:J) then if(bif (a.br<b.br:J)then true else (b.bB<a.bB:J)) then some 2 else some 0 else some (a.ae=3:J)>>=λt43=>if t43 then if t43 then if (b.Max<a.Max:J) then some 3 else some 0 else if (a.ae=8:J) then ite (aE a.aR w.bh.length) (v' (w.bh.getD a.aR.toNat aN)>>=λe=>if (b.Max<c4 a.Max e:J) then some 3 else some 0) none else if (a.ae=4:J) then some (!b.bt)>>=λt69=>(if t69 then uC (a,b)else some false)>>=λf=>if(bif t69 then(!f)else false) then some 4 else some 0 else if (a.ae=6:J) then some (!b.bt)>>=λt80=>(if t80 then uC (a,b)else some false)>>=λg=>if(bif t80 then(!g)else false) then some 5 else some 0 else if (a.ae=5:J) then zp (w,a,r,b)>>=λi=>some i else some 0 else if (a.ae=7:J) then if (b.Max<a.Max:J) then some 3 else some 0 else if (a.ae=8:J) then ite (aE a.aR w.bh.length) (v' (w.bh.getD a.aR.toNat aN)>>=λj=>if (b.Max<c4 a.Max j:J) then some 3 else some 0) none else if (a.ae=4:J) then some (!b.bt)>>=λc=>(if c then uC (a,b)else some false)>>=λk=>if(bif c then(!k)else false) then some 4 else some 0 else if (a.ae=6:J) then some (!b.bt)>>=λd=>(if d then uC (a,b)else some false)>>=λl=>if(bif d then(!l)else false) then some 5 else some 0 else if (a.ae=5:J) then zp (w,a,r,b)>>=λm=>some m else some 0) none) none
theorem Zz:bj aiV Dv:= .bo (.k aah (.k ZV (.k Zy .n)))
def oM:Int×I bn×bn->ag ((J×I bn) ⊕ (I bn))
 |(i,a,b)=>
 if (i<(a.length:Int):J) then ite (aE i a.length) (ite (i.toNat<a.length:J) (if(eJ (a.getD i.toNat dH).cg b.cg&&(eJ (a.getD i.toNat dH).bY b.bY&&true)) then some (.inl (true,a))else oM (a' .i64 i 1,a,b)) none) none else some (.inr a)
  partial_fixpoint
theorem X4:cy 35 1 [0] QU oM:= .rx oM.partial_correctness
def Di(d:bn×I bn):ag (J×I bn):=
 match d with
 |(p,b)=>
 oM (0,b,p)>>=λo=>match o with
 |.inl a=>
 some (a.1,a.2)
 |.inr c=>
 some (false,c)
theorem aaj:bj aiT Di:= .bo .n (.k X4 .n)
def rX:Int×aj×aj×I bn->ag (aj×aj×I bn)
 |(i,a,b,c)=>
 if (i<(a.af.length:Int):J) then ite (aE i a.af.length) (gD (b,(a.af.getD i.toNat aH).ai)>>=λd=>if d.2 then ite (aE i a.af.length) (ite (aE d.1 b.af.length) (some [(⟨(a.af.getD i.toNat aH).aC,(b.af.getD d.1.toNat aH).aC⟩:bn)]>>=λt65=>ite (cn 16 (c++t65).length) (rX (a' .i64 i 1,a,b,c++t65)) none) none) none else rX (a' .i64 i 1,a,b,c)) none else some (a,b,c)
  partial_fixpoint
theorem Ze:cy 38 0 [0] T9 rX:= .rx rX.partial_correctness (.k kl .n)
def l7:Int×I bn×I bn->ag (I bn)
 |(b,a,d)=>
 if (b<(a.length:Int):J) then ite (aE b a.length) (ite (b.toNat<a.length:J) (Di (a.getD b.toNat dH,d)>>=λc=>ite ((c.2.length=d.length:J)&&true) (if !c.1 then ite (aE b a.length) (ite (b.toNat<a.length:J) (some [a.getD b.toNat dH]>>=λt127=>ite (cn 16 (c.2++t127).length) (l7 (a' .i64 b 1,a,c.2++t127)) none) none) none else l7 (a' .i64 b 1,a,c.2)) none) none) none else some d
  partial_fixpoint
theorem Zf:cy 38 0 [1] T' l7:= .rx l7.partial_correctness (.k aaj .n)
def Dj:aT×Int×aT×Int->ag (I bn)
 |(w,wt,r,rt)=>
 ite (aE wt w.bh.length) (some (w.bh.getD wt.toNat aN)>>=λb=>ite (aE rt r.bh.length) (some (r.bh.getD rt.toNat aN)>>=λc=>if !(b.ae=c.ae:J) then some []else rX (0,b,c,[])>>=λo=>if(bif (o.1.ae=8:J)then (0<o.1.Max:J)else false) then some [(⟨o.1.aR,o.2.1.aR⟩:bn)]>>=λt81=>ite (cn 16 (o.2.2++t81).length) (some (o.2.2++t81)>>=λl=>if(bif (o.1.ae=9:J)then true else bif bif (o.1.ae=7:J)then true else (o.1.ae=8:J)then (0<o.1.Max:J)else false) then some [(⟨o.1.aF,o.2.1.aF⟩:bn)]>>=λt107=>ite (cn 16 (l++t107).length) (l7 (0,l++t107,[])>>=λd=>some d) none else l7 (0,l,[])>>=λe=>some e) none else if(bif (o.1.ae=9:J)then true else bif bif (o.1.ae=7:J)then true else (o.1.ae=8:J)then (0<o.1.Max:J)else false) then some [(⟨o.1.aF,o.2.1.aF⟩:bn)]>>=λa=>ite (cn 16 (o.2.2++a).length) (l7 (0,o.2.2++a,[])>>=λf=>some f) none else l7 (0,o.2.2,[])>>=λg=>some g) none) none
theorem aak:bj aiW Dj:= .bo .n (.k Ze (.k Zf .n))
def q3:I bn×Int×I bn×Int×cv×cv->ag ((J) ⊕ (I bn×Int×cv×cv))
 |(a,d,next,k,b,c)=>
 if (k<(next.length:Int):J) then ite (aE k next.length) (zW (a,next.getD k.toNat dH)>>=λe=>if !e then some (.inl false)else q3 (a,d,next,a' .i64 k 1,b,c)) none else some (.inr (a,d,b,c))
  partial_fixpoint
theorem XV:cy 15 0 [0,0] QV q3:= .rx q3.partial_correctness (.k Lo .n)
def q9(l:I bn×Int×cv×cv):ag ((J) ⊕ (Unit)):=
 match l with
 |(a,i,b,c)=>
 if (i<(a.length:Int):J) then ite (aE i a.length) (Dh (b,c,a.getD i.toNat dH)>>=λg=>some (!g)>>=λt37=>ite (aE i a.length||(!(!t37))) (ite (aE i a.length||(!(!t37))) ((if !t37 then Dv (b.dO,(a.getD i.toNat dH).cg,c.dO,(a.getD i.toNat dH).bY)else some 0)>>=λj=>if(bif t37 then true else(!(j=0:J))) then some (.inl false)else ite (aE i a.length) (ite (aE i a.length) (Dj (b.dO,(a.getD i.toNat dH).cg,c.dO,(a.getD i.toNat dH).bY)>>=λk=>q3 (a,i,k,0,b,c)>>=λe=>match e with
 |.inl f=>
 some (.inl f)
 |.inr d=>
 q9 (d.1,a' .i64 d.2.1 1,d.2.2.1,d.2.2.2)) none) none) none) none) none else some (.inr ())
  partial_fixpoint
theorem Xy:cy 15 0 [0] Ty q9:= .rx q9.partial_correctness (.k aag (.k Zz (.k aak .n))) (.k XV .n)
def wC(d:cv×cv×I bn):ag (J):=
 match d with
 |(w,r,l)=>
 tz (w,r)>>=λb=>some (!(b=0:J))>>=λt13=>(if !t13 then zW (l,(⟨w.aC,r.aC⟩:bn))else some false)>>=λc=>if(bif t13 then true else(!c)) then some false else q9 (l,0,w,r)>>=λo=>match o with
 |.inl a=>
 some a
 |.inr e=>
 some true
theorem X6:bj ail wC:= .bo (.k WT (.k Lo .n)) (.k Xy .n)
def px:aq×Int×Int->ag (Int)
 |(a,b,i)=>
 if (i<(a.length:Int):J) then ite (aE i a.length) (px (a,a' .u64 (fH .u64 b 256) (da .u64 (gj a i)),a' .i64 i 1)) none else some b
  partial_fixpoint
theorem Yj:cy 101 0 [0] Sw px:= .rx px.partial_correctness
def wG(s:aq):ag (Int×Int):=
 some (0<(s.length:Int):J)>>=λt8=>ite (aE 0 s.length||(!t8)) (if(bif t8 then (gj s 0=0:J)else false) then some (0,2)else if (8<(s.length:Int):J) then some (0,7)else px (s,0,0)>>=λo=>some (o,0)) none
theorem Wl:bj ah3 wG:= .bo .n (.k Yj .n)
def wD(n:Int):ag (Int):=
 if (f' n 2=0:J) then some (da .i64 (gA .u64 n 2))else some (dD .i64 (dD .i64 0 (da .i64 (gA .u64 n 2))) 1)
theorem Wh:bj ah4 wD:= .bo
def tk:aq×Int×Int×Int->ag ((Int×Int×Int) ⊕ (Unit))
 |(a,n,b,i)=>
 if (i<10:J) then if (i=(a.length:Int):J) then some (.inl (0,0,10))else ite (aE i a.length) (some (da .u64 (gj a i))>>=λt20=>if(bif (i=9:J)then (1<t20:J)else false) then some (.inl (0,0,7))else some (a' .u64 n (fH .u64 (f' t20 128) b))>>=λt32=>if (t20<128:J) then if(bif (t20=0:J)then (0<i:J)else false) then some (.inl (0,0,2))else some (.inl (t32,a' .i64 i 1,0))else tk (a,t32,fH .u64 b 128,a' .i64 i 1)) none else some (.inr ())
  partial_fixpoint
theorem ZA:cy 171 0 [0] Sx tk:= .rx tk.partial_correctness
def we(s:aq):ag (Int×Int×Int):=
 tk (s,0,1,0)>>=λo=>match o with
 |.inl a=>
 some (a.1,a.2.1,a.2.2)
 |.inr b=>
 some (0,0,7)
theorem Iu:bj aiu we:= .bo .n (.k ZA .n)
def wg(a:aq):ag (Int×aq×Int):=
 we a>>=λr=>if(bif bif (!(r.2.2=0:J))then true else (r.1<1:J)then true else (1000<r.1:J)) then some (0,[],12)else ite (fy r.2.1 (a.length:Int) a.length) (some (da .i64 r.1,gG a r.2.1 (a.length:Int),0)) none
theorem W1:bj ah5 wg:= .bo (.k Iu .n)
def zN(s:aq):ag (aq×aq×J):=
 we s>>=λr=>if(bif (!(r.2.2=0:J))then true else (da .u64 (dD .i64 (s.length:Int) r.2.1)<r.1:J)) then some ([],[],false)else some (a' .i64 r.2.1 (da .i64 r.1))>>=λt30=>ite (fy r.2.1 t30 s.length) (some (a' .i64 r.2.1 (da .i64 r.1))>>=λt36=>ite (fy t36 (s.length:Int) s.length) (some (gG s r.2.1 t30,gG s t36 (s.length:Int),true)) none) none
theorem Lh:bj aiv zN:= .bo (.k Iu .n)
def tP:aq×I aq->ag ((Int) ⊕ (I aq))
 |(b,a)=>
 if !(b=[]:J) then zN b>>=λr=>if !r.2.2 then some (.inl 12)else some [r.1]>>=λt20=>ite (cn 16 (a++t20).length) (tP (r.2.1,a++t20)) none else some (.inr a)
  partial_fixpoint
theorem X7:cy 104 0 [0] Sy tP:= .rx tP.partial_correctness (.k Lh .n)
def r6(c:aq):ag (I aq×Int):=
 tP (c,[])>>=λo=>match o with
 |.inl a=>
 some ([],a)
 |.inr b=>
 some (b,0)
theorem Il:bj ah6 r6:= .bo .n (.k X7 .n)
def DD:aq×aq->ag (J)
 |(a,b)=>
 some (bif ((a.length:Int)<(b.length:Int):J)then true else bif ((a.length:Int)=(b.length:Int):J)then Op.bytesLess a b else false)
theorem YJ:bj ah7 DD:= .bo
def tO:aq×Int×I cY->ag ((Int) ⊕ (I cY))
 |(a,d,b)=>
 if !(a=[]:J) then we a>>=λr=>if(bif bif (!(r.2.2=0:J))then true else (2001<r.1:J)then true else (da .i64 (gA .u64 r.1 2)<=d:J)) then some (.inl 12)else ite (fy r.2.1 (a.length:Int) a.length) (zN (gG a r.2.1 (a.length:Int))>>=λc=>if !c.2.2 then some (.inl 12)else some (da .i64 (gA .u64 r.1 2))>>=λt45=>some [(⟨t45,(f' r.1 2=1:J),c.1⟩:cY)]>>=λt54=>ite (cn 32 (b++t54).length) (tO (c.2.1,t45,b++t54)) none) none else some (.inr b)
  partial_fixpoint
theorem Yw:cy 106 0 [0] Sz tO:= .rx tO.partial_correctness (.k Iu (.k Lh .n))
def vZ(c:aq):ag (I cY×Int):=
 tO (c,0,[])>>=λo=>match o with
 |.inl a=>
 some ([],a)
 |.inr b=>
 some (b,0)
theorem Wo:bj ah8 vZ:= .bo .n (.k Yw .n)
def pY:Int×I cY×Int×Int×Int×I aj×Int×aq×Int×Int×Int×I df×I aU×Int×Int×J×aU->ag (Int×I cY×Int×Int×I aj×Int×aq×Int×Int×Int×I df×I aU×Int×Int×J×aU)
 |(q,b,p,r,k,c,d,e,f,g,i,j,l,m,n,o,a)=>
 if (k<(b.length:Int):J) then ite (aE k b.length) (if ((b.getD k.toNat dz).ai=a.ai:J) then pY (q,b,p,k,a' .i64 k 1,c,d,e,f,g,i,j,l,m,n,o,(⟨a.ai,a.aP,a.aC,a.b4,a.bH,ab.eta a.bm⟩:aU))else pY (q,b,p,r,a' .i64 k 1,c,d,e,f,g,i,j,l,m,n,o,(⟨a.ai,a.aP,a.aC,a.b4,a.bH,ab.eta a.bm⟩:aU))) none else some (q,b,p,r,c,d,e,f,g,i,j,l,m,n,o,(⟨a.ai,a.aP,a.aC,a.b4,a.bH,ab.eta a.bm⟩:aU))
  partial_fixpoint
theorem XS:cy 63 0 [0,2] QW pY:= .rx pY.partial_correctness
def nv:I cY×Int×Int×aq×Int×Int×Int×I df×I aU×Int×Int×J->ag ((J) ⊕ (Unit))
 |(b,a,c,d,e,f,g,i,j,k,l,m)=>
 if (a<(b.length:Int):J) then ite (aE a b.length) (gD ((⟨c,d,e,f,g,i,j,k,l,m⟩:aj),(b.getD a.toNat dz).ai)>>=λo=>some (!o.2)>>=λn=>ite (aE a b.length||(!n)) (if(bif n then(b.getD a.toNat dz).b4 else false) then some (.inl false)else nv (b,a' .i64 a 1,c,d,e,f,g,i,j,k,l,m)) none) none else some (.inr ())
  partial_fixpoint
theorem Xn:cy 63 0 [4] Uv nv:= .rx nv.partial_correctness (.k kl .n)
mutual
def hV(j:aT×Int×aq×Int):ag (J):=
 match j with
 |(s,t,p,q)=>
 ite (aE t s.bh.length) (some (s.bh.getD t.toNat aN)>>=λa=>if (q<1:J) then some false else if (a.ae=1:J) then some (bif (p=[]:J)then true else (p=[1]:J))else if (a.ae=2:J) then wG p>>=λr=>some (r.2=0:J)>>=λt61=>(if t61 then wD r.1 else some 0)>>=λc5=>some (bif t61 then (a.br<=c5:J)else false)>>=λt68=>(if t68 then wD r.1 else some 0)>>=λes=>some (bif t68 then (es<=a.bB:J)else false)else if (a.ae=3:J) then some ((p.length:Int)<=a.Max:J)else if (a.ae=4:J) then wG p>>=λA=>if(bif bif (!(A.2=0:J))then true else (A.1<1:J)then true else (1000<A.1:J)) then some false else pG (a,da .i64 A.1)>>=λex=>some (bif ex.2 then true else a.bt)else if (a.ae=9:J) then some (p=[]:J)>>=λt115=>ite (aE 0 p.length||(!(!t115))) (some (gj p 0=1:J)>>=λt119=>ite (fy 1 (p.length:Int) p.length||(!((!t115)&&t119))) ((if((!t115)&&t119) then hV (s,a.aF,gG p 1 (p.length:Int),dD .i64 q 1)else some false)>>=λci=>some (bif t115 then true else bif t119 then ci else false)) none) none else if (a.ae=6:J) then wg p>>=λG=>if !(G.2.2=0:J) then some false else gD (a,G.1)>>=λH=>if H.2 then ite (aE H.1 a.af.length) (hV (s,(a.af.getD H.1.toNat aH).aC,G.2.1,dD .i64 q 1)>>=λcs=>some cs) none else some a.bt else if (a.ae=7:J) then r6 p>>=λa5=>p0 (q,a5.1,a5.2,0,s.bh,a.ae,a.aP,a.br,a.bB,a.Max,a.bc,a.af,a.aR,a.aF,a.bt)>>=λo=>match o with
 |.inl b0=>
 some b0
 |.inr F=>
 some (bif (F.2.1=0:J)then ((F.1.length:Int)<=F.2.2.2.2.2.2.1:J)else false)else if (a.ae=8:J) then r6 p>>=λz=>if(bif bif (!(z.2=0:J))then true else(!(f' (z.1.length:Int) 2=0:J))then true else (a.Max<gA .i64 (z.1.length:Int) 2:J)) then some false else tH (q,z.1,0,s.bh,a.ae,a.aP,a.br,a.bB,a.Max,a.bc,a.af,a.aR,a.aF,a.bt)>>=λb2=>match b2 with
 |.inl b5=>
 some b5
 |.inr ff=>
 some true else vZ p>>=λa9=>if !(a9.2=0:J) then some false else n9 (q,a9.1,0,s.bh,a.ae,a.aP,a.br,a.bB,a.Max,a.bc,a.af,a.aR,a.aF,a.bt)>>=λca=>match ca with
 |.inl cd=>
 some cd
 |.inr e=>
 nv (e.1,0,e.2.1,e.2.2.1,e.2.2.2.1,e.2.2.2.2.1,e.2.2.2.2.2.1,e.2.2.2.2.2.2.1,e.2.2.2.2.2.2.2.1,e.2.2.2.2.2.2.2.2.1,e.2.2.2.2.2.2.2.2.2.1,e.2.2.2.2.2.2.2.2.2.2)>>=λce=>match ce with
 |.inl b1=>
 some b1
 |.inr fd=>
 some true) none
  partial_fixpoint
def p0:Int×I aq×Int×Int×I aj×Int×aq×Int×Int×Int×I df×I aU×Int×Int×J->ag ((J) ⊕ (I aq×Int×Int×aq×Int×Int×Int×I df×I aU×Int×Int×J))
 |(a4,x,a2,i,N,O,P,Q,S,U,W,X,Y,B,Z)=>
 if (i<(x.length:Int):J) then ite (aE i x.length) (hV ((⟨N⟩:aT),B,x.getD i.toNat [],dD .i64 a4 1)>>=λcV=>if !cV then some (.inl false)else p0 (a4,x,a2,a' .i64 i 1,N,O,P,Q,S,U,W,X,Y,B,Z)) none else some (.inr (x,a2,O,P,Q,S,U,W,X,Y,B,Z))
  partial_fixpoint
def tH:Int×I aq×Int×I aj×Int×aq×Int×Int×Int×I df×I aU×Int×Int×J->ag ((J) ⊕ (Unit))
 |(E,f,g,D,bd,be,bi,bq,bs,bu,bv,aa,ak,bz)=>
 if (g<(f.length:Int):J) then ite (aE g f.length) (hV ((⟨D⟩:aT),aa,f.getD g.toNat [],dD .i64 E 1)>>=λds=>some (!ds)>>=λt233=>some (a' .i64 g 1)>>=λt240=>ite (aE t240 f.length||(!(!t233))) ((if !t233 then hV ((⟨D⟩:aT),ak,f.getD t240.toNat [],dD .i64 E 1)else some false)>>=λdt=>some (bif t233 then true else(!dt))>>=λt247=>some (0<g:J)>>=λt250=>some (dD .i64 g 2)>>=λt254=>ite (aE t254 f.length||(!((!t247)&&t250))) (ite (aE g f.length||(!((!t247)&&t250))) ((if((!t247)&&t250) then DD (f.getD t254.toNat [],f.getD g.toNat [])else some false)>>=λdw=>if(bif t247 then true else bif t250 then(!dw)else false) then some (.inl false)else tH (E,f,a' .i64 g 2,D,bd,be,bi,bq,bs,bu,bv,aa,ak,bz)) none) none) none) none else some (.inr ())
  partial_fixpoint
def n9:Int×I cY×Int×I aj×Int×aq×Int×Int×Int×I df×I aU×Int×Int×J->ag ((J) ⊕ (I cY×Int×aq×Int×Int×Int×I df×I aU×Int×Int×J))
 |(bW,a3,y,bU,al,am,an,ap,ax,aA,w,aD,a0,a1)=>
 if (y<(w.length:Int):J) then ite (aE y w.length) (some (w.getD y.toNat aH)>>=λv=>pY (bW,a3,y,(-1),0,bU,al,am,an,ap,ax,aA,w,aD,a0,a1,(⟨v.ai,v.aP,v.aC,v.b4,v.bH,ab.eta v.bm⟩:aU))>>=λc=>if(bif (c.2.2.2.1<0:J)then(!c.2.2.2.2.2.2.2.2.2.2.2.2.2.2.2.bH)else false) then some (.inl false)else some (0<=c.2.2.2.1:J)>>=λu=>ite (aE c.2.2.2.1 c.2.1.length||(!u)) (some (!(e7 (c.2.1.getD c.2.2.2.1.toNat dz).b4 c.2.2.2.2.2.2.2.2.2.2.2.2.2.2.2.b4))>>=λK=>ite (aE c.2.2.2.1 c.2.1.length||(!(u&&(!K)))) ((if(u&&(!K)) then hV ((⟨c.2.2.2.2.1⟩:aT),c.2.2.2.2.2.2.2.2.2.2.2.2.2.2.2.aC,(c.2.1.getD c.2.2.2.1.toNat dz).bT,dD .i64 c.1 1)else some false)>>=λec=>some (bif K then true else(!ec))>>=λL=>ite (aE c.2.2.2.1 c.2.1.length||(!(u&&(!L)&&c.2.2.2.2.2.2.2.2.2.2.2.2.2.2.2.bH))) ((if(u&&(!L)&&c.2.2.2.2.2.2.2.2.2.2.2.2.2.2.2.bH) then km ((⟨c.2.2.2.2.1⟩:aT),c.2.2.2.2.2.2.2.2.2.2.2.2.2.2.2.aC,ab.eta c.2.2.2.2.2.2.2.2.2.2.2.2.2.2.2.bm)else some [])>>=λeq=>if(bif u then bif L then true else bif c.2.2.2.2.2.2.2.2.2.2.2.2.2.2.2.bH then ((c.2.1.getD c.2.2.2.1.toNat dz).bT=eq:J)else false else false) then some (.inl false)else n9 (c.1,c.2.1,a' .i64 c.2.2.1 1,c.2.2.2.2.1,c.2.2.2.2.2.1,c.2.2.2.2.2.2.1,c.2.2.2.2.2.2.2.1,c.2.2.2.2.2.2.2.2.1,c.2.2.2.2.2.2.2.2.2.1,c.2.2.2.2.2.2.2.2.2.2.1,c.2.2.2.2.2.2.2.2.2.2.2.1,c.2.2.2.2.2.2.2.2.2.2.2.2.1,c.2.2.2.2.2.2.2.2.2.2.2.2.2.1,c.2.2.2.2.2.2.2.2.2.2.2.2.2.2.1)) none) none) none) none else some (.inr (a3,al,am,an,ap,ax,aA,w,aD,a0,a1))
  partial_fixpoint
end
theorem Xz:eP s6 hV/\fa 63 0 [2] yD n9/\fa 63 0 [1] yC tH/\fa 63 0 [0] yB p0:=hV.mutual_partial_correctness (eG s6) (e' 63 0 [2] yD) (e' 63 0 [1] yC) (e' 63 0 [0] yB)
 (λ_ _ _ _ h0 h1 a b _ _ h=>eV h (.k Wl (.k Wh (.k zf (.k (cL s6 h0) (.k W1 (.k kl (.k Il (.k Wo .n)))))))) (.k (fl yB b) (.k (fl yC a) (.k (fl yD h1) (.k Xn .n)))))
 (λ_ _ h0 h1 _ _ h=>fk yD h1 h (.k (cL s6 h0) (.k HO .n)) (.k XS .n))
 (λ_ _ h0 a _ _ h=>fk yC a h (.k (cL s6 h0) (.k YJ .n)))
 (λ_ _ h0 b _ _ h=>fk yB b h (.k (cL s6 h0) .n))
theorem Yx:bj s6 hV:=cL _ Xz.1
def DT:aT×Int×aq->ag (J)
 |(s,t,m)=>
 pJ s>>=λr=>some (bif bif bif (r=0:J)then (0<=t:J)else false then (t<(s.bh.length:Int):J)else false then ((m.length:Int)<=4096:J)else false)>>=λt25=>(if t25 then hV (s,t,m,200)else some false)>>=λa=>some (bif t25 then a else false)
theorem Yy:bj aiX DT:= .bo (.k Ds (.k Yx .n))
def hC:az×Int->ag (c2)
 |(so,a)=>
 ite (cn 8 ([]++so).length) (some (⟨(⟨0,false,0,[],0,[],[],[]⟩:ab),(⟨[]++so,a⟩:jf),false⟩:c2)) none
theorem pD:bj ah' hC:= .bo
def zq(p:aq):ag (Int×J):=
 wG p>>=λr=>some (r.1,(r.2=0:J))
theorem ZB:bj aiB zq:= .bo (.k Wl .n)
def me:az×Int->ag az
 |(so,step)=>
 ite (cn 8 ([]++so).length) (some ([]++so)>>=λl=>some [step]>>=λt9=>ite (cn 8 (l++t9).length) (some (l++t9)) none) none
theorem uA:bj aiC me:= .bo
def od(v:ab):ag (c2):=
 some (⟨ab.eta v,(⟨[],0⟩:jf),true⟩:c2)
theorem zJ:bj aiD od:= .bo
def q4:Int×az×I aq×Int×I aj×aj×Int×J×Int×aq×Int×Int×J×Int×J×Int×aq×Int×I ab->ag ((c2) ⊕ (Int×az×I aq×I aj×aj×Int×J×Int×aq×Int×Int×J×Int×J×Int×aq×Int×I ab))
 |(u,c,t,b,e,f,g,i,j,k,l,m,n,o,p,q,r,s,a)=>
 if (b<(a.length:Int):J) then some (dD .i64 b 1)>>=λt87=>ite (aE t87 a.length) (ite (t87.toNat<a.length:J) (ite (aE b a.length) (ite (b.toNat<a.length:J) (pF (ab.eta (a.getD t87.toNat aM),ab.eta (a.getD b.toNat aM))>>=λv=>if (0<=v:J) then hC (c,1)>>=λd=>some (.inl (⟨ab.eta d.bX,d.dZ,d.cA⟩:c2))else q4 (u,c,t,a' .i64 b 1,e,f,g,i,j,k,l,m,n,o,p,q,r,s,a)) none) none) none) none else some (.inr (u,c,t,e,f,g,i,j,k,l,m,n,o,p,q,r,s,a))
  partial_fixpoint
theorem XW:cy 183 0 [1] SA q4:= .rx q4.partial_correctness (.k Wj (.k pD .n))
def tf:I cY×Int×Int->ag ((Int) ⊕ (Unit))
 |(a,b,i)=>
 if (i<(a.length:Int):J) then ite (aE i a.length) (if ((a.getD i.toNat dz).ai=b:J) then some (.inl i)else tf (a,b,a' .i64 i 1)) none else some (.inr ())
  partial_fixpoint
theorem X8:cy 223 0 [0] SB tf:= .rx tf.partial_correctness
def Aj(b:I cY×Int):ag (Int):=
 match b with
 |(l,id)=>
 tf (l,id,0)>>=λo=>match o with
 |.inl a=>
 some a
 |.inr c=>
 some (-1)
theorem YK:bj aiM Aj:= .bo .n (.k X8 .n)
def pC:az×I cY×Int×aj×Int×J×Int×aq×Int×Int×J×Int×J×Int×aq×Int×I ab×I ch->ag ((c2) ⊕ (Int×J×Int×aq×Int×Int×J×Int×J×Int×aq×Int×I ab×I ch))
 |(s,a,k,c,d,e,f,g,i,j,l,m,n,o,p,q,r,b)=>
 if (k<(a.length:Int):J) then ite (aE k a.length) (gD (c,(a.getD k.toNat dz).ai)>>=λu=>if u.2 then pC (s,a,a' .i64 k 1,c,d,e,f,g,i,j,l,m,n,o,p,q,r,b)else ite (aE k a.length) (if(a.getD k.toNat dz).b4 then ite (aE k a.length) (me (s,(a.getD k.toNat dz).ai)>>=λv=>hC (v,6)>>=λt=>some (.inl (⟨ab.eta t.bX,t.dZ,t.cA⟩:c2))) none else ite (aE k a.length) (ite (aE k a.length) (some [(⟨(a.getD k.toNat dz).ai,(a.getD k.toNat dz).bT⟩:ch)]>>=λt135=>ite (cn 24 (b++t135).length) (pC (s,a,a' .i64 k 1,c,d,e,f,g,i,j,l,m,n,o,p,q,r,b++t135)) none) none) none) none) none else some (.inr (d,e,f,g,i,j,l,m,n,o,p,q,r,b))
  partial_fixpoint
theorem Yz:cy 184 0 [1] SC pC:= .rx pC.partial_correctness (.k kl (.k uA (.k pD .n)))
mutual
def jO:aT×Int×aq×Int×az->ag (c2)
 |(s,t,p,u,so)=>
 ite (aE t s.bh.length) (some (s.bh.getD t.toNat aN)>>=λc=>if (200<u:J) then hC (so,8)>>=λr=>some (⟨ab.eta r.bX,r.dZ,r.cA⟩:c2)else
 let ip:=λks=>
 let io:=λkk=>
 let ii:=λjp=>
 let h1:=λi9=>
 let h0:=λi8=>
 if (c.ae=6:J) then DE (s,c,p,u,so)>>=λb1=>some (⟨ab.eta b1.bX,b1.dZ,b1.cA⟩:c2)else if (c.ae=7:J) then Dk (s,c,p,u,so)>>=λb2=>some (⟨ab.eta b2.bX,b2.dZ,b2.cA⟩:c2)else if (c.ae=8:J) then DR (s,c,p,u,so)>>=λb5=>some (⟨ab.eta b5.bX,b5.dZ,b5.cA⟩:c2)else if (c.ae=5:J) then Dw (s,c,p,u,so)>>=λca=>some (⟨ab.eta ca.bX,ca.dZ,ca.cA⟩:c2)else od (⟨c.ae,ks,kk,jp,i9,[],i8,[]⟩:ab)>>=λcd=>some (⟨ab.eta cd.bX,cd.dZ,cd.cA⟩:c2)
 if(bif (c.ae=9:J)then(!(p=[]:J))else false) then ite (aE 0 p.length) (if !(gj p 0=1:J) then hC (so,1)>>=λb0=>some (⟨ab.eta b0.bX,b0.dZ,b0.cA⟩:c2)else ite (fy 1 (p.length:Int) p.length) (me (so,0)>>=λi7=>jO (s,c.aF,gG p 1 (p.length:Int),a' .i64 u 1,i7)>>=λL=>if !L.cA then some (⟨ab.eta L.bX,L.dZ,L.cA⟩:c2)else h0 [ab.eta L.bX]) none) none else h0 []
 if (c.ae=4:J) then zq p>>=λS=>if(bif bif (!S.2)then true else (S.1<1:J)then true else (1000<S.1:J)) then hC (so,1)>>=λbU=>some (⟨ab.eta bU.bX,bU.dZ,bU.cA⟩:c2)else some (da .i64 S.1)>>=λi4=>pG (c,i4)>>=λi6=>if(bif (!i6.2)then(!c.bt)else false) then hC (so,4)>>=λbW=>some (⟨ab.eta bW.bX,bW.dZ,bW.cA⟩:c2)else h1 i4 else h1 0
 if (c.ae=3:J) then if (c.Max<(p.length:Int):J) then hC (so,3)>>=λbz=>some (⟨ab.eta bz.bX,bz.dZ,bz.cA⟩:c2)else ii p else ii []
 if (c.ae=2:J) then zq p>>=λi3=>if !i3.2 then hC (so,1)>>=λbs=>some (⟨ab.eta bs.bX,bs.dZ,bs.cA⟩:c2)else wD i3.1>>=λbu=>if(bif (bu<c.br:J)then true else (c.bB<bu:J)) then hC (so,2)>>=λbv=>some (⟨ab.eta bv.bX,bv.dZ,bv.cA⟩:c2)else io bu else io 0
 if (c.ae=1:J) then if(bif (!(p=[]:J))then(!(p=[1]:J))else false) then hC (so,1)>>=λbe=>some (⟨ab.eta be.bX,be.dZ,be.cA⟩:c2)else some (!(p=[]:J))>>=λt44=>ip t44 else ip false) none
  partial_fixpoint
def DR(f:aT×aj×aq×Int×az):ag (c2):=
 match f with
 |(s,c,p,u,so)=>
 r6 p>>=λr=>if(bif (!(r.2=0:J))then true else (f' (r.1.length:Int) 2=1:J)) then hC (so,1)>>=λx=>some (⟨ab.eta x.bX,x.dZ,x.cA⟩:c2)else if (c.Max<gA .i64 (r.1.length:Int) 2:J) then hC (so,3)>>=λj=>some (⟨ab.eta j.bX,j.dZ,j.cA⟩:c2)else td (u,so,r.1,0,s.bh,c,0,false,0,[],0,0,false,c.ae,false,0,[],0,[])>>=λo=>match o with
 |.inl v=>
 some (⟨ab.eta v.bX,v.dZ,v.cA⟩:c2)
 |.inr a=>
 q4 (a.1,a.2.1,a.2.2.1,1,a.2.2.2.1,a.2.2.2.2.1,a.2.2.2.2.2.1,a.2.2.2.2.2.2.1,a.2.2.2.2.2.2.2.1,a.2.2.2.2.2.2.2.2.1,a.2.2.2.2.2.2.2.2.2.1,a.2.2.2.2.2.2.2.2.2.2.1,a.2.2.2.2.2.2.2.2.2.2.2.1,a.2.2.2.2.2.2.2.2.2.2.2.2.1,a.2.2.2.2.2.2.2.2.2.2.2.2.2.1,a.2.2.2.2.2.2.2.2.2.2.2.2.2.2.1,a.2.2.2.2.2.2.2.2.2.2.2.2.2.2.2.1,a.2.2.2.2.2.2.2.2.2.2.2.2.2.2.2.2.1,a.2.2.2.2.2.2.2.2.2.2.2.2.2.2.2.2.2)>>=λa5=>match a5 with
 |.inl z=>
 some (⟨ab.eta z.bX,z.dZ,z.cA⟩:c2)
 |.inr e=>
 tE (e.1,e.2.1,e.2.2.1,0,e.2.2.2.1,e.2.2.2.2.1,e.2.2.2.2.2.1,e.2.2.2.2.2.2.1,e.2.2.2.2.2.2.2.1,e.2.2.2.2.2.2.2.2.1,e.2.2.2.2.2.2.2.2.2.1,e.2.2.2.2.2.2.2.2.2.2.1,e.2.2.2.2.2.2.2.2.2.2.2.1,e.2.2.2.2.2.2.2.2.2.2.2.2.1,e.2.2.2.2.2.2.2.2.2.2.2.2.2.1,e.2.2.2.2.2.2.2.2.2.2.2.2.2.2.1,e.2.2.2.2.2.2.2.2.2.2.2.2.2.2.2.1,e.2.2.2.2.2.2.2.2.2.2.2.2.2.2.2.2.1,e.2.2.2.2.2.2.2.2.2.2.2.2.2.2.2.2.2,[])>>=λi5=>match i5 with
 |.inl a9=>
 some (⟨ab.eta a9.bX,a9.dZ,a9.cA⟩:c2)
 |.inr A=>
 od (⟨A.2.2.2.2.2.2.2.1,A.2.2.2.2.2.2.2.2.1,A.2.2.2.2.2.2.2.2.2.1,A.2.2.2.2.2.2.2.2.2.2.1,A.2.2.2.2.2.2.2.2.2.2.2.1,A.2.2.2.2.2.2.2.2.2.2.2.2.1,A.2.2.2.2.2.2.2.2.2.2.2.2.2,[]⟩:ab)>>=λg=>some (⟨ab.eta g.bX,g.dZ,g.cA⟩:c2)
  partial_fixpoint
def Dk(f:aT×aj×aq×Int×az):ag (c2):=
 match f with
 |(s,c,p,u,so)=>
 r6 p>>=λr=>if !(r.2=0:J) then hC (so,1)>>=λx=>some (⟨ab.eta x.bX,x.dZ,x.cA⟩:c2)else if (c.Max<(r.1.length:Int):J) then hC (so,3)>>=λj=>some (⟨ab.eta j.bX,j.dZ,j.cA⟩:c2)else th (u,so,r.1,0,s.bh,c,0,false,0,[],0,0,false,c.ae,false,0,[],0,[])>>=λo=>match o with
 |.inl v=>
 some (⟨ab.eta v.bX,v.dZ,v.cA⟩:c2)
 |.inr a=>
 od (⟨a.2.2.2.2.2.2.2.1,a.2.2.2.2.2.2.2.2.1,a.2.2.2.2.2.2.2.2.2.1,a.2.2.2.2.2.2.2.2.2.2.1,a.2.2.2.2.2.2.2.2.2.2.2.1,[],a.2.2.2.2.2.2.2.2.2.2.2.2,[]⟩:ab)>>=λg=>some (⟨ab.eta g.bX,g.dZ,g.cA⟩:c2)
  partial_fixpoint
def Dw(f:aT×aj×aq×Int×az):ag (c2):=
 match f with
 |(s,c,p,u,so)=>
 vZ p>>=λr=>if !(r.2=0:J) then hC (so,1)>>=λx=>some (⟨ab.eta x.bX,x.dZ,x.cA⟩:c2)else nx (u,so,r.1,0,s.bh,c,0,false,0,[],0,0,false,c.ae,false,0,[],0,[])>>=λo=>match o with
 |.inl v=>
 some (⟨ab.eta v.bX,v.dZ,v.cA⟩:c2)
 |.inr a=>
 pC (a.1,a.2.1,0,a.2.2.1,a.2.2.2.1,a.2.2.2.2.1,a.2.2.2.2.2.1,a.2.2.2.2.2.2.1,a.2.2.2.2.2.2.2.1,a.2.2.2.2.2.2.2.2.1,a.2.2.2.2.2.2.2.2.2.1,a.2.2.2.2.2.2.2.2.2.2.1,a.2.2.2.2.2.2.2.2.2.2.2.1,a.2.2.2.2.2.2.2.2.2.2.2.2.1,a.2.2.2.2.2.2.2.2.2.2.2.2.2.1,a.2.2.2.2.2.2.2.2.2.2.2.2.2.2.1,a.2.2.2.2.2.2.2.2.2.2.2.2.2.2.2,[])>>=λa5=>match a5 with
 |.inl z=>
 some (⟨ab.eta z.bX,z.dZ,z.cA⟩:c2)
 |.inr e=>
 od (⟨e.2.2.2.2.2.2.2.1,e.2.2.2.2.2.2.2.2.1,e.2.2.2.2.2.2.2.2.2.1,e.2.2.2.2.2.2.2.2.2.2.1,e.2.2.2.2.2.2.2.2.2.2.2.1,[],e.2.2.2.2.2.2.2.2.2.2.2.2.1,e.2.2.2.2.2.2.2.2.2.2.2.2.2⟩:ab)>>=λj=>some (⟨ab.eta j.bX,j.dZ,j.cA⟩:c2)
  partial_fixpoint
def DE:aT×aj×aq×Int×az->ag (c2)
 |(s,c,p,u,so)=>
 wg p>>=λr=>if !(r.2.2=0:J) then hC (so,1)>>=λj=>some (⟨ab.eta j.bX,j.dZ,j.cA⟩:c2)else gD (c,r.1)>>=λg=>if(bif (!g.2)then(!c.bt)else false) then hC (so,5)>>=λO=>some (⟨ab.eta O.bX,O.dZ,O.cA⟩:c2)else if !g.2 then od (⟨c.ae,false,0,[],r.1,[],[],[(⟨r.1,r.2.1⟩:ch)]⟩:ab)>>=λy=>some (⟨ab.eta y.bX,y.dZ,y.cA⟩:c2)else ite (aE g.1 c.af.length) (me (so,r.1)>>=λbi=>jO (s,(c.af.getD g.1.toNat aH).aC,r.2.1,a' .i64 u 1,bi)>>=λw=>if !w.cA then some (⟨ab.eta w.bX,w.dZ,w.cA⟩:c2)else od (⟨c.ae,false,0,[],r.1,[],[ab.eta w.bX],[]⟩:ab)>>=λbq=>some (⟨ab.eta bq.bX,bq.dZ,bq.cA⟩:c2)) none
  partial_fixpoint
def td:Int×az×I aq×Int×I aj×aj×Int×J×Int×aq×Int×Int×J×Int×J×Int×aq×Int×I ab->ag ((c2) ⊕ (Int×az×I aq×I aj×aj×Int×J×Int×aq×Int×Int×J×Int×J×Int×aq×Int×I ab))
 |(a4,bd,H,i,a0,a1,fo,fs,gc,gd,ge,gl,gs,gt,gy,g0,g1,g2,a2)=>
 if (fH .i64 2 i<(H.length:Int):J) then some (fH .i64 2 i)>>=λt57=>ite (aE t57 H.length) (me (bd,i)>>=λN=>jO ((⟨a0⟩:aT),a1.aR,H.getD t57.toNat [],a' .i64 a4 1,N)>>=λq=>if !q.cA then some (.inl (⟨ab.eta q.bX,q.dZ,q.cA⟩:c2))else some [ab.eta q.bX]>>=λt74=>ite (cn 120 (a2++t74).length) (td (a4,bd,H,a' .i64 i 1,a0,a1,fo,fs,gc,gd,ge,gl,gs,gt,gy,g0,g1,g2,a2++t74)) none) none else some (.inr (a4,bd,H,a0,a1,fo,fs,gc,gd,ge,gl,gs,gt,gy,g0,g1,g2,a2))
  partial_fixpoint
def tE:Int×az×I aq×Int×I aj×aj×Int×J×Int×aq×Int×Int×J×Int×J×Int×aq×Int×I ab×I ab->ag ((c2) ⊕ (Int×J×Int×aq×Int×Int×J×Int×J×Int×aq×Int×I ab×I ab))
 |(i0,i2,Q,P,g3,g4,g5,g6,g7,g8,g9,he,hk,hm,hs,ht,hu,hw,hH,a3)=>
 if (fH .i64 2 P<(Q.length:Int):J) then some (a' .i64 (fH .i64 2 P) 1)>>=λt112=>ite (aE t112 Q.length) (me (i2,P)>>=λbi=>jO ((⟨g3⟩:aT),g4.aF,Q.getD t112.toNat [],a' .i64 i0 1,bi)>>=λw=>if !w.cA then some (.inl (⟨ab.eta w.bX,w.dZ,w.cA⟩:c2))else some [ab.eta w.bX]>>=λt129=>ite (cn 120 (a3++t129).length) (tE (i0,i2,Q,a' .i64 P 1,g3,g4,g5,g6,g7,g8,g9,he,hk,hm,hs,ht,hu,hw,hH,a3++t129)) none) none else some (.inr (g5,g6,g7,g8,g9,he,hk,hm,hs,ht,hu,hw,hH,a3))
  partial_fixpoint
def th:Int×az×I aq×Int×I aj×aj×Int×J×Int×aq×Int×Int×J×Int×J×Int×aq×Int×I ab->ag ((c2) ⊕ (Int×J×Int×aq×Int×Int×J×Int×J×Int×aq×Int×I ab))
 |(E,i1,l,i,ce,ci,cs,cV,c5,ds,dt,dw,ec,eq,es,ex,fd,ff,U)=>
 if (i<(l.length:Int):J) then ite (aE i l.length) (me (i1,i)>>=λN=>jO ((⟨ce⟩:aT),ci.aF,l.getD i.toNat [],a' .i64 E 1,N)>>=λq=>if !q.cA then some (.inl (⟨ab.eta q.bX,q.dZ,q.cA⟩:c2))else some [ab.eta q.bX]>>=λt62=>ite (cn 120 (U++t62).length) (th (E,i1,l,a' .i64 i 1,ce,ci,cs,cV,c5,ds,dt,dw,ec,eq,es,ex,fd,ff,U++t62)) none) none else some (.inr (cs,cV,c5,ds,dt,dw,ec,eq,es,ex,fd,ff,U))
  partial_fixpoint
def nx:Int×az×I cY×Int×I aj×aj×Int×J×Int×aq×Int×Int×J×Int×J×Int×aq×Int×I ab->ag ((c2) ⊕ (az×I cY×aj×Int×J×Int×aq×Int×Int×J×Int×J×Int×aq×Int×I ab))
 |(E,K,D,i,W,B,X,Y,Z,aa,ak,al,am,an,ap,ax,aA,aD,G)=>
 if (i<(B.af.length:Int):J) then ite (aE i B.af.length) (some (B.af.getD i.toNat aH)>>=λF=>Aj (D,F.ai)>>=λg=>if (g<0:J) then if !F.bH then me (K,F.ai)>>=λN=>hC (N,7)>>=λq=>some (.inl (⟨ab.eta q.bX,q.dZ,q.cA⟩:c2))else some [ab.eta F.bm]>>=λt63=>ite (cn 120 (G++t63).length) (nx (E,K,D,a' .i64 i 1,W,B,X,Y,Z,aa,ak,al,am,an,ap,ax,aA,aD,G++t63)) none else ite (aE g D.length) (me (K,F.ai)>>=λO=>jO ((⟨W⟩:aT),F.aC,(D.getD g.toNat dz).bT,a' .i64 E 1,O)>>=λy=>if !y.cA then some (.inl (⟨ab.eta y.bX,y.dZ,y.cA⟩:c2))else some [ab.eta y.bX]>>=λt89=>ite (cn 120 (G++t89).length) (nx (E,K,D,a' .i64 i 1,W,B,X,Y,Z,aa,ak,al,am,an,ap,ax,aA,aD,G++t89)) none) none) none else some (.inr (K,D,B,X,Y,Z,aa,ak,al,am,an,ap,ax,aA,aD,G))
  partial_fixpoint
end
theorem YA:eP pr jO/\eP Gu Dw/\fa 184 0 [0] BC nx/\eP Gt DR/\fa 183 0 [2] BB tE/\fa 183 0 [0] BA td/\eP Gs Dk/\fa 182 0 [0] Bz th/\eP Gr DE:=jO.mutual_partial_correctness (eG pr) (eG Gu) (e' 184 0 [0] BC) (eG Gt) (e' 183 0 [2] BB) (e' 183 0 [0] BA) (eG Gs) (e' 182 0 [0] Bz) (eG Gr)
 (λ_ _ _ _ _ h0 h1 e f g _ _ h=>eV h (.k pD (.k ZB (.k Wh (.k zf (.k uA (.k (cL pr h0) (.k (cL Gr g) (.k (cL Gs f) (.k (cL Gt e) (.k (cL Gu h1) (.k zJ .n))))))))))))
 (λ_ a _ _ h=>eV h (.k Wo (.k pD (.k zJ .n))) (.k (fl BC a) (.k Yz .n)))
 (λ_ _ h0 a _ _ h=>fk BC a h (.k YK (.k uA (.k pD (.k (cL pr h0) .n)))))
 (λ_ _ b c _ _ h=>eV h (.k Il (.k pD (.k zJ .n))) (.k (fl BA c) (.k XW (.k (fl BB b) .n))))
 (λ_ _ h0 b _ _ h=>fk BB b h (.k uA (.k (cL pr h0) .n)))
 (λ_ _ h0 c _ _ h=>fk BA c h (.k uA (.k (cL pr h0) .n)))
 (λ_ d _ _ h=>eV h (.k Il (.k pD (.k zJ .n))) (.k (fl Bz d) .n))
 (λ_ _ h0 d _ _ h=>fk Bz d h (.k uA (.k (cL pr h0) .n)))
 (λ_ h0 _ _ h=>eV h (.k W1 (.k pD (.k kl (.k zJ (.k uA (.k (cL pr h0) .n)))))))
theorem Zg:bj pr jO:=cL _ YA.1
def Iw:aT×Int×aq->ag (c2×Int)
 |(s,t,m)=>
 r5 (s,t)>>=λr=>if !(r=0:J) then some ((⟨(⟨0,false,0,[],0,[],[],[]⟩:ab),(⟨[],0⟩:jf),false⟩:c2),r)else if (4096<(m.length:Int):J) then hC ([],3)>>=λa=>some ((⟨ab.eta a.bX,a.dZ,a.cA⟩:c2),0)else jO (s,t,m,1,[])>>=λb=>some ((⟨ab.eta b.bX,b.dZ,b.cA⟩:c2),0)
theorem aal:bj ai8 Iw:= .bo (.k WU (.k pD (.k Zg .n)))
def Dx:aT×Int×aq->ag (ab×Int)
 |(s,t,m)=>
 Iw (s,t,m)>>=λr=>if(bif (r.2=0:J)then(!r.1.cA)else false) then some (ab.eta r.1.bX,12)else some (ab.eta r.1.bX,r.2)
theorem YQ:bj aiY Dx:= .bo (.k aal .n)
def wH:cv×cv×aq->ag (J)
 |(w,r,m)=>
 tz (w,r)>>=λb=>some (!(b=0:J))>>=λt12=>(if !t12 then DT (w.dO,w.aC,m)else some false)>>=λc=>if(bif t12 then true else(!c)) then some false else Dx (w.dO,w.aC,m)>>=λa=>some (!(a.2=0:J))>>=λt32=>(if !t32 then pK (w.dO,w.aC,ab.eta a.1)else some false)>>=λd=>if(bif t32 then true else(!d)) then some false else zj (w.dO,w.aC,ab.eta a.1,r.dO,r.aC)>>=λe=>some (e.2=12:J)
theorem Zh:bj aim wH:= .bo (.k WT (.k Yy (.k YQ (.k HT (.k Wk .n)))))
def DF:cv×cv×ha->ag (J)
 |(w,r,v)=>
 Em v>>=λa=>if !a then some false else if v.nS then wC (w,r,v.fv)>>=λb=>some b else wH (w,r,v.kc)>>=λc=>some c
theorem YL:bj qW DF:= .bo (.k aa6 (.k X6 (.k Zh .n)))
def BT:cv×cv×ha->ag (J)
 |(w,r,v)=>
 y6 ()>>=λa=>some (!a)>>=λt8=>(if !t8 then Ap w else some false)>>=λb=>some (bif t8 then true else(!b))>>=λt13=>(if !t13 then Ap r else some false)>>=λc=>if(bif bif bif t13 then true else(!c)then true else (12<(v.fv.length:Int):J)then true else (300<(v.kc.length:Int):J)) then y6 ()>>=λd=>some d else DU (w,r,v)>>=λe=>DF (w,r,v)>>=λf=>some (e7 e f)
theorem ahh:bj c3 BT:= .bo (.k YW (.k ZR (.k aaI (.k YL .n))))
end
section
open Go Go.Proofs.YtopcfbelfjclmaaGreatDoor.Shv
set_option maxRecDepth 100000
def hR(s:aq):Nat->Nat->Nat->Int×Int×Int
 |0,_,_=>(0,0,10)
 |f+1,i,n=>
  if i<s.length then if i=9/\1<(s.getD i 0).toNat then(0,0,7)else if 128<=(s.getD i 0).toNat then hR s f (i+1) (n+((s.getD i 0).toNat%128)*2^(7*i))else if(s.getD i 0).toNat=0/\0<i then(0,0,2)else(((n+(s.getD i 0).toNat*2^(7*i):Nat):Int),((i+1:Nat):Int),0)else(0,0,10)
theorem VA{i:Nat}(h:i<=9):2^(7*i)<=9223372036854775808:=by
 have:2^(7*i)<=2^63:=xx (by omega) (by omega);omega
theorem VB(i:Nat):2^(7*(i+1))=2^(7*i)*128:=by rw[Nat.mul_add,Nat.pow_add]
theorem HE{n i b:Nat}(aI:n<2^(7*i)):n+(b%128)*2^(7*i)<2^(7*(i+1)):=by
 rw[VB];have:b%128*2^(7*i)<=127*2^(7*i):=fg _ (by omega);omega
theorem yS{n i b:Nat}(d:i<=9)(aI:n<2^(7*i))(c:b<128)(a:i=9->b<=1):b*2^(7*i)<18446744073709551616/\n+b*2^(7*i)<18446744073709551616:=by
 rcases Nat.lt_or_ge i 9 with h|h;have:2^(7*i)<=2^56:=xx (by omega) (by omega);have e:(2:Nat)^56=72057594037927936:=(by decide);have:b*2^(7*i)<=127*2^(7*i):=fg _ (by omega);omega;grind
theorem SD(s:aq):∀(f i n:Nat),i+f=10->n<2^(7*i)->∃o,uI (s,(n:Int),((min 10 s.length:Nat):Int),(i:Int))=some o/\(match o with|.inl x=>x|.inr _=>(0,0,10))=hR s f i n
 |0,i,n,h,aI=>by
  refine⟨.inr (),?_,rfl⟩;rw[uI];grind
 |f+1,i,n,h,aI=>by
  rw[uI];simp only[hR,aW,ay,xa];by_cases d:i<s.length
  . have e:=As s i;generalize (s.getD i 0).toNat=b at e⊢;rw[cJ,ah (aY d),ah d];have l:fH .i64 7 (i:Int)=((7*i:Nat):Int):=by rw[RP (by omega) (by omega)];norm_cast
    rw[l];have j:((0:Int)<=((7*i:Nat):Int):J):=by simp;omega
    by_cases c:i=9/\1<b;rw[ah c,ah (by obtain⟨h1,m⟩:=c;subst h1;simp;omega)];grind
    . rw[au c,au (by grind)];by_cases g:128<=b
      rw[ah g,cJ,ah j];have k:i=9->False:=λh1=>c ⟨h1,by omega⟩;have aD:b%128<128:=zE _ (by omega);have a:=yS (i:=i) (n:=n) (b:=b%128) (by omega) aI aD (λh1=>(k h1).elim);rw[afH e,hS,Pk (by omega) a.1,QM (by have:=VA (i:=i) (by omega);omega) a.1,RO aI,bN];exact SD s f (i+1) (n+b%128*2^(7*i)) (by omega) (HE aI)
      . rw[au g,dC];by_cases h0:b=0/\0<i
        simp_all;rw[au h0,au (by grind),ah j];have a:=yS (i:=i) (n:=n) (b:=b) (by omega) aI (by omega) (λh1=>by omega);rw[hS,Pk (by omega) a.1,QM (by have:=VA (i:=i) (by omega);omega) a.1,RO aI,bN];grind
  rw[dC,au d];grind
theorem SE(s:aq):E9 s=some (hR s 10 0 0):=by
 obtain⟨o,h1,a⟩:=SD s 10 0 0 rfl (by decide);rw[E9];have:c4 10 (s.length:Int)=((min 10 s.length:Nat):Int):=afI 10 s.length;grind
theorem Ou(s:aq):∀(f i n:Nat),i<=s.length->i+f=10->n<2^(7*i)->∃o,tk (s,(n:Int),(if i<10 then((2^(7*i):Nat):Int)else fH .u64 ((2^(7*9):Nat):Int) 128),(i:Int))=some o/\(i<10->(match o with|.inl x=>x|.inr _=>(0,0,7))=hR s f i n)
 |0,i,n,p,h,aI=>by
  refine⟨.inr (),?_,λr=>by omega⟩;rw[tk];grind
 |f+1,i,n,p,h,aI=>by
  rw[tk];simp only[hR,aW,ay,xa];rw[ah (show ((i:Int)<10:J) by simp;omega),ah (show i<10 by omega)];by_cases e:i<s.length
  . have m:=As s i;generalize (s.getD i 0).toNat=b at m⊢;rw[dC,ah (aY e),ah e,hS];by_cases d:i=9/\1<b
    rw[ah d,ah (by obtain⟨h1,k⟩:=d;subst h1;simp;omega)];grind
    . rw[au d,au (by grind)];have j:f' (b:Int) 128=((b%128:Nat):Int):=xR (b:=128);have aD:b%128<128:=zE _ (by omega);by_cases g:128<=b
      . rw[ah g,dC];have l:i=9->False:=λh1=>d ⟨h1,by omega⟩;have c:=yS (i:=i) (n:=n) (b:=b%128) (by omega) aI aD (λh1=>(l h1).elim);rw[j,uO c.1,sV c.2,bN];obtain⟨o,h1,k⟩:=Ou s f (i+1) (n+b%128*2^(7*i)) (by omega) (by omega) (HE aI);have t:fH .u64 ((2^(7*i):Nat):Int) 128=((2^(7*(i+1)):Nat):Int):=by
         have:=uO (a:=2^(7*i)) (b:=128) (by
          have:2^(7*i)<=2^56:=xx (by omega) (by omega)
          omega)
         grind
        grind
      . rw[au g,cJ];have q:b%128=b:=oW (by omega);have c:=yS (i:=i) (n:=n) (b:=b) (by omega) aI (by omega) (λh1=>by omega);by_cases h0:b=0/\0<i
        simp_all;rw[au h0,au (by grind)];rw[j,q,uO c.1,sV c.2,bN];grind
  rw[cJ,au e];grind
theorem J2(s:aq):we s=some (hR s 10 0 0):=by
 obtain⟨o,h1,a⟩:=Ou s 10 0 0 (by omega) rfl (by decide);rw[we];grind
theorem ON(s:aq):∀(f i n:Nat),i<=s.length->i+f=10->n<2^(7*i)->(∃e:Int,e≠0/\hR s f i n=(0,0,e))\/∃m k:Nat,hR s f i n=((m:Int),(k:Int),0)/\i<k/\k<=s.length/\m<18446744073709551616
 |0,i,n,l,h,aI=>.inl ⟨10,by decide,rfl⟩
 |f+1,i,n,l,h,aI=>by
  simp only[hR];have g:=As s i;generalize (s.getD i 0).toNat=b at g⊢;by_cases c:i<s.length
  . rw[ah c];by_cases d:i=9/\1<b
    simp_all
    . rw[au d];by_cases a:128<=b
      . rw[ah a];rcases ON s f (i+1) (n+b%128*2^(7*i)) (by omega) (by omega) (HE aI)with h|⟨m,k,h1,o,p,q⟩
        exact .inl h;grind
      . rw[au a];by_cases h0:b=0/\0<i
        simp_all;rw[au h0];have j:=yS (i:=i) (n:=n) (b:=b) (by omega) aI (by omega) (λh1=>by omega);exact .inr ⟨_,i+1,rfl,by omega,by omega,j.2⟩
  rw[au c];exact .inl ⟨10,by decide,rfl⟩
theorem lT(s:aq):(∃e:Int,e≠0/\hR s 10 0 0=(0,0,e))\/∃m k:Nat,hR s 10 0 0=((m:Int),(k:Int),0)/\0<k/\k<=s.length/\m<18446744073709551616:=
 ON s 10 0 0 (by simp) rfl (by simp)
theorem ou{s:aq}{e:Int}(he:e≠0)(h:hR s 10 0 0=(0,0,e)):ry s=some (0,[],false):=by
 grind[ry,SE]
theorem mm{s:aq}{m k:Nat}(h:hR s 10 0 0=((m:Int),(k:Int),0))(a:k<=s.length):ry s=some ((m:Int),s.drop k,true):=by
 grind[ry,SE,oz,wP]
def eb:ag (aq×aq)->aq×aq×J
 |none=>([],[],false)
 |some (a,b)=>(a,b,true)
def iG(s:aq):ag (aq×aq):=
 match hR s 10 0 0 with
 |(m,k,e)=>ite (e=0/\m.toNat+k.toNat<=s.length) (some ((s.drop k.toNat).take m.toNat,(s.drop k.toNat).drop m.toNat)) none
theorem oq{s a b:aq}(h:iG s=some (a,b)):a.length+b.length<s.length:=by
 unfold iG at h;rcases lT s with⟨e,he,c⟩|⟨m,k,c,f,d,g⟩;grind;grind
theorem mn{s:aq}(hs:s.length<=1000000:=by omega):AV s=some (eb (iG s)):=by
 rw[AV];unfold iG;rcases lT s with⟨e,he,b⟩|⟨m,k,b,f,d,g⟩;rw[ou he b,b];simp[he,eb]
 . rw[mm b d,b];simp only[aW,ay,e3,true_and,nE];rw[hS];by_cases c:m+k<=s.length
   rw[dC,ah (show fy 0 m _=true from oz (a:=0) (by omega) (by omega)),ah (oz (by omega) (ek _)),ah c];have:(s.length-k:Nat)=(s.drop k).length:=(by simp);rw[this,wP,adw];rfl;rw[cJ,au c];rfl
theorem SF{s:aq}(hs:s.length<=1000000):zN s=some (eb (iG s)):=by
 rw[zN,J2];unfold iG;rcases lT s with⟨e,he,b⟩|⟨m,k,b,g,f,i⟩;grind[eb]
 . rw[b];simp only[aW,ay,e3,true_and];have c:dD .i64 (s.length:Int) (k:Int)=((s.length-k:Nat):Int):=(by grind[pk]);rw[c,hS];by_cases a:m+k<=s.length
   . rw[au (by grind),ah a];have d:da .i64 _=m:=B8 (by simp) (by omega);rw[d,JY (by omega),ah (oz (by simp) (by omega)),ah (oz (by omega) (ek _)),wP];have:gG s k (k+m:Nat)=(s.drop k).take m:=by
      grind[gG,Int.toNat_natCast,List.drop_take]
     rw[this,uY];rfl
   rw[ah (by grind),au a];rfl
theorem ER:∀(n:Nat) (s:aq) (b:I aq),s.length<=n->s.length+b.length<=100000->∃o,hX (s,b)=some o/\∀l,o= .inr l->l.length<=s.length+b.length:=by
 intro n;induction n with
 |zero=>
  simp_all[hX]
 |succ n ih=>
  intro s b h1 f;rw[hX,mn];simp only[aW,ay];by_cases hs:s=[];grind
  . have c:(!(s=[]:J)):=(by grind);rw[ah c];cases e:iG s with
    |none=>exact⟨.inl 12,rfl,λl ak=>by grind⟩
    |some p=>
     obtain⟨x,y⟩:=p;have ak:=oq e;have d:cn 16 (b++[(eb (some (x,y))).1]).length:=ef (by simp) (by grind);have aI:¬((!(eb (some (x,y))).2.2)=true):=(by simp[eb]);rw[ah d];obtain⟨o,a,g⟩:=ih y (b++[x]) (by omega) (by grind);exact⟨o,a,λl i=>by grind⟩
theorem afS{s:aq}(h:s.length<=90000):∃o,kT s=some o/\o.1.length<=s.length:=by
 obtain⟨o,h1,a⟩:=ER _ s [] (ek _) (by grind);rw[kT];cases o<;>simp_all
theorem agK:∀(n:Nat) (s:aq) (b:I aq),s.length<=n->s.length+b.length<=100000->tP (s,b)=hX (s,b):=by
 intro n;induction n with
 |zero=>
  simp_all[j3,hX,tP,au]
 |succ n ih=>
  intro s b h1 e;rw[hX,tP,mn,SF (by omega)];simp only[aW,ay];by_cases hs:s=[];grind
  . have a:(!(s=[]:J)):=(by grind);rw[ah a,ah a];cases d:iG s with
    |none=>rfl
    |some p=>
     obtain⟨x,y⟩:=p;have ak:=oq d;have c:cn 16 (b++[(eb (some (x,y))).1]).length:=ef (by simp) (by grind);have aI:¬((!(eb (some (x,y))).2.2)=true):=(by simp[eb]);rw[au aI,ah c,au aI,ah c];exact ih y (b++[x]) (by omega) (by grind)
theorem afT{s:aq}(h:s.length<=90000):r6 s=kT s:=by
 rw[r6,agK _ s [] (ek _) (by simp;omega)]<;>rfl
theorem Ov:∀(n:Nat) (s:aq) (last:Nat) (b:I cY),s.length<=n->s.length+b.length<=100000->∃o,gZ ((last:Int),s,b)=some o/\∀l,o= .inr l->l.length<=s.length+b.length:=by
 intro n;induction n with
 |zero=>
  simp_all[j3,gZ,au]
 |succ n ih=>
  intro s last b h1 q;rw[gZ];by_cases hs:s=[];simp_all
  . have d:(!(s=[]:J)):=(by grind);rw[ah d];rcases lT s with⟨e,he,a⟩|⟨m,k,a,u,f,g⟩
    rw[ou he a];simp_all
    . rw[mm a f];simp only[aW,ay];rw[u4 g];by_cases t:m/2<=last\/1000<m/2
      exact⟨.inl 12,by grind,λl ak=>by grind⟩
      . have j:da .i64 _=((m/2:Nat):Int):=lk;rw[au (by grind),j,mn (by grind)];simp only[ay];cases ar:iG _ with
        |none=>exact⟨.inl 12,rfl,λl ak=>by grind⟩
        |some p=>
         obtain⟨x,y⟩:=p;have ak:=oq ar;rw[nE]at ak;have i:cn 32 (b++[(⟨((m/2:Nat):Int),(f' (m:Int) 2=1:J),(eb (some (x,y))).1⟩:cY)]).length:=ef (by simp) (by grind);have aI:¬((!(eb (some (x,y))).2.2)=true):=(by simp[eb]);rw[au aI,ah i];obtain⟨o,c,r⟩:=ih y (m/2) (b++[(⟨((m/2:Nat):Int),(f' (m:Int) 2=1:J),x⟩:cY)]) (by omega) (by grind);exact⟨o,c,λl v=>by grind⟩
theorem adV{s:aq}(h:s.length<=90000):∃o,mg s=some o/\o.1.length<=s.length:=by
 obtain⟨o,h1,a⟩:=Ov _ s 0 [] (ek _) (by grind);rw[mg];cases o<;>simp_all
theorem afU:∀(n:Nat) (s:aq) (last:Nat) (b:I cY),s.length<=n->s.length+b.length<=100000->tO (s,(last:Int),b)=gZ ((last:Int),s,b):=by
 intro n;induction n with
 |zero=>
  simp_all[j3,gZ,tO,au]
 |succ n ih=>
  intro s last b h1 l;rw[gZ,tO,J2];by_cases hs:s=[];grind
  . have c:(!(s=[]:J)):=(by grind);rw[ah c,ah c];rcases lT s with⟨e,he,a⟩|⟨m,k,a,q,d,i⟩
    grind[ou]
    . rw[mm a d,a];simp only[aW,ay];rw[u4 i];by_cases o:m/2<=last\/1000<m/2
      grind[B8]
      . have j:da .i64 ((m/2:Nat):Int)=((m/2:Nat):Int):=lk;have g:¬(bif bif (!true)then true else (((m/2:Nat):Int)<=(last:Int):J)then true else (1000<((m/2:Nat):Int):J))=true:=(by grind);rw[j,au (by grind),ah (oz d (ek _)),wP,SF (by grind),au g,mn (by grind)];simp only[ay];cases ar:iG _ with
        |none=>rfl
        |some p=>
         obtain⟨x,y⟩:=p;have ak:=oq ar;rw[nE]at ak;have f:cn 32 (b++[(⟨((m/2:Nat):Int),(f' (m:Int) 2=1:J),(eb (some (x,y))).1⟩:cY)]).length:=ef (by simp) (by grind);have aI:¬((!(eb (some (x,y))).2.2)=true):=(by simp[eb]);rw[au aI,ah f,au aI,ah f];exact ih y _ _ (by omega) (by grind)
theorem adW{s:aq}(h:s.length<=90000):vZ s=mg s:=by
 have h1:=afU _ s 0 [] (ek _) (by grind);grind[mg,vZ]
theorem ahD(s:aq):∃o,mh s=some o:=by
 rw[mh];rcases lT s with⟨e,he,a⟩|⟨m,k,a,d,b,f⟩;rw[ou he a];simp
 . rw[mm a b];simp only[aW,ay];by_cases c:m<1\/1000<m
   exact⟨(0,[],12),by grind⟩;rw[au (by grind)];simp
theorem ahE(s:aq):∃o,mh s=some o/\wg s=some o:=by
 rw[mh,wg,J2];rcases lT s with⟨e,he,a⟩|⟨m,k,a,d,b,f⟩;rw[ou he a,a];simp
 . rw[mm a b,a];simp only[aW,ay];by_cases c:m<1\/1000<m
   exact⟨(0,[],12),by grind,by grind⟩;rw[au (by grind),au (by grind),ah (oz b (ek _)),wP];simp
def eU(n:Nat):aq:=if n<128 then[UInt8.ofNat n]else UInt8.ofNat (n%128+128)::eU (n/128)
termination_by n
decreasing_by omega
theorem xc{n:Nat}(h:n<128):eU n=[UInt8.ofNat n]:=by rw[eU,ah h]
theorem wQ{n:Nat}(h:¬n<128):eU n=UInt8.ofNat (n%128+128)::eU (n/128):=by rw[eU,au h]
theorem agL{a:Nat}(h:a<256):sw .u8 (a:Int) 128=((a%128+128:Nat):Int):=by
 have key:∀a:Nat,a<256->sw .u8 a 128=a%128+128:=by decide+kernel
 grind
theorem x2(n:Nat):da .u8 (n:Int)=((n%256:Nat):Int):=by rfl
theorem akp(n:Nat):mG .u64 (n:Int) 7=((n/128:Nat):Int):=by
 unfold mG;have:(2^min (7:Int).toNat IntKind.u64.bits)=128:=by rfl
 grind
theorem adB(m:Nat)(l:az):strOf ((m:Int)::l)=UInt8.ofNat m::strOf l:=rfl
theorem D1(a b:az):strOf (a++b)=strOf a++strOf b:=xk
variable{α γ:Type}{p N:aq}{a v:ab}{names:I aq}{f:aU×aU->ag J}{t:aj}{S:I df}{K H E id:Int}{c:I aU}{ts:I aj}{L':Nat->ag (Int ⊕ Unit)}{o:ag (Int×J)}{L:ag (J ⊕ Unit)}{U:cM}
theorem Ic:∀(l:I α) (i:Nat) (x:α),i<l.length->(l.set i x).take (i+1)=l.take i++[x]
 |[],i,x,h=>by grind
 |a::l,0,x,h=>by rfl
 |a::l,i+1,x,h=>by simp[Ic l i x (by grind)]
theorem SG:∀(f n i:Nat) (b:az),i+f=9->n<128*128^f->b.length=10->∃(c5 c:Nat) (a:az),uG ((n:Int),(i:Int),b)=some ((c5:Int),(c:Int),a)/\c5<128/\c<=9/\a.length=10/\strOf (a.take c)++[UInt8.ofNat c5]=strOf (b.take i)++eU n
 |f,n,i,b,d,aI,l=>by
  rw[uG];by_cases hs:n<128;rw[au (by grind)];grind[xc]
  . rw[ah (by grind),ah (aY (by
     omega)),ah (by
     grind)]
    match f,d,aI with
    |0,d,aI=>grind
    |f+1,d,aI=>
     rw[akp,bN,x2,agL (zE _ (by simp))];have aD:n/128<128*128^f:=(by omega);obtain⟨c5,c,a,h1,e,g,j,k⟩:=SG f _ (i+1) (b.set i _) (by omega) aD (by grind);refine⟨c5,c,a,h1,e,g,j,?_⟩;rw[k,Ic _ _ _ (by omega),D1,wQ hs];have m:strOf [n%128+128]=[UInt8.ofNat _]:=rfl;grind
theorem ql{n:Nat}(aI:n<18446744073709551616:=by omega):pT (n:Int)=some (eU n):=by
 obtain⟨c5,e,f,h1,g,i,j,b⟩:=SG 9 n 0 [0,0,0,0,0,0,0,0,0,0] rfl (by grind) rfl;rw[pT];have a:uG (n,0,[0,0,0,0,0,0,0,0,0,0])=some _:=h1;rw[a];simp only[aW,ay];have d:fy 0 (e+1:Nat) 10:=oz (by simp) (by omega);rw[ah (fU),ah (by grind),bN,ah d,ah (by grind[xY]),bQ,x2];have:c5%256=c5:=oW (by omega);rw[this];simp;rw[Ic _ _ _ (by omega),D1];have c:strOf [c5]=[UInt8.ofNat c5]:=rfl;rw[c,b];rfl
theorem Ow:∀(f n:Nat) (b:az),n<128^f->n<18446744073709551616->b.length+f<=1000->∃(c5:Nat) (a:az),vY ((n:Int),b)=some ((c5:Int),a)/\c5<128/\a.length<=1000/\strOf a++[UInt8.ofNat c5]=strOf b++eU n
 |f,n,b,aI,k,l=>by
  rw[vY];by_cases hs:n<128;rw[au (by grind)];grind[xc]
  . rw[ah (by grind)]
    match f,aI with
    |0,aI=>grind
    |f+1,aI=>
     have j:f' (n:Int) 128=((n%128:Nat):Int):=xR (b:=128);have g:a' .u64 _ 128=((n%128+128:Nat):Int):=sV (b:=128) (by omega);have i:gA .u64 (n:Int) 128=((n/128:Nat):Int):=by
      grind[gA,Int.tdiv_eq_ediv_of_nonneg,sH]
     simp only[aW,ay];rw[j,g,i,x2,ah (ef (by simp) (by grind))];have aD:n/128<128^f:=(by omega);obtain⟨c5,a,h1,c,d,e⟩:=Ow f (n/128) (b++[(((n%128+128)%256:Nat):Int)]) aD (by omega) (by grind);refine⟨c5,a,h1,c,d,?_⟩;rw[e,D1,wQ hs];have m:strOf [((n%128+128:Nat):Int)]=[UInt8.ofNat (n%128+128)]:=rfl;grind
theorem Au{n:Nat}(aI:n<18446744073709551616:=by omega):r' (n:Int)=some (eU n):=by
 obtain⟨c5,c,h1,d,e,a⟩:=Ow 10 n [] (by grind) aI (by simp);rw[r',h1];simp only[aW,ay];rw[ah (ef (by simp) (by grind)),x2,D1];have:c5%256=c5:=oW (by omega);rw[this];have b:strOf [c5]=[UInt8.ofNat c5]:=rfl;rw[b,a];rfl
theorem OO:∀(f n:Nat),n<128^(f+1)->(eU n).length<=f+1
 |f,n,aI=>by
  by_cases hs:n<128;grind[xc]
  . rw[wQ hs]
    match f,aI with
    |0,aI=>grind
    |f+1,aI=>
     have:=OO f (n/128) (by omega);grind
theorem je{n:Nat}(aI:n<18446744073709551616):(eU n).length<=10:=OO 9 n (by grind)
theorem p'(n:Nat):0<(eU n).length:=by
 grind[eU]
theorem zL{n:Nat}(h:n<256):(UInt8.ofNat n).toNat=n:=by simp_all
theorem SH:∀(f i acc n:Nat) (pre rest:aq),i+f=10->pre.length=i->n*2^(7*i)<18446744073709551616->(n=0->i=0)->hR (pre++(eU n++rest)) f i acc=(((acc+n*2^(7*i):Nat):Int),((i+(eU n).length:Nat):Int),0)
 |0,i,acc,n,pre,rest,c,ar,aI,h0=>by grind
 |f+1,i,acc,n,pre,rest,c,ar,aI,h0=>by
  have d:i<(pre++(eU n++rest)).length:=by
   grind[p']
  have a:∀(x:UInt8) (r:aq),eU n=x::r->(pre++(eU n++rest)).getD i 0=x:=by grind
  simp only[hR];rw[ah d];by_cases hs:n<128
  . rw[a _ _ (xc hs),zL (by omega),au (by
     grind),cb,au (by
     grind),xc hs]
    rfl
  . have e:i<9:=(by grind);rw[a _ _ (wQ hs),zL (by omega),cb,j1];have g:n%128*2^(7*i)+n/128*2^(7*(i+1))=n*2^(7*i):=by
     rw[VB];have h1:n/128*(2^(7*i)*128)=(n/128*128)*2^(7*i):=(by grind);rw[h1,<-h4];grind
    have b:n/128*2^(7*(i+1))<18446744073709551616:=(by omega);have:=SH f _ (acc+n%128*2^(7*i)) _ (pre++[UInt8.ofNat (n%128+128)]) rest (by omega) (by grind) b (by omega);have es:pre++(eU n++rest)=pre++[UInt8.ofNat (n%128+128)]++(eU (n/128)++rest):=by rw[wQ hs];simp
    grind
theorem AP{n:Nat}(aI:n<18446744073709551616)(rest:aq):hR (eU n++rest) 10 0 0=((n:Int),((eU n).length:Int),0):=by
 have:=SH 10 0 0 n [] rest rfl rfl (by grind) (λ_=>rfl);grind
def c'(p:aq):aq:=eU p.length++p
theorem g'{n:Nat}(h:n<=9223372036854775807:=by omega):(n<=eS:J):=by
 grind[eS]
theorem ES(h:p.length<=1152921504606846976:=by omega):sg p=some (c' p):=by
 rw[sg,hS,ql];simp only[aW,ay];have:=je (n:=p.length) (by omega);rw[ah (g')];rfl
theorem Eb(h:p.length<=1152921504606846976:=by omega):r8 p=some (c' p):=by
 rw[r8,hS,Au];simp only[aW,ay];have:=je (n:=p.length) (by omega);rw[ah (g')];rfl
def gv(id:Nat)(c:J)(p:aq):aq:=eU (2*id+(if c then 1 else 0))++c' p
theorem Nw(h:p.length<=1152921504606846976):(c' p).length<=p.length+10:=by
 grind[je,c']
theorem JD{id:Nat}{c:J}(hid:id<=4611686018427387903)(h:p.length<=1152921504606846900:=by omega):wq ((id:Int),c,p)=some (gv id c p):=by
 rw[wq];have e:fH .u64 2 (da .u64 id)=(2*id:Nat):=by rw[hS];exact uO (a:=2) (by omega)
 simp only[aW,ay];rw[e,ES];have ak:=Nw (p:=p) (by omega);cases c with
 |true=>
  have d:a' .u64 _ 1=(2*id+1:Nat):=sV (b:=1) (by omega);rw[d,ql];have:=je (n:=2*id+1) (by omega);simp only[ay];rw[ah (g')];rfl
 |false=>
  rw[ql];have:=je (n:=2*id) (by omega);simp only[ay];rw[ah (g')];rfl
theorem LW{id:Nat}{c:J}(hid:id<=4611686018427387903)(h:p.length<=1152921504606846900):Ah ((id:Int),c,p)=some (gv id c p):=by
 rw[Ah];have d:da .u64 (fH .i64 2 id)=(2*id:Nat):=by
  rw[RP (by omega) (by omega)];have:(2:Int)*id=(2*id:Nat):=by rfl
  rw[this];exact hS
 simp only[aW,ay];rw[d,Eb];have ak:=Nw (p:=p) (by omega);cases c with
 |true=>
  have a:a' _ _ 1=(2*id+1:Nat):=sV (b:=1) (by omega);rw[a,Au];have:=je (n:=2*id+1) (by omega);simp only[ay];rw[ah (g')];rfl
 |false=>
  rw[Au];have:=je (n:=2*id) (by omega);simp only[ay];rw[ah (g')];rfl
theorem LX{rest:aq}(h:p.length<=100000):iG (c' p++rest)=some (p,rest):=by
 unfold iG c';rw[lL,AP (by omega)];simp;grind
theorem acL{id:Nat}{c:J}{rest:aq}{last:Nat}{b:I cY}(h1:last<id)(hid:id<=1000)(h:(gv id c p++rest).length<=100000)(j:b.length<=90000):
 gZ ((last:Int),gv id c p++rest,b)=gZ ((id:Int),rest,b++[⟨(id:Int),c,p⟩]):=by
 have e:p.length<=100000:=by
  grind[gv,c',List.length_append]
 have l:gv id c p++rest≠[]:=by
  intro k;grind[p',gv,List.length_append,List.length_nil]
 have av:hR (gv id c p++rest) 10 0 0=(((2*id+(if c then 1 else 0):Nat):Int),((eU (2*id+(if c then 1 else 0))).length:Int),0):=by
  grind[gv,List.append_assoc,AP]
 have aI:=mm av (by grind[gv]);have a:(gv id c p++rest).drop (eU (2*id+(if c then 1 else 0))).length=c' p++rest:=by
  grind[gv]
 rw[a]at aI;have d:(2*id+(if c then 1 else 0))/2=id:=by grind
 have g:(f' ((2*id+(if c then 1 else 0):Nat):Int) 2=1:J)=c:=by
  have:f' _ 2=(((2*id+(if c then 1 else 0))%2:Nat):Int):=xR (b:=2);grind
 rw[gZ,ah (by grind),aI];simp only[aW,ay];rw[u4 (by omega),d,au (by grind),g,mn (by grind),LX e];simp only[ay];have i:da .i64 (id:Int)=(id:Int):=B8 (by simp) (by omega);have m:¬((!(eb (some (p,rest))).2.2)=true):=by simp[eb]
 rw[i];have f:cn 32 (b++[(⟨(id:Int),c,(eb (some (p,rest))).1⟩:cY)]).length:=ef (by simp) (by grind);rw[ah f];rfl
inductive cp:ab->Prop
 |mk (v:ab) (hs:v.bZ.length<=reachBytes) (h1:v.a7.length<=reachBytes) (ajC:v.aw.length<=reachBytes) (ak4:v.aX.length<=reachBytes)
  (hk:∀x,x∈v.a7->cp x) (CL:∀x,x∈v.aw->cp x) (ajH:∀x,x∈v.aX->x.bT.length<=reachBytes)
  (alf: -9223372036854775808<=v.ae/\v.ae<=9223372036854775807) (alg: -9223372036854775808<=v.bE/\v.bE<=9223372036854775807) (alh: -9223372036854775808<=v.ai/\v.ai<=9223372036854775807)
  (ali:∀x,x∈v.aX->-9223372036854775808<=x.ai/\x.ai<=9223372036854775807):cp v
theorem eI{n:Nat}(h:n<=reachBytes):n<9223372036854775807:=Nat.lt_of_le_of_lt h (by decide)
theorem scan(L:Nat->ag γ)(n:Nat)(p:Nat->J)(a b:γ)(e:∀i,i<n->L i=if p i then L (i+1)else some a)(d:L n=some b):
 (L 0=some b/\∀j,j<n->p j)\/(L 0=some a/\∃j,j<n/\p j=false):=by
 have key:∀k i,i+k=n->(L i=some b/\∀j,i<=j->j<n->p j)\/(L i=some a/\∃j,j<n/\p j=false):=by
  intro k;induction k<;>grind
 rcases key n 0 (by simp)with⟨h1,c⟩|h
 all_goals grind
theorem fM{l:I α}{i:Nat}(h:i<l.length)(d:α):l.getD i d=l[i]:=by grind
theorem AW{a b:I α}{p:Nat->J}(ak:a.length=b.length)(ar:∀(i:Nat) (h1:i<a.length) (c:i<b.length),p i↔a[i]=b[i]):
 (∀j,j<a.length->p j)↔a=b:=by
 grind[List.ext_getElem]
def fc{α:Type}(o:ag J)(a b:α):Prop:=∃r,o=some r/\(r=true↔a=b)
theorem fc.Hk{a b:I α}{p:Nat->J}(ak:a.length=b.length)(ar:∀(i:Nat) (h1:i<a.length) (c:i<b.length),p i↔a[i]=b[i]){o:ag J}
 (h:(o=some true/\∀j,j<a.length->p j)\/(o=some false/\∃j,j<a.length/\p j=false)):fc o a b:=by
 rcases h with⟨h1,c⟩|⟨h1,j,c,e⟩;exact⟨true,h1,by simp[(AW ak ar).1 c]⟩;refine⟨false,h1,?_⟩;grind
theorem SI{a b:ch}:(eJ a.ai b.ai&&(jA a.bT b.bT&&true))↔a=b:=by cases a;cases b;simp[eJ,jA]
theorem SJ{a b:df}:(eJ a.ai b.ai&&(jA a.aP b.aP&&true))↔a=b:=by
 cases a;cases b;simp[eJ,jA]
theorem wR{a b:I α}(h:¬a.length=b.length):fc (some false) a b:=⟨false,rfl,by grind⟩
theorem SK{a b:I ch}(d:a.length<=reachBytes):fc (y' (a,b)) a b:=by
 rw[y'];by_cases ak:a.length=b.length
 . have f:=eI d;have:=scan (λi=>tb (a,b,(a.length:Int),(i:Int))) a.length (λi=>eJ (a.getD i cj).ai (b.getD i cj).ai&&(jA (a.getD i cj).bT (b.getD i cj).bT&&true)) (.inl false) (.inr ())
    (λi e=>by
     rw[tb,ah (by grind),ah (aY e)];simp[aW,ay,bQ];rw[ah (fU),bN]
     grind)
    (by simp_all[tb])
   refine fc.Hk (p:=λi=>eJ (a.getD i cj).ai (b.getD i cj).ai&&(jA (a.getD i cj).bT (b.getD i cj).bT&&true)) ak (λi h1 c=>by simp only[fM h1,fM c];exact SI) ?_;grind
 rw[ah (by grind)];exact wR ak
theorem ahF{a b:I df}(d:a.length<=reachBytes):fc (DM (a,b)) a b:=by
 rw[DM];by_cases ak:a.length=b.length
 . have f:=eI d;have:=scan (λi=>ta (a,b,(a.length:Int),(i:Int))) a.length (λi=>eJ (a.getD i dV).ai (b.getD i dV).ai&&(jA (a.getD i dV).aP (b.getD i dV).aP&&true)) (.inl false) (.inr ())
    (λi e=>by
     rw[ta,ah (aY e)];simp;rw[ah (fU),bN]
     grind)
    (by simp_all[ta])
   refine fc.Hk (p:=λi=>eJ (a.getD i dV).ai (b.getD i dV).ai&&(jA (a.getD i dV).aP (b.getD i dV).aP&&true)) ak (λi h1 c=>by simp only[fM h1,fM c];exact SJ) ?_;grind
 rw[ah (by grind)];exact wR ak
theorem Fm(v:ab):(⟨v.ae,v.ct,v.bE,v.bZ,v.ai,v.a7,v.aw,v.aX⟩:ab)=v:=by cases v;rfl
theorem Ox{b:ab}:a=b↔a.ae=b.ae/\a.ct=b.ct/\a.bE=b.bE/\a.bZ=b.bZ/\a.ai=b.ai/\a.aX=b.aX/\a.a7=b.a7/\a.aw=b.aw:=by
 constructor;grind;cases a;cases b;grind
section
variable {f:ab×ab->ag J}
theorem IX {a b:I ab}(ak:a.length=b.length)(ih:∀x,x∈a->∀y,fc (f (x,y)) x y)(L:Nat->ag (J ⊕ Unit))
 (l:∀i,i<a.length->L i=(f (ab.eta (a.getD i aM),ab.eta (b.getD i aM))>>=λr=>if !r then some (.inl false)else L (i+1)))
 (e:L a.length=some (.inr ())):fc (L 0>>=λo=>match o with|.inl x=>some x|.inr _=>some true) a b:=by
 have d:∀(i:Nat) (h1:i<a.length) (c:i<b.length),fc (f (ab.eta (a.getD i aM),ab.eta (b.getD i aM))) a[i] b[i]:=by
  grind[fM,ab.bI]
 have:=scan L a.length (λi=>(f (ab.eta (a.getD i aM),ab.eta (b.getD i aM))).getD false) (.inl false) (.inr ())
  (λi g=>by
   obtain⟨r,h1,c⟩:=d i g (by omega)
   grind) e
 refine fc.Hk ak (λi h1 c=>?_) ?_ (p:=λi=>(f (ab.eta (a.getD i aM),ab.eta (b.getD i aM))).getD false)
 obtain⟨r,j,k⟩:=d i h1 c;grind;grind
end
theorem QX{a b:I ab}(c:a.length<=reachBytes)(ih:∀x,x∈a->∀y,fc (nh (x,y)) x y):fc (wx (a,b)) a b:=by
 rw[wx];by_cases ak:a.length=b.length
 . rw[au (by grind)];have e:=eI c;exact IX ak ih (λi=>wu (b,a,a.length,i))
    (λi d=>by
     rw[wu,ah (by grind),ah (aY d),ah (fU),bN]
     rfl)
    (by grind[wu])
 rw[ah (by grind)];exact wR ak
theorem QY{a b:I ab}(c:a.length<=reachBytes)(ih:∀x,x∈a->∀y,fc (ng (x,y)) x y):fc (y8 (a,b)) a b:=by
 rw[y8];by_cases ak:a.length=b.length
 . rw[au (by grind)];have e:=eI c;exact IX ak ih (λi=>wv (b,a,a.length,i))
    (λi d=>by
     rw[wv,ah (by grind),ah (aY d),ah (fU),bN]
     rfl)
    (by simp_all[wv])
 rw[ah (by grind)];exact wR ak
theorem QZ{a b:I ab}(c:a.length<=reachBytes)(ih:∀x,x∈a->∀y,fc (kP (x,y)) x y):fc (zb (a,b)) a b:=by
 rw[zb];by_cases ak:a.length=b.length
 . rw[au (by grind)];have e:=eI c;exact IX ak ih (λi=>wy (a,b,i))
    (λi d=>by
     rw[wy,ah (by grind),ah (aY d),ah (fU),bN]
     rfl)
    (by grind[wy])
 rw[ah (by grind)];exact wR ak
theorem three{b:ab}{c:J}(mq:c=true↔a.ae=b.ae/\a.ct=b.ct/\a.bE=b.bE/\a.bZ=b.bZ/\a.ai=b.ai){x y z:ag J}(aa:fc x a.aX b.aX)(al:fc y a.a7 b.a7)(i:fc z a.aw b.aw):
 fc (some c>>=λt37=>(if t37 then x else some false)>>=λr=>some (bif t37 then r else false)>>=λt44=>(if t44 then y else some false)>>=λk=>some (bif t44 then k else false)>>=λt51=>(if t51 then z else some false)>>=λl=>some (bif t51 then l else false)) a b:=by
 obtain⟨d,f,n⟩:=aa;obtain⟨e,g,o⟩:=al;obtain⟨m,j,p⟩:=i;subst f;subst g;subst j;refine⟨c&&d&&e&&m,?_,?_⟩;cases c<;>cases d<;>cases e<;>rfl;grind[Ox]
theorem U8{b:ab}:(bif bif bif bif (a.ae=b.ae:J)then e7 a.ct b.ct else false then(a.bE=b.bE:J)else false then(a.bZ=b.bZ:J)else false then(a.ai=b.ai:J)else false)=true↔a.ae=b.ae/\a.ct=b.ct/\a.bE=b.bE/\a.bZ=b.bZ/\a.ai=b.ai:=by
 grind[e7]
theorem Nx(h:cp a):∀b,fc (nh (a,b)) a b:=by
 induction h with
 |mk a hs h1 c d i g j k l m n f e=>
  intro b;rw[nh];exact three U8 (SK d) (QX h1 f) (QX c e)
theorem IY(h:cp a):∀b,fc (ng (a,b)) a b:=by
 induction h with
 |mk a hs h1 c d i g j k l m n f e=>
  intro b;rw[ng];exact three U8 (SK d) (QY h1 f) (QY c e)
theorem FA(h:cp a):∀b,fc (kP (a,b)) a b:=by
 induction h with
 |mk a hs h1 c e q p r v w x y m l=>
  intro b;rw[kP];by_cases f:a.ae=b.ae/\a.ct=b.ct/\a.bE=b.bE/\a.bZ=b.bZ/\a.ai=b.ai/\a.aX.length=b.aX.length
  . obtain⟨aJ,o,c3,gH,mq,k'⟩:=f;rw[au (by grind[e7])];have s:=eI e;have d:=scan (λi=>pZ ((i:Int),a,b)) a.aX.length (λi=>eJ (a.aX.getD i cj).ai (b.aX.getD i cj).ai&&(jA (a.aX.getD i cj).bT (b.aX.getD i cj).bT&&true)) (.inl false) (.inr (a,b))
     (λi g=>by
      rw[pZ,ah (aY g)];simp only[aW,ay,bQ,ab.bI];rw[ah (fU),bN]
      grind)
     (by rw[pZ,cq,ab.bI,ab.bI])
    have h0:pZ (((0:Nat):Int),a,b)=pZ (0,a,b):=rfl;simp only[h0]at d;rw[Fm,Fm];have ar:∀(i:Nat) (h1:i<a.aX.length) (c:i<b.aX.length),(eJ (a.aX.getD i cj).ai (b.aX.getD i cj).ai&&(jA (a.aX.getD i cj).bT (b.aX.getD i cj).bT&&true))↔a.aX[i]=b.aX[i]:=λi h1 c=>by grind[fM,SI]
    rcases d with⟨g1,g2⟩|⟨g1,j,g2,g3⟩;have t:=(AW k' ar).1 g2;rw[g1];obtain⟨sC,k1,k2⟩:=QZ (a:=a.a7) (b:=b.a7) h1 m;obtain⟨n,k,u⟩:=QZ (a:=a.aw) (b:=b.aw) c l;simp only[aW,ay];rw[k1,k];refine⟨sC&&n,by cases sC<;>rfl,?_⟩;simp_all[Ox,dh];rw[g1];refine⟨false,rfl,?_⟩;grind
  . rw[ah]
    refine⟨false,rfl,?_⟩;grind;simp only[zy,e7];grind
def w4(c:Int):J:=(c=95\/(97<=c/\c<=122)\/(65<=c/\c<=90):J)
def Bb(c:Int):J:=(48<=c/\c<=57:J)
theorem Oy(c:Int):zQ c=some (w4 c):=by
 rw[zQ];unfold w4;grind
theorem Oz(c:Int):zm c=some (w4 c):=by
 rw[zm];unfold w4;grind
theorem afV(c:Int):Es c=some (Bb c):=by
 rw[Es];unfold Bb;grind
theorem afW(c:Int):Dz c=some (Bb c):=by
 rw[Dz];unfold Bb;grind
theorem OP(A B bC:J)(a b:ag γ)(c:bC=true):
 (some A>>=λd=>some (!d)>>=λt26=>if(bC||(!t26)) then(if t26 then some B else some false)>>=λe=>if(bif t26 then(!e)else false) then a else b else none)=if(A||B) then b else a:=by
 subst c;cases A<;>cases B<;>rfl
theorem Q0(s:aq):∃r,lG s=some r/\tj s=some r:=by
 rw[lG,tj];simp only[aW,ay];by_cases d:s=[]\/24<s.length;have ht:(bif (s=[]:J)then true else (24<(s.length:Int):J))=true:=(by grind);rw[ht];simp_all
 . have f:s≠[]:=λh=>d (.inl h);have m:s.length<=24:=(by omega);have ht:(bif (s=[]:J)then true else (24<(s.length:Int):J))=false:=(by grind);have g:0<s.length:=xy.2 f;have e:aE 0 s.length:=aY (k:=0) g;simp only[ht,e,mC,cl,eL,ay,Oy,Oz,et];cases ak:w4 (gj s 0)with
   |false=>exact⟨false,rfl,rfl⟩
   |true=>
    rw[cq,cq];let p:Nat->J:=λi=>w4 (gj s i)||Bb (gj s i);have s1:=scan (λi=>pL (s,(s.length:Int),(i:Int))) s.length p (.inl false) (.inr ())
     (λi a=>by
      rw[pL,cJ,ah (aY a),Oy,afV,bN]
      exact OP _ _ _ _ _ (aY a))
     (by rw[pL,cq])
    have b:=scan (λi=>pz (s,(i:Int))) s.length p (.inl false) (.inr ())
     (λi a=>by
      rw[pz,cJ,ah (aY a),Oz,afW,bN]
      exact OP _ _ _ _ _ (aY a))
     (by rw[pz,cq])
    have aJ:pL (s,(s.length:Int),((0:Nat):Int))=pL (s,(s.length:Int),0):=rfl;have c:pz (s,((0:Nat):Int))=pz (s,0):=rfl;simp only[aJ,c]at s1 b;rcases s1 with⟨a1,a2⟩|⟨a1,j,a2,a3⟩<;>rcases b with⟨b1,b2⟩|⟨b1,k,b2,l⟩;simp_all;grind;grind;simp_all
def nm(s:aq):J:=(lG s).getD false
theorem uy(s:aq):lG s=some (nm s):=by
 obtain⟨r,h1,_⟩:=Q0 s;unfold nm;rw[h1];rfl
theorem BD(s:aq):tj s=some (nm s):=by
 obtain⟨r,h1,a⟩:=Q0 s;unfold nm;rw[h1,a];rfl
theorem GY{s:aq}(h:nm s):s≠[]:=by
 rintro rfl;unfold nm at h;rw[lG]at h;simp at h
def kv(l:az)(names:I aq)(i:Nat):J:=
 (1<=l.getD i 0:J)&&(l.getD i 0<=1000:J)&&((i=0:J)||(l.getD (i-1) 0<l.getD i 0:J))&&nm (names.getD i []) && !((names.take i).contains (names.getD i []))
def lP(l:I aq):I aq:=l.foldl iY []
theorem afX(ks:I aq)(a s:aq):hc (iY ks a) s=(hc ks s||(a=s:J)):=by
 unfold iY;split;grind;simp[hc,List.any_append]
theorem Ny(l:I aq)(s:aq):hc (lP l) s=l.contains s:=by
 have key:∀(l:I aq) (ks:I aq),hc (l.foldl iY ks) s=(hc ks s||l.contains s):=by
  intro l;induction l with
  |nil=>intro ks;simp
  |cons a r ih=>
   intro ks;rw[uW,ih,afX,Bool.or_assoc];grind
 have:=key l [];simpa[lP,hc]using this
theorem Nz{l:I aq}{i:Nat}(h:i<l.length):iY (lP (l.take i)) (l.getD i [])=lP (l.take (i+1)):=by
 unfold lP;rw[List.take_add_one,CY,e0 h,fM h];rfl
theorem agM(A a b C bC H N:J)(c d:ag γ)(e:bC=true)(f:a=true->b=true):
 (if(b||(!((!A)&&a))) then
  some (bif A then true else bif a then C else false)>>=λt34=>
  if(bC||(!(!t34))) then
   some (bif t34 then true else H)>>=λt42=>
   if(bC||(!(!t42))) then
    (if !t42 then some N else some false)>>=λr=>
    if(bif t42 then true else(!r)) then c else(if bC then d else none)
   else none
  else none
 else none)=if !A&&(!a || !C)&&N && !H then d else c:=by
 subst e;cases a with
 |true=>have:=f rfl;subst this;cases A<;>cases C<;>cases H<;>cases N<;>rfl
 |false=>cases A<;>cases b<;>cases C<;>cases H<;>cases N<;>rfl
theorem SL{l:az}(ak:l.length<=reachBytes)(aI:names.length=l.length):∃r,A3 (l,names)=some r/\(r=true↔(∀i,i<l.length->kv l names i)/\l.length<=16):=by
 rw[A3];have m:=eI ak;have b:=scan (λi=>pM (l,names,l,(l.length:Int),(i:Int),lP (names.take i))) l.length (kv l names) (.inl false) (.inr l)
  (λi d=>by
   have a:i<names.length:=(by omega);rw[pM,cJ,ah (aY d)];simp only[bQ];rw[uy,bN,Nz a,Ny];have f:0<i->dD .i64 (i:Int) 1=((i-1:Nat):Int):=by intro h;rw[mW];omega
   refine(agM (bif (l.getD i 0<1:J)then true else (1000<l.getD i 0:J)) ((0:Int)<(i:Int):J) (aE (dD .i64 (i:Int) 1) l.length) (l.getD i 0<=l.getD (dD .i64 (i:Int) 1).toNat 0:J) (aE (i:Int) names.length) ((names.take i).contains (names.getD i [])) (nm (names.getD i [])) _ _ (aY a) (λg=>?_)).trans ?_
   . have e:0<i:=by simp at g;omega
     rw[f e];exact fU
   . have:(!(bif (l.getD i 0<1:J)then true else (1000<l.getD i 0:J))&&(!((0:Int)<(i:Int):J) || !(l.getD i 0<=l.getD (dD .i64 (i:Int) 1).toNat 0:J))&&nm (names.getD i []) && !((names.take i).contains (names.getD i [])))=kv l names i:=by
      unfold kv;grind
     rw[this])
  (by rw[pM,cq])
 have dp:pM (l,names,l,(l.length:Int),((0:Nat):Int),lP (names.take 0))=pM (l,names,l,(l.length:Int),0,[]):=rfl;simp only[dp]at b;rcases b with⟨h1,c⟩|⟨h1,j,c,k⟩;rw[h1];refine⟨((l.length:Int)<=16:J),rfl,?_⟩;grind;rw[h1];refine⟨false,rfl,?_⟩;grind
theorem Df{k n:Nat}(a:k<=16)(h:n*24<=reachBytes:=by simp;omega):cn k n:=by
 unfold cn hD dB;unfold reachBytes at h;simp only[dh,fI];have:(2*n+192)*k<=(2*n+192)*16:=Nat.mul_le_mul_left _ a;omega
theorem xi(l:I α)(i:Nat)(d:α)(h:i<l.length):l.take i++[l.getD i d]=l.take (i+1):=by simp_all
theorem jw{a:Type}(f:α->a)(l:I α)(i:Nat)(d:α)(e:a)(h:i<l.length):(l.map f).getD i e=f (l.getD i d):=by grind
theorem tW{l:I aq}{i:Nat}{s:aq}(b:i<=l.length):(l.take i).contains s↔∃k,k<i/\l.getD k []=s:=by
 rw[List.contains_iff_mem];constructor;intro h;obtain⟨k,a,he⟩:=gT h;rw[zx]at a;refine⟨k,by omega,?_⟩;grind
 . rintro ⟨k,a,he⟩
   rw[<-he,fM (by omega)];have:(l.take i)[k]'(by rw[zx];omega)=l[k]:=List.getElem_take;grind
def l3(l:az)(i:Nat):Int:=if i=0 then 0 else l.getD (i-1) 0
theorem Q1{l:az}{i:Nat}(e:i<l.length)(aI:names.length=l.length):
 kv l names i=((l3 l i<l.getD i 0:J)&&(1<=l.getD i 0:J)&&(l.getD i 0<=1000:J)&&nm (names.getD i []) && !((names.take i).contains (names.getD i []))):=by
 unfold kv l3;generalize l.getD i 0=x;generalize l.getD (i-1) 0=y;generalize nm (names.getD i [])=a;generalize (names.take i).contains (names.getD i [])=b;by_cases h0:i=0
 . subst h0;by_cases h1:1<=x
   . have:((0:Int)<x:J):=by simp;omega
     simp[h1,this]
   simp[h1]
 simp only[h0,cF,ee,zB];by_cases h1:1<=x<;>by_cases c:x<=1000<;>by_cases d:y<x<;>simp[h1,c,d]
theorem MN(l:I df)(ak:l.length*24<=reachBytes):∀(k i:Nat),i+k=l.length->r2 (l,l,(l.length:Int),(i:Int),(l.map (·.ai)).take i,(l.map (·.aP)).take i)=some (l,l.map (·.ai),l.map (·.aP))
 |0,i,h=>by
  have:i=l.length:=by omega
  subst this;rw[r2,cq];rw[sq (by simp),sq (by simp)]
 |k+1,i,h=>by
  have b:l.length<9223372036854775807:=by unfold reachBytes at ak;omega
  have a:i<l.length:=by omega
  rw[r2,cJ,ah (aY a)];simp only[aW,ay,bQ];rw[<-jw (·.ai) l i dV 0 a,<-jw (·.aP) l i dV [] a,xi _ _ _ (by simpa using a),xi _ _ _ (by simpa using a)];rw[ah (Df (by omega)),ah (Df (by omega)),bN];exact MN l ak k (i+1) (by omega)
theorem Q2{l:I df}(ak:l.length*24<=reachBytes):∃r,wh l=some r/\(r=true↔0<l.length/\(∀i,i<l.length->kv (l.map (·.ai)) (l.map (·.aP)) i)/\l.length<=16):=by
 have h:=MN l ak l.length 0 (by omega);have a:r2 (l,l,(l.length:Int),0,[],[])=some (l,l.map (·.ai),l.map (·.aP)):=h;rw[wh,a];simp only[aW,ay];obtain⟨r,h1,b⟩:=SL (l:=l.map (·.ai)) (names:=l.map (·.aP)) (by simp;unfold reachBytes at*;omega) (by simp);rw[sv]at b;grind
theorem VO(a b:Int):zV (a,b)=some ((a<b:J)&&(1<=b:J)&&(b<=1000:J)):=by
 rw[zV];grind
theorem adC(l:I df)(ak:l.length<=reachBytes)(i:Nat)(b:i<l.length):
 n4 (l,(i:Int),0)=some (if((l.map (·.aP)).take i).contains ((l.map (·.aP)).getD i []) then .inl false else .inr (l,(i:Int))):=by
 have f:=eI ak;have d:=scan (λk=>n4 (l,(i:Int),(k:Int))) i (λk=>!((l.getD k dV).aP=(l.getD i dV).aP:J)) (.inl false) (.inr (l,(i:Int)))
  (λk c=>by
   rw[n4,cJ,ah (fU),ah (aY b),bN]
   grind)
  (by rw[n4,cq])
 have dp:n4 (l,(i:Int),((0:Nat):Int))=n4 (l,(i:Int),0):=rfl;simp only[dp]at d;rw[jw (·.aP) l i dV [] b];rcases d with⟨h1,a⟩|⟨h1,j,a,e⟩
 . rw[h1,au];rw[tW (by simp;omega)]
   rintro ⟨k,c,he⟩;rw[jw (·.aP) l k dV [] (by omega)]at he;have:=a k c;rw[he]at this;simp at this
 rw[h1,ah];rw[tW (by simp;omega)];refine⟨j,a,?_⟩;rw[jw (·.aP) l j dV [] (by omega)];simpa using e
theorem agN{l:I df}(ak:l.length<=reachBytes):∃r,zi l=some r/\(r=true↔0<l.length/\(∀i,i<l.length->kv (l.map (·.ai)) (l.map (·.aP)) i)/\l.length<=16):=by
 have f:=eI ak;have b:=scan (λi=>p5 (l,l3 (l.map (·.ai)) i,(i:Int))) l.length (kv (l.map (·.ai)) (l.map (·.aP))) (.inl false) (.inr l)
  (λi a=>by
   rw[p5,cJ,ah (aY a),VO,adC l ak i a,Q1 (by simpa using a) (by simp)];simp only[aW,ay,bQ];rw[<-jw (·.ai) l i dV 0 a,<-jw (·.aP) l i dV [] a,BD];generalize ((l3 (l.map (·.ai)) i<(l.map (·.ai)).getD i 0:J)&&(1<=(l.map (·.ai)).getD i 0:J)&&((l.map (·.ai)).getD i 0<=1000:J))=q;rw[ah (by rw[aY a];rfl)];cases q with
   |false=>rfl
   |true=>
    simp only[dc,eL,cl,ay,ig];cases nm ((l.map (·.aP)).getD i [])with
    |false=>rfl
    |true=>
     simp only[dc,et,cx,cF,ig];cases e:((l.map (·.aP)).take i).contains ((l.map (·.aP)).getD i [])with
     |true=>simp
     |false=>
      simp only[cx,cF,eL,cl];rw[ah (aY a),bN];have:l3 (l.map (·.ai)) (i+1)=(l.getD i dV).ai:=by
       unfold l3;grind
      grind)
  (by rw[p5,cq])
 have dp:p5 (l,l3 (l.map (·.ai)) 0,((0:Nat):Int))=p5 (l,0,0):=rfl;simp only[dp]at b;rw[zi];rcases b with⟨h1,c⟩|⟨h1,j,c,d⟩;rw[h1];refine⟨_,rfl,?_⟩;grind;rw[h1];refine⟨false,rfl,?_⟩;grind
theorem adX{l:I df}(ak:l.length*24<=reachBytes):∃r,wh l=some r/\zi l=some r:=by
 obtain⟨r,h1,a⟩:=Q2 ak;obtain⟨q,b,c⟩:=agN (l:=l) (by unfold reachBytes at*;omega);grind
structure e5 (t:aj):Prop where
 syms:t.bc.length*24<=reachBytes
 hq:t.af.length*24<=reachBytes
 hj:∀m,m∈t.af->cp m.bm
theorem iw{n:Nat}(h:n*24<=reachBytes):n<=reachBytes:=by unfold reachBytes at*;omega
theorem adD{a b:aU}:a=b↔a.ai=b.ai/\a.aP=b.aP/\a.aC=b.aC/\a.b4=b.b4/\a.bH=b.bH/\a.bm=b.bm:=by cases a;cases b;simp
theorem iu(x:aU):(⟨x.ai,x.aP,x.aC,x.b4,x.bH,ab.eta x.bm⟩:aU)=x:=by cases x;simp[ab.bI]
theorem U9{a b:aU}:(bif bif bif bif (a.ai=b.ai:J)then(a.aP=b.aP:J)else false then(a.aC=b.aC:J)else false then e7 a.b4 b.b4 else false then e7 a.bH b.bH else false)=true↔a.ai=b.ai/\a.aP=b.aP/\a.aC=b.aC/\a.b4=b.b4/\a.bH=b.bH:=by
 simp only[zy,e7];grind
theorem V0{a b:aU}{q:J}(f:q=true↔a.ai=b.ai/\a.aP=b.aP/\a.aC=b.aC/\a.b4=b.b4/\a.bH=b.bH){x:ag J}(aa:fc x a.bm b.bm):
 fc (some q>>=λt37=>(if t37 then x else some false)>>=λr=>some (bif t37 then r else false)) a b:=by
 obtain⟨d,h1,e⟩:=aa;subst h1;refine⟨q&&d,by cases q<;>cases d<;>rfl,?_⟩;rw[adD,dh,f,e];constructor;rintro ⟨⟨a1,a2,a3,a4,a5⟩,c⟩;exact⟨a1,a2,a3,a4,a5,c⟩;rintro ⟨a1,a2,a3,a4,a5,c⟩;exact⟨⟨a1,a2,a3,a4,a5⟩,c⟩
theorem adY{a:aU}(h:cp a.bm)(b:aU):fc (zP (a,b)) a b:=by
 rw[zP];simp only[Fm,ab.bI];exact V0 U9 (IY h _)
theorem adZ{a:aU}(h:cp a.bm)(b:aU):fc (zc (a,b)) a b:=by
 rw[zc];simp only[Fm,ab.bI];exact V0 U9 (FA h _)
theorem LY{g:γ}{a b:I aU}(ak:a.length=b.length)(ih:∀x,x∈a->∀y,fc (f (x,y)) x y)(L:Nat->ag (J ⊕ γ))
 (o:∀i,i<a.length->L i=(f (a.getD i aH,b.getD i aH)>>=λr=>if !r then some (.inl false)else L (i+1)))
 (l:L a.length=some (.inr g)):(L 0=some (.inr g)/\a=b)\/(L 0=some (.inl false)/\a≠b):=by
 have k:∀(i:Nat) (h1:i<a.length) (c:i<b.length),fc (f (a.getD i aH,b.getD i aH)) a[i] b[i]:=by grind
 have ar:∀(i:Nat) (h1:i<a.length) (c:i<b.length),(f (a.getD i aH,b.getD i aH)).getD false↔a[i]=b[i]:=by
  intro i h1 c;obtain⟨r,d,n⟩:=k i h1 c;grind
 have:=scan L a.length (λi=>(f (a.getD i aH,b.getD i aH)).getD false) (.inl false) (.inr g)
  (λi m=>by
   obtain⟨r,h1,c⟩:=k i m (by omega)
   grind) l
 rcases this with⟨h1,c⟩|⟨h1,j,c,d⟩;exact .inl ⟨h1,(AW ak ar).1 c⟩;refine .inr ⟨h1,λe=>?_⟩;have:=(AW ak ar).2 e j c;rw[d]at this;cases this
theorem abt{a b:I aU}(d:a.length<=reachBytes)(e:∀m,m∈a->cp m.bm):fc (DK (a,b)) a b:=by
 rw[DK];by_cases ak:a.length=b.length
 . rw[dC];have k:=eI d;have hs:=LY (g:=()) ak (f:=zP) (λx aa y=>adY (e x aa) y) (λi=>pV (b,a,(a.length:Int),(i:Int)))
    (λi j=>by
     rw[pV,cJ,ah (aY j)];simp only[aW,ay,bQ,iu]
     rw[ah (fU),bN])
    (by rw[pV,cq])
   have dp:pV (b,a,(a.length:Int),((0:Nat):Int))=pV (b,a,(a.length:Int),0):=rfl;simp only[dp]at hs;rcases hs with⟨h1,c⟩|⟨h1,c⟩;rw[h1];exact⟨true,rfl,by simp[c]⟩;rw[h1];exact⟨false,rfl,by simp[c]⟩
 rw[cJ];exact wR ak
theorem OQ{a b:aj}:a=b↔a.ae=b.ae/\a.aP=b.aP/\a.br=b.br/\a.bB=b.bB/\a.Max=b.Max/\a.aR=b.aR/\a.aF=b.aF/\a.bt=b.bt/\a.bc=b.bc/\a.af=b.af:=by
 cases a;cases b;grind
theorem ahG{a b:aj}:(bif bif bif bif bif bif bif (a.ae=b.ae:J)then(a.aP=b.aP:J)else false then(a.br=b.br:J)else false then(a.bB=b.bB:J)else false then(a.Max=b.Max:J)else false then(a.aR=b.aR:J)else false then(a.aF=b.aF:J)else false then e7 a.bt b.bt else false)=true↔
 a.ae=b.ae/\a.aP=b.aP/\a.br=b.br/\a.bB=b.bB/\a.Max=b.Max/\a.aR=b.aR/\a.aF=b.aF/\a.bt=b.bt:=by
 simp only[zy,e7];by_cases h1:a.ae=b.ae<;>by_cases c:a.aP=b.aP<;>by_cases d:a.br=b.br<;>by_cases e:a.bB=b.bB<;>simp[h1,c,d,e];by_cases f:a.Max=b.Max<;>by_cases g:a.aR=b.aR<;>by_cases i:a.aF=b.aF<;>simp[f,g,i]
theorem jg{a:aj}(h:e5 a)(b:aj):fc (ia (a,b)) a b:=by
 rw[ia];obtain⟨d,s1,g⟩:=ahF (a:=a.bc) (b:=b.bc) (iw h.syms);obtain⟨c,e,f⟩:=abt (a:=a.af) (b:=b.af) (iw h.hq) h.hj;have e8:=ahG (a:=a) (b:=b);generalize (bif bif bif bif bif bif bif (a.ae=b.ae:J)then (a.aP=b.aP:J)else false then (a.br=b.br:J)else false then (a.bB=b.bB:J)else false then (a.Max=b.Max:J)else false then (a.aR=b.aR:J)else false then (a.aF=b.aF:J)else false then e7 a.bt b.bt else false)=q at e8⊢;simp only[aW,ay];rw[s1,e];refine⟨q&&d&&c,by cases q<;>cases d<;>cases c<;>rfl,?_⟩;rw[OQ,dh,dh,e8,g,f];grind
theorem ET(a:aj):(⟨a.ae,a.aP,a.br,a.bB,a.Max,a.bc,a.af,a.aR,a.aF,a.bt⟩:aj)=a:=by cases a;rfl
theorem qb{a:aj}(h:e5 a)(b:aj):fc (Dm (a,b)) a b:=by
 rw[Dm];simp only[ET];by_cases k:(a.ae=b.ae/\a.aP=b.aP/\a.br=b.br/\a.bB=b.bB/\a.Max=b.Max/\a.aR=b.aR/\a.aF=b.aF/\a.bt=b.bt)/\a.bc.length=b.bc.length/\a.af.length=b.af.length
 . obtain⟨⟨aJ,e,c3,gH,mq,k',qW,e8⟩,pv,pq⟩:=k;rw[au (by simp[aJ,e,c3,gH,mq,k',qW,e8,pv,pq,e7])];have r:=eI (iw h.syms);have s:=eI (iw h.hq);have d:=scan (λi=>p2 ((i:Int),a,b)) a.bc.length (λi=>eJ (a.bc.getD i dV).ai (b.bc.getD i dV).ai&&(jA (a.bc.getD i dV).aP (b.bc.getD i dV).aP&&true)) (.inl false) (.inr (a,b))
    (λi m=>by
     rw[p2,cJ,ah (aY m)];simp only[aW,ay,bQ];rw[ah (fU),bN]
     grind)
    (by rw[p2,cq])
   have h0:p2 (((0:Nat):Int),a,b)=p2 (0,a,b):=rfl;simp only[h0]at d;have ar:∀(i:Nat) (h1:i<a.bc.length) (c:i<b.bc.length),(eJ (a.bc.getD i dV).ai (b.bc.getD i dV).ai&&(jA (a.bc.getD i dV).aP (b.bc.getD i dV).aP&&true))↔a.bc[i]=b.bc[i]:=λi h1 c=>by rw[fM h1,fM c];exact SJ
   rcases d with⟨g1,g2⟩|⟨g1,j,g2,g3⟩
   . have t:=(AW pv ar).1 g2;rw[g1];simp only[aW,ay];have hs:=LY (g:=()) pq (f:=zc) (λx aa y=>adZ (h.hj x aa) y) (λi=>p3 ((i:Int),a,b))
      (λi l=>by
       rw[p3,cJ,ah (aY l)];simp only[aW,ay,bQ,iu]
       rw[ah (fU),bN])
      (by rw[p3,cq])
     have dp:p3 (((0:Nat):Int),a,b)=p3 (0,a,b):=rfl;simp only[dp]at hs;rcases hs with⟨k1,k2⟩|⟨k1,k2⟩;rw[k1];refine⟨true,rfl,?_⟩;rw[OQ];grind;rw[k1];refine⟨false,rfl,?_⟩;grind
   rw[g1];refine⟨false,rfl,?_⟩;grind
 . rw[ah]
   refine⟨false,rfl,?_⟩;grind;simp only[zy,e7];by_cases n:a.ae=b.ae<;>by_cases o:a.aP=b.aP<;>by_cases p:a.br=b.br<;>by_cases q:a.bB=b.bB<;>simp[n,o,p,q];grind
def uL(v:ab):J:=(ng (v,aM)).getD false
theorem agO(h:cp v):ng (v,aM)=some (uL v):=by
 obtain⟨r,h1,a⟩:=IY h aM;unfold uL;rw[h1];rfl
theorem agP(h:cp v):kP (v,aM)=some (uL v):=by
 obtain⟨r,h1,b⟩:=IY h aM;obtain⟨q,a,c⟩:=FA h aM;unfold uL;rw[h1,a];grind
theorem afY(h:cp v):DZ v=some (uL v):=by
 rw[DZ,ab.bI];have:=agO h;unfold aM at this;grind
def qQ(a:J)(m:aU):J:=(a&&(m.b4||m.bH))||(m.b4&&m.bH)||(!m.bH && !uL m.bm)
theorem bA{l:I α}{i:Nat}(h:i<l.length)(d:α):l.getD i d∈l:=by grind
theorem MO(h:e5 t):∃r,uD t=some r/\(r=true↔(∀i,i<t.af.length->qQ (t.ae=6:J) (t.af.getD i aH)=false)/\(t.ae=5\/0<t.af.length)/\(∀i,i<t.af.length->kv (t.af.map (·.ai)) (t.af.map (·.aP)) i)/\t.af.length<=16):=by
 have g:t.af.length<9223372036854775807:=eI (iw h.hq);have b:=scan (λi=>pH (t.af,(t.af.length:Int),(i:Int),t,(t.af.map (·.ai)).take i,(t.af.map (·.aP)).take i)) t.af.length (λi=>!(qQ (t.ae=6:J) (t.af.getD i aH))) (.inl false) (.inr (t,t.af.map (·.ai),t.af.map (·.aP)))
  (λi a=>by
   have f:=afY (h.hj _ (bA a aH));rw[pH,cJ,ah (aY a)];simp only[aW,ay,bQ,ab.bI];rw[<-jw (·.ai) t.af i aH 0 a,<-jw (·.aP) t.af i aH [] a,xi _ _ _ (by simpa using a),xi _ _ _ (by simpa using a)];have d:((t.af.map (·.ai)).take (i+1)).length*24<=reachBytes:=by
    refine hN (fg _ ?_) h.hq;simp;omega
   have e:((t.af.map (·.aP)).take (i+1)).length*24<=reachBytes:=(by grind);rw[ah (Df (by omega) d),ah (Df (by omega) e),bN,f];unfold qQ
   grind)
  (by
   rw[pH,cq]
   rw[sq (by simp),sq (by simp)])
 have dp:pH (t.af,(t.af.length:Int),((0:Nat):Int),t,(t.af.map (·.ai)).take 0,(t.af.map (·.aP)).take 0)=pH (t.af,(t.af.length:Int),0,t,[],[]):=rfl;simp only[dp]at b;rw[uD];obtain⟨r,h1,c⟩:=SL (l:=t.af.map (·.ai)) (names:=t.af.map (·.aP)) (by simpa using iw h.hq) (by simp);rw[sv]at c;rcases b with⟨g1,g2⟩|⟨g1,j,g2,g3⟩
 . rw[g1];simp only[aW,ay];rw[h1];refine⟨(bif (t.ae=5:J)then true else (0<((t.af.map (·.ai)).length:Int):J))&&r,?_,?_⟩
   grind;grind
 grind
theorem adE(l:I aU)(record:J)(ak:l.length<=reachBytes)(i:Nat)(e:i<l.length):
 n5 (l,record,(i:Int),0,l.getD i aH)=some (if((l.map (·.aP)).take i).contains ((l.map (·.aP)).getD i []) then .inl false else .inr (l,record,(i:Int),l.getD i aH)):=by
 have f:=eI ak;have c:=scan (λk=>n5 (l,record,(i:Int),(k:Int),l.getD i aH)) i (λk=>!((l.getD k aH).aP=(l.getD i aH).aP:J)) (.inl false) (.inr (l,record,(i:Int),l.getD i aH))
  (λk b=>by
   rw[n5,cJ,ah (fU),bN];simp only[bQ,iu]
   grind)
  (by rw[n5,cq,iu])
 have dp:n5 (l,record,(i:Int),((0:Nat):Int),l.getD i aH)=n5 (l,record,(i:Int),0,l.getD i aH):=rfl;simp only[dp]at c;rw[jw (·.aP) l i aH [] e];rcases c with⟨h1,a⟩|⟨h1,j,a,d⟩
 . rw[h1,au];rw[tW (by simp;omega)]
   rintro ⟨k,b,he⟩;rw[jw (·.aP) l k aH [] (by omega)]at he;have:=a k b;rw[he]at this;simp at this
 rw[h1,ah];rw[tW (by simp;omega)];refine⟨j,a,?_⟩;rw[jw (·.aP) l j aH [] (by omega)];simpa using d
theorem adF{l:I aU}{record:J}(ak:l.length<=reachBytes)(f:∀m,m∈l->cp m.bm):∃r,wF (l,record)=some r/\(r=true↔(∀i,i<l.length->qQ (!record) (l.getD i aH)=false)/\(record=true\/0<l.length)/\(∀i,i<l.length->kv (l.map (·.ai)) (l.map (·.aP)) i)/\l.length<=16):=by
 have n:=eI ak;have b:=scan (λi=>p6 (l,record,l3 (l.map (·.ai)) i,(i:Int))) l.length (λi=>kv (l.map (·.ai)) (l.map (·.aP)) i && !(qQ (!record) (l.getD i aH))) (.inl false) (.inr (l,record))
  (λi a=>by
   have c:=agP (f _ (bA a aH));unfold aM at c;rw[p6,cJ,ah (aY a)];simp only[aW,ay,bQ,ab.bI,iu,Q1 (l:=l.map (·.ai)) (names:=l.map (·.aP)) (i:=i) (by simpa using a) (by simp)];rw[adE l record ak i a,c];have e:l3 (l.map (·.ai)) (i+1)=(l.getD i aH).ai:=by
    unfold l3;grind
   rw[<-jw (·.ai) l i aH 0 a,<-jw (·.aP) l i aH [] a,VO,BD];simp only[ay];generalize ((l3 (l.map (·.ai)) i<(l.map (·.ai)).getD i 0:J)&&(1<=(l.map (·.ai)).getD i 0:J)&&((l.map (·.ai)).getD i 0<=1000:J))=q;cases q with
   |false=>simp
   |true=>
    simp only[dc,eL,cl,ay,ig];cases nm ((l.map (·.aP)).getD i [])with
    |false=>simp
    |true=>
     simp only[dc,ig,iC,et];unfold qQ;cases record<;>cases (l.getD i aH).b4<;>cases (l.getD i aH).bH<;>cases uL (l.getD i aH).bm <;>
      simp only[dc,eL,Bool.or_self,Bool.and_self,Bool.or_true,mC,u0,Bool.and_false,zz,ig,zB,iC,fh,et,cl,cF,cx,ay] <;>
      first
       |rfl
       |(cases k:((l.map (·.aP)).take i).contains ((l.map (·.aP)).getD i [])with
        |true=>simp
        |false=>
         simp only[cx,cF,eL,cl];rw[bN,e]
         try rfl))
  (by rw[p6,cq])
 have dp:p6 (l,record,l3 (l.map (·.ai)) 0,((0:Nat):Int))=p6 (l,record,0,0):=rfl;simp only[dp]at b;rw[wF];rcases b with⟨h1,d⟩|⟨h1,j,d,g⟩;rw[h1];refine⟨_,rfl,?_⟩;grind;rw[h1];refine⟨false,rfl,?_⟩;grind
theorem OA(h:e5 t)(d:t.ae=5\/t.ae=6):∃r,uD t=some r/\wF (t.af,(t.ae=5:J))=some r:=by
 obtain⟨r,h1,a⟩:=MO h;obtain⟨q,b,c⟩:=adF (l:=t.af) (record:=(t.ae=5:J)) (iw h.hq) h.hj;have e:(!(t.ae=5:J))=(t.ae=6:J):=by grind
 grind
theorem e5.plain{k l h m kk e:Int}{n:aq}{a:I aU}{o:J}(aG:S.length*24<=reachBytes)(c:a.length*24<=reachBytes)(f:∀x,x∈a->cp x.bm):e5 ⟨k,n,l,h,m,S,a,kk,e,o⟩:=⟨aG,c,f⟩
theorem ajs{L M:Int}{d:J}(h:e5 (⟨1,N,L,H,M,S,c,K,E,d⟩:aj)):∃r,gQ (⟨1,N,L,H,M,S,c,K,E,d⟩:aj)=some r/\hY (⟨1,N,L,H,M,S,c,K,E,d⟩:aj)=some r/\(r=true->N=[]):=by
 obtain⟨a,a1,a2⟩:=jg (a:=(⟨0,N,L,H,M,S,c,K,E,d⟩:aj)) ⟨h.syms,h.hq,h.hj⟩ (⟨0,[],0,0,0,[],[],0,0,false⟩:aj);obtain⟨b,b1,b2⟩:=qb h (⟨1,[],0,0,0,[],[],0,0,false⟩:aj);have e:a=b:=by grind
 subst e;refine⟨a,by simp[gQ,a1],by simp[hY,nA,lD,b1];try (cases a<;>rfl),λf=>?_⟩;grind
theorem ajt{L M:Int}{d:J}(h:e5 (⟨2,N,L,H,M,S,c,K,E,d⟩:aj)):∃r,gQ (⟨2,N,L,H,M,S,c,K,E,d⟩:aj)=some r/\hY (⟨2,N,L,H,M,S,c,K,E,d⟩:aj)=some r/\(r=true->N=[]):=by
 obtain⟨a,a1,a2⟩:=jg (a:=(⟨0,N,0,0,M,S,c,K,E,d⟩:aj)) ⟨h.syms,h.hq,h.hj⟩ (⟨0,[],0,0,0,[],[],0,0,false⟩:aj);obtain⟨b,b1,b2⟩:=qb h (⟨2,[],L,H,0,[],[],0,0,false⟩:aj);have e:a=b:=by grind
 subst e;refine⟨(L<=H:J)&&a,?_,?_,λf=>?_⟩;simp only[gQ];grind;simp only[hY];generalize (L<=H:J)=q;simp[nA,lD,b1];grind;grind
theorem aju{L M:Int}{d:J}(h:e5 (⟨3,N,L,H,M,S,c,K,E,d⟩:aj)):∃r,gQ (⟨3,N,L,H,M,S,c,K,E,d⟩:aj)=some r/\hY (⟨3,N,L,H,M,S,c,K,E,d⟩:aj)=some r/\(r=true->N=[]):=by
 obtain⟨a,a1,a2⟩:=jg (a:=(⟨0,N,L,H,0,S,c,K,E,d⟩:aj)) ⟨h.syms,h.hq,h.hj⟩ (⟨0,[],0,0,0,[],[],0,0,false⟩:aj);obtain⟨b,b1,b2⟩:=qb h (⟨3,[],0,0,M,[],[],0,0,false⟩:aj);have e:a=b:=by grind
 subst e;refine⟨(bif (0<=M:J)then (M<=200:J)else false)&&a,?_,?_,λf=>?_⟩;simp only[gQ];grind;simp only[hY];generalize (bif (0<=M:J)then (M<=200:J)else false)=q;simp[nA,lD,b1];grind;grind
theorem ajv{L M:Int}{d:J}(h:e5 (⟨4,N,L,H,M,S,c,K,E,d⟩:aj)):∃r,gQ (⟨4,N,L,H,M,S,c,K,E,d⟩:aj)=some r/\hY (⟨4,N,L,H,M,S,c,K,E,d⟩:aj)=some r/\(r=true->N≠[]):=by
 obtain⟨a,a1,a2⟩:=jg (a:=(⟨0,[],L,H,M,[],c,K,E,false⟩:aj)) ⟨(by simp),h.hq,h.hj⟩ (⟨0,[],0,0,0,[],[],0,0,false⟩:aj);obtain⟨b,b1,b2⟩:=qb h (⟨4,N,0,0,0,S,[],0,0,d⟩:aj);have g:a=b:=by grind
 subst g;obtain⟨q,i,f⟩:=adX (l:=S) h.syms;refine⟨nm N&&q&&a,?_,?_,λe=>?_⟩;simp only[gQ];simp[a1,i,uy];grind
 . simp only[hY]
   try simp at f
   simp[nA,lD,b1,f,BD];grind
 simp only[dh]at e;exact GY e.1.1
theorem ajw{L M:Int}{d:J}(h:e5 (⟨5,N,L,H,M,S,c,K,E,d⟩:aj)):∃r,gQ (⟨5,N,L,H,M,S,c,K,E,d⟩:aj)=some r/\hY (⟨5,N,L,H,M,S,c,K,E,d⟩:aj)=some r/\(r=true->N≠[]):=by
 obtain⟨a,a1,a2⟩:=jg (a:=(⟨0,[],L,H,M,S,[],K,E,(bif d then ((5:Int)=5:J)else false)⟩:aj)) ⟨h.syms,(by simp),(by simp)⟩ (⟨0,[],0,0,0,[],[],0,0,false⟩:aj);obtain⟨b,b1,b2⟩:=qb h (⟨5,N,0,0,0,[],c,0,0,false⟩:aj);have i:a=b:=by grind
 subst i;obtain⟨q,f,g⟩:=OA h (by simp);refine⟨nm N&&q&&a,?_,?_,λe=>?_⟩
 . simp only[gQ]
   try simp at a1
   try simp at f
   simp[a1,f,uy];grind
 . simp only[hY]
   try simp at g
   simp[nA,lD,b1,g,BD];grind
 simp only[dh]at e;exact GY e.1.1
theorem ajx{L M:Int}{d:I aU}{c:J}(h:e5 (⟨6,N,L,H,M,S,d,K,E,c⟩:aj)):∃r,gQ (⟨6,N,L,H,M,S,d,K,E,c⟩:aj)=some r/\hY (⟨6,N,L,H,M,S,d,K,E,c⟩:aj)=some r/\(r=true->N≠[]):=by
 obtain⟨a,a1,a2⟩:=jg (a:=(⟨0,[],L,H,M,S,[],K,E,(bif c then ((6:Int)=5:J)else false)⟩:aj)) ⟨h.syms,(by simp),(by simp)⟩ (⟨0,[],0,0,0,[],[],0,0,false⟩:aj);obtain⟨b,b1,b2⟩:=qb h (⟨6,N,0,0,0,[],d,0,0,c⟩:aj);have i:a=b:=by grind
 subst i;obtain⟨q,f,g⟩:=OA h (by simp);refine⟨nm N&&q&&a,?_,?_,λe=>?_⟩
 . simp only[gQ]
   try simp at a1
   try simp at f
   simp[a1,f,uy];grind
 . simp only[hY]
   try simp at g
   simp[nA,lD,b1,g,BD];grind
 simp only[dh]at e;exact GY e.1.1
theorem ajy{L M:Int}{d:J}(h:e5 (⟨7,N,L,H,M,S,c,K,E,d⟩:aj)):∃r,gQ (⟨7,N,L,H,M,S,c,K,E,d⟩:aj)=some r/\hY (⟨7,N,L,H,M,S,c,K,E,d⟩:aj)=some r/\(r=true->N=[]):=by
 obtain⟨a,a1,a2⟩:=jg (a:=(⟨0,N,L,H,0,S,c,K,0,d⟩:aj)) ⟨h.syms,h.hq,h.hj⟩ (⟨0,[],0,0,0,[],[],0,0,false⟩:aj);obtain⟨b,b1,b2⟩:=qb h (⟨7,[],0,0,M,[],[],0,E,false⟩:aj);have e:a=b:=by grind
 subst e;refine⟨(bif (0<=M:J)then (M<=50:J)else false)&&a,?_,?_,λf=>?_⟩;simp only[gQ];grind;simp only[hY];generalize (bif (0<=M:J)then (M<=50:J)else false)=q;simp[nA,lD,b1];grind;grind
theorem ajz{L M:Int}{d:J}(h:e5 (⟨8,N,L,H,M,S,c,K,E,d⟩:aj)):∃r,gQ (⟨8,N,L,H,M,S,c,K,E,d⟩:aj)=some r/\hY (⟨8,N,L,H,M,S,c,K,E,d⟩:aj)=some r/\(r=true->N=[]):=by
 obtain⟨a,a1,a2⟩:=jg (a:=(⟨0,N,L,H,0,S,c,0,0,d⟩:aj)) ⟨h.syms,h.hq,h.hj⟩ (⟨0,[],0,0,0,[],[],0,0,false⟩:aj);obtain⟨b,b1,b2⟩:=qb h (⟨8,[],0,0,M,[],[],K,E,false⟩:aj);have e:a=b:=by grind
 subst e;refine⟨(bif (0<=M:J)then (M<=50:J)else false)&&a,?_,?_,λf=>?_⟩;simp only[gQ];grind;simp only[hY];generalize (bif (0<=M:J)then (M<=50:J)else false)=q;simp[nA,lD,b1];grind;grind
theorem ajA{L M:Int}{d:J}(h:e5 (⟨9,N,L,H,M,S,c,K,E,d⟩:aj)):∃r,gQ (⟨9,N,L,H,M,S,c,K,E,d⟩:aj)=some r/\hY (⟨9,N,L,H,M,S,c,K,E,d⟩:aj)=some r/\(r=true->N=[]):=by
 obtain⟨a,a1,a2⟩:=jg (a:=(⟨0,N,L,H,M,S,c,K,0,d⟩:aj)) ⟨h.syms,h.hq,h.hj⟩ (⟨0,[],0,0,0,[],[],0,0,false⟩:aj);obtain⟨b,b1,b2⟩:=qb h (⟨9,[],0,0,0,[],[],0,E,false⟩:aj);have e:a=b:=by grind
 subst e;refine⟨a,by simp[gQ,a1],by simp[hY,nA,lD,b1];try (cases a<;>rfl),λf=>?_⟩;grind
def k0(k:Int):J:=bif bif (k=4:J)then true else(k=5:J)then true else(k=6:J)
theorem OB(h:e5 t):∃r,gQ t=some r/\hY t=some r/\(r=true->1<=t.ae/\t.ae<=9/\k0 t.ae=!(t.aP=[]:J)):=by
 by_cases b:1<=t.ae/\t.ae<=9
 . obtain⟨a,N,L,H,M,S,c,K,E,d⟩:=t;simp at b;have:a=1\/a=2\/a=3\/a=4\/a=5\/a=6\/a=7\/a=8\/a=9:=(by omega);rcases this with rfl|rfl|rfl|rfl|rfl|rfl|rfl|rfl|rfl
   grind[ajs,k0];grind[ajt,k0];grind[aju,k0];grind[ajv,k0];grind[ajw,k0];grind[ajx,k0];grind[ajy,k0];grind[ajz,k0];grind[ajA,k0]
 . refine⟨false,?_,?_,λh=>by grind⟩
   have e:∀k,1<=k->k<=9->¬t.ae=k:=λk h1 f e=>b (by omega);simp_all[gQ];have e:(bif (t.ae<1:J)then true else (9<t.ae:J))=true:=(by grind);rw[hY,e];rfl
def fj(t:aj):az:=t.af.map (·.aC)++(if t.ae=8 then[t.aR]else[])++(if 7<=t.ae then[t.aF]else[])
theorem xJ{k n:Nat}(a:k<=16){m:Nat}(h:m*24<=reachBytes)(aI:n<=m+2):cn k n:=by
 unfold cn hD dB;unfold reachBytes at h;simp;have:(2*n+192)*k<=(2*n+192)*16:=Nat.mul_le_mul_left _ a;omega
theorem MP(t:aj)(h:t.af.length*24<=reachBytes):∀(k i:Nat),i+k=t.af.length->uE (t.af,(t.af.length:Int),(i:Int),t,(t.af.map (·.aC)).take i)=some (t,t.af.map (·.aC))
 |0,i,a=>by grind[uE,List.take_of_length_le]
 |k+1,i,a=>by
  have b:=eI (iw h);have aD:i<t.af.length:=by omega
  rw[uE,ah (by grind),ah (aY aD)];simp only[aW,ay,bQ];rw[<-jw (·.aC) _ i _ 0 aD,xi _ _ _ (by grind),bN,ah (xJ (by simp) h (by grind))];exact MP t h k _ (by omega)
theorem agQ(h:t.af.length*24<=reachBytes):D8 t=some (fj t):=by
 have h0:=MP t h t.af.length 0 (by simp);rw[D8];unfold fj;have a:cn 8 (t.af.map (·.aC)++[t.aR]).length:=xJ (by simp) h (by simp);have b:cn 8 (t.af.map (·.aC)++[t.aR]++[t.aF]).length:=xJ (m:=t.af.length) (by simp) h (by simp);grind
theorem MQ(t:aj)(h:t.af.length*24<=reachBytes):∀(k i:Nat),i+k=t.af.length->tg ((i:Int),t,(t.af.map (·.aC)).take i)=some (t,t.af.map (·.aC))
 |0,i,a=>by grind[tg,List.take_of_length_le]
 |k+1,i,a=>by
  have b:=eI (iw h);have aD:i<t.af.length:=by omega
  rw[tg,ah (by grind),ah (aY aD)];simp only[aW,ay,bQ];rw[<-jw (·.aC) _ i _ 0 aD,xi _ _ _ (by grind),bN,ah (xJ (by simp) h (by grind))];exact MQ t h k _ (by omega)
theorem agR(h:t.af.length*24<=reachBytes)(a:t.ae<=9):DH t=some (fj t):=by
 have h0:=MQ t h t.af.length 0 (by simp);rw[DH];unfold fj;have b:cn 8 (t.af.map (·.aC)++[t.aR]).length:=xJ (by simp) h (by simp);have c:cn 8 (t.af.map (·.aC)++[t.aR]++[t.aF]).length:=xJ (m:=t.af.length) (by simp) h (by simp);grind
theorem agS(k:Int):lD k=some (k0 k):=rfl
def yZ(k:Int):J:=bif (1<=k:J)then(k<=4:J)else false
def qw(n:Nat)(u:Int):J:=bif (u<0:J)then true else((n:Int)<=u:J)
def sG(ts:I aj)(i:Nat):ag Int:=
 let t:=ts.getD i aN
 if !((gQ t).getD false)then some 1 else if !(t.aP=[]:J)&&((ts.map (·.aP)).take i).contains t.aP then some 1 else if(fj t).any (qw ts.length)then some 4 else ite ((t.ae=8:J) && !(yZ (ts.getD t.aR.toNat aN).ae)) (some 1) none
theorem JE{i:Nat}{r:J}(dw:ts.getD i aN=t)(f1:gQ t=some r):
 sG ts i=if !r then some 1 else if !(t.aP=[]:J)&&((ts.map (·.aP)).take i).contains t.aP then some 1 else if(fj t).any (qw ts.length) then some 4 else if((t.ae=8:J) && !(yZ (ts.getD t.aR.toNat aN).ae)) then some 1 else none:=by
 grind[sG]
theorem OR(L:Nat->ag γ)(l:az)(q:Int->J)(a b:γ)(e:∀i,i<l.length->L i=if q (l.getD i 0)then some a else L (i+1))(c:L l.length=some b):
 L 0=some (if l.any q then a else b):=by
 have:=scan L l.length (λi=>!(q (l.getD i 0))) a _ (λi d=>by grind) c;grind[List.getElem_of_mem]
theorem NL(h:t.af.length*24<=reachBytes):(fj t).length<9223372036854775807:=by
 grind[fj,reachBytes]
theorem ahH{L:Nat->ag (Int ⊕ Unit)}{n:Nat}{step:Nat->ag Int}
 (h:∀i,i<n->L i=match step i with|some e=>some (.inl e)|none=>L (i+1))(he:L n=some (.inr ()))
 (a:∀i,i<n->L' i=match step i with|some e=>some (.inl e)|none=>L' (i+1))(f:L' n=some (.inr ())):∃o,L 0=some o/\L' 0=some o/\((o= .inr ()/\∀i,i<n->step i=none)\/∃i e,i<n/\step i=some e/\o= .inl e):=by
 have key:∀k i,i+k=n->∃o,L i=some o/\L' i=some o/\((o= .inr ()/\∀m,i<=m->m<n->step m=none)\/∃m e,m<n/\step m=some e/\o= .inl e):=by
  intro k;induction k with
  |zero=>grind
  |succ k ih=>
   intro i g;rw[a i (by omega)];cases j:step i with
   |some e=>grind
   |none=>
    obtain⟨o,b,c,d⟩:=ih (i+1) (by omega);grind
 obtain⟨o,b,c,d⟩:=key n 0 (by simp);grind
theorem SM(b:(fj t).any (qw ts.length)=false)(a:t.ae=8):aE t.aR ts.length:=by
 grind[fj,qw,aE]
theorem ahI(ts:I aj)(t:aj)(i:Nat)(d:i<ts.length)(f:ts.length<9223372036854775807):
 oF ((i:Int),0,ts,t.ae,t.aP,t.br,t.bB,t.Max,t.bc,t.af,t.aR,t.aF,t.bt)=some (if(k0 t.ae&&((ts.map (·.aP)).take i).contains t.aP) then .inl 1 else .inr ((i:Int),ts,t.ae,t.aP,t.br,t.bB,t.Max,t.bc,t.af,t.aR,t.aF,t.bt)):=by
 have b:=scan (λk=>oF (i,k,ts,t.ae,t.aP,t.br,t.bB,t.Max,t.bc,t.af,t.aR,t.aF,t.bt)) i (λk=>!(bif k0 t.ae then ((ts.getD k aN).aP=t.aP:J)else false)) (.inl 1) (.inr (i,ts,t.ae,t.aP,t.br,t.bB,t.Max,t.bc,t.af,t.aR,t.aF,t.bt))
  (λk e=>by
   rw[oF,ah (by grind),agS];simp only[aW,ay];rw[ah (by grind[aY]),bN]
   grind)
  (by simp_all[oF])
 have dp:oF ((i:Int),(0:Nat),ts,t.ae,t.aP,t.br,t.bB,t.Max,t.bc,t.af,t.aR,t.aF,t.bt)=oF ((i:Int),0,ts,t.ae,t.aP,t.br,t.bB,t.Max,t.bc,t.af,t.aR,t.aF,t.bt):=rfl;simp at b;rcases b with⟨h1,a⟩|⟨h1,j,a,c⟩;rw[h1,au];rw[dh,tW (by grind)];grind
 . rw[h1,ah];rw[dh,tW (by grind)];cases aI:k0 _ with
   |false=>grind
   |true=>
    refine⟨rfl,j,a,?_⟩;grind
theorem ag1(ts:I aj)(t:aj)(i:Nat)(l:az)(ak:l.length<9223372036854775807):
 ra ((i:Int),l,0,ts,t.ae,t.aP,t.br,t.bB,t.Max,t.bc,t.af,t.aR,t.aF,t.bt)=some (if l.any (qw ts.length) then .inl 4 else .inr ((i:Int),ts,t.ae,t.aP,t.br,t.bB,t.Max,t.bc,t.af,t.aR,t.aF,t.bt)):=
 OR (λj=>ra (i,l,j,ts,t.ae,t.aP,t.br,t.bB,t.Max,t.bc,t.af,t.aR,t.aF,t.bt)) l _ _ _
  (λj a=>by
   rw[ra,ah (by grind),ah (aY a)];simp only[aW,ay];rw[ah (by grind[aY]),bN]
   rfl)
  (by grind[ra])
theorem MR{s:aT}(hs:s.bh.length<=reachBytes)(ht:∀t,t∈s.bh->e5 t):∃e,pR s=some e/\pJ s=some e/\(e=0->s.bh.length<=32/\∀i,i<s.bh.length->sG s.bh i=none)/\((s.bh.length<=32/\∀i,i<s.bh.length->sG s.bh i=none)->e=0)/\e≠12:=by
 rw[pR,pJ];by_cases y:32<s.bh.length;exact⟨3,by grind,by grind,λh=>(by grind),λh=>absurd h.1 (by omega),by simp⟩
 . rw[au (by grind),au (by grind)];have u:s.bh.length<9223372036854775807:=(by omega);have:=ahH (L:=λi=>r9 (s.bh,(s.bh.length:Int),(i:Int),s.bh,lP ((s.bh.map (·.aP)).take i))) (L':=λi=>rj ((i:Int),s.bh)) (n:=s.bh.length) (step:=sG s.bh)
    (λi b=>by
     have a:=ht _ (bA b aN);obtain⟨r,f1,f2,f3⟩:=OB a;rw[r9,ah (by grind),ah (aY b)];simp only[aW,ay,bQ];generalize dw:s.bh.getD i aN=t at*;rw[JE dw f1,f1];simp only[ay,Ny];cases r with
     |false=>rfl
     |true=>
      by_cases f:(!(t.aP=[]:J)&&((s.bh.map (·.aP)).take i).contains t.aP)=true;grind
      . have l:¬((bif (!(t.aP=[]:J))then((s.bh.map (·.aP)).take i).contains t.aP else false)=true):=(by grind);rw[au (show ¬((bif (!true)then true else bif (!(t.aP=[]:J))then((s.bh.map (·.aP)).take i).contains t.aP else false)=true)from l),au f,agQ a.hq];simp only[ay];have A:=NL a.hq;have m:=OR (λj=>pI (s.bh,(s.bh.length:Int),(i:Int),fj t,((fj t).length:Int),(j:Int),s.bh,iY (lP ((s.bh.map (·.aP)).take i)) t.aP,t.ae,t.aP,t.br,t.bB,t.Max,t.bc,t.af,t.aR,t.aF,t.bt)) (fj t) (qw s.bh.length) (.inl 4)
         (.inr (s.bh,(s.bh.length:Int),(i:Int),s.bh,iY (lP ((s.bh.map (·.aP)).take i)) t.aP,t.ae,t.aP,t.br,t.bB,t.Max,t.bc,t.af,t.aR,t.aF,t.bt))
         (λj p=>by
          rw[pI,ah (by grind),ah (aY p),bN]
          rfl)
         (by simp_all[pI,au])
        have dp:pI (s.bh,(s.bh.length:Int),(i:Int),fj t,((fj t).length:Int),((0:Nat):Int),s.bh,iY (lP ((s.bh.map (·.aP)).take i)) t.aP,t.ae,t.aP,t.br,t.bB,t.Max,t.bc,t.af,t.aR,t.aF,t.bt)=pI (s.bh,(s.bh.length:Int),(i:Int),fj t,((fj t).length:Int),0,s.bh,iY _ t.aP,t.ae,t.aP,t.br,t.bB,t.Max,t.bc,t.af,t.aR,t.aF,t.bt):=rfl;rw[<-dp,m];cases d:(fj t).any (qw s.bh.length)with
        |true=>rfl
        |false=>
         simp only[cx,cF,ay];have v:iY (lP ((s.bh.map (·.aP)).take i)) t.aP=lP ((s.bh.map (·.aP)).take (i+1)):=by
          grind[Nz]
         rw[v,bN];by_cases c:t.ae=8;have q:=SM d c;simp only[c,dS,fh,ig,yZ];grind
         grind)
    (by simp_all[r9,au])
    (λi b=>by
     have a:=ht _ (bA b aN);obtain⟨r,f1,f2,f3⟩:=OB a;rw[rj,ah (by grind),ah (aY b)];simp only[aW,ay,bQ];generalize dw:s.bh.getD i aN=t at*;rw[JE dw f1,f2,ahI s.bh t i b u];simp only[ay];cases r with
     |false=>rfl
     |true=>
      obtain⟨k1,k2,k3⟩:=f3 rfl;rw[au (show ¬((!true)=true) by simp),k3];cases f:(!(t.aP=[]:J)&&((s.bh.map (·.aP)).take i).contains t.aP)with
      |true=>rfl
      |false=>
       simp only[cx,cF,ET];rw[agR a.hq k2];simp only[ay];rw[ag1 s.bh t i (fj t) (NL a.hq)];cases d:(fj t).any (qw s.bh.length)with
       |true=>rfl
       |false=>
        simp only[cx,cF,ay];rw[bN];by_cases c:t.ae=8;have q:=SM d c;rw[ah (by grind)];simp only[c,dS,cl,HS,ay,fh,ig];show(if !(yZ (s.bh.getD t.aR.toNat aN).ae) then some (.inl 1)else rj (((i+1:Nat):Int),s.bh))=_;grind
        grind)
    (by simp_all[rj,au])
   obtain⟨o,h1,x,g⟩:=this;have w:r9 (s.bh,(s.bh.length:Int),0,s.bh,[])=some o:=h1;rcases g with⟨rfl,k⟩|⟨i,e,k,z,rfl⟩;simp_all;grind[sG]
theorem ud(L:Nat->ag γ)(n:Nat)(q:Nat->J)(a:Nat->γ)(c:γ)(f:∀i,i<n->L i=if q i then some (a i)else L (i+1))(d:L n=some c):
 (∃j,j<n/\q j/\(∀k,k<j->q k=false)/\L 0=some (a j))\/((∀k,k<n->q k=false)/\L 0=some c):=by
 have key:∀k i,i+k=n->(∀m,m<i->q m=false)->L 0=L i->(∃j,j<n/\q j/\(∀k,k<j->q k=false)/\L 0=some (a j))\/((∀k,k<n->q k=false)/\L 0=some c):=by
  intro k;induction k with
  |zero=> intro i e b h0; have:i = n:= by omega
          subst this;exact .inr ⟨b,by rw[h0,d]⟩
  |succ k ih=>
   intro i e b h0;rw[f i (by omega)]at h0;grind
 exact key n 0 (by omega) (λm b=>by omega) rfl
def uM(l:I aU)(id:Int)(r:Int×J):Prop:=(∃j:Nat,j<l.length/\(l.getD j aH).ai=id/\(∀k,k<j->(l.getD k aH).ai≠id)/\r=((j:Int),true))\/((∀k,k<l.length->(l.getD k aH).ai≠id)/\r=(0,false))
theorem IH{l:I aU}{r q:Int×J}(h1:uM l id r)(a:uM l id q):r=q:=by
 rcases h1 with⟨j,a1,a2,a3,rfl⟩|⟨a1,rfl⟩<;>rcases a with⟨k,b1,b2,b,rfl⟩|⟨b1,rfl⟩;grind;grind;grind;rfl
theorem zX(ak:t.af.length<9223372036854775807):∃r,gO (t,id)=some r/\uM t.af id r:=by
 rw[gO,HI];have h:=ud (λi=>pW (t.af,(t.af.length:Int),(i:Int),id)) t.af.length (λi=>((t.af.getD i aH).ai=id:J)) (λi=>.inl ((i:Int),id)) (.inr id)
  (λi e=>by
   rw[pW,cJ,ah (aY e)];simp only[aW,ay,bQ,iu,Iy]
   rw[bN])
  (by rw[pW,cq])
 have dp:pW (t.af,(t.af.length:Int),((0:Nat):Int),id)=pW (t.af,(t.af.length:Int),0,id):=rfl;simp only[dp]at h;rcases h with⟨j,h1,c,d,a⟩|⟨h1,a⟩
 . rw[a];refine⟨((j:Int),true),?_,.inl ⟨j,h1,by simpa using c,λk b=>by simpa using d k b,rfl⟩⟩;have aJ:mx (j:Int) 0=(j:Int):=by unfold mx;omega
   simp_all
 rw[a];exact⟨(0,false),rfl,.inr ⟨λk b=>by simpa using h1 k b,rfl⟩⟩
theorem En(ak:t.af.length<9223372036854775807):∃r,gD (t,id)=some r/\uM t.af id r:=by
 rw[gD];have h:=ud (λi=>pA (id,(i:Int),t)) t.af.length (λi=>((t.af.getD i aH).ai=id:J)) (λi=>.inl ((i:Int),true)) (.inr ())
  (λi e=>by
   rw[pA,cJ,ah (aY e),bN]
   grind)
  (by rw[pA,cq])
 have dp:pA (id,((0:Nat):Int),t)=pA (id,0,t):=rfl;simp only[dp]at h;rcases h with⟨j,h1,c,d,a⟩|⟨h1,a⟩;rw[a];exact⟨((j:Int),true),rfl,.inl ⟨j,h1,by simpa using c,λk b=>by simpa using d k b,rfl⟩⟩;rw[a];exact⟨(0,false),rfl,.inr ⟨λk b=>by simpa using h1 k b,rfl⟩⟩
theorem ni(id:Int)(ak:t.af.length<9223372036854775807):∃r,gO (t,id)=some r/\gD (t,id)=some r/\uM t.af id r:=by
 obtain⟨r,h1,a⟩:=zX (id:=id) ak;obtain⟨q,c,b⟩:=En (id:=id) ak;have:=IH a b;grind
def xK(l:I df)(id:Int)(r:Int×J):Prop:=(∃j:Nat,j<l.length/\(l.getD j dV).ai=id/\(∀k,k<j->(l.getD k dV).ai≠id)/\r=((j:Int),true))\/((∀k,k<l.length->(l.getD k dV).ai≠id)/\r=(0,false))
theorem acM{l:I df}{r q:Int×J}(h1:xK l id r)(a:xK l id q):r=q:=by
 rcases h1 with⟨j,a1,a2,a3,rfl⟩|⟨a1,rfl⟩<;>rcases a with⟨k,b1,b2,b,rfl⟩|⟨b1,rfl⟩;grind;grind;grind;rfl
theorem rz(id:Int)(ak:t.bc.length<9223372036854775807):∃r,sd (t,id)=some r/\pG (t,id)=some r/\xK t.bc id r:=by
 rw[sd,HH,pG];have h:=ud (λi=>n1 (t.bc,(t.bc.length:Int),(i:Int),id)) t.bc.length (λi=>((t.bc.getD i dV).ai=id:J)) (λi=>.inl ((i:Int),id)) (.inr id)
  (λi f=>by
   rw[n1,cJ,ah (aY f)];simp only[aW,ay,bQ,Ix]
   rw[bN])
  (by rw[n1,cq])
 have dp:n1 (t.bc,(t.bc.length:Int),((0:Nat):Int),id)=n1 (t.bc,(t.bc.length:Int),0,id):=rfl;have g:=ud (λi=>oG (id,(i:Int),t)) t.bc.length (λi=>((t.bc.getD i dV).ai=id:J)) (λi=>.inl ((i:Int),true)) (.inr ())
  (λi f=>by
   rw[oG,cJ,ah (aY f),bN]
   grind)
  (by rw[oG,cq])
 have m:oG (id,((0:Nat):Int),t)=oG (id,0,t):=rfl;simp only[dp]at h;simp only[m]at g;have n:∃r,(n1 (t.bc,(t.bc.length:Int),0,id)>>=λo=>match o with|.inl c=>some (c.1,c.2)|.inr l=>some ((-1),l))>>=(λr=>some (mx r.1 0,(0<=r.1:J)))=some r/\xK t.bc id r:=by
  rcases h with⟨j,h1,d,e,a⟩|⟨h1,a⟩
  . rw[a];refine⟨((j:Int),true),?_,.inl ⟨j,h1,by simpa using d,λk b=>by simpa using e k b,rfl⟩⟩;have aJ:mx (j:Int) 0=(j:Int):=by unfold mx;omega
    simp_all
  rw[a];exact⟨(0,false),rfl,.inr ⟨λk b=>by simpa using h1 k b,rfl⟩⟩
 have cZ:∃r,(oG (id,0,t)>>=λo=>match o with|.inl c=>some (c.1,c.2)|.inr l=>some (0,false))=some r/\xK t.bc id r:=by
  rcases g with⟨j,h1,d,e,a⟩|⟨h1,a⟩;rw[a];exact⟨((j:Int),true),rfl,.inl ⟨j,h1,by simpa using d,λk b=>by simpa using e k b,rfl⟩⟩;rw[a];exact⟨(0,false),rfl,.inr ⟨λk b=>by simpa using h1 k b,rfl⟩⟩
 obtain⟨r,a1,a2⟩:=n;obtain⟨q,b1,b2⟩:=cZ;have:=acM a2 b2;grind
def fP(n:Int):Int:=if 0<=n then 2*n else -2*n-1
theorem JZ{a b:Int}(h:fP a=fP b):a=b:=by
 unfold fP at h;split at h<;>split at h<;>omega
def ej(n:Int):Prop:= -9223372036854775808<=n/\n<=9223372036854775807
theorem rU{n:Int}(h:ej n):vW n=some (fP n):=by
 obtain⟨h1,f⟩:=h;rw[vW];unfold fP;by_cases h0:0<=n
 . rw[ah (by simp[h0]),ah h0];obtain⟨k,rfl⟩:∃k:Nat,n=(k:Int):=⟨n.toNat,by omega⟩
   rw[hS];have:=uO (a:=2) (b:=k) (by omega);grind
 . rw[au (by simp[h0]),au h0];rw[qZ,mW];obtain⟨k,e⟩:∃k:Nat,0-(n+1)=(k:Int):=⟨(0-(n+1)).toNat,by omega⟩
   rw[e,hS];have c:=uO (a:=2) (b:=k) (by omega);have d:fH .u64 2 (k:Int)=((2*k:Nat):Int):=c;rw[d];have g:=sV (a:=2*k) (b:=1) (by omega);grind
theorem afZ(a:Nat)(h:a<18446744073709551616):x6 .u64 (a:Int) 0=(a:Int):=by
 have e:(BitVec.ofInt 64 (a:Int) ^^^ BitVec.ofInt 64 (0:Int)).toNat=a:=by grind
 show IntKind.u64.wrap (((BitVec.ofInt 64 (a:Int) ^^^ BitVec.ofInt 64 (0:Int)).toNat:Nat):Int)=_;rw[e];exact ve
theorem af0(a:Nat)(h:a<18446744073709551616):x6 .u64 (a:Int) 18446744073709551615=((18446744073709551615-a:Nat):Int):=by
 have e:(BitVec.ofInt 64 (a:Int) ^^^ BitVec.ofInt 64 (18446744073709551615:Int)).toNat=18446744073709551615-a:=by
  have h1:BitVec.ofInt 64 (18446744073709551615:Int)=BitVec.allOnes 64:=by decide
  rw[h1,xw,BitVec.xor_allOnes,BitVec.toNat_not,zs,HG,oW h]
 all_goals (try omega)
 show IntKind.u64.wrap (((BitVec.ofInt 64 (a:Int) ^^^ BitVec.ofInt 64 (18446744073709551615:Int)).toNat:Nat):Int)=_;rw[e];exact ve
theorem ako{n:Int}(h:ej n):mG .i64 n 63=if 0<=n then 0 else -1:=by
 obtain⟨h1,a⟩:=h;unfold mG;have e:((2:Int)^min (63:Int).toNat IntKind.i64.bits)=9223372036854775808:=by decide
 grind
theorem xL{n:Int}(h:ej n):wj n=some (fP n):=by
 rw[wj,ako h];obtain⟨h1,a⟩:=h;unfold fP;have hs:∀m:Int,o3 .u64 m 1=IntKind.u64.wrap (m*2):=by
  intro m;unfold o3;rfl
 rw[hs];congr 1;by_cases h0:0<=n
 . rw[ah h0,ah h0];obtain⟨k,rfl⟩:∃k:Nat,n=(k:Int):=⟨n.toNat,by omega⟩
   rw[hS,ve];have:da .u64 0=0:=(by decide);rw[this];have:=afZ (2*k) (by omega);grind
 . rw[au h0,au h0];have:da .u64 (-1)=18446744073709551615:=(by decide);rw[this];obtain⟨k,b⟩:∃k:Nat,n+9223372036854775808=(k:Int):=⟨(n+9223372036854775808).toNat,by omega⟩
   have e:IntKind.u64.wrap (da .u64 n*2)=((2*k:Nat):Int):=by
    unfold da;rw[IntKind.wrap_u64,IntKind.wrap_u64];omega
   rw[e,af0 _ (by omega)];omega
theorem S3(a b:Int):D9 (a,b)=some (if a<b then -1 else if b<a then 1 else 0):=by
 rw[D9];simp only[Fl,aW,ay,dS,dc,cx,cF];grind
theorem Cr(a b:Int):zZ (a,b)=some (if a<b then -1 else if b<a then 1 else 0):=by
 rw[zZ];simp only[D',aW,ay,dS,dc,cx,cF];grind
theorem S4(a b:aq):Et (a,b)=some (if Op.bytesLess a b then -1 else if(Op.bytesLess a b||(a=b:J))then 0 else 1):=by
 rw[Et];simp only[Ea,aW,ay,dS,dc,cx,cF];grind
theorem Vv(a b:Int):Fs [a,b]=some (if a≠0 then a else b):=by
 rw[Fs];have h0:rH (0,[a,b],((2:Nat):Int),((0:Nat):Int))=if a≠0 then some (.inl a)else(if b≠0 then some (.inl b)else some (.inr 0)):=by
  rw[rH,ah (by decide),ah (show aE ((0:Nat):Int) ([a,b]:az).length=true from aY (k:=0) (n:=2) (by omega))];simp only[aW,ay,bQ,sr];by_cases c:a=0
  . rw[au (by simp[c]),au (by simp[c])];have aJ:a' .i64 ((0:Nat):Int) 1=((1:Nat):Int):=bN;rw[aJ,rH,ah (by decide),ah (show aE ((1:Nat):Int) ([a,b]:az).length=true from aY (k:=1) (n:=2) (by omega))];simp only[aW,ay,bQ,uU,sr];by_cases d:b=0
    rw[au (by simp[d]),au (by simp[d])];have e:a' .i64 ((1:Nat):Int) 1=((2:Nat):Int):=bN;rw[e,rH,au (by decide)];grind
  grind
 grind
theorem K9:∀a:aq,Op.bytesLess a a=false
 |[]=>rfl
 |x::r=>by
  simp[Op.bytesLess,K9 r]
theorem D2{b:ab}(c:ej a.bE)(d:ej b.bE):∃r,oh (a,b)=some r/\pF (a,b)=some r:=by
 rw[oh,pF];by_cases e:a.ae=b.ae
 . rw[au (show ¬((!(a.ae=b.ae:J))=true) by simp[e]),au (show ¬((!(a.ae=b.ae:J))=true) by simp[e])];by_cases k1:a.ae=1
   rw[ah (show (a.ae=1:J) by simp[k1]),ah (show (a.ae=1:J) by simp[k1])];simp only[jb];cases e7 a.ct b.ct<;>cases b.ct<;>exact⟨_,rfl,rfl⟩
   . rw[au (show ¬((a.ae=1:J)=true) by simp[k1]),au (show ¬((a.ae=1:J)=true) by simp[k1])];by_cases k2:a.ae=2
     . rw[ah (show (a.ae=2:J) by simp[k2]),ah (show (a.ae=2:J) by simp[k2]),xL c,xL d,rU c,rU d];simp only[aW,ay,S3,jb];by_cases he:a.bE=b.bE
       grind;have g:fP a.bE≠fP b.bE:=λh=>he (JZ h);grind
     . rw[au (show ¬((a.ae=2:J)=true) by simp[k2]),au (show ¬((a.ae=2:J)=true) by simp[k2])];by_cases k3:a.ae=3
       . rw[ah (show (a.ae=3:J) by simp[k3]),ah (show (a.ae=3:J) by simp[k3])];simp only[aW,ay,Cr,S4,Vv,jb];by_cases ak:a.bZ.length=b.bZ.length
         . have f:¬((!((a.bZ.length:Int)=(b.bZ.length:Int):J))=true):=by simp;omega
           rw[au f,ak];have aJ:¬((b.bZ.length:Int)<(b.bZ.length:Int)):=(by omega);simp only[aJ,cF,ne_eq,not_true_eq_false];by_cases he:a.bZ=b.bZ;rw[he,K9];grind;grind
         grind
       . rw[au (show ¬((a.ae=3:J)=true) by simp[k3]),au (show ¬((a.ae=3:J)=true) by simp[k3])];by_cases k4:a.ae=4
         rw[ah (show (a.ae=4:J) by simp[k4]),ah (show (a.ae=4:J) by simp[k4])];simp only[aW,ay,Cr,jb];grind;simp_all
 simp_all
def Mt(a b:ag J):Prop:=∃r,a=some r/\b=some r
theorem J3{b:Type}(L:Nat->ag (J ⊕ γ))(L':Nat->ag (J ⊕ b))(n:Nat)(p:Nat->J)(g:γ)(a:b)
 (h:∀i,i<n->L i=if p i then L (i+1)else some (.inl false))(he:L n=some (.inr g))
 (d:∀i,i<n->L' i=if p i then L' (i+1)else some (.inl false))(e:L' n=some (.inr a)):
 (L 0=some (.inr g)/\L' 0=some (.inr a)/\∀j,j<n->p j)\/(L 0=some (.inl false)/\L' 0=some (.inl false)/\∃j,j<n/\p j=false):=by
 rcases scan L n p (.inl false) (.inr g) h he with⟨a1,a2⟩|⟨a1,j,a2,a3⟩<;>rcases scan L' n p (.inl false) (.inr a) d e with⟨b1,b2⟩|⟨b1,k,b2,c⟩;exact .inl ⟨a1,b1,a2⟩;have:=a2 k b2;rw[c]at this;cases this;have:=b2 j a2;rw[a3]at this;cases this;exact .inr ⟨a1,b1,j,a2,a3⟩
def ly(k:Int):Prop:=1<=k/\k<=9
theorem acN(a:ly v.ae):∃p,D0 v=some p/\ux v=some p/\(p=true->v.ae≠5->v.ae≠6->v.aX=[]):=by
 obtain⟨K,B,bC,S,ai,c,b,R⟩:=v;simp only at a;rw[D0,ab.bI,ux];have:K=1\/K=2\/K=3\/K=4\/K=5\/K=6\/K=7\/K=8\/K=9:=by unfold ly at a;omega
 have d:∀(x:Int),(x=x:J)=true:=λx=>by simp
 rcases this with rfl|rfl|rfl|rfl|rfl|rfl|rfl|rfl|rfl
 all_goals
  refine⟨_,rfl,?_,?_⟩
  . simp[E7,e7]
    try (cases B<;>simp)
  simp[E7,e7]
section
variable {ts:I aj}(aI:ts.length<9223372036854775807)(dw:∀t,t∈ts->e5 t)(bW:∀t,t∈ts->ly t.ae)
def Fit(ts:I aj)(x:ab):Prop:=∀t plain,Mt (ko ((⟨ts⟩:aT),t,x,plain)) (jc ((⟨ts⟩:aT),t,x,plain))
theorem NM{l:I ab}(ak:l.length<=reachBytes)(ih:∀x,x∈l->Fit ts x)(t:Int)(plain:J):
 Mt (rF ((⟨ts⟩:aT),t,l,plain)) (oe ((⟨ts⟩:aT),t,l,plain)):=by
 have g:=eI ak;let p:Nat->J:=λi=>(ko ((⟨ts⟩:aT),t,l.getD i aM,plain)).getD false;have ar:∀i,i<l.length->ko ((⟨ts⟩:aT),t,l.getD i aM,plain)=some (p i)/\jc ((⟨ts⟩:aT),t,l.getD i aM,plain)=some (p i):=by
  intro i a;obtain⟨r,h1,f⟩:=ih _ (bA a aM) t plain;grind
 have b:=ud (λi=>q1 (l,(l.length:Int),(i:Int),ts,t,plain)) l.length (λi=>!(p i)) (λi=>.inl ((i:Int),ts,t,plain)) (.inr (ts,t,plain))
  (λi a=>by
   rw[q1,cJ,ah (aY a),I'];simp only[ab.bI,bQ];rw[(ar i a).1,bN]
   rfl)
  (by rw[q1,cq])
 have hs:=scan (λi=>ny (t,l,plain,(i:Int),ts)) l.length p (.inl false) (.inr ())
  (λi a=>by
   rw[ny,cJ,ah (aY a)];simp only[ab.bI,bQ];rw[(ar i a).2,bN]
   grind)
  (by rw[ny,cq])
 have aJ:q1 (l,(l.length:Int),((0:Nat):Int),ts,t,plain)=q1 (l,(l.length:Int),0,ts,t,plain):=rfl;have d:ny (t,l,plain,((0:Nat):Int),ts)=ny (t,l,plain,0,ts):=rfl;simp only[aJ]at b;simp only[d]at hs;rw[rF,DL,HJ,oe];rcases b with⟨j,a1,a2,a3,a4⟩|⟨a1,a4⟩<;>rcases hs with⟨b1,b2⟩|⟨b1,k,b2,c⟩;have:=b2 j a1;simp[this]at a2;rw[a4,b1];refine⟨false,?_,rfl⟩;have e:((0:Int)<=(j:Int):J):=(by simp);simp only[aW,ay,e,dc];rw[a4,b1];exact⟨true,rfl,rfl⟩;have:=a1 k b2;simp[c]at this
def Ht(t:aj)(l:I ch)(i:Nat):J:=
 !((gO (t,(l.getD i cj).ai)).getD (0,false)).2&&((1<=(l.getD i cj).ai:J)&&((l.getD i cj).ai<=1000:J))&&((i=0:J)||((l.getD (i-1) cj).ai<(l.getD i cj).ai:J))
theorem af1(gS f b:J)(a:Int)(e C:Int->J)(g i:ag γ)(j:b=true->e a):
 ((if !gS then some f else some false)>>=λk=>some (bif gS then true else(!k))>>=λt131=>some b>>=λt134=>some a>>=λt141=>
  if(e t141||(!((!t131)&&t134))) then if(bif t131 then true else bif t134 then C t141 else false) then g else i else none)=if !gS&&f&&(!b || !(C a)) then i else g:=by
 simp only[aW,ay];generalize C a=c;cases b with
 |true=>rw[j rfl];cases gS<;>cases f<;>cases c<;>rfl
 |false=>generalize e a=d;cases gS<;>cases f<;>cases d<;>cases c<;>rfl
theorem LZ(b g e:J)(a:Int)(f C:Int->J)(i j:ag γ)(k:g=true)(l:e=true->f a):
 (some b>>=λm=>some (!m)>>=λt31=>some e>>=λt34=>
  if(g||(!((!t31)&&t34))) then some a>>=λt43=>if(f t43||(!((!t31)&&t34))) then if(bif t31 then true else bif t34 then C t43 else false) then i else j else none else none)=if(b&&(!e || !(C a))) then j else i:=by
 subst k;simp only[aW,ay];generalize C a=c;cases e with
 |true=>rw[l rfl];cases b<;>cases c<;>rfl
 |false=>generalize f a=d;cases b<;>cases d<;>cases c<;>rfl
theorem rI{i:Nat}(h:0<i)(a:i<9223372036854775807):dD .i64 (i:Int) 1=((i-1:Nat):Int):=by
 rw[mW];omega
theorem akg(ht:t.af.length<9223372036854775807)(v:ab)(ak:v.aX.length<=reachBytes)(plain:J)(ts:I aj):
 let inr:=(plain,ts,v.ae,v.ct,v.bE,v.bZ,v.ai,v.a7,v.aw,v.aX,t.ae,t.aP,t.br,t.bB,t.Max,t.bc,t.af,t.aR,t.aF,t.bt)
 ((lF (plain,v.aX,(v.aX.length:Int),0,ts,v,t.ae,t.aP,t.br,t.bB,t.Max,t.bc,t.af,t.aR,t.aF,t.bt)=some (.inr inr)/\uz (t,v.aX)=some true)\/
  (lF (plain,v.aX,(v.aX.length:Int),0,ts,v,t.ae,t.aP,t.br,t.bB,t.Max,t.bc,t.af,t.aR,t.aF,t.bt)=some (.inl false)/\uz (t,v.aX)=some false)):=by
 intro inr;have g:=eI ak;have d:∀i,i<v.aX.length->∀r,gO (t,(v.aX.getD i cj).ai)=some r->Ht t v.aX i=(!r.2&&(bif (1<=(v.aX.getD i cj).ai:J)then ((v.aX.getD i cj).ai<=1000:J)else false)&&(!((0:Int)<(i:Int):J) || !((v.aX.getD i cj).ai<=(v.aX.getD (dD .i64 (i:Int) 1).toNat cj).ai:J))):=by
  intro i a r f;unfold Ht;rw[f,uV];generalize (v.aX.getD i cj).ai=x;by_cases h0:i=0;grind
  . have c:((0:Int)<(i:Int):J):=by simp;omega
    rw[c,rI (by omega) (by omega),bQ];grind
 have h:=J3 (λi=>lF (plain,v.aX,(v.aX.length:Int),(i:Int),ts,v,t.ae,t.aP,t.br,t.bB,t.Max,t.bc,t.af,t.aR,t.aF,t.bt)) (λi=>l6 (v.aX,(i:Int),t)) v.aX.length (Ht t v.aX) inr ()
  (λi a=>by
   obtain⟨r,h1,_,_⟩:=ni (t:=t) (v.aX.getD i cj).ai ht;rw[lF,cJ,ah (aY a),d i a r h1];simp only[bQ,ET,ab.bI,A4,aW,ay];rw[h1,bN]
   exact af1 r.2 (bif (1<=(v.aX.getD i cj).ai:J)then ((v.aX.getD i cj).ai<=1000:J)else false) ((0:Int)<(i:Int):J) (dD .i64 (i:Int) 1) (λj=>aE j v.aX.length) (λj=>((v.aX.getD i cj).ai<=(v.aX.getD j.toNat cj).ai:J)) _ _ (λc=>by
    have:0<i:=by simp at c;omega
    show aE _ _=true
    rw[rI this (by omega)];exact fU))
  (by rw[lF,cq])
  (λi a=>by
   obtain⟨r,h1,b,_⟩:=ni (t:=t) (v.aX.getD i cj).ai ht;rw[l6,cJ,ah (aY a),d i a r h1];simp only[bQ];rw[b,bN];have hid:jt ((v.aX.getD i cj).ai,r.2)=some ((!r.2)&&(bif (1<=(v.aX.getD i cj).ai:J)then ((v.aX.getD i cj).ai<=1000:J)else false)):=by
    rw[jt];grind
   show(if aE (i:Int) v.aX.length then jt ((v.aX.getD i cj).ai,r.2)>>=_ else none)=_;rw[ah (aY a),hid]
   exact LZ ((!r.2)&&(bif (1<=(v.aX.getD i cj).ai:J)then ((v.aX.getD i cj).ai<=1000:J)else false)) (aE (i:Int) v.aX.length) ((0:Int)<(i:Int):J) (dD .i64 (i:Int) 1) (λj=>aE j v.aX.length) (λj=>((v.aX.getD i cj).ai<=(v.aX.getD j.toNat cj).ai:J)) _ _ (aY a) (λc=>by
    have:0<i:=by simp at c;omega
    show aE _ _=true
    rw[rI this (by omega)];exact fU))
  (by rw[l6,cq])
 have aJ:lF (plain,v.aX,(v.aX.length:Int),((0:Nat):Int),ts,v,t.ae,t.aP,t.br,t.bB,t.Max,t.bc,t.af,t.aR,t.aF,t.bt)=lF (plain,v.aX,(v.aX.length:Int),0,ts,v,t.ae,t.aP,t.br,t.bB,t.Max,t.bc,t.af,t.aR,t.aF,t.bt):=rfl;have e:l6 (v.aX,((0:Nat):Int),t)=l6 (v.aX,0,t):=rfl;simp only[aJ,e]at h;rw[uz];rcases h with⟨h1,b,_⟩|⟨h1,b,_⟩;exact .inl ⟨h1,by rw[b];rfl⟩;exact .inr ⟨h1,by rw[b];rfl⟩
end
theorem adG(ak:v.aw.length=t.af.length)(c:t.af.length<9223372036854775807)(ih:∀x,x∈v.aw->Fit ts x)(plain:J):
 (pN (plain,t.af,(t.af.length:Int),0,ts,v.ae,v.ct,v.bE,v.bZ,v.ai,v.a7,v.aw,v.aX)=some (.inr ())/\lC (plain,0,ts,v,t.ae,t.aP,t.br,t.bB,t.Max,t.bc,t.af,t.aR,t.aF,t.bt)=some (.inr ()))\/
 (pN (plain,t.af,(t.af.length:Int),0,ts,v.ae,v.ct,v.bE,v.bZ,v.ai,v.a7,v.aw,v.aX)=some (.inl false)/\lC (plain,0,ts,v,t.ae,t.aP,t.br,t.bB,t.Max,t.bc,t.af,t.aR,t.aF,t.bt)=some (.inl false)):=by
 let p:Nat->J:=λi=>(ko (⟨ts⟩,(t.af.getD i aH).aC,v.aw.getD i aM,plain)).getD false;have ar:∀i,i<t.af.length->ko (⟨ts⟩,(t.af.getD i aH).aC,v.aw.getD i aM,plain)=some (p i)/\jc (⟨ts⟩,(t.af.getD i aH).aC,v.aw.getD i aM,plain)=some (p i):=by
  intro i a;obtain⟨r,h1,b⟩:=ih _ (bA (by omega:i<v.aw.length) aM) (t.af.getD i aH).aC plain;grind
 have h:=J3 (λi=>pN (plain,t.af,t.af.length,i,ts,v.ae,v.ct,v.bE,v.bZ,v.ai,v.a7,v.aw,v.aX)) (λi=>lC (plain,i,ts,v,t.ae,t.aP,t.br,t.bB,t.Max,t.bc,t.af,t.aR,t.aF,t.bt)) _ p () ()
  (λi a=>by
   rw[pN,ah (aY a),ah (fU)]
   grind[bQ,ab.bI,mS])
  (by simp_all[pN])
  (λi a=>by
   rw[lC,ah (aY a),ah (fU)]
   grind[bQ,ab.bI,mS])
  (by simp_all[lC,au])
 grind
theorem FB(h:cp v):ej v.bE:=by cases h with|mk _ _ _ _ _ _ _ _ b a=>exact a
theorem aeK{ts:I aj}{t:aj}(j:v.a7.length<9223372036854775807)(d:∀x,x∈v.a7->cp x)(plain:J):
 let inr:=(plain,ts,v,t.ae,t.aP,t.br,t.bB,t.Max,t.bc,t.af,t.aR,t.aF,t.bt)
 (mf (plain,1,ts,v,t.ae,t.aP,t.br,t.bB,t.Max,t.bc,t.af,t.aR,t.aF,t.bt)=some (.inr inr)/\jP (1,v)=some (.inr ()))\/
 (mf (plain,1,ts,v,t.ae,t.aP,t.br,t.bB,t.Max,t.bc,t.af,t.aR,t.aF,t.bt)=some (.inl false)/\jP (1,v)=some (.inl false)):=by
 intro inr;by_cases h0:v.a7.length=0
 . left;refine⟨?_,?_⟩
   rw[mf,au (by grind),ab.bI];simp_all[jP,au]
 let c:=λi=>(oh (v.a7.getD i aM,v.a7.getD (i+1) aM)).getD 0;have g:∀i,i+1<v.a7.length->oh (v.a7.getD i aM,v.a7.getD (i+1) aM)=some (c i)/\pF (v.a7.getD i aM,v.a7.getD (i+1) aM)=some (c i):=by
  intro i a;obtain⟨r,h1,f⟩:=D2 (FB (d _ (bA (by omega:i<v.a7.length) aM))) (FB (d _ (bA a aM)));grind
 have h:=J3 (λi=>mf (plain,((i+1:Nat):Int),ts,v,t.ae,t.aP,t.br,t.bB,t.Max,t.bc,t.af,t.aR,t.aF,t.bt)) (λi=>jP ((i+1:Nat),v)) (v.a7.length-1) (λi=>!(0<=c i:J)) inr ()
  (λi a=>by
   have hs:=rI (i:=i+1) (by simp) (by omega);have b:dD .i64 ((i+1:Nat):Int) 1=(i:Int):=(by grind);rw[mf];simp only[aW,ay];rw[b,ah (fU),ah (fU)];simp only[bQ,ab.bI]
   grind[mS])
  (by
   have e:v.a7.length-1+1=v.a7.length:=by omega
   rw[e,mf,cq,ab.bI])
  (λi a=>by
   have hs:=rI (i:=i+1) (by simp) (by omega);have b:dD .i64 ((i+1:Nat):Int) 1=(i:Int):=(by grind);rw[jP];simp only[aW,ay];rw[b,ah (fU),ah (fU)];simp only[bQ,ab.bI]
   grind[mS])
  (by
   have e:v.a7.length-1+1=v.a7.length:=by omega
   simp_all[jP,au])
 grind
theorem MS{c:Type}{a:I α}{b:I c}(h:((a.length:Int)=(b.length:Int):J)):a.length=b.length:=by grind
theorem Vf{r:Int×J}(d:o=some r)(a plain f:J):
 (o>>=λb=>some (bif a then(!plain)else false)>>=λt85=>(if((!b.2)&&t85) then some f else some false)>>=λc=>some (bif b.2 then true else bif t85 then c else false))=some (r.2||(a && !plain&&f)):=by
 grind
theorem GL{r:Int×J}(d:o=some r)(b plain f:J)(F:J->ag J)(bK:F false=some f):
 (o>>=λa=>some (bif b then(!plain)else false)>>=λt85=>(if((!a.2)&&t85) then F a.2 else some false)>>=λc=>some (bif a.2 then true else bif t85 then c else false))=some (r.2||(b && !plain&&f)):=by
 grind
theorem k7{o:ag J}{r:J}(b:o=some r)(q:J):(some q>>=λt244=>(if t244 then o else some false)>>=λa=>some (bif t244 then a else false))=some (q&&r):=by grind
theorem GM(c a b f:J){d:ag J}(g:c=true->d=some f)(h1:c=true->a=true/\b=true):(some c>>=λt188=>if(a||(!t188))then if(b||(!t188))then(if t188 then d else some false)>>=λe=>some (bif t188 then e else false)else none else none)=some (c&&f):=by grind
theorem ajK(A b q m:J){a:ag J}(e:a=some q)(d:A=true->L=some (if m then .inr ()else .inl false)):
 (if(bif (bif false then true else(!true))then true else b) then some false else some (!A)>>=λt107=>(if !t107 then a else some false)>>=λc=>if(bif t107 then true else(!c)) then some false else L>>=λo=>match o with|.inl x=>some x|.inr _=>some true)=some (A && !b&&q&&m):=by
 grind
theorem GN(g f b a bC E:J)(h1:a=true->bC=true):(some g>>=λt209=>(if t209 then some f else some false)>>=λc=>some (bif bif bif t209 then c else false then b else false then a else false)>>=λt226=>if(bC||(!t226))then some (bif t226 then E else false)else none)=some (g&&f&&b&&a&&E):=by grind
theorem Vg(c:J){ok a:ag J}{k i:J}(e:ok=some k)(d:a=some i){q:J}(b:L=some (if q then .inr ()else .inl false)):
 (some c>>=λt239=>(if !t239 then ok else some false)>>=λj=>some (bif t239 then true else(!j))>>=λt249=>(if !t249 then a else some false)>>=λl=>if(bif t249 then true else(!l)) then some false else L>>=λf=>match f with|.inl g=>some g|.inr _=>some true)=some (!c&&k&&q&&i):=by
 subst e;subst d;subst b;cases c<;>cases k<;>cases q<;>cases i<;>rfl
theorem aeL(aI:ts.length<9223372036854775807)(dw:∀t,t∈ts->e5 t)(bW:∀t,t∈ts->ly t.ae)(ay:cp v):Fit ts v:=by
 induction ay with
 |mk v hs h1 T U an aO aQ aU aV aW aX az Q=>
  intro t plain;rw[ko,jc];by_cases F:(bif (t<0:J)then true else (((⟨ts⟩:aT).bh.length:Int)<=t:J))=true;rw[ah F,ah F];exact⟨false,rfl,rfl⟩
  . rw[au F,au F];have aP:0<=t/\t<ts.length:=(by grind);obtain⟨j,rfl⟩:∃j:Nat,t=(j:Int):=⟨t.toNat,by omega⟩
    have C:j<ts.length:=(by omega);rw[ah (aY C),ah (aY C)];simp only[bQ,ab.bI];have P:=dw _ (bA C aN);have G:=bW _ (bA C aN);generalize ts.getD j aN=x at P G⊢;have D:=eI (iw P.hq);have Y:=eI (iw P.syms);by_cases y:v.ae=x.ae
    . obtain⟨p,aA,aB,aD⟩:=acN (v:=v) (by rw[y];exact G);rw[aA,aB];cases p with
      |false=>exact⟨false,by simp[y],by simp[y]⟩
      |true=>
       have O:=NM (ts:=ts) T Q;have ao:=NM (ts:=ts) h1 az;obtain⟨K,N,L,H,M,S,d,l,E,e⟩:=x;obtain⟨u,B,bC,n,ai,g,c,R⟩:=v;simp only at y;subst y;have w:=aD rfl;simp only at w G D Y h1 T U;have am:u=1\/u=2\/u=3\/u=4\/u=5\/u=6\/u=7\/u=8\/u=9:=by unfold ly at G;omega
       rcases am with rfl|rfl|rfl|rfl|rfl|rfl|rfl|rfl|rfl;obtain rfl:R=[]:=w (by decide) (by decide);cases plain<;>exact⟨true,rfl,rfl⟩;obtain rfl:R=[]:=w (by decide) (by decide);cases plain<;>exact⟨_,rfl,rfl⟩;obtain rfl:R=[]:=w (by decide) (by decide);cases plain<;>exact⟨_,rfl,rfl⟩
       . obtain rfl:R=[]:=w (by decide) (by decide);obtain⟨r,o,s,_⟩:=rz (t:=⟨4,N,L,H,M,S,d,l,E,e⟩) ai Y;have A:jt (ai,false)=some (bif (1<=ai:J)then (ai<=1000:J)else false):=(by rfl);cases plain
         exact⟨_,Vf o e false _,GL s e false _ (λb=>jt (ai,b)) A⟩;exact⟨_,Vf o e true _,GL s e true _ (λb=>jt (ai,b)) A⟩
       ·
        have aR:=akg (t:=⟨5,N,L,H,M,S,d,l,E,e⟩) D ⟨5,B,bC,n,ai,g,c,R⟩ U plain ts;have aw:((c.length:Int)=(d.length:Int):J)->_:=λz=>adG (ts:=ts) (t:=⟨5,N,L,H,M,S,d,l,E,e⟩) (v:=⟨5,B,bC,n,ai,g,c,R⟩) (MS z) D Q plain;have ax:∃q:J,lF (plain,R,(R.length:Int),0,ts,⟨5,B,bC,n,ai,g,c,R⟩,5,N,L,H,M,S,d,l,E,e)=some (if q then .inr (plain,ts,5,B,bC,n,ai,g,c,R,5,N,L,H,M,S,d,l,E,e)else .inl false)/\uz (⟨5,N,L,H,M,S,d,l,E,e⟩,R)=some q:=(by grind);obtain⟨q,aZ,aF⟩:=ax;have ar:∃m:J,((c.length:Int)=(d.length:Int):J)->(pN (plain,d,(d.length:Int),0,ts,5,B,bC,n,ai,g,c,R)=some (if m then .inr ()else .inl false)/\lC (plain,0,ts,⟨5,B,bC,n,ai,g,c,R⟩,5,N,L,H,M,S,d,l,E,e)=some (if m then .inr ()else .inl false)):=by
         cases z:((c.length:Int)=(d.length:Int):J)with
         |false=>exact⟨true,λh=>by cases h⟩
         |true=>
          rcases aw z with⟨a,b⟩|⟨a,b⟩;simp_all;simp_all
        obtain⟨m,aq⟩:=ar;refine⟨((c.length:Int)=(d.length:Int):J) && !(bif plain then (0<(R.length:Int):J)else false)&&q&&m,?_,?_⟩;show(if(bif (!((c.length:Int)=(d.length:Int):J))then true else bif plain then (0<(R.length:Int):J)else false) then some false else lF (plain,R,(R.length:Int),0,ts,⟨5,B,bC,n,ai,g,c,R⟩,5,N,L,H,M,S,d,l,E,e)>>=_)=_;grind;exact ajK ((c.length:Int)=(d.length:Int):J) (bif plain then (0<(R.length:Int):J)else false) q m aF (λz=>(aq z).2)
       ·
        obtain⟨r,o,s,A⟩:=ni (t:=⟨6,N,L,H,M,S,d,l,E,e⟩) ai D;have hid:∀b,b=false->jt (ai,b)=some (bif (1<=ai:J)then (ai<=1000:J)else false):=by
         intro b al;subst al;rfl
        have ak:∃f:J,(bif ((c.length:Int)=1:J)then ((R.length:Int)=0:J)else false)=true->(ko ((⟨ts⟩:aT),(d.getD r.1.toNat aH).aC,c.getD (0:Int).toNat aM,plain)=some f/\jc ((⟨ts⟩:aT),(d.getD r.1.toNat aH).aC,c.getD (0:Int).toNat aM,plain)=some f):=by
         by_cases af:c.length=1;obtain⟨f,f1,f2⟩:=Q (c.getD 0 aM) (bA (by omega:0<c.length) aM) (d.getD r.1.toNat aH).aC plain;grind;grind
        obtain⟨f,W⟩:=ak;have X:r.2->(bif ((c.length:Int)=1:J)then ((R.length:Int)=0:J)else false)=true->aE r.1 d.length/\aE 0 c.length:=by
         intro ag aL;constructor
         . rcases A with⟨k,k1,_,_,rfl⟩|⟨_,rfl⟩
           exact aY k1;cases ag
         . by_cases af:c.length=1
           exact aY (k:=0) (by omega);grind
        have V:((R.length:Int)=1:J)->aE 0 R.length:=by
         intro h;have:=gU h;exact aY (k:=0) (by omega)
        obtain⟨ad,sC⟩:=r;refine⟨if sC then(bif ((c.length:Int)=1:J)then ((R.length:Int)=0:J)else false)&&f else(bif e then(!plain)else false)&&(bif (1<=ai:J)then (ai<=1000:J)else false)&&((c.length:Int)=0:J)&&((R.length:Int)=1:J)&&((R.getD (0:Int).toNat cj).ai=ai:J),?_,?_⟩
        . show(gO (⟨6,N,L,H,M,S,d,l,E,e⟩,ai)>>=_)=_;rw[o];cases sC with
          |true=>exact GM _ (aE ad d.length) (aE 0 c.length) f (λh=>(W h).1) (X rfl)
          |false=>exact GN (bif e then(!plain)else false) (bif (1<=ai:J)then (ai<=1000:J)else false) ((c.length:Int)=0:J) ((R.length:Int)=1:J) (aE 0 R.length) ((R.getD (0:Int).toNat cj).ai=ai:J) V
        . show(if(bif (bif false then true else(!true))then true else(bif plain then (0<(R.length:Int):J)else false)) then some false else gD (⟨6,N,L,H,M,S,d,l,E,e⟩,ai)>>=_)=_;rw[s];cases aK:(bif plain then (0<(R.length:Int):J)else false)with
          |true=>
           have av:plain=true:=(by grind);subst av;have aJ:((R.length:Int)=0:J)=false:=(by grind);grind
          |false=>
           cases sC with
           |true=>exact GM _ (aE ad d.length) (aE 0 c.length) f (λh=>(W h).2) (X rfl)
           |false=>exact GN (bif e then(!plain)else false) (bif (1<=ai:J)then (ai<=1000:J)else false) ((c.length:Int)=0:J) ((R.length:Int)=1:J) (aE 0 R.length) ((R.getD (0:Int).toNat cj).ai=ai:J) V
       . obtain rfl:R=[]:=w (by decide) (by decide);obtain⟨r,o,s⟩:=O E plain;cases plain
         exact⟨_,k7 o _,k7 s _⟩;exact⟨_,k7 o _,k7 s _⟩
       . obtain rfl:R=[]:=w (by decide) (by decide);obtain⟨k,k1,k2⟩:=ao l plain;obtain⟨i,aS,Z⟩:=O E plain;have ap:=aeK (ts:=ts) (t:=⟨8,N,L,H,M,S,d,l,E,e⟩) (v:=⟨8,B,bC,n,ai,g,c,[]⟩) (eI h1) an plain;obtain⟨q,a0,aa⟩:∃q:J,mf (plain,1,ts,⟨8,B,bC,n,ai,g,c,[]⟩,8,N,L,H,M,S,d,l,E,e)=some (if q then .inr (plain,ts,⟨8,B,bC,n,ai,g,c,[]⟩,8,N,L,H,M,S,d,l,E,e)else .inl false)/\jP (1,⟨8,B,bC,n,ai,g,c,[]⟩)=some (if q then .inr ()else .inl false):=by
          rcases ap with⟨a,b⟩|⟨a,b⟩;simp_all;simp_all
         refine⟨!(bif (M<(g.length:Int):J)then true else(!((c.length:Int)=(g.length:Int):J)))&&k&&q&&i,?_,?_⟩;show(some (bif (M<(g.length:Int):J)then true else(!((c.length:Int)=(g.length:Int):J)))>>=λt270=>(if !t270 then rF ((⟨ts⟩:aT),l,g,plain)else some false)>>=λaG=>if(bif t270 then true else(!aG)) then some false else mf (plain,1,ts,⟨8,B,bC,n,ai,g,c,[]⟩,8,N,L,H,M,S,d,l,E,e)>>=_)=_;grind
         . cases plain
           exact Vg (bif (M<(g.length:Int):J)then true else(!((c.length:Int)=(g.length:Int):J))) k2 Z aa;exact Vg (bif (M<(g.length:Int):J)then true else(!((c.length:Int)=(g.length:Int):J))) k2 Z aa
       . obtain rfl:R=[]:=w (by decide) (by decide);obtain⟨r,o,s⟩:=O E plain;cases plain
         exact⟨_,k7 o _,k7 s _⟩;exact⟨_,k7 o _,k7 s _⟩
    exact⟨false,by simp[y],by simp[y]⟩
theorem uk{t:aL}{l:I (t.den U.D)}(h:WF U ⟨.slice t,l⟩):l.length<=reachBytes/\l.length*t.bytes U<=reachBytes/\∀x,x∈l->∀c,c∈t.row U x->WF U c:=by cases h with|slice t l h1 a b=>exact⟨h1,a,b⟩
theorem SN{s:aq}(h:WF U ⟨.str,s⟩):s.length<=reachBytes:=by cases h with|str s h=>exact h
theorem xM{n:Int}(h:WF U ⟨.int .i64,n⟩):ej n:=by
 cases h with
 |int k n h=>
  simp[Lit.wf,IntKind.min,IntKind.max,IntKind.bits,IntKind.signed]at h;exact⟨by omega,by omega⟩
theorem OS{l:I ab}{x:ab}(h:x∈l):SizeOf.sizeOf x<SizeOf.sizeOf l:=List.sizeOf_lt_of_mem h
theorem ag2:∀(n:Nat) (v:ab),SizeOf.sizeOf v<n->(∀c,c∈bM.jZ mj v->WF bM c)->cp v:=by
 intro n;induction n with
 |zero=>intro v h;omega
 |succ n ih=>
  intro v q a;have d:=a ⟨.int .i64,v.ae⟩ (.head _);have e:=a ⟨.int .i64,v.bE⟩ (.tail _ (.tail _ (.head _)));have f:=a ⟨.str,v.bZ⟩ (.tail _ (.tail _ (.tail _ (.head _))));have g:=a ⟨.int .i64,v.ai⟩ (.tail _ (.tail _ (.tail _ (.tail _ (.head _)))));have i:=a ⟨.slice (.nm mj),v.a7⟩ (.tail _ (.tail _ (.tail _ (.tail _ (.tail _ (.head _))))));have j:=a ⟨.slice (.nm mj),v.aw⟩ (.tail _ (.tail _ (.tail _ (.tail _ (.tail _ (.tail _ (.head _)))))));have k:=a ⟨.slice (.nm Fo),v.aX⟩ (.tail _ (.tail _ (.tail _ (.tail _ (.tail _ (.tail _ (.tail _ (.head _))))))));obtain⟨k1,_,k3⟩:=uk (t:= .nm mj) i;obtain⟨l,_,m⟩:=uk (t:= .nm mj) j;obtain⟨o,_,b⟩:=uk (t:= .nm Fo) k;have p:SizeOf.sizeOf v.a7<SizeOf.sizeOf v/\SizeOf.sizeOf v.aw<SizeOf.sizeOf v:=by cases v;simp;omega
  refine .mk v (SN f) k1 l o (λx aa=>ih x (by have:=OS aa;omega) (k3 x aa)) (λx aa=>ih x (by have:=OS aa;omega) (m x aa)) (λx aa=>?_) (xM d) (xM e) (xM g) (λx aa=>?_);exact SN (b x aa ⟨.str,x.bT⟩ (.tail _ (.head _)));exact xM (b x aa ⟨.int .i64,x.ai⟩ (.head _))
theorem agT(h:∀c,c∈bM.jZ mj v->WF bM c):cp v:=ag2 _ v (Nat.lt_succ_self _) h
theorem agU(h:∀c,c∈bM.jZ uv t->WF bM c):e5 t:=by
 have a:=h ⟨.slice (.nm IE),t.bc⟩ (.tail _ (.tail _ (.tail _ (.tail _ (.tail _ (.head _))))));have b:=h ⟨.slice (.nm J0),t.af⟩ (.tail _ (.tail _ (.tail _ (.tail _ (.tail _ (.tail _ (.head _)))))));obtain⟨s1,i,n⟩:=uk (t:= .nm IE) a;obtain⟨k,f,g⟩:=uk (t:= .nm J0) b;have j:t.bc.length*24<=reachBytes:=i;have l:t.af.length*152<=reachBytes:=f;refine⟨j,by omega,λm e=>agT λc d=>g m e c ?_⟩;exact .tail _ (.tail _ (.tail _ (.tail _ (.tail _ d))))
theorem aj9{l:I aj}(h:WF bM ⟨.slice (.nm uv),l⟩):l.length<=reachBytes/\∀t,t∈l->e5 t:=by
 obtain⟨h1,_,a⟩:=uk (t:= .nm uv) h;exact⟨h1,λt ht=>agU (a t ht)⟩
theorem adH(s:aT):(⟨s.bh⟩:aT)=s:=by cases s;rfl
def ei(n:Nat):aq:=if n=0 then[]else ei (n/256)++[UInt8.ofNat (n%256)]
termination_by n
decreasing_by omega
theorem OT:∀(l:I α) (k:Nat) (x:α),k<l.length->(l.set k x).drop k=x::l.drop (k+1)
 |[],k,x,h=>by simp at h
 |a::l,0,x,h=>by simp
 |a::l,k+1,x,h=>by simp[OT l k x (by simpa using h)]
theorem akq(n:Nat):mG .u64 (n:Int) 8=((n/256:Nat):Int):=by
 unfold mG;have:((2:Int)^min (8:Int).toNat IntKind.u64.bits)=256:=by decide
 grind
theorem SO:∀(i n:Nat) (b:az),n<256^i->i<=8->b.length=8->∃(c:Nat) (a:az),uH ((n:Int),(i:Int),b)=some ((c:Int),a)/\c<=8/\a.length=8/\strOf (a.drop c)=ei n++strOf (b.drop i)
 |i,n,b,aI,d,e=>by
  rw[uH];by_cases h0:n=0;subst h0;rw[cq];refine⟨i,b,rfl,d,e,?_⟩;rw[ei,ah rfl];rfl
  . rw[cJ]
    match i,aI,d with
    |0,aI,d=>simp at aI;omega
    |i+1,aI,d=>
     have hs:dD .i64 ((i+1:Nat):Int) 1=(i:Int):=by rw[mW];omega
     simp only[aW,ay];rw[hs,ah (fU),ah (by simp[e];omega),akq,x2,bQ];have aD:n/256<256^i:=(by omega);obtain⟨c,a,h1,f,g,j⟩:=SO i (n/256) (b.set i ((n%256:Nat):Int)) aD (by omega) (by simp[e]);refine⟨c,a,h1,f,g,?_⟩;rw[j,OT _ _ _ (by omega),adB]
     conv=>rhs;rw[ei,au h0]
     grind
theorem Ft{n:Nat}(aI:n<18446744073709551616):A5 (n:Int)=some (ei n):=by
 have e:(256:Nat)^8=18446744073709551616:=by decide
 obtain⟨c,d,h1,k,a,g⟩:=SO 8 n [0,0,0,0,0,0,0,0] (by rw[e];exact aI) (by omega) rfl;have f:uH ((n:Int),8,[0,0,0,0,0,0,0,0])=some ((c:Int),d):=h1;rw[A5,f];simp only[aW,ay,bQ];have j:fy (c:Int) 8 8:=oz (b:=8) (by omega) (by omega);have i:(8:Int).toNat=8:=rfl;rw[ah j,i,ah (by simp[xY,a];omega)];rw[sq (by simp[a]),g];simp[strOf]
theorem wS:∀(f n:Nat),n<256^f->(ei n).length<=f
 |0,n,h=>by
  have:n=0:=by simpa using h
  subst this;rw[ei,ah rfl];simp
 |f+1,n,h=>by
  rw[ei];split;simp;have:=wS f (n/256) (by omega);simp;omega
theorem NN:∀(f n:Nat) (a:aq),n<256^f->n<18446744073709551616->a.length+f<=1000->vX ((n:Int),a)=some (ei n++a)
 |f,n,a,aI,j,c=>by
  rw[vX];by_cases h0:n=0;subst h0;rw[cq,ei,ah rfl];rfl
  . rw[cJ]
    match f,aI,c with
    |0,aI,c=>simp at aI;omega
    |f+1,aI,c=>
     have i:f' (n:Int) 256=((n%256:Nat):Int):=xR (b:=256);have g:gA .u64 (n:Int) 256=((n/256:Nat):Int):=by
      unfold gA;have e:(n:Int).tdiv 256=((n/256:Nat):Int):=by rw[G1 (by omega)];omega
      rw[e];exact ve
     have d:strOf [((n%256%256:Nat):Int)]=[UInt8.ofNat (n%256)]:=by
      have:n%256%256=n%256:=(by omega);rw[this];rfl
     simp only[aW,ay];rw[i,g,x2,d,ah (g' (by simp;omega))];have aD:n/256<256^f:=(by omega);rw[NN f (n/256) _ aD (by omega) (by simp;omega)]
     conv=>rhs;rw[ei,au h0]
     grind
theorem NO{n:Nat}(aI:n<18446744073709551616):zM (n:Int)=some (ei n):=by
 have e:(256:Nat)^8=18446744073709551616:=by decide
 rw[zM,NN 8 n [] (by rw[e];exact aI) aI (by simp)];simp
end
section
open Go Go.Proofs.YtopcfbelfjclmaaGreatDoor.Shv Go.Sort
set_option maxRecDepth 100000
variable{α:Type}{v:ab}{ms:I aU}{id:Int}{Q P:Prop}{o:ag J}{L:Nat->ag (J ⊕ Unit)}{t:aj}
section
variable {α:Type}
theorem OU{a γ:Type}{f g:a->I γ}:∀{l:I a},(∀x,x∈l->f x=g x)->l.flatMap f=l.flatMap g
 |[],_=>rfl
 |x::l,h=>by
  simp;rw[h x (.head _),OU λy al=>h y (.tail _ al)]
theorem MT(x:α)(n:Nat)(f:Nat->I α):∀(ks:ba),ks.Nodup->n∈ks->(ks.flatMap λi=>if n=i then x::f i else f i).Perm (x::ks.flatMap f)
 |[],_,h=>by grind
 |k::ks,aI,h=>by
  rw[List.nodup_cons]at aI;simp;by_cases e:n=k
  . have:(ks.flatMap λi=>if n=i then x::f i else f i)=ks.flatMap f:=OU λy al=>by grind
    simp_all
  . rw[au e];have a:=(eE.1 h).resolve_left e;refine((MT x n f ks aI.2 a).append_left _).trans ?_;simp
theorem MU(key:α->Nat)(ks:ba)(aI:ks.Nodup):∀l:I α,(∀x,x∈l->key x∈ks)->(ks.flatMap λi=>l.filter λx=>(key x=i:J)).Perm l
 |[],_=>by simp
 |x::l,h=>by
  have e:(λi=>(x::l).filter λy=>(key y=i:J))=λi=>if key x=i then x::(l.filter λy=>(key y=i:J))else l.filter λy=>(key y=i:J):=by grind
  rw[e];exact(MT x _ _ ks aI (h x (.head _))).trans ((MU _ ks aI l λy al=>h y (.tail _ al)).cons x)
theorem abu(key:α->Nat)(a n:Nat)(l:I α):((List.range' a n).flatMap λi=>l.filter λx=>(key x=i:J)).Pairwise (λx y=>(key y<key x:J)=false):=by
 rw[List.pairwise_flatMap];grind[List.pairwise_iff_forall_sublist,List.pairwise_lt_range']
theorem OV{c:Type}[Inhabited α][Inhabited c]{lt:α->α->J}{d:c->c->J}(g:α->c)(h:∀a b,d (g a) (g b)=lt a b):∀l,hp d (l.map g)=(hp lt l).map g
 |[]=>rfl
 |x::l=>by
  have key:∀r,oS d (g x) (r.map g)=(oS lt x r).map g:=by
   intro r;induction r with
   |nil=>rfl
   |cons y r ih=>
    grind[oS]
  simp[hp];rw[OV g h l,key]
theorem NP[Inhabited α]{lt:α->α->J}:∀{l:I α},l.Pairwise (λx y=>lt x y=true\/lt y x)->kq lt l=true
 |[],_=>rfl
 |x::l,h=>by
  rw[kz]at h;simp[kq];exact⟨h.1,NP h.2⟩
end
mutual
def wt:ab->Nat
 |⟨_,_,_,s,_,ks,a,r⟩=>10+s.length+(r.map λx=>x.bT.length+1).sum+eC ks+eC a
def eC:I ab->Nat
 |[]=>0
 |v::l=>wt v+eC l
end
structure Fd where
 id:Nat
 c:Bool
 p:aq
instance:Inhabited Fd:=⟨⟨0,false,[]⟩⟩
def fe(a b:Fd):J:=(a.id<b.id:J)
def Fd.text(f:Fd):aq:=gv f.id f.c f.p
def gI:I aq->I aq->aq
 |k::ks,v::vs=>c' k++(c' v++gI ks vs)
 |_,_=>[]
def cw(l:I aU)(id:Int):ag aU:=l.find? λm=>(m.ai=id:J)
open Classical in
noncomputable def di (m:aU)(v:ab):J:=m.bH&&(m.bm=v:J)
def iE(r:ch):Fd:=⟨r.ai.toNat,false,r.bT⟩
mutual
noncomputable def bG (ts:I aj)(t:Int):ab->aq
 |⟨_,b,i,s,id,ks,a,r⟩=>
  let x:=ts.getD t.toNat aN
  if x.ae=1 then(if b then[1]else[])
  else if x.ae=2 then ei (fP i).toNat
  else if x.ae=3 then s
  else if x.ae=4 then ei id.toNat
  else if x.ae=5 then(hp fe (ey ts x.af a++r.map iE)).flatMap Fd.text
  else if x.ae=6 then eU id.toNat++(match cw x.af id with
   |some m=>(cK ts m.aC a).headD []
   |none=>(r.map ch.bT).headD [])
  else if x.ae=7 then(cK ts x.aF a).flatMap c'
  else if x.ae=8 then gI (cK ts x.aR ks) (cK ts x.aF a)
  else match cK ts x.aF a with
   |[]=>[]
   |p::_=>1::p
noncomputable def cK (ts:I aj)(t:Int):I ab->I aq
 |[]=>[]
 |v::l=>bG ts t v::cK ts t l
noncomputable def ey (ts:I aj):I aU->I ab->I Fd
 |m::ms,v::l=>if di m v then ey ts ms l else⟨m.ai.toNat,m.b4,bG ts m.aC v⟩::ey ts ms l
 |_,_=>[]
end
mutual
noncomputable def e4 (ts:I aj)(t:Int):ab->Nat
 |⟨_,_,_,_,id,ks,a,_⟩=>
  let x:=ts.getD t.toNat aN
  1+max (if ks=[]then 0 else 1) (if x.ae=5 then iV ts x.af a
   else if x.ae=6 then(match cw x.af id with
    |some m=>gn ts m.aC a
    |none=>0)
   else gn ts x.aF a)
noncomputable def gn (ts:I aj)(t:Int):I ab->Nat
 |[]=>0
 |v::l=>max (e4 ts t v) (gn ts t l)
noncomputable def iV (ts:I aj):I aU->I ab->Nat
 |m::ms,v::l=>if di m v then iV ts ms l else max (e4 ts m.aC v) (iV ts ms l)
 |_,_=>0
end
def cD(n:Int):Prop:=1<=n/\n<=1000
def iO(ms:I aU)(r:I ch):Prop:=r.Pairwise (λa b=>a.ai<b.ai)/\∀x,x∈r->cD x.ai/\cw ms x.ai=none
def iF(a b:ab):Int:=(oh (a,b)).getD 0
def qc(ks:I ab):Prop:=∀i,i+1<ks.length->iF (ks.getD i aM) (ks.getD (i+1) aM)<0
mutual
def dj(ts:I aj)(pl:J)(t:Int):ab->Prop
 |⟨k,b,i,s,id,ks,a,r⟩=>
  let x:=ts.getD t.toNat aN
  (0<=t/\t<ts.length/\k=x.ae/\(pl=true->r=[]))/\
  (k=1/\i=0/\s=[]/\id=0/\ks=[]/\a=[]/\r=[]\/
  k=2/\b=false/\s=[]/\id=0/\ks=[]/\a=[]/\r=[]/\x.br<=i/\i<=x.bB\/
  k=3/\b=false/\i=0/\id=0/\ks=[]/\a=[]/\r=[]/\(s.length:Int)<=x.Max\/
  k=4/\b=false/\i=0/\s=[]/\ks=[]/\a=[]/\r=[]/\((∃y,y∈x.bc/\y.ai=id)\/x.bt/\pl=false/\cD id)\/
  k=5/\b=false/\i=0/\s=[]/\id=0/\ks=[]/\iO x.af r/\iU ts pl x.af a\/
  k=6/\b=false/\i=0/\s=[]/\ks=[]/\(match cw x.af id with
   |some m=>r=[]/\a.length=1/\fu ts pl m.aC a
   |none=>x.bt=true/\pl=false/\cD id/\a=[]/\∃d,r=[⟨id,d⟩])\/
  k=7/\b=false/\i=0/\s=[]/\id=0/\ks=[]/\r=[]/\(a.length:Int)<=x.Max/\fu ts pl x.aF a\/
  k=8/\b=false/\i=0/\s=[]/\id=0/\r=[]/\(ks.length:Int)<=x.Max/\a.length=ks.length/\fu ts pl x.aR ks/\fu ts pl x.aF a/\qc ks\/
  k=9/\b=false/\i=0/\s=[]/\id=0/\ks=[]/\r=[]/\a.length<=1/\fu ts pl x.aF a)
def fu(ts:I aj)(pl:J)(t:Int):I ab->Prop
 |[]=>True
 |v::l=>dj ts pl t v/\fu ts pl t l
def iU(ts:I aj)(pl:J):I aU->I ab->Prop
 |m::ms,v::l=>dj ts pl m.aC v/\iU ts pl ms l
 |[],[]=>True
 |_,_=>False
end
theorem hT(v:ab):wt v=10+v.bZ.length+(v.aX.map λx=>x.bT.length+1).sum+eC v.a7+eC v.aw:=by cases v;rfl
theorem ov(v:ab)(l:I ab):eC (v::l)=wt v+eC l:=by rfl
theorem rN:eC []=0:=by rfl
theorem d':∀{l:I ab} {x:ab},x∈l->wt x<=eC l
 |y::l,x,h=>by
  rw[ov];rcases eE.1 h with rfl|h;simp;have:=d' h;omega
theorem MV{p:aq}(h:p.length<1152921504606846976):(c' p).length<=p.length+10:=by
 grind[je,c']
theorem OW{f:Fd}(h:f.p.length<1152921504606846976)(a:f.id<=9223372036854775807):f.text.length<=f.p.length+20:=by
 grind[MV,je,Fd.text,gv]
theorem aax{c:Type}{f:α->I c}{a b:I α}(h:a.Perm b):(a.flatMap f).length=(b.flatMap f).length:=(h.flatMap_right f).length_eq
theorem xN{n:Int}(h:ej n):(fP n).toNat<18446744073709551616:=by
 grind[fP,ej]
section
variable {ts:I aj}
def Ci(ts:I aj)(v:ab):Prop:=∀t,(bG ts t v).length+20<=21*wt v
theorem J4:∀{l:I ab} {t:Int},eC l<=1099511627776->(∀x,x∈l->Ci ts x)->((cK ts t l).flatMap c').length<=21*eC l
 |[],t,_,_=>by grind[cK]
 |v::l,t,a,h=>by
  rw[cK];rw[ov]at a⊢;have h1:=h v (.head _) t;have b:=J4 (t:=t) (by omega) λx aa=>h x (.tail _ aa);grind[MV]
theorem nc:∀{l:I ab} {t:Int},(cK ts t l).length=l.length
 |[],t=>by rfl
 |v::l,t=>by rw[cK,lg,lg,nc]
theorem ue:∀{l:I ab} {t:Int},cK ts t l=l.map (bG ts t)
 |[],t=>by rfl
 |v::l,t=>by rw[cK,List.map,ue]
theorem Q3:∀(a b:I aq),(gI a b).length<=(a.flatMap c').length+(b.flatMap c').length
 |[],b=>by simp[gI]
 |k::ks,[]=>by simp[gI]
 |k::ks,v::vs=>by
  have:=Q3 ks vs;simp only[gI,hd,eh];omega
theorem NQ:∀{ms:I aU} {l:I ab},eC l<=1099511627776->(∀m,m∈ms->m.ai<=1000)->(∀x,x∈l->Ci ts x)->((ey ts ms l).flatMap Fd.text).length<=21*eC l
 |[],l,_,_,_=>by grind[ey]
 |m::ms,[],_,_,_=>by grind[ey]
 |m::ms,v::l,b,a,h=>by
  rw[ov]at b⊢;rw[ey];have h1:=h v (.head _) m.aC;have c:=NQ (by omega) (λx aa=>a x (.tail _ aa)) λx aa=>h x (.tail _ aa);grind[OW]
theorem OX:∀{l:I ch},(∀x,x∈l->x.bT.length<=reachBytes/\x.ai<=9223372036854775807)->True->((l.map iE).flatMap Fd.text).length<=21*(l.map λx=>x.bT.length+1).sum
 |[],_,_=>by simp
 |r::l,h,_=>by
  have h1:=h r (.head _);have b:=OX (λx aa=>h x (.tail _ aa)) trivial;unfold reachBytes at h1;have a:=OW (f:=iE r) (by show r.bT.length<_;omega) (by show r.ai.toNat<=_;omega);have c:(iE r).text.length<=r.bT.length+20:=a;grind
def SR(ts:I aj):Prop:=∀x,x∈ts->∀m,m∈x.af->m.ai<=1000
theorem acO(l:I α)(i:Nat)(d:α):l.getD i d∈l\/l.getD i d=d:=by grind
theorem NR{l:I aq}{n:Nat}(h:∀x,x∈l->x.length<=n):(l.headD []).length<=n:=by
 cases l<;>grind
theorem Q4:∀{l:ba} {n:Nat},n∈l->n<=l.sum
 |a::l,n,h=>by
  rw[xB];rcases eE.1 h with rfl|h;simp;have:=Q4 h;omega
theorem af2(d:SR ts)(h:cp v):wt v<=1099511627776->Ci ts v:=by
 induction h with
 |mk v hs h1 y z C B f G l H n j g=>
  intro D t;have E:=hT v;have c:∀x,x∈v.a7->Ci ts x:=λx aa=>j x aa (by have:=d' aa;omega);have a:=λx aa=>g x aa (by have:=d' aa;omega);have u:=λt=>J4 (t:=t) (by omega) c;have pc:=λt=>J4 (t:=t) (by omega) a;have aa:∀m,m∈(ts.getD t.toNat aN).af->m.ai<=1000:=by
   rcases acO ts t.toNat aN with h|h;exact d _ h;rw[h];intro m e;cases e
  have w:=λt=>by
   have:((cK ts t v.aw).headD []).length<=21*eC v.aw:=NR λp ar=>by
    rw[ue]at ar;obtain⟨x,aa,rfl⟩:=fY.1 ar;have:=a x aa t;have:=d' aa;omega
   omega
  have gh:=OX (λx aa=>⟨f x aa,(n x aa).2⟩) trivial;have q:=NQ (by omega) aa a;have o:((v.aX.map ch.bT).headD []).length<=(v.aX.map λx=>x.bT.length+1).sum:=NR λp ar=>by
   obtain⟨x,aa,rfl⟩:=fY.1 ar;have:x.bT.length+1<=(v.aX.map λx=>x.bT.length+1).sum:=Q4 (fY.2 ⟨x,aa,rfl⟩);omega
  obtain⟨K,b,i,s,id,ks,k,r⟩:=v;simp only at*;rw[bG];have F:=wS 8 _ (xN l);have hid:id.toNat<18446744073709551616:=by omega
  have A:=wS 8 _ hid;have ar:=je hid;generalize ts.getD t.toNat aN=x at*;split;grind
  . split
    omega
    . split
      omega
      . split
        omega
        . split
          rw[aax (lr _ _),Hc,eh];omega
          . split
            grind
            . split
              grind
              . split
                have:=Q3 (cK ts x.aR ks) (cK ts x.aF k);grind;grind
end
theorem ag3(v:ab):10<=wt v:=by grind[hT]
section
variable {ts:I aj}
theorem uf:∀{ms:I aU} {l:I ab} {x:Fd},x∈ey ts ms l->∃m,m∈ms/\x.id=m.ai.toNat
 |[],l,x,h=>by
  grind[ey]
 |m::ms,[],x,h=>by
  grind[ey]
 |m::ms,v::l,x,h=>by
  rw[ey]at h;split at h;obtain⟨b,h1,a⟩:=uf h;grind
  . rcases eE.1 h with rfl|h
    simp;obtain⟨b,h1,a⟩:=uf h;grind
theorem MW{l:I ab}{n:Nat}(h:∀m,m∈ms->m.ai.toNat≠n):((ey ts ms l).filter λx=>(x.id=n:J))=[]:=by
 grind[List.filter_eq_nil_iff,uf]
theorem AX:∀{ms:I aU} {l:I ab} {n j:Nat},ms.Pairwise (λa b=>a.ai.toNat≠b.ai.toNat)->l.length=ms.length->j<ms.length->(ms.getD j aH).ai.toNat=n->
 ((ey ts ms l).filter λx=>(x.id=n:J))=if di (ms.getD j aH) (l.getD j aM) then[]else[⟨n,(ms.getD j aH).b4,bG ts (ms.getD j aH).aC (l.getD j aM)⟩]
 |[],l,n,j,_,_,d,_=>by grind
 |m::ms,[],n,j,_,ak,_,_=>by grind
 |m::ms,v::l,n,0,c,ak,d,he=>by
  rw[kz]at c;have aI:=MW (ts:=ts) (l:=l) (ms:=ms) (n:=n) λx aa=>by grind
  grind[ey]
 |m::ms,v::l,n,j+1,c,ak,d,he=>by
  rw[kz]at c;have e:j<ms.length:=by grind
  have ih:=AX c.2 (by simpa using ak) e he;grind[ey]
theorem acP(l:I ch)(n:Nat)(h:∀x,x∈l->0<=x.ai):((l.map iE).filter λx=>(x.id=n:J))=(l.filter λx=>(x.ai=(n:Int):J)).map iE:=by
 rw[List.filter_map];congr 1;apply List.filter_congr;intro x aa;show (x.ai.toNat=n:J)=_;grind
noncomputable def fE (ts:I aj)(ms:I aU)(l:I ab)(r:I ch):I Fd:=ey ts ms l++r.map iE
def h9(ms:I aU):Prop:=ms.Pairwise (λa b=>a.ai<b.ai)/\∀m,m∈ms->cD m.ai
theorem AQ(h:h9 ms):ms.Pairwise (λa b=>a.ai.toNat≠b.ai.toNat):=by
 refine h.1.imp_of_mem λ{a b} d c aD=>?_;have:=h.2 b c;grind[cD]
theorem J5:∀{ms:I aU} {l:I ab},ms.Pairwise (λa b=>a.ai.toNat≠b.ai.toNat)->(ey ts ms l).Pairwise (λa b=>a.id≠b.id)
 |[],l,_=>by
  simp_all[ey]
 |m::ms,[],_=>by
  simp_all[ey]
 |m::ms,v::l,h=>by
  rw[kz]at h;rw[ey];split;exact J5 h.2;rw[kz];refine⟨λx aa=>?_,J5 h.2⟩;grind[uf]
theorem mi(h:cw ms id=none):∀m,m∈ms->m.ai≠id:=by
 grind[cw]
theorem Ac{l:I ab}{r:I ch}(h:h9 ms)(c:iO ms r):kq fe (fE ts ms l r):=by
 apply NP;have key:(fE ts ms l r).Pairwise (λa b=>a.id≠b.id):=by
  unfold fE;rw[List.pairwise_append];refine⟨J5 (AQ h),?_,?_⟩
  . rw[Hi];refine c.1.imp_of_mem λ{a b} i e aD=>?_;have:=(c.2 b e).1;show a.ai.toNat≠b.ai.toNat;grind[cD]
  intro x aa y al;obtain⟨m,h1,f⟩:=uf aa;obtain⟨q,d,rfl⟩:=fY.1 al;have g:=mi (c.2 q d).2 m h1;have:=(c.2 q d).1;show x.id≠q.ai.toNat;grind[cD]
 grind[fe]
theorem Jb{l:I ab}{r:I ch}(h:h9 ms)(b:iO ms r){x:Fd}(aa:x∈fE ts ms l r):1<=x.id/\x.id<=1000:=by
 rcases iB.1 aa with aa|aa;obtain⟨m,h1,c⟩:=uf aa;have:=h.2 m h1;grind[cD];obtain⟨q,a,rfl⟩:=fY.1 aa;have:=(b.2 q a).1;unfold cD at*;show 1<=q.ai.toNat/\q.ai.toNat<=1000;omega
theorem Q5:SWO fe:=by refine⟨λx=>?_,λx y z h1 a=>?_,λx y z h1 a=>?_⟩<;>simp[fe]at*<;>omega
theorem aay{l:I Fd}(ar:kq fe l)(a:∀x,x∈l->1<=x.id/\x.id<=1000):
 hp fe l=(List.range' 1 1000).flatMap λn=>l.filter λx=>(x.id=n:J):=by
 refine LV ar (lr _ _) (MU _ _ List.nodup_range' l λx aa=>?_) (D6 Q5 l) (abu _ 1 _ l);grind
end
section
variable {ts:I aj}{pl:J}
theorem dv:∀{l:I ab} {t:Int},fu ts pl t l↔∀x,x∈l->dj ts pl t x
 |[],t=>by grind[fu]
 |v::l,t=>by
  rw[fu,dv];simp
theorem jR:∀{ms:I aU} {l:I ab},iU ts pl ms l↔l.length=ms.length/\∀i,i<ms.length->dj ts pl (ms.getD i aH).aC (l.getD i aM)
 |[],[]=>by
  grind[iU]
 |[],v::l=>by
  grind[iU]
 |m::ms,[]=>by
  grind[iU]
 |m::ms,v::l=>by
  rw[iU,jR];constructor;grind
  . rintro ⟨h1,a⟩
    exact⟨a 0 (by simp),by grind,λi b=>a (i+1) (by grind)⟩
end
def db(o:ag J)(P:Prop):Prop:=∃r,o=some r/\(r=true↔P)
theorem db.imp(h:db o P)(e:P↔Q):db o Q:=by grind
theorem db.of{b:J}(e:b=true↔P):db (some b) P:=⟨b,rfl,e⟩
theorem db.loop{n:Nat}{p:Nat->J}{g:Unit}{o:ag (J ⊕ Unit)}(h0:o=L 0)(e:∀i,i<n->L i=if p i then L (i+1)else some (.inl false))(c:L n=some (.inr g)):
 db (o>>=λo=>match o with|.inl x=>some x|.inr _=>some true) (∀i,i<n->p i):=by
 subst h0;rcases scan L n p _ _ e c with⟨h1,a⟩|⟨h1,j,a,f⟩;rw[h1];exact⟨true,rfl,by grind⟩;rw[h1];refine⟨false,rfl,?_⟩;grind
theorem FC(f:α->Int)(d:α):∀l:I α,l.Pairwise (λa b=>f a<f b)↔∀i,i+1<l.length->f (l.getD i d)<f (l.getD (i+1) d)
 |[]=>by simp
 |[a]=>by simp
 |a::b::l=>by
  rw[kz,FC f d _];constructor
  . rintro ⟨h1,c⟩ i e
    cases i<;>simp_all
  intro h;have c:∀i,i+1<(b::l).length->f ((b::l).getD i d)<f ((b::l).getD _ d):=λi e=>h (i+1) (by simpa using e);have h0:=h 0 (by simp);have g:=(FC f d _).2 c;rw[kz]at g;grind
section
variable {ts:I aj}
def F8(ts:I aj)(x:ab):Prop:=∀t pl,db (jc ((⟨ts⟩:aT),t,x,pl)) (dj ts pl t x)
theorem OY{l:I ab}(ak:l.length<=reachBytes)(ih:∀x,x∈l->F8 ts x)(t:Int)(pl:J):db (oe ((⟨ts⟩:aT),t,l,pl)) (fu ts pl t l):=by
 have c:=eI ak;let p:Nat->J:=λi=>(jc (⟨ts⟩,t,l.getD i aM,pl)).getD false;have ar:∀i,i<l.length->jc (⟨ts⟩,t,l.getD i aM,pl)=some (p i)/\(p i↔dj ts pl t (l.getD i aM)):=by
  intro i a;obtain⟨r,h1,b⟩:=ih _ (bA a aM) t pl;grind
 rw[oe];refine(db.loop (L:=λi=>ny (t,l,pl,(i:Int),ts)) (n:=l.length) (p:=p) (g:=()) rfl (λi a=>?_) ?_).imp ?_
 rw[ny,cJ,ah (aY a)];simp only[ab.bI,bQ];rw[(ar i a).1,bN];grind;simp_all[ny,au];grind[dv,List.getElem_of_mem]
theorem t'{l:I aU}{r:Int×J}(h:uM l id r):(r.2/\∃j:Nat,j<l.length/\r.1=(j:Int)/\cw l id=some (l.getD j aH)/\(l.getD j aH).ai=id)\/(r.2=false/\cw l id=none):=by
 rcases h with⟨j,h1,a,b,rfl⟩|⟨h1,rfl⟩;refine .inl ⟨rfl,j,h1,rfl,?_,a⟩;unfold cw;rw[GZ];refine⟨by grind,j,h1,(fM h1 _).symm,λk c=>?_⟩;grind;grind[cw,List.getElem_of_mem]
theorem aeM(ht:t.af.length<9223372036854775807){l:I ch}(ak:l.length<=reachBytes):db (uz (t,l)) (iO t.af l):=by
 have k:=eI ak;let p:Nat->J:=λi=>!((gO (t,(l.getD i cj).ai)).getD (0,false)).2&&(bif (1<=(l.getD i cj).ai:J)then ((l.getD i cj).ai<=1000:J)else false)&&(!((0:Int)<(i:Int):J) || !((l.getD i cj).ai<=(l.getD (dD .i64 (i:Int) 1).toNat cj).ai:J));refine(db.loop (L:=λi=>l6 (l,(i:Int),t)) (n:=l.length) (p:=p) (g:=()) rfl (λi b=>?_) ?_).imp ?_
 . obtain⟨r,h1,c,_⟩:=ni (t:=t) (l.getD i cj).ai ht;have d:p i=(!r.2&&(bif (1<=(l.getD i cj).ai:J)then ((l.getD i cj).ai<=1000:J)else false)&&(!((0:Int)<(i:Int):J) || !((l.getD i cj).ai<=(l.getD (dD .i64 (i:Int) 1).toNat cj).ai:J))):=(by grind);rw[d,l6,ah (by grind),ah (aY b)];simp only[bQ];rw[c,bN];have hid:jt ((l.getD i cj).ai,r.2)=some ((!r.2)&&(bif (1<=(l.getD i cj).ai:J)then ((l.getD i cj).ai<=1000:J)else false)):=by
    grind[jt]
   show(if aE (i:Int) l.length then jt _>>=_ else none)=_;rw[ah (aY b),hid]
   exact LZ _ _ _ _ _ _ _ _ (aY b) (λf=>by
    grind[rI,aY])
 simp_all[l6,au]
 . unfold iO;rw[FC (λa:ch=>a.ai) cj];have key:∀i,i<l.length->(p i↔(cD (l.getD i cj).ai/\cw t.af (l.getD i cj).ai=none)/\(i=0\/(l.getD (i-1) cj).ai<(l.getD i cj).ai)):=by
    intro i b;obtain⟨r,h1,c,j⟩:=ni (t:=t) (l.getD i cj).ai ht;have d:p i=(!r.2&&(bif (1<=(l.getD i cj).ai:J)then ((l.getD i cj).ai<=1000:J)else false)&&(!((0:Int)<(i:Int):J) || !((l.getD i cj).ai<=(l.getD (dD .i64 (i:Int) 1).toNat cj).ai:J))):=(by grind);rw[d];have aI:r.2=false↔cw t.af (l.getD i cj).ai=none:=by
     grind[t']
    unfold cD;by_cases h0:i=0;grind;have f:((0:Int)<(i:Int):J):=(by grind);rw[f,rI (by omega) (by omega),bQ];grind
   constructor
   . intro h;refine⟨λi b=>?_,λx aa=>?_⟩
     grind;obtain⟨i,b,rfl⟩:=gT aa;simp_all
   . rintro ⟨h1,c⟩ i b
     refine(key i b).2 ⟨c _ (bA b cj),?_⟩;by_cases h0:i=0;omega;have e:i-1+1=i:=(by omega);grind
theorem ac4(ak:v.aw.length=t.af.length)(d:t.af.length<9223372036854775807)(ih:∀x,x∈v.aw->F8 ts x)(pl:J):
 db (lC (pl,0,ts,v,t.ae,t.aP,t.br,t.bB,t.Max,t.bc,t.af,t.aR,t.aF,t.bt)>>=λo=>match o with|.inl b=>some b|.inr _=>some true) (iU ts pl t.af v.aw):=by
 let p:=λi=>(jc (⟨ts⟩,(t.af.getD i aH).aC,v.aw.getD i aM,pl)).getD false;have ar:∀i,i<t.af.length->jc (⟨ts⟩,(t.af.getD i aH).aC,v.aw.getD i aM,pl)=some (p i)/\(p i↔dj ts pl (t.af.getD i aH).aC (v.aw.getD i aM)):=by
  intro i a;obtain⟨r,h1,c⟩:=ih _ (bA (by omega:i<v.aw.length) aM) (t.af.getD i aH).aC pl;grind
 refine(db.loop (L:=λi=>lC (pl,(i:Int),ts,v,t.ae,t.aP,t.br,t.bB,t.Max,t.bc,t.af,t.aR,t.aF,t.bt)) (n:=t.af.length) (p:=p) (g:=()) rfl (λi a=>?_) ?_).imp ?_
 rw[lC,ah (aY a),ah (fU)];grind[bQ,ab.bI,mS];simp_all[lC];grind[jR]
theorem aeN(m:v.a7.length<9223372036854775807)(a:∀x,x∈v.a7->cp x):
 db (jP (1,v)>>=λf=>match f with|.inl j=>some j|.inr _=>some true) (qc v.a7):=by
 by_cases h0:v.a7.length=0;rw[jP,au (by grind)];refine⟨true,rfl,?_⟩;simp_all[qc,true_iff]
 refine(db.loop (L:=λi=>jP ((i+1:Nat),v)) (n:=v.a7.length-1) (p:=λi=>!(0<=iF (v.a7.getD i aM) (v.a7.getD (i+1) aM):J)) (g:=()) rfl (λi l=>?_) ?_).imp ?_
 . have c:dD .i64 (i+1:Nat) 1=i:=by rw[rI (by simp) (by omega)];rfl
   obtain⟨r,k,b⟩:=D2 (FB (a _ (bA (by omega:i<v.a7.length) aM))) (FB (a _ (bA (by omega:i+1<v.a7.length) aM)));have d:iF (v.a7.getD i aM) (v.a7.getD (i+1) aM)=r:=(by grind[iF]);rw[d,jP];simp only[aW,ay];rw[c,ah (fU),ah (fU)];simp only[bQ,ab.bI];rw[b,bN];grind
 have e:v.a7.length-1+1=v.a7.length:=(by omega);simp_all[jP,au];grind[qc]
theorem hF(pl:J)(t:Int)(v:ab):dj ts pl t v↔
 (0<=t/\t<ts.length/\v.ae=(ts.getD t.toNat aN).ae/\(pl=true->v.aX=[]))/\
 (v.ae=1/\v.bE=0/\v.bZ=[]/\v.ai=0/\v.a7=[]/\v.aw=[]/\v.aX=[]\/
 v.ae=2/\v.ct=false/\v.bZ=[]/\v.ai=0/\v.a7=[]/\v.aw=[]/\v.aX=[]/\(ts.getD t.toNat aN).br<=v.bE/\v.bE<=(ts.getD t.toNat aN).bB\/
 v.ae=3/\v.ct=false/\v.bE=0/\v.ai=0/\v.a7=[]/\v.aw=[]/\v.aX=[]/\(v.bZ.length:Int)<=(ts.getD t.toNat aN).Max\/
 v.ae=4/\v.ct=false/\v.bE=0/\v.bZ=[]/\v.a7=[]/\v.aw=[]/\v.aX=[]/\((∃y,y∈(ts.getD t.toNat aN).bc/\y.ai=v.ai)\/(ts.getD t.toNat aN).bt/\pl=false/\cD v.ai)\/
 v.ae=5/\v.ct=false/\v.bE=0/\v.bZ=[]/\v.ai=0/\v.a7=[]/\iO (ts.getD t.toNat aN).af v.aX/\iU ts pl (ts.getD t.toNat aN).af v.aw\/
 v.ae=6/\v.ct=false/\v.bE=0/\v.bZ=[]/\v.a7=[]/\(match cw (ts.getD t.toNat aN).af v.ai with
  |some m=>v.aX=[]/\v.aw.length=1/\fu ts pl m.aC v.aw
  |none=>(ts.getD t.toNat aN).bt=true/\pl=false/\cD v.ai/\v.aw=[]/\∃d,v.aX=[⟨v.ai,d⟩])\/
 v.ae=7/\v.ct=false/\v.bE=0/\v.bZ=[]/\v.ai=0/\v.a7=[]/\v.aX=[]/\(v.aw.length:Int)<=(ts.getD t.toNat aN).Max/\fu ts pl (ts.getD t.toNat aN).aF v.aw\/
 v.ae=8/\v.ct=false/\v.bE=0/\v.bZ=[]/\v.ai=0/\v.aX=[]/\(v.a7.length:Int)<=(ts.getD t.toNat aN).Max/\v.aw.length=v.a7.length/\fu ts pl (ts.getD t.toNat aN).aR v.a7/\fu ts pl (ts.getD t.toNat aN).aF v.aw/\qc v.a7\/
 v.ae=9/\v.ct=false/\v.bE=0/\v.bZ=[]/\v.ai=0/\v.a7=[]/\v.aX=[]/\v.aw.length<=1/\fu ts pl (ts.getD t.toNat aN).aF v.aw):=by
 cases v;rfl
end
def lZ(v:ab):Prop:=(v.ae=1\/v.ct=false)/\(v.ae=2\/v.bE=0)/\(v.ae=3\/v.bZ=[])/\((v.ae=4\/v.ae=6)\/v.ai=0)/\(v.ae=8\/v.a7=[])/\(5<=v.ae\/v.aw=[])/\((v.ae=5\/v.ae=6)\/v.aX=[])
theorem aeO(v:ab):db (ux v) (lZ v):=by
 rw[ux];refine .of ?_;unfold lZ;have e:∀{α:Type} (l:I α),((l.length:Int)=0)↔l=[]:=λl=>by simp_all
 grind
theorem ahY{z b:J}{c:Prop}(d:z=true↔c)(a:b=false↔Q)(e:db o P):db (if(bif (bif false then true else(!z))then true else b)then some false else o) (c/\Q/\P):=by
 obtain⟨r,rfl,h⟩:=e;cases z with
 |false=>
  refine⟨false,rfl,?_⟩;grind
 |true=>
  cases b with
  |true=>refine⟨false,rfl,?_⟩;simp at a;simp[a]
  |false=>refine⟨r,rfl,?_⟩;simp at d a;simp[d,a,h]
theorem vw{q:J}(c:q=true↔Q)(a:db o P):db (some q>>=λt244=>(if t244 then o else some false)>>=λb=>some (bif t244 then b else false)) (Q/\P):=by
 obtain⟨r,rfl,h⟩:=a;refine⟨q&&r,by cases q<;>cases r<;>rfl,?_⟩;grind
theorem ahQ{A:J}{f L:ag J}{c e d:Prop}(a:A=true↔c)(j:db f e)(g:A=true->db L d):
 db (some (!A)>>=λt107=>(if !t107 then f else some false)>>=λk=>if(bif t107 then true else(!k)) then some false else L) (c/\e/\d):=by
 obtain⟨q,rfl,b⟩:=j;cases A with
 |false=>refine⟨false,rfl,?_⟩;simp at a;simp[a]
 |true=>
  obtain⟨m,rfl,i⟩:=g rfl;cases q with
  |false=>refine⟨false,rfl,?_⟩;simp at b;simp[b]
  |true=>refine⟨m,rfl,?_⟩;simp at a b;simp[a,b,i]
theorem ahR{c:J}{ok g L:ag J}{d e pc f:Prop}(l:c=false↔d)(b:db ok e)(a:db g pc)(j:db L f):
 db (some c>>=λt239=>(if !t239 then ok else some false)>>=λn=>some (bif t239 then true else(!n))>>=λt249=>(if !t249 then g else some false)>>=λo=>if(bif t249 then true else(!o)) then some false else L) (d/\e/\pc/\f):=by
 obtain⟨k,rfl,b⟩:=b;obtain⟨i,rfl,a⟩:=a;obtain⟨q,rfl,m⟩:=j;rw[<-l,<-b,<-a,<-m];cases c<;>cases k<;>cases i<;>exact⟨_,rfl,by simp⟩
theorem E'{l:I df}{r:Int×J}(h:xK l id r):r.2↔∃y,y∈l/\y.ai=id:=by
 rcases h with⟨j,h1,a,b,rfl⟩|⟨h1,rfl⟩;grind
 . constructor
   grind
   . rintro ⟨y,al,he⟩
     obtain⟨i,c,rfl⟩:=gT al;grind
section
variable {ts:I aj}(aI:ts.length<9223372036854775807)(dw:∀t,t∈ts->e5 t)(bW:∀t,t∈ts->ly t.ae)
include aI dw bW in
theorem EU(aw:cp v):F8 ts v:=by
 induction aw with
 |mk v hs h1 Z aa aq aB aD aF aG aI aJ ay X=>
  intro t pl;rw[jc];by_cases ad:(bif (t<0:J)then true else (((⟨ts⟩:aT).bh.length:Int)<=t:J))=true;rw[ah ad];refine⟨false,rfl,?_⟩;rw[hF];grind
  . rw[au ad];have ap:0<=t/\t<ts.length:=(by grind);obtain⟨j,rfl⟩:∃j:Nat,t=(j:Int):=⟨t.toNat,by omega⟩
    have T:j<ts.length:=(by omega);rw[ah (aY T)];simp only[hF,bQ,ab.bI];have V:=dw _ (bA T aN);have U:=bW _ (bA T aN);generalize ts.getD j aN=x at V U⊢;have F:=eI (iw V.hq);have af:=eI (iw V.syms);by_cases D:v.ae=x.ae
    . obtain⟨z,z1,z2⟩:=aeO v;have Q:=OY (ts:=ts) Z X;have ar:=OY (ts:=ts) h1 ay;show db ((if !(!(v.ae=x.ae:J)) then ux v else some false)>>=_) _;rw[ah (by simp[D]),z1];obtain⟨K,N,L,H,M,S,l,w,E,n⟩:=x;obtain⟨p,B,bC,C,ai,s,i,R⟩:=v;simp only at D;subst D;simp only at U F af h1 Z aa z1;have I:(bif pl then (0<(R.length:Int):J)else false)=false↔(pl=true->R=[]):=(by simp_all);have an:p=1\/p=2\/p=3\/p=4\/p=5\/p=6\/p=7\/p=8\/p=9:=by unfold ly at U;omega
      have cut:∀ {o:ag J} {P W:Prop},db o P->((lZ ⟨p,B,bC,C,ai,s,i,R⟩/\(pl = true->R = [])/\P) ↔ W)->
       db (some z>>=λr=>if(bif (bif false then true else(!r))then true else bif pl then (0<(R.length:Int):J)else false) then some false else o) W:=λav ax=>(ahY z2 I av).imp ax
      have u:(0:Int)<=j/\(j:Int)<ts.length:=ap;rcases an with rfl|rfl|rfl|rfl|rfl|rfl|rfl|rfl|rfl;exact cut (P:=True) (.of (b:=true) (by simp)) (by unfold lZ;simp[u];grind);exact cut (P:=L<=bC/\bC<=H) (.of (b:=bif (L<=bC:J)then (bC<=H:J)else false) (by by_cases g:L<=bC<;>simp[g])) (by unfold lZ;simp[u];grind);exact cut (P:=(C.length:Int)<=M) (.of (b:=((C.length:Int)<=M:J)) (by simp)) (by unfold lZ;simp[u];grind);obtain⟨r,_,Y,O⟩:=rz (t:=⟨4,N,L,H,M,S,l,w,E,n⟩) ai af;have hid:jt (ai,false)=some (bif (1<=ai:J)then (ai<=1000:J)else false):=(by rfl);have aj:=GL Y n pl _ (λb=>jt (ai,b)) hid;have hs:=E' O;simp only at hs;refine cut (P:=(∃y,y∈S/\y.ai=ai)\/n=true/\pl=false/\cD ai) ⟨_,aj,?_⟩ (by unfold lZ;simp[u];grind);rw[<-hs];unfold cD;grind
      . refine cut (P:=i.length=l.length/\iO l R/\iU ts pl l i) ?_ (by
         have:iU ts pl l i->i.length=l.length:=λh=>(jR.1 h).1
         unfold lZ;simp[u];grind)
        exact ahQ (A:=((i.length:Int)=(l.length:Int):J)) (by simp;omega) (aeM (t:=⟨5,N,L,H,M,S,l,w,E,n⟩) F aa) (λak=>ac4 (ts:=ts) (t:=⟨5,N,L,H,M,S,l,w,E,n⟩) (v:=⟨5,B,bC,C,ai,s,i,R⟩) (MS ak) F X pl)
      . obtain⟨r,_,Y,O⟩:=ni (t:=⟨6,N,L,H,M,S,l,w,E,n⟩) ai F;have hid:∀b,b=false->jt (ai,b)=some (bif (1<=ai:J)then (ai<=1000:J)else false):=by
         intro b I;subst I;rfl
        have al:((R.length:Int)=1:J)->aE 0 R.length:=by
         intro h;have:=gU h;exact aY (k:=0) (by omega)
        refine cut (P:=match cw l ai with
         |some m=>R=[]/\i.length=1/\fu ts pl m.aC i
         |none=>n=true/\pl=false/\cD ai/\i=[]/\∃d,R=[⟨ai,d⟩]) ?_ (by
          unfold lZ;simp[u]
          grind)
        obtain⟨aK,sC⟩:=r;show db (gD (⟨6,N,L,H,M,S,l,w,E,n⟩,ai)>>=_) _;rw[Y];rcases t' O with⟨e,k,k1,k2,k3,k4⟩|⟨e,k3⟩
        . simp only at e k1 k2 k3 k4;subst e;subst k2;rw[k3];have am:∃f:J,((bif ((i.length:Int)=1:J)then ((R.length:Int)=0:J)else false)=true->jc ((⟨ts⟩:aT),(l.getD (k:Int).toNat aH).aC,i.getD (0:Int).toNat aM,pl)=some f)/\(i.length=1->(f=true↔fu ts pl (l.getD k aH).aC i)):=by
           by_cases G:i.length=1
           . obtain⟨f,f1,f2⟩:=X (i.getD 0 aM) (bA (by omega:0<i.length) aM) (l.getD k aH).aC pl;refine⟨f,λ_=>f1,λ_=>?_⟩;rw[f2]
             match i,G with
             |[y],_=>rw[dv];simp
           refine⟨false,λh=>?_,λh=>absurd h G⟩;grind
          obtain⟨f,f1,f2⟩:=am;have ao:(bif ((i.length:Int)=1:J)then ((R.length:Int)=0:J)else false)=true->aE (k:Int) l.length/\aE 0 i.length:=by
           intro aA;refine⟨aY k1,?_⟩;by_cases G:i.length=1;exact aY (k:=0) (by omega);grind
          refine⟨_,GM _ (aE (k:Int) l.length) (aE 0 i.length) f f1 ao,?_⟩;by_cases g1:i.length=1;simp_all;grind
        . simp only at e k3;subst e;rw[k3];refine⟨_,GN (bif n then(!pl)else false) (bif (1<=ai:J)then (ai<=1000:J)else false) ((i.length:Int)=0:J) ((R.length:Int)=1:J) (aE 0 R.length) ((R.getD (0:Int).toNat cj).ai=ai:J) al,?_⟩;unfold cD
          match R with
          |[]=>simp
          |[⟨az,rd⟩]=>cases n<;>cases pl<;>by_cases g1:1<=ai<;>by_cases g2:ai<=1000<;>cases i<;>by_cases g3:az=ai<;>simp[g1,g2,g3]<;>omega
          |a::b::c=>simp;omega
      exact cut (P:=(i.length:Int)<=M/\fu ts pl E i) (vw (by simp) (Q E pl)) (by unfold lZ;simp[u];grind)
      . refine cut (P:=((s.length:Int)<=M/\i.length=s.length)/\fu ts pl w s/\fu ts pl E i/\qc s) ?_ (by unfold lZ;simp[u];grind);refine ahR (c:=bif (M<(s.length:Int):J)then true else(!((i.length:Int)=(s.length:Int):J))) ?_ (ar w pl) (Q E pl) (aeN (v:=⟨8,B,bC,C,ai,s,i,R⟩) (eI h1) aq);grind
      exact cut (P:=i.length<=1/\fu ts pl E i) (vw (q:=((i.length:Int)<=1:J)) (by simp;omega) (Q E pl)) (by unfold lZ;simp[u];grind)
    refine⟨false,by simp[D],?_⟩;grind
end
end
end Go.Proofs.YtopcfbelfjclmaaGreatDoor
