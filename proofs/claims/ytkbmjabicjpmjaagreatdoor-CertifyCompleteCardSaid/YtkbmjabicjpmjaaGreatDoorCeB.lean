/- The functions of the program as functions of Lean, that its code does what they say, and what they answer; part B. -/
import Derived.Test.YtkbmjabicjpmjaaGreatDoorCeA

namespace Go.Proofs.YtkbmjabicjpmjaaGreatDoor
set_option linter.all false
section
open Go Go.Proofs.YtkbmjabicjpmjaaGreatDoor.Shv
open Tryz
set_option maxRecDepth 100000
def Be:Int×aD×List iK->Option ((Int) ⊕ (List iK))
 |(last,s,a)=>
 if !(s=[]:Bool) then BS s>>=λr=>if(bif bif (!r.2.2)then true else (h4 .u64 r.1 2<=last:Bool)then true else (1000<h4 .u64 r.1 2:Bool)) then some (.inl 12)else Fb r.2.1>>=λb=>if !b.2.2 then some (.inl 12)else some [(⟨ca .i64 (h4 .u64 r.1 2),decide (cy r.1 2=1),b.1⟩:iK)]>>=λt50=>if room 32 (a++t50).length then Be (h4 .u64 r.1 2,b.2.1,a++t50)else none else some (.inr a)
  partial_fixpoint
theorem U5:cb 281 0 [0] Lf Be:= .rx Be.partial_correctness (.k Fq (.k Qt .n))
def Qu(c:aD):Option (List iK×Int):=
 Be (0,c,[])>>=λo=>match o with
 |.inl a=>
 some ([],a)
 |.inr b=>
 some (b,0)
theorem Vy:bc Nt Qu:= .bm .n (.k U5 .n)
def HT(a:aD):Option (Int×aD×Int):=
 BS a>>=λr=>if(bif bif (!r.2.2)then true else (r.1<1:Bool)then true else (1000<r.1:Bool)) then some (0,[],12)else some (ca .i64 r.1,r.2.1,0)
theorem V2:bc Nr HT:= .bm (.k Fq .n)
mutual
def DY(y:af×aD×List af×az×Int×az):Option (ab×Bool×List af×az×Int×az):=
 match y with
 |(c,p,b,f,g,e)=>
 FF p>>=λr=>if(bif (!(r.2=0:Bool))then true else(!(cy (r.1.length:Int) 2=0:Bool))) then hT (1,b,f,g,e)>>=λx=>some (ab.eta x.1,x.2.1,x.2.2.1,x.2.2.2.2.2,x.2.2.2.1,x.2.2.2.2.1)else if (c.Max<h4 .i64 (r.1.length:Int) 2:Bool) then hT (3,b,f,g,e)>>=λv=>some (ab.eta v.1,v.2.1,v.2.2.1,v.2.2.2.2.2,v.2.2.2.1,v.2.2.2.2.1)else D5 (r.1,0,b,f,g,c,0,false,0,[],0,c.Kind,false,0,[],0,e,[])>>=λo=>match o with
 |.inl w=>
 some (ab.eta w.2.2.2.2.1,w.1,w.2.1,w.2.2.1,w.2.2.2.1,w.2.2.2.2.2)
 |.inr a=>
 Ao (a.1,1,a.2.1,a.2.2.1,a.2.2.2.1,a.2.2.2.2.1,a.2.2.2.2.2.1,a.2.2.2.2.2.2.1,a.2.2.2.2.2.2.2.1,a.2.2.2.2.2.2.2.2.1,a.2.2.2.2.2.2.2.2.2.1,a.2.2.2.2.2.2.2.2.2.2.1,a.2.2.2.2.2.2.2.2.2.2.2.1,a.2.2.2.2.2.2.2.2.2.2.2.2.1,a.2.2.2.2.2.2.2.2.2.2.2.2.2.1,a.2.2.2.2.2.2.2.2.2.2.2.2.2.2.1,a.2.2.2.2.2.2.2.2.2.2.2.2.2.2.2.1,a.2.2.2.2.2.2.2.2.2.2.2.2.2.2.2.2)>>=λbj=>match bj with
 |.inl D=>
 some (ab.eta D.2.2.2.1,D.1,D.2.1,D.2.2.2.2.2,D.2.2.1,D.2.2.2.2.1)
 |.inr q=>
 D6 (q.1,1,q.2.1,q.2.2.1,q.2.2.2.1,q.2.2.2.2.1,q.2.2.2.2.2.1,q.2.2.2.2.2.2.1,q.2.2.2.2.2.2.2.1,q.2.2.2.2.2.2.2.2.1,q.2.2.2.2.2.2.2.2.2.1,q.2.2.2.2.2.2.2.2.2.2.1,q.2.2.2.2.2.2.2.2.2.2.2.1,q.2.2.2.2.2.2.2.2.2.2.2.2.1,q.2.2.2.2.2.2.2.2.2.2.2.2.2.1,q.2.2.2.2.2.2.2.2.2.2.2.2.2.2.1,q.2.2.2.2.2.2.2.2.2.2.2.2.2.2.2.1,q.2.2.2.2.2.2.2.2.2.2.2.2.2.2.2.2,[])>>=λii=>match ii with
 |.inl I=>
 some (ab.eta I.2.2.2.2.1,I.1,I.2.1,I.2.2.1,I.2.2.2.1,I.2.2.2.2.2)
 |.inr E=>
 some ((⟨E.2.2.2.2.2.2.2.2.1,E.2.2.2.2.2.2.2.2.2.1,E.2.2.2.2.2.2.2.2.2.2.1,E.2.2.2.2.2.2.2.2.2.2.2.1,E.2.2.2.2.2.2.2.2.2.2.2.2.1,E.2.2.2.2.2.2.2.2.2.2.2.2.2.2.1,E.2.2.2.2.2.2.2.2.2.2.2.2.2.2.2,[]⟩:ab),true,E.1,E.2.1,E.2.2.1,E.2.2.2.2.2.2.2.2.2.2.2.2.2.1)
  partial_fixpoint
def PG(y:af×aD×List af×az×Int×az):Option (ab×Bool×List af×az×Int×az):=
 match y with
 |(c,p,b,f,g,e)=>
 FF p>>=λr=>if !(r.2=0:Bool) then hT (1,b,f,g,e)>>=λx=>some (ab.eta x.1,x.2.1,x.2.2.1,x.2.2.2.2.2,x.2.2.2.1,x.2.2.2.2.1)else if (c.Max<(r.1.length:Int):Bool) then hT (3,b,f,g,e)>>=λv=>some (ab.eta v.1,v.2.1,v.2.2.1,v.2.2.2.2.2,v.2.2.2.1,v.2.2.2.2.1)else DZ (r.1,(r.1.length:Int),0,b,f,g,c,0,false,0,[],0,c.Kind,false,0,[],0,e,[])>>=λo=>match o with
 |.inl w=>
 some (ab.eta w.2.2.2.2.1,w.1,w.2.1,w.2.2.1,w.2.2.2.1,w.2.2.2.2.2)
 |.inr a=>
 some ((⟨a.2.2.2.2.2.2.2.2.1,a.2.2.2.2.2.2.2.2.2.1,a.2.2.2.2.2.2.2.2.2.2.1,a.2.2.2.2.2.2.2.2.2.2.2.1,a.2.2.2.2.2.2.2.2.2.2.2.2.1,[],a.2.2.2.2.2.2.2.2.2.2.2.2.2.2,[]⟩:ab),true,a.1,a.2.1,a.2.2.1,a.2.2.2.2.2.2.2.2.2.2.2.2.2.1)
  partial_fixpoint
def r0:Int×Int×aD×List af×az×Int×az->Option (ab×Bool×List af×az×Int×az)
 |(step,t,p,b,f,g,e)=>
 some [step]>>=λt18=>if room 8 (e++t18).length then Aw (t,p,b,f,g,e++t18)>>=λr=>some (dM .i64 (r.2.2.2.2.2.length:Int) 1)>>=λt39=>if gu 0 t39 r.2.2.2.2.2.length then if (t39.toNat<=r.2.2.2.2.2.length:Bool) then some (ab.eta r.1,r.2.1,r.2.2.1,r.2.2.2.1,r.2.2.2.2.1,r.2.2.2.2.2.take t39.toNat)else none else none else none
  partial_fixpoint
def Aw:Int×aD×List af×az×Int×az->Option (ab×Bool×List af×az×Int×az)
 |(t,p,b,f,g,e)=>
 if (200<=(e.length:Int):Bool) then hT (8,b,f,g,e)>>=λr=>some (ab.eta r.1,r.2.1,r.2.2.1,r.2.2.2.2.2,r.2.2.2.1,r.2.2.2.2.1)else if aB t b.length then some (b.getD t.toNat aL)>>=λc=>if (c.Kind=1:Bool) then some (decide (p=[1]))>>=λt50=>if(bif (!(p=[]:Bool))then(!t50)else false) then hT (1,b,f,g,e)>>=λP=>some (ab.eta P.1,P.2.1,P.2.2.1,P.2.2.2.2.2,P.2.2.2.1,P.2.2.2.2.1)else some ((⟨c.Kind,t50,0,[],0,[],[],[]⟩:ab),true,b,f,g,e)else if (c.Kind=2:Bool) then Ew p>>=λG=>if !(G.2=0:Bool) then hT (1,b,f,g,e)>>=λj=>some (ab.eta j.1,j.2.1,j.2.2.1,j.2.2.2.2.2,j.2.2.2.1,j.2.2.2.2.1)else Px G.1>>=λbs=>if(bif (bs<c.bH:Bool)then true else (c.bK<bs:Bool)) then hT (2,b,f,g,e)>>=λJ=>some (ab.eta J.1,J.2.1,J.2.2.1,J.2.2.2.2.2,J.2.2.2.1,J.2.2.2.2.1)else some ((⟨c.Kind,false,bs,[],0,[],[],[]⟩:ab),true,b,f,g,e)else if (c.Kind=3:Bool) then if (c.Max<(p.length:Int):Bool) then hT (3,b,f,g,e)>>=λA=>some (ab.eta A.1,A.2.1,A.2.2.1,A.2.2.2.2.2,A.2.2.2.1,A.2.2.2.2.1)else some ((⟨c.Kind,false,0,p,0,[],[],[]⟩:ab),true,b,f,g,e)else if (c.Kind=4:Bool) then Ew p>>=λau=>if(bif bif (!(au.2=0:Bool))then true else (au.1<1:Bool)then true else (1000<au.1:Bool)) then hT (1,b,f,g,e)>>=λL=>some (ab.eta L.1,L.2.1,L.2.2.1,L.2.2.2.2.2,L.2.2.2.1,L.2.2.2.2.1)else some (ca .i64 au.1)>>=λt130=>pK (c,t130)>>=λip=>if(bif (!ip.2)then(!c.Open)else false) then hT (4,b,f,g,e)>>=λM=>some (ab.eta M.1,M.2.1,M.2.2.1,M.2.2.2.2.2,M.2.2.2.1,M.2.2.2.2.1)else some ((⟨c.Kind,false,0,[],t130,[],[],[]⟩:ab),true,b,f,g,e)else if (c.Kind=9:Bool) then if (p=[]:Bool) then some ((⟨c.Kind,false,0,[],0,[],[],[]⟩:ab),true,b,f,g,e)else if aB 0 p.length then if !(jf p 0=1:Bool) then hT (1,b,f,g,e)>>=λN=>some (ab.eta N.1,N.2.1,N.2.2.1,N.2.2.2.2.2,N.2.2.2.1,N.2.2.2.2.1)else if gu 1 (p.length:Int) p.length then r0 (0,c.aQ,lC p 1 (p.length:Int),b,f,g,e)>>=λO=>some ((⟨c.Kind,false,0,[],0,[],[ab.eta O.1],[]⟩:ab),O.2.1,O.2.2.1,O.2.2.2.1,O.2.2.2.2.1,O.2.2.2.2.2)else none else none else if (c.Kind=6:Bool) then Qk (c,p,b,f,g,e)>>=λQ=>some (ab.eta Q.1,Q.2.1,Q.2.2.1,Q.2.2.2.1,Q.2.2.2.2.1,Q.2.2.2.2.2)else if (c.Kind=7:Bool) then PG (c,p,b,f,g,e)>>=λR=>some (ab.eta R.1,R.2.1,R.2.2.1,R.2.2.2.1,R.2.2.2.2.1,R.2.2.2.2.2)else if (c.Kind=8:Bool) then DY (c,p,b,f,g,e)>>=λS=>some (ab.eta S.1,S.2.1,S.2.2.1,S.2.2.2.1,S.2.2.2.2.1,S.2.2.2.2.2)else Qd (c,p,b,f,g,e)>>=λU=>some (ab.eta U.1,U.2.1,U.2.2.1,U.2.2.2.1,U.2.2.2.2.1,U.2.2.2.2.2)else none
  partial_fixpoint
def Qd(y:af×aD×List af×az×Int×az):Option (ab×Bool×List af×az×Int×az):=
 match y with
 |(c,p,b,f,g,e)=>
 Qu p>>=λr=>if !(r.2=0:Bool) then hT (1,b,f,g,e)>>=λx=>some (ab.eta x.1,x.2.1,x.2.2.1,x.2.2.2.2.2,x.2.2.2.1,x.2.2.2.2.1)else As (r.1,c.ae,(c.ae.length:Int),0,b,f,g,c,0,false,0,[],0,c.Kind,false,0,[],0,e,[])>>=λo=>match o with
 |.inl w=>
 some (ab.eta w.2.2.2.2.1,w.1,w.2.1,w.2.2.1,w.2.2.2.1,w.2.2.2.2.2)
 |.inr a=>
 wF (a.1,(a.1.length:Int),0,a.2.1,a.2.2.1,a.2.2.2.1,a.2.2.2.2.1,a.2.2.2.2.2.1,a.2.2.2.2.2.2.1,a.2.2.2.2.2.2.2.1,a.2.2.2.2.2.2.2.2.1,a.2.2.2.2.2.2.2.2.2.1,a.2.2.2.2.2.2.2.2.2.2.1,a.2.2.2.2.2.2.2.2.2.2.2.1,a.2.2.2.2.2.2.2.2.2.2.2.2.1,a.2.2.2.2.2.2.2.2.2.2.2.2.2.1,a.2.2.2.2.2.2.2.2.2.2.2.2.2.2.1,a.2.2.2.2.2.2.2.2.2.2.2.2.2.2.2.1,a.2.2.2.2.2.2.2.2.2.2.2.2.2.2.2.2,[])>>=λbj=>match bj with
 |.inl D=>
 some (ab.eta D.2.2.2.1,D.1,D.2.1,D.2.2.2.2.2,D.2.2.1,D.2.2.2.2.1)
 |.inr q=>
 some ((⟨q.2.2.2.2.2.2.2.2.1,q.2.2.2.2.2.2.2.2.2.1,q.2.2.2.2.2.2.2.2.2.2.1,q.2.2.2.2.2.2.2.2.2.2.2.1,q.2.2.2.2.2.2.2.2.2.2.2.2.1,[],q.2.2.2.2.2.2.2.2.2.2.2.2.2.2.1,q.2.2.2.2.2.2.2.2.2.2.2.2.2.2.2⟩:ab),true,q.1,q.2.1,q.2.2.1,q.2.2.2.2.2.2.2.2.2.2.2.2.2.1)
  partial_fixpoint
def Qk:af×aD×List af×az×Int×az->Option (ab×Bool×List af×az×Int×az)
 |(c,p,b,f,g,e)=>
 HT p>>=λr=>if !(r.2.2=0:Bool) then hT (1,b,f,g,e)>>=λK=>some (ab.eta K.1,K.2.1,K.2.2.1,K.2.2.2.2.2,K.2.2.2.1,K.2.2.2.2.1)else gk (c,r.1)>>=λbp=>if bp.2 then if aB bp.1 c.ae.length then r0 (r.1,(c.ae.getD bp.1.toNat aG).aC,r.2.1,b,f,g,e)>>=λG=>some ((⟨c.Kind,false,0,[],r.1,[],[ab.eta G.1],[]⟩:ab),G.2.1,G.2.2.1,G.2.2.2.1,G.2.2.2.2.1,G.2.2.2.2.2)else none else if !c.Open then hT (5,b,f,g,e)>>=λB=>some (ab.eta B.1,B.2.1,B.2.2.1,B.2.2.2.2.2,B.2.2.2.1,B.2.2.2.2.1)else some ((⟨c.Kind,false,0,[],r.1,[],[],[(⟨r.1,r.2.1⟩:cG)]⟩:ab),true,b,f,g,e)
  partial_fixpoint
def D5:List aD×Int×List af×az×Int×af×Int×Bool×Int×aD×Int×Int×Bool×Int×aD×Int×az×List ab->Option ((Bool×List af×az×Int×ab×az) ⊕ (List aD×List af×az×Int×af×Int×Bool×Int×aD×Int×Int×Bool×Int×aD×Int×az×List ab))
 |(ag,i,g4,g5,g6,bh,g7,g8,g9,he,hk,hm,hs,ht,hu,hw,hH,bi)=>
 if (i<(ag.length:Int):Bool) then if aB i ag.length then r0 (h4 .i64 i 2,bh.Key,ag.getD i.toNat [],g4,g5,g6,hH)>>=λj=>if !j.2.1 then some (.inl (false,j.2.2.1,j.2.2.2.1,j.2.2.2.2.1,ab.eta j.1,j.2.2.2.2.2))else some [ab.eta j.1]>>=λt73=>if room 120 (bi++t73).length then D5 (ag,aS .i64 i 2,j.2.2.1,j.2.2.2.1,j.2.2.2.2.1,bh,g7,g8,g9,he,hk,hm,hs,ht,hu,hw,j.2.2.2.2.2,bi++t73)else none else none else some (.inr (ag,g4,g5,g6,bh,g7,g8,g9,he,hk,hm,hs,ht,hu,hw,hH,bi))
  partial_fixpoint
def D6:List aD×Int×List af×az×Int×af×Int×Bool×Int×aD×Int×Int×Bool×Int×aD×Int×az×List ab×List ab->Option ((Bool×List af×az×Int×ab×az) ⊕ (List af×az×Int×Int×Bool×Int×aD×Int×Int×Bool×Int×aD×Int×az×List ab×List ab))
 |(ap,Z,h0,bE,b0,b3,b4,ce,ci,cp,cr,cs,cv,dt,dy,eq,es,ex,ax)=>
 if (Z<(ap.length:Int):Bool) then if aB Z ap.length then r0 (h4 .i64 Z 2,b3.aQ,ap.getD Z.toNat [],h0,bE,b0,es)>>=λA=>if !A.2.1 then some (.inl (false,A.2.2.1,A.2.2.2.1,A.2.2.2.2.1,ab.eta A.1,A.2.2.2.2.2))else some [ab.eta A.1]>>=λt125=>if room 120 (ax++t125).length then D6 (ap,aS .i64 Z 2,A.2.2.1,A.2.2.2.1,A.2.2.2.2.1,b3,b4,ce,ci,cp,cr,cs,cv,dt,dy,eq,A.2.2.2.2.2,ex,ax++t125)else none else none else some (.inr (h0,bE,b0,b4,ce,ci,cp,cr,cs,cv,dt,dy,eq,es,ex,ax))
  partial_fixpoint
def DZ:List aD×Int×Int×List af×az×Int×af×Int×Bool×Int×aD×Int×Int×Bool×Int×aD×Int×az×List ab->Option ((Bool×List af×az×Int×ab×az) ⊕ (List af×az×Int×Int×Bool×Int×aD×Int×Int×Bool×Int×aD×Int×az×List ab))
 |(t38,h1,t40,fd,ff,fo,fs,fz,gc,gd,ge,gl,gs,gt,g0,g1,g2,g3,aF)=>
 if (t40<h1:Bool) then if aB t40 t38.length then r0 (t40,fs.aQ,t38.getD t40.toNat [],fd,ff,fo,g3)>>=λj=>if !j.2.1 then some (.inl (false,j.2.2.1,j.2.2.2.1,j.2.2.2.2.1,ab.eta j.1,j.2.2.2.2.2))else some [ab.eta j.1]>>=λt60=>if room 120 (aF++t60).length then DZ (t38,h1,aS .i64 t40 1,j.2.2.1,j.2.2.2.1,j.2.2.2.2.1,fs,fz,gc,gd,ge,gl,gs,gt,g0,g1,g2,j.2.2.2.2.2,aF++t60)else none else none else some (.inr (fd,ff,fo,fz,gc,gd,ge,gl,gs,gt,g0,g1,g2,g3,aF))
  partial_fixpoint
def As:List iK×List aY×Int×Int×List af×az×Int×af×Int×Bool×Int×aD×Int×Int×Bool×Int×aD×Int×az×List ab->Option ((Bool×List af×az×Int×ab×az) ⊕ (List iK×List af×az×Int×af×Int×Bool×Int×aD×Int×Int×Bool×Int×aD×Int×az×List ab))
 |(H,t39,bv,t41,ak,am,an,aI,a0,a1,a2,a3,a4,a5,a9,a',be,bg,X,Y)=>
 if (t41<bv:Bool) then if aB t41 t39.length then some (t39.getD t41.toNat aG)>>=λW=>Pn (H,(⟨W.ah,W.Name,W.aC,W.cJ,W.bX,ab.eta W.bC⟩:aY))>>=λv=>if (0<=v.1:Bool) then if aB v.1 H.length then r0 (v.2.ah,v.2.aC,(H.getD v.1.toNat Cm).Data,ak,am,an,X)>>=λF=>if !F.2.1 then some (.inl (false,F.2.2.1,F.2.2.2.1,F.2.2.2.2.1,ab.eta F.1,F.2.2.2.2.2))else some [ab.eta F.1]>>=λt102=>if room 120 (Y++t102).length then As (H,t39,bv,aS .i64 t41 1,F.2.2.1,F.2.2.2.1,F.2.2.2.2.1,aI,a0,a1,a2,a3,a4,a5,a9,a',be,bg,F.2.2.2.2.2,Y++t102)else none else none else if v.2.bX then kq (ab.eta v.2.bC)>>=λio=>some [ab.eta io]>>=λt113=>if room 120 (Y++t113).length then As (H,t39,bv,aS .i64 t41 1,ak,am,an,aI,a0,a1,a2,a3,a4,a5,a9,a',be,bg,X,Y++t113)else none else some [v.2.ah]>>=λt55=>if room 8 (X++t55).length then hT (7,ak,am,an,X++t55)>>=λB=>some (dM .i64 (B.2.2.2.2.1.length:Int) 1)>>=λt74=>if gu 0 t74 B.2.2.2.2.1.length then if (t74.toNat<=B.2.2.2.2.1.length:Bool) then some (.inl (false,B.2.2.1,B.2.2.2.2.2,B.2.2.2.1,ab.eta B.1,B.2.2.2.2.1.take t74.toNat))else none else none else none else none else some (.inr (H,ak,am,an,aI,a0,a1,a2,a3,a4,a5,a9,a',be,bg,X,Y))
  partial_fixpoint
end
theorem S8:eR zw DY/\fq 214 2 [2] yC D6/\eR nT r0/\eR vC Aw/\eR zx Qd/\fq 215 2 [0] yG As/\eR zv PG/\fq 213 2 [0] yA DZ/\eR zu Qk/\fq 214 2 [0] yB D5:=DY.mutual_partial_correctness (eM zw) (fp 214 2 [2] yC) (eM nT) (eM vC) (eM zx) (fp 215 2 [0] yG) (eM zv) (fp 213 2 [0] yA) (eM zu) (fp 214 2 [0] yB)
 (λ_ _ h1 c _ _ h=>eX h (.k Q2 (.k pf .n)) (.k (fM yB c) (.k R4 (.k (fM yC h1) .n))))
 (λ_ _ h1 a _ _ h=>fL yC h1 h (.k (cN nT a) .n))
 (λ_ d _ _ h=>eX h (.k (cN vC d) .n))
 (λ_ _ _ _ _ h0 a e f g _ _ h=>eX h (.k pf (.k VX (.k UD (.k Bg (.k (cN nT a) (.k (cN zu g) (.k (cN zv f) (.k (cN zw h0) (.k (cN zx e) .n))))))))))
 (λ_ bh _ _ h=>eX h (.k Vy (.k pf .n)) (.k (fM yG bh) (.k S7 .n)))
 (λ_ _ a bh _ _ h=>fL yG bh h (.k Sq (.k (cN nT a) (.k Vx (.k pf .n)))))
 (λ_ b _ _ h=>eX h (.k Q2 (.k pf .n)) (.k (fM yA b) .n))
 (λ_ _ a b _ _ h=>fL yA b h (.k (cN nT a) .n))
 (λ_ a _ _ h=>eX h (.k V2 (.k pf (.k kn (.k (cN nT a) .n)))))
 (λ_ _ a c _ _ h=>fL yB c h (.k (cN nT a) .n))
theorem SK:bc vC Aw:=cN _ S8.2.2.2.1
def RY:a7×Int×aD->Option (ab×kt×Int)
 |(s,t,m)=>
 oa s>>=λr=>if !(r=0:Bool) then some ((⟨0,false,0,[],0,[],[],[]⟩:ab),(⟨[],0⟩:kt),r)else if(bif (t<0:Bool)then true else ((s.Types.length:Int)<=t:Bool)) then some ((⟨0,false,0,[],0,[],[],[]⟩:ab),(⟨[],0⟩:kt),4)else if (4096<(m.length:Int):Bool) then some ((⟨0,false,0,[],0,[],[],[]⟩:ab),(⟨[],3⟩:kt),12)else Aw (t,m,s.Types,[],0,[])>>=λa=>if !a.2.1 then some ((⟨0,false,0,[],0,[],[],[]⟩:ab),(⟨a.2.2.2.1,a.2.2.2.2.1⟩:kt),12)else some (ab.eta a.1,(⟨[],0⟩:kt),0)
theorem Ww:bc Mw RY:= .bm (.k xl (.k SK .n))
def Qv:a7×Int×aD->Option (ab×Int)
 |(s,t,m)=>
 RY (s,t,m)>>=λr=>some (ab.eta r.1,r.2.2)
theorem Vz:bc NX Qv:= .bm (.k Ww .n)
def Py:cq×cq×aD->Option Bool
 |(w,r,m)=>
 pM w>>=λc=>some (!c)>>=λt13=>(if !t13 then pM r else some false)>>=λe=>if(bif t13 then true else(!e)) then some false else Qv (w.e1,w.aC,m)>>=λa=>some (!(decide (a.2=0)))>>=λt29=>(if !t29 then rG (w.e1,w.aC,ab.eta a.1)else some false)>>=λf=>if(bif t29 then true else(!f)) then some false else uw (w.e1,w.aC,ab.eta a.1)>>=λb=>if(bif (!(b.2=0:Bool))then true else(!(b.1=m:Bool))) then some false else tK (w.e1,w.aC,ab.eta a.1,r.e1,r.aC)>>=λd=>some (decide (d.2=12))
theorem UG:bc zy Py:= .bm (.k Eh (.k Vz (.k EA (.k Pw (.k PO .n)))))
def qj:List aK×Int×List af×Int×List af×Int->Option ((Bool) ⊕ (List aK×List af×Int×List af×Int))
 |(a,i,b,c,d,e)=>
 if (i<(a.length:Int):Bool) then some (dM .i64 i 1)>>=λt42=>if aB t42 a.length then rZ ((⟨(⟨(⟨b⟩:a7),c⟩:cq),(⟨(⟨d⟩:a7),e⟩:cq)⟩:fi),a.getD t42.toNat bG)>>=λf=>if aB i a.length then tn (f,a.getD i.toNat bG)>>=λg=>if !g then some (.inl false)else qj (a,aS .i64 i 1,b,c,d,e)else none else none else some (.inr (a,b,c,d,e))
  partial_fixpoint
theorem UH:cb 20 0 [0] M4 qj:= .rx qj.partial_correctness (.k Qc (.k Pq .n))
def AZ(i:cq×cq×List aK):Option Bool:=
 match i with
 |(w,r,l)=>
 pM w>>=λe=>some (!e)>>=λt14=>(if !t14 then pM r else some false)>>=λf=>some (bif bif t14 then true else(!f)then true else decide ((l.length:Int)=0))>>=λt24=>if(aB 0 l.length||(!(!t24))) then some (l.getD (0:Int).toNat bG)>>=λc=>(if !t24 then v7 (⟨w,r⟩:fi)else some bG)>>=λb=>if(bif t24 then true else(!(dZ c.bW b.bW&&(dZ c.bZ b.bZ&&true)))) then some false else qj (l,1,w.e1.Types,w.aC,r.e1.Types,r.aC)>>=λo=>match o with
 |.inl d=>
 some d
 |.inr a=>
 some (dM .i64 (a.1.length:Int) 1)>>=λt56=>if aB t56 a.1.length then rY ((⟨(⟨(⟨a.2.1⟩:a7),a.2.2.1⟩:cq),(⟨(⟨a.2.2.2.1⟩:a7),a.2.2.2.2⟩:cq)⟩:fi),a.1.getD t56.toNat bG)>>=λg=>some (!g)else none else none
theorem Vd:bc zt AZ:= .bm (.k Eh (.k P' (.k Qb .n))) (.k UH .n)
def Ei(a:aK):Option Bool:=
 some (decide (da a.bW a.bZ<0))
theorem UI:bc Ol Ei:= .bm
def pC:List aK×Int×Int->Option ((Int) ⊕ (Unit))
 |(a,b,t8)=>
 if (t8<b:Bool) then if aB t8 a.length then Ei (a.getD t8.toNat bG)>>=λr=>if r then some (.inl t8)else pC (a,b,aS .i64 t8 1)else none else some (.inr ())
  partial_fixpoint
theorem St:cb 92 0 [0] Oc pC:= .rx pC.partial_correctness (.k UI .n)
def D4(s:List aK):Option Int:=
 pC (s,(s.length:Int),0)>>=λo=>match o with
 |.inl a=>
 some a
 |.inr b=>
 some (-1)
theorem Sv:bc Ob D4:= .bm .n (.k St .n)
def D3(s:List aK):Option Bool:=
 D4 s>>=λr=>some (decide (0<=r))
theorem Su:bc NR D3:= .bm (.k Sv .n)
def AP(v:hV):Option Bool:=
 if v.y8 then some (decide (v.Message=[]))>>=λt7=>(if t7 then D3 v.Relation else some false)>>=λr=>some (bif t7 then(!r)else false)else some (decide ((v.Relation.length:Int)=0))
theorem VA:bc NW AP:= .bm (.k Su .n)
def AQ:cq×cq×hV->Option Bool
 |(w,r,v)=>
 AP v>>=λa=>if !a then some false else if v.y8 then tF (w,r,v.Relation)>>=λb=>some b else Py (w,r,v.Message)>>=λc=>some c
theorem VB:bc zs AQ:= .bm (.k VA (.k PF (.k UG .n)))
def lG(t:af):Option af:=
 if (t.Kind=1:Bool) then some (⟨t.Kind,[],0,0,0,[],[],0,0,false⟩:af)else if (t.Kind=2:Bool) then some (⟨t.Kind,[],t.bH,t.bK,0,[],[],0,0,false⟩:af)else if (t.Kind=3:Bool) then some (⟨t.Kind,[],0,0,t.Max,[],[],0,0,false⟩:af)else if (t.Kind=4:Bool) then some (⟨t.Kind,t.Name,0,0,0,t.br,[],0,0,t.Open⟩:af)else if (t.Kind=5:Bool) then some (⟨t.Kind,t.Name,0,0,0,[],t.ae,0,0,false⟩:af)else if (t.Kind=6:Bool) then some (⟨t.Kind,t.Name,0,0,0,[],t.ae,0,0,t.Open⟩:af)else if (t.Kind=7:Bool) then some (⟨t.Kind,[],0,0,t.Max,[],[],0,t.aQ,false⟩:af)else if (t.Kind=8:Bool) then some (⟨t.Kind,[],0,0,t.Max,[],[],t.Key,t.aQ,false⟩:af)else some (⟨t.Kind,[],0,0,0,[],[],0,t.aQ,false⟩:af)
theorem Tw:bc acH lG:= .bm
def oq:Int×ab×ab->Option ((Bool) ⊕ (ab×ab))
 |(i,a,b)=>
 if (i<(a.Rest.length:Int):Bool) then if aB i a.Rest.length then some (a.Rest.getD i.toNat ch)>>=λc=>if aB i b.Rest.length then some (b.Rest.getD i.toNat ch)>>=λd=>if !(dZ c.ah d.ah&&(iM c.Data d.Data&&true)) then some (.inl false)else oq (aS .i64 i 1,ab.eta a,ab.eta b)else none else none else some (.inr (ab.eta a,ab.eta b))
  partial_fixpoint
theorem R5:cb 118 0 [0] Li oq:= .rx oq.partial_correctness
mutual
def jU(e:ab×ab):Option Bool:=
 match e with
 |(a,b)=>
 if(bif bif bif bif bif (!(a.Kind=b.Kind:Bool))then true else(!(fy a.cd b.cd))then true else(!(a.bB=b.bB:Bool))then true else(!(a.bL=b.bL:Bool))then true else(!(a.ah=b.ah:Bool))then true else(!((a.Rest.length:Int)=(b.Rest.length:Int):Bool))) then some false else oq (0,(⟨a.Kind,a.cd,a.bB,a.bL,a.ah,a.bb,a.ar,a.Rest⟩:ab),(⟨b.Kind,b.cd,b.bB,b.bL,b.ah,b.bb,b.ar,b.Rest⟩:ab))>>=λo=>match o with
 |.inl j=>
 some j
 |.inr c=>
 wH (c.1.bb,c.2.bb)>>=λr=>(if r then wH (c.1.ar,c.2.ar)else some false)>>=λp=>some (bif r then p else false)
  partial_fixpoint
def wH(e:List ab×List ab):Option Bool:=
 match e with
 |(a,b)=>
 if !((a.length:Int)=(b.length:Int):Bool) then some false else tm (a,b,0)>>=λo=>match o with
 |.inl j=>
 some j
 |.inr c=>
 some true
  partial_fixpoint
def tm:List ab×List ab×Int->Option ((Bool) ⊕ (Unit))
 |(f,g,i)=>
 if (i<(f.length:Int):Bool) then if aB i f.length then if aB i g.length then jU (ab.eta (f.getD i.toNat aR),ab.eta (g.getD i.toNat aR))>>=λr=>if !r then some (.inl false)else tm (f,g,aS .i64 i 1)else none else none else some (.inr ())
  partial_fixpoint
end
theorem S9:eR zl jU/\eR CZ wH/\fq 183 0 [0] yH tm:=jU.mutual_partial_correctness (eM zl) (eM CZ) (fp 183 0 [0] yH)
 (λ_ h1 _ _ h=>eX h (.k (cN CZ h1) .n) (.k R5 .n))
 (λ_ a _ _ h=>eX h .n (.k (fM yH a) .n))
 (λ_ _ h0 a _ _ h=>fL yH a h (.k (cN zl h0) .n))
theorem Au:bc zl jU:=cN _ S9.1
def wI:aY×aY->Option Bool
 |(a,b)=>
 some (bif bif bif bif decide (a.ah=b.ah)then decide (a.Name=b.Name)else false then decide (a.aC=b.aC)else false then fy a.cJ b.cJ else false then fy a.bX b.bX else false)>>=λt37=>(if t37 then jU ((⟨a.bC.Kind,a.bC.cd,a.bC.bB,a.bC.bL,a.bC.ah,a.bC.bb,a.bC.ar,a.bC.Rest⟩:ab),(⟨b.bC.Kind,b.bC.cd,b.bC.bB,b.bC.bL,b.bC.ah,b.bC.bb,b.bC.ar,b.bC.Rest⟩:ab))else some false)>>=λr=>some (bif t37 then r else false)
theorem Tk:bc acP wI:= .bm (.k Au .n)
def ot:Int×af×af->Option ((Bool) ⊕ (af×af))
 |(i,a,b)=>
 if (i<(a.br.length:Int):Bool) then if aB i a.br.length then some (a.br.getD i.toNat dB)>>=λc=>if aB i b.br.length then some (b.br.getD i.toNat dB)>>=λd=>if !(dZ c.ah d.ah&&(iM c.Name d.Name&&true)) then some (.inl false)else ot (aS .i64 i 1,a,b)else none else none else some (.inr (a,b))
  partial_fixpoint
theorem S':cb 238 0 [0] Lj ot:= .rx ot.partial_correctness
def ou:Int×af×af->Option ((Bool) ⊕ (Unit))
 |(a,d,e)=>
 if (a<(d.ae.length:Int):Bool) then if aB a d.ae.length then some (d.ae.getD a.toNat aG)>>=λb=>if aB a e.ae.length then some (e.ae.getD a.toNat aG)>>=λc=>wI ((⟨b.ah,b.Name,b.aC,b.cJ,b.bX,ab.eta b.bC⟩:aY),(⟨c.ah,c.Name,c.aC,c.cJ,c.bX,ab.eta c.bC⟩:aY))>>=λr=>if !r then some (.inl false)else ou (aS .i64 a 1,d,e)else none else none else some (.inr ())
  partial_fixpoint
theorem Ta:cb 238 0 [1] Lk ou:= .rx ou.partial_correctness (.k Tk .n)
def Ad(g:af×af):Option Bool:=
 match g with
 |(a,b)=>
 if(bif bif bif bif bif bif bif bif bif (!(a.Kind=b.Kind:Bool))then true else(!(a.Name=b.Name:Bool))then true else(!(a.bH=b.bH:Bool))then true else(!(a.bK=b.bK:Bool))then true else(!(a.Max=b.Max:Bool))then true else(!(a.Key=b.Key:Bool))then true else(!(a.aQ=b.aQ:Bool))then true else(!(fy a.Open b.Open))then true else(!((a.br.length:Int)=(b.br.length:Int):Bool))then true else(!((a.ae.length:Int)=(b.ae.length:Int):Bool))) then some false else ot (0,(⟨a.Kind,a.Name,a.bH,a.bK,a.Max,a.br,a.ae,a.Key,a.aQ,a.Open⟩:af),(⟨b.Kind,b.Name,b.bH,b.bK,b.Max,b.br,b.ae,b.Key,b.aQ,b.Open⟩:af))>>=λo=>match o with
 |.inl d=>
 some d
 |.inr c=>
 ou (0,c.1,c.2)>>=λe=>match e with
 |.inl f=>
 some f
 |.inr i=>
 some true
theorem SY:bc acG Ad:= .bm .n (.k S' (.k Ta .n))
def v'(b:Int):Option Bool:=
 some (bif bif bif decide (97<=b)then decide (b<=122)else false then true else bif decide (65<=b)then decide (b<=90)else false then true else decide (b=95))
theorem Qe:bc acQ v':= .bm
def A7(b:Int):Option Bool:=
 some (bif decide (48<=b)then decide (b<=57)else false)
theorem Tx:bc acR A7:= .bm
def nU:aD×Int->Option ((Bool) ⊕ (Unit))
 |(a,i)=>
 if (i<(a.length:Int):Bool) then if aB i a.length then v' (jf a i)>>=λb=>some (!b)>>=λt27=>if(aB i a.length||(!t27)) then (if t27 then A7 (jf a i)else some false)>>=λc=>if(bif t27 then(!c)else false) then some (.inl false)else nU (a,aS .i64 i 1)else none else none else some (.inr ())
  partial_fixpoint
theorem SL:cb 240 0 [0] Ll nU:= .rx nU.partial_correctness (.k Qe (.k Tx .n))
def r1(s:aD):Option Bool:=
 some (bif decide (s=[])then true else decide (24<(s.length:Int)))>>=λt10=>if(aB 0 s.length||(!(!t10))) then (if !t10 then v' (jf s 0)else some false)>>=λr=>if(bif t10 then true else(!r)) then some false else nU (s,0)>>=λo=>match o with
 |.inl a=>
 some a
 |.inr b=>
 some true else none
theorem EC:bc acI r1:= .bm (.k Qe .n) (.k SL .n)
def xo:Int×Int->Option Bool
 |(a,n)=>
 some (bif bif decide (a<n)then decide (1<=n)else false then decide (n<=1000)else false)
theorem PU:bc acS xo:= .bm
def m':List dd×Int×Int->Option ((Bool) ⊕ (List dd×Int))
 |(a,b,k)=>
 if (k<b:Bool) then if aB k a.length then if aB b a.length then if ((a.getD k.toNat dB).Name=(a.getD b.toNat dB).Name:Bool) then some (.inl false)else m' (a,b,aS .i64 k 1)else none else none else some (.inr (a,b))
  partial_fixpoint
theorem R6:cb 241 0 [0,0] Ic m':= .rx m'.partial_correctness
def ow(g:List dd×Int×Int):Option ((Bool) ⊕ (List dd)):=
 match g with
 |(a,c,i)=>
 if (i<(a.length:Int):Bool) then if aB i a.length then xo (c,(a.getD i.toNat dB).ah)>>=λr=>some (!r)>>=λt19=>if(aB i a.length||(!(!t19))) then (if !t19 then r1 (a.getD i.toNat dB).Name else some false)>>=λf=>if(bif t19 then true else(!f)) then some (.inl false)else m' (a,i,0)>>=λd=>match d with
 |.inl e=>
 some (.inl e)
 |.inr b=>
 if aB b.2 b.1.length then ow (b.1,(b.1.getD b.2.toNat dB).ah,aS .i64 b.2 1)else none else none else none else some (.inr a)
  partial_fixpoint
theorem Tl:cb 241 0 [0] Lm ow:= .rx ow.partial_correctness (.k PU (.k EC .n)) (.k R6 .n)
def wN(l:List dd):Option Bool:=
 ow (l,0,0)>>=λo=>match o with
 |.inl b=>
 some b
 |.inr a=>
 some (bif decide (1<=(a.length:Int))then decide ((a.length:Int)<=16)else false)
theorem T2:bc acJ wN:= .bm .n (.k Tl .n)
def na:List aY×Bool×Int×Int×aY->Option ((Bool) ⊕ (List aY×Bool×Int×aY))
 |(b,d,c,k,a)=>
 if (k<c:Bool) then if aB k b.length then if ((b.getD k.toNat aG).Name=a.Name:Bool) then some (.inl false)else na (b,d,c,aS .i64 k 1,(⟨a.ah,a.Name,a.aC,a.cJ,a.bX,ab.eta a.bC⟩:aY))else none else some (.inr (b,d,c,(⟨a.ah,a.Name,a.aC,a.cJ,a.bX,ab.eta a.bC⟩:aY)))
  partial_fixpoint
theorem R9:cb 242 0 [0,0] Ie na:= .rx na.partial_correctness
def ox(l:List aY×Bool×Int×Int):Option ((Bool) ⊕ (List aY×Bool)):=
 match l with
 |(b,d,e,i)=>
 if (i<(b.length:Int):Bool) then if aB i b.length then some (b.getD i.toNat aG)>>=λa=>xo (e,a.ah)>>=λr=>some (!r)>>=λt23=>(if !t23 then r1 a.Name else some false)>>=λj=>if(bif bif bif t23 then true else(!j)then true else bif a.cJ then a.bX else false then true else bif (!d)then bif a.cJ then true else a.bX else false) then some (.inl false)else some (!a.bX)>>=λt52=>(if t52 then jU (ab.eta a.bC,(⟨0,false,0,[],0,[],[],[]⟩:ab))else some false)>>=λk=>if(bif t52 then(!k)else false) then some (.inl false)else na (b,d,i,0,(⟨a.ah,a.Name,a.aC,a.cJ,a.bX,ab.eta a.bC⟩:aY))>>=λf=>match f with
 |.inl g=>
 some (.inl g)
 |.inr c=>
 ox (c.1,c.2.1,c.2.2.2.ah,aS .i64 c.2.2.1 1)else none else some (.inr (b,d))
  partial_fixpoint
theorem Tm:cb 242 0 [0] Ln ox:= .rx ox.partial_correctness (.k PU (.k EC (.k Au .n))) (.k R9 .n)
def tv(c:List aY×Bool):Option Bool:=
 match c with
 |(l,record)=>
 ox (l,record,0,0)>>=λo=>match o with
 |.inl b=>
 some b
 |.inr a=>
 some (bif decide ((a.1.length:Int)<=16)then bif a.2 then true else decide (1<=(a.1.length:Int))else false)
theorem T3:bc acK tv:= .bm .n (.k Tm .n)
def gV(t:af):Option Bool:=
 some (bif decide (t.Kind<1)then true else decide (9<t.Kind))>>=λt10=>(if !t10 then lG t else some aL)>>=λr=>(if !t10 then Ad (t,r)else some false)>>=λc=>some (bif t10 then true else(!c))>>=λt17=>(if !t17 then jz t.Kind else some false)>>=λa=>(if((!t17)&&a) then r1 t.Name else some false)>>=λd=>if(bif t17 then true else bif a then(!d)else false) then some false else if (t.Kind=2:Bool) then some (decide (t.bH<=t.bK))else if (t.Kind=3:Bool) then some (bif decide (0<=t.Max)then decide (t.Max<=200)else false)else if (t.Kind=4:Bool) then wN t.br>>=λe=>some e else some (decide (t.Kind=5))>>=λt54=>if t54 then if t54 then tv (t.ae,decide (t.Kind=5))>>=λf=>some f else some (decide (t.Kind=7))>>=λt63=>if t63 then if t63 then some (bif decide (0<=t.Max)then decide (t.Max<=50)else false)else some true else if (t.Kind=8:Bool) then some (bif decide (0<=t.Max)then decide (t.Max<=50)else false)else some true else if (t.Kind=6:Bool) then tv (t.ae,decide (t.Kind=5))>>=λg=>some g else some (decide (t.Kind=7))>>=λb=>if b then if b then some (bif decide (0<=t.Max)then decide (t.Max<=50)else false)else some true else if (t.Kind=8:Bool) then some (bif decide (0<=t.Max)then decide (t.Max<=50)else false)else some true
theorem UJ:bc acu gV:= .bm (.k Tw (.k SY (.k EE (.k EC (.k T2 (.k T3 .n))))))
def rW:Int×af×az->Option (af×az)
 |(i,a,b)=>
 if (i<(a.ae.length:Int):Bool) then if aB i a.ae.length then some [(a.ae.getD i.toNat aG).aC]>>=λt19=>if room 8 (b++t19).length then rW (aS .i64 i 1,a,b++t19)else none else none else some (a,b)
  partial_fixpoint
theorem T4:cb 168 0 [0] Lo rW:= .rx rW.partial_correctness
def Bf(t:af):Option az:=
 rW (0,t,[])>>=λo=>if (o.1.Kind=8:Bool) then some [o.1.Key]>>=λt27=>if room 8 (o.2++t27).length then some (o.2++t27)>>=λl=>if(bif bif (o.1.Kind=7:Bool)then true else (o.1.Kind=8:Bool)then true else (o.1.Kind=9:Bool)) then some [o.1.aQ]>>=λt45=>if room 8 (l++t45).length then some (l++t45)else none else some l else none else if(bif bif (o.1.Kind=7:Bool)then true else (o.1.Kind=8:Bool)then true else (o.1.Kind=9:Bool)) then some [o.1.aQ]>>=λa=>if room 8 (o.2++a).length then some (o.2++a)else none else some o.2
theorem U6:bc acv Bf:= .bm .n (.k T4 .n)
def ng:Int×Int×List af×Int×aD×Int×Int×Int×List dd×List aY×Int×Int×Bool->Option ((Int) ⊕ (Int×List af×Int×aD×Int×Int×Int×List dd×List aY×Int×Int×Bool))
 |(d,k,a,b,c,e,f,g,i,j,l,m,n)=>
 if (k<d:Bool) then jz b>>=λo=>if(aB k a.length||(!o)) then if(bif o then ((a.getD k.toNat aL).Name=c:Bool)else false) then some (.inl 1)else ng (d,aS .i64 k 1,a,b,c,e,f,g,i,j,l,m,n)else none else some (.inr (d,a,b,c,e,f,g,i,j,l,m,n))
  partial_fixpoint
theorem Tn:cb 106 0 [0,0] Ig ng:= .rx ng.partial_correctness (.k EE .n)
def o9:Int×az×Int×List af×Int×aD×Int×Int×Int×List dd×List aY×Int×Int×Bool->Option ((Int) ⊕ (Int×List af×Int×aD×Int×Int×Int×List dd×List aY×Int×Int×Bool))
 |(o,l,a,b,c,d,e,f,g,i,j,k,m,n)=>
 if (a<(l.length:Int):Bool) then if aB a l.length then some (decide (l.getD a.toNat 0<0))>>=λt58=>if(aB a l.length||(!(!t58))) then if(bif t58 then true else ((b.length:Int)<=l.getD a.toNat 0:Bool)) then some (.inl 4)else o9 (o,l,aS .i64 a 1,b,c,d,e,f,g,i,j,k,m,n)else none else none else some (.inr (o,b,c,d,e,f,g,i,j,k,m,n))
  partial_fixpoint
theorem To:cb 106 0 [1,0] Ih o9:= .rx o9.partial_correctness
def pg(m:Int×List af):Option ((Int) ⊕ (Unit)):=
 match m with
 |(i,b)=>
 if (i<(b.length:Int):Bool) then if aB i b.length then some (b.getD i.toNat aL)>>=λc=>gV c>>=λr=>if !r then some (.inl 1)else ng (i,0,b,c.Kind,c.Name,c.bH,c.bK,c.Max,c.br,c.ae,c.Key,c.aQ,c.Open)>>=λe=>match e with
 |.inl f=>
 some (.inl f)
 |.inr a=>
 Bf (⟨a.2.2.1,a.2.2.2.1,a.2.2.2.2.1,a.2.2.2.2.2.1,a.2.2.2.2.2.2.1,a.2.2.2.2.2.2.2.1,a.2.2.2.2.2.2.2.2.1,a.2.2.2.2.2.2.2.2.2.1,a.2.2.2.2.2.2.2.2.2.2.1,a.2.2.2.2.2.2.2.2.2.2.2⟩:af)>>=λk=>o9 (a.1,k,0,a.2.1,a.2.2.1,a.2.2.2.1,a.2.2.2.2.1,a.2.2.2.2.2.1,a.2.2.2.2.2.2.1,a.2.2.2.2.2.2.2.1,a.2.2.2.2.2.2.2.2.1,a.2.2.2.2.2.2.2.2.2.1,a.2.2.2.2.2.2.2.2.2.2.1,a.2.2.2.2.2.2.2.2.2.2.2)>>=λg=>match g with
 |.inl j=>
 some (.inl j)
 |.inr d=>
 some (decide (d.2.2.1=8))>>=λt71=>if(aB d.2.2.2.2.2.2.2.2.2.1 d.2.1.length||(!t71)) then (if t71 then wK (d.2.1.getD d.2.2.2.2.2.2.2.2.2.1.toNat aL).Kind else some false)>>=λl=>if(bif t71 then(!l)else false) then some (.inl 1)else pg (aS .i64 d.1 1,d.2.1)else none else none else some (.inr ())
  partial_fixpoint
theorem SZ:cb 106 0 [0] Lp pg:= .rx pg.partial_correctness (.k UJ (.k U6 (.k P4 .n))) (.k Tn (.k To .n))
def p'(s:a7):Option Int:=
 if (32<(s.Types.length:Int):Bool) then some 3 else pg (0,s.Types)>>=λo=>match o with
 |.inl a=>
 some a
 |.inr b=>
 some 0
theorem EH:bc ab9 p':= .bm .n (.k SZ .n)
def rr(v:ab):Option Bool:=
 some (bif bif bif bif bif bif bif decide (v.Kind=1)then true else(!v.cd)then bif decide (v.Kind=2)then true else decide (v.bB=0)else false then bif decide (v.Kind=3)then true else decide (v.bL=[])else false then bif bif decide (v.Kind=4)then true else decide (v.Kind=6)then true else decide (v.ah=0)else false then bif decide (v.Kind=8)then true else decide ((v.bb.length:Int)=0)else false then bif decide (5<=v.Kind)then true else decide ((v.ar.length:Int)=0)else false then bif bif decide (v.Kind=5)then true else decide (v.Kind=6)then true else decide ((v.Rest.length:Int)=0)else false)
theorem U7:bc acx rr:= .bm
def mA:Int×Int×af->Option ((Int×Bool) ⊕ (Unit))
 |(a,i,b)=>
 if (i<(b.br.length:Int):Bool) then if aB i b.br.length then if ((b.br.getD i.toNat dB).ah=a:Bool) then some (.inl (i,true))else mA (a,aS .i64 i 1,b)else none else some (.inr ())
  partial_fixpoint
theorem SM:cb 122 0 [0] Lq mA:= .rx mA.partial_correctness
def r2(b:af×Int):Option (Int×Bool):=
 match b with
 |(t,id)=>
 mA (id,0,t)>>=λo=>match o with
 |.inl a=>
 some (a.1,a.2)
 |.inr c=>
 some (0,false)
theorem ED:bc aci r2:= .bm .n (.k SM .n)
def iH:Int×Bool->Option Bool
 |(n,a)=>
 some (bif bif (!a)then decide (1<=n)else false then decide (n<=1000)else false)
theorem PV:bc acy iH:= .bm
def nV:Int×Int×af->Option ((Int×Bool) ⊕ (Unit))
 |(a,i,b)=>
 if (i<(b.ae.length:Int):Bool) then if aB i b.ae.length then if ((b.ae.getD i.toNat aG).ah=a:Bool) then some (.inl (i,true))else nV (a,aS .i64 i 1,b)else none else some (.inr ())
  partial_fixpoint
theorem SN:cb 98 0 [0] Oj nV:= .rx nV.partial_correctness
def hv(b:af×Int):Option (Int×Bool):=
 match b with
 |(t,id)=>
 nV (id,0,t)>>=λo=>match o with
 |.inl a=>
 some (a.1,a.2)
 |.inr c=>
 some (0,false)
theorem lE:bc adk hv:= .bm .n (.k SN .n)
def k0:List cG×Int×af->Option ((Bool) ⊕ (Unit))
 |(a,i,b)=>
 if (i<(a.length:Int):Bool) then if aB i a.length then hv (b,(a.getD i.toNat ch).ah)>>=λr=>if aB i a.length then iH ((a.getD i.toNat ch).ah,r.2)>>=λc=>some (!c)>>=λt31=>some (decide (0<i))>>=λt34=>if(aB i a.length||(!((!t31)&&t34))) then some (dM .i64 i 1)>>=λt43=>if(aB t43 a.length||(!((!t31)&&t34))) then if(bif t31 then true else bif t34 then ((a.getD i.toNat ch).ah<=(a.getD t43.toNat ch).ah:Bool)else false) then some (.inl false)else k0 (a,aS .i64 i 1,b)else none else none else none else none else some (.inr ())
  partial_fixpoint
theorem T5:cb 179 0 [0] Lr k0:= .rx k0.partial_correctness (.k lE (.k PV .n))
def ru(b:af×List cG):Option Bool:=
 match b with
 |(t,l)=>
 k0 (l,0,t)>>=λo=>match o with
 |.inl a=>
 some a
 |.inr c=>
 some true
theorem U8:bc acz ru:= .bm .n (.k T5 .n)
def tA(n:Int):Option Int:=
 if (0<=n:Bool) then some (hG .u64 2 (ca .u64 n))else some (aS .u64 (hG .u64 2 (ca .u64 (dM .i64 0 (aS .i64 n 1)))) 1)
theorem Qf:bc acb tA:= .bm
def mK:Bool×Bool->Option Int
 |(b,a)=>
 if a then some 0 else if b then some (-1)else some 1
theorem Ty:bc acL mK:= .bm
def wO:ab×ab->Option Int
 |(a,b)=>
 if !(a.Kind=b.Kind:Bool) then some 0 else if (a.Kind=1:Bool) then mK (b.cd,fy a.cd b.cd)>>=λr=>some r else if (a.Kind=2:Bool) then tA a.bB>>=λc=>tA b.bB>>=λd=>mK (decide (c<d),decide (a.bB=b.bB))>>=λe=>some e else if (a.Kind=3:Bool) then if !((a.bL.length:Int)=(b.bL.length:Int):Bool) then mK (decide ((a.bL.length:Int)<(b.bL.length:Int)),false)>>=λf=>some f else mK (Op.bytesLess a.bL b.bL,decide (a.bL=b.bL))>>=λg=>some g else if (a.Kind=4:Bool) then mK (decide (a.ah<b.ah),decide (a.ah=b.ah))>>=λi=>some i else some 0
theorem T6:bc acA wO:= .bm (.k Ty (.k Qf .n))
def jc:Int×ab->Option ((Bool) ⊕ (Unit))
 |(b,a)=>
 if (b<(a.bb.length:Int):Bool) then some (dM .i64 b 1)>>=λt270=>if aB t270 a.bb.length then if aB b a.bb.length then wO (ab.eta (a.bb.getD t270.toNat aR),ab.eta (a.bb.getD b.toNat aR))>>=λc=>if (0<=c:Bool) then some (.inl false)else jc (aS .i64 b 1,ab.eta a)else none else none else some (.inr ())
  partial_fixpoint
theorem Uj:cb 109 0 [1] Ls jc:= .rx jc.partial_correctness (.k T6 .n)
mutual
def mN(c:a7×Int×List ab×Bool):Option Bool:=
 match c with
 |(s,t,l,plain)=>
 lF (t,l,plain,0,s.Types)>>=λo=>match o with
 |.inl q=>
 some q
 |.inr J=>
 some true
  partial_fixpoint
def ib(c:a7×Int×ab×Bool):Option Bool:=
 match c with
 |(s,t,v,plain)=>
 if(bif (t<0:Bool)then true else ((s.Types.length:Int)<=t:Bool)) then some false else if aB t s.Types.length then some (s.Types.getD t.toNat aL)>>=λa=>some (!(decide (v.Kind=a.Kind)))>>=λt34=>(if !t34 then rr (ab.eta v)else some false)>>=λr=>if(bif bif t34 then true else(!r)then true else bif plain then (0<(v.Rest.length:Int):Bool)else false) then some false else if (a.Kind=1:Bool) then some true else if (a.Kind=2:Bool) then some (bif decide (a.bH<=v.bB)then decide (v.bB<=a.bK)else false)else if (a.Kind=3:Bool) then some (decide ((v.bL.length:Int)<=a.Max))else if (a.Kind=4:Bool) then r2 (a,v.ah)>>=λw=>some (bif a.Open then(!plain)else false)>>=λt91=>(if((!w.2)&&t91) then iH (v.ah,w.2)else some false)>>=λS=>some (bif w.2 then true else bif t91 then S else false)else if (a.Kind=5:Bool) then some (!(decide ((v.ar.length:Int)=(a.ae.length:Int))))>>=λt107=>(if !t107 then ru (a,v.Rest)else some false)>>=λU=>if(bif t107 then true else(!U)) then some false else kl (plain,0,s.Types,ab.eta v,a.Kind,a.Name,a.bH,a.bK,a.Max,a.br,a.ae,a.Key,a.aQ,a.Open)>>=λo=>match o with
 |.inl q=>
 some q
 |.inr J=>
 some true else if (a.Kind=6:Bool) then hv (a,v.ah)>>=λj=>if j.2 then some (bif decide ((v.ar.length:Int)=1)then decide ((v.Rest.length:Int)=0)else false)>>=λt156=>if(aB j.1 a.ae.length||(!t156)) then if(aB 0 v.ar.length||(!t156)) then (if t156 then ib (s,(a.ae.getD j.1.toNat aG).aC,ab.eta (v.ar.getD (0:Int).toNat aR),plain)else some false)>>=λW=>some (bif t156 then W else false)else none else none else some (bif a.Open then(!plain)else false)>>=λt177=>(if t177 then iH (v.ah,j.2)else some false)>>=λM=>some (bif bif bif t177 then M else false then decide ((v.ar.length:Int)=0)else false then decide ((v.Rest.length:Int)=1)else false)>>=λt195=>if(aB 0 v.Rest.length||(!t195)) then some (bif t195 then decide ((v.Rest.getD (0:Int).toNat ch).ah=v.ah)else false)else none else if (a.Kind=7:Bool) then some (decide ((v.ar.length:Int)<=a.Max))>>=λt213=>(if t213 then mN (s,a.aQ,v.ar,plain)else some false)>>=λN=>some (bif t213 then N else false)else if (a.Kind=8:Bool) then some (bif decide (a.Max<(v.bb.length:Int))then true else(!(decide ((v.ar.length:Int)=(v.bb.length:Int)))))>>=λt239=>(if !t239 then mN (s,a.Key,v.bb,plain)else some false)>>=λO=>some (bif t239 then true else(!O))>>=λt249=>(if !t249 then mN (s,a.aQ,v.ar,plain)else some false)>>=λP=>if(bif t249 then true else(!P)) then some false else jc (1,ab.eta v)>>=λK=>match K with
 |.inl L=>
 some L
 |.inr X=>
 some true else some (decide ((v.ar.length:Int)<=1))>>=λt283=>(if t283 then mN (s,a.aQ,v.ar,plain)else some false)>>=λQ=>some (bif t283 then Q else false)else none
  partial_fixpoint
def lF:Int×List ab×Bool×Int×List af->Option ((Bool) ⊕ (Unit))
 |(x,g,e,i,b)=>
 if (i<(g.length:Int):Bool) then if aB i g.length then ib ((⟨b⟩:a7),x,ab.eta (g.getD i.toNat aR),e)>>=λr=>if !r then some (.inl false)else lF (x,g,e,aS .i64 i 1,b)else none else some (.inr ())
  partial_fixpoint
def kl:Bool×Int×List af×ab×Int×aD×Int×Int×Int×List dd×List aY×Int×Int×Bool->Option ((Bool) ⊕ (Unit))
 |(e,i,b,f,B,D,E,F,G,H,p,I,y,A)=>
 if (i<(f.ar.length:Int):Bool) then if aB i p.length then if aB i f.ar.length then ib ((⟨b⟩:a7),(p.getD i.toNat aG).aC,ab.eta (f.ar.getD i.toNat aR),e)>>=λR=>if !R then some (.inl false)else kl (e,aS .i64 i 1,b,ab.eta f,B,D,E,F,G,H,p,I,y,A)else none else none else some (.inr ())
  partial_fixpoint
end
theorem Tz:eR CY mN/\fq 180 0 [0] yn lF/\eR s5 ib/\fq 109 0 [0] yo kl:=mN.mutual_partial_correctness (eM CY) (fp 180 0 [0] yn) (eM s5) (fp 109 0 [0] yo)
 (λ_ h1 _ _ h=>eX h .n (.k (fM yn h1) .n))
 (λ_ _ h1 a _ _ h=>fL yn h1 h (.k (cN s5 a) .n))
 (λ_ _ _ h0 a b _ _ h=>eX h (.k U7 (.k ED (.k PV (.k U8 (.k lE (.k (cN s5 a) (.k (cN CY h0) .n))))))) (.k (fM yo b) (.k Uj .n)))
 (λ_ _ a b _ _ h=>fL yo b h (.k (cN s5 a) .n))
theorem UK:bc s5 ib:=cN _ Tz.2.2.1
def tD:a7×Int×ab->Option Bool
 |(s,t,v)=>
 ib (s,t,ab.eta v,true)>>=λr=>some r
theorem PA:bc ac4 tD:= .bm (.k UK .n)
def mY:Int×List aY×Int×List af->Option ((Int×Int×Int) ⊕ (Int×List af))
 |(c,l,i,b)=>
 if (i<(l.length:Int):Bool) then if aB i l.length then some (l.getD i.toNat aG)>>=λa=>if(aB i l.length||(!a.bX)) then if(aB i l.length||(!a.bX)) then (if a.bX then tD ((⟨b⟩:a7),(l.getD i.toNat aG).aC,ab.eta (l.getD i.toNat aG).bC)else some false)>>=λd=>if(bif a.bX then(!d)else false) then if aB i l.length then some (.inl (c,(l.getD i.toNat aG).ah,1))else none else mY (c,l,aS .i64 i 1,b)else none else none else none else some (.inr (c,b))
  partial_fixpoint
theorem Sw:cb 318 0 [0,0] JI mY:= .rx mY.partial_correctness (.k PA .n)
def nb(e:Int×List af):Option ((Int×Int×Int) ⊕ (Unit)):=
 match e with
 |(t,b)=>
 if (t<(b.length:Int):Bool) then if aB t b.length then mY (t,(b.getD t.toNat aL).ae,0,b)>>=λd=>match d with
 |.inl a=>
 some (.inl (a.1,a.2.1,a.2.2))
 |.inr c=>
 nb (aS .i64 c.1 1,c.2)else none else some (.inr ())
  partial_fixpoint
theorem Tb:cb 318 0 [0] Lt nb:= .rx nb.partial_correctness .n (.k Sw .n)
def Ae(s:a7):Option (Int×Int×Int):=
 p' s>>=λr=>if !(r=0:Bool) then some (0,0,r)else nb (0,s.Types)>>=λo=>match o with
 |.inl a=>
 some (a.1,a.2.1,a.2.2)
 |.inr b=>
 some (0,0,0)
theorem S0:bc acU Ae:= .bm (.k EH .n) (.k Tb .n)
def A8(s:a7):Option Int:=
 p' s>>=λr=>if !(r=0:Bool) then some r else Ae s>>=λa=>some a.2.2
theorem TA:bc acN A8:= .bm (.k EH (.k S0 .n))
def ph:Int×Int×az×af->Option (Int×az)
 |(d,i,a,b)=>
 if (i<(b.ae.length:Int):Bool) then if aB i b.ae.length then some (b.ae.getD i.toNat aG)>>=λc=>if aB c.aC a.length then if (c.aC.toNat<a.length:Bool) then ph (da 2 (hG .i64 d (a.getD c.aC.toNat 0)),aS .i64 i 1,a,b)else none else none else none else some (d,a)
  partial_fixpoint
theorem S1:cb 319 1 [0] Lu ph:= .rx ph.partial_correctness
def pj:Int×Int×az×af->Option (Int×az)
 |(e,c,a,b)=>
 if (c<(b.ae.length:Int):Bool) then if aB c b.ae.length then some (b.ae.getD c.toNat aG)>>=λd=>if aB d.aC a.length then if (d.aC.toNat<a.length:Bool) then pj (da 2 (aS .i64 e (a.getD d.aC.toNat 0)),aS .i64 c 1,a,b)else none else none else none else some (e,a)
  partial_fixpoint
theorem S2:cb 319 1 [1] Lv pj:= .rx pj.partial_correctness
def A9:af×az->Option (Int×az)
 |(a,b)=>
 if (a.Kind=2:Bool) then if (a.bH=a.bK:Bool) then some (1,b)else some (2,b)else if (a.Kind=3:Bool) then if (a.Max=0:Bool) then some (1,b)else some (2,b)else if (a.Kind=4:Bool) then some (da 2 (a.br.length:Int),b)else if (a.Kind=5:Bool) then ph (1,0,b,a)>>=λo=>some (o.1,o.2)else if (a.Kind=6:Bool) then pj (0,0,b,a)>>=λd=>some (d.1,d.2)else some (decide (a.Kind=7))>>=λt74=>if t74 then if t74 then some (decide (a.Max=0))>>=λt78=>if(aB a.aQ b.length||(!(!t78))) then if((a.aQ.toNat<b.length:Bool)||(!(!t78))) then if(bif t78 then true else (b.getD a.aQ.toNat 0=0:Bool)) then some (1,b)else some (2,b)else none else none else if (a.Kind=9:Bool) then if aB a.aQ b.length then if (a.aQ.toNat<b.length:Bool) then some (da 2 (aS .i64 1 (b.getD a.aQ.toNat 0)),b)else none else none else some (2,b)else if (a.Kind=8:Bool) then some (decide (a.Max=0))>>=λc=>if(aB a.aQ b.length||(!(!c))) then if((a.aQ.toNat<b.length:Bool)||(!(!c))) then if(bif c then true else (b.getD a.aQ.toNat 0=0:Bool)) then some (1,b)else some (2,b)else none else none else if (a.Kind=9:Bool) then if aB a.aQ b.length then if (a.aQ.toNat<b.length:Bool) then some (da 2 (aS .i64 1 (b.getD a.aQ.toNat 0)),b)else none else none else some (2,b)
theorem TB:bc acV A9:= .bm .n (.k S1 (.k S2 .n))
def pE:Int×Int×List af×az->Option (Int×List af×az)
 |(c,i,a,b)=>
 if (i<(a.length:Int):Bool) then if aB i a.length then A9 (a.getD i.toNat aL,b)>>=λr=>if((r.2.length=b.length:Bool)&&true) then if aB i r.2.length then if (i.toNat<r.2.length:Bool) then pE (c,aS .i64 i 1,a,r.2.set i.toNat r.1)else none else none else none else none else some (c,a,b)
  partial_fixpoint
theorem Tc:cb 274 0 [0,0] JJ pE:= .rx pE.partial_correctness (.k TB .n)
def pa:Int×List af×az->Option az
 |(d,b,c)=>
 if (d<=hG .i64 2 (b.length:Int):Bool) then pE (d,0,b,c)>>=λa=>pa (aS .i64 a.1 1,a.2.1,a.2.2)else some c
  partial_fixpoint
theorem SO:cb 274 0 [0] Lw pa:= .rx pa.partial_correctness .n (.k Tc .n)
def A3(s:a7):Option az:=
 some (s.Types.length:Int)>>=λt8=>if wG 8 t8 then pa (0,s.Types,List.replicate t8.toNat 0)>>=λo=>some o else none
theorem Uk:bc acO A3:= .bm .n (.k SO .n)
def pb:az×Int×List Bool->Option (List Bool)
 |(n,i,a)=>
 if (i<(n.length:Int):Bool) then if aB i n.length then some [decide (0<n.getD i.toNat 0)]>>=λt27=>if room 1 (a++t27).length then pb (n,aS .i64 i 1,a++t27)else none else none else some a
  partial_fixpoint
theorem SP:cb 204 0 [0] K5 pb:= .rx pb.partial_correctness
def EL(s:a7):Option (List Bool×Int):=
 A8 s>>=λr=>if !(r=0:Bool) then some ([],r)else A3 s>>=λa=>pb (a,0,[])>>=λo=>some (o,0)
theorem TC:bc acE EL:= .bm (.k TA (.k Uk .n)) (.k SP .n)
def pk:List Bool×Int->Option ((Int) ⊕ (Unit))
 |(l,i)=>
 if (i<(l.length:Int):Bool) then if aB i l.length then if !(l.getD i.toNat false) then some (.inl 10)else pk (l,aS .i64 i 1)else none else some (.inr ())
  partial_fixpoint
theorem S3:cb 145 0 [0] K6 pk:= .rx pk.partial_correctness
def A'(s:a7):Option Int:=
 EL s>>=λr=>if !(r.2=0:Bool) then some r.2 else pk (r.1,0)>>=λo=>match o with
 |.inl a=>
 some a
 |.inr b=>
 some 0
theorem UN:bc acq A':= .bm (.k TC .n) (.k S3 .n)
def xf:a7×Int->Option Int
 |(s,t)=>
 A' s>>=λr=>if !(r=0:Bool) then some r else if(bif (t<0:Bool)then true else ((s.Types.length:Int)<=t:Bool)) then some 4 else some 0
theorem UL:bc adg xf:= .bm (.k UN .n)
def wk:cq×cq->Option Int
 |(w,r)=>
 xf (w.e1,w.aC)>>=λa=>if !(a=0:Bool) then some a else xf (r.e1,r.aC)>>=λb=>some b
theorem PB:bc acY wk:= .bm (.k UL .n)
def qa:List aK×Int×aK->Option ((Bool) ⊕ (Unit))
 |(a,i,b)=>
 if (i<(a.length:Int):Bool) then if aB i a.length then some (a.getD i.toNat bG)>>=λc=>if(dZ c.bW b.bW&&(dZ c.bZ b.bZ&&true)) then some (.inl true)else qa (a,aS .i64 i 1,b)else none else some (.inr ())
  partial_fixpoint
def Q3(b:List aK×aK):Option Bool:=
 match b with
 |(l,p)=>
 qa (l,0,p)>>=λo=>match o with
 |.inl a=>
 some a
 |.inr c=>
 some false
def mD:Int×List aK×aK->Option ((Bool×List aK) ⊕ (List aK))
 |(i,a,b)=>
 if (i<(a.length:Int):Bool) then if aB i a.length then if (i.toNat<a.length:Bool) then if(dZ (a.getD i.toNat bG).bW b.bW&&(dZ (a.getD i.toNat bG).bZ b.bZ&&true)) then some (.inl (true,a))else mD (aS .i64 i 1,a,b)else none else none else some (.inr a)
  partial_fixpoint
theorem T7:cb 47 1 [0] KF mD:= .rx mD.partial_correctness
def tG(d:aK×List aK):Option (Bool×List aK):=
 match d with
 |(p,b)=>
 mD (0,b,p)>>=λo=>match o with
 |.inl a=>
 some (a.1,a.2)
 |.inr c=>
 some (false,c)
theorem EM:bc ac0 tG:= .bm .n (.k T7 .n)
def pt:Int×af×af×List aK->Option (af×af×List aK)
 |(i,a,b,c)=>
 if (i<(a.ae.length:Int):Bool) then if aB i a.ae.length then hv (b,(a.ae.getD i.toNat aG).ah)>>=λd=>if d.2 then if aB i a.ae.length then if aB d.1 b.ae.length then some [(⟨(a.ae.getD i.toNat aG).aC,(b.ae.getD d.1.toNat aG).aC⟩:aK)]>>=λt65=>if room 16 (c++t65).length then pt (aS .i64 i 1,a,b,c++t65)else none else none else none else pt (aS .i64 i 1,a,b,c)else none else some (a,b,c)
  partial_fixpoint
theorem T8:cb 50 0 [0] NT pt:= .rx pt.partial_correctness (.k lE .n)
def k1:Int×List aK×List aK->Option (List aK)
 |(b,a,d)=>
 if (b<(a.length:Int):Bool) then if aB b a.length then if (b.toNat<a.length:Bool) then tG (a.getD b.toNat bG,d)>>=λc=>if((c.2.length=d.length:Bool)&&true) then if !c.1 then if aB b a.length then if (b.toNat<a.length:Bool) then some [a.getD b.toNat bG]>>=λt127=>if room 16 (c.2++t127).length then k1 (aS .i64 b 1,a,c.2++t127)else none else none else none else k1 (aS .i64 b 1,a,c.2)else none else none else none else some d
  partial_fixpoint
theorem T9:cb 50 0 [1] NU k1:= .rx k1.partial_correctness (.k EM .n)
def wx:a7×Int×a7×Int->Option (List aK)
 |(w,wt,r,rt)=>
 if aB wt w.Types.length then some (w.Types.getD wt.toNat aL)>>=λb=>if aB rt r.Types.length then some (r.Types.getD rt.toNat aL)>>=λc=>if !(b.Kind=c.Kind:Bool) then some []else pt (0,b,c,[])>>=λo=>if(bif (o.1.Kind=8:Bool)then (0<o.1.Max:Bool)else false) then some [(⟨o.1.Key,o.2.1.Key⟩:aK)]>>=λt81=>if room 16 (o.2.2++t81).length then some (o.2.2++t81)>>=λl=>if(bif (o.1.Kind=9:Bool)then true else bif bif (o.1.Kind=7:Bool)then true else (o.1.Kind=8:Bool)then (0<o.1.Max:Bool)else false) then some [(⟨o.1.aQ,o.2.1.aQ⟩:aK)]>>=λt107=>if room 16 (l++t107).length then k1 (0,l++t107,[])>>=λd=>some d else none else k1 (0,l,[])>>=λe=>some e else none else if(bif (o.1.Kind=9:Bool)then true else bif bif (o.1.Kind=7:Bool)then true else (o.1.Kind=8:Bool)then (0<o.1.Max:Bool)else false) then some [(⟨o.1.aQ,o.2.1.aQ⟩:aK)]>>=λa=>if room 16 (o.2.2++a).length then k1 (0,o.2.2++a,[])>>=λf=>some f else none else k1 (0,o.2.2,[])>>=λg=>some g else none else none
theorem PH:bc ac2 wx:= .bm .n (.k T8 (.k T9 .n))
def pD:Int×List aK×Int×List af×List af×List aK->Option (Int×List af×List af×List aK)
 |(e,l,k,b,c,d)=>
 if (k<(l.length:Int):Bool) then if aB k l.length then tG (l.getD k.toNat bG,d)>>=λa=>if((a.2.length=d.length:Bool)&&true) then if !a.1 then if aB k l.length then some [l.getD k.toNat bG]>>=λt54=>if room 16 (a.2++t54).length then pD (e,l,aS .i64 k 1,b,c,a.2++t54)else none else none else pD (e,l,aS .i64 k 1,b,c,a.2)else none else none else some (e,b,c,d)
  partial_fixpoint
theorem Sa:cb 51 0 [0,0] KG pD:= .rx pD.partial_correctness (.k EM .n)
def rQ:Int×List af×List af×List aK->Option (List aK)
 |(i,c,d,a)=>
 if (i<(a.length:Int):Bool) then if aB i a.length then if (i.toNat<a.length:Bool) then if aB i a.length then if (i.toNat<a.length:Bool) then wx ((⟨c⟩:a7),(a.getD i.toNat bG).bW,(⟨d⟩:a7),(a.getD i.toNat bG).bZ)>>=λe=>pD (i,e,0,c,d,a)>>=λb=>rQ (aS .i64 b.1 1,b.2.1,b.2.2.1,b.2.2.2)else none else none else none else none else some a
  partial_fixpoint
theorem Tp:cb 51 0 [0] NV rQ:= .rx rQ.partial_correctness (.k PH .n) (.k Sa .n)
def wP:a7×Int×a7×Int->Option (List aK)
 |(w,wt,r,rt)=>
 rQ (0,w.Types,r.Types,[(⟨wt,rt⟩:aK)])>>=λo=>some o
theorem P7:bc ac3 wP:= .bm .n (.k Tp .n)
def pv:Int×Int×af->Option Int
 |(a,v,b)=>
 if(bif (a<100:Bool)then (v<b.bK:Bool)else false) then pv (aS .i64 a 1,aS .i64 v 1,b)else some a
  partial_fixpoint
theorem T':cb 95 0 [0] Oe pv:= .rx pv.partial_correctness
def tH(a:af):Option Int:=
 if (a.Kind=1:Bool) then some 2 else if (a.Kind=2:Bool) then pv (1,a.bH,a)>>=λo=>some o else if (a.Kind=4:Bool) then some (a.br.length:Int)else if (a.Max=0:Bool) then some 1 else some 100
theorem U9:bc adh tH:= .bm .n (.k T' .n)
def py:Int×af×af->Option ((Bool) ⊕ (af×af))
 |(i,a,b)=>
 if (i<(a.br.length:Int):Bool) then if aB i a.br.length then r2 (b,(a.br.getD i.toNat dB).ah)>>=λr=>if !r.2 then some (.inl false)else py (aS .i64 i 1,a,b)else none else some (.inr (a,b))
  partial_fixpoint
theorem TD:cb 96 0 [0] Of py:= .rx py.partial_correctness (.k ED .n)
def pz:Int×af×af->Option ((Bool) ⊕ (Unit))
 |(b,a,c)=>
 if (b<(a.ae.length:Int):Bool) then if aB b a.ae.length then hv (c,(a.ae.getD b.toNat aG).ah)>>=λd=>if !d.2 then some (.inl false)else pz (aS .i64 b 1,a,c)else none else some (.inr ())
  partial_fixpoint
theorem TE:cb 96 0 [1] Og pz:= .rx pz.partial_correctness (.k lE .n)
def ry(f:af×af):Option Bool:=
 match f with
 |(e,y)=>
 py (0,e,y)>>=λo=>match o with
 |.inl b=>
 some b
 |.inr a=>
 pz (0,a.1,a.2)>>=λc=>match c with
 |.inl d=>
 some d
 |.inr g=>
 some true
theorem UM:bc adi ry:= .bm .n (.k TD (.k TE .n))
def wm:a7×Int->Option Int
 |(s,t)=>
 p' s>>=λr=>if !(r=0:Bool) then some r else if(bif (t<0:Bool)then true else ((s.Types.length:Int)<=t:Bool)) then some 4 else some 0
theorem UO:bc acg wm:= .bm (.k EH .n)
def Ba:a7×Int×ab×a7×Int->Option Int
 |(w,wt,v,r,rt)=>
 wm (w,wt)>>=λa=>if !(a=0:Bool) then some a else wm (r,rt)>>=λb=>if !(b=0:Bool) then some b else tD (w,wt,ab.eta v)>>=λc=>if !c then some 1 else some 0
theorem UP:bc ac5 Ba:= .bm (.k UO (.k PA .n))
def jV(path:az):Option dE:=
 if room 8 ([]++path).length then some (⟨(⟨0,false,0,[],0,[],[],[]⟩:ab),[]++path,false⟩:dE)else none
theorem Ax:bc ach jV:= .bm
def tB:Int×aD->Option aD
 |(a,b)=>
 if (0<a:Bool) then some (strOf [ca .u8 (cy a 256)])>>=λt10=>if (t10.length+b.length<=ej:Bool) then tB (h4 .u64 a 256,t10++b)else none else some b
  partial_fixpoint
theorem TF:cb 114 0 [0] K7 tB:= .rx tB.partial_correctness
def xg(n:Int):Option aD:=
 tB (n,[])>>=λo=>some o
theorem Ul:bc aca xg:= .bm .n (.k TF .n)
def tC:Int×az->Option (Int×az)
 |(a,b)=>
 if (128<=a:Bool) then some [ca .u8 (aS .u64 (cy a 128) 128)]>>=λt11=>if room 1 (b++t11).length then tC (h4 .u64 a 128,b++t11)else none else some (a,b)
  partial_fixpoint
theorem TG:cb 116 0 [0] K8 tC:= .rx tC.partial_correctness
def qk(n:Int):Option aD:=
 tC (n,[])>>=λo=>some [ca .u8 o.1]>>=λt18=>if room 1 (o.2++t18).length then some (strOf (o.2++t18))else none
theorem ET:bc acd qk:= .bm .n (.k TG .n)
def qh(p:aD):Option aD:=
 qk (ca .u64 (p.length:Int))>>=λr=>if (r.length+p.length<=ej:Bool) then some (r++p)else none
theorem EN:bc ace qh:= .bm (.k ET .n)
def wo:Int×Bool×aD->Option aD
 |(id,d,p)=>
 some (ca .u64 (hG .i64 2 id))>>=λt10=>if d then qk (aS .u64 t10 1)>>=λr=>qh p>>=λa=>if (r.length+a.length<=ej:Bool) then some (r++a)else none else qk t10>>=λb=>qh p>>=λc=>if (b.length+c.length<=ej:Bool) then some (b++c)else none
theorem PC:bc acf wo:= .bm (.k ET (.k EN .n))
def lD:aD×Int×Int×List af×ab×af->Option (aD×Int×List af×ab×af)
 |(c,b,k,d,a,e)=>
 if (k<(a.Rest.length:Int):Bool) then if aB k a.Rest.length then if ((a.Rest.getD k.toNat ch).ah=b:Bool) then if aB k a.Rest.length then wo (b,false,(a.Rest.getD k.toNat ch).Data)>>=λf=>if (c.length+f.length<=ej:Bool) then lD (c++f,b,aS .i64 k 1,d,ab.eta a,e)else none else none else lD (c,b,aS .i64 k 1,d,ab.eta a,e)else none else some (c,b,d,ab.eta a,e)
  partial_fixpoint
theorem Sb:cb 63 0 [0,2] KH lD:= .rx lD.partial_correctness (.k PC .n)
mutual
def ki:a7×Int×ab->Option aD
 |(s,t,v)=>
 if aB t s.Types.length then some (s.Types.getD t.toNat aL)>>=λa=>if (a.Kind=1:Bool) then if v.cd then some [1]else some []else if (a.Kind=2:Bool) then tA v.bB>>=λr=>xg r>>=λX=>some X else if (a.Kind=3:Bool) then some v.bL else if (a.Kind=4:Bool) then xg (ca .u64 v.ah)>>=λam=>some am else if (a.Kind=9:Bool) then if ((v.ar.length:Int)=0:Bool) then some []else if aB 0 v.ar.length then ki (s,a.aQ,ab.eta (v.ar.getD (0:Int).toNat aR))>>=λN=>if ([1].length+N.length<=ej:Bool) then some ([1]++N)else none else none else if (a.Kind=6:Bool) then if (0<(v.Rest.length:Int):Bool) then qk (ca .u64 v.ah)>>=λO=>if aB 0 v.Rest.length then some (v.Rest.getD (0:Int).toNat ch)>>=λS=>if (O.length+S.Data.length<=ej:Bool) then some (O++S.Data)else none else none else hv (a,v.ah)>>=λP=>qk (ca .u64 v.ah)>>=λQ=>if aB P.1 a.ae.length then if aB 0 v.ar.length then ki (s,(a.ae.getD P.1.toNat aG).aC,ab.eta (v.ar.getD (0:Int).toNat aR))>>=λR=>if (Q.length+R.length<=ej:Bool) then some (Q++R)else none else none else none else if (a.Kind=7:Bool) then rR ([],0,s.Types,ab.eta v,a)>>=λo=>some o else if (a.Kind=8:Bool) then rS ([],0,s.Types,ab.eta v,a)>>=λU=>some U else oy ([],1,s.Types,ab.eta v,a)>>=λW=>some W else none
  partial_fixpoint
def rR:aD×Int×List af×ab×af->Option aD
 |(G,i,b,A,I)=>
 if (i<(A.ar.length:Int):Bool) then if aB i A.ar.length then ki ((⟨b⟩:a7),I.aQ,ab.eta (A.ar.getD i.toNat aR))>>=λY=>qh Y>>=λJ=>if (G.length+J.length<=ej:Bool) then rR (G++J,aS .i64 i 1,b,ab.eta A,I)else none else none else some G
  partial_fixpoint
def rS:aD×Int×List af×ab×af->Option aD
 |(H,p,E,g,F)=>
 if (p<(g.ar.length:Int):Bool) then if aB p g.bb.length then ki ((⟨E⟩:a7),F.Key,ab.eta (g.bb.getD p.toNat aR))>>=λZ=>qh Z>>=λK=>if (H.length+K.length<=ej:Bool) then some (H++K)>>=λt144=>if aB p g.ar.length then ki ((⟨E⟩:a7),F.aQ,ab.eta (g.ar.getD p.toNat aR))>>=λag=>qh ag>>=λL=>if (t144.length+L.length<=ej:Bool) then rS (t144++L,aS .i64 p 1,E,ab.eta g,F)else none else none else none else none else some H
  partial_fixpoint
def oy:aD×Int×List af×ab×af->Option aD
 |(y,id,B,c,j)=>
 if (id<=1000:Bool) then hv (j,id)>>=λe=>if e.2 then if aB e.1 j.ae.length then some (j.ae.getD e.1.toNat aG)>>=λD=>some (!D.bX)>>=λt175=>if(aB e.1 c.ar.length||(!(!t175))) then (if !t175 then jU (ab.eta (c.ar.getD e.1.toNat aR),ab.eta D.bC)else some false)>>=λak=>if(bif t175 then true else(!ak)) then if aB e.1 c.ar.length then ki ((⟨B⟩:a7),D.aC,ab.eta (c.ar.getD e.1.toNat aR))>>=λan=>wo (id,D.cJ,an)>>=λM=>if (y.length+M.length<=ej:Bool) then lD (y++M,id,0,B,ab.eta c,j)>>=λq=>oy (q.1,aS .i64 q.2.1 1,q.2.2.1,ab.eta q.2.2.2.1,q.2.2.2.2)else none else none else lD (y,id,0,B,ab.eta c,j)>>=λw=>oy (w.1,aS .i64 w.2.1 1,w.2.2.1,ab.eta w.2.2.2.1,w.2.2.2.2)else none else none else lD (y,id,0,B,ab.eta c,j)>>=λx=>oy (x.1,aS .i64 x.2.1 1,x.2.2.1,ab.eta x.2.2.2.1,x.2.2.2.2)else some y
  partial_fixpoint
end
theorem SQ:eR q4 ki/\fq 63 0 [2] vH oy/\fq 63 0 [1] vG rS/\fq 63 0 [0] vF rR:=ki.mutual_partial_correctness (eM q4) (fp 63 0 [2] vH) (fp 63 0 [1] vG) (fp 63 0 [0] vF)
 (λ_ _ _ _ h0 h1 a b _ _ h=>eX h (.k Qf (.k Ul (.k (cN q4 h0) (.k ET (.k lE .n))))) (.k (fM vF b) (.k (fM vG a) (.k (fM vH h1) .n))))
 (λ_ _ h0 h1 _ _ h=>fL vH h1 h (.k lE (.k Au (.k (cN q4 h0) (.k PC .n)))) (.k Sb .n))
 (λ_ _ h0 a _ _ h=>fL vG a h (.k (cN q4 h0) (.k EN .n)))
 (λ_ _ h0 b _ _ h=>fL vF b h (.k (cN q4 h0) (.k EN .n)))
theorem P8:bc q4 ki:=cN _ SQ.1
def mL(v:ab):Option dE:=
 some (⟨ab.eta v,[],true⟩:dE)
theorem EO:bc ack mL:= .bm
def pI:az×Int->Option az
 |(path,step)=>
 if room 8 ([]++path).length then some ([]++path)>>=λl=>some [step]>>=λt9=>if room 8 (l++t9).length then some (l++t9)else none else none
theorem wy:bc acj pI:= .bm
def tE:ab×ab->Option Bool
 |(a,b)=>
 jU (ab.eta a,ab.eta b)>>=λr=>some r
theorem PD:bc acF tE:= .bm (.k Au .n)
def tp:aY×ab->Option Bool
 |(m,v)=>
 (if m.bX then tE (ab.eta m.bC,ab.eta v)else some false)>>=λr=>some (bif m.bX then r else false)
theorem Pt:bc acB tp:= .bm (.k PD .n)
def mB:az×Int×List af×af×ab×af×Int×Bool×Int×aD×Int×Bool×Int×Bool×Int×aD×Int×List ab×List cG->Option ((dE) ⊕ (Int×Bool×Int×aD×Int×Bool×Int×Bool×Int×aD×Int×List ab×List cG))
 |(u,i,e,c,b,f,g,j,k,l,m,n,o,p,q,r,s,t,d)=>
 if (i<(c.ae.length:Int):Bool) then if aB i c.ae.length then some (c.ae.getD i.toNat aG)>>=λa=>hv (f,a.ah)>>=λw=>if w.2 then mB (u,aS .i64 i 1,e,c,ab.eta b,f,g,j,k,l,m,n,o,p,q,r,s,t,d)else if a.cJ then pI (u,a.ah)>>=λx=>jV x>>=λv=>some (.inl (⟨ab.eta v.Value,v.Path,v.eu⟩:dE))else if aB i b.ar.length then tp ((⟨a.ah,a.Name,a.aC,a.cJ,a.bX,ab.eta a.bC⟩:aY),ab.eta (b.ar.getD i.toNat aR))>>=λy=>if !y then if aB i b.ar.length then ki ((⟨e⟩:a7),a.aC,ab.eta (b.ar.getD i.toNat aR))>>=λz=>some [(⟨a.ah,z⟩:cG)]>>=λt170=>if room 24 (d++t170).length then mB (u,aS .i64 i 1,e,c,ab.eta b,f,g,j,k,l,m,n,o,p,q,r,s,t,d++t170)else none else none else mB (u,aS .i64 i 1,e,c,ab.eta b,f,g,j,k,l,m,n,o,p,q,r,s,t,d)else none else none else some (.inr (g,j,k,l,m,n,o,p,q,r,s,t,d))
  partial_fixpoint
theorem SR:cb 124 0 [1] K9 mB:= .rx mB.partial_correctness (.k lE (.k wy (.k Ax (.k Pt (.k P8 .n)))))
mutual
def lH(t:a7×Int×ab×a7×Int×az):Option dE:=
 match t with
 |(w,wt,v,r,rt,path)=>
 if aB wt w.Types.length then some (w.Types.getD wt.toNat aL)>>=λc=>if aB rt r.Types.length then some (r.Types.getD rt.toNat aL)>>=λe=>if !(c.Kind=e.Kind:Bool) then jV path>>=λq=>some (⟨ab.eta q.Value,q.Path,q.eu⟩:dE)else if(bif (c.Kind=2:Bool)then bif (v.bB<e.bH:Bool)then true else (e.bK<v.bB:Bool)else false) then jV path>>=λK=>some (⟨ab.eta K.Value,K.Path,K.eu⟩:dE)else if(bif (c.Kind=3:Bool)then (e.Max<(v.bL.length:Int):Bool)else false) then jV path>>=λp=>some (⟨ab.eta p.Value,p.Path,p.eu⟩:dE)else if (c.Kind=4:Bool) then r2 (e,v.ah)>>=λM=>if(bif (!M.2)then(!e.Open)else false) then jV path>>=λj=>some (⟨ab.eta j.Value,j.Path,j.eu⟩:dE)else if(bif bif (c.Kind=7:Bool)then true else (c.Kind=8:Bool)then (e.Max<(v.ar.length:Int):Bool)else false) then jV path>>=λF=>some (⟨ab.eta F.Value,F.Path,F.eu⟩:dE)else if (c.Kind=6:Bool) then wq (w,c,ab.eta v,r,e,path)>>=λB=>some (⟨ab.eta B.Value,B.Path,B.eu⟩:dE)else if (c.Kind=5:Bool) then wa (w,c,ab.eta v,r,e,path)>>=λx=>some (⟨ab.eta x.Value,x.Path,x.eu⟩:dE)else mE (path,0,w.Types,ab.eta v,r.Types,0,false,0,[],0,false,c,e,v.Kind,v.cd,v.bB,v.bL,v.ah,v.Rest,[])>>=λo=>match o with
 |.inl H=>
 some (⟨ab.eta H.Value,H.Path,H.eu⟩:dE)
 |.inr a=>
 mF (a.1,0,a.2.1,ab.eta a.2.2.1,a.2.2.2.1,a.2.2.2.2.1,a.2.2.2.2.2.1,a.2.2.2.2.2.2.1,a.2.2.2.2.2.2.2.1,a.2.2.2.2.2.2.2.2.1,a.2.2.2.2.2.2.2.2.2.1,a.2.2.2.2.2.2.2.2.2.2.1,a.2.2.2.2.2.2.2.2.2.2.2.1,a.2.2.2.2.2.2.2.2.2.2.2.2.1,a.2.2.2.2.2.2.2.2.2.2.2.2.2.1,a.2.2.2.2.2.2.2.2.2.2.2.2.2.2.1,a.2.2.2.2.2.2.2.2.2.2.2.2.2.2.2.1,a.2.2.2.2.2.2.2.2.2.2.2.2.2.2.2.2.1,a.2.2.2.2.2.2.2.2.2.2.2.2.2.2.2.2.2.1,a.2.2.2.2.2.2.2.2.2.2.2.2.2.2.2.2.2.2,[])>>=λbe=>match be with
 |.inl I=>
 some (⟨ab.eta I.Value,I.Path,I.eu⟩:dE)
 |.inr g=>
 mL (⟨g.2.2.2.2.2.2.1,g.2.2.2.2.2.2.2.1,g.2.2.2.2.2.2.2.2.1,g.2.2.2.2.2.2.2.2.2.1,g.2.2.2.2.2.2.2.2.2.2.1,g.2.2.2.2.2.2.2.2.2.2.2.2.1,g.2.2.2.2.2.2.2.2.2.2.2.2.2,g.2.2.2.2.2.2.2.2.2.2.2.1⟩:ab)>>=λA=>some (⟨ab.eta A.Value,A.Path,A.eu⟩:dE)else if(bif bif (c.Kind=7:Bool)then true else (c.Kind=8:Bool)then (e.Max<(v.ar.length:Int):Bool)else false) then jV path>>=λJ=>some (⟨ab.eta J.Value,J.Path,J.eu⟩:dE)else if (c.Kind=6:Bool) then wq (w,c,ab.eta v,r,e,path)>>=λbi=>some (⟨ab.eta bi.Value,bi.Path,bi.eu⟩:dE)else if (c.Kind=5:Bool) then wa (w,c,ab.eta v,r,e,path)>>=λbj=>some (⟨ab.eta bj.Value,bj.Path,bj.eu⟩:dE)else mE (path,0,w.Types,ab.eta v,r.Types,0,false,0,[],0,false,c,e,v.Kind,v.cd,v.bB,v.bL,v.ah,v.Rest,[])>>=λg3=>match g3 with
 |.inl bg=>
 some (⟨ab.eta bg.Value,bg.Path,bg.eu⟩:dE)
 |.inr f=>
 mF (f.1,0,f.2.1,ab.eta f.2.2.1,f.2.2.2.1,f.2.2.2.2.1,f.2.2.2.2.2.1,f.2.2.2.2.2.2.1,f.2.2.2.2.2.2.2.1,f.2.2.2.2.2.2.2.2.1,f.2.2.2.2.2.2.2.2.2.1,f.2.2.2.2.2.2.2.2.2.2.1,f.2.2.2.2.2.2.2.2.2.2.2.1,f.2.2.2.2.2.2.2.2.2.2.2.2.1,f.2.2.2.2.2.2.2.2.2.2.2.2.2.1,f.2.2.2.2.2.2.2.2.2.2.2.2.2.2.1,f.2.2.2.2.2.2.2.2.2.2.2.2.2.2.2.1,f.2.2.2.2.2.2.2.2.2.2.2.2.2.2.2.2.1,f.2.2.2.2.2.2.2.2.2.2.2.2.2.2.2.2.2.1,f.2.2.2.2.2.2.2.2.2.2.2.2.2.2.2.2.2.2,[])>>=λg4=>match g4 with
 |.inl a'=>
 some (⟨ab.eta a'.Value,a'.Path,a'.eu⟩:dE)
 |.inr E=>
 mL (⟨E.2.2.2.2.2.2.1,E.2.2.2.2.2.2.2.1,E.2.2.2.2.2.2.2.2.1,E.2.2.2.2.2.2.2.2.2.1,E.2.2.2.2.2.2.2.2.2.2.1,E.2.2.2.2.2.2.2.2.2.2.2.2.1,E.2.2.2.2.2.2.2.2.2.2.2.2.2,E.2.2.2.2.2.2.2.2.2.2.2.1⟩:ab)>>=λbp=>some (⟨ab.eta bp.Value,bp.Path,bp.eu⟩:dE)else none else none
  partial_fixpoint
def wa(t:a7×af×ab×a7×af×az):Option dE:=
 match t with
 |(w,c,v,r,y,path)=>
 nW (path,0,w.Types,c,ab.eta v,r.Types,y,0,false,0,[],0,false,v.Kind,false,0,[],0,[])>>=λo=>match o with
 |.inl H=>
 some (⟨ab.eta H.Value,H.Path,H.eu⟩:dE)
 |.inr a=>
 mB (a.1,0,a.2.1,a.2.2.1,ab.eta a.2.2.2.1,a.2.2.2.2.1,a.2.2.2.2.2.1,a.2.2.2.2.2.2.1,a.2.2.2.2.2.2.2.1,a.2.2.2.2.2.2.2.2.1,a.2.2.2.2.2.2.2.2.2.1,a.2.2.2.2.2.2.2.2.2.2.1,a.2.2.2.2.2.2.2.2.2.2.2.1,a.2.2.2.2.2.2.2.2.2.2.2.2.1,a.2.2.2.2.2.2.2.2.2.2.2.2.2.1,a.2.2.2.2.2.2.2.2.2.2.2.2.2.2.1,a.2.2.2.2.2.2.2.2.2.2.2.2.2.2.2.1,a.2.2.2.2.2.2.2.2.2.2.2.2.2.2.2.2,[])>>=λbe=>match be with
 |.inl I=>
 some (⟨ab.eta I.Value,I.Path,I.eu⟩:dE)
 |.inr g=>
 mL (⟨g.2.2.2.2.2.2.1,g.2.2.2.2.2.2.2.1,g.2.2.2.2.2.2.2.2.1,g.2.2.2.2.2.2.2.2.2.1,g.2.2.2.2.2.2.2.2.2.2.1,[],g.2.2.2.2.2.2.2.2.2.2.2.1,g.2.2.2.2.2.2.2.2.2.2.2.2⟩:ab)>>=λq=>some (⟨ab.eta q.Value,q.Path,q.eu⟩:dE)
  partial_fixpoint
def wq:a7×af×ab×a7×af×az->Option dE
 |(w,c,v,r,y,path)=>
 hv (c,v.ah)>>=λq=>hv (y,v.ah)>>=λM=>if(bif (!M.2)then(!y.Open)else false) then jV path>>=λj=>some (⟨ab.eta j.Value,j.Path,j.eu⟩:dE)else if !M.2 then if aB q.1 c.ae.length then if aB 0 v.ar.length then ki (w,(c.ae.getD q.1.toNat aG).aC,ab.eta (v.ar.getD (0:Int).toNat aR))>>=λF=>mL (⟨v.Kind,false,0,[],v.ah,[],[],[(⟨v.ah,F⟩:cG)]⟩:ab)>>=λB=>some (⟨ab.eta B.Value,B.Path,B.eu⟩:dE)else none else none else if aB q.1 c.ae.length then if aB 0 v.ar.length then if aB M.1 y.ae.length then pI (path,v.ah)>>=λx=>lH (w,(c.ae.getD q.1.toNat aG).aC,ab.eta (v.ar.getD (0:Int).toNat aR),r,(y.ae.getD M.1.toNat aG).aC,x)>>=λA=>if !A.eu then some (⟨ab.eta A.Value,A.Path,A.eu⟩:dE)else mL (⟨v.Kind,false,0,[],v.ah,[],[ab.eta A.Value],[]⟩:ab)>>=λJ=>some (⟨ab.eta J.Value,J.Path,J.eu⟩:dE)else none else none else none
  partial_fixpoint
def mE:az×Int×List af×ab×List af×Int×Bool×Int×aD×Int×Bool×af×af×Int×Bool×Int×aD×Int×List cG×List ab->Option ((dE) ⊕ (az×List af×ab×List af×Int×Bool×Int×aD×Int×Bool×af×af×Int×Bool×Int×aD×Int×List cG×List ab))
 |(bh,i,a2,P,a3,b4,ce,ci,cp,cr,cs,a4,a5,cv,dt,dy,eq,es,ex,a9)=>
 if (i<(P.bb.length:Int):Bool) then if aB i P.bb.length then pI (bh,i)>>=λg5=>lH ((⟨a2⟩:a7),a4.Key,ab.eta (P.bb.getD i.toNat aR),(⟨a3⟩:a7),a5.Key,g5)>>=λR=>if !R.eu then some (.inl (⟨ab.eta R.Value,R.Path,R.eu⟩:dE))else some [ab.eta R.Value]>>=λt161=>if room 120 (a9++t161).length then mE (bh,aS .i64 i 1,a2,ab.eta P,a3,b4,ce,ci,cp,cr,cs,a4,a5,cv,dt,dy,eq,es,ex,a9++t161)else none else none else some (.inr (bh,a2,ab.eta P,a3,b4,ce,ci,cp,cr,cs,a4,a5,cv,dt,dy,eq,es,ex,a9))
  partial_fixpoint
def mF:az×Int×List af×ab×List af×Int×Bool×Int×aD×Int×Bool×af×af×Int×Bool×Int×aD×Int×List cG×List ab×List ab->Option ((dE) ⊕ (Int×Bool×Int×aD×Int×Bool×Int×Bool×Int×aD×Int×List cG×List ab×List ab))
 |(g2,Q,fd,W,ff,fo,fs,fz,gc,gd,ge,gl,gs,gt,g0,g1,bv,bE,b0,b3,Y)=>
 if (Q<(W.ar.length:Int):Bool) then if aB Q W.ar.length then pI (g2,Q)>>=λg6=>lH ((⟨fd⟩:a7),gl.aQ,ab.eta (W.ar.getD Q.toNat aR),(⟨ff⟩:a7),gs.aQ,g6)>>=λS=>if !S.eu then some (.inl (⟨ab.eta S.Value,S.Path,S.eu⟩:dE))else some [ab.eta S.Value]>>=λt194=>if room 120 (Y++t194).length then mF (g2,aS .i64 Q 1,fd,ab.eta W,ff,fo,fs,fz,gc,gd,ge,gl,gs,gt,g0,g1,bv,bE,b0,b3,Y++t194)else none else none else some (.inr (fo,fs,fz,gc,gd,ge,gt,g0,g1,bv,bE,b0,b3,Y))
  partial_fixpoint
def nW:az×Int×List af×af×ab×List af×af×Int×Bool×Int×aD×Int×Bool×Int×Bool×Int×aD×Int×List ab->Option ((dE) ⊕ (az×List af×af×ab×af×Int×Bool×Int×aD×Int×Bool×Int×Bool×Int×aD×Int×List ab))
 |(X,k,U,D,G,Z,L,ag,ak,am,an,ap,au,ax,aF,aI,a0,a1,O)=>
 if (k<(L.ae.length:Int):Bool) then if aB k L.ae.length then some (L.ae.getD k.toNat aG)>>=λe=>pI (X,e.ah)>>=λK=>hv (D,e.ah)>>=λp=>if(bif (!p.2)then(!e.bX)else false) then jV K>>=λbs=>some (.inl (⟨ab.eta bs.Value,bs.Path,bs.eu⟩:dE))else if !p.2 then some [ab.eta e.bC]>>=λt65=>if room 120 (O++t65).length then nW (X,aS .i64 k 1,U,D,ab.eta G,Z,L,ag,ak,am,an,ap,au,ax,aF,aI,a0,a1,O++t65)else none else if aB p.1 D.ae.length then if aB p.1 G.ar.length then lH ((⟨U⟩:a7),(D.ae.getD p.1.toNat aG).aC,ab.eta (G.ar.getD p.1.toNat aR),(⟨Z⟩:a7),e.aC,K)>>=λj=>if aB p.1 D.ae.length then some (D.ae.getD p.1.toNat aG)>>=λN=>if aB p.1 G.ar.length then tp ((⟨N.ah,N.Name,N.aC,N.cJ,N.bX,ab.eta N.bC⟩:aY),ab.eta (G.ar.getD p.1.toNat aR))>>=λF=>some (!j.eu)>>=λt99=>(if(F&&(!t99)) then tp ((⟨e.ah,e.Name,e.aC,e.cJ,e.bX,ab.eta e.bC⟩:aY),ab.eta j.Value)else some false)>>=λB=>if(bif F then bif t99 then true else(!B)else false) then jV K>>=λx=>some (.inl (⟨ab.eta x.Value,x.Path,x.eu⟩:dE))else if !j.eu then some (.inl (⟨ab.eta j.Value,j.Path,j.eu⟩:dE))else some [ab.eta j.Value]>>=λt118=>if room 120 (O++t118).length then nW (X,aS .i64 k 1,U,D,ab.eta G,Z,L,ag,ak,am,an,ap,au,ax,aF,aI,a0,a1,O++t118)else none else none else none else none else none else none else some (.inr (X,U,D,ab.eta G,L,ag,ak,am,an,ap,au,ax,aF,aI,a0,a1,O))
  partial_fixpoint
end
theorem TH:eR q5 lH/\fq 66 0 [1] vJ mF/\fq 66 0 [0] vI mE/\eR CW wa/\fq 124 0 [0] yp nW/\eR CV wq:=lH.mutual_partial_correctness (eM q5) (fp 66 0 [1] vJ) (fp 66 0 [0] vI) (eM CW) (fp 124 0 [0] yp) (eM CV)
 (λ_ _ _ _ h1 a c bh _ _ h=>eX h (.k Ax (.k ED (.k (cN CV bh) (.k (cN CW c) (.k EO .n))))) (.k (fM vI a) (.k (fM vJ h1) .n)))
 (λ_ _ h0 h1 _ _ h=>fL vJ h1 h (.k wy (.k (cN q5 h0) .n)))
 (λ_ _ h0 a _ _ h=>fL vI a h (.k wy (.k (cN q5 h0) .n)))
 (λ_ b _ _ h=>eX h (.k EO .n) (.k (fM yp b) (.k SR .n)))
 (λ_ _ h0 b _ _ h=>fL yp b h (.k wy (.k lE (.k Ax (.k (cN q5 h0) (.k Pt .n))))))
 (λ_ h0 _ _ h=>eX h (.k lE (.k Ax (.k P8 (.k EO (.k wy (.k (cN q5 h0) .n)))))))
theorem Us:bc q5 lH:=cN _ TH.1
def A2:a7×Int×ab×a7×Int->Option (ab×Int)
 |(w,wt,v,r,rt)=>
 Ba (w,wt,ab.eta v,r,rt)>>=λa=>if !(a=0:Bool) then some ((⟨0,false,0,[],0,[],[],[]⟩:ab),a)else lH (w,wt,ab.eta v,r,rt,[])>>=λb=>if !b.eu then some ((⟨0,false,0,[],0,[],[],[]⟩:ab),12)else some (ab.eta b.Value,0)
theorem Ua:bc acM A2:= .bm (.k UP (.k Us .n))
def Bb:a7×Int×ab×a7×Int×ab->Option Bool
 |(w,wt,v,r,rt,u)=>
 A2 (w,wt,ab.eta v,r,rt)>>=λa=>some (decide (a.2=0))>>=λt25=>(if t25 then tE (ab.eta a.1,ab.eta u)else some false)>>=λb=>some (bif t25 then b else false)
theorem UQ:bc acr Bb:= .bm (.k Ua (.k PD .n))
def pc:Int×List af×af×List af×af->Option ((Int) ⊕ (af×af))
 |(i,e,a,f,c)=>
 if (i<(c.ae.length:Int):Bool) then if aB i c.ae.length then some (c.ae.getD i.toNat aG)>>=λd=>hv (a,d.ah)>>=λb=>some (!d.bX)>>=λt37=>some (!b.2)>>=λt40=>if(aB b.1 a.ae.length||(!(t37&&(!t40)))) then if(bif t37 then bif t40 then true else(a.ae.getD b.1.toNat aG).bX else false) then some (.inl 7)else if(aB b.1 a.ae.length||(!b.2)) then some (bif b.2 then(a.ae.getD b.1.toNat aG).bX else false)>>=λt58=>if(aB b.1 a.ae.length||(!t58)) then if(aB b.1 a.ae.length||(!t58)) then (if t58 then Bb ((⟨e⟩:a7),(a.ae.getD b.1.toNat aG).aC,ab.eta (a.ae.getD b.1.toNat aG).bC,(⟨f⟩:a7),d.aC,ab.eta d.bC)else some false)>>=λg=>if(bif t58 then(!g)else false) then some (.inl 10)else pc (aS .i64 i 1,e,a,f,c)else none else none else none else none else none else some (.inr (a,c))
  partial_fixpoint
theorem SS:cb 97 0 [0] Oh pc:= .rx pc.partial_correctness (.k lE (.k UQ .n))
def pd:Int×af×af->Option ((Int) ⊕ (Unit))
 |(b,a,c)=>
 if (b<(a.ae.length:Int):Bool) then if aB b a.ae.length then hv (c,(a.ae.getD b.toNat aG).ah)>>=λd=>some (!d.2)>>=λt100=>if(aB b a.ae.length||(!t100)) then if(bif t100 then(a.ae.getD b.toNat aG).cJ else false) then some (.inl 6)else pd (aS .i64 b 1,a,c)else none else none else some (.inr ())
  partial_fixpoint
theorem SU:cb 97 0 [1] Oi pd:= .rx pd.partial_correctness (.k lE .n)
def wb(f:a7×af×a7×af):Option Int:=
 match f with
 |(w,e,r,y)=>
 pc (0,w.Types,e,r.Types,y)>>=λo=>match o with
 |.inl b=>
 some b
 |.inr a=>
 pd (0,a.1,a.2)>>=λc=>match c with
 |.inl d=>
 some d
 |.inr g=>
 some 0
theorem TI:bc adj wb:= .bm .n (.k SS (.k SU .n))
def wc:a7×Int×a7×Int->Option Int
 |(w,wt,r,rt)=>
 if aB wt w.Types.length then some (w.Types.getD wt.toNat aL)>>=λa=>if aB rt r.Types.length then some (r.Types.getD rt.toNat aL)>>=λb=>if !(a.Kind=b.Kind:Bool) then some 9 else if (a.Kind=2:Bool) then if(bif (a.bH<b.bH:Bool)then true else (b.bK<a.bK:Bool)) then some 2 else some 0 else some (decide (a.Kind=3))>>=λt43=>if t43 then if t43 then if (b.Max<a.Max:Bool) then some 3 else some 0 else if (a.Kind=8:Bool) then if aB a.Key w.Types.length then tH (w.Types.getD a.Key.toNat aL)>>=λe=>if (b.Max<da a.Max e:Bool) then some 3 else some 0 else none else if (a.Kind=4:Bool) then some (!b.Open)>>=λt69=>(if t69 then ry (a,b)else some false)>>=λf=>if(bif t69 then(!f)else false) then some 4 else some 0 else if (a.Kind=6:Bool) then some (!b.Open)>>=λt80=>(if t80 then ry (a,b)else some false)>>=λg=>if(bif t80 then(!g)else false) then some 5 else some 0 else if (a.Kind=5:Bool) then wb (w,a,r,b)>>=λi=>some i else some 0 else if (a.Kind=7:Bool) then if (b.Max<a.Max:Bool) then some 3 else some 0 else if (a.Kind=8:Bool) then if aB a.Key w.Types.length then tH (w.Types.getD a.Key.toNat aL)>>=λj=>if (b.Max<da a.Max j:Bool) then some 3 else some 0 else none else if (a.Kind=4:Bool) then some (!b.Open)>>=λc=>(if c then ry (a,b)else some false)>>=λk=>if(bif c then(!k)else false) then some 4 else some 0 else if (a.Kind=6:Bool) then some (!b.Open)>>=λd=>(if d then ry (a,b)else some false)>>=λl=>if(bif d then(!l)else false) then some 5 else some 0 else if (a.Kind=5:Bool) then wb (w,a,r,b)>>=λm=>some m else some 0 else none else none
theorem Qg:bc ac1 wc:= .bm (.k U9 (.k UM (.k TI .n)))
def pw:Int×List af×List af×List aK->Option ((Bool) ⊕ (Unit))
 |(i,b,c,a)=>
 if (i<(a.length:Int):Bool) then if aB i a.length then if (i.toNat<a.length:Bool) then if aB i a.length then if (i.toNat<a.length:Bool) then wc ((⟨b⟩:a7),(a.getD i.toNat bG).bW,(⟨c⟩:a7),(a.getD i.toNat bG).bZ)>>=λd=>if !(d=0:Bool) then some (.inl false)else pw (aS .i64 i 1,b,c,a)else none else none else none else none else some (.inr ())
  partial_fixpoint
theorem Ub:cb 46 0 [0] NS pw:= .rx pw.partial_correctness (.k Qg .n)
def Ee(c:a7×Int×a7×Int):Option Bool:=
 match c with
 |(w,wt,r,rt)=>
 wP (w,wt,r,rt)>>=λb=>pw (0,w.Types,r.Types,b)>>=λo=>match o with
 |.inl a=>
 some a
 |.inr d=>
 some true
theorem Ut:bc acZ Ee:= .bm (.k P7 .n) (.k Ub .n)
def Av:cq×cq->Option (Bool×Int)
 |(w,r)=>
 wk (w,r)>>=λa=>if !(a=0:Bool) then some (false,a)else Ee (w.e1,w.aC,r.e1,r.aC)>>=λb=>some (b,0)
theorem Tq:bc acs Av:= .bm (.k PB (.k Ut .n))
def rP:Int×Int×List aK->Option (Int×List aK)
 |(b,k,a)=>
 some (decide (0<k))>>=λt39=>if(aB k a.length||(!t39)) then if((k.toNat<a.length:Bool)||(!t39)) then some (dM .i64 k 1)>>=λt48=>if(aB t48 a.length||(!t39)) then if((t48.toNat<a.length:Bool)||(!t39)) then some (decide ((a.getD k.toNat bG).bW<(a.getD t48.toNat bG).bW))>>=λt52=>if(aB k a.length||(!(t39&&(!t52)))) then if((k.toNat<a.length:Bool)||(!(t39&&(!t52)))) then some (dM .i64 k 1)>>=λt61=>if(aB t61 a.length||(!(t39&&(!t52)))) then if((t61.toNat<a.length:Bool)||(!(t39&&(!t52)))) then some (decide ((a.getD k.toNat bG).bW=(a.getD t61.toNat bG).bW))>>=λt65=>if(aB k a.length||(!(t39&&(!t52)&&t65))) then if((k.toNat<a.length:Bool)||(!(t39&&(!t52)&&t65))) then some (dM .i64 k 1)>>=λt74=>if(aB t74 a.length||(!(t39&&(!t52)&&t65))) then if((t74.toNat<a.length:Bool)||(!(t39&&(!t52)&&t65))) then if(bif t39 then bif t52 then true else bif t65 then ((a.getD k.toNat bG).bZ<(a.getD t74.toNat bG).bZ:Bool)else false else false) then some (dM .i64 k 1)>>=λt88=>some (dM .i64 k 1)>>=λt91=>if aB t91 a.length then if (t91.toNat<a.length:Bool) then if aB k a.length then if (k.toNat<a.length:Bool) then if aB k a.length then if (k.toNat<a.length:Bool) then some (a.set k.toNat (a.getD t91.toNat bG))>>=λl=>if aB t88 l.length then if (t88.toNat<l.length:Bool) then rP (b,dM .i64 k 1,l.set t88.toNat (a.getD k.toNat bG))else none else none else none else none else none else none else none else none else some (b,a)else none else none else none else none else none else none else none else none else none else none else none else none
  partial_fixpoint
theorem Sx:cb 17 0 [0,0] KI rP:= .rx rP.partial_correctness
def pF:Int×List aK->Option (List aK)
 |(i,a)=>
 if (i<(a.length:Int):Bool) then rP (i,i,a)>>=λb=>pF (aS .i64 b.1 1,b.2)else some a
  partial_fixpoint
theorem Td:cb 17 0 [0] MQ pF:= .rx pF.partial_correctness .n (.k Sx .n)
def wJ:cq×cq->Option (List aK×Int)
 |(w,r)=>
 Av (w,r)>>=λa=>if !(a.2=0:Bool) then some ([],a.2)else if !a.1 then some ([],12)else wP (w.e1,w.aC,r.e1,r.aC)>>=λb=>pF (1,b)>>=λo=>some (o,0)
theorem S4:bc acw wJ:= .bm (.k Tq (.k P7 .n)) (.k Td .n)
def o':Int×List aK×Int×cq×cq×List (List aK)×List aK->Option (Int×cq×cq×List (List aK)×List aK)
 |(b,l,k,e,f,a,d)=>
 if (k<(l.length:Int):Bool) then if aB k l.length then tG (l.getD k.toNat bG,d)>>=λc=>if((c.2.length=d.length:Bool)&&true) then if !c.1 then if aB k l.length then some [l.getD k.toNat bG]>>=λt87=>if room 16 (c.2++t87).length then if aB b a.length then if (b.toNat<a.length:Bool) then some (a.getD b.toNat [])>>=λt94=>if room 16 ([]++t94).length then some ([]++t94)>>=λg=>if aB k l.length then some [l.getD k.toNat bG]>>=λt100=>if room 16 (g++t100).length then some [g++t100]>>=λt102=>if room 24 (a++t102).length then o' (b,l,aS .i64 k 1,e,f,a++t102,c.2++t87)else none else none else none else none else none else none else none else none else o' (b,l,aS .i64 k 1,e,f,a,c.2)else none else none else some (b,e,f,a,d)
  partial_fixpoint
theorem Tr:cb 19 0 [0,0] KJ o':= .rx o'.partial_correctness (.k EM .n)
def rV:Int×cq×cq×List (List aK)×List aK->Option ((List aK×Int×Int) ⊕ (Unit))
 |(i,b,e,c,a)=>
 if (i<(c.length:Int):Bool) then if aB i a.length then if (i.toNat<a.length:Bool) then wc (b.e1,(a.getD i.toNat bG).bW,e.e1,(a.getD i.toNat bG).bZ)>>=λf=>if !(f=0:Bool) then if aB i c.length then if (i.toNat<c.length:Bool) then some (.inl (c.getD i.toNat [],f,0))else none else none else wx (b.e1,(a.getD i.toNat bG).bW,e.e1,(a.getD i.toNat bG).bZ)>>=λg=>o' (i,g,0,b,e,c,a)>>=λd=>rV (aS .i64 d.1 1,d.2.1,d.2.2.1,d.2.2.2.1,d.2.2.2.2)else none else none else some (.inr ())
  partial_fixpoint
theorem S5:cb 19 0 [0] MU rV:= .rx rV.partial_correctness (.k Qg (.k PH .n)) (.k Tr .n)
def Bc(c:cq×cq):Option (List aK×Int×Int):=
 match c with
 |(w,r)=>
 wk (w,r)>>=λb=>if !(b=0:Bool) then some ([],0,b)else rV (0,w,r,[[(⟨w.aC,r.aC⟩:aK)]],[(⟨w.aC,r.aC⟩:aK)])>>=λo=>match o with
 |.inl a=>
 some (a.1,a.2.1,a.2.2)
 |.inr d=>
 some ([],0,15)
theorem UR:bc acC Bc:= .bm (.k PB .n) (.k S5 .n)
def yw(c:lI):Option Bool:=
 xi c>>=λr=>wj ()>>=λi=>if(bif (!i)then true else(!r.2.2)) then wj ()>>=λj=>some j else wJ (r.1,r.2.1)>>=λb=>if (b.2=0:Bool) then tF (r.1,r.2.1,b.1)>>=λd=>(if d then AQ (r.1,r.2.1,(⟨true,b.1,[]⟩:hV))else some false)>>=λe=>some (bif d then e else false)else Bc (r.1,r.2.1)>>=λa=>some (decide (a.2.2=0))>>=λt51=>(if t51 then AZ (r.1,r.2.1,a.1)else some false)>>=λf=>some (bif t51 then f else false)>>=λt57=>(if t57 then tF (r.1,r.2.1,a.1)else some false)>>=λg=>some (bif t57 then(!g)else false)
theorem abK:bc fR yw:= .bm (.k VI (.k TO (.k S4 (.k PF (.k VB (.k UR (.k Vd .n)))))))
end
section
open Go Go.Proofs.YtkbmjabicjpmjaaGreatDoor.Shv
open Tryz
set_option maxRecDepth 100000




end
section
open Go Go.Proofs.YtkbmjabicjpmjaaGreatDoor.Shv
set_option maxRecDepth 100000

end
section
open Go Go.Proofs.YtkbmjabicjpmjaaGreatDoor.Shv
set_option maxRecDepth 100000
def iV(n:Nat):aD:=if n<128 then[UInt8.ofNat n]else UInt8.ofNat (n%128+128)::iV (n/128)
termination_by n
decreasing_by omega
theorem EX{n:Nat}(h:n<128):iV n=[UInt8.ofNat n]:=by rw[iV,ai h]
theorem FY{n:Nat}(h:¬n<128):iV n=UInt8.ofNat (n%128+128)::iV (n/128):=by rw[iV,av h]
theorem aas{a:Nat}(h:a<256):u3 .u8 (a:Int) 128=((a%128+128:Nat):Int):=by
 have key:∀a:Nat,a<256->u3 .u8 a 128=a%128+128:=by decide+kernel
 grind
theorem vh(n:Nat):ca .u8 (n:Int)=((n%256:Nat):Int):=by rfl
theorem aex(n:Nat):mc .u64 (n:Int) 7=((n/128:Nat):Int):=by
 unfold mc;have:(2^min (7:Int).toNat IntKind.u64.bits)=128:=by rfl
 grind
theorem Yt(m:Nat)(l:az):strOf ((m:Int)::l)=UInt8.ofNat m::strOf l:=rfl
theorem A0(a b:az):strOf (a++b)=strOf a++strOf b:=xY
variable{α e:Type}{p N:aD}{a v:ab}{x:Option Bool}{names:List aD}{q:Bool}{f:aY×aY->Option Bool}{t:af}{S:List dd}{E M K H id:Int}{c:List aY}{ts:List af}{L':Nat->Option (Int ⊕ Unit)}{o:Option (Int×Bool)}{L:Option (Bool ⊕ Unit)}
theorem Fs:∀(l:List α) (i:Nat) (x:α),i<l.length->(l.set i x).take (i+1)=l.take i++[x]
 |[],i,x,h=>by grind
 |a::l,0,x,h=>by rfl
 |a::l,i+1,x,h=>by simp[Fs l i x (by grind)]
theorem K':∀(f n i:Nat) (b:az),i+f=9->n<128*128^f->b.length=10->∃(cp c:Nat) (a:az),rB ((n:Int),(i:Int),b)=some ((cp:Int),(c:Int),a)/\cp<128/\c<=9/\a.length=10/\strOf (a.take c)++[UInt8.ofNat cp]=strOf (b.take i)++iV n
 |f,n,i,b,d,aV,k=>by
  rw[rB];by_cases hs:n<128
  . rw[av (by grind)];grind[EX]
  . rw[ai (by grind),ai (aU (by
     omega)),ai (by
     grind)]
    match f,d,aV with
    |0,d,aV=>grind
    |f+1,d,aV=>
     rw[aex,bO (by omega),vh,aas (Nat.mod_lt _ (by simp))];have aF:n/128<128*128^f:=(by omega);obtain⟨cp,c,a,h1,e,g,j,bh⟩:=K' f _ (i+1) (b.set i _) (by omega) aF (by grind);refine⟨cp,c,a,h1,e,g,j,?_⟩;rw[bh,Fs _ _ _ (by omega),A0,FY hs];have l:strOf [n%128+128]=[UInt8.ofNat _]:=rfl;grind
theorem se{n:Nat}(aV:n<18446744073709551616:=by omega):oc (n:Int)=some (iV n):=by
 obtain⟨cp,d,e,h1,f,g,i,bh⟩:=K' 9 n 0 [0,0,0,0,0,0,0,0,0,0] rfl (by grind) rfl;rw[oc];have a:rB (n,0,[0,0,0,0,0,0,0,0,0,0])=some _:=h1;rw[a];simp only[bl,aw];have c:gu 0 (d+1:Nat) 10=true:=Jf (by simp) (by omega);rw[ai (aU (by omega)),ai (by grind),bO (by omega),ai c,ai (by grind[vb]),bz,vh];have:cp%256=cp:=xU (by omega);rw[this];simp;rw[Fs _ _ _ (by omega),A0];have b:strOf [cp]=[UInt8.ofNat cp]:=rfl;rw[b,bh];rfl
theorem IS:∀(f n:Nat) (b:az),n<128^f->n<18446744073709551616->b.length+f<=1000->∃(cp:Nat) (a:az),tC ((n:Int),b)=some ((cp:Int),a)/\cp<128/\a.length<=1000/\strOf a++[UInt8.ofNat cp]=strOf b++iV n
 |f,n,b,aV,k,l=>by
  rw[tC];by_cases hs:n<128
  . rw[av (by grind)];grind[EX]
  . rw[ai (by grind)]
    match f,aV with
    |0,aV=>grind
    |f+1,aV=>
     have j:cy (n:Int) 128=((n%128:Nat):Int):=O' (b:=128);have g:aS .u64 _ 128=((n%128+128:Nat):Int):=zg (b:=128) (by omega);have i:h4 .u64 (n:Int) 128=((n/128:Nat):Int):=by
      grind[h4,Int.tdiv_eq_ediv_of_nonneg,qH]
     simp only[bl,aw];rw[j,g,i,vh,ai (e2 (by simp) (by grind))];have aF:n/128<128^f:=(by omega);obtain⟨cp,a,h1,c,d,e⟩:=IS f (n/128) (b++[(((n%128+128)%256:Nat):Int)]) aF (by omega) (by grind);refine⟨cp,a,h1,c,d,?_⟩;rw[e,A0,FY hs];have m:strOf [((n%128+128:Nat):Int)]=[UInt8.ofNat (n%128+128)]:=rfl;grind
theorem x9{n:Nat}(aV:n<18446744073709551616:=by omega):qk (n:Int)=some (iV n):=by
 obtain⟨cp,c,h1,d,e,a⟩:=IS 10 n [] (by grind) aV (by simp);rw[qk,h1];simp only[bl,aw];rw[ai (e2 (by simp) (by grind)),vh,A0];have:cp%256=cp:=xU (by omega);rw[this];have b:strOf [cp]=[UInt8.ofNat cp]:=rfl;rw[b,a];rfl
theorem FZ:∀(f n:Nat),n<128^(f+1)->(iV n).length<=f+1
 |f,n,aV=>by
  by_cases hs:n<128
  . grind[EX]
  . rw[FY hs]
    match f,aV with
    |0,aV=>grind
    |f+1,aV=>
     have:=FZ f (n/128) (by omega);grind
theorem kr{n:Nat}(aV:n<18446744073709551616):(iV n).length<=10:=FZ 9 n (by grind)
theorem uA{n:Nat}(h:n<256):(UInt8.ofNat n).toNat=n:=by simp_all
def gz(p:aD):aD:=iV p.length++p
theorem gy{n:Nat}(h:n<=9223372036854775807:=by omega):decide (n<=ej)=true:=by
 grind[ej]
theorem ZC(h:p.length<=1152921504606846976):pO p=some (gz p):=by
 rw[pO,kO,se];simp only[bl,aw];have:=kr (n:=p.length) (by omega);rw[ai (gy)];rfl
theorem BU(h:p.length<=1152921504606846976:=by omega):qh p=some (gz p):=by
 rw[qh,kO,x9];simp only[bl,aw];have:=kr (n:=p.length) (by omega);rw[ai (gy)];rfl
def kz(id:Nat)(c:Bool)(p:aD):aD:=iV (2*id+(if c then 1 else 0))++gz p
theorem HU(h:p.length<=1152921504606846976):(gz p).length<=p.length+10:=by
 grind[kr,gz]
theorem ZD{id:Nat}{c:Bool}(hid:id<=4611686018427387903)(h:p.length<=1152921504606846900):uz ((id:Int),c,p)=some (kz id c p):=by
 rw[uz];have e:hG .u64 2 (ca .u64 id)=(2*id:Nat):=by rw[kO];exact Dp (a:=2) (by omega)
 simp only[bl,aw];rw[e,ZC (by omega)];have ag:=HU (p:=p) (by omega);cases c with
 |true=>
  have d:aS .u64 _ 1=(2*id+1:Nat):=zg (b:=1) (by omega);rw[d,se];have:=kr (n:=2*id+1) (by omega);simp only[aw];rw[ai (gy)];rfl
 |false=>
  rw[se];have:=kr (n:=2*id) (by omega);simp only[aw];rw[ai (gy)];rfl
theorem Re{id:Nat}{c:Bool}(hid:id<=4611686018427387903)(h:p.length<=1152921504606846900):wo ((id:Int),c,p)=some (kz id c p):=by
 rw[wo];have d:ca .u64 (hG .i64 2 id)=(2*id:Nat):=by
  rw[aa' (by omega) (by omega)];have:(2:Int)*id=(2*id:Nat):=by rfl
  rw[this];exact kO
 simp only[bl,aw];rw[d,BU];have ag:=HU (p:=p) (by omega);cases c with
 |true=>
  have a:aS _ _ 1=(2*id+1:Nat):=zg (b:=1) (by omega);rw[a,x9];have:=kr (n:=2*id+1) (by omega);simp only[aw];rw[ai (gy)];rfl
 |false=>
  rw[x9];have:=kr (n:=2*id) (by omega);simp only[aw];rw[ai (gy)];rfl
inductive cP:ab->Prop
 |mk (v:ab) (hs:v.bL.length<=reachBytes) (h1:v.bb.length<=reachBytes) (adN:v.ar.length<=reachBytes) (afb:v.Rest.length<=reachBytes)
  (hk:∀x,x∈v.bb->cP x) (Dc:∀x,x∈v.ar->cP x) (afj:∀x,x∈v.Rest->x.Data.length<=reachBytes)
  (dR: -9223372036854775808<=v.Kind/\v.Kind<=9223372036854775807) (afo: -9223372036854775808<=v.bB/\v.bB<=9223372036854775807) (afp: -9223372036854775808<=v.ah/\v.ah<=9223372036854775807)
  (afq:∀x,x∈v.Rest->-9223372036854775808<=x.ah/\x.ah<=9223372036854775807):cP v
theorem eP{n:Nat}(h:n<=reachBytes):n<9223372036854775807:=Nat.lt_of_le_of_lt h (by decide)
theorem scan{c:Type}(L:Nat->Option c)(n:Nat)(p:Nat->Bool)(a b:c)(f:∀i,i<n->L i=if p i then L (i+1)else some a)(e:L n=some b):
 (L 0=some b/\∀j,j<n->p j=true)\/(L 0=some a/\∃j,j<n/\p j=false):=by
 have key:∀k i,i+k=n->(L i=some b/\∀j,i<=j->j<n->p j=true)\/(L i=some a/\∃j,j<n/\p j=false):=by
  intro k;induction k<;>grind
 rcases key n 0 (by simp)with⟨h1,d⟩|h
 all_goals grind
theorem ig{l:List α}{i:Nat}(h:i<l.length)(d:α):l.getD i d=l[i]:=by grind
theorem wZ{a b:List α}{p:Nat->Bool}(ag:a.length=b.length)(al:∀(i:Nat) (h1:i<a.length) (c:i<b.length),p i=true↔a[i]=b[i]):
 (∀j,j<a.length->p j=true)↔a=b:=by
 grind[List.ext_getElem]
def eN{α:Type}(o:Option Bool)(a b:α):Prop:=∃r,o=some r/\(r=true↔a=b)
theorem eN.DK{a b:List α}{p:Nat->Bool}(ag:a.length=b.length)(al:∀(i:Nat) (h1:i<a.length) (c:i<b.length),p i=true↔a[i]=b[i]){o:Option Bool}
 (h:(o=some true/\∀j,j<a.length->p j=true)\/(o=some false/\∃j,j<a.length/\p j=false)):eN o a b:=by
 rcases h with⟨h1,c⟩|⟨h1,j,c,e⟩
 . exact⟨true,h1,by simp[(wZ ag al).1 c]⟩
 . refine⟨false,h1,?_⟩;grind
theorem La{a b:cG}:(dZ a.ah b.ah&&(iM a.Data b.Data&&true))=true↔a=b:=by cases a;cases b;simp[dZ,iM]
theorem Lb{a b:dd}:(dZ a.ah b.ah&&(iM a.Name b.Name&&true))=true↔a=b:=by
 cases a;cases b;simp[dZ,iM]
theorem ud{a b:List α}(h:¬a.length=b.length):eN (some false) a b:=⟨false,rfl,by grind⟩
theorem LX{a b:List cG}(d:a.length<=reachBytes):eN (wD (a,b)) a b:=by
 rw[wD];by_cases ag:a.length=b.length
 . have f:=eP d;have:=scan (λi=>rO (a,b,(a.length:Int),(i:Int))) a.length (λi=>dZ (a.getD i ch).ah (b.getD i ch).ah&&(iM (a.getD i ch).Data (b.getD i ch).Data&&true)) (.inl false) (.inr ())
    (λi e=>by
     rw[rO,ai (by grind),ai (aU e)];simp[bl,aw,bz];rw[ai (aU (by omega)),bO (by omega)]
     grind)
    (by simp_all[rO])
   refine eN.DK (p:=λi=>dZ (a.getD i ch).ah (b.getD i ch).ah&&(iM (a.getD i ch).Data (b.getD i ch).Data&&true)) ag (λi h1 c=>by simp only[ig h1,ig c];exact La) ?_;grind
 . rw[ai (by grind)];exact ud ag
theorem abe{a b:List dd}(d:a.length<=reachBytes):eN (Al (a,b)) a b:=by
 rw[Al];by_cases ag:a.length=b.length
 . have f:=eP d;have:=scan (λi=>rN (a,b,(a.length:Int),(i:Int))) a.length (λi=>dZ (a.getD i dB).ah (b.getD i dB).ah&&(iM (a.getD i dB).Name (b.getD i dB).Name&&true)) (.inl false) (.inr ())
    (λi e=>by
     rw[rN,ai (aU e)];simp;rw[ai (aU (by omega)),bO (by omega)]
     grind)
    (by simp_all[rN])
   refine eN.DK (p:=λi=>dZ (a.getD i dB).ah (b.getD i dB).ah&&(iM (a.getD i dB).Name (b.getD i dB).Name&&true)) ag (λi h1 c=>by simp only[ig h1,ig c];exact Lb) ?_;grind
 . rw[ai (by grind)];exact ud ag
theorem BE(v:ab):(⟨v.Kind,v.cd,v.bB,v.bL,v.ah,v.bb,v.ar,v.Rest⟩:ab)=v:=by cases v;rfl
theorem IT{b:ab}:a=b↔a.Kind=b.Kind/\a.cd=b.cd/\a.bB=b.bB/\a.bL=b.bL/\a.ah=b.ah/\a.Rest=b.Rest/\a.bb=b.bb/\a.ar=b.ar:=by
 constructor
 . grind
 . cases a;cases b;grind
section
variable {f:ab×ab->Option Bool}
theorem EY {a b:List ab}(ag:a.length=b.length)(ih:∀x,x∈a->∀y,eN (f (x,y)) x y)(L:Nat->Option (Bool ⊕ Unit))
 (l:∀i,i<a.length->L i=(f (ab.eta (a.getD i aR),ab.eta (b.getD i aR))>>=λr=>if !r then some (.inl false)else L (i+1)))
 (e:L a.length=some (.inr ())):eN (L 0>>=λo=>match o with|.inl x=>some x|.inr _=>some true) a b:=by
 have d:∀(i:Nat) (h1:i<a.length) (c:i<b.length),eN (f (ab.eta (a.getD i aR),ab.eta (b.getD i aR))) a[i] b[i]:=by
  grind[ig,ab.b7]
 have:=scan L a.length (λi=>(f (ab.eta (a.getD i aR),ab.eta (b.getD i aR))).getD false) (.inl false) (.inr ())
  (λi g=>by
   obtain⟨r,h1,c⟩:=d i g (by omega)
   grind) e
 refine eN.DK ag (λi h1 c=>?_) ?_ (p:=λi=>(f (ab.eta (a.getD i aR),ab.eta (b.getD i aR))).getD false)
 . obtain⟨r,j,k⟩:=d i h1 c;grind
 grind
end
theorem KK{a b:List ab}(c:a.length<=reachBytes)(ih:∀x,x∈a->∀y,eN (lN (x,y)) x y):eN (tl (a,b)) a b:=by
 rw[tl];by_cases ag:a.length=b.length
 . rw[av (by grind)];have e:=eP c;exact EY ag ih (λi=>tL (b,a,a.length,i))
    (λi d=>by
     rw[tL,ai (by grind),ai (aU d),ai (aU (by omega)),bO (by omega)]
     rfl)
    (by grind[tL])
 . rw[ai (by grind)];exact ud ag
theorem KL{a b:List ab}(c:a.length<=reachBytes)(ih:∀x,x∈a->∀y,eN (lM (x,y)) x y):eN (wC (a,b)) a b:=by
 rw[wC];by_cases ag:a.length=b.length
 . rw[av (by grind)];have e:=eP c;exact EY ag ih (λi=>tM (b,a,a.length,i))
    (λi d=>by
     rw[tM,ai (by grind),ai (aU d),ai (aU (by omega)),bO (by omega)]
     rfl)
    (by simp_all[tM])
 . rw[ai (by grind)];exact ud ag
theorem KM{a b:List ab}(c:a.length<=reachBytes)(ih:∀x,x∈a->∀y,eN (jU (x,y)) x y):eN (wH (a,b)) a b:=by
 rw[wH];by_cases ag:a.length=b.length
 . rw[av (by grind)];have e:=eP c;exact EY ag ih (λi=>tm (a,b,i))
    (λi d=>by
     rw[tm,ai (by grind),ai (aU d),ai (aU (by omega)),bO (by omega)]
     rfl)
    (by grind[tm])
 . rw[ai (by grind)];exact ud ag
theorem three{b:ab}{bh:Bool}(iL:bh=true↔a.Kind=b.Kind/\a.cd=b.cd/\a.bB=b.bB/\a.bL=b.bL/\a.ah=b.ah){y z:Option Bool}(I:eN x a.Rest b.Rest)(ak:eN y a.bb b.bb)(g:eN z a.ar b.ar):
 eN (some bh>>=λt37=>(if t37 then x else some false)>>=λr=>some (bif t37 then r else false)>>=λt44=>(if t44 then y else some false)>>=λj=>some (bif t44 then j else false)>>=λt51=>(if t51 then z else some false)>>=λk=>some (bif t51 then k else false)) a b:=by
 obtain⟨c,e,m⟩:=I;obtain⟨d,f,n⟩:=ak;obtain⟨l,i,o⟩:=g;subst e;subst f;subst i;refine⟨bh&&c&&d&&l,?_,?_⟩
 . cases bh<;>cases c<;>cases d<;>rfl
 grind[IT]
theorem Ox{b:ab}:(bif bif bif bif decide (a.Kind=b.Kind)then fy a.cd b.cd else false then decide (a.bB=b.bB)else false then decide (a.bL=b.bL)else false then decide (a.ah=b.ah)else false)=true↔a.Kind=b.Kind/\a.cd=b.cd/\a.bB=b.bB/\a.bL=b.bL/\a.ah=b.ah:=by
 grind[fy]
theorem XN(h:cP a):∀b,eN (lN (a,b)) a b:=by
 induction h with
 |mk a hs h1 c d i g j dR k l m f e=>
  intro b;rw[lN];exact three Ox (LX d) (KK h1 f) (KK c e)
theorem Bv(h:cP a):∀b,eN (lM (a,b)) a b:=by
 induction h with
 |mk a hs h1 c d i g j dR k l m f e=>
  intro b;rw[lM];exact three Ox (LX d) (KL h1 f) (KL c e)
theorem Cn(h:cP a):∀b,eN (jU (a,b)) a b:=by
 induction h with
 |mk a hs h1 c e p o q dR u v w l k=>
  intro b;rw[jU];by_cases bh:a.Kind=b.Kind/\a.cd=b.cd/\a.bB=b.bB/\a.bL=b.bL/\a.ah=b.ah/\a.Rest.length=b.Rest.length
  . obtain⟨aN,n,dw,fR,iL,mx⟩:=bh;rw[av (by grind[fy])];have r:=eP e;have d:=scan (λi=>oq ((i:Int),a,b)) a.Rest.length (λi=>dZ (a.Rest.getD i ch).ah (b.Rest.getD i ch).ah&&(iM (a.Rest.getD i ch).Data (b.Rest.getD i ch).Data&&true)) (.inl false) (.inr (a,b))
     (λi f=>by
      rw[oq,ai (aU f)];simp only[bl,aw,bz,ab.b7];rw[ai (aU (by omega)),bO (by omega)]
      grind)
     (by rw[oq,c8,ab.b7,ab.b7])
    have h0:oq (((0:Nat):Int),a,b)=oq (0,a,b):=rfl;simp only[h0]at d;rw[BE,BE];have al:∀(i:Nat) (h1:i<a.Rest.length) (c:i<b.Rest.length),(dZ (a.Rest.getD i ch).ah (b.Rest.getD i ch).ah&&(iM (a.Rest.getD i ch).Data (b.Rest.getD i ch).Data&&true))=true↔a.Rest[i]=b.Rest[i]:=λi h1 c=>by grind[ig,La]
    rcases d with⟨g1,g2⟩|⟨g1,j,g2,g3⟩
    . have s:=(wZ mx al).1 g2;rw[g1];obtain⟨qB,bn,bt⟩:=KM (a:=a.bb) (b:=b.bb) h1 l;obtain⟨m,g,t⟩:=KM (a:=a.ar) (b:=b.ar) c k;simp only[bl,aw];rw[bn,g];refine⟨qB&&m,by cases qB<;>rfl,?_⟩;simp_all[IT,cO]
    . rw[g1];refine⟨false,rfl,?_⟩;grind
  . rw[ai]
    . refine⟨false,rfl,?_⟩;grind
    . simp only[zW,fy];grind
def oi(c:Int):Bool:=decide (c=95\/(97<=c/\c<=122)\/(65<=c/\c<=90))
def yq(c:Int):Bool:=decide (48<=c/\c<=57)
theorem BF(c:Int):xk c=some (oi c):=by
 rw[xk];unfold oi;grind
theorem IU(c:Int):v' c=some (oi c):=by
 rw[v'];unfold oi;grind
theorem ZE(c:Int):AJ c=some (yq c):=by
 rw[AJ];unfold yq;grind
theorem ZF(c:Int):A7 c=some (yq c):=by
 rw[A7];unfold yq;grind
theorem JK(A B b9:Bool)(X a:Option e)(b:b9=true):
 (some A>>=λc=>some (!c)>>=λt26=>if(b9||(!t26)) then(if t26 then some B else some false)>>=λd=>if(bif t26 then(!d)else false) then X else a else none)=if(A||B) then a else X:=by
 subst b;cases A<;>cases B<;>rfl
theorem KN(s:aD):∃r,jW s=some r/\r1 s=some r:=by
 rw[jW,r1];simp only[bl,aw];by_cases f:s=[]\/24<s.length
 . have ht:(bif decide (s=[])then true else decide (24<(s.length:Int)))=true:=(by grind);rw[ht];simp_all
 . have l:s≠[]:=λh=>f (.inl h);have o:s.length<=24:=(by omega);have ht:(bif decide (s=[])then true else decide (24<(s.length:Int)))=false:=(by grind);have m:0<s.length:=zT.2 l;have g:aB 0 s.length=true:=aU (k:=0) m;simp only[ht,g,l8,bJ,eL,aw,BF,IU,eF];cases ag:oi (jf s 0)with
   |false=>exact⟨false,rfl,rfl⟩
   |true=>
    rw[c8,c8];let p:Nat->Bool:=λi=>oi (jf s i)||yq (jf s i);have s1:=scan (λi=>k9 (s,(s.length:Int),(i:Int))) s.length p (.inl false) (.inr ())
     (λi a=>by
      rw[k9,cg,ai (aU a),BF,ZE,bO (by omega)]
      exact JK _ _ _ _ _ (aU a))
     (by rw[k9,c8])
    have b:=scan (λi=>nU (s,(i:Int))) s.length p (.inl false) (.inr ())
     (λi a=>by
      rw[nU,cg,ai (aU a),IU,ZF,bO (by omega)]
      exact JK _ _ _ _ _ (aU a))
     (by rw[nU,c8])
    have aN:k9 (s,(s.length:Int),((0:Nat):Int))=k9 (s,(s.length:Int),0):=rfl;have e:nU (s,((0:Nat):Int))=nU (s,0):=rfl;simp only[aN,e]at s1 b;rcases s1 with⟨a1,a2⟩|⟨a1,j,a2,a3⟩<;>rcases b with⟨c,d⟩|⟨c,k,d,n⟩
    . simp_all
    . grind
    . grind
    simp_all
def nm(s:aD):Bool:=(jW s).getD false
theorem si(s:aD):jW s=some (nm s):=by
 obtain⟨r,h1,_⟩:=KN s;unfold nm;rw[h1];rfl
theorem yN(s:aD):r1 s=some (nm s):=by
 obtain⟨r,h1,a⟩:=KN s;unfold nm;rw[h1,a];rfl
theorem Dr{s:aD}(h:nm s=true):s≠[]:=by
 rintro rfl
 unfold nm at h;rw[jW]at h;simp at h
def jH(l:az)(names:List aD)(i:Nat):Bool:=
 decide (1<=l.getD i 0)&&decide (l.getD i 0<=1000)&&(decide (i=0)||decide (l.getD (i-1) 0<l.getD i 0))&&nm (names.getD i []) && !((names.take i).contains (names.getD i []))
def kN(l:List aD):List aD:=l.foldl h' []
theorem ZG(ks:List aD)(a s:aD):gb (h' ks a) s=(gb ks s||decide (a=s)):=by
 unfold h';split
 . grind
 . simp[gb,List.any_append]
theorem HV(l:List aD)(s:aD):gb (kN l) s=l.contains s:=by
 have key:∀(l:List aD) (ks:List aD),gb (l.foldl h' ks) s=(gb ks s||l.contains s):=by
  intro l;induction l with
  |nil=>intro ks;simp
  |cons a r ih=>
   intro ks;rw[kK,ih,ZG,Bool.or_assoc];grind
 have:=key l [];simpa[kN,gb]using this
theorem HX{l:List aD}{i:Nat}(h:i<l.length):h' (kN (l.take i)) (l.getD i [])=kN (l.take (i+1)):=by
 unfold kN;rw[List.take_add_one,zV,df h,ig h];rfl
theorem aat{f:Type}(A a b C b9 H N:Bool)(X c:Option f)(d:b9=true)(e:a=true->b=true):
 (if(b||(!((!A)&&a))) then
  some (bif A then true else bif a then C else false)>>=λt34=>
  if(b9||(!(!t34))) then
   some (bif t34 then true else H)>>=λt42=>
   if(b9||(!(!t42))) then
    (if !t42 then some N else some false)>>=λr=>
    if(bif t42 then true else(!r)) then X else(if b9 then c else none)
   else none
  else none
 else none)=if !A&&(!a || !C)&&N && !H then c else X:=by
 subst d;cases a with
 |true=>have:=e rfl;subst this;cases A<;>cases C<;>cases H<;>cases N<;>rfl
 |false=>cases A<;>cases b<;>cases C<;>cases H<;>cases N<;>rfl
theorem LY{l:az}(ag:l.length<=reachBytes)(aV:names.length=l.length):∃r,w6 (l,names)=some r/\(r=true↔(∀i,i<l.length->jH l names i=true)/\l.length<=16):=by
 rw[w6];have m:=eP ag;have b:=scan (λi=>n3 (l,names,l,(l.length:Int),(i:Int),kN (names.take i))) l.length (jH l names) (.inl false) (.inr l)
  (λi d=>by
   have a:i<names.length:=(by omega);rw[n3,cg,ai (aU d)];simp only[bz];rw[si,bO (by omega),HX a,HV];have f:0<i->dM .i64 (i:Int) 1=((i-1:Nat):Int):=by intro h;rw[sd];omega
   refine(aat (bif decide (l.getD i 0<1)then true else decide (1000<l.getD i 0)) (decide ((0:Int)<(i:Int))) (aB (dM .i64 (i:Int) 1) l.length) (decide (l.getD i 0<=l.getD (dM .i64 (i:Int) 1).toNat 0)) (aB (i:Int) names.length) ((names.take i).contains (names.getD i [])) (nm (names.getD i [])) _ _ (aU a) (λg=>?_)).trans ?_
   . have e:0<i:=by simp at g;omega
     rw[f e];exact aU (by omega)
   . have:(!(bif decide (l.getD i 0<1)then true else decide (1000<l.getD i 0))&&(!(decide ((0:Int)<(i:Int))) || !(decide (l.getD i 0<=l.getD (dM .i64 (i:Int) 1).toNat 0)))&&nm (names.getD i []) && !((names.take i).contains (names.getD i [])))=jH l names i:=by
      unfold jH;grind
     rw[this])
  (by rw[n3,c8])
 have dc:n3 (l,names,l,(l.length:Int),((0:Nat):Int),kN (names.take 0))=n3 (l,names,l,(l.length:Int),0,[]):=rfl;simp only[dc]at b;rcases b with⟨h1,c⟩|⟨h1,j,c,k⟩
 . rw[h1];refine⟨decide ((l.length:Int)<=16),rfl,?_⟩;grind
 . rw[h1];refine⟨false,rfl,?_⟩;grind
theorem BV{k n:Nat}(a:k<=16)(h:n*24<=reachBytes:=by simp;omega):room k n=true:=by
 unfold room hi dk;unfold reachBytes at h;simp only[cO,gg];have:(2*n+192)*k<=(2*n+192)*16:=Nat.mul_le_mul_left _ a;omega
theorem tV(l:List α)(i:Nat)(d:α)(h:i<l.length):l.take i++[l.getD i d]=l.take (i+1):=by simp_all
theorem iJ{a:Type}(f:α->a)(l:List α)(i:Nat)(d:α)(e:a)(h:i<l.length):(l.map f).getD i e=f (l.getD i d):=by grind
theorem pN{l:List aD}{i:Nat}{s:aD}(b:i<=l.length):(l.take i).contains s=true↔∃k,k<i/\l.getD k []=s:=by
 rw[Dy];constructor
 . intro h;obtain⟨k,a,he⟩:=jk h;rw[u0]at a;refine⟨k,by omega,?_⟩;grind
 . rintro ⟨k,a,he⟩
   rw[<-he,ig (by omega)];have:(l.take i)[k]'(by rw[u0];omega)=l[k]:=List.getElem_take;grind
def kT(l:az)(i:Nat):Int:=if i=0 then 0 else l.getD (i-1) 0
theorem KO{l:az}{i:Nat}(e:i<l.length)(aV:names.length=l.length):
 jH l names i=(decide (kT l i<l.getD i 0)&&decide (1<=l.getD i 0)&&decide (l.getD i 0<=1000)&&nm (names.getD i []) && !((names.take i).contains (names.getD i []))):=by
 unfold jH kT;generalize l.getD i 0=x;generalize l.getD (i-1) 0=y;generalize nm (names.getD i [])=a;generalize (names.take i).contains (names.getD i [])=b;by_cases h0:i=0
 . subst h0;by_cases h1:1<=x
   . have:decide ((0:Int)<x)=true:=by simp;omega
     simp[h1,this]
   . simp[h1]
 . simp only[h0,bN,dn,Bool.false_or];by_cases h1:1<=x<;>by_cases c:x<=1000<;>by_cases d:y<x<;>simp[h1,c,d]
theorem HY(l:List dd)(ag:l.length*24<=reachBytes):∀(k i:Nat),i+k=l.length->pH (l,l,(l.length:Int),(i:Int),(l.map (·.ah)).take i,(l.map (·.Name)).take i)=some (l,l.map (·.ah),l.map (·.Name))
 |0,i,h=>by
  have:i=l.length:=by omega
  subst this;rw[pH,c8];rw[uU (by simp),uU (by simp)]
 |k+1,i,h=>by
  have b:l.length<9223372036854775807:=by unfold reachBytes at ag;omega
  have a:i<l.length:=by omega
  rw[pH,cg,ai (aU a)];simp only[bl,aw,bz];rw[<-iJ (·.ah) l i dB 0 a,<-iJ (·.Name) l i dB [] a,tV _ _ _ (by simpa using a),tV _ _ _ (by simpa using a)];rw[ai (BV (by omega)),ai (BV (by omega)),bO (by omega)];exact HY l ag k (i+1) (by omega)
theorem KP{l:List dd}(ag:l.length*24<=reachBytes):∃r,uu l=some r/\(r=true↔0<l.length/\(∀i,i<l.length->jH (l.map (·.ah)) (l.map (·.Name)) i=true)/\l.length<=16):=by
 have h:=HY l ag l.length 0 (by omega);have a:pH (l,l,(l.length:Int),0,[],[])=some (l,l.map (·.ah),l.map (·.Name)):=h;rw[uu,a];simp only[bl,aw];obtain⟨r,h1,b⟩:=LY (l:=l.map (·.ah)) (names:=l.map (·.Name)) (by simp;unfold reachBytes at*;omega) (by simp);rw[qy]at b;grind
theorem O9(a b:Int):xo (a,b)=some (decide (a<b)&&decide (1<=b)&&decide (b<=1000)):=by
 rw[xo];grind
theorem XO(l:List dd)(ag:l.length<=reachBytes)(i:Nat)(b:i<l.length):
 m' (l,(i:Int),0)=some (if((l.map (·.Name)).take i).contains ((l.map (·.Name)).getD i []) then .inl false else .inr (l,(i:Int))):=by
 have f:=eP ag;have d:=scan (λk=>m' (l,(i:Int),(k:Int))) i (λk=>!(decide ((l.getD k dB).Name=(l.getD i dB).Name))) (.inl false) (.inr (l,(i:Int)))
  (λk c=>by
   rw[m',cg,ai (aU (by omega)),ai (aU b),bO (by omega)]
   grind)
  (by rw[m',c8])
 have dc:m' (l,(i:Int),((0:Nat):Int))=m' (l,(i:Int),0):=rfl;simp only[dc]at d;rw[iJ (·.Name) l i dB [] b];rcases d with⟨h1,a⟩|⟨h1,j,a,e⟩
 . rw[h1,av];rw[pN (by simp;omega)]
   rintro ⟨k,c,he⟩
   rw[iJ (·.Name) l k dB [] (by omega)]at he;have:=a k c;rw[he]at this;simp at this
 . rw[h1,ai];rw[pN (by simp;omega)];refine⟨j,a,?_⟩;rw[iJ (·.Name) l j dB [] (by omega)];simpa using e
theorem aau{l:List dd}(ag:l.length<=reachBytes):∃r,wN l=some r/\(r=true↔0<l.length/\(∀i,i<l.length->jH (l.map (·.ah)) (l.map (·.Name)) i=true)/\l.length<=16):=by
 have f:=eP ag;have b:=scan (λi=>ow (l,kT (l.map (·.ah)) i,(i:Int))) l.length (jH (l.map (·.ah)) (l.map (·.Name))) (.inl false) (.inr l)
  (λi a=>by
   rw[ow,cg,ai (aU a),O9,XO l ag i a,KO (by simpa using a) (by simp)];simp only[bl,aw,bz];rw[<-iJ (·.ah) l i dB 0 a,<-iJ (·.Name) l i dB [] a,yN];generalize (decide (kT (l.map (·.ah)) i<(l.map (·.ah)).getD i 0)&&decide (1<=(l.map (·.ah)).getD i 0)&&decide ((l.map (·.ah)).getD i 0<=1000))=q;rw[ai (by rw[aU a];rfl)];cases q with
   |false=>rfl
   |true=>
    simp only[ds,eL,bJ,aw,l7];cases nm ((l.map (·.Name)).getD i [])with
    |false=>rfl
    |true=>
     simp only[ds,eF,bU,bN,l7];cases e:((l.map (·.Name)).take i).contains ((l.map (·.Name)).getD i [])with
     |true=>simp
     |false=>
      simp only[bU,bN,eL,bJ];rw[ai (aU a),bO (by omega)];have:kT (l.map (·.ah)) (i+1)=(l.getD i dB).ah:=by
       unfold kT;grind
      grind)
  (by rw[ow,c8])
 have dc:ow (l,kT (l.map (·.ah)) 0,((0:Nat):Int))=ow (l,0,0):=rfl;simp only[dc]at b;rw[wN];rcases b with⟨h1,c⟩|⟨h1,j,c,d⟩
 . rw[h1];refine⟨_,rfl,?_⟩;grind
 . rw[h1];refine⟨false,rfl,?_⟩;grind
theorem YS{l:List dd}(ag:l.length*24<=reachBytes):∃r,uu l=some r/\wN l=some r:=by
 obtain⟨r,h1,a⟩:=KP ag;obtain⟨q,b,c⟩:=aau (l:=l) (by unfold reachBytes at*;omega);grind
structure e0 (t:af):Prop where
 syms:t.br.length*24<=reachBytes
 gX:t.ae.length*24<=reachBytes
 hX:∀m,m∈t.ae->cP m.bC
theorem jx{n:Nat}(h:n*24<=reachBytes):n<=reachBytes:=by unfold reachBytes at*;omega
theorem XP{a b:aY}:a=b↔a.ah=b.ah/\a.Name=b.Name/\a.aC=b.aC/\a.cJ=b.cJ/\a.bX=b.bX/\a.bC=b.bC:=by cases a;cases b;simp
theorem lO(x:aY):(⟨x.ah,x.Name,x.aC,x.cJ,x.bX,ab.eta x.bC⟩:aY)=x:=by cases x;simp[ab.b7]
theorem Oy{a b:aY}:(bif bif bif bif decide (a.ah=b.ah)then decide (a.Name=b.Name)else false then decide (a.aC=b.aC)else false then fy a.cJ b.cJ else false then fy a.bX b.bX else false)=true↔a.ah=b.ah/\a.Name=b.Name/\a.aC=b.aC/\a.cJ=b.cJ/\a.bX=b.bX:=by
 simp only[zW,fy];grind
theorem Pe{a b:aY}(f:q=true↔a.ah=b.ah/\a.Name=b.Name/\a.aC=b.aC/\a.cJ=b.cJ/\a.bX=b.bX)(I:eN x a.bC b.bC):
 eN (some q>>=λt37=>(if t37 then x else some false)>>=λr=>some (bif t37 then r else false)) a b:=by
 obtain⟨d,h1,e⟩:=I;subst h1;refine⟨q&&d,by cases q<;>cases d<;>rfl,?_⟩;rw[XP,cO,f,e];constructor
 . rintro ⟨⟨a1,a2,a3,a4,a5⟩,c⟩;exact⟨a1,a2,a3,a4,a5,c⟩
 . rintro ⟨a1,a2,a3,a4,a5,c⟩;exact⟨⟨a1,a2,a3,a4,a5⟩,c⟩
theorem YT{a:aY}(h:cP a.bC)(b:aY):eN (xj (a,b)) a b:=by
 rw[xj];simp only[BE,ab.b7];exact Pe Oy (Bv h _)
theorem YU{a:aY}(h:cP a.bC)(b:aY):eN (wI (a,b)) a b:=by
 rw[wI];simp only[BE,ab.b7];exact Pe Oy (Cn h _)
theorem Rf{l:Type}{g:l}{a b:List aY}(ag:a.length=b.length)(ih:∀x,x∈a->∀y,eN (f (x,y)) x y)(L:Nat->Option (Bool ⊕ l))
 (p:∀i,i<a.length->L i=(f (a.getD i aG,b.getD i aG)>>=λr=>if !r then some (.inl false)else L (i+1)))
 (m:L a.length=some (.inr g)):(L 0=some (.inr g)/\a=b)\/(L 0=some (.inl false)/\a≠b):=by
 have k:∀(i:Nat) (h1:i<a.length) (c:i<b.length),eN (f (a.getD i aG,b.getD i aG)) a[i] b[i]:=by grind
 have al:∀(i:Nat) (h1:i<a.length) (c:i<b.length),(f (a.getD i aG,b.getD i aG)).getD false=true↔a[i]=b[i]:=by
  intro i h1 c;obtain⟨r,d,o⟩:=k i h1 c;grind
 have:=scan L a.length (λi=>(f (a.getD i aG,b.getD i aG)).getD false) (.inl false) (.inr g)
  (λi n=>by
   obtain⟨r,h1,c⟩:=k i n (by omega)
   grind) m
 rcases this with⟨h1,c⟩|⟨h1,j,c,d⟩
 . exact .inl ⟨h1,(wZ ag al).1 c⟩
 . refine .inr ⟨h1,λe=>?_⟩;have:=(wZ ag al).2 e j c;rw[d]at this;cases this
theorem V3{a b:List aY}(d:a.length<=reachBytes)(aj:∀m,m∈a->cP m.bC):eN (Ai (a,b)) a b:=by
 rw[Ai];by_cases ag:a.length=b.length
 . rw[de];have j:=eP d;have hs:=Rf (g:=()) ag (f:=xj) (λx I y=>YT (aj x I) y) (λi=>om (b,a,(a.length:Int),(i:Int)))
    (λi e=>by
     rw[om,cg,ai (aU e)];simp only[bl,aw,bz,lO]
     rw[ai (aU (by omega)),bO (by omega)])
    (by rw[om,c8])
   have dc:om (b,a,(a.length:Int),((0:Nat):Int))=om (b,a,(a.length:Int),0):=rfl;simp only[dc]at hs;rcases hs with⟨h1,c⟩|⟨h1,c⟩
   . rw[h1];exact⟨true,rfl,by simp[c]⟩
   . rw[h1];exact⟨false,rfl,by simp[c]⟩
 . rw[cg];exact ud ag
theorem JL{a b:af}:a=b↔a.Kind=b.Kind/\a.Name=b.Name/\a.bH=b.bH/\a.bK=b.bK/\a.Max=b.Max/\a.Key=b.Key/\a.aQ=b.aQ/\a.Open=b.Open/\a.br=b.br/\a.ae=b.ae:=by
 cases a;cases b;grind
theorem abf{a b:af}:(bif bif bif bif bif bif bif decide (a.Kind=b.Kind)then decide (a.Name=b.Name)else false then decide (a.bH=b.bH)else false then decide (a.bK=b.bK)else false then decide (a.Max=b.Max)else false then decide (a.Key=b.Key)else false then decide (a.aQ=b.aQ)else false then fy a.Open b.Open else false)=true↔
 a.Kind=b.Kind/\a.Name=b.Name/\a.bH=b.bH/\a.bK=b.bK/\a.Max=b.Max/\a.Key=b.Key/\a.aQ=b.aQ/\a.Open=b.Open:=by
 simp only[zW,fy];by_cases h1:a.Kind=b.Kind<;>by_cases c:a.Name=b.Name<;>by_cases d:a.bH=b.bH<;>by_cases e:a.bK=b.bK<;>simp[h1,c,d,e];by_cases bh:a.Max=b.Max<;>by_cases f:a.Key=b.Key<;>by_cases g:a.aQ=b.aQ<;>simp[bh,f,g]
theorem ij{a:af}(h:e0 a)(b:af):eN (hg (a,b)) a b:=by
 rw[hg];obtain⟨d,s1,g⟩:=abe (a:=a.br) (b:=b.br) (jx h.syms);obtain⟨c,e,f⟩:=V3 (a:=a.ae) (b:=b.ae) (jx h.gX) h.hX;have e8:=abf (a:=a) (b:=b);generalize (bif bif bif bif bif bif bif decide (a.Kind=b.Kind)then decide (a.Name=b.Name)else false then decide (a.bH=b.bH)else false then decide (a.bK=b.bK)else false then decide (a.Max=b.Max)else false then decide (a.Key=b.Key)else false then decide (a.aQ=b.aQ)else false then fy a.Open b.Open else false)=q at e8⊢;simp only[bl,aw];rw[s1,e];refine⟨q&&d&&c,by cases q<;>cases d<;>cases c<;>rfl,?_⟩;rw[JL,cO,cO,e8,g,f];grind
theorem F0(a:af):(⟨a.Kind,a.Name,a.bH,a.bK,a.Max,a.br,a.ae,a.Key,a.aQ,a.Open⟩:af)=a:=by cases a;rfl
theorem oj{a:af}(h:e0 a)(b:af):eN (Ad (a,b)) a b:=by
 rw[Ad];simp only[F0];by_cases bh:(a.Kind=b.Kind/\a.Name=b.Name/\a.bH=b.bH/\a.bK=b.bK/\a.Max=b.Max/\a.Key=b.Key/\a.aQ=b.aQ/\a.Open=b.Open)/\a.br.length=b.br.length/\a.ae.length=b.ae.length
 . obtain⟨⟨aN,l,dw,fR,iL,mx,my,e8⟩,d,c⟩:=bh;rw[av (by simp[aN,l,dw,fR,iL,mx,my,e8,d,c,fy])];have s:=eP (jx h.syms);have t:=eP (jx h.gX);have k:=scan (λi=>ot ((i:Int),a,b)) a.br.length (λi=>dZ (a.br.getD i dB).ah (b.br.getD i dB).ah&&(iM (a.br.getD i dB).Name (b.br.getD i dB).Name&&true)) (.inl false) (.inr (a,b))
    (λi n=>by
     rw[ot,cg,ai (aU n)];simp only[bl,aw,bz];rw[ai (aU (by omega)),bO (by omega)]
     grind)
    (by rw[ot,c8])
   have h0:ot (((0:Nat):Int),a,b)=ot (0,a,b):=rfl;simp only[h0]at k;have al:∀(i:Nat) (h1:i<a.br.length) (e:i<b.br.length),(dZ (a.br.getD i dB).ah (b.br.getD i dB).ah&&(iM (a.br.getD i dB).Name (b.br.getD i dB).Name&&true))=true↔a.br[i]=b.br[i]:=λi h1 e=>by rw[ig h1,ig e];exact Lb
   rcases k with⟨g1,g2⟩|⟨g1,j,g2,g3⟩
   . have u:=(wZ d al).1 g2;rw[g1];simp only[bl,aw];have hs:=Rf (g:=()) c (f:=wI) (λx I y=>YU (h.hX x I) y) (λi=>ou ((i:Int),a,b))
      (λi m=>by
       rw[ou,cg,ai (aU m)];simp only[bl,aw,bz,lO]
       rw[ai (aU (by omega)),bO (by omega)])
      (by rw[ou,c8])
     have dc:ou (((0:Nat):Int),a,b)=ou (0,a,b):=rfl;simp only[dc]at hs;rcases hs with⟨bn,bt⟩|⟨bn,bt⟩
     . rw[bn];refine⟨true,rfl,?_⟩;rw[JL];grind
     . rw[bn];refine⟨false,rfl,?_⟩;grind
   . rw[g1];refine⟨false,rfl,?_⟩;grind
 . rw[ai]
   . refine⟨false,rfl,?_⟩;grind
   . simp only[zW,fy];by_cases o:a.Kind=b.Kind<;>by_cases p:a.Name=b.Name<;>by_cases q:a.bH=b.bH<;>by_cases r:a.bK=b.bK<;>simp[o,p,q,r];grind
def oF(v:ab):Bool:=(lM (v,aR)).getD false
theorem aav(h:cP v):lM (v,aR)=some (oF v):=by
 obtain⟨r,h1,a⟩:=Bv h aR;unfold oF;rw[h1];rfl
theorem aaw(h:cP v):jU (v,aR)=some (oF v):=by
 obtain⟨r,h1,b⟩:=Bv h aR;obtain⟨q,a,c⟩:=Cn h aR;unfold oF;rw[h1,a];grind
theorem Zn(h:cP v):AW v=some (oF v):=by
 rw[AW,ab.b7];have:=aav h;unfold aR at this;grind
def nN(a:Bool)(m:aY):Bool:=(a&&(m.cJ||m.bX))||(m.cJ&&m.bX)||(!m.bX && !oF m.bC)
theorem bM{l:List α}{i:Nat}(h:i<l.length)(d:α):l.getD i d∈l:=by grind
theorem HZ(h:e0 t):∃r,rz t=some r/\(r=true↔(∀i,i<t.ae.length->nN (decide (t.Kind=6)) (t.ae.getD i aG)=false)/\(t.Kind=5\/0<t.ae.length)/\(∀i,i<t.ae.length->jH (t.ae.map (·.ah)) (t.ae.map (·.Name)) i=true)/\t.ae.length<=16):=by
 have g:t.ae.length<9223372036854775807:=eP (jx h.gX);have b:=scan (λi=>n0 (t.ae,(t.ae.length:Int),(i:Int),t,(t.ae.map (·.ah)).take i,(t.ae.map (·.Name)).take i)) t.ae.length (λi=>!(nN (decide (t.Kind=6)) (t.ae.getD i aG))) (.inl false) (.inr (t,t.ae.map (·.ah),t.ae.map (·.Name)))
  (λi a=>by
   have f:=Zn (h.hX _ (bM a aG));rw[n0,cg,ai (aU a)];simp only[bl,aw,bz,ab.b7];rw[<-iJ (·.ah) t.ae i aG 0 a,<-iJ (·.Name) t.ae i aG [] a,tV _ _ _ (by simpa using a),tV _ _ _ (by simpa using a)];have d:((t.ae.map (·.ah)).take (i+1)).length*24<=reachBytes:=by
    refine hK (eY _ ?_) h.gX;simp;omega
   have e:((t.ae.map (·.Name)).take (i+1)).length*24<=reachBytes:=(by grind);rw[ai (BV (by omega) d),ai (BV (by omega) e),bO (by omega),f];unfold nN
   grind)
  (by
   rw[n0,c8]
   rw[uU (by simp),uU (by simp)])
 have dc:n0 (t.ae,(t.ae.length:Int),((0:Nat):Int),t,(t.ae.map (·.ah)).take 0,(t.ae.map (·.Name)).take 0)=n0 (t.ae,(t.ae.length:Int),0,t,[],[]):=rfl;simp only[dc]at b;rw[rz];obtain⟨r,h1,c⟩:=LY (l:=t.ae.map (·.ah)) (names:=t.ae.map (·.Name)) (by simpa using jx h.gX) (by simp);rw[qy]at c;rcases b with⟨g1,g2⟩|⟨g1,j,g2,g3⟩
 . rw[g1];simp only[bl,aw];rw[h1];refine⟨(bif decide (t.Kind=5)then true else decide (0<((t.ae.map (·.ah)).length:Int)))&&r,?_,?_⟩
   . grind
   grind
 grind
theorem XQ(l:List aY)(record:Bool)(ag:l.length<=reachBytes)(i:Nat)(e:i<l.length):
 na (l,record,(i:Int),0,l.getD i aG)=some (if((l.map (·.Name)).take i).contains ((l.map (·.Name)).getD i []) then .inl false else .inr (l,record,(i:Int),l.getD i aG)):=by
 have f:=eP ag;have c:=scan (λk=>na (l,record,(i:Int),(k:Int),l.getD i aG)) i (λk=>!(decide ((l.getD k aG).Name=(l.getD i aG).Name))) (.inl false) (.inr (l,record,(i:Int),l.getD i aG))
  (λk b=>by
   rw[na,cg,ai (aU (by omega)),bO (by omega)];simp only[bz,lO]
   grind)
  (by rw[na,c8,lO])
 have dc:na (l,record,(i:Int),((0:Nat):Int),l.getD i aG)=na (l,record,(i:Int),0,l.getD i aG):=rfl;simp only[dc]at c;rw[iJ (·.Name) l i aG [] e];rcases c with⟨h1,a⟩|⟨h1,j,a,d⟩
 . rw[h1,av];rw[pN (by simp;omega)]
   rintro ⟨k,b,he⟩
   rw[iJ (·.Name) l k aG [] (by omega)]at he;have:=a k b;rw[he]at this;simp at this
 . rw[h1,ai];rw[pN (by simp;omega)];refine⟨j,a,?_⟩;rw[iJ (·.Name) l j aG [] (by omega)];simpa using d
theorem XR{l:List aY}{record:Bool}(ag:l.length<=reachBytes)(aj:∀m,m∈l->cP m.bC):∃r,tv (l,record)=some r/\(r=true↔(∀i,i<l.length->nN (!record) (l.getD i aG)=false)/\(record=true\/0<l.length)/\(∀i,i<l.length->jH (l.map (·.ah)) (l.map (·.Name)) i=true)/\l.length<=16):=by
 have k:=eP ag;have b:=scan (λi=>ox (l,record,kT (l.map (·.ah)) i,(i:Int))) l.length (λi=>jH (l.map (·.ah)) (l.map (·.Name)) i && !(nN (!record) (l.getD i aG))) (.inl false) (.inr (l,record))
  (λi a=>by
   have c:=aaw (aj _ (bM a aG));unfold aR at c;rw[ox,cg,ai (aU a)];simp only[bl,aw,bz,ab.b7,lO,KO (l:=l.map (·.ah)) (names:=l.map (·.Name)) (i:=i) (by simpa using a) (by simp)];rw[XQ l record ag i a,c];have e:kT (l.map (·.ah)) (i+1)=(l.getD i aG).ah:=by
    unfold kT;grind
   rw[<-iJ (·.ah) l i aG 0 a,<-iJ (·.Name) l i aG [] a,O9,yN];simp only[aw];generalize (decide (kT (l.map (·.ah)) i<(l.map (·.ah)).getD i 0)&&decide (1<=(l.map (·.ah)).getD i 0)&&decide ((l.map (·.ah)).getD i 0<=1000))=q;cases q with
   |false=>simp
   |true=>
    simp only[ds,eL,bJ,aw,l7];cases nm ((l.map (·.Name)).getD i [])with
    |false=>simp
    |true=>
     simp only[ds,l7,gZ,eF];unfold nN;cases record<;>cases (l.getD i aG).cJ<;>cases (l.getD i aG).bX<;>cases oF (l.getD i aG).bC <;>
      simp only[ds,eL,Bool.or_self,Bool.and_self,Bool.or_true,l8,qA,Bool.and_false,Bool.false_and,l7,Bool.false_or,gZ,dX,eF,bJ,bN,bU,aw] <;>
      first
       |rfl
       |(cases g:((l.map (·.Name)).take i).contains ((l.map (·.Name)).getD i [])with
        |true=>simp
        |false=>
         simp only[bU,bN,eL,bJ];rw[bO (by omega),e]
         try rfl))
  (by rw[ox,c8])
 have dc:ox (l,record,kT (l.map (·.ah)) 0,((0:Nat):Int))=ox (l,record,0,0):=rfl;simp only[dc]at b;rw[tv];rcases b with⟨h1,d⟩|⟨h1,j,d,f⟩
 . rw[h1];refine⟨_,rfl,?_⟩;grind
 . rw[h1];refine⟨false,rfl,?_⟩;grind
theorem IV(h:e0 t)(d:t.Kind=5\/t.Kind=6):∃r,rz t=some r/\tv (t.ae,decide (t.Kind=5))=some r:=by
 obtain⟨r,h1,a⟩:=HZ h;obtain⟨q,b,c⟩:=XR (l:=t.ae) (record:=decide (t.Kind=5)) (jx h.gX) h.hX;have e:(!(decide (t.Kind=5)))=decide (t.Kind=6):=by grind
 grind
theorem e0.plain{k l h m kk e:Int}{n:aD}{a:List aY}{o:Bool}(aE:S.length*24<=reachBytes)(c:a.length*24<=reachBytes)(aj:∀x,x∈a->cP x.bC):e0 ⟨k,n,l,h,m,S,a,kk,e,o⟩:=⟨aE,c,aj⟩
theorem adC{L:Int}{d:Bool}(h:e0 (⟨1,N,L,H,M,S,c,K,E,d⟩:af)):∃r,fZ (⟨1,N,L,H,M,S,c,K,E,d⟩:af)=some r/\gV (⟨1,N,L,H,M,S,c,K,E,d⟩:af)=some r/\(r=true->N=[]):=by
 obtain⟨a,a1,a2⟩:=ij (a:=(⟨0,N,L,H,M,S,c,K,E,d⟩:af)) ⟨h.syms,h.gX,h.hX⟩ (⟨0,[],0,0,0,[],[],0,0,false⟩:af);obtain⟨b,e,g⟩:=oj h (⟨1,[],0,0,0,[],[],0,0,false⟩:af);have f:a=b:=by grind
 subst f;refine⟨a,by simp[fZ,a1],by simp[gV,lG,jz,e];try (cases a<;>rfl),λi=>?_⟩;grind
theorem adD{L:Int}{d:Bool}(h:e0 (⟨2,N,L,H,M,S,c,K,E,d⟩:af)):∃r,fZ (⟨2,N,L,H,M,S,c,K,E,d⟩:af)=some r/\gV (⟨2,N,L,H,M,S,c,K,E,d⟩:af)=some r/\(r=true->N=[]):=by
 obtain⟨a,a1,a2⟩:=ij (a:=(⟨0,N,0,0,M,S,c,K,E,d⟩:af)) ⟨h.syms,h.gX,h.hX⟩ (⟨0,[],0,0,0,[],[],0,0,false⟩:af);obtain⟨b,e,g⟩:=oj h (⟨2,[],L,H,0,[],[],0,0,false⟩:af);have f:a=b:=by grind
 subst f;refine⟨decide (L<=H)&&a,?_,?_,λi=>?_⟩
 . simp only[fZ];grind
 . simp only[gV];generalize decide (L<=H)=q;simp[lG,jz,e];grind
 grind
theorem adE{L:Int}{d:Bool}(h:e0 (⟨3,N,L,H,M,S,c,K,E,d⟩:af)):∃r,fZ (⟨3,N,L,H,M,S,c,K,E,d⟩:af)=some r/\gV (⟨3,N,L,H,M,S,c,K,E,d⟩:af)=some r/\(r=true->N=[]):=by
 obtain⟨a,a1,a2⟩:=ij (a:=(⟨0,N,L,H,0,S,c,K,E,d⟩:af)) ⟨h.syms,h.gX,h.hX⟩ (⟨0,[],0,0,0,[],[],0,0,false⟩:af);obtain⟨b,e,g⟩:=oj h (⟨3,[],0,0,M,[],[],0,0,false⟩:af);have f:a=b:=by grind
 subst f;refine⟨(bif decide (0<=M)then decide (M<=200)else false)&&a,?_,?_,λi=>?_⟩
 . simp only[fZ];grind
 . simp only[gV];generalize (bif decide (0<=M)then decide (M<=200)else false)=q;simp[lG,jz,e];grind
 grind
theorem adF{L:Int}{d:Bool}(h:e0 (⟨4,N,L,H,M,S,c,K,E,d⟩:af)):∃r,fZ (⟨4,N,L,H,M,S,c,K,E,d⟩:af)=some r/\gV (⟨4,N,L,H,M,S,c,K,E,d⟩:af)=some r/\(r=true->N≠[]):=by
 obtain⟨a,a1,a2⟩:=ij (a:=(⟨0,[],L,H,M,[],c,K,E,false⟩:af)) ⟨(by simp),h.gX,h.hX⟩ (⟨0,[],0,0,0,[],[],0,0,false⟩:af);obtain⟨b,g,k⟩:=oj h (⟨4,N,0,0,0,S,[],0,0,d⟩:af);have i:a=b:=by grind
 subst i;obtain⟨q,j,f⟩:=YS (l:=S) h.syms;refine⟨nm N&&q&&a,?_,?_,λe=>?_⟩
 . simp only[fZ];simp[a1,j,si];grind
 . simp only[gV]
   try simp at f
   simp[lG,jz,g,f,yN];grind
 . simp only[cO]at e;exact Dr e.1.1
theorem adG{L:Int}{d:Bool}(h:e0 (⟨5,N,L,H,M,S,c,K,E,d⟩:af)):∃r,fZ (⟨5,N,L,H,M,S,c,K,E,d⟩:af)=some r/\gV (⟨5,N,L,H,M,S,c,K,E,d⟩:af)=some r/\(r=true->N≠[]):=by
 obtain⟨a,a1,a2⟩:=ij (a:=(⟨0,[],L,H,M,S,[],K,E,(bif d then decide ((5:Int)=5)else false)⟩:af)) ⟨h.syms,(by simp),(by simp)⟩ (⟨0,[],0,0,0,[],[],0,0,false⟩:af);obtain⟨b,i,k⟩:=oj h (⟨5,N,0,0,0,[],c,0,0,false⟩:af);have j:a=b:=by grind
 subst j;obtain⟨q,f,g⟩:=IV h (by simp);refine⟨nm N&&q&&a,?_,?_,λe=>?_⟩
 . simp only[fZ]
   try simp at a1
   try simp at f
   simp[a1,f,si];grind
 . simp only[gV]
   try simp at g
   simp[lG,jz,i,g,yN];grind
 . simp only[cO]at e;exact Dr e.1.1
theorem adH{L:Int}{d:List aY}{c:Bool}(h:e0 (⟨6,N,L,H,M,S,d,K,E,c⟩:af)):∃r,fZ (⟨6,N,L,H,M,S,d,K,E,c⟩:af)=some r/\gV (⟨6,N,L,H,M,S,d,K,E,c⟩:af)=some r/\(r=true->N≠[]):=by
 obtain⟨a,a1,a2⟩:=ij (a:=(⟨0,[],L,H,M,S,[],K,E,(bif c then decide ((6:Int)=5)else false)⟩:af)) ⟨h.syms,(by simp),(by simp)⟩ (⟨0,[],0,0,0,[],[],0,0,false⟩:af);obtain⟨b,i,k⟩:=oj h (⟨6,N,0,0,0,[],d,0,0,c⟩:af);have j:a=b:=by grind
 subst j;obtain⟨q,f,g⟩:=IV h (by simp);refine⟨nm N&&q&&a,?_,?_,λe=>?_⟩
 . simp only[fZ]
   try simp at a1
   try simp at f
   simp[a1,f,si];grind
 . simp only[gV]
   try simp at g
   simp[lG,jz,i,g,yN];grind
 . simp only[cO]at e;exact Dr e.1.1
theorem adI{L:Int}{d:Bool}(h:e0 (⟨7,N,L,H,M,S,c,K,E,d⟩:af)):∃r,fZ (⟨7,N,L,H,M,S,c,K,E,d⟩:af)=some r/\gV (⟨7,N,L,H,M,S,c,K,E,d⟩:af)=some r/\(r=true->N=[]):=by
 obtain⟨a,a1,a2⟩:=ij (a:=(⟨0,N,L,H,0,S,c,K,0,d⟩:af)) ⟨h.syms,h.gX,h.hX⟩ (⟨0,[],0,0,0,[],[],0,0,false⟩:af);obtain⟨b,e,g⟩:=oj h (⟨7,[],0,0,M,[],[],0,E,false⟩:af);have f:a=b:=by grind
 subst f;refine⟨(bif decide (0<=M)then decide (M<=50)else false)&&a,?_,?_,λi=>?_⟩
 . simp only[fZ];grind
 . simp only[gV];generalize (bif decide (0<=M)then decide (M<=50)else false)=q;simp[lG,jz,e];grind
 grind
theorem adJ{L:Int}{d:Bool}(h:e0 (⟨8,N,L,H,M,S,c,K,E,d⟩:af)):∃r,fZ (⟨8,N,L,H,M,S,c,K,E,d⟩:af)=some r/\gV (⟨8,N,L,H,M,S,c,K,E,d⟩:af)=some r/\(r=true->N=[]):=by
 obtain⟨a,a1,a2⟩:=ij (a:=(⟨0,N,L,H,0,S,c,0,0,d⟩:af)) ⟨h.syms,h.gX,h.hX⟩ (⟨0,[],0,0,0,[],[],0,0,false⟩:af);obtain⟨b,e,g⟩:=oj h (⟨8,[],0,0,M,[],[],K,E,false⟩:af);have f:a=b:=by grind
 subst f;refine⟨(bif decide (0<=M)then decide (M<=50)else false)&&a,?_,?_,λi=>?_⟩
 . simp only[fZ];grind
 . simp only[gV];generalize (bif decide (0<=M)then decide (M<=50)else false)=q;simp[lG,jz,e];grind
 grind
theorem adK{L:Int}{d:Bool}(h:e0 (⟨9,N,L,H,M,S,c,K,E,d⟩:af)):∃r,fZ (⟨9,N,L,H,M,S,c,K,E,d⟩:af)=some r/\gV (⟨9,N,L,H,M,S,c,K,E,d⟩:af)=some r/\(r=true->N=[]):=by
 obtain⟨a,a1,a2⟩:=ij (a:=(⟨0,N,L,H,M,S,c,K,0,d⟩:af)) ⟨h.syms,h.gX,h.hX⟩ (⟨0,[],0,0,0,[],[],0,0,false⟩:af);obtain⟨b,e,g⟩:=oj h (⟨9,[],0,0,0,[],[],0,E,false⟩:af);have f:a=b:=by grind
 subst f;refine⟨a,by simp[fZ,a1],by simp[gV,lG,jz,e];try (cases a<;>rfl),λi=>?_⟩;grind
def j2(k:Int):Bool:=bif bif decide (k=4)then true else decide (k=5)then true else decide (k=6)
theorem IW(h:e0 t):∃r,fZ t=some r/\gV t=some r/\(r=true->1<=t.Kind/\t.Kind<=9/\j2 t.Kind=!(decide (t.Name=[]))):=by
 by_cases b:1<=t.Kind/\t.Kind<=9
 . obtain⟨a,N,L,H,M,S,c,K,E,d⟩:=t;simp at b;have:a=1\/a=2\/a=3\/a=4\/a=5\/a=6\/a=7\/a=8\/a=9:=(by omega);rcases this with rfl|rfl|rfl|rfl|rfl|rfl|rfl|rfl|rfl
   . grind[adC,j2]
   . grind[adD,j2]
   . grind[adE,j2]
   . grind[adF,j2]
   . grind[adG,j2]
   . grind[adH,j2]
   . grind[adI,j2]
   . grind[adJ,j2]
   grind[adK,j2]
 . refine⟨false,?_,?_,λh=>by grind⟩
   . have e:∀k,1<=k->k<=9->¬t.Kind=k:=λk h1 f e=>b (by omega);simp_all[fZ]
   . have e:(bif decide (t.Kind<1)then true else decide (9<t.Kind))=true:=(by grind);rw[gV,e];rfl
def e9(t:af):az:=t.ae.map (·.aC)++(if t.Kind=8 then[t.Key]else[])++(if 7<=t.Kind then[t.aQ]else[])
theorem tR{k n:Nat}(a:k<=16){m:Nat}(h:m*24<=reachBytes)(aV:n<=m+2):room k n=true:=by
 unfold room hi dk;unfold reachBytes at h;simp;have:(2*n+192)*k<=(2*n+192)*16:=Nat.mul_le_mul_left _ a;omega
theorem H0(t:af)(h:t.ae.length*24<=reachBytes):∀(k i:Nat),i+k=t.ae.length->rA (t.ae,(t.ae.length:Int),(i:Int),t,(t.ae.map (·.aC)).take i)=some (t,t.ae.map (·.aC))
 |0,i,a=>by grind[rA,List.take_of_length_le]
 |k+1,i,a=>by
  have b:=eP (jx h);have aF:i<t.ae.length:=by omega
  rw[rA,ai (by grind),ai (aU aF)];simp only[bl,aw,bz];rw[<-iJ (·.aC) _ i _ 0 aF,tV _ _ _ (by grind),bO (by omega),ai (tR (by simp) h (by grind))];exact H0 t h k _ (by omega)
theorem aax(h:t.ae.length*24<=reachBytes):BM t=some (e9 t):=by
 have h0:=H0 t h t.ae.length 0 (by simp);rw[BM];unfold e9;have a:room 8 (t.ae.map (·.aC)++[t.Key]).length=true:=tR (by simp) h (by simp);have b:room 8 (t.ae.map (·.aC)++[t.Key]++[t.aQ]).length=true:=tR (m:=t.ae.length) (by simp) h (by simp);grind
theorem H2(t:af)(h:t.ae.length*24<=reachBytes):∀(k i:Nat),i+k=t.ae.length->rW ((i:Int),t,(t.ae.map (·.aC)).take i)=some (t,t.ae.map (·.aC))
 |0,i,a=>by grind[rW,List.take_of_length_le]
 |k+1,i,a=>by
  have b:=eP (jx h);have aF:i<t.ae.length:=by omega
  rw[rW,ai (by grind),ai (aU aF)];simp only[bl,aw,bz];rw[<-iJ (·.aC) _ i _ 0 aF,tV _ _ _ (by grind),bO (by omega),ai (tR (by simp) h (by grind))];exact H2 t h k _ (by omega)
theorem aay(h:t.ae.length*24<=reachBytes)(a:t.Kind<=9):Bf t=some (e9 t):=by
 have h0:=H2 t h t.ae.length 0 (by simp);rw[Bf];unfold e9;have b:room 8 (t.ae.map (·.aC)++[t.Key]).length=true:=tR (by simp) h (by simp);have c:room 8 (t.ae.map (·.aC)++[t.Key]++[t.aQ]).length=true:=tR (m:=t.ae.length) (by simp) h (by simp);grind
theorem aaz(k:Int):jz k=some (j2 k):=rfl
def vV(k:Int):Bool:=bif decide (1<=k)then decide (k<=4)else false
def oM(n:Nat)(u:Int):Bool:=bif decide (u<0)then true else decide ((n:Int)<=u)
def sE(ts:List af)(i:Nat):Option Int:=
 let t:=ts.getD i aL
 if !((fZ t).getD false)then some 1 else if !(decide (t.Name=[]))&&((ts.map (·.Name)).take i).contains t.Name then some 1 else if(e9 t).any (oM ts.length)then some 4 else if decide (t.Kind=8) && !(vV (ts.getD t.Key.toNat aL).Kind)then some 1 else none
theorem F1{i:Nat}{r:Bool}(dy:ts.getD i aL=t)(f1:fZ t=some r):
 sE ts i=if !r then some 1 else if !(t.Name=[]:Bool)&&((ts.map (·.Name)).take i).contains t.Name then some 1 else if(e9 t).any (oM ts.length) then some 4 else if((t.Kind=8:Bool) && !(vV (ts.getD t.Key.toNat aL).Kind)) then some 1 else none:=by
 grind[sE]
theorem JM{c:Type}(L:Nat->Option c)(l:az)(q:Int->Bool)(a b:c)(f:∀i,i<l.length->L i=if q (l.getD i 0)then some a else L (i+1))(d:L l.length=some b):
 L 0=some (if l.any q then a else b):=by
 have:=scan L l.length (λi=>!(q (l.getD i 0))) a _ (λi e=>by grind) d;grind[List.getElem_of_mem]
theorem IX(h:t.ae.length*24<=reachBytes):(e9 t).length<9223372036854775807:=by
 grind[e9,reachBytes]
theorem abg{L:Nat->Option (Int ⊕ Unit)}{n:Nat}{step:Nat->Option Int}
 (h:∀i,i<n->L i=match step i with|some e=>some (.inl e)|none=>L (i+1))(he:L n=some (.inr ()))
 (a:∀i,i<n->L' i=match step i with|some e=>some (.inl e)|none=>L' (i+1))(f:L' n=some (.inr ())):∃o,L 0=some o/\L' 0=some o/\((o= .inr ()/\∀i,i<n->step i=none)\/∃i e,i<n/\step i=some e/\o= .inl e):=by
 have key:∀k i,i+k=n->∃o,L i=some o/\L' i=some o/\((o= .inr ()/\∀m,i<=m->m<n->step m=none)\/∃m e,m<n/\step m=some e/\o= .inl e):=by
  intro k;induction k with
  |zero=>grind
  |succ k ih=>
   intro i g;rw[a i (by omega)];cases j:step i with
   |some e=>grind
   |none=>
    obtain⟨o,b,c,d⟩:=ih (i+1) (by omega);grind
 obtain⟨o,b,c,d⟩:=key n 0 (by simp);grind
theorem LZ(b:(e9 t).any (oM ts.length)=false)(a:t.Kind=8):aB t.Key ts.length=true:=by
 grind[e9,oM,aB]
theorem abh(ts:List af)(t:af)(i:Nat)(d:i<ts.length)(f:ts.length<9223372036854775807):
 ng ((i:Int),0,ts,t.Kind,t.Name,t.bH,t.bK,t.Max,t.br,t.ae,t.Key,t.aQ,t.Open)=some (if(j2 t.Kind&&((ts.map (·.Name)).take i).contains t.Name) then .inl 1 else .inr ((i:Int),ts,t.Kind,t.Name,t.bH,t.bK,t.Max,t.br,t.ae,t.Key,t.aQ,t.Open)):=by
 have b:=scan (λk=>ng (i,k,ts,t.Kind,t.Name,t.bH,t.bK,t.Max,t.br,t.ae,t.Key,t.aQ,t.Open)) i (λk=>!(bif j2 t.Kind then decide ((ts.getD k aL).Name=t.Name)else false)) (.inl 1) (.inr (i,ts,t.Kind,t.Name,t.bH,t.bK,t.Max,t.br,t.ae,t.Key,t.aQ,t.Open))
  (λk e=>by
   rw[ng,ai (by grind),aaz];simp only[bl,aw];rw[ai (by grind[aU]),bO (by omega)]
   grind)
  (by simp_all[ng])
 have dc:ng ((i:Int),(0:Nat),ts,t.Kind,t.Name,t.bH,t.bK,t.Max,t.br,t.ae,t.Key,t.aQ,t.Open)=ng ((i:Int),0,ts,t.Kind,t.Name,t.bH,t.bK,t.Max,t.br,t.ae,t.Key,t.aQ,t.Open):=rfl;simp at b;rcases b with⟨h1,a⟩|⟨h1,j,a,c⟩
 . rw[h1,av];rw[cO,pN (by grind)];grind
 . rw[h1,ai];rw[cO,pN (by grind)];cases aV:j2 _ with
   |false=>grind
   |true=>
    refine⟨rfl,j,a,?_⟩;grind
theorem abi(ts:List af)(t:af)(i:Nat)(l:az)(ag:l.length<9223372036854775807):
 o9 ((i:Int),l,0,ts,t.Kind,t.Name,t.bH,t.bK,t.Max,t.br,t.ae,t.Key,t.aQ,t.Open)=some (if l.any (oM ts.length) then .inl 4 else .inr ((i:Int),ts,t.Kind,t.Name,t.bH,t.bK,t.Max,t.br,t.ae,t.Key,t.aQ,t.Open)):=
 JM (λj=>o9 (i,l,j,ts,t.Kind,t.Name,t.bH,t.bK,t.Max,t.br,t.ae,t.Key,t.aQ,t.Open)) l _ _ _
  (λj a=>by
   rw[o9,ai (by grind),ai (aU a)];simp only[bl,aw];rw[ai (by grind[aU]),bO (by omega)]
   rfl)
  (by grind[o9])
theorem XS{s:a7}(hs:s.Types.length<=reachBytes)(ht:∀t,t∈s.Types->e0 t):∃e,oa s=some e/\p' s=some e/\(e=0->s.Types.length<=32/\∀i,i<s.Types.length->sE s.Types i=none)/\((s.Types.length<=32/\∀i,i<s.Types.length->sE s.Types i=none)->e=0)/\e≠12:=by
 rw[oa,p'];by_cases x:32<s.Types.length
 . exact⟨3,by grind,by grind,λh=>(by grind),λh=>absurd h.1 (by omega),by simp⟩
 . rw[av (by grind),av (by grind)];have q:s.Types.length<9223372036854775807:=(by omega);have:=abg (L:=λi=>qi (s.Types,(s.Types.length:Int),(i:Int),s.Types,kN ((s.Types.map (·.Name)).take i))) (L':=λi=>pg ((i:Int),s.Types)) (n:=s.Types.length) (step:=sE s.Types)
    (λi b=>by
     have a:=ht _ (bM b aL);obtain⟨r,f1,f2,f3⟩:=IW a;rw[qi,ai (by grind),ai (aU b)];simp only[bl,aw,bz];generalize dy:s.Types.getD i aL=t at*;rw[F1 dy f1,f1];simp only[aw,HV];cases r with
     |false=>rfl
     |true=>
      by_cases aj:(!(decide (t.Name=[]))&&((s.Types.map (·.Name)).take i).contains t.Name)=true
      . grind
      . have k:¬((bif (!(decide (t.Name=[])))then((s.Types.map (·.Name)).take i).contains t.Name else false)=true):=(by grind);rw[av (show ¬((bif (!true)then true else bif (!(decide (t.Name=[])))then((s.Types.map (·.Name)).take i).contains t.Name else false)=true)from k),av aj,aax a.gX];simp only[aw];have y:=IX a.gX;have l:=JM (λj=>n1 (s.Types,(s.Types.length:Int),(i:Int),e9 t,((e9 t).length:Int),(j:Int),s.Types,h' (kN ((s.Types.map (·.Name)).take i)) t.Name,t.Kind,t.Name,t.bH,t.bK,t.Max,t.br,t.ae,t.Key,t.aQ,t.Open)) (e9 t) (oM s.Types.length) (.inl 4)
         (.inr (s.Types,(s.Types.length:Int),(i:Int),s.Types,h' (kN ((s.Types.map (·.Name)).take i)) t.Name,t.Kind,t.Name,t.bH,t.bK,t.Max,t.br,t.ae,t.Key,t.aQ,t.Open))
         (λj m=>by
          rw[n1,ai (by grind),ai (aU m),bO (by omega)]
          rfl)
         (by simp_all[n1,av])
        have dc:n1 (s.Types,(s.Types.length:Int),(i:Int),e9 t,((e9 t).length:Int),((0:Nat):Int),s.Types,h' (kN ((s.Types.map (·.Name)).take i)) t.Name,t.Kind,t.Name,t.bH,t.bK,t.Max,t.br,t.ae,t.Key,t.aQ,t.Open)=n1 (s.Types,(s.Types.length:Int),(i:Int),e9 t,((e9 t).length:Int),0,s.Types,h' _ t.Name,t.Kind,t.Name,t.bH,t.bK,t.Max,t.br,t.ae,t.Key,t.aQ,t.Open):=rfl;rw[<-dc,l];cases d:(e9 t).any (oM s.Types.length)with
        |true=>rfl
        |false=>
         simp only[bU,bN,aw];have u:h' (kN ((s.Types.map (·.Name)).take i)) t.Name=kN ((s.Types.map (·.Name)).take (i+1)):=by
          grind[HX]
         rw[u,bO (by omega)];by_cases c:t.Kind=8
         . have p:=LZ d c;simp only[c,cL,dX,l7,vV];grind
         grind)
    (by simp_all[qi,av])
    (λi b=>by
     have a:=ht _ (bM b aL);obtain⟨r,f1,f2,f3⟩:=IW a;rw[pg,ai (by grind),ai (aU b)];simp only[bl,aw,bz];generalize dy:s.Types.getD i aL=t at*;rw[F1 dy f1,f2,abh s.Types t i b q];simp only[aw];cases r with
     |false=>rfl
     |true=>
      obtain⟨bn,bt,bY⟩:=f3 rfl;rw[av (show ¬((!true)=true) by simp),bY];cases aj:(!(decide (t.Name=[]))&&((s.Types.map (·.Name)).take i).contains t.Name)with
      |true=>rfl
      |false=>
       simp only[bU,bN,F0];rw[aay a.gX bt];simp only[aw];rw[abi s.Types t i (e9 t) (IX a.gX)];cases d:(e9 t).any (oM s.Types.length)with
       |true=>rfl
       |false=>
        simp only[bU,bN,aw];rw[bO (by omega)];by_cases c:t.Kind=8
        . have p:=LZ d c;rw[ai (by grind)];simp only[c,cL,bJ,wK,aw,dX,l7];show(if !(vV (s.Types.getD t.Key.toNat aL).Kind) then some (.inl 1)else pg (((i+1:Nat):Int),s.Types))=_;grind
        grind)
    (by simp_all[pg,av])
   obtain⟨o,h1,w,f⟩:=this;have v:qi (s.Types,(s.Types.length:Int),0,s.Types,[])=some o:=h1;rcases f with⟨rfl,g⟩|⟨i,e,g,bh,rfl⟩
   . simp_all
   grind[sE]
theorem x'{d:Type}(L:Nat->Option d)(n:Nat)(q:Nat->Bool)(a:Nat->d)(c:d)(g:∀i,i<n->L i=if q i then some (a i)else L (i+1))(e:L n=some c):
 (∃j,j<n/\q j=true/\(∀k,k<j->q k=false)/\L 0=some (a j))\/((∀k,k<n->q k=false)/\L 0=some c):=by
 have key:∀k i,i+k=n->(∀m,m<i->q m=false)->L 0=L i->(∃j,j<n/\q j=true/\(∀k,k<j->q k=false)/\L 0=some (a j))\/((∀k,k<n->q k=false)/\L 0=some c):=by
  intro k;induction k with
  |zero=> intro i f b h0; have:i = n:= by omega
          subst this;exact .inr ⟨b,by rw[h0,e]⟩
  |succ k ih=>
   intro i f b h0;rw[g i (by omega)]at h0;grind
 exact key n 0 (by omega) (λm b=>by omega) rfl
def sf(l:List aY)(id:Int)(r:Int×Bool):Prop:=(∃j:Nat,j<l.length/\(l.getD j aG).ah=id/\(∀k,k<j->(l.getD k aG).ah≠id)/\r=((j:Int),true))\/((∀k,k<l.length->(l.getD k aG).ah≠id)/\r=(0,false))
theorem Fc{l:List aY}{r q:Int×Bool}(h1:sf l id r)(b:sf l id q):r=q:=by
 rcases h1 with⟨j,a1,a2,a3,rfl⟩|⟨a1,rfl⟩<;>rcases b with⟨k,a,c,d,rfl⟩|⟨a,rfl⟩
 . grind
 . grind
 . grind
 . rfl
theorem Ex(ag:t.ae.length<9223372036854775807):∃r,gk (t,id)=some r/\sf t.ae id r:=by
 rw[gk,D1];have h:=x' (λi=>oo (t.ae,(t.ae.length:Int),(i:Int),id)) t.ae.length (λi=>decide ((t.ae.getD i aG).ah=id)) (λi=>.inl ((i:Int),id)) (.inr id)
  (λi e=>by
   rw[oo,cg,ai (aU e)];simp only[bl,aw,bz,lO,Eg]
   rw[bO (by omega)])
  (by rw[oo,c8])
 have dc:oo (t.ae,(t.ae.length:Int),((0:Nat):Int),id)=oo (t.ae,(t.ae.length:Int),0,id):=rfl;simp only[dc]at h;rcases h with⟨j,h1,c,d,a⟩|⟨h1,a⟩
 . rw[a];refine⟨((j:Int),true),?_,.inl ⟨j,h1,by simpa using c,λk b=>by simpa using d k b,rfl⟩⟩;have aN:nv (j:Int) 0=(j:Int):=by unfold nv;omega
   simp_all
 . rw[a];exact⟨(0,false),rfl,.inr ⟨λk b=>by simpa using h1 k b,rfl⟩⟩
theorem Q4(ag:t.ae.length<9223372036854775807):∃r,hv (t,id)=some r/\sf t.ae id r:=by
 rw[hv];have h:=x' (λi=>nV (id,(i:Int),t)) t.ae.length (λi=>decide ((t.ae.getD i aG).ah=id)) (λi=>.inl ((i:Int),true)) (.inr ())
  (λi e=>by
   rw[nV,cg,ai (aU e),bO (by omega)]
   grind)
  (by rw[nV,c8])
 have dc:nV (id,((0:Nat):Int),t)=nV (id,0,t):=rfl;simp only[dc]at h;rcases h with⟨j,h1,c,d,a⟩|⟨h1,a⟩
 . rw[a];exact⟨((j:Int),true),rfl,.inl ⟨j,h1,by simpa using c,λk b=>by simpa using d k b,rfl⟩⟩
 . rw[a];exact⟨(0,false),rfl,.inr ⟨λk b=>by simpa using h1 k b,rfl⟩⟩
theorem pR(id:Int)(ag:t.ae.length<9223372036854775807):∃r,gk (t,id)=some r/\hv (t,id)=some r/\sf t.ae id r:=by
 obtain⟨r,h1,a⟩:=Ex (id:=id) ag;obtain⟨q,c,b⟩:=Q4 (id:=id) ag;have:=Fc a b;grind
def tS(l:List dd)(id:Int)(r:Int×Bool):Prop:=(∃j:Nat,j<l.length/\(l.getD j dB).ah=id/\(∀k,k<j->(l.getD k dB).ah≠id)/\r=((j:Int),true))\/((∀k,k<l.length->(l.getD k dB).ah≠id)/\r=(0,false))
theorem XF{l:List dd}{r q:Int×Bool}(h1:tS l id r)(b:tS l id q):r=q:=by
 rcases h1 with⟨j,a1,a2,a3,rfl⟩|⟨a1,rfl⟩<;>rcases b with⟨k,a,c,d,rfl⟩|⟨a,rfl⟩
 . grind
 . grind
 . grind
 . rfl
theorem w0(id:Int)(ag:t.br.length<9223372036854775807):∃r,pK (t,id)=some r/\r2 (t,id)=some r/\tS t.br id r:=by
 rw[pK,D0,r2];have h:=x' (λi=>mX (t.br,(t.br.length:Int),(i:Int),id)) t.br.length (λi=>decide ((t.br.getD i dB).ah=id)) (λi=>.inl ((i:Int),id)) (.inr id)
  (λi f=>by
   rw[mX,cg,ai (aU f)];simp only[bl,aw,bz,Ef]
   rw[bO (by omega)])
  (by rw[mX,c8])
 have dc:mX (t.br,(t.br.length:Int),((0:Nat):Int),id)=mX (t.br,(t.br.length:Int),0,id):=rfl;have g:=x' (λi=>mA (id,(i:Int),t)) t.br.length (λi=>decide ((t.br.getD i dB).ah=id)) (λi=>.inl ((i:Int),true)) (.inr ())
  (λi f=>by
   rw[mA,cg,ai (aU f),bO (by omega)]
   grind)
  (by rw[mA,c8])
 have n:mA (id,((0:Nat):Int),t)=mA (id,0,t):=rfl;simp only[dc]at h;simp only[n]at g;have p:∃r,(mX (t.br,(t.br.length:Int),0,id)>>=λo=>match o with|.inl c=>some (c.1,c.2)|.inr l=>some ((-1),l))>>=(λr=>some (nv r.1 0,decide (0<=r.1)))=some r/\tS t.br id r:=by
  rcases h with⟨j,h1,d,e,a⟩|⟨h1,a⟩
  . rw[a];refine⟨((j:Int),true),?_,.inl ⟨j,h1,by simpa using d,λk b=>by simpa using e k b,rfl⟩⟩;have aN:nv (j:Int) 0=(j:Int):=by unfold nv;omega
    simp_all
  . rw[a];exact⟨(0,false),rfl,.inr ⟨λk b=>by simpa using h1 k b,rfl⟩⟩
 have c7:∃r,(mA (id,0,t)>>=λo=>match o with|.inl c=>some (c.1,c.2)|.inr l=>some (0,false))=some r/\tS t.br id r:=by
  rcases g with⟨j,h1,d,e,a⟩|⟨h1,a⟩
  . rw[a];exact⟨((j:Int),true),rfl,.inl ⟨j,h1,by simpa using d,λk b=>by simpa using e k b,rfl⟩⟩
  . rw[a];exact⟨(0,false),rfl,.inr ⟨λk b=>by simpa using h1 k b,rfl⟩⟩
 obtain⟨r,a1,a2⟩:=p;obtain⟨q,s,m⟩:=c7;have:=XF a2 m;grind
def hp(n:Int):Int:=if 0<=n then 2*n else -2*n-1
theorem aaA{a b:Int}(h:hp a=hp b):a=b:=by
 unfold hp at h;split at h<;>split at h<;>omega
def hq(n:Int):Prop:= -9223372036854775808<=n/\n<=9223372036854775807
theorem GF{n:Int}(h:hq n):tA n=some (hp n):=by
 obtain⟨h1,f⟩:=h;rw[tA];unfold hp;by_cases h0:0<=n
 . rw[ai (by simp[h0]),ai h0];obtain⟨k,rfl⟩:∃k:Nat,n=(k:Int):=⟨n.toNat,by omega⟩
   rw[kO];have:=Dp (a:=2) (b:=k) (by omega);grind
 . rw[av (by simp[h0]),av h0];rw[jy (by omega) (by omega),sd];obtain⟨k,e⟩:∃k:Nat,0-(n+1)=(k:Int):=⟨(0-(n+1)).toNat,by omega⟩
   rw[e,kO];have c:=Dp (a:=2) (b:=k) (by omega);have d:hG .u64 2 (k:Int)=((2*k:Nat):Int):=c;rw[d];have g:=zg (a:=2*k) (b:=1) (by omega);grind
theorem Zo(a:Nat)(h:a<18446744073709551616):y2 .u64 (a:Int) 0=(a:Int):=by
 have e:(BitVec.ofInt 64 (a:Int) ^^^ BitVec.ofInt 64 (0:Int)).toNat=a:=by grind
 show IntKind.u64.wrap (((BitVec.ofInt 64 (a:Int) ^^^ BitVec.ofInt 64 (0:Int)).toNat:Nat):Int)=_;rw[e];exact qH (by omega) (by omega)
theorem Zp(a:Nat)(h:a<18446744073709551616):y2 .u64 (a:Int) 18446744073709551615=((18446744073709551615-a:Nat):Int):=by
 have e:(BitVec.ofInt 64 (a:Int) ^^^ BitVec.ofInt 64 (18446744073709551615:Int)).toNat=18446744073709551615-a:=by
  have h1:BitVec.ofInt 64 (18446744073709551615:Int)=BitVec.allOnes 64:=by decide
  rw[h1,BitVec.ofInt_natCast,BitVec.xor_allOnes,BitVec.toNat_not,BitVec.toNat_ofNat,aeR,xU h]
 all_goals (try omega)
 show IntKind.u64.wrap (((BitVec.ofInt 64 (a:Int) ^^^ BitVec.ofInt 64 (18446744073709551615:Int)).toNat:Nat):Int)=_;rw[e];exact qH (by omega) (by omega)
theorem aew{n:Int}(h:hq n):mc .i64 n 63=if 0<=n then 0 else -1:=by
 obtain⟨h1,a⟩:=h;unfold mc;have e:((2:Int)^min (63:Int).toNat IntKind.i64.bits)=9223372036854775808:=by decide
 grind
theorem GG{n:Int}(h:hq n):uv n=some (hp n):=by
 rw[uv,aew h];obtain⟨h1,a⟩:=h;unfold hp;have hs:∀m:Int,sD .u64 m 1=IntKind.u64.wrap (m*2):=by
  intro m;unfold sD;rfl
 rw[hs]
 congr 1
 by_cases h0:0<=n
 . rw[ai h0,ai h0];obtain⟨k,rfl⟩:∃k:Nat,n=(k:Int):=⟨n.toNat,by omega⟩
   rw[kO,qH (by omega) (by omega)];have:ca .u64 0=0:=(by decide);rw[this];have:=Zo (2*k) (by omega);grind
 . rw[av h0,av h0];have:ca .u64 (-1)=18446744073709551615:=(by decide);rw[this];obtain⟨k,b⟩:∃k:Nat,n+9223372036854775808=(k:Int):=⟨(n+9223372036854775808).toNat,by omega⟩
   have e:IntKind.u64.wrap (ca .u64 n*2)=((2*k:Nat):Int):=by
    unfold ca;rw[IntKind.wrap_u64,IntKind.wrap_u64];omega
   rw[e,Zp _ (by omega)];omega
theorem ab1(a b:Int):BP (a,b)=some (if a<b then -1 else if b<a then 1 else 0):=by
 rw[BP];simp only[BD,bl,aw,cL,ds,bU,bN];grind
theorem Mt(a b:Int):xr (a,b)=some (if a<b then -1 else if b<a then 1 else 0):=by
 rw[xr];simp only[BQ,bl,aw,cL,ds,bU,bN];grind
theorem ab2(a b:aD):AK (a,b)=some (if Op.bytesLess a b then -1 else if(Op.bytesLess a b||(a=b:Bool))then 0 else 1):=by
 rw[AK];simp only[BR,bl,aw,cL,ds,bU,bN];grind
theorem aei(a b:Int):Ca [a,b]=some (if a≠0 then a else b):=by
 rw[Ca];have h0:pZ (0,[a,b],((2:Nat):Int),((0:Nat):Int))=if a≠0 then some (.inl a)else(if b≠0 then some (.inl b)else some (.inr 0)):=by
  rw[pZ,ai (by decide),ai (show aB ((0:Nat):Int) ([a,b]:az).length=true from aU (k:=0) (n:=2) (by omega))];simp only[bl,aw,bz,su];by_cases c:a=0
  . rw[av (by simp[c]),av (by simp[c])];have aN:aS .i64 ((0:Nat):Int) 1=((1:Nat):Int):=bO (by omega);rw[aN,pZ,ai (by decide),ai (show aB ((1:Nat):Int) ([a,b]:az).length=true from aU (k:=1) (n:=2) (by omega))];simp only[bl,aw,bz,DB,su];by_cases d:b=0
    . rw[av (by simp[d]),av (by simp[d])];have e:aS .i64 ((1:Nat):Int) 1=((2:Nat):Int):=bO (by omega);rw[e,pZ,av (by decide)]
    grind
  grind
 grind
theorem Qw:∀a:aD,Op.bytesLess a a=false
 |[]=>rfl
 |x::r=>by
  simp[Op.bytesLess,Qw r]
theorem QP{b:ab}(c:hq a.bB)(d:hq b.bB):∃r,pL (a,b)=some r/\wO (a,b)=some r:=by
 rw[pL,wO];by_cases e:a.Kind=b.Kind
 . rw[av (show ¬((!(decide (a.Kind=b.Kind)))=true) by simp[e]),av (show ¬((!(decide (a.Kind=b.Kind)))=true) by simp[e])];by_cases bn:a.Kind=1
   . rw[ai (show decide (a.Kind=1)=true by simp[bn]),ai (show decide (a.Kind=1)=true by simp[bn])];simp only[mK];cases fy a.cd b.cd<;>cases b.cd<;>exact⟨_,rfl,rfl⟩
   . rw[av (show ¬(decide (a.Kind=1)=true) by simp[bn]),av (show ¬(decide (a.Kind=1)=true) by simp[bn])];by_cases bt:a.Kind=2
     . rw[ai (show decide (a.Kind=2)=true by simp[bt]),ai (show decide (a.Kind=2)=true by simp[bt]),GG c,GG d,GF c,GF d];simp only[bl,aw,ab1,mK];by_cases he:a.bB=b.bB
       . grind
       . have g:hp a.bB≠hp b.bB:=λh=>he (aaA h);grind
     . rw[av (show ¬(decide (a.Kind=2)=true) by simp[bt]),av (show ¬(decide (a.Kind=2)=true) by simp[bt])];by_cases bY:a.Kind=3
       . rw[ai (show decide (a.Kind=3)=true by simp[bY]),ai (show decide (a.Kind=3)=true by simp[bY])];simp only[bl,aw,Mt,ab2,aei,mK];by_cases ag:a.bL.length=b.bL.length
         . have f:¬((!(decide ((a.bL.length:Int)=(b.bL.length:Int))))=true):=by simp;omega
           rw[av f,ag];have aN:¬((b.bL.length:Int)<(b.bL.length:Int)):=(by omega);simp only[aN,bN,ne_eq,not_true_eq_false];by_cases he:a.bL=b.bL
           . rw[he,Qw];grind
           grind
         grind
       . rw[av (show ¬(decide (a.Kind=3)=true) by simp[bY]),av (show ¬(decide (a.Kind=3)=true) by simp[bY])];by_cases cw:a.Kind=4
         . rw[ai (show decide (a.Kind=4)=true by simp[cw]),ai (show decide (a.Kind=4)=true by simp[cw])];simp only[bl,aw,Mt,mK];grind
         simp_all
 simp_all
def IY(a b:Option Bool):Prop:=∃r,a=some r/\b=some r
theorem Gn{d:Type}(L:Nat->Option (Bool ⊕ d))(L':Nat->Option (Bool ⊕ e))(n:Nat)(p:Nat->Bool)(g:d)(c:e)
 (h:∀i,i<n->L i=if p i then L (i+1)else some (.inl false))(he:L n=some (.inr g))
 (l:∀i,i<n->L' i=if p i then L' (i+1)else some (.inl false))(m:L' n=some (.inr c)):
 (L 0=some (.inr g)/\L' 0=some (.inr c)/\∀j,j<n->p j=true)\/(L 0=some (.inl false)/\L' 0=some (.inl false)/\∃j,j<n/\p j=false):=by
 rcases scan L n p (.inl false) (.inr g) h he with⟨a1,a2⟩|⟨a1,j,a2,a3⟩<;>rcases scan L' n p (.inl false) (.inr c) l m with⟨a,b⟩|⟨a,k,b,f⟩
 . exact .inl ⟨a1,a,a2⟩
 . have:=a2 k b;rw[f]at this;cases this
 . have:=b j a2;rw[a3]at this;cases this
 . exact .inr ⟨a1,a,j,a2,a3⟩
def kX(k:Int):Prop:=1<=k/\k<=9
theorem XG(a:kX v.Kind):∃p,AX v=some p/\rr v=some p/\(p=true->v.Kind≠5->v.Kind≠6->v.Rest=[]):=by
 obtain⟨K,B,b9,S,ah,c,b,R⟩:=v;simp only at a;rw[AX,ab.b7,rr];have:K=1\/K=2\/K=3\/K=4\/K=5\/K=6\/K=7\/K=8\/K=9:=by unfold kX at a;omega
 have d:∀(x:Int),decide (x=x)=true:=λx=>by simp
 rcases this with rfl|rfl|rfl|rfl|rfl|rfl|rfl|rfl|rfl
 all_goals
  refine⟨_,rfl,?_,?_⟩
  . simp[Bt,fy]
    try (cases B<;>simp)
  . simp[Bt,fy]
section
variable {ts:List af}(aV:ts.length<9223372036854775807)(dy:∀t,t∈ts->e0 t)(bE:∀t,t∈ts->kX t.Kind)
def Fit(ts:List af)(x:ab):Prop:=∀t plain,IY (jC ((⟨ts⟩:a7),t,x,plain)) (ib ((⟨ts⟩:a7),t,x,plain))
theorem IZ{l:List ab}(ag:l.length<=reachBytes)(ih:∀x,x∈l->Fit ts x)(t:Int)(plain:Bool):
 IY (pW ((⟨ts⟩:a7),t,l,plain)) (mN ((⟨ts⟩:a7),t,l,plain)):=by
 have n:=eP ag;let p:Nat->Bool:=λi=>(jC ((⟨ts⟩:a7),t,l.getD i aR,plain)).getD false;have al:∀i,i<l.length->jC ((⟨ts⟩:a7),t,l.getD i aR,plain)=some (p i)/\ib ((⟨ts⟩:a7),t,l.getD i aR,plain)=some (p i):=by
  intro i a;obtain⟨r,h1,m⟩:=ih _ (bM a aR) t plain;grind
 have d:=x' (λi=>pB (l,(l.length:Int),(i:Int),ts,t,plain)) l.length (λi=>!(p i)) (λi=>.inl ((i:Int),ts,t,plain)) (.inr (ts,t,plain))
  (λi a=>by
   rw[pB,cg,ai (aU a),FE];simp only[ab.b7,bz];rw[(al i a).1,bO (by omega)]
   rfl)
  (by rw[pB,c8])
 have hs:=scan (λi=>lF (t,l,plain,(i:Int),ts)) l.length p (.inl false) (.inr ())
  (λi a=>by
   rw[lF,cg,ai (aU a)];simp only[ab.b7,bz];rw[(al i a).2,bO (by omega)]
   grind)
  (by rw[lF,c8])
 have aN:pB (l,(l.length:Int),((0:Nat):Int),ts,t,plain)=pB (l,(l.length:Int),0,ts,t,plain):=rfl;have g:lF (t,l,plain,((0:Nat):Int),ts)=lF (t,l,plain,0,ts):=rfl;simp only[aN]at d;simp only[g]at hs;rw[pW,Aj,D2,mN];rcases d with⟨j,a1,a2,a3,a4⟩|⟨a1,a4⟩<;>rcases hs with⟨b,c⟩|⟨b,k,c,f⟩
 . have:=c j a1;simp[this]at a2
 . rw[a4,b];refine⟨false,?_,rfl⟩;have e:decide ((0:Int)<=(j:Int))=true:=(by simp);simp only[bl,aw,e,ds]
 . rw[a4,b];exact⟨true,rfl,rfl⟩
 . have:=a1 k c;simp[f]at this
def DT(t:af)(l:List cG)(i:Nat):Bool:=
 !((gk (t,(l.getD i ch).ah)).getD (0,false)).2&&(decide (1<=(l.getD i ch).ah)&&decide ((l.getD i ch).ah<=1000))&&(decide (i=0)||decide ((l.getD (i-1) ch).ah<(l.getD i ch).ah))
theorem Zq{k:Type}(fT f b:Bool)(a:Int)(e C:Int->Bool)(X g:Option k)(i:b=true->e a=true):
 ((if !fT then some f else some false)>>=λj=>some (bif fT then true else(!j))>>=λt131=>some b>>=λt134=>some a>>=λt141=>
  if(e t141||(!((!t131)&&t134))) then if(bif t131 then true else bif t134 then C t141 else false) then X else g else none)=if !fT&&f&&(!b || !(C a)) then g else X:=by
 simp only[bl,aw];generalize C a=c;cases b with
 |true=>rw[i rfl];cases fT<;>cases f<;>cases c<;>rfl
 |false=>generalize e a=d;cases fT<;>cases f<;>cases d<;>cases c<;>rfl
theorem Rg{m:Type}(b g e:Bool)(a:Int)(f C:Int->Bool)(X i:Option m)(j:g=true)(k:e=true->f a=true):
 (some b>>=λl=>some (!l)>>=λt31=>some e>>=λt34=>
  if(g||(!((!t31)&&t34))) then some a>>=λt43=>if(f t43||(!((!t31)&&t34))) then if(bif t31 then true else bif t34 then C t43 else false) then X else i else none else none)=if(b&&(!e || !(C a))) then i else X:=by
 subst j;simp only[bl,aw];generalize C a=c;cases e with
 |true=>rw[k rfl];cases b<;>cases c<;>rfl
 |false=>generalize f a=d;cases b<;>cases d<;>cases c<;>rfl
theorem p0{i:Nat}(h:0<i)(a:i<9223372036854775807):dM .i64 (i:Int) 1=((i-1:Nat):Int):=by
 rw[sd];omega
theorem aer(ht:t.ae.length<9223372036854775807)(v:ab)(ag:v.Rest.length<=reachBytes)(plain:Bool)(ts:List af):
 let inr:=(plain,ts,v.Kind,v.cd,v.bB,v.bL,v.ah,v.bb,v.ar,v.Rest,t.Kind,t.Name,t.bH,t.bK,t.Max,t.br,t.ae,t.Key,t.aQ,t.Open)
 ((kp (plain,v.Rest,(v.Rest.length:Int),0,ts,v,t.Kind,t.Name,t.bH,t.bK,t.Max,t.br,t.ae,t.Key,t.aQ,t.Open)=some (.inr inr)/\ru (t,v.Rest)=some true)\/
  (kp (plain,v.Rest,(v.Rest.length:Int),0,ts,v,t.Kind,t.Name,t.bH,t.bK,t.Max,t.br,t.ae,t.Key,t.aQ,t.Open)=some (.inl false)/\ru (t,v.Rest)=some false)):=by
 intro inr;have g:=eP ag;have d:∀i,i<v.Rest.length->∀r,gk (t,(v.Rest.getD i ch).ah)=some r->DT t v.Rest i=(!r.2&&(bif decide (1<=(v.Rest.getD i ch).ah)then decide ((v.Rest.getD i ch).ah<=1000)else false)&&(!(decide ((0:Int)<(i:Int))) || !(decide ((v.Rest.getD i ch).ah<=(v.Rest.getD (dM .i64 (i:Int) 1).toNat ch).ah)))):=by
  intro i a r f;unfold DT;rw[f,DH];generalize (v.Rest.getD i ch).ah=x;by_cases h0:i=0
  . grind
  . have c:decide ((0:Int)<(i:Int))=true:=by simp;omega
    rw[c,p0 (by omega) (by omega),bz];grind
 have h:=Gn (λi=>kp (plain,v.Rest,(v.Rest.length:Int),(i:Int),ts,v,t.Kind,t.Name,t.bH,t.bK,t.Max,t.br,t.ae,t.Key,t.aQ,t.Open)) (λi=>k0 (v.Rest,(i:Int),t)) v.Rest.length (DT t v.Rest) inr ()
  (λi a=>by
   obtain⟨r,h1,_,_⟩:=pR (t:=t) (v.Rest.getD i ch).ah ht;rw[kp,cg,ai (aU a),d i a r h1];simp only[bz,F0,ab.b7,w7,bl,aw];rw[h1,bO (by omega)]
   exact Zq r.2 (bif decide (1<=(v.Rest.getD i ch).ah)then decide ((v.Rest.getD i ch).ah<=1000)else false) (decide ((0:Int)<(i:Int))) (dM .i64 (i:Int) 1) (λj=>aB j v.Rest.length) (λj=>decide ((v.Rest.getD i ch).ah<=(v.Rest.getD j.toNat ch).ah)) _ _ (λc=>by
    have:0<i:=by simp at c;omega
    show aB _ _=true
    rw[p0 this (by omega)];exact aU (by omega)))
  (by rw[kp,c8])
  (λi a=>by
   obtain⟨r,h1,b,_⟩:=pR (t:=t) (v.Rest.getD i ch).ah ht;rw[k0,cg,ai (aU a),d i a r h1];simp only[bz];rw[b,bO (by omega)];have hid:iH ((v.Rest.getD i ch).ah,r.2)=some ((!r.2)&&(bif decide (1<=(v.Rest.getD i ch).ah)then decide ((v.Rest.getD i ch).ah<=1000)else false)):=by
    rw[iH];grind
   show(if aB (i:Int) v.Rest.length then iH ((v.Rest.getD i ch).ah,r.2)>>=_ else none)=_;rw[ai (aU a),hid]
   exact Rg ((!r.2)&&(bif decide (1<=(v.Rest.getD i ch).ah)then decide ((v.Rest.getD i ch).ah<=1000)else false)) (aB (i:Int) v.Rest.length) (decide ((0:Int)<(i:Int))) (dM .i64 (i:Int) 1) (λj=>aB j v.Rest.length) (λj=>decide ((v.Rest.getD i ch).ah<=(v.Rest.getD j.toNat ch).ah)) _ _ (aU a) (λc=>by
    have:0<i:=by simp at c;omega
    show aB _ _=true
    rw[p0 this (by omega)];exact aU (by omega)))
  (by rw[k0,c8])
 have aN:kp (plain,v.Rest,(v.Rest.length:Int),((0:Nat):Int),ts,v,t.Kind,t.Name,t.bH,t.bK,t.Max,t.br,t.ae,t.Key,t.aQ,t.Open)=kp (plain,v.Rest,(v.Rest.length:Int),0,ts,v,t.Kind,t.Name,t.bH,t.bK,t.Max,t.br,t.ae,t.Key,t.aQ,t.Open):=rfl;have e:k0 (v.Rest,((0:Nat):Int),t)=k0 (v.Rest,0,t):=rfl;simp only[aN,e]at h;rw[ru];rcases h with⟨h1,b,_⟩|⟨h1,b,_⟩
 . exact .inl ⟨h1,by rw[b];rfl⟩
 . exact .inr ⟨h1,by rw[b];rfl⟩
end
theorem XT(ag:v.ar.length=t.ae.length)(c:t.ae.length<9223372036854775807)(ih:∀x,x∈v.ar->Fit ts x)(plain:Bool):
 (n4 (plain,t.ae,(t.ae.length:Int),0,ts,v.Kind,v.cd,v.bB,v.bL,v.ah,v.bb,v.ar,v.Rest)=some (.inr ())/\kl (plain,0,ts,v,t.Kind,t.Name,t.bH,t.bK,t.Max,t.br,t.ae,t.Key,t.aQ,t.Open)=some (.inr ()))\/
 (n4 (plain,t.ae,(t.ae.length:Int),0,ts,v.Kind,v.cd,v.bB,v.bL,v.ah,v.bb,v.ar,v.Rest)=some (.inl false)/\kl (plain,0,ts,v,t.Kind,t.Name,t.bH,t.bK,t.Max,t.br,t.ae,t.Key,t.aQ,t.Open)=some (.inl false)):=by
 let p:Nat->Bool:=λi=>(jC (⟨ts⟩,(t.ae.getD i aG).aC,v.ar.getD i aR,plain)).getD false;have al:∀i,i<t.ae.length->jC (⟨ts⟩,(t.ae.getD i aG).aC,v.ar.getD i aR,plain)=some (p i)/\ib (⟨ts⟩,(t.ae.getD i aG).aC,v.ar.getD i aR,plain)=some (p i):=by
  intro i a;obtain⟨r,h1,b⟩:=ih _ (bM (by omega:i<v.ar.length) aR) (t.ae.getD i aG).aC plain;grind
 have h:=Gn (λi=>n4 (plain,t.ae,t.ae.length,i,ts,v.Kind,v.cd,v.bB,v.bL,v.ah,v.bb,v.ar,v.Rest)) (λi=>kl (plain,i,ts,v,t.Kind,t.Name,t.bH,t.bK,t.Max,t.br,t.ae,t.Key,t.aQ,t.Open)) _ p () ()
  (λi a=>by
   rw[n4,ai (aU a),ai (aU (by omega))]
   grind[bz,ab.b7,bO])
  (by simp_all[n4])
  (λi a=>by
   rw[kl,ai (aU a),ai (aU (by omega))]
   grind[bz,ab.b7,bO])
  (by simp_all[kl,av])
 grind
theorem Co(h:cP v):hq v.bB:=by cases h with|mk _ _ _ _ _ _ _ _ dR a=>exact a
theorem YV{ts:List af}{t:af}(j:v.bb.length<9223372036854775807)(d:∀x,x∈v.bb->cP x)(plain:Bool):
 let inr:=(plain,ts,v,t.Kind,t.Name,t.bH,t.bK,t.Max,t.br,t.ae,t.Key,t.aQ,t.Open)
 (kU (plain,1,ts,v,t.Kind,t.Name,t.bH,t.bK,t.Max,t.br,t.ae,t.Key,t.aQ,t.Open)=some (.inr inr)/\jc (1,v)=some (.inr ()))\/
 (kU (plain,1,ts,v,t.Kind,t.Name,t.bH,t.bK,t.Max,t.br,t.ae,t.Key,t.aQ,t.Open)=some (.inl false)/\jc (1,v)=some (.inl false)):=by
 intro inr;by_cases h0:v.bb.length=0
 . left;refine⟨?_,?_⟩
   . rw[kU,av (by grind),ab.b7]
   simp_all[jc,av]
 let c:=λi=>(pL (v.bb.getD i aR,v.bb.getD (i+1) aR)).getD 0;have g:∀i,i+1<v.bb.length->pL (v.bb.getD i aR,v.bb.getD (i+1) aR)=some (c i)/\wO (v.bb.getD i aR,v.bb.getD (i+1) aR)=some (c i):=by
  intro i a;obtain⟨r,h1,f⟩:=QP (Co (d _ (bM (by omega:i<v.bb.length) aR))) (Co (d _ (bM a aR)));grind
 have h:=Gn (λi=>kU (plain,((i+1:Nat):Int),ts,v,t.Kind,t.Name,t.bH,t.bK,t.Max,t.br,t.ae,t.Key,t.aQ,t.Open)) (λi=>jc ((i+1:Nat),v)) (v.bb.length-1) (λi=>!(decide (0<=c i))) inr ()
  (λi a=>by
   have hs:=p0 (i:=i+1) (by simp) (by omega);have b:dM .i64 ((i+1:Nat):Int) 1=(i:Int):=(by grind);rw[kU];simp only[bl,aw];rw[b,ai (aU (by omega)),ai (aU (by omega))];simp only[bz,ab.b7]
   grind[bO])
  (by
   have e:v.bb.length-1+1=v.bb.length:=by omega
   rw[e,kU,c8,ab.b7])
  (λi a=>by
   have hs:=p0 (i:=i+1) (by simp) (by omega);have b:dM .i64 ((i+1:Nat):Int) 1=(i:Int):=(by grind);rw[jc];simp only[bl,aw];rw[b,ai (aU (by omega)),ai (aU (by omega))];simp only[bz,ab.b7]
   grind[bO])
  (by
   have e:v.bb.length-1+1=v.bb.length:=by omega
   simp_all[jc,av])
 grind
theorem H3{c:Type}{a:List α}{b:List c}(h:decide ((a.length:Int)=(b.length:Int))=true):a.length=b.length:=by grind
theorem OE{r:Int×Bool}(d:o=some r)(a plain f:Bool):
 (o>>=λb=>some (bif a then(!plain)else false)>>=λt85=>(if((!b.2)&&t85) then some f else some false)>>=λc=>some (bif b.2 then true else bif t85 then c else false))=some (r.2||(a && !plain&&f)):=by
 grind
theorem Dg{r:Int×Bool}(d:o=some r)(b plain f:Bool)(F:Bool->Option Bool)(bV:F false=some f):
 (o>>=λa=>some (bif b then(!plain)else false)>>=λt85=>(if((!a.2)&&t85) then F a.2 else some false)>>=λc=>some (bif a.2 then true else bif t85 then c else false))=some (r.2||(b && !plain&&f)):=by
 grind
theorem gq{o:Option Bool}{r:Bool}(b:o=some r)(q:Bool):(some q>>=λt244=>(if t244 then o else some false)>>=λa=>some (bif t244 then a else false))=some (q&&r):=by grind
theorem Dh(c a b f:Bool){X:Option Bool}(e:c=true->X=some f)(h1:c=true->a=true/\b=true):(some c>>=λt188=>if(a||(!t188))then if(b||(!t188))then(if t188 then X else some false)>>=λd=>some (bif t188 then d else false)else none else none)=some (c&&f):=by grind
theorem adS(A b q m:Bool){a:Option Bool}(e:a=some q)(d:A=true->L=some (if m then .inr ()else .inl false)):
 (if(bif (bif false then true else(!true))then true else b) then some false else some (!A)>>=λt107=>(if !t107 then a else some false)>>=λc=>if(bif t107 then true else(!c)) then some false else L>>=λo=>match o with|.inl x=>some x|.inr _=>some true)=some (A && !b&&q&&m):=by
 grind
theorem Di(g f c1 c2 b9 E:Bool)(h1:c2=true->b9=true):(some g>>=λt209=>(if t209 then some f else some false)>>=λa=>some (bif bif bif t209 then a else false then c1 else false then c2 else false)>>=λt226=>if(b9||(!t226))then some (bif t226 then E else false)else none)=some (g&&f&&c1&&c2&&E):=by grind
theorem OF(c:Bool){ok a:Option Bool}{k i:Bool}(e:ok=some k)(d:a=some i)(b:L=some (if q then .inr ()else .inl false)):
 (some c>>=λt239=>(if !t239 then ok else some false)>>=λj=>some (bif t239 then true else(!j))>>=λt249=>(if !t249 then a else some false)>>=λl=>if(bif t249 then true else(!l)) then some false else L>>=λf=>match f with|.inl g=>some g|.inr _=>some true)=some (!c&&k&&q&&i):=by
 subst e;subst d;subst b;cases c<;>cases k<;>cases q<;>cases i<;>rfl
theorem YW(aV:ts.length<9223372036854775807)(dy:∀t,t∈ts->e0 t)(bE:∀t,t∈ts->kX t.Kind)(au:cP v):Fit ts v:=by
 induction au with
 |mk v hs h1 P Q ak aI aK dR aO aP aQ aw O=>
  intro t plain;rw[jC,ib];by_cases F:(bif decide (t<0)then true else decide (((⟨ts⟩:a7).Types.length:Int)<=t))=true
  . rw[ai F,ai F];exact⟨false,rfl,rfl⟩
  . rw[av F,av F];have aJ:0<=t/\t<ts.length:=(by grind);obtain⟨j,rfl⟩:∃j:Nat,t=(j:Int):=⟨t.toNat,by omega⟩
    have C:j<ts.length:=(by omega);rw[ai (aU C),ai (aU C)];simp only[bz,ab.b7];have J:=dy _ (bM C aL);have G:=bE _ (bM C aL);generalize ts.getD j aL=x at J G⊢;have D:=eP (jx J.gX);have W:=eP (jx J.syms);by_cases y:v.Kind=x.Kind
    . obtain⟨p,ax,ay,az⟩:=XG (v:=v) (by rw[y];exact G);rw[ax,ay];cases p with
      |false=>exact⟨false,by simp[y],by simp[y]⟩
      |true=>
       have I:=IZ (ts:=ts) P O;have al:=IZ (ts:=ts) h1 aw;obtain⟨K,N,L,H,M,S,d,l,E,e⟩:=x;obtain⟨u,B,b9,n,ah,g,c,R⟩:=v;simp only at y;subst y;have w:=az rfl;simp only at w G D W h1 P Q;have aj:u=1\/u=2\/u=3\/u=4\/u=5\/u=6\/u=7\/u=8\/u=9:=by unfold kX at G;omega
       rcases aj with rfl|rfl|rfl|rfl|rfl|rfl|rfl|rfl|rfl
       . obtain rfl:R=[]:=w (by decide) (by decide);cases plain<;>exact⟨true,rfl,rfl⟩
       . obtain rfl:R=[]:=w (by decide) (by decide);cases plain<;>exact⟨_,rfl,rfl⟩
       . obtain rfl:R=[]:=w (by decide) (by decide);cases plain<;>exact⟨_,rfl,rfl⟩
       . obtain rfl:R=[]:=w (by decide) (by decide);obtain⟨r,o,s,_⟩:=w0 (t:=⟨4,N,L,H,M,S,d,l,E,e⟩) ah W;have A:iH (ah,false)=some (bif decide (1<=ah)then decide (ah<=1000)else false):=(by rfl);cases plain
         . exact⟨_,OE o e false _,Dg s e false _ (λb=>iH (ah,b)) A⟩
         . exact⟨_,OE o e true _,Dg s e true _ (λb=>iH (ah,b)) A⟩
       ·
        have aM:=aer (t:=⟨5,N,L,H,M,S,d,l,E,e⟩) D ⟨5,B,b9,n,ah,g,c,R⟩ Q plain ts;have aq:decide ((c.length:Int)=(d.length:Int))=true->_:=λz=>XT (ts:=ts) (t:=⟨5,N,L,H,M,S,d,l,E,e⟩) (v:=⟨5,B,b9,n,ah,g,c,R⟩) (H3 z) D O plain;have ar:∃q:Bool,kp (plain,R,(R.length:Int),0,ts,⟨5,B,b9,n,ah,g,c,R⟩,5,N,L,H,M,S,d,l,E,e)=some (if q then .inr (plain,ts,5,B,b9,n,ah,g,c,R,5,N,L,H,M,S,d,l,E,e)else .inl false)/\ru (⟨5,N,L,H,M,S,d,l,E,e⟩,R)=some q:=(by grind);obtain⟨q,aS,aA⟩:=ar;have ao:∃m:Bool,decide ((c.length:Int)=(d.length:Int))=true->(n4 (plain,d,(d.length:Int),0,ts,5,B,b9,n,ah,g,c,R)=some (if m then .inr ()else .inl false)/\kl (plain,0,ts,⟨5,B,b9,n,ah,g,c,R⟩,5,N,L,H,M,S,d,l,E,e)=some (if m then .inr ()else .inl false)):=by
         cases z:decide ((c.length:Int)=(d.length:Int))with
         |false=>exact⟨true,λh=>by cases h⟩
         |true=>
          rcases aq z with⟨a,b⟩|⟨a,b⟩
          . simp_all
          simp_all
        obtain⟨m,an⟩:=ao;refine⟨(decide ((c.length:Int)=(d.length:Int))) && !(bif plain then decide (0<(R.length:Int))else false)&&q&&m,?_,?_⟩
        . show(if(bif (!((c.length:Int)=(d.length:Int):Bool))then true else bif plain then (0<(R.length:Int):Bool)else false) then some false else kp (plain,R,(R.length:Int),0,ts,⟨5,B,b9,n,ah,g,c,R⟩,5,N,L,H,M,S,d,l,E,e)>>=_)=_;grind
        . exact adS (decide ((c.length:Int)=(d.length:Int))) (bif plain then decide (0<(R.length:Int))else false) q m aA (λz=>(an z).2)
       ·
        obtain⟨r,o,s,A⟩:=pR (t:=⟨6,N,L,H,M,S,d,l,E,e⟩) ah D;have hid:∀b,b=false->iH (ah,b)=some (bif decide (1<=ah)then decide (ah<=1000)else false):=by
         intro b ag;subst ag;rfl
        have ae:∃f:Bool,(bif decide ((c.length:Int)=1)then decide ((R.length:Int)=0)else false)=true->(jC ((⟨ts⟩:a7),(d.getD r.1.toNat aG).aC,c.getD (0:Int).toNat aR,plain)=some f/\ib ((⟨ts⟩:a7),(d.getD r.1.toNat aG).aC,c.getD (0:Int).toNat aR,plain)=some f):=by
         by_cases aa:c.length=1
         . obtain⟨f,f1,f2⟩:=O (c.getD 0 aR) (bM (by omega:0<c.length) aR) (d.getD r.1.toNat aG).aC plain;grind
         grind
        obtain⟨f,U⟩:=ae;have V:r.2=true->(bif decide ((c.length:Int)=1)then decide ((R.length:Int)=0)else false)=true->aB r.1 d.length=true/\aB 0 c.length=true:=by
         intro ad aH;constructor
         . rcases A with⟨k,bn,_,_,rfl⟩|⟨_,rfl⟩
           . exact aU bn
           . cases ad
         . by_cases aa:c.length=1
           . exact aU (k:=0) (by omega)
           grind
        have T:decide ((R.length:Int)=1)=true->aB 0 R.length=true:=by
         intro h;have:=gf h;exact aU (k:=0) (by omega)
        obtain⟨Z,qB⟩:=r;refine⟨if qB then(bif decide ((c.length:Int)=1)then decide ((R.length:Int)=0)else false)&&f else(bif e then(!plain)else false)&&(bif decide (1<=ah)then decide (ah<=1000)else false)&&decide ((c.length:Int)=0)&&decide ((R.length:Int)=1)&&decide ((R.getD (0:Int).toNat ch).ah=ah),?_,?_⟩
        . show(gk (⟨6,N,L,H,M,S,d,l,E,e⟩,ah)>>=_)=_;rw[o];cases qB with
          |true=>exact Dh _ (aB Z d.length) (aB 0 c.length) f (λh=>(U h).1) (V rfl)
          |false=>exact Di (bif e then(!plain)else false) (bif decide (1<=ah)then decide (ah<=1000)else false) (decide ((c.length:Int)=0)) (decide ((R.length:Int)=1)) (aB 0 R.length) (decide ((R.getD (0:Int).toNat ch).ah=ah)) T
        . show(if(bif (bif false then true else(!true))then true else(bif plain then (0<(R.length:Int):Bool)else false)) then some false else hv (⟨6,N,L,H,M,S,d,l,E,e⟩,ah)>>=_)=_;rw[s];cases aF:(bif plain then decide (0<(R.length:Int))else false)with
          |true=>
           have ap:plain=true:=(by grind);subst ap;have aE:decide ((R.length:Int)=0)=false:=(by grind);grind
          |false=>
           cases qB with
           |true=>exact Dh _ (aB Z d.length) (aB 0 c.length) f (λh=>(U h).2) (V rfl)
           |false=>exact Di (bif e then(!plain)else false) (bif decide (1<=ah)then decide (ah<=1000)else false) (decide ((c.length:Int)=0)) (decide ((R.length:Int)=1)) (aB 0 R.length) (decide ((R.getD (0:Int).toNat ch).ah=ah)) T
       . obtain rfl:R=[]:=w (by decide) (by decide);obtain⟨r,o,s⟩:=I E plain;cases plain
         . exact⟨_,gq o _,gq s _⟩
         . exact⟨_,gq o _,gq s _⟩
       . obtain rfl:R=[]:=w (by decide) (by decide);obtain⟨k,bn,bt⟩:=al l plain;obtain⟨i,aN,X⟩:=I E plain;have am:=YV (ts:=ts) (t:=⟨8,N,L,H,M,S,d,l,E,e⟩) (v:=⟨8,B,b9,n,ah,g,c,[]⟩) (eP h1) ak plain;obtain⟨q,aT,Y⟩:∃q:Bool,kU (plain,1,ts,⟨8,B,b9,n,ah,g,c,[]⟩,8,N,L,H,M,S,d,l,E,e)=some (if q then .inr (plain,ts,⟨8,B,b9,n,ah,g,c,[]⟩,8,N,L,H,M,S,d,l,E,e)else .inl false)/\jc (1,⟨8,B,b9,n,ah,g,c,[]⟩)=some (if q then .inr ()else .inl false):=by
          rcases am with⟨a,b⟩|⟨a,b⟩
          . simp_all
          simp_all
         refine⟨!(bif decide (M<(g.length:Int))then true else(!(decide ((c.length:Int)=(g.length:Int)))))&&k&&q&&i,?_,?_⟩
         . show(some (bif decide (M<(g.length:Int))then true else(!(decide ((c.length:Int)=(g.length:Int)))))>>=λt270=>(if !t270 then pW ((⟨ts⟩:a7),l,g,plain)else some false)>>=λaD=>if(bif t270 then true else(!aD)) then some false else kU (plain,1,ts,⟨8,B,b9,n,ah,g,c,[]⟩,8,N,L,H,M,S,d,l,E,e)>>=_)=_;grind
         . cases plain
           . exact OF (bif decide (M<(g.length:Int))then true else(!(decide ((c.length:Int)=(g.length:Int))))) bt X Y
           . exact OF (bif decide (M<(g.length:Int))then true else(!(decide ((c.length:Int)=(g.length:Int))))) bt X Y
       . obtain rfl:R=[]:=w (by decide) (by decide);obtain⟨r,o,s⟩:=I E plain;cases plain
         . exact⟨_,gq o _,gq s _⟩
         . exact⟨_,gq o _,gq s _⟩
    . exact⟨false,by simp[y],by simp[y]⟩
theorem yh{U:cE}{t:aH}{l:List (t.den U.D)}(h:WF U ⟨.slice t,l⟩):l.length<=reachBytes/\l.length*t.bytes U<=reachBytes/\∀x,x∈l->∀c,c∈t.row U x->WF U c:=by cases h with|slice t l h1 a b=>exact⟨h1,a,b⟩
theorem XU(s:a7):(⟨s.Types⟩:a7)=s:=by cases s;rfl
def jq(n:Nat):aD:=if n=0 then[]else jq (n/256)++[UInt8.ofNat (n%256)]
termination_by n
decreasing_by omega
theorem JN:∀(l:List α) (k:Nat) (x:α),k<l.length->(l.set k x).drop k=x::l.drop (k+1)
 |[],k,x,h=>by simp at h
 |a::l,0,x,h=>by simp
 |a::l,k+1,x,h=>by simp[JN l k x (by simpa using h)]
theorem aey(n:Nat):mc .u64 (n:Int) 8=((n/256:Nat):Int):=by
 unfold mc;have:((2:Int)^min (8:Int).toNat IntKind.u64.bits)=256:=by decide
 grind
theorem L0:∀(i n:Nat) (b:az),n<256^i->i<=8->b.length=8->∃(c:Nat) (a:az),rC ((n:Int),(i:Int),b)=some ((c:Int),a)/\c<=8/\a.length=8/\strOf (a.drop c)=jq n++strOf (b.drop i)
 |i,n,b,aV,d,e=>by
  rw[rC];by_cases h0:n=0
  . subst h0;rw[c8];refine⟨i,b,rfl,d,e,?_⟩;rw[jq,ai rfl];rfl
  . rw[cg]
    match i,aV,d with
    |0,aV,d=>simp at aV;omega
    |i+1,aV,d=>
     have hs:dM .i64 ((i+1:Nat):Int) 1=(i:Int):=by rw[sd];omega
     simp only[bl,aw];rw[hs,ai (aU (by omega)),ai (by simp[e];omega),aey,vh,bz];have aF:n/256<256^i:=(by omega);obtain⟨c,a,h1,f,g,j⟩:=L0 i (n/256) (b.set i ((n%256:Nat):Int)) aF (by omega) (by simp[e]);refine⟨c,a,h1,f,g,?_⟩;rw[j,JN _ _ _ (by omega),Yt]
     conv=>rhs;rw[jq,av h0]
     grind
theorem L1{n:Nat}(aV:n<18446744073709551616):w8 (n:Int)=some (jq n):=by
 have e:(256:Nat)^8=18446744073709551616:=by decide
 obtain⟨c,d,h1,k,a,g⟩:=L0 8 n [0,0,0,0,0,0,0,0] (by rw[e];exact aV) (by omega) rfl;have f:rC ((n:Int),8,[0,0,0,0,0,0,0,0])=some ((c:Int),d):=h1;rw[w8,f];simp only[bl,aw,bz];have j:gu (c:Int) 8 8=true:=Jf (b:=8) (by omega) (by omega);have i:(8:Int).toNat=8:=rfl;rw[ai j,i,ai (by simp[vb,a];omega)];rw[uU (by simp[a]),g];simp[strOf]
theorem yi:∀(f n:Nat),n<256^f->(jq n).length<=f
 |0,n,h=>by
  have:n=0:=by simpa using h
  subst this;rw[jq,ai rfl];simp
 |f+1,n,h=>by
  rw[jq];split
  . simp
  . have:=yi f (n/256) (by omega);simp;omega
theorem I0:∀(f n:Nat) (a:aD),n<256^f->n<18446744073709551616->a.length+f<=1000->tB ((n:Int),a)=some (jq n++a)
 |f,n,a,aV,j,c=>by
  rw[tB];by_cases h0:n=0
  . subst h0;rw[c8,jq,ai rfl];rfl
  . rw[cg]
    match f,aV,c with
    |0,aV,c=>simp at aV;omega
    |f+1,aV,c=>
     have i:cy (n:Int) 256=((n%256:Nat):Int):=O' (b:=256);have g:h4 .u64 (n:Int) 256=((n/256:Nat):Int):=by
      unfold h4;have e:(n:Int).tdiv 256=((n/256:Nat):Int):=by rw[Int.tdiv_eq_ediv_of_nonneg (by omega)];omega
      rw[e];exact qH (by omega) (by omega)
     have d:strOf [((n%256%256:Nat):Int)]=[UInt8.ofNat (n%256)]:=by
      have:n%256%256=n%256:=(by omega);rw[this];rfl
     simp only[bl,aw];rw[i,g,vh,d,ai (gy (by simp;omega))];have aF:n/256<256^f:=(by omega);rw[I0 f (n/256) _ aF (by omega) (by simp;omega)]
     conv=>rhs;rw[jq,av h0]
     grind
theorem I1{n:Nat}(aV:n<18446744073709551616):xg (n:Int)=some (jq n):=by
 have e:(256:Nat)^8=18446744073709551616:=by decide
 rw[xg,I0 8 n [] (by rw[e];exact aV) aV (by simp)];simp
end
section
open Go Go.Proofs.YtkbmjabicjpmjaaGreatDoor.Shv Go.Sort
set_option maxRecDepth 100000
variable{α c:Type}{v:ab}{ms:List aY}{id:Int}{P Q:Prop}{o:Option Bool}{L:Nat->Option (Bool ⊕ Unit)}{t x:af}{a:cG}
section
variable {α:Type}
theorem JO{a b:Type}{f g:a->List b}:∀{l:List a},(∀x,x∈l->f x=g x)->l.flatMap f=l.flatMap g
 |[],_=>rfl
 |x::l,h=>by
  simp;rw[h x (.head _),JO λy ak=>h y (.tail _ ak)]
theorem H4(x:α)(n:Nat)(f:Nat->List α):∀(ks:aZ),ks.Nodup->n∈ks->(ks.flatMap λi=>if n=i then x::f i else f i).Perm (x::ks.flatMap f)
 |[],_,h=>by grind
 |k::ks,aV,h=>by
  rw[List.nodup_cons]at aV;simp;by_cases e:n=k
  . have:(ks.flatMap λi=>if n=i then x::f i else f i)=ks.flatMap f:=JO λy ak=>by grind
    simp_all
  . rw[av e];have a:=(fg.1 h).resolve_left e;refine((H4 x n f ks aV.2 a).append_left _).trans ?_;simp
theorem H5(key:α->Nat)(ks:aZ)(aV:ks.Nodup):∀l:List α,(∀x,x∈l->key x∈ks)->(ks.flatMap λi=>l.filter λx=>decide (key x=i)).Perm l
 |[],_=>by simp
 |x::l,h=>by
  have e:(λi=>(x::l).filter λy=>decide (key y=i))=λi=>if key x=i then x::(l.filter λy=>decide (key y=i))else l.filter λy=>decide (key y=i):=by grind
  rw[e];exact(H4 x _ _ ks aV (h x (.head _))).trans ((H5 _ ks aV l λy ak=>h y (.tail _ ak)).cons x)
theorem V4(key:α->Nat)(a n:Nat)(l:List α):((List.range' a n).flatMap λi=>l.filter λx=>decide (key x=i)).Pairwise (λx y=>decide (key y<key x)=false):=by
 rw[List.pairwise_flatMap];grind[List.pairwise_iff_forall_sublist,List.pairwise_lt_range']
theorem I2[Inhabited α]{lt:α->α->Bool}:∀{l:List α},l.Pairwise (λx y=>lt x y=true\/lt y x=true)->ky lt l=true
 |[],_=>rfl
 |x::l,h=>by
  rw[kI]at h;simp[ky];exact⟨h.1,I2 h.2⟩
end
mutual
def wt:ab->Nat
 |⟨_,_,_,s,_,ks,a,r⟩=>10+s.length+(r.map λx=>x.Data.length+1).sum+hO ks+hO a
def hO:List ab->Nat
 |[]=>0
 |v::l=>wt v+hO l
end
structure Fd where
 id:Nat
 c:Bool
 p:aD
instance:Inhabited Fd:=⟨⟨0,false,[]⟩⟩
def jj(a b:Fd):Bool:=decide (a.id<b.id)
def Fd.text(f:Fd):aD:=kz f.id f.c f.p
def iO:List aD->List aD->aD
 |k::ks,v::vs=>gz k++(gz v++iO ks vs)
 |_,_=>[]
def d'(l:List aY)(id:Int):Option aY:=l.find? λm=>decide (m.ah=id)
open Classical in
noncomputable def dG (m:aY)(v:ab):Bool:=m.bX&&decide (m.bC=v)
def mb(r:cG):Fd:=⟨r.ah.toNat,false,r.Data⟩
mutual
noncomputable def cI (ts:List af)(t:Int):ab->aD
 |⟨_,b,i,s,id,ks,a,r⟩=>
  let x:=ts.getD t.toNat aL
  if x.Kind=1 then(if b then[1]else[])
  else if x.Kind=2 then jq (hp i).toNat
  else if x.Kind=3 then s
  else if x.Kind=4 then jq id.toNat
  else if x.Kind=5 then(nr jj (eH ts x.ae a++r.map mb)).flatMap Fd.text
  else if x.Kind=6 then iV id.toNat++(match d' x.ae id with
   |some m=>(cz ts m.aC a).headD []
   |none=>(r.map cG.Data).headD [])
  else if x.Kind=7 then(cz ts x.aQ a).flatMap gz
  else if x.Kind=8 then iO (cz ts x.Key ks) (cz ts x.aQ a)
  else match cz ts x.aQ a with
   |[]=>[]
   |p::_=>1::p
noncomputable def cz (ts:List af)(t:Int):List ab->List aD
 |[]=>[]
 |v::l=>cI ts t v::cz ts t l
noncomputable def eH (ts:List af):List aY->List ab->List Fd
 |m::ms,v::l=>if dG m v then eH ts ms l else⟨m.ah.toNat,m.cJ,cI ts m.aC v⟩::eH ts ms l
 |_,_=>[]
end
mutual
noncomputable def nC (ts:List af)(t:Int):ab->Nat
 |⟨_,_,_,_,id,ks,a,_⟩=>
  let x:=ts.getD t.toNat aL
  1+max (if ks=[]then 0 else 1) (if x.Kind=5 then oU ts x.ae a
   else if x.Kind=6 then(match d' x.ae id with
    |some m=>mf ts m.aC a
    |none=>0)
   else mf ts x.aQ a)
noncomputable def mf (ts:List af)(t:Int):List ab->Nat
 |[]=>0
 |v::l=>max (nC ts t v) (mf ts t l)
noncomputable def oU (ts:List af):List aY->List ab->Nat
 |m::ms,v::l=>if dG m v then oU ts ms l else max (nC ts m.aC v) (oU ts ms l)
 |_,_=>0
end
def dT(n:Int):Prop:=1<=n/\n<=1000
def lW(ms:List aY)(r:List cG):Prop:=r.Pairwise (λa b=>a.ah<b.ah)/\∀x,x∈r->dT x.ah/\d' ms x.ah=none
def Cv(a b:ab):Int:=(pL (a,b)).getD 0
def rh(ks:List ab):Prop:=∀i,i+1<ks.length->Cv (ks.getD i aR) (ks.getD (i+1) aR)<0
mutual
def eI(ts:List af)(pl:Bool)(t:Int):ab->Prop
 |⟨k,b,i,s,id,ks,a,r⟩=>
  let x:=ts.getD t.toNat aL
  (0<=t/\t<ts.length/\k=x.Kind/\(pl=true->r=[]))/\
  (k=1/\i=0/\s=[]/\id=0/\ks=[]/\a=[]/\r=[]\/
  k=2/\b=false/\s=[]/\id=0/\ks=[]/\a=[]/\r=[]/\x.bH<=i/\i<=x.bK\/
  k=3/\b=false/\i=0/\id=0/\ks=[]/\a=[]/\r=[]/\(s.length:Int)<=x.Max\/
  k=4/\b=false/\i=0/\s=[]/\ks=[]/\a=[]/\r=[]/\((∃y,y∈x.br/\y.ah=id)\/x.Open=true/\pl=false/\dT id)\/
  k=5/\b=false/\i=0/\s=[]/\id=0/\ks=[]/\lW x.ae r/\h6 ts pl x.ae a\/
  k=6/\b=false/\i=0/\s=[]/\ks=[]/\(match d' x.ae id with
   |some m=>r=[]/\a.length=1/\eW ts pl m.aC a
   |none=>x.Open=true/\pl=false/\dT id/\a=[]/\∃d,r=[⟨id,d⟩])\/
  k=7/\b=false/\i=0/\s=[]/\id=0/\ks=[]/\r=[]/\(a.length:Int)<=x.Max/\eW ts pl x.aQ a\/
  k=8/\b=false/\i=0/\s=[]/\id=0/\r=[]/\(ks.length:Int)<=x.Max/\a.length=ks.length/\eW ts pl x.Key ks/\eW ts pl x.aQ a/\rh ks\/
  k=9/\b=false/\i=0/\s=[]/\id=0/\ks=[]/\r=[]/\a.length<=1/\eW ts pl x.aQ a)
def eW(ts:List af)(pl:Bool)(t:Int):List ab->Prop
 |[]=>True
 |v::l=>eI ts pl t v/\eW ts pl t l
def h6(ts:List af)(pl:Bool):List aY->List ab->Prop
 |m::ms,v::l=>eI ts pl m.aC v/\h6 ts pl ms l
 |[],[]=>True
 |_,_=>False
end
theorem lp(v:ab):wt v=10+v.bL.length+(v.Rest.map λx=>x.Data.length+1).sum+hO v.bb+hO v.ar:=by cases v;rfl
theorem ra(v:ab)(l:List ab):hO (v::l)=wt v+hO l:=by rfl
theorem Z5:hO []=0:=by rfl
theorem hA:∀{l:List ab} {x:ab},x∈l->wt x<=hO l
 |y::l,x,h=>by
  rw[ra];rcases fg.1 h with rfl|h
  . simp
  . have:=hA h;omega
theorem H6{p:aD}(h:p.length<1152921504606846976):(gz p).length<=p.length+10:=by
 grind[kr,gz]
theorem JP{f:Fd}(h:f.p.length<1152921504606846976)(a:f.id<=9223372036854775807):f.text.length<=f.p.length+20:=by
 grind[H6,kr,Fd.text,kz]
theorem Ft{f:α->List c}{a b:List α}(h:a.Perm b):(a.flatMap f).length=(b.flatMap f).length:=(h.flatMap_right f).length_eq
theorem GH{n:Int}(h:hq n):(hp n).toNat<18446744073709551616:=by
 grind[hp,hq]
section
variable {ts:List af}
def za(ts:List af)(v:ab):Prop:=∀t,(cI ts t v).length+20<=21*wt v
theorem Gp:∀{l:List ab} {t:Int},hO l<=1099511627776->(∀x,x∈l->za ts x)->((cz ts t l).flatMap gz).length<=21*hO l
 |[],t,_,_=>by grind[cz]
 |v::l,t,a,h=>by
  rw[cz];rw[ra]at a⊢;have h1:=h v (.head _) t;have b:=Gp (t:=t) (by omega) λx I=>h x (.tail _ I);grind[H6]
theorem wV:∀{l:List ab} {t:Int},(cz ts t l).length=l.length
 |[],t=>by rfl
 |v::l,t=>by rw[cz,kJ,kJ,wV]
theorem I3:∀{l:List ab} {t:Int},cz ts t l=l.map (cI ts t)
 |[],t=>by rfl
 |v::l,t=>by rw[cz,List.map,I3]
theorem Cp:∀(a b:List aD),(iO a b).length<=(a.flatMap gz).length+(b.flatMap gz).length
 |[],b=>by simp[iO]
 |k::ks,[]=>by simp[iO]
 |k::ks,v::vs=>by
  have:=Cp ks vs;simp only[iO,j6,dQ];omega
theorem I4:∀{ms:List aY} {l:List ab},hO l<=1099511627776->(∀m,m∈ms->m.ah<=1000)->(∀x,x∈l->za ts x)->((eH ts ms l).flatMap Fd.text).length<=21*hO l
 |[],l,_,_,_=>by grind[eH]
 |m::ms,[],_,_,_=>by grind[eH]
 |m::ms,v::l,b,a,h=>by
  rw[ra]at b⊢;rw[eH];have h1:=h v (.head _) m.aC;have c:=I4 (by omega) (λx I=>a x (.tail _ I)) λx I=>h x (.tail _ I);grind[JP]
theorem JQ:∀{l:List cG},(∀x,x∈l->x.Data.length<=reachBytes/\x.ah<=9223372036854775807)->True->((l.map mb).flatMap Fd.text).length<=21*(l.map λx=>x.Data.length+1).sum
 |[],_,_=>by simp
 |r::l,h,_=>by
  have h1:=h r (.head _);have b:=JQ (λx I=>h x (.tail _ I)) trivial;unfold reachBytes at h1;have a:=JP (f:=mb r) (by show r.Data.length<_;omega) (by show r.ah.toNat<=_;omega);have c:(mb r).text.length<=r.Data.length+20:=a;grind
def Mj(ts:List af):Prop:=∀x,x∈ts->∀m,m∈x.ae->m.ah<=1000
theorem WV(l:List α)(i:Nat)(d:α):l.getD i d∈l\/l.getD i d=d:=by grind
theorem I5{l:List aD}{n:Nat}(h:∀x,x∈l->x.length<=n):(l.headD []).length<=n:=by
 cases l<;>grind
theorem KQ:∀{l:aZ} {n:Nat},n∈l->n<=l.sum
 |a::l,n,h=>by
  rw[List.sum_cons];rcases fg.1 h with rfl|h
  . simp
  . have:=KQ h;omega
theorem aaB(d:Mj ts)(h:cP v):wt v<=1099511627776->za ts v:=by
 induction h with
 |mk v hs h1 y z C B f dR l G n j g=>
  intro D t;have E:=lp v;have c:∀x,x∈v.bb->za ts x:=λx I=>j x I (by have:=hA I;omega);have a:=λx I=>g x I (by have:=hA I;omega);have u:=λt=>Gp (t:=t) (by omega) c;have nL:=λt=>Gp (t:=t) (by omega) a;have I:∀m,m∈(ts.getD t.toNat aL).ae->m.ah<=1000:=by
   rcases WV ts t.toNat aL with h|h
   . exact d _ h
   . rw[h];intro m e;cases e
  have w:=λt=>by
   have:((cz ts t v.ar).headD []).length<=21*hO v.ar:=I5 λp al=>by
    rw[I3]at al;obtain⟨x,I,rfl⟩:=g'.1 al;have:=a x I t;have:=hA I;omega
   omega
  have fD:=JQ (λx I=>⟨f x I,(n x I).2⟩) trivial;have q:=I4 (by omega) I a;have o:((v.Rest.map cG.Data).headD []).length<=(v.Rest.map λx=>x.Data.length+1).sum:=I5 λp al=>by
   obtain⟨x,I,rfl⟩:=g'.1 al;have:x.Data.length+1<=(v.Rest.map λx=>x.Data.length+1).sum:=KQ (g'.2 ⟨x,I,rfl⟩);omega
  obtain⟨K,b,i,s,id,ks,k,r⟩:=v;simp only at*;rw[cI];have F:=yi 8 _ (GH l);have hid:id.toNat<18446744073709551616:=by omega
  have A:=yi 8 _ hid;have al:=kr hid;generalize ts.getD t.toNat aL=x at*;split
  . grind
  . split
    . omega
    . split
      . omega
      . split
        . omega
        . split
          . rw[Ft (pY _ _),DC,dQ];omega
          . split
            . grind
            . split
              . grind
              . split
                . have:=Cp (cz ts x.Key ks) (cz ts x.aQ k);grind
                grind
end
theorem abj(v:ab):10<=wt v:=by grind[lp]
section
variable {ts:List af}
theorem tW:∀{ms:List aY} {l:List ab} {x:Fd},x∈eH ts ms l->∃m,m∈ms/\x.id=m.ah.toNat
 |[],l,x,h=>by
  grind[eH]
 |m::ms,[],x,h=>by
  grind[eH]
 |m::ms,v::l,x,h=>by
  rw[eH]at h;split at h
  . obtain⟨b,h1,a⟩:=tW h;grind
  . rcases fg.1 h with rfl|h
    . simp
    . obtain⟨b,h1,a⟩:=tW h;grind
theorem Hk{l:List ab}{n:Nat}(h:∀m,m∈ms->m.ah.toNat≠n):((eH ts ms l).filter λx=>decide (x.id=n))=[]:=by
 grind[List.filter_eq_nil_iff,tW]
theorem Rh:∀{ms:List aY} {l:List ab} {n j:Nat},ms.Pairwise (λa b=>a.ah.toNat≠b.ah.toNat)->l.length=ms.length->j<ms.length->(ms.getD j aG).ah.toNat=n->
 ((eH ts ms l).filter λx=>decide (x.id=n))=if dG (ms.getD j aG) (l.getD j aR) then[]else[⟨n,(ms.getD j aG).cJ,cI ts (ms.getD j aG).aC (l.getD j aR)⟩]
 |[],l,n,j,_,_,c,_=>by grind
 |m::ms,[],n,j,_,ag,_,_=>by grind
 |m::ms,v::l,n,0,aj,ag,c,he=>by
  rw[kI]at aj;have aV:=Hk (ts:=ts) (l:=l) (ms:=ms) (n:=n) λx I=>by grind
  grind[eH]
 |m::ms,v::l,n,j+1,aj,ag,c,he=>by
  rw[kI]at aj;have d:j<ms.length:=by grind
  have ih:=Rh aj.2 (by simpa using ag) d he;grind[eH]
theorem WW(l:List cG)(n:Nat)(h:∀x,x∈l->0<=x.ah):((l.map mb).filter λx=>decide (x.id=n))=(l.filter λx=>decide (x.ah=(n:Int))).map mb:=by
 rw[List.filter_map]
 congr 1
 apply List.filter_congr;intro x I;show decide (x.ah.toNat=n)=_;grind
noncomputable def kA (ts:List af)(ms:List aY)(l:List ab)(r:List cG):List Fd:=eH ts ms l++r.map mb
def jt(ms:List aY):Prop:=ms.Pairwise (λa b=>a.ah<b.ah)/\∀m,m∈ms->dT m.ah
theorem KR(h:jt ms):ms.Pairwise (λa b=>a.ah.toNat≠b.ah.toNat):=by
 refine h.1.imp_of_mem λ{a b} d c aF=>?_;have:=h.2 b c;grind[dT]
theorem Gu:∀{ms:List aY} {l:List ab},ms.Pairwise (λa b=>a.ah.toNat≠b.ah.toNat)->(eH ts ms l).Pairwise (λa b=>a.id≠b.id)
 |[],l,_=>by
  simp_all[eH]
 |m::ms,[],_=>by
  simp_all[eH]
 |m::ms,v::l,h=>by
  rw[kI]at h;rw[eH];split
  . exact Gu h.2
  . rw[kI];refine⟨λx I=>?_,Gu h.2⟩;grind[tW]
theorem Bw(h:d' ms id=none):∀m,m∈ms->m.ah≠id:=by
 grind[d']
theorem Fu{l:List ab}{r:List cG}(h:jt ms)(c:lW ms r):ky jj (kA ts ms l r)=true:=by
 apply I2;have key:(kA ts ms l r).Pairwise (λa b=>a.id≠b.id):=by
  unfold kA;rw[DA];refine⟨Gu (KR h),?_,?_⟩
  . rw[oL];refine c.1.imp_of_mem λ{a b} i e aF=>?_;have:=(c.2 b e).1;show a.ah.toNat≠b.ah.toNat;grind[dT]
  . intro x I y ak;obtain⟨m,h1,f⟩:=tW I;obtain⟨q,d,rfl⟩:=g'.1 ak;have g:=Bw (c.2 q d).2 m h1;have:=(c.2 q d).1;show x.id≠q.ah.toNat;grind[dT]
 grind[jj]
theorem V5{l:List ab}{r:List cG}(h:jt ms)(b:lW ms r){x:Fd}(I:x∈kA ts ms l r):1<=x.id/\x.id<=1000:=by
 rcases gY.1 I with I|I
 . obtain⟨m,h1,c⟩:=tW I;have:=h.2 m h1;grind[dT]
 . obtain⟨q,a,rfl⟩:=g'.1 I;have:=(b.2 q a).1;unfold dT at*;show 1<=q.ah.toNat/\q.ah.toNat<=1000;omega
theorem KS:SWO jj:=by refine⟨λx=>?_,λx y z h1 a=>?_,λx y z h1 a=>?_⟩<;>simp[jj]at*<;>omega
theorem Wx{l:List Fd}(al:ky jj l=true)(a:∀x,x∈l->1<=x.id/\x.id<=1000):
 nr jj l=(List.range' 1 1000).flatMap λn=>l.filter λx=>decide (x.id=n):=by
 refine RX al (pY _ _) (H5 _ _ List.nodup_range' l λx I=>?_) (AA KS l) (V4 _ 1 _ l);grind
end
section
variable {ts:List af}{pl:Bool}
theorem eO:∀{l:List ab} {t:Int},eW ts pl t l↔∀x,x∈l->eI ts pl t x
 |[],t=>by grind[eW]
 |v::l,t=>by
  rw[eW,eO];simp
theorem lQ:∀{ms:List aY} {l:List ab},h6 ts pl ms l↔l.length=ms.length/\∀i,i<ms.length->eI ts pl (ms.getD i aG).aC (l.getD i aR)
 |[],[]=>by
  grind[h6]
 |[],v::l=>by
  grind[h6]
 |m::ms,[]=>by
  grind[h6]
 |m::ms,v::l=>by
  rw[h6,lQ];constructor
  . grind
  . rintro ⟨h1,a⟩
    exact⟨a 0 (by simp),by grind,λi b=>a (i+1) (by grind)⟩
end
def dp(o:Option Bool)(P:Prop):Prop:=∃r,o=some r/\(r=true↔P)
theorem dp.imp(h:dp o P)(e:P↔Q):dp o Q:=by grind
theorem dp.of{b:Bool}(e:b=true↔P):dp (some b) P:=⟨b,rfl,e⟩
theorem dp.loop{n:Nat}{p:Nat->Bool}{g:Unit}{o:Option (Bool ⊕ Unit)}(h0:o=L 0)(e:∀i,i<n->L i=if p i then L (i+1)else some (.inl false))(c:L n=some (.inr g)):
 dp (o>>=λo=>match o with|.inl x=>some x|.inr _=>some true) (∀i,i<n->p i=true):=by
 subst h0;rcases scan L n p _ _ e c with⟨h1,a⟩|⟨h1,j,a,f⟩
 . rw[h1];exact⟨true,rfl,by grind⟩
 . rw[h1];refine⟨false,rfl,?_⟩;grind
theorem Cr(f:α->Int)(d:α):∀l:List α,l.Pairwise (λa b=>f a<f b)↔∀i,i+1<l.length->f (l.getD i d)<f (l.getD (i+1) d)
 |[]=>by simp
 |[a]=>by simp
 |a::b::l=>by
  rw[kI,Cr f d _];constructor
  . rintro ⟨h1,c⟩ i e
    cases i<;>simp_all
  . intro h;have c:∀i,i+1<(b::l).length->f ((b::l).getD i d)<f ((b::l).getD _ d):=λi e=>h (i+1) (by simpa using e);have h0:=h 0 (by simp);have g:=(Cr f d _).2 c;rw[kI]at g;grind
section
variable {ts:List af}
def CI(ts:List af)(x:ab):Prop:=∀t pl,dp (ib ((⟨ts⟩:a7),t,x,pl)) (eI ts pl t x)
theorem JR{l:List ab}(ag:l.length<=reachBytes)(ih:∀x,x∈l->CI ts x)(t:Int)(pl:Bool):dp (mN ((⟨ts⟩:a7),t,l,pl)) (eW ts pl t l):=by
 have c:=eP ag;let p:Nat->Bool:=λi=>(ib (⟨ts⟩,t,l.getD i aR,pl)).getD false;have al:∀i,i<l.length->ib (⟨ts⟩,t,l.getD i aR,pl)=some (p i)/\(p i=true↔eI ts pl t (l.getD i aR)):=by
  intro i a;obtain⟨r,h1,b⟩:=ih _ (bM a aR) t pl;grind
 rw[mN];refine(dp.loop (L:=λi=>lF (t,l,pl,(i:Int),ts)) (n:=l.length) (p:=p) (g:=()) rfl (λi a=>?_) ?_).imp ?_
 . rw[lF,cg,ai (aU a)];simp only[ab.b7,bz];rw[(al i a).1,bO (by omega)];grind
 . simp_all[lF,av]
 grind[eO,List.getElem_of_mem]
theorem BX{l:List aY}{r:Int×Bool}(h:sf l id r):(r.2=true/\∃j:Nat,j<l.length/\r.1=(j:Int)/\d' l id=some (l.getD j aG)/\(l.getD j aG).ah=id)\/(r.2=false/\d' l id=none):=by
 rcases h with⟨j,h1,a,b,rfl⟩|⟨h1,rfl⟩
 . refine .inl ⟨rfl,j,h1,rfl,?_,a⟩;unfold d';rw[List.find?_eq_some_iff_getElem];refine⟨by grind,j,h1,(ig h1 _).symm,λk c=>?_⟩;grind
 grind[d',List.getElem_of_mem]
theorem YX(ht:t.ae.length<9223372036854775807){l:List cG}(ag:l.length<=reachBytes):dp (ru (t,l)) (lW t.ae l):=by
 have k:=eP ag;let p:Nat->Bool:=λi=>!((gk (t,(l.getD i ch).ah)).getD (0,false)).2&&(bif decide (1<=(l.getD i ch).ah)then decide ((l.getD i ch).ah<=1000)else false)&&(!(decide ((0:Int)<(i:Int))) || !(decide ((l.getD i ch).ah<=(l.getD (dM .i64 (i:Int) 1).toNat ch).ah)));refine(dp.loop (L:=λi=>k0 (l,(i:Int),t)) (n:=l.length) (p:=p) (g:=()) rfl (λi b=>?_) ?_).imp ?_
 . obtain⟨r,h1,c,_⟩:=pR (t:=t) (l.getD i ch).ah ht;have d:p i=(!r.2&&(bif decide (1<=(l.getD i ch).ah)then decide ((l.getD i ch).ah<=1000)else false)&&(!(decide ((0:Int)<(i:Int))) || !(decide ((l.getD i ch).ah<=(l.getD (dM .i64 (i:Int) 1).toNat ch).ah)))):=(by grind);rw[d,k0,ai (by grind),ai (aU b)];simp only[bz];rw[c,bO (by omega)];have hid:iH ((l.getD i ch).ah,r.2)=some ((!r.2)&&(bif decide (1<=(l.getD i ch).ah)then decide ((l.getD i ch).ah<=1000)else false)):=by
    grind[iH]
   show(if aB (i:Int) l.length then iH _>>=_ else none)=_;rw[ai (aU b),hid]
   exact Rg _ _ _ _ _ _ _ _ (aU b) (λf=>by
    grind[p0,aU])
 . simp_all[k0,av]
 . unfold lW;rw[Cr (λa:cG=>a.ah) ch];have key:∀i,i<l.length->(p i=true↔(dT (l.getD i ch).ah/\d' t.ae (l.getD i ch).ah=none)/\(i=0\/(l.getD (i-1) ch).ah<(l.getD i ch).ah)):=by
    intro i b;obtain⟨r,h1,c,j⟩:=pR (t:=t) (l.getD i ch).ah ht;have d:p i=(!r.2&&(bif decide (1<=(l.getD i ch).ah)then decide ((l.getD i ch).ah<=1000)else false)&&(!(decide ((0:Int)<(i:Int))) || !(decide ((l.getD i ch).ah<=(l.getD (dM .i64 (i:Int) 1).toNat ch).ah)))):=(by grind);rw[d];have aV:r.2=false↔d' t.ae (l.getD i ch).ah=none:=by
     grind[BX]
    unfold dT;by_cases h0:i=0
    . grind
    . have f:decide ((0:Int)<(i:Int))=true:=(by grind);rw[f,p0 (by omega) (by omega),bz];grind
   constructor
   . intro h;refine⟨λi b=>?_,λx I=>?_⟩
     . grind
     . obtain⟨i,b,rfl⟩:=jk I;simp_all
   . rintro ⟨h1,c⟩ i b
     refine(key i b).2 ⟨c _ (bM b ch),?_⟩;by_cases h0:i=0
     . omega
     . have e:i-1+1=i:=(by omega);grind
theorem XV(ag:v.ar.length=t.ae.length)(d:t.ae.length<9223372036854775807)(ih:∀x,x∈v.ar->CI ts x)(pl:Bool):
 dp (kl (pl,0,ts,v,t.Kind,t.Name,t.bH,t.bK,t.Max,t.br,t.ae,t.Key,t.aQ,t.Open)>>=λo=>match o with|.inl b=>some b|.inr _=>some true) (h6 ts pl t.ae v.ar):=by
 let p:=λi=>(ib (⟨ts⟩,(t.ae.getD i aG).aC,v.ar.getD i aR,pl)).getD false;have al:∀i,i<t.ae.length->ib (⟨ts⟩,(t.ae.getD i aG).aC,v.ar.getD i aR,pl)=some (p i)/\(p i=true↔eI ts pl (t.ae.getD i aG).aC (v.ar.getD i aR)):=by
  intro i a;obtain⟨r,h1,c⟩:=ih _ (bM (by omega:i<v.ar.length) aR) (t.ae.getD i aG).aC pl;grind
 refine(dp.loop (L:=λi=>kl (pl,(i:Int),ts,v,t.Kind,t.Name,t.bH,t.bK,t.Max,t.br,t.ae,t.Key,t.aQ,t.Open)) (n:=t.ae.length) (p:=p) (g:=()) rfl (λi a=>?_) ?_).imp ?_
 . rw[kl,ai (aU a),ai (aU (by omega))];grind[bz,ab.b7,bO]
 . simp_all[kl]
 grind[lQ]
theorem YY(k:v.bb.length<9223372036854775807)(a:∀x,x∈v.bb->cP x):
 dp (jc (1,v)>>=λd=>match d with|.inl f=>some f|.inr _=>some true) (rh v.bb):=by
 by_cases h0:v.bb.length=0
 . rw[jc,av (by grind)];refine⟨true,rfl,?_⟩;simp_all[rh,true_iff]
 refine(dp.loop (L:=λi=>jc ((i+1:Nat),v)) (n:=v.bb.length-1) (p:=λi=>!(decide (0<=Cv (v.bb.getD i aR) (v.bb.getD (i+1) aR)))) (g:=()) rfl (λi j=>?_) ?_).imp ?_
 . have b:dM .i64 (i+1:Nat) 1=i:=by rw[p0 (by simp) (by omega)];rfl
   obtain⟨r,c1,c2⟩:=QP (Co (a _ (bM (by omega:i<v.bb.length) aR))) (Co (a _ (bM (by omega:i+1<v.bb.length) aR)));have c:Cv (v.bb.getD i aR) (v.bb.getD (i+1) aR)=r:=(by grind[Cv]);rw[c,jc];simp only[bl,aw];rw[b,ai (aU (by omega)),ai (aU (by omega))];simp only[bz,ab.b7];rw[c2,bO (by omega)];grind
 . have e:v.bb.length-1+1=v.bb.length:=(by omega);simp_all[jc,av]
 grind[rh]
theorem jd(pl:Bool)(t:Int)(v:ab):eI ts pl t v↔
 (0<=t/\t<ts.length/\v.Kind=(ts.getD t.toNat aL).Kind/\(pl=true->v.Rest=[]))/\
 (v.Kind=1/\v.bB=0/\v.bL=[]/\v.ah=0/\v.bb=[]/\v.ar=[]/\v.Rest=[]\/
 v.Kind=2/\v.cd=false/\v.bL=[]/\v.ah=0/\v.bb=[]/\v.ar=[]/\v.Rest=[]/\(ts.getD t.toNat aL).bH<=v.bB/\v.bB<=(ts.getD t.toNat aL).bK\/
 v.Kind=3/\v.cd=false/\v.bB=0/\v.ah=0/\v.bb=[]/\v.ar=[]/\v.Rest=[]/\(v.bL.length:Int)<=(ts.getD t.toNat aL).Max\/
 v.Kind=4/\v.cd=false/\v.bB=0/\v.bL=[]/\v.bb=[]/\v.ar=[]/\v.Rest=[]/\((∃y,y∈(ts.getD t.toNat aL).br/\y.ah=v.ah)\/(ts.getD t.toNat aL).Open=true/\pl=false/\dT v.ah)\/
 v.Kind=5/\v.cd=false/\v.bB=0/\v.bL=[]/\v.ah=0/\v.bb=[]/\lW (ts.getD t.toNat aL).ae v.Rest/\h6 ts pl (ts.getD t.toNat aL).ae v.ar\/
 v.Kind=6/\v.cd=false/\v.bB=0/\v.bL=[]/\v.bb=[]/\(match d' (ts.getD t.toNat aL).ae v.ah with
  |some m=>v.Rest=[]/\v.ar.length=1/\eW ts pl m.aC v.ar
  |none=>(ts.getD t.toNat aL).Open=true/\pl=false/\dT v.ah/\v.ar=[]/\∃d,v.Rest=[⟨v.ah,d⟩])\/
 v.Kind=7/\v.cd=false/\v.bB=0/\v.bL=[]/\v.ah=0/\v.bb=[]/\v.Rest=[]/\(v.ar.length:Int)<=(ts.getD t.toNat aL).Max/\eW ts pl (ts.getD t.toNat aL).aQ v.ar\/
 v.Kind=8/\v.cd=false/\v.bB=0/\v.bL=[]/\v.ah=0/\v.Rest=[]/\(v.bb.length:Int)<=(ts.getD t.toNat aL).Max/\v.ar.length=v.bb.length/\eW ts pl (ts.getD t.toNat aL).Key v.bb/\eW ts pl (ts.getD t.toNat aL).aQ v.ar/\rh v.bb\/
 v.Kind=9/\v.cd=false/\v.bB=0/\v.bL=[]/\v.ah=0/\v.bb=[]/\v.Rest=[]/\v.ar.length<=1/\eW ts pl (ts.getD t.toNat aL).aQ v.ar):=by
 cases v;rfl
end
def kR(v:ab):Prop:=(v.Kind=1\/v.cd=false)/\(v.Kind=2\/v.bB=0)/\(v.Kind=3\/v.bL=[])/\((v.Kind=4\/v.Kind=6)\/v.ah=0)/\(v.Kind=8\/v.bb=[])/\(5<=v.Kind\/v.ar=[])/\((v.Kind=5\/v.Kind=6)\/v.Rest=[])
theorem YZ(v:ab):dp (rr v) (kR v):=by
 rw[rr];refine .of ?_;unfold kR;have e:∀{α:Type} (l:List α),((l.length:Int)=0)↔l=[]:=λl=>by simp_all
 grind
theorem ab4{z b:Bool}{c:Prop}(d:z=true↔c)(a:b=false↔Q)(e:dp o P):dp (if(bif (bif false then true else(!z))then true else b)then some false else o) (c/\Q/\P):=by
 obtain⟨r,rfl,h⟩:=e;cases z with
 |false=>
  refine⟨false,rfl,?_⟩;grind
 |true=>
  cases b with
  |true=>refine⟨false,rfl,?_⟩;simp at a;simp[a]
  |false=>refine⟨r,rfl,?_⟩;simp at d a;simp[d,a,h]
theorem sW{q:Bool}(c:q=true↔Q)(a:dp o P):dp (some q>>=λt244=>(if t244 then o else some false)>>=λb=>some (bif t244 then b else false)) (Q/\P):=by
 obtain⟨r,rfl,h⟩:=a;refine⟨q&&r,by cases q<;>cases r<;>rfl,?_⟩;grind
theorem abT{A:Bool}{f L:Option Bool}{c e d:Prop}(a:A=true↔c)(j:dp f e)(g:A=true->dp L d):
 dp (some (!A)>>=λt107=>(if !t107 then f else some false)>>=λk=>if(bif t107 then true else(!k)) then some false else L) (c/\e/\d):=by
 obtain⟨q,rfl,b⟩:=j;cases A with
 |false=>refine⟨false,rfl,?_⟩;simp at a;simp[a]
 |true=>
  obtain⟨m,rfl,i⟩:=g rfl;cases q with
  |false=>refine⟨false,rfl,?_⟩;simp at b;simp[b]
  |true=>refine⟨m,rfl,?_⟩;simp at a b;simp[a,b,i]
theorem abU{c:Bool}{ok g L:Option Bool}{d e nL f:Prop}(l:c=false↔d)(b:dp ok e)(a:dp g nL)(j:dp L f):
 dp (some c>>=λt239=>(if !t239 then ok else some false)>>=λn=>some (bif t239 then true else(!n))>>=λt249=>(if !t249 then g else some false)>>=λo=>if(bif t249 then true else(!o)) then some false else L) (d/\e/\nL/\f):=by
 obtain⟨k,rfl,b⟩:=b;obtain⟨i,rfl,a⟩:=a;obtain⟨q,rfl,m⟩:=j;rw[<-l,<-b,<-a,<-m];cases c<;>cases k<;>cases i<;>exact⟨_,rfl,by simp⟩
theorem XW{l:List dd}{r:Int×Bool}(h:tS l id r):r.2=true↔∃y,y∈l/\y.ah=id:=by
 rcases h with⟨j,h1,a,b,rfl⟩|⟨h1,rfl⟩
 . grind
 . constructor
   . grind
   . rintro ⟨y,ak,he⟩
     obtain⟨i,c,rfl⟩:=jk ak;grind
section
variable {ts:List af}(aV:ts.length<9223372036854775807)(dy:∀t,t∈ts->e0 t)(bE:∀t,t∈ts->kX t.Kind)
include aV dy bE in
theorem F2(aq:cP v):CI ts v:=by
 induction aq with
 |mk v hs h1 Y Z an ay az dR aA aD aE au V=>
  intro t pl;rw[ib];by_cases aa:(bif decide (t<0)then true else decide (((⟨ts⟩:a7).Types.length:Int)<=t))=true
  . rw[ai aa];refine⟨false,rfl,?_⟩;rw[jd];grind
  . rw[av aa];have am:0<=t/\t<ts.length:=(by grind);obtain⟨j,rfl⟩:∃j:Nat,t=(j:Int):=⟨t.toNat,by omega⟩
    have Q:j<ts.length:=(by omega);rw[ai (aU Q)];simp only[jd,bz,ab.b7];have U:=dy _ (bM Q aL);have T:=bE _ (bM Q aL);generalize ts.getD j aL=x at U T⊢;have F:=eP (jx U.gX);have ad:=eP (jx U.syms);by_cases D:v.Kind=x.Kind
    . obtain⟨z,z1,z2⟩:=YZ v;have O:=JR (ts:=ts) Y V;have ao:=JR (ts:=ts) h1 au;show dp ((if !(!(v.Kind=x.Kind:Bool)) then rr v else some false)>>=_) _;rw[ai (by simp[D]),z1];obtain⟨K,N,L,H,M,S,l,w,E,n⟩:=x;obtain⟨p,B,b9,C,ah,s,i,R⟩:=v;simp only at D;subst D;simp only at T F ad h1 Y Z z1;have I:(bif pl then decide (0<(R.length:Int))else false)=false↔(pl=true->R=[]):=(by simp_all);have ak:p=1\/p=2\/p=3\/p=4\/p=5\/p=6\/p=7\/p=8\/p=9:=by unfold kX at T;omega
      have cut:∀ {o:Option Bool} {P W:Prop},dp o P->((kR ⟨p,B,b9,C,ah,s,i,R⟩/\(pl = true->R = [])/\P) ↔ W)->
       dp (some z>>=λr=>if(bif (bif false then true else(!r))then true else bif pl then (0<(R.length:Int):Bool)else false) then some false else o) W:=λap ar=>(ab4 z2 I ap).imp ar
      have u:(0:Int)<=j/\(j:Int)<ts.length:=am;rcases ak with rfl|rfl|rfl|rfl|rfl|rfl|rfl|rfl|rfl
      . exact cut (P:=True) (.of (b:=true) (by simp)) (by unfold kR;simp[u];grind)
      . exact cut (P:=L<=b9/\b9<=H) (.of (b:=bif decide (L<=b9)then decide (b9<=H)else false) (by by_cases g:L<=b9<;>simp[g])) (by unfold kR;simp[u];grind)
      . exact cut (P:=(C.length:Int)<=M) (.of (b:=decide ((C.length:Int)<=M)) (by simp)) (by unfold kR;simp[u];grind)
      . obtain⟨r,_,X,J⟩:=w0 (t:=⟨4,N,L,H,M,S,l,w,E,n⟩) ah ad;have hid:iH (ah,false)=some (bif decide (1<=ah)then decide (ah<=1000)else false):=(by rfl);have ae:=Dg X n pl _ (λb=>iH (ah,b)) hid;have hs:=XW J;simp only at hs;refine cut (P:=(∃y,y∈S/\y.ah=ah)\/n=true/\pl=false/\dT ah) ⟨_,ae,?_⟩ (by unfold kR;simp[u];grind);rw[<-hs];unfold dT;grind
      . refine cut (P:=i.length=l.length/\lW l R/\h6 ts pl l i) ?_ (by
         have:h6 ts pl l i->i.length=l.length:=λh=>(lQ.1 h).1
         unfold kR;simp[u];grind)
        exact abT (A:=decide ((i.length:Int)=(l.length:Int))) (by simp;omega) (YX (t:=⟨5,N,L,H,M,S,l,w,E,n⟩) F Z) (λaf=>XV (ts:=ts) (t:=⟨5,N,L,H,M,S,l,w,E,n⟩) (v:=⟨5,B,b9,C,ah,s,i,R⟩) (H3 af) F V pl)
      . obtain⟨r,_,X,J⟩:=pR (t:=⟨6,N,L,H,M,S,l,w,E,n⟩) ah F;have hid:∀b,b=false->iH (ah,b)=some (bif decide (1<=ah)then decide (ah<=1000)else false):=by
         intro b I;subst I;rfl
        have ag:decide ((R.length:Int)=1)=true->aB 0 R.length=true:=by
         intro h;have:=gf h;exact aU (k:=0) (by omega)
        refine cut (P:=match d' l ah with
         |some m=>R=[]/\i.length=1/\eW ts pl m.aC i
         |none=>n=true/\pl=false/\dT ah/\i=[]/\∃d,R=[⟨ah,d⟩]) ?_ (by
          unfold kR;simp[u]
          grind)
        obtain⟨aF,qB⟩:=r;show dp (hv (⟨6,N,L,H,M,S,l,w,E,n⟩,ah)>>=_) _;rw[X];rcases BX J with⟨e,k,bn,bt,bY,cw⟩|⟨e,bY⟩
        . simp only at e bn bt bY cw;subst e;subst bt;rw[bY];have aj:∃f:Bool,((bif decide ((i.length:Int)=1)then decide ((R.length:Int)=0)else false)=true->ib ((⟨ts⟩:a7),(l.getD (k:Int).toNat aG).aC,i.getD (0:Int).toNat aR,pl)=some f)/\(i.length=1->(f=true↔eW ts pl (l.getD k aG).aC i)):=by
           by_cases G:i.length=1
           . obtain⟨f,f1,f2⟩:=V (i.getD 0 aR) (bM (by omega:0<i.length) aR) (l.getD k aG).aC pl;refine⟨f,λ_=>f1,λ_=>?_⟩;rw[f2]
             match i,G with
             |[y],_=>rw[eO];simp
           . refine⟨false,λh=>?_,λh=>absurd h G⟩;grind
          obtain⟨f,f1,f2⟩:=aj;have al:(bif decide ((i.length:Int)=1)then decide ((R.length:Int)=0)else false)=true->aB (k:Int) l.length=true/\aB 0 i.length=true:=by
           intro ax;refine⟨aU bn,?_⟩;by_cases G:i.length=1
           . exact aU (k:=0) (by omega)
           grind
          refine⟨_,Dh _ (aB (k:Int) l.length) (aB 0 i.length) f f1 al,?_⟩;by_cases g1:i.length=1
          . simp_all
          grind
        . simp only at e bY;subst e;rw[bY];refine⟨_,Di (bif n then(!pl)else false) (bif decide (1<=ah)then decide (ah<=1000)else false) (decide ((i.length:Int)=0)) (decide ((R.length:Int)=1)) (aB 0 R.length) (decide ((R.getD (0:Int).toNat ch).ah=ah)) ag,?_⟩;unfold dT
          match R with
          |[]=>simp
          |[⟨aw,rd⟩]=>cases n<;>cases pl<;>by_cases g1:1<=ah<;>by_cases g2:ah<=1000<;>cases i<;>by_cases g3:aw=ah<;>simp[g1,g2,g3]<;>omega
          |a::b::c=>simp;omega
      . exact cut (P:=(i.length:Int)<=M/\eW ts pl E i) (sW (by simp) (O E pl)) (by unfold kR;simp[u];grind)
      . refine cut (P:=((s.length:Int)<=M/\i.length=s.length)/\eW ts pl w s/\eW ts pl E i/\rh s) ?_ (by unfold kR;simp[u];grind);refine abU (c:=bif decide (M<(s.length:Int))then true else(!(decide ((i.length:Int)=(s.length:Int))))) ?_ (ao w pl) (O E pl) (YY (v:=⟨8,B,b9,C,ah,s,i,R⟩) (eP h1) an);grind
      . exact cut (P:=i.length<=1/\eW ts pl E i) (sW (q:=decide ((i.length:Int)<=1)) (by simp;omega) (O E pl)) (by unfold kR;simp[u];grind)
    . refine⟨false,by simp[D],?_⟩;grind
end
theorem gm{l:List α}{i:Nat}(h:i<l.length)(d:α):l.drop i=l.getD i d::l.drop (i+1):=by simp_all
theorem Z6{m:aY}(a:cP v)(aj:m.bX=true):jU (v,m.bC)=some (dG m v):=by
 obtain⟨r,h1,b⟩:=Cn a m.bC;rw[h1];unfold dG;grind
structure qT (ts:List af):Prop where
 n:ts.length<=1000
 T:∀t,t∈ts->e0 t
 K:∀t,t∈ts->kX t.Kind
 M:Mj ts
 A:∀x,x∈ts->(x.Kind=5\/x.Kind=6)->jt x.ae/\x.ae.length<=16
 S:∀x,x∈ts->x.Kind=4->∀y,y∈x.br->dT y.ah
 sO:∀x,x∈ts->x.Kind=8->1<=(ts.getD x.Key.toNat aL).Kind/\(ts.getD x.Key.toNat aL).Kind<=4
section
variable {ts:List af}
theorem Gq{t:Int}{v:ab}(h:(ts.getD t.toNat aL).Kind=1):cI ts t v=if v.cd then[1]else[]:=by cases v;rw[cI];simp only[h];rfl
theorem Gr{t:Int}{v:ab}(h:(ts.getD t.toNat aL).Kind=2):cI ts t v=jq (hp v.bB).toNat:=by cases v;rw[cI];simp only[h];rfl
theorem Gs{t:Int}{v:ab}(h:(ts.getD t.toNat aL).Kind=3):cI ts t v=v.bL:=by cases v;rw[cI];simp only[h];rfl
theorem Gt{t:Int}{v:ab}(h:(ts.getD t.toNat aL).Kind=4):cI ts t v=jq v.ah.toNat:=by cases v;rw[cI];simp only[h];rfl
theorem Cw{t:Int}{v:ab}(h:(ts.getD t.toNat aL).Kind=5):cI ts t v=(nr jj (kA ts (ts.getD t.toNat aL).ae v.ar v.Rest)).flatMap Fd.text:=by cases v;rw[cI];simp only[h];rfl
theorem yS{t:Int}{v:ab}(h:(ts.getD t.toNat aL).Kind=6):cI ts t v=iV v.ah.toNat++(match d' (ts.getD t.toNat aL).ae v.ah with
 |some m=>(cz ts m.aC v.ar).headD []
 |none=>(v.Rest.map cG.Data).headD []):=by
 cases v;rw[cI];simp only[h];rfl
theorem yT{t:Int}{v:ab}(h:(ts.getD t.toNat aL).Kind=7):cI ts t v=(cz ts (ts.getD t.toNat aL).aQ v.ar).flatMap gz:=by cases v;rw[cI];simp only[h];rfl
theorem yU{t:Int}{v:ab}(h:(ts.getD t.toNat aL).Kind=8):cI ts t v=iO (cz ts (ts.getD t.toNat aL).Key v.bb) (cz ts (ts.getD t.toNat aL).aQ v.ar):=by cases v;rw[cI];simp only[h];rfl
theorem yV{t:Int}{v:ab}(h:(ts.getD t.toNat aL).Kind=9):cI ts t v=match cz ts (ts.getD t.toNat aL).aQ v.ar with
 |[]=>[]
 |p::_=>1::p:=by
 cases v;rw[cI];simp only[h];rfl
theorem KT(t:Int)(v:ab):nC ts t v=1+max (if v.bb=[]then 0 else 1) (if(ts.getD t.toNat aL).Kind=5 then oU ts (ts.getD t.toNat aL).ae v.ar
 else if(ts.getD t.toNat aL).Kind=6 then(match d' (ts.getD t.toNat aL).ae v.ah with
  |some m=>mf ts m.aC v.ar
  |none=>0)
 else mf ts (ts.getD t.toNat aL).aQ v.ar):=by
 cases v;rw[nC];try rfl
theorem Y0{t:Int}(c:v.bb=[])(b:v.ar=[]):nC ts t v=1:=by
 rw[KT,c,b];have h1:mf ts (ts.getD t.toNat aL).aQ []=0:=by rw[mf]
 have a:oU ts (ts.getD t.toNat aL).ae []=0:=by rw[oU];intros;simp_all
 rw[h1,a]
 have d:(match d' (ts.getD t.toNat aL).ae v.ah with
  |some m=>mf ts m.aC []
  |none=>0)=0:=by
  split
  . rw[mf]
  . rfl
 grind
end
section
variable {ts:List af}(H:qT ts)
theorem GU(H:qT ts)(a:cP v)(b:wt v<=1099511627776)(t:Int):(cI ts t v).length<=23089744183296:=by
 have:=aaB H.M a b t;omega
end
section
variable {ts:List af}
def jQ(ts:List af)(x:ab)(t:Int):Prop:=ki ((⟨ts⟩:a7),t,x)=some (cI ts t x)
theorem JS(b:∀y,y∈v.ar->(cI ts x.aQ y).length<=1000000000000000)(d:∀y,y∈v.ar->jQ ts y x.aQ)(ag:v.ar.length<=reachBytes):
 ∀(k i:Nat) (acc:aD),i+k=v.ar.length->acc.length+((cz ts x.aQ (v.ar.drop i)).flatMap gz).length<=70368744177664->
 rR (acc,(i:Int),ts,v,x)=some (acc++(cz ts x.aQ (v.ar.drop i)).flatMap gz)
 |0,i,acc,e,a=>by
  rw[rR,de,iw (by omega:v.ar.length<=i),cz];simp
 |k+1,i,acc,e,a=>by
  have aF:i<v.ar.length:=by omega
  have f:=eP ag;have c:v.ar.getD i aR∈v.ar:=bM aF aR;rw[gm aF aR,cz,j6,dQ]at a;have al:=b _ c;have fc:=d _ c;unfold jQ at fc;rw[rR,cg,ai (aU aF)];simp only[bl,aw,bz,ab.b7];rw[fc];simp only[aw];rw[BU];simp only[aw];rw[ai (gy),bO (by omega),JS b d ag k (i+1) _ (by omega) (by rw[dQ];omega),gm aF aR,cz,j6,lh]
theorem KU(n:v.ar.length=v.bb.length)(d:∀y,y∈v.ar->(cI ts x.aQ y).length<=1000000000000000)(e:∀y,y∈v.bb->(cI ts x.Key y).length<=1000000000000000)
 (j:∀y,y∈v.ar->jQ ts y x.aQ)(l:∀y,y∈v.bb->jQ ts y x.Key)(ag:v.ar.length<=reachBytes):
 ∀(k i:Nat) (acc:aD),i+k=v.ar.length->acc.length+(iO (cz ts x.Key (v.bb.drop i)) (cz ts x.aQ (v.ar.drop i))).length<=70368744177664->
 rS (acc,(i:Int),ts,v,x)=some (acc++iO (cz ts x.Key (v.bb.drop i)) (cz ts x.aQ (v.ar.drop i)))
 |0,i,acc,m,c=>by
  rw[rS,de,iw (by omega:v.ar.length<=i),iw (by omega:v.bb.length<=i),cz,cz,iO]
  . simp
  grind
 |k+1,i,acc,m,c=>by
  have aF:i<v.ar.length:=by omega
  have a:i<v.bb.length:=by omega
  have p:=eP ag;have f:v.ar.getD i aR∈v.ar:=bM aF aR;have g:v.bb.getD i aR∈v.bb:=bM a aR;rw[gm aF aR,gm a aR,cz,cz,iO,dQ,dQ]at c;have al:=d _ f;have o:=e _ g;have fc:=j _ f;have b:=l _ g;unfold jQ at fc b;rw[rS,cg,ai (aU a)];simp only[bl,aw,bz,ab.b7];rw[b];simp only[aw];rw[BU];simp only[aw];rw[ai (gy),ai (aU aF),fc];simp only[aw];rw[BU];simp only[aw];rw[ai (gy (by rw[dQ];omega)),bO (by omega),KU n d e j l ag k (i+1) _ (by omega) (by rw[dQ,dQ];omega),gm aF aR,gm a aR,cz,cz,iO,lh,lh]
def kB(R:List cG)(n:Nat):List Fd:=(R.filter λx=>decide (x.ah=(n:Int))).map mb
theorem XX{l:List cG}{n:Nat}(h:a.ah=(n:Int)):kB (a::l) n=mb a::kB l n:=by unfold kB;rw[List.filter_cons,ai (by rw[h];simp),l6]
theorem Y1{l:List cG}{n:Nat}(h:¬a.ah=(n:Int)):kB (a::l) n=kB l n:=by unfold kB;rw[List.filter_cons,av (by simpa using h)]
theorem aen{m:aY}{w:ab}(a:cP w)(A B:Option c):
 ((if !(!m.bX) then jU (w,m.bC)else some false).bind λb=>if(bif (!m.bX)then true else(!b)) then A else B)=if dG m w then B else A:=by
 cases aj:m.bX with
 |false=>
  have:dG m w=false:=by unfold dG;rw[aj];rfl
  rw[this];rfl
 |true=>
  have:=Z6 a aj;simp only[ds,eL,bJ,this];cases dG m w<;>rfl
theorem EZ(d:∀y,y∈v.Rest->y.Data.length<=reachBytes)(c:v.Rest.length<=reachBytes)(n:Nat)(aV:n<=1000):
 ∀(k i:Nat) (b:aD),i+k=v.Rest.length->b.length+((kB (v.Rest.drop i) n).flatMap Fd.text).length<=70368744177664->
 lD (b,(n:Int),(i:Int),ts,v,x)=some (b++(kB (v.Rest.drop i) n).flatMap Fd.text,(n:Int),ts,v,x)
 |0,i,b,f,a=>by
  rw[lD,de,iw (by omega:v.Rest.length<=i),ab.b7];simp[kB]
 |k+1,i,b,f,a=>by
  have aF:i<v.Rest.length:=by omega
  have g:=eP c;have aj:=d _ (bM aF ch);unfold reachBytes at aj;rw[gm aF ch]at a;rw[lD,cg,ai (aU aF)];simp only[bl,aw,bz,ab.b7];rw[gm aF ch];by_cases e:(v.Rest.getD i ch).ah=(n:Int)
  . rw[XX e,j6]at a⊢;have ht:(mb (v.Rest.getD i ch)).text=kz n false (v.Rest.getD i ch).Data:=by unfold mb Fd.text;rw[e];rfl
    rw[ht,dQ]at a;rw[ai (by rw[e];simp),ai (aU aF),Re (by omega) (by omega)];simp only[aw];rw[ai (gy),bO (by omega),EZ d c n aV k (i+1) _ (by omega) (by rw[dQ];omega),ht,lh]
  . rw[Y1 e]at a⊢;rw[av (by simpa using e),bO (by omega),EZ d c n aV k (i+1) _ (by omega) a]
noncomputable def vS (ts:List af)(x:af)(v:ab)(n:Nat):List Fd:=(kA ts x.ae v.ar v.Rest).filter λf=>decide (f.id=n)
theorem GV{x:af}(q:x.ae.length<9223372036854775807)(s:jt x.ae)(z:lW x.ae v.Rest)(l:v.ar.length=x.ae.length)
 (w:∀y,y∈v.Rest->y.Data.length<=reachBytes)(g:v.Rest.length<=reachBytes)(u:∀y,y∈v.ar->cP y)(o:∀x,x∈v.ar->∀t,(cI ts t x).length<=23089744183296)
 (A:∀i,i<x.ae.length->jQ ts (v.ar.getD i aR) (x.ae.getD i aG).aC):
 ∀(k n:Nat) (b:aD),n+k=1001->1<=n->b.length+(((List.range' n k).flatMap (vS ts x v)).flatMap Fd.text).length<=70368744177664->
 oy (b,(n:Int),ts,v,x)=some (b++((List.range' n k).flatMap (vS ts x v)).flatMap Fd.text)
 |0,n,b,I,h1,a=>by
  rw[oy,de];simp
 |k+1,n,b,I,h1,a=>by
  have J:∀y,y∈v.Rest->0<=y.ah:=λy ak=>by have:=(z.2 y ak).1;unfold dT at this;omega
  have ao:vS ts x v n=((eH ts x.ae v.ar).filter λf=>decide (f.id=n))++kB v.Rest n:=by
   unfold vS kA kB;rw[List.filter_append,WW _ _ J]
  rw[xW,j6,DC,ao,DC]at a⊢;simp only[dQ]at a;rw[oy,cg];obtain⟨r,_,O,H⟩:=pR (t:=x) (n:Int) q;simp only[bl,aw,bz,ab.b7];rw[O];simp only[aw];have B:∀c:aD,c.length+((kB v.Rest n).flatMap Fd.text).length<=70368744177664->lD (c,(n:Int),0,ts,v,x)=some (c++(kB v.Rest n).flatMap Fd.text,(n:Int),ts,v,x):=λc h=>by
   have:=EZ (ts:=ts) (x:=x) w g n (by omega) v.Rest.length 0 c (by omega) (by simpa using h);grind
  rcases BX H with⟨e,j,C,M,G,N⟩|⟨e,G⟩
  . have p:j<v.ar.length:=(by omega);have D:v.ar.getD j aR∈v.ar:=bM p aR;have d:=Rh (ts:=ts) (KR s) l C (n:=n) (by rw[N];simp);rw[ai e,M,ai (aU C)];rw[ai (by rw[aU p];rfl)];simp only[bz];rw[aen (u _ D)];have F:=GV q s z l w g u o A k (n+1);cases E:dG (x.ae.getD j aG) (v.ar.getD j aR)with
    |true=>
     rw[E,ai rfl]at d;rw[d]at a⊢;rw[ai rfl,B b (by omega)];simp only[aw,ab.b7];rw[bO (by omega),F _ (by omega) (by omega) (by rw[dQ];omega)];simp
    |false=>
     rw[E,c8]at d;rw[d]at a⊢;have al:=o _ D (x.ae.getD j aG).aC;have fc:=A j C;unfold jQ at fc;have ht:([⟨n,(x.ae.getD j aG).cJ,cI ts (x.ae.getD j aG).aC (v.ar.getD j aR)⟩]:List Fd).flatMap Fd.text=kz n (x.ae.getD j aG).cJ (cI ts (x.ae.getD j aG).aC (v.ar.getD j aR)):=by simp only[j6,List.flatMap_nil,ny];rfl
     rw[ht]at a⊢;rw[c8,ai (aU p),fc];simp only[aw];rw[Re (by omega) (by omega)];simp only[aw];rw[ai (gy),B _ (by rw[dQ];omega)];simp only[aw,ab.b7];rw[bO (by omega),F _ (by omega) (by omega) (by rw[dQ,dQ];omega)];grind
  . have L:((eH ts x.ae v.ar).filter λf=>decide (f.id=n))=[]:=Hk λm K=>by
     have:=Bw G m K;omega
    rw[L]at a⊢;rw[av (by simp[e]),B b (by omega)];simp only[aw,ab.b7];rw[bO (by omega),GV q s z l w g u o A k (n+1) _ (by omega) (by omega) (by rw[dQ];omega)];simp
end
end
end Go.Proofs.YtkbmjabicjpmjaaGreatDoor
