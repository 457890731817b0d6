/- The functions of the program as functions of Lean, that its code does what they say, and what they answer; part B. -/
import Derived.Test.YtkbmjabicjpmjaaGreatDoorCdA

namespace Go.Proofs.YtkbmjabicjpmjaaGreatDoor
set_option linter.all false
section
open Go Go.Proofs.YtkbmjabicjpmjaaGreatDoor.Shv
open Tryz
set_option maxRecDepth 100000
def hC:Int×au×I da->ai ((Int) ⊕ (I da))
 |(last,s,a)=>
 if !(s=[]:J) then ry s>>=λr=>if(bif bif (!r.2.2)then true else (fR .u64 r.1 2<=last:J)then true else (1000<fR .u64 r.1 2:J)) then some (.inl 12)else A9 r.2.1>>=λb=>if !b.2.2 then some (.inl 12)else some [(⟨b7 .i64 (fR .u64 r.1 2),(cn r.1 2=1:J),b.1⟩:da)]>>=λt50=>ite (bR 32 (a++t50).length) (hC (fR .u64 r.1 2,b.2.1,a++t50)) none else some (.inr a)
  partial_fixpoint
theorem ZI:cF 281 0 [0] SI hC:= .rx hC.partial_correctness (.k JL (.k Nb .n))
def mE(c:au):ai (I da×Int):=
 hC (0,c,[])>>=λo=>match o with
 |.inl a=>
 some ([],a)
 |.inr b=>
 some (b,0)
theorem aaj:bn U6 mE:= .bH .n (.k ZI .n)
def mu(a:au):ai (Int×au×Int):=
 ry a>>=λr=>if(bif bif (!r.2.2)then true else (r.1<1:J)then true else (1000<r.1:J)) then some (0,[],12)else some (b7 .i64 r.1,r.2.1,0)
theorem acu:bn U4 mu:= .bH (.k JL .n)
mutual
def zq(y:aj×au×I aj×az×Int×az):ai (ab×J×I aj×az×Int×az):=
 match y with
 |(c,p,b,f,g,e)=>
 lb p>>=λr=>if(bif (!(r.2=0:J))then true else(!(cn (r.1.length:Int) 2=0:J))) then iq (1,b,f,g,e)>>=λx=>some (ab.eta x.1,x.2.1,x.2.2.1,x.2.2.2.2.2,x.2.2.2.1,x.2.2.2.2.1)else if (c.Max<fR .i64 (r.1.length:Int) 2:J) then iq (3,b,f,g,e)>>=λv=>some (ab.eta v.1,v.2.1,v.2.2.1,v.2.2.2.2.2,v.2.2.2.1,v.2.2.2.2.1)else tH (r.1,0,b,f,g,c,0,false,0,[],0,c.ae,false,0,[],0,e,[])>>=λo=>match o with
 |.inl w=>
 some (ab.eta w.2.2.2.2.1,w.1,w.2.1,w.2.2.1,w.2.2.2.1,w.2.2.2.2.2)
 |.inr a=>
 r4 (a.1,1,a.2.1,a.2.2.1,a.2.2.2.1,a.2.2.2.2.1,a.2.2.2.2.2.1,a.2.2.2.2.2.2.1,a.2.2.2.2.2.2.2.1,a.2.2.2.2.2.2.2.2.1,a.2.2.2.2.2.2.2.2.2.1,a.2.2.2.2.2.2.2.2.2.2.1,a.2.2.2.2.2.2.2.2.2.2.2.1,a.2.2.2.2.2.2.2.2.2.2.2.2.1,a.2.2.2.2.2.2.2.2.2.2.2.2.2.1,a.2.2.2.2.2.2.2.2.2.2.2.2.2.2.1,a.2.2.2.2.2.2.2.2.2.2.2.2.2.2.2.1,a.2.2.2.2.2.2.2.2.2.2.2.2.2.2.2.2)>>=λbw=>match bw with
 |.inl D=>
 some (ab.eta D.2.2.2.1,D.1,D.2.1,D.2.2.2.2.2,D.2.2.1,D.2.2.2.2.1)
 |.inr q=>
 tI (q.1,1,q.2.1,q.2.2.1,q.2.2.2.1,q.2.2.2.2.1,q.2.2.2.2.2.1,q.2.2.2.2.2.2.1,q.2.2.2.2.2.2.2.1,q.2.2.2.2.2.2.2.2.1,q.2.2.2.2.2.2.2.2.2.1,q.2.2.2.2.2.2.2.2.2.2.1,q.2.2.2.2.2.2.2.2.2.2.2.1,q.2.2.2.2.2.2.2.2.2.2.2.2.1,q.2.2.2.2.2.2.2.2.2.2.2.2.2.1,q.2.2.2.2.2.2.2.2.2.2.2.2.2.2.1,q.2.2.2.2.2.2.2.2.2.2.2.2.2.2.2.1,q.2.2.2.2.2.2.2.2.2.2.2.2.2.2.2.2,[])>>=λh1=>match h1 with
 |.inl K=>
 some (ab.eta K.2.2.2.2.1,K.1,K.2.1,K.2.2.1,K.2.2.2.1,K.2.2.2.2.2)
 |.inr E=>
 some ((⟨E.2.2.2.2.2.2.2.2.1,E.2.2.2.2.2.2.2.2.2.1,E.2.2.2.2.2.2.2.2.2.2.1,E.2.2.2.2.2.2.2.2.2.2.2.1,E.2.2.2.2.2.2.2.2.2.2.2.2.1,E.2.2.2.2.2.2.2.2.2.2.2.2.2.2.1,E.2.2.2.2.2.2.2.2.2.2.2.2.2.2.2,[]⟩:ab),true,E.1,E.2.1,E.2.2.1,E.2.2.2.2.2.2.2.2.2.2.2.2.2.1)
  partial_fixpoint
def DA(y:aj×au×I aj×az×Int×az):ai (ab×J×I aj×az×Int×az):=
 match y with
 |(c,p,b,f,g,e)=>
 lb p>>=λr=>if !(r.2=0:J) then iq (1,b,f,g,e)>>=λx=>some (ab.eta x.1,x.2.1,x.2.2.1,x.2.2.2.2.2,x.2.2.2.1,x.2.2.2.2.1)else if (c.Max<(r.1.length:Int):J) then iq (3,b,f,g,e)>>=λv=>some (ab.eta v.1,v.2.1,v.2.2.1,v.2.2.2.2.2,v.2.2.2.1,v.2.2.2.2.1)else uu (r.1,(r.1.length:Int),0,b,f,g,c,0,false,0,[],0,c.ae,false,0,[],0,e,[])>>=λo=>match o with
 |.inl w=>
 some (ab.eta w.2.2.2.2.1,w.1,w.2.1,w.2.2.1,w.2.2.2.1,w.2.2.2.2.2)
 |.inr a=>
 some ((⟨a.2.2.2.2.2.2.2.2.1,a.2.2.2.2.2.2.2.2.2.1,a.2.2.2.2.2.2.2.2.2.2.1,a.2.2.2.2.2.2.2.2.2.2.2.1,a.2.2.2.2.2.2.2.2.2.2.2.2.1,[],a.2.2.2.2.2.2.2.2.2.2.2.2.2.2,[]⟩:ab),true,a.1,a.2.1,a.2.2.1,a.2.2.2.2.2.2.2.2.2.2.2.2.2.1)
  partial_fixpoint
def jA:Int×Int×au×I aj×az×Int×az->ai (ab×J×I aj×az×Int×az)
 |(step,t,p,b,f,g,e)=>
 some [step]>>=λt18=>ite (bR 8 (e++t18).length) (pY (t,p,b,f,g,e++t18)>>=λr=>some (dG .i64 (r.2.2.2.2.2.length:Int) 1)>>=λt39=>ite (fI 0 t39 r.2.2.2.2.2.length) (ite (t39.toNat<=r.2.2.2.2.2.length:J) (some (ab.eta r.1,r.2.1,r.2.2.1,r.2.2.2.1,r.2.2.2.2.1,r.2.2.2.2.2.take t39.toNat)) none) none) none
  partial_fixpoint
def pY:Int×au×I aj×az×Int×az->ai (ab×J×I aj×az×Int×az)
 |(t,p,b,f,g,e)=>
 if (200<=(e.length:Int):J) then iq (8,b,f,g,e)>>=λr=>some (ab.eta r.1,r.2.1,r.2.2.1,r.2.2.2.2.2,r.2.2.2.1,r.2.2.2.2.1)else ite (aG t b.length) (some (b.getD t.toNat aM)>>=λc=>if (c.ae=1:J) then some (p=[1]:J)>>=λt50=>if(bif (!(p=[]:J))then(!t50)else false) then iq (1,b,f,g,e)>>=λR=>some (ab.eta R.1,R.2.1,R.2.2.1,R.2.2.2.2.2,R.2.2.2.1,R.2.2.2.2.1)else some ((⟨c.ae,t50,0,[],0,[],[],[]⟩:ab),true,b,f,g,e)else if (c.ae=2:J) then ur p>>=λG=>if !(G.2=0:J) then iq (1,b,f,g,e)>>=λj=>some (ab.eta j.1,j.2.1,j.2.2.1,j.2.2.2.2.2,j.2.2.2.1,j.2.2.2.2.1)else Ew G.1>>=λbE=>if(bif (bE<c.bA:J)then true else (c.bI<bE:J)) then iq (2,b,f,g,e)>>=λL=>some (ab.eta L.1,L.2.1,L.2.2.1,L.2.2.2.2.2,L.2.2.2.1,L.2.2.2.2.1)else some ((⟨c.ae,false,bE,[],0,[],[],[]⟩:ab),true,b,f,g,e)else if (c.ae=3:J) then if (c.Max<(p.length:Int):J) then iq (3,b,f,g,e)>>=λA=>some (ab.eta A.1,A.2.1,A.2.2.1,A.2.2.2.2.2,A.2.2.2.1,A.2.2.2.2.1)else some ((⟨c.ae,false,0,p,0,[],[],[]⟩:ab),true,b,f,g,e)else if (c.ae=4:J) then ur p>>=λaB=>if(bif bif (!(aB.2=0:J))then true else (aB.1<1:J)then true else (1000<aB.1:J)) then iq (1,b,f,g,e)>>=λN=>some (ab.eta N.1,N.2.1,N.2.2.1,N.2.2.2.2.2,N.2.2.2.1,N.2.2.2.2.1)else some (b7 .i64 aB.1)>>=λt130=>rX (c,t130)>>=λio=>if(bif (!io.2)then(!c.bt)else false) then iq (4,b,f,g,e)>>=λO=>some (ab.eta O.1,O.2.1,O.2.2.1,O.2.2.2.2.2,O.2.2.2.1,O.2.2.2.2.1)else some ((⟨c.ae,false,0,[],t130,[],[],[]⟩:ab),true,b,f,g,e)else if (c.ae=9:J) then if (p=[]:J) then some ((⟨c.ae,false,0,[],0,[],[],[]⟩:ab),true,b,f,g,e)else ite (aG 0 p.length) (if !(gC p 0=1:J) then iq (1,b,f,g,e)>>=λP=>some (ab.eta P.1,P.2.1,P.2.2.1,P.2.2.2.2.2,P.2.2.2.1,P.2.2.2.2.1)else ite (fI 1 (p.length:Int) p.length) (jA (0,c.aE,hd p 1 (p.length:Int),b,f,g,e)>>=λQ=>some ((⟨c.ae,false,0,[],0,[],[ab.eta Q.1],[]⟩:ab),Q.2.1,Q.2.2.1,Q.2.2.2.1,Q.2.2.2.2.1,Q.2.2.2.2.2)) none) none else if (c.ae=6:J) then DP (c,p,b,f,g,e)>>=λS=>some (ab.eta S.1,S.2.1,S.2.2.1,S.2.2.2.1,S.2.2.2.2.1,S.2.2.2.2.2)else if (c.ae=7:J) then DA (c,p,b,f,g,e)>>=λU=>some (ab.eta U.1,U.2.1,U.2.2.1,U.2.2.2.1,U.2.2.2.2.1,U.2.2.2.2.2)else if (c.ae=8:J) then zq (c,p,b,f,g,e)>>=λW=>some (ab.eta W.1,W.2.1,W.2.2.1,W.2.2.2.1,W.2.2.2.2.1,W.2.2.2.2.2)else Ai (c,p,b,f,g,e)>>=λX=>some (ab.eta X.1,X.2.1,X.2.2.1,X.2.2.2.1,X.2.2.2.2.1,X.2.2.2.2.2)) none
  partial_fixpoint
def Ai(y:aj×au×I aj×az×Int×az):ai (ab×J×I aj×az×Int×az):=
 match y with
 |(c,p,b,f,g,e)=>
 mE p>>=λr=>if !(r.2=0:J) then iq (1,b,f,g,e)>>=λx=>some (ab.eta x.1,x.2.1,x.2.2.1,x.2.2.2.2.2,x.2.2.2.1,x.2.2.2.2.1)else nk (r.1,c.af,(c.af.length:Int),0,b,f,g,c,0,false,0,[],0,c.ae,false,0,[],0,e,[])>>=λo=>match o with
 |.inl w=>
 some (ab.eta w.2.2.2.2.1,w.1,w.2.1,w.2.2.1,w.2.2.2.1,w.2.2.2.2.2)
 |.inr a=>
 pQ (a.1,(a.1.length:Int),0,a.2.1,a.2.2.1,a.2.2.2.1,a.2.2.2.2.1,a.2.2.2.2.2.1,a.2.2.2.2.2.2.1,a.2.2.2.2.2.2.2.1,a.2.2.2.2.2.2.2.2.1,a.2.2.2.2.2.2.2.2.2.1,a.2.2.2.2.2.2.2.2.2.2.1,a.2.2.2.2.2.2.2.2.2.2.2.1,a.2.2.2.2.2.2.2.2.2.2.2.2.1,a.2.2.2.2.2.2.2.2.2.2.2.2.2.1,a.2.2.2.2.2.2.2.2.2.2.2.2.2.2.1,a.2.2.2.2.2.2.2.2.2.2.2.2.2.2.2.1,a.2.2.2.2.2.2.2.2.2.2.2.2.2.2.2.2,[])>>=λbw=>match bw with
 |.inl D=>
 some (ab.eta D.2.2.2.1,D.1,D.2.1,D.2.2.2.2.2,D.2.2.1,D.2.2.2.2.1)
 |.inr q=>
 some ((⟨q.2.2.2.2.2.2.2.2.1,q.2.2.2.2.2.2.2.2.2.1,q.2.2.2.2.2.2.2.2.2.2.1,q.2.2.2.2.2.2.2.2.2.2.2.1,q.2.2.2.2.2.2.2.2.2.2.2.2.1,[],q.2.2.2.2.2.2.2.2.2.2.2.2.2.2.1,q.2.2.2.2.2.2.2.2.2.2.2.2.2.2.2⟩:ab),true,q.1,q.2.1,q.2.2.1,q.2.2.2.2.2.2.2.2.2.2.2.2.2.1)
  partial_fixpoint
def DP:aj×au×I aj×az×Int×az->ai (ab×J×I aj×az×Int×az)
 |(c,p,b,f,g,e)=>
 mu p>>=λr=>if !(r.2.2=0:J) then iq (1,b,f,g,e)>>=λM=>some (ab.eta M.1,M.2.1,M.2.2.1,M.2.2.2.2.2,M.2.2.2.1,M.2.2.2.2.1)else hl (c,r.1)>>=λbx=>if bx.2 then ite (aG bx.1 c.af.length) (jA (r.1,(c.af.getD bx.1.toNat aF).aC,r.2.1,b,f,g,e)>>=λG=>some ((⟨c.ae,false,0,[],r.1,[],[ab.eta G.1],[]⟩:ab),G.2.1,G.2.2.1,G.2.2.2.1,G.2.2.2.2.1,G.2.2.2.2.2)) none else if !c.bt then iq (5,b,f,g,e)>>=λB=>some (ab.eta B.1,B.2.1,B.2.2.1,B.2.2.2.2.2,B.2.2.2.1,B.2.2.2.2.1)else some ((⟨c.ae,false,0,[],r.1,[],[],[(⟨r.1,r.2.1⟩:ct)]⟩:ab),true,b,f,g,e)
  partial_fixpoint
def tH:I au×Int×I aj×az×Int×aj×Int×J×Int×au×Int×Int×J×Int×au×Int×az×I ab->ai ((J×I aj×az×Int×ab×az) ⊕ (I au×I aj×az×Int×aj×Int×J×Int×au×Int×Int×J×Int×au×Int×az×I ab))
 |(al,i,g3,g4,g5,bu,g6,g7,g8,g9,he,hk,hm,hs,ht,hu,hw,bv)=>
 if (i<(al.length:Int):J) then ite (aG i al.length) (jA (fR .i64 i 2,bu.aS,al.getD i.toNat [],g3,g4,g5,hw)>>=λj=>if !j.2.1 then some (.inl (false,j.2.2.1,j.2.2.2.1,j.2.2.2.2.1,ab.eta j.1,j.2.2.2.2.2))else some [ab.eta j.1]>>=λt73=>ite (bR 120 (bv++t73).length) (tH (al,aQ .i64 i 2,j.2.2.1,j.2.2.2.1,j.2.2.2.2.1,bu,g6,g7,g8,g9,he,hk,hm,hs,ht,hu,j.2.2.2.2.2,bv++t73)) none) none else some (.inr (al,g3,g4,g5,bu,g6,g7,g8,g9,he,hk,hm,hs,ht,hu,hw,bv))
  partial_fixpoint
def tI:I au×Int×I aj×az×Int×aj×Int×J×Int×au×Int×Int×J×Int×au×Int×az×I ab×I ab->ai ((J×I aj×az×Int×ab×az) ⊕ (I aj×az×Int×Int×J×Int×au×Int×Int×J×Int×au×Int×az×I ab×I ab))
 |(ax,ak,hH,b0,b1,b2,ce,ci,cj,ck,cs,cM,cS,c6,dt,dE,eq,es,aD)=>
 if (ak<(ax.length:Int):J) then ite (aG ak ax.length) (jA (fR .i64 ak 2,b2.aE,ax.getD ak.toNat [],hH,b0,b1,eq)>>=λA=>if !A.2.1 then some (.inl (false,A.2.2.1,A.2.2.2.1,A.2.2.2.2.1,ab.eta A.1,A.2.2.2.2.2))else some [ab.eta A.1]>>=λt125=>ite (bR 120 (aD++t125).length) (tI (ax,aQ .i64 ak 2,A.2.2.1,A.2.2.2.1,A.2.2.2.2.1,b2,ce,ci,cj,ck,cs,cM,cS,c6,dt,dE,A.2.2.2.2.2,es,aD++t125)) none) none else some (.inr (hH,b0,b1,ce,ci,cj,ck,cs,cM,cS,c6,dt,dE,eq,es,aD))
  partial_fixpoint
def uu:I au×Int×Int×I aj×az×Int×aj×Int×J×Int×au×Int×Int×J×Int×au×Int×az×I ab->ai ((J×I aj×az×Int×ab×az) ⊕ (I aj×az×Int×Int×J×Int×au×Int×Int×J×Int×au×Int×az×I ab))
 |(t38,h0,t40,ex,fd,ff,fj,fo,fs,gc,gd,ge,gl,gs,gt,g0,g1,g2,aP)=>
 if (t40<h0:J) then ite (aG t40 t38.length) (jA (t40,fj.aE,t38.getD t40.toNat [],ex,fd,ff,g2)>>=λj=>if !j.2.1 then some (.inl (false,j.2.2.1,j.2.2.2.1,j.2.2.2.2.1,ab.eta j.1,j.2.2.2.2.2))else some [ab.eta j.1]>>=λt60=>ite (bR 120 (aP++t60).length) (uu (t38,h0,aQ .i64 t40 1,j.2.2.1,j.2.2.2.1,j.2.2.2.2.1,fj,fo,fs,gc,gd,ge,gl,gs,gt,g0,g1,j.2.2.2.2.2,aP++t60)) none) none else some (.inr (ex,fd,ff,fo,fs,gc,gd,ge,gl,gs,gt,g0,g1,g2,aP))
  partial_fixpoint
def nk:I da×I aT×Int×Int×I aj×az×Int×aj×Int×J×Int×au×Int×Int×J×Int×au×Int×az×I ab->ai ((J×I aj×az×Int×ab×az) ⊕ (I da×I aj×az×Int×aj×Int×J×Int×au×Int×Int×J×Int×au×Int×az×I ab))
 |(H,t39,bS,t41,am,an,ap,a0,a1,a2,a3,a4,a5,a9,be,bg,bi,bs,Z,aa)=>
 if (t41<bS:J) then ite (aG t41 t39.length) (some (t39.getD t41.toNat aF)>>=λY=>zs (H,(⟨Y.ah,Y.aR,Y.aC,Y.bV,Y.bO,ab.eta Y.bC⟩:aT))>>=λv=>if (0<=v.1:J) then ite (aG v.1 H.length) (jA (v.2.ah,v.2.aC,(H.getD v.1.toNat dP).b5,am,an,ap,Z)>>=λF=>if !F.2.1 then some (.inl (false,F.2.2.1,F.2.2.2.1,F.2.2.2.2.1,ab.eta F.1,F.2.2.2.2.2))else some [ab.eta F.1]>>=λt102=>ite (bR 120 (aa++t102).length) (nk (H,t39,bS,aQ .i64 t41 1,F.2.2.1,F.2.2.2.1,F.2.2.2.2.1,a0,a1,a2,a3,a4,a5,a9,be,bg,bi,bs,F.2.2.2.2.2,aa++t102)) none) none else if v.2.bO then kc (ab.eta v.2.bC)>>=λii=>some [ab.eta ii]>>=λt113=>ite (bR 120 (aa++t113).length) (nk (H,t39,bS,aQ .i64 t41 1,am,an,ap,a0,a1,a2,a3,a4,a5,a9,be,bg,bi,bs,Z,aa++t113)) none else some [v.2.ah]>>=λt55=>ite (bR 8 (Z++t55).length) (iq (7,am,an,ap,Z++t55)>>=λB=>some (dG .i64 (B.2.2.2.2.1.length:Int) 1)>>=λt74=>ite (fI 0 t74 B.2.2.2.2.1.length) (ite (t74.toNat<=B.2.2.2.2.1.length:J) (some (.inl (false,B.2.2.1,B.2.2.2.2.2,B.2.2.2.1,ab.eta B.1,B.2.2.2.2.1.take t74.toNat))) none) none) none) none else some (.inr (H,am,an,ap,a0,a1,a2,a3,a4,a5,a9,be,bg,bi,bs,Z,aa))
  partial_fixpoint
end
theorem Ym:e6 CS zq/\fx 214 2 [2] Bf tI/\e6 pJ jA/\e6 yV pY/\e6 CT Ai/\fx 215 2 [0] B0 nk/\e6 CR DA/\fx 213 2 [0] Bd uu/\e6 CQ DP/\fx 214 2 [0] Be tH:=zq.mutual_partial_correctness (eX CS) (fw 214 2 [2] Bf) (eX pJ) (eX yV) (eX CT) (fw 215 2 [0] B0) (eX CR) (fw 213 2 [0] Bd) (eX CQ) (fw 214 2 [0] Be)
 (λ_ _ h1 c _ _ h=>fb h (.k M1 (.k sg .n)) (.k (fL Be c) (.k Yb (.k (fL Bf h1) .n))))
 (λ_ _ h1 a _ _ h=>fK Bf h1 h (.k (cL pJ a) .n))
 (λ_ d _ _ h=>fb h (.k (cL yV d) .n))
 (λ_ _ _ _ _ h0 a e f g _ _ h=>fb h (.k sg (.k aaw (.k aaL (.k IH (.k (cL pJ a) (.k (cL CQ g) (.k (cL CR f) (.k (cL CS h0) (.k (cL CT e) .n))))))))))
 (λ_ bu _ _ h=>fb h (.k aaj (.k sg .n)) (.k (fL B0 bu) (.k Yl .n)))
 (λ_ _ a bu _ _ h=>fK B0 bu h (.k X6 (.k (cL pJ a) (.k aai (.k sg .n)))))
 (λ_ b _ _ h=>fb h (.k M1 (.k sg .n)) (.k (fL Bd b) .n))
 (λ_ _ a b _ _ h=>fK Bd b h (.k (cL pJ a) .n))
 (λ_ a _ _ h=>fb h (.k acu (.k sg (.k qD (.k (cL pJ a) .n)))))
 (λ_ _ a c _ _ h=>fK Be c h (.k (cL pJ a) .n))
theorem XI:bn yV pY:=cL _ Ym.2.2.2.1
def IY:aY×Int×au->ai (ab×jw×Int)
 |(s,t,m)=>
 p8 s>>=λr=>if !(r=0:J) then some ((⟨0,false,0,[],0,[],[],[]⟩:ab),(⟨[],0⟩:jw),r)else if(bif (t<0:J)then true else ((s.bk.length:Int)<=t:J)) then some ((⟨0,false,0,[],0,[],[],[]⟩:ab),(⟨[],0⟩:jw),4)else if (4096<(m.length:Int):J) then some ((⟨0,false,0,[],0,[],[],[]⟩:ab),(⟨[],3⟩:jw),12)else pY (t,m,s.bk,[],0,[])>>=λa=>if !a.2.1 then some ((⟨0,false,0,[],0,[],[],[]⟩:ab),(⟨a.2.2.2.1,a.2.2.2.2.1⟩:jw),12)else some (ab.eta a.1,(⟨[],0⟩:jw),0)
theorem abK:bn Uk IY:= .bH (.k AW (.k XI .n))
def D7:aY×Int×au->ai (ab×Int)
 |(s,t,m)=>
 IY (s,t,m)>>=λr=>some (ab.eta r.1,r.2.2)
theorem abn:bn VA D7:= .bH (.k abK .n)
def Ex:dJ×dJ×au->ai (J)
 |(w,r,m)=>
 A2 w>>=λc=>some (!c)>>=λt13=>(if !t13 then A2 r else some false)>>=λe=>if(bif t13 then true else(!e)) then some false else D7 (w.ik,w.aC,m)>>=λa=>some (!(a.2=0:J))>>=λt29=>(if !t29 then p9 (w.ik,w.aC,ab.eta a.1)else some false)>>=λf=>if(bif t29 then true else(!f)) then some false else qG (w.ik,w.aC,ab.eta a.1)>>=λb=>if(bif (!(b.2=0:J))then true else(!(b.1=m:J))) then some false else wP (w.ik,w.aC,ab.eta a.1,r.ik,r.aC)>>=λd=>some (d.2=12:J)
theorem aaO:bn CU Ex:= .bH (.k aab (.k abn (.k JI (.k MN (.k aaK .n)))))
def nr(t:aj):ai (aj):=
 if (t.ae=1:J) then some (⟨t.ae,[],0,0,0,[],[],0,0,false⟩:aj)else if (t.ae=2:J) then some (⟨t.ae,[],t.bA,t.bI,0,[],[],0,0,false⟩:aj)else if (t.ae=3:J) then some (⟨t.ae,[],0,0,t.Max,[],[],0,0,false⟩:aj)else if (t.ae=4:J) then some (⟨t.ae,t.aR,0,0,0,t.bf,[],0,0,t.bt⟩:aj)else if (t.ae=5:J) then some (⟨t.ae,t.aR,0,0,0,[],t.af,0,0,false⟩:aj)else if (t.ae=6:J) then some (⟨t.ae,t.aR,0,0,0,[],t.af,0,0,t.bt⟩:aj)else if (t.ae=7:J) then some (⟨t.ae,[],0,0,t.Max,[],[],0,t.aE,false⟩:aj)else if (t.ae=8:J) then some (⟨t.ae,[],0,0,t.Max,[],[],t.aS,t.aE,false⟩:aj)else some (⟨t.ae,[],0,0,0,[],[],0,t.aE,false⟩:aj)
theorem Z5:bn ajj nr:= .bH
def pO:Int×ab×ab->ai ((J) ⊕ (ab×ab))
 |(i,a,b)=>
 if (i<(a.a6.length:Int):J) then ite (aG i a.a6.length) (some (a.a6.getD i.toNat cq)>>=λc=>ite (aG i b.a6.length) (some (b.a6.getD i.toNat cq)>>=λd=>if !(eZ c.ah d.ah&&(jW c.b5 d.b5&&true)) then some (.inl false)else pO (aQ .i64 i 1,ab.eta a,ab.eta b)) none) none else some (.inr (ab.eta a,ab.eta b))
  partial_fixpoint
theorem Yc:cF 118 0 [0] SL pO:= .rx pO.partial_correctness
mutual
def k8(e:ab×ab):ai (J):=
 match e with
 |(a,b)=>
 if(bif bif bif bif bif (!(a.ae=b.ae:J))then true else(!(ft a.cp b.cp))then true else(!(a.bF=b.bF:J))then true else(!(a.bW=b.bW:J))then true else(!(a.ah=b.ah:J))then true else(!((a.a6.length:Int)=(b.a6.length:Int):J))) then some false else pO (0,(⟨a.ae,a.cp,a.bF,a.bW,a.ah,a.a',a.aw,a.a6⟩:ab),(⟨b.ae,b.cp,b.bF,b.bW,b.ah,b.a',b.aw,b.a6⟩:ab))>>=λo=>match o with
 |.inl j=>
 some j
 |.inr c=>
 zo (c.1.a',c.2.a')>>=λr=>(if r then zo (c.1.aw,c.2.aw)else some false)>>=λp=>some (bif r then p else false)
  partial_fixpoint
def zo(e:I ab×I ab):ai (J):=
 match e with
 |(a,b)=>
 if !((a.length:Int)=(b.length:Int):J) then some false else wE (a,b,0)>>=λo=>match o with
 |.inl j=>
 some j
 |.inr c=>
 some true
  partial_fixpoint
def wE:I ab×I ab×Int->ai ((J) ⊕ (Unit))
 |(f,g,i)=>
 if (i<(f.length:Int):J) then ite (aG i f.length) (ite (aG i g.length) (k8 (ab.eta (f.getD i.toNat aI),ab.eta (g.getD i.toNat aI))>>=λr=>if !r then some (.inl false)else wE (f,g,aQ .i64 i 1)) none) none else some (.inr ())
  partial_fixpoint
end
theorem Yn:e6 CJ k8/\e6 GX zo/\fx 183 0 [0] B1 wE:=k8.mutual_partial_correctness (eX CJ) (eX GX) (fw 183 0 [0] B1)
 (λ_ h1 _ _ h=>fb h (.k (cL GX h1) .n) (.k Yc .n))
 (λ_ a _ _ h=>fb h .n (.k (fL B1 a) .n))
 (λ_ _ h0 a _ _ h=>fK B1 a h (.k (cL CJ h0) .n))
theorem DG:bn CJ k8:=cL _ Yn.1
def zp:aT×aT->ai (J)
 |(a,b)=>
 some (bif bif bif bif (a.ah=b.ah:J)then (a.aR=b.aR:J)else false then (a.aC=b.aC:J)else false then ft a.bV b.bV else false then ft a.bO b.bO else false)>>=λt37=>(if t37 then k8 ((⟨a.bC.ae,a.bC.cp,a.bC.bF,a.bC.bW,a.bC.ah,a.bC.a',a.bC.aw,a.bC.a6⟩:ab),(⟨b.bC.ae,b.bC.cp,b.bC.bF,b.bC.bW,b.bC.ah,b.bC.a',b.bC.aw,b.bC.a6⟩:ab))else some false)>>=λr=>some (bif t37 then r else false)
theorem XV:bn ajw zp:= .bH (.k DG .n)
def pR:Int×aj×aj->ai ((J) ⊕ (aj×aj))
 |(i,a,b)=>
 if (i<(a.bf.length:Int):J) then ite (aG i a.bf.length) (some (a.bf.getD i.toNat ek)>>=λc=>ite (aG i b.bf.length) (some (b.bf.getD i.toNat ek)>>=λd=>if !(eZ c.ah d.ah&&(jW c.aR d.aR&&true)) then some (.inl false)else pR (aQ .i64 i 1,a,b)) none) none else some (.inr (a,b))
  partial_fixpoint
theorem Yo:cF 238 0 [0] SM pR:= .rx pR.partial_correctness
def pS:Int×aj×aj->ai ((J) ⊕ (Unit))
 |(a,d,e)=>
 if (a<(d.af.length:Int):J) then ite (aG a d.af.length) (some (d.af.getD a.toNat aF)>>=λb=>ite (aG a e.af.length) (some (e.af.getD a.toNat aF)>>=λc=>zp ((⟨b.ah,b.aR,b.aC,b.bV,b.bO,ab.eta b.bC⟩:aT),(⟨c.ah,c.aR,c.aC,c.bV,c.bO,ab.eta c.bC⟩:aT))>>=λr=>if !r then some (.inl false)else pS (aQ .i64 a 1,d,e)) none) none else some (.inr ())
  partial_fixpoint
theorem Yp:cF 238 0 [1] SN pS:= .rx pS.partial_correctness (.k XV .n)
def DM(g:aj×aj):ai (J):=
 match g with
 |(a,b)=>
 if(bif bif bif bif bif bif bif bif bif (!(a.ae=b.ae:J))then true else(!(a.aR=b.aR:J))then true else(!(a.bA=b.bA:J))then true else(!(a.bI=b.bI:J))then true else(!(a.Max=b.Max:J))then true else(!(a.aS=b.aS:J))then true else(!(a.aE=b.aE:J))then true else(!(ft a.bt b.bt))then true else(!((a.bf.length:Int)=(b.bf.length:Int):J))then true else(!((a.af.length:Int)=(b.af.length:Int):J))) then some false else pR (0,(⟨a.ae,a.aR,a.bA,a.bI,a.Max,a.bf,a.af,a.aS,a.aE,a.bt⟩:aj),(⟨b.ae,b.aR,b.bA,b.bI,b.Max,b.bf,b.af,b.aS,b.aE,b.bt⟩:aj))>>=λo=>match o with
 |.inl d=>
 some d
 |.inr c=>
 pS (0,c.1,c.2)>>=λe=>match e with
 |.inl f=>
 some f
 |.inr i=>
 some true
theorem Y8:bn aji DM:= .bH .n (.k Yo (.k Yp .n))
def zR(b:Int):ai (J):=
 some (bif bif bif (97<=b:J)then (b<=122:J)else false then true else bif (65<=b:J)then (b<=90:J)else false then true else (b=95:J))
theorem Me:bn ajx zR:= .bH
def Ek(b:Int):ai (J):=
 some (bif (48<=b:J)then (b<=57:J)else false)
theorem Z6:bn ajy Ek:= .bH
def pZ:au×Int->ai ((J) ⊕ (Unit))
 |(a,i)=>
 if (i<(a.length:Int):J) then ite (aG i a.length) (zR (gC a i)>>=λb=>some (!b)>>=λt27=>ite (aG i a.length||(!t27)) ((if t27 then Ek (gC a i)else some false)>>=λc=>if(bif t27 then(!c)else false) then some (.inl false)else pZ (a,aQ .i64 i 1)) none) none else some (.inr ())
  partial_fixpoint
theorem XJ:cF 240 0 [0] SO pZ:= .rx pZ.partial_correctness (.k Me (.k Z6 .n))
def uE(s:au):ai (J):=
 some (bif (s=[]:J)then true else (24<(s.length:Int):J))>>=λt10=>ite (aG 0 s.length||(!(!t10))) ((if !t10 then zR (gC s 0)else some false)>>=λr=>if(bif t10 then true else(!r)) then some false else pZ (s,0)>>=λo=>match o with
 |.inl a=>
 some a
 |.inr b=>
 some true) none
theorem IS:bn ajk uE:= .bH (.k Me .n) (.k XJ .n)
def AY:Int×Int->ai (J)
 |(a,n)=>
 some (bif bif (a<n:J)then (1<=n:J)else false then (n<=1000:J)else false)
theorem Lz:bn ajz AY:= .bH
def oN:I de×Int×Int->ai ((J) ⊕ (I de×Int))
 |(a,b,k)=>
 if (k<b:J) then ite (aG k a.length) (ite (aG b a.length) (if ((a.getD k.toNat ek).aR=(a.getD b.toNat ek).aR:J) then some (.inl false)else oN (a,b,aQ .i64 k 1)) none) none else some (.inr (a,b))
  partial_fixpoint
theorem Yd:cF 241 0 [0,0] QF oN:= .rx oN.partial_correctness
def pU(g:I de×Int×Int):ai ((J) ⊕ (I de)):=
 match g with
 |(a,c,i)=>
 if (i<(a.length:Int):J) then ite (aG i a.length) (AY (c,(a.getD i.toNat ek).ah)>>=λr=>some (!r)>>=λt19=>ite (aG i a.length||(!(!t19))) ((if !t19 then uE (a.getD i.toNat ek).aR else some false)>>=λf=>if(bif t19 then true else(!f)) then some (.inl false)else oN (a,i,0)>>=λd=>match d with
 |.inl e=>
 some (.inl e)
 |.inr b=>
 ite (aG b.2 b.1.length) (pU (b.1,(b.1.getD b.2.toNat ek).ah,aQ .i64 b.2 1)) none) none) none else some (.inr a)
  partial_fixpoint
theorem XW:cF 241 0 [0] SP pU:= .rx pU.partial_correctness (.k Lz (.k IS .n)) (.k Yd .n)
def Ap(l:I de):ai (J):=
 pU (l,0,0)>>=λo=>match o with
 |.inl b=>
 some b
 |.inr a=>
 some (bif (1<=(a.length:Int):J)then ((a.length:Int)<=16:J)else false)
theorem Zm:bn ajl Ap:= .bH .n (.k XW .n)
def oj:I aT×J×Int×Int×aT->ai ((J) ⊕ (I aT×J×Int×aT))
 |(b,d,c,k,a)=>
 if (k<c:J) then ite (aG k b.length) (if ((b.getD k.toNat aF).aR=a.aR:J) then some (.inl false)else oj (b,d,c,aQ .i64 k 1,(⟨a.ah,a.aR,a.aC,a.bV,a.bO,ab.eta a.bC⟩:aT))) none else some (.inr (b,d,c,(⟨a.ah,a.aR,a.aC,a.bV,a.bO,ab.eta a.bC⟩:aT)))
  partial_fixpoint
theorem Ye:cF 242 0 [0,0] QG oj:= .rx oj.partial_correctness
def pV(l:I aT×J×Int×Int):ai ((J) ⊕ (I aT×J)):=
 match l with
 |(b,d,e,i)=>
 if (i<(b.length:Int):J) then ite (aG i b.length) (some (b.getD i.toNat aF)>>=λa=>AY (e,a.ah)>>=λr=>some (!r)>>=λt23=>(if !t23 then uE a.aR else some false)>>=λj=>if(bif bif bif t23 then true else(!j)then true else bif a.bV then a.bO else false then true else bif (!d)then bif a.bV then true else a.bO else false) then some (.inl false)else some (!a.bO)>>=λt52=>(if t52 then k8 (ab.eta a.bC,(⟨0,false,0,[],0,[],[],[]⟩:ab))else some false)>>=λk=>if(bif t52 then(!k)else false) then some (.inl false)else oj (b,d,i,0,(⟨a.ah,a.aR,a.aC,a.bV,a.bO,ab.eta a.bC⟩:aT))>>=λf=>match f with
 |.inl g=>
 some (.inl g)
 |.inr c=>
 pV (c.1,c.2.1,c.2.2.2.ah,aQ .i64 c.2.2.1 1)) none else some (.inr (b,d))
  partial_fixpoint
theorem XX:cF 242 0 [0] SQ pV:= .rx pV.partial_correctness (.k Lz (.k IS (.k DG .n))) (.k Ye .n)
def xd(c:I aT×J):ai (J):=
 match c with
 |(l,record)=>
 pV (l,record,0,0)>>=λo=>match o with
 |.inl b=>
 some b
 |.inr a=>
 some (bif ((a.1.length:Int)<=16:J)then bif a.2 then true else (1<=(a.1.length:Int):J)else false)
theorem YB:bn ajm xd:= .bH .n (.k XX .n)
def iu(t:aj):ai (J):=
 some (bif (t.ae<1:J)then true else (9<t.ae:J))>>=λt10=>(if !t10 then nr t else some aM)>>=λr=>(if !t10 then DM (t,r)else some false)>>=λc=>some (bif t10 then true else(!c))>>=λt17=>(if !t17 then kE t.ae else some false)>>=λa=>(if((!t17)&&a) then uE t.aR else some false)>>=λd=>if(bif t17 then true else bif a then(!d)else false) then some false else if (t.ae=2:J) then some (t.bA<=t.bI:J)else if (t.ae=3:J) then some (bif (0<=t.Max:J)then (t.Max<=200:J)else false)else if (t.ae=4:J) then Ap t.bf>>=λe=>some e else some (t.ae=5:J)>>=λt54=>if t54 then if t54 then xd (t.af,(t.ae=5:J))>>=λf=>some f else some (t.ae=7:J)>>=λt63=>if t63 then if t63 then some (bif (0<=t.Max:J)then (t.Max<=50:J)else false)else some true else if (t.ae=8:J) then some (bif (0<=t.Max:J)then (t.Max<=50:J)else false)else some true else if (t.ae=6:J) then xd (t.af,(t.ae=5:J))>>=λg=>some g else some (t.ae=7:J)>>=λb=>if b then if b then some (bif (0<=t.Max:J)then (t.Max<=50:J)else false)else some true else if (t.ae=8:J) then some (bif (0<=t.Max:J)then (t.Max<=50:J)else false)else some true
theorem aaP:bn aiV iu:= .bH (.k Z5 (.k Y8 (.k IT (.k IS (.k Zm (.k YB .n))))))
def uB:Int×aj×az->ai (aj×az)
 |(i,a,b)=>
 if (i<(a.af.length:Int):J) then ite (aG i a.af.length) (some [(a.af.getD i.toNat aF).aC]>>=λt19=>ite (bR 8 (b++t19).length) (uB (aQ .i64 i 1,a,b++t19)) none) none else some (a,b)
  partial_fixpoint
theorem YC:cF 168 0 [0] SR uB:= .rx uB.partial_correctness
def Eu(t:aj):ai az:=
 uB (0,t,[])>>=λo=>if (o.1.ae=8:J) then some [o.1.aS]>>=λt27=>ite (bR 8 (o.2++t27).length) (some (o.2++t27)>>=λl=>if(bif bif (o.1.ae=7:J)then true else (o.1.ae=8:J)then true else (o.1.ae=9:J)) then some [o.1.aE]>>=λt45=>ite (bR 8 (l++t45).length) (some (l++t45)) none else some l) none else if(bif bif (o.1.ae=7:J)then true else (o.1.ae=8:J)then true else (o.1.ae=9:J)) then some [o.1.aE]>>=λa=>ite (bR 8 (o.2++a).length) (some (o.2++a)) none else some o.2
theorem ZJ:bn aiW Eu:= .bH .n (.k YC .n)
def ot:Int×Int×I aj×Int×au×Int×Int×Int×I de×I aT×Int×Int×J->ai ((Int) ⊕ (Int×I aj×Int×au×Int×Int×Int×I de×I aT×Int×Int×J))
 |(d,k,a,b,c,e,f,g,i,j,l,m,n)=>
 if (k<d:J) then kE b>>=λo=>ite (aG k a.length||(!o)) (if(bif o then ((a.getD k.toNat aM).aR=c:J)else false) then some (.inl 1)else ot (d,aQ .i64 k 1,a,b,c,e,f,g,i,j,l,m,n)) none else some (.inr (d,a,b,c,e,f,g,i,j,l,m,n))
  partial_fixpoint
theorem XY:cF 106 0 [0,0] QH ot:= .rx ot.partial_correctness (.k IT .n)
def sa:Int×az×Int×I aj×Int×au×Int×Int×Int×I de×I aT×Int×Int×J->ai ((Int) ⊕ (Int×I aj×Int×au×Int×Int×Int×I de×I aT×Int×Int×J))
 |(o,l,a,b,c,d,e,f,g,i,j,k,m,n)=>
 if (a<(l.length:Int):J) then ite (aG a l.length) (some (l.getD a.toNat 0<0:J)>>=λt58=>ite (aG a l.length||(!(!t58))) (if(bif t58 then true else ((b.length:Int)<=l.getD a.toNat 0:J)) then some (.inl 4)else sa (o,l,aQ .i64 a 1,b,c,d,e,f,g,i,j,k,m,n)) none) none else some (.inr (o,b,c,d,e,f,g,i,j,k,m,n))
  partial_fixpoint
theorem XZ:cF 106 0 [1,0] QI sa:= .rx sa.partial_correctness
def si(m:Int×I aj):ai ((Int) ⊕ (Unit)):=
 match m with
 |(i,b)=>
 if (i<(b.length:Int):J) then ite (aG i b.length) (some (b.getD i.toNat aM)>>=λc=>iu c>>=λr=>if !r then some (.inl 1)else ot (i,0,b,c.ae,c.aR,c.bA,c.bI,c.Max,c.bf,c.af,c.aS,c.aE,c.bt)>>=λe=>match e with
 |.inl f=>
 some (.inl f)
 |.inr a=>
 Eu (⟨a.2.2.1,a.2.2.2.1,a.2.2.2.2.1,a.2.2.2.2.2.1,a.2.2.2.2.2.2.1,a.2.2.2.2.2.2.2.1,a.2.2.2.2.2.2.2.2.1,a.2.2.2.2.2.2.2.2.2.1,a.2.2.2.2.2.2.2.2.2.2.1,a.2.2.2.2.2.2.2.2.2.2.2⟩:aj)>>=λk=>sa (a.1,k,0,a.2.1,a.2.2.1,a.2.2.2.1,a.2.2.2.2.1,a.2.2.2.2.2.1,a.2.2.2.2.2.2.1,a.2.2.2.2.2.2.2.1,a.2.2.2.2.2.2.2.2.1,a.2.2.2.2.2.2.2.2.2.1,a.2.2.2.2.2.2.2.2.2.2.1,a.2.2.2.2.2.2.2.2.2.2.2)>>=λg=>match g with
 |.inl j=>
 some (.inl j)
 |.inr d=>
 some (d.2.2.1=8:J)>>=λt71=>ite (aG d.2.2.2.2.2.2.2.2.2.1 d.2.1.length||(!t71)) ((if t71 then Ak (d.2.1.getD d.2.2.2.2.2.2.2.2.2.1.toNat aM).ae else some false)>>=λl=>if(bif t71 then(!l)else false) then some (.inl 1)else si (aQ .i64 d.1 1,d.2.1)) none) none else some (.inr ())
  partial_fixpoint
theorem Y9:cF 106 0 [0] SS si:= .rx si.partial_correctness (.k aaP (.k ZJ (.k L7 .n))) (.k XY (.k XZ .n))
def qA(s:aY):ai (Int):=
 if (32<(s.bk.length:Int):J) then some 3 else si (0,s.bk)>>=λo=>match o with
 |.inl a=>
 some a
 |.inr b=>
 some 0
theorem DQ:bn aiy qA:= .bH .n (.k Y9 .n)
def uh(v:ab):ai (J):=
 some (bif bif bif bif bif bif bif (v.ae=1:J)then true else(!v.cp)then bif (v.ae=2:J)then true else (v.bF=0:J)else false then bif (v.ae=3:J)then true else (v.bW=[]:J)else false then bif bif (v.ae=4:J)then true else (v.ae=6:J)then true else (v.ah=0:J)else false then bif (v.ae=8:J)then true else ((v.a'.length:Int)=0:J)else false then bif (5<=v.ae:J)then true else ((v.aw.length:Int)=0:J)else false then bif bif (v.ae=5:J)then true else (v.ae=6:J)then true else ((v.a6.length:Int)=0:J)else false)
theorem ZK:bn ai4 uh:= .bH
def ov:Int×Int×aj->ai ((Int×J) ⊕ (Unit))
 |(a,i,b)=>
 if (i<(b.bf.length:Int):J) then ite (aG i b.bf.length) (if ((b.bf.getD i.toNat ek).ah=a:J) then some (.inl (i,true))else ov (a,aQ .i64 i 1,b)) none else some (.inr ())
  partial_fixpoint
theorem XK:cF 122 0 [0] SU ov:= .rx ov.partial_correctness
def qx(b:aj×Int):ai (Int×J):=
 match b with
 |(t,id)=>
 ov (id,0,t)>>=λo=>match o with
 |.inl a=>
 some (a.1,a.2)
 |.inr c=>
 some (0,false)
theorem Aj:bn aiI qx:= .bH .n (.k XK .n)
def jP:Int×J->ai (J)
 |(n,a)=>
 some (bif bif (!a)then (1<=n:J)else false then (n<=1000:J)else false)
theorem LA:bn ai5 jP:= .bH
def p0:Int×Int×aj->ai ((Int×J) ⊕ (Unit))
 |(a,i,b)=>
 if (i<(b.af.length:Int):J) then ite (aG i b.af.length) (if ((b.af.getD i.toNat aF).ah=a:J) then some (.inl (i,true))else p0 (a,aQ .i64 i 1,b)) none else some (.inr ())
  partial_fixpoint
theorem XL:cF 98 0 [0] VQ p0:= .rx p0.partial_correctness
def g'(b:aj×Int):ai (Int×J):=
 match b with
 |(t,id)=>
 p0 (id,0,t)>>=λo=>match o with
 |.inl a=>
 some (a.1,a.2)
 |.inr c=>
 some (0,false)
theorem kC:bn akb g':= .bH .n (.k XL .n)
def mh:I ct×Int×aj->ai ((J) ⊕ (Unit))
 |(a,i,b)=>
 if (i<(a.length:Int):J) then ite (aG i a.length) (g' (b,(a.getD i.toNat cq).ah)>>=λr=>ite (aG i a.length) (jP ((a.getD i.toNat cq).ah,r.2)>>=λc=>some (!c)>>=λt31=>some (0<i:J)>>=λt34=>ite (aG i a.length||(!((!t31)&&t34))) (some (dG .i64 i 1)>>=λt43=>ite (aG t43 a.length||(!((!t31)&&t34))) (if(bif t31 then true else bif t34 then ((a.getD i.toNat cq).ah<=(a.getD t43.toNat cq).ah:J)else false) then some (.inl false)else mh (a,aQ .i64 i 1,b)) none) none) none) none else some (.inr ())
  partial_fixpoint
theorem YD:cF 179 0 [0] SV mh:= .rx mh.partial_correctness (.k kC (.k LA .n))
def ui(b:aj×I ct):ai (J):=
 match b with
 |(t,l)=>
 mh (l,0,t)>>=λo=>match o with
 |.inl a=>
 some a
 |.inr c=>
 some true
theorem ZL:bn ai6 ui:= .bH .n (.k YD .n)
def xh(n:Int):ai (Int):=
 if (0<=n:J) then some (gi .u64 2 (b7 .u64 n))else some (aQ .u64 (gi .u64 2 (b7 .u64 (dG .i64 0 (aQ .i64 n 1)))) 1)
theorem LD:bn aiC xh:= .bH
def js:J×J->ai (Int)
 |(b,a)=>
 if a then some 0 else if b then some (-1)else some 1
theorem Z7:bn ajs js:= .bH
def qv:ab×ab->ai (Int)
 |(a,b)=>
 if !(a.ae=b.ae:J) then some 0 else if (a.ae=1:J) then js (b.cp,ft a.cp b.cp)>>=λr=>some r else if (a.ae=2:J) then xh a.bF>>=λc=>xh b.bF>>=λd=>js ((c<d:J),(a.bF=b.bF:J))>>=λe=>some e else if (a.ae=3:J) then if !((a.bW.length:Int)=(b.bW.length:Int):J) then js (((a.bW.length:Int)<(b.bW.length:Int):J),false)>>=λf=>some f else js (Op.bytesLess a.bW b.bW,(a.bW=b.bW:J))>>=λg=>some g else if (a.ae=4:J) then js ((a.ah<b.ah:J),(a.ah=b.ah:J))>>=λi=>some i else some 0
theorem Ma:bn ai7 qv:= .bH (.k Z7 (.k LD .n))
def kb:Int×ab->ai ((J) ⊕ (Unit))
 |(b,a)=>
 if (b<(a.a'.length:Int):J) then some (dG .i64 b 1)>>=λt270=>ite (aG t270 a.a'.length) (ite (aG b a.a'.length) (qv (ab.eta (a.a'.getD t270.toNat aI),ab.eta (a.a'.getD b.toNat aI))>>=λc=>if (0<=c:J) then some (.inl false)else kb (aQ .i64 b 1,ab.eta a)) none) none else some (.inr ())
  partial_fixpoint
theorem YT:cF 109 0 [1] SX kb:= .rx kb.partial_correctness (.k Ma .n)
mutual
def oH(c:aY×Int×I ab×J):ai (J):=
 match c with
 |(s,t,l,plain)=>
 np (t,l,plain,0,s.bk)>>=λo=>match o with
 |.inl q=>
 some q
 |.inr L=>
 some true
  partial_fixpoint
def ju(c:aY×Int×ab×J):ai (J):=
 match c with
 |(s,t,v,plain)=>
 if(bif (t<0:J)then true else ((s.bk.length:Int)<=t:J)) then some false else ite (aG t s.bk.length) (some (s.bk.getD t.toNat aM)>>=λa=>some (!(v.ae=a.ae:J))>>=λt34=>(if !t34 then uh (ab.eta v)else some false)>>=λr=>if(bif bif t34 then true else(!r)then true else bif plain then (0<(v.a6.length:Int):J)else false) then some false else if (a.ae=1:J) then some true else if (a.ae=2:J) then some (bif (a.bA<=v.bF:J)then (v.bF<=a.bI:J)else false)else if (a.ae=3:J) then some ((v.bW.length:Int)<=a.Max:J)else if (a.ae=4:J) then qx (a,v.ah)>>=λw=>some (bif a.bt then(!plain)else false)>>=λt91=>(if((!w.2)&&t91) then jP (v.ah,w.2)else some false)>>=λW=>some (bif w.2 then true else bif t91 then W else false)else if (a.ae=5:J) then some (!((v.aw.length:Int)=(a.af.length:Int):J))>>=λt107=>(if !t107 then ui (a,v.a6)else some false)>>=λX=>if(bif t107 then true else(!X)) then some false else lI (plain,0,s.bk,ab.eta v,a.ae,a.aR,a.bA,a.bI,a.Max,a.bf,a.af,a.aS,a.aE,a.bt)>>=λo=>match o with
 |.inl q=>
 some q
 |.inr L=>
 some true else if (a.ae=6:J) then g' (a,v.ah)>>=λj=>if j.2 then some (bif ((v.aw.length:Int)=1:J)then ((v.a6.length:Int)=0:J)else false)>>=λt156=>ite (aG j.1 a.af.length||(!t156)) (ite (aG 0 v.aw.length||(!t156)) ((if t156 then ju (s,(a.af.getD j.1.toNat aF).aC,ab.eta (v.aw.getD (0:Int).toNat aI),plain)else some false)>>=λY=>some (bif t156 then Y else false)) none) none else some (bif a.bt then(!plain)else false)>>=λt177=>(if t177 then jP (v.ah,j.2)else some false)>>=λO=>some (bif bif bif t177 then O else false then ((v.aw.length:Int)=0:J)else false then ((v.a6.length:Int)=1:J)else false)>>=λt195=>ite (aG 0 v.a6.length||(!t195)) (some (bif t195 then ((v.a6.getD (0:Int).toNat cq).ah=v.ah:J)else false)) none else if (a.ae=7:J) then some ((v.aw.length:Int)<=a.Max:J)>>=λt213=>(if t213 then oH (s,a.aE,v.aw,plain)else some false)>>=λP=>some (bif t213 then P else false)else if (a.ae=8:J) then some (bif (a.Max<(v.a'.length:Int):J)then true else(!((v.aw.length:Int)=(v.a'.length:Int):J)))>>=λt239=>(if !t239 then oH (s,a.aS,v.a',plain)else some false)>>=λQ=>some (bif t239 then true else(!Q))>>=λt249=>(if !t249 then oH (s,a.aE,v.aw,plain)else some false)>>=λR=>if(bif t249 then true else(!R)) then some false else kb (1,ab.eta v)>>=λM=>match M with
 |.inl N=>
 some N
 |.inr Z=>
 some true else some ((v.aw.length:Int)<=1:J)>>=λt283=>(if t283 then oH (s,a.aE,v.aw,plain)else some false)>>=λS=>some (bif t283 then S else false)) none
  partial_fixpoint
def np:Int×I ab×J×Int×I aj->ai ((J) ⊕ (Unit))
 |(x,g,e,i,b)=>
 if (i<(g.length:Int):J) then ite (aG i g.length) (ju ((⟨b⟩:aY),x,ab.eta (g.getD i.toNat aI),e)>>=λr=>if !r then some (.inl false)else np (x,g,e,aQ .i64 i 1,b)) none else some (.inr ())
  partial_fixpoint
def lI:J×Int×I aj×ab×Int×au×Int×Int×Int×I de×I aT×Int×Int×J->ai ((J) ⊕ (Unit))
 |(e,i,b,f,B,D,E,F,G,H,p,K,y,A)=>
 if (i<(f.aw.length:Int):J) then ite (aG i p.length) (ite (aG i f.aw.length) (ju ((⟨b⟩:aY),(p.getD i.toNat aF).aC,ab.eta (f.aw.getD i.toNat aI),e)>>=λU=>if !U then some (.inl false)else lI (e,aQ .i64 i 1,b,ab.eta f,B,D,E,F,G,H,p,K,y,A)) none) none else some (.inr ())
  partial_fixpoint
end
theorem Z8:e6 GW oH/\fx 180 0 [0] B3 np/\e6 we ju/\fx 109 0 [0] B4 lI:=oH.mutual_partial_correctness (eX GW) (fw 180 0 [0] B3) (eX we) (fw 109 0 [0] B4)
 (λ_ h1 _ _ h=>fb h .n (.k (fL B3 h1) .n))
 (λ_ _ h1 a _ _ h=>fK B3 h1 h (.k (cL we a) .n))
 (λ_ _ _ h0 a b _ _ h=>fb h (.k ZK (.k Aj (.k LA (.k ZL (.k kC (.k (cL we a) (.k (cL GW h0) .n))))))) (.k (fL B4 b) (.k YT .n)))
 (λ_ _ a b _ _ h=>fK B4 b h (.k (cL we a) .n))
theorem aaQ:bn we ju:=cL _ Z8.2.2.1
def qB:aY×Int×ab->ai (J)
 |(s,t,v)=>
 ju (s,t,ab.eta v,true)>>=λr=>some r
theorem IV:bn ajR qB:= .bH (.k aaQ .n)
def oM:Int×I aT×Int×I aj->ai ((Int×Int×Int) ⊕ (Int×I aj))
 |(c,l,i,b)=>
 if (i<(l.length:Int):J) then ite (aG i l.length) (some (l.getD i.toNat aF)>>=λa=>ite (aG i l.length||(!a.bO)) (ite (aG i l.length||(!a.bO)) ((if a.bO then qB ((⟨b⟩:aY),(l.getD i.toNat aF).aC,ab.eta (l.getD i.toNat aF).bC)else some false)>>=λd=>if(bif a.bO then(!d)else false) then ite (aG i l.length) (some (.inl (c,(l.getD i.toNat aF).ah,1))) none else oM (c,l,aQ .i64 i 1,b)) none) none) none else some (.inr (c,b))
  partial_fixpoint
theorem X':cF 318 0 [0,0] QJ oM:= .rx oM.partial_correctness (.k IV .n)
def oo(e:Int×I aj):ai ((Int×Int×Int) ⊕ (Unit)):=
 match e with
 |(t,b)=>
 if (t<(b.length:Int):J) then ite (aG t b.length) (oM (t,(b.getD t.toNat aM).af,0,b)>>=λd=>match d with
 |.inl a=>
 some (.inl (a.1,a.2.1,a.2.2))
 |.inr c=>
 oo (aQ .i64 c.1 1,c.2)) none else some (.inr ())
  partial_fixpoint
theorem Yq:cF 318 0 [0] SY oo:= .rx oo.partial_correctness .n (.k X' .n)
def DN(s:aY):ai (Int×Int×Int):=
 qA s>>=λr=>if !(r=0:J) then some (0,0,r)else oo (0,s.bk)>>=λo=>match o with
 |.inl a=>
 some (a.1,a.2.1,a.2.2)
 |.inr b=>
 some (0,0,0)
theorem Y':bn ajC DN:= .bH (.k DQ .n) (.k Yq .n)
def El(s:aY):ai (Int):=
 qA s>>=λr=>if !(r=0:J) then some r else DN s>>=λa=>some a.2.2
theorem Z9:bn aju El:= .bH (.k DQ (.k Y' .n))
def sj:Int×Int×az×aj->ai (Int×az)
 |(d,i,a,b)=>
 if (i<(b.af.length:Int):J) then ite (aG i b.af.length) (some (b.af.getD i.toNat aF)>>=λc=>ite (aG c.aC a.length) (ite (c.aC.toNat<a.length:J) (sj (ed 2 (gi .i64 d (a.getD c.aC.toNat 0)),aQ .i64 i 1,a,b)) none) none) none else some (d,a)
  partial_fixpoint
theorem Za:cF 319 1 [0] SZ sj:= .rx sj.partial_correctness
def sk:Int×Int×az×aj->ai (Int×az)
 |(e,c,a,b)=>
 if (c<(b.af.length:Int):J) then ite (aG c b.af.length) (some (b.af.getD c.toNat aF)>>=λd=>ite (aG d.aC a.length) (ite (d.aC.toNat<a.length:J) (sk (ed 2 (aQ .i64 e (a.getD d.aC.toNat 0)),aQ .i64 c 1,a,b)) none) none) none else some (e,a)
  partial_fixpoint
theorem Zb:cF 319 1 [1] S0 sk:= .rx sk.partial_correctness
def Em:aj×az->ai (Int×az)
 |(a,b)=>
 if (a.ae=2:J) then if (a.bA=a.bI:J) then some (1,b)else some (2,b)else if (a.ae=3:J) then if (a.Max=0:J) then some (1,b)else some (2,b)else if (a.ae=4:J) then some (ed 2 (a.bf.length:Int),b)else if (a.ae=5:J) then sj (1,0,b,a)>>=λo=>some (o.1,o.2)else if (a.ae=6:J) then sk (0,0,b,a)>>=λd=>some (d.1,d.2)else some (a.ae=7:J)>>=λt74=>if t74 then if t74 then some (a.Max=0:J)>>=λt78=>ite (aG a.aE b.length||(!(!t78))) (ite ((a.aE.toNat<b.length:J)||(!(!t78))) (if(bif t78 then true else (b.getD a.aE.toNat 0=0:J)) then some (1,b)else some (2,b)) none) none else if (a.ae=9:J) then ite (aG a.aE b.length) (ite (a.aE.toNat<b.length:J) (some (ed 2 (aQ .i64 1 (b.getD a.aE.toNat 0)),b)) none) none else some (2,b)else if (a.ae=8:J) then some (a.Max=0:J)>>=λc=>ite (aG a.aE b.length||(!(!c))) (ite ((a.aE.toNat<b.length:J)||(!(!c))) (if(bif c then true else (b.getD a.aE.toNat 0=0:J)) then some (1,b)else some (2,b)) none) none else if (a.ae=9:J) then ite (aG a.aE b.length) (ite (a.aE.toNat<b.length:J) (some (ed 2 (aQ .i64 1 (b.getD a.aE.toNat 0)),b)) none) none else some (2,b)
theorem Z':bn ajD Em:= .bH .n (.k Za (.k Zb .n))
def r8:Int×Int×I aj×az->ai (Int×I aj×az)
 |(c,i,a,b)=>
 if (i<(a.length:Int):J) then ite (aG i a.length) (Em (a.getD i.toNat aM,b)>>=λr=>ite ((r.2.length=b.length:J)&&true) (ite (aG i r.2.length) (ite (i.toNat<r.2.length:J) (r8 (c,aQ .i64 i 1,a,r.2.set i.toNat r.1)) none) none) none) none else some (c,a,b)
  partial_fixpoint
theorem Yr:cF 274 0 [0,0] QK r8:= .rx r8.partial_correctness (.k Z' .n)
def sb:Int×I aj×az->ai az
 |(d,b,c)=>
 if (d<=gi .i64 2 (b.length:Int):J) then r8 (d,0,b,c)>>=λa=>sb (aQ .i64 a.1 1,a.2.1,a.2.2)else some c
  partial_fixpoint
theorem XM:cF 274 0 [0] S1 sb:= .rx sb.partial_correctness .n (.k Yr .n)
def DB(s:aY):ai az:=
 some (s.bk.length:Int)>>=λt8=>ite (zl 8 t8) (sb (0,s.bk,List.replicate t8.toNat 0)>>=λo=>some o) none
theorem YU:bn ajv DB:= .bH .n (.k XM .n)
def uv:az×Int×I J->ai (I J)
 |(n,i,a)=>
 if (i<(n.length:Int):J) then ite (aG i n.length) (some [(0<n.getD i.toNat 0:J)]>>=λt27=>ite (bR 1 (a++t27).length) (uv (n,aQ .i64 i 1,a++t27)) none) none else some a
  partial_fixpoint
theorem XN:cF 204 0 [0] S2 uv:= .rx uv.partial_correctness
def Ir(s:aY):ai (I J×Int):=
 El s>>=λr=>if !(r=0:J) then some ([],r)else DB s>>=λa=>uv (a,0,[])>>=λo=>some (o,0)
theorem YV:bn aje Ir:= .bH (.k Z9 (.k YU .n)) (.k XN .n)
def uy:I J×Int->ai ((Int) ⊕ (Unit))
 |(l,i)=>
 if (i<(l.length:Int):J) then ite (aG i l.length) (if !(l.getD i.toNat false) then some (.inl 10)else uy (l,aQ .i64 i 1)) none else some (.inr ())
  partial_fixpoint
theorem Zc:cF 145 0 [0] S3 uy:= .rx uy.partial_correctness
def En(s:aY):ai (Int):=
 Ir s>>=λr=>if !(r.2=0:J) then some r.2 else uy (r.1,0)>>=λo=>match o with
 |.inl a=>
 some a
 |.inr b=>
 some 0
theorem Zt:bn aiS En:= .bH (.k YV .n) (.k Zc .n)
def Ag:aY×Int->ai (Int)
 |(s,t)=>
 En s>>=λr=>if !(r=0:J) then some r else if(bif (t<0:J)then true else ((s.bk.length:Int)<=t:J)) then some 4 else some 0
theorem aaR:bn aj8 Ag:= .bH (.k Zt .n)
def zZ:dJ×dJ->ai (Int)
 |(w,r)=>
 Ag (w.ik,w.aC)>>=λa=>if !(a=0:J) then some a else Ag (r.ik,r.aC)>>=λb=>some b
theorem LJ:bn ajI zZ:= .bH (.k aaR .n)
def rM:I bD×Int×bD->ai ((J) ⊕ (Unit))
 |(a,i,b)=>
 if (i<(a.length:Int):J) then ite (aG i a.length) (some (a.getD i.toNat ey)>>=λc=>if(eZ c.c8 b.c8&&(eZ c.cO b.cO&&true)) then some (.inl true)else rM (a,aQ .i64 i 1,b)) none else some (.inr ())
  partial_fixpoint
def M3(b:I bD×bD):ai (J):=
 match b with
 |(l,p)=>
 rM (l,0,p)>>=λo=>match o with
 |.inl a=>
 some a
 |.inr c=>
 some false
def ox:Int×I bD×bD->ai ((J×I bD) ⊕ (I bD))
 |(i,a,b)=>
 if (i<(a.length:Int):J) then ite (aG i a.length) (ite (i.toNat<a.length:J) (if(eZ (a.getD i.toNat ey).c8 b.c8&&(eZ (a.getD i.toNat ey).cO b.cO&&true)) then some (.inl (true,a))else ox (aQ .i64 i 1,a,b)) none) none else some (.inr a)
  partial_fixpoint
theorem YE:cF 47 1 [0] QO ox:= .rx ox.partial_correctness
def Ad(d:bD×I bD):ai (J×I bD):=
 match d with
 |(p,b)=>
 ox (0,b,p)>>=λo=>match o with
 |.inl a=>
 some (a.1,a.2)
 |.inr c=>
 some (false,c)
theorem LO:bn ajK Ad:= .bH .n (.k YE .n)
def rE:Int×aj×aj×I bD->ai (aj×aj×I bD)
 |(i,a,b,c)=>
 if (i<(a.af.length:Int):J) then ite (aG i a.af.length) (g' (b,(a.af.getD i.toNat aF).ah)>>=λd=>if d.2 then ite (aG i a.af.length) (ite (aG d.1 b.af.length) (some [(⟨(a.af.getD i.toNat aF).aC,(b.af.getD d.1.toNat aF).aC⟩:bD)]>>=λt65=>ite (bR 16 (c++t65).length) (rE (aQ .i64 i 1,a,b,c++t65)) none) none) none else rE (aQ .i64 i 1,a,b,c)) none else some (a,b,c)
  partial_fixpoint
theorem YF:cF 50 0 [0] Vx rE:= .rx rE.partial_correctness (.k kC .n)
def mi:Int×I bD×I bD->ai (I bD)
 |(b,a,d)=>
 if (b<(a.length:Int):J) then ite (aG b a.length) (ite (b.toNat<a.length:J) (Ad (a.getD b.toNat ey,d)>>=λc=>ite ((c.2.length=d.length:J)&&true) (if !c.1 then ite (aG b a.length) (ite (b.toNat<a.length:J) (some [a.getD b.toNat ey]>>=λt127=>ite (bR 16 (c.2++t127).length) (mi (aQ .i64 b 1,a,c.2++t127)) none) none) none else mi (aQ .i64 b 1,a,c.2)) none) none) none else some d
  partial_fixpoint
theorem YG:cF 50 0 [1] Vy mi:= .rx mi.partial_correctness (.k LO .n)
def ID:aY×Int×aY×Int->ai (I bD)
 |(w,wt,r,rt)=>
 ite (aG wt w.bk.length) (some (w.bk.getD wt.toNat aM)>>=λb=>ite (aG rt r.bk.length) (some (r.bk.getD rt.toNat aM)>>=λc=>if !(b.ae=c.ae:J) then some []else rE (0,b,c,[])>>=λo=>if(bif (o.1.ae=8:J)then (0<o.1.Max:J)else false) then some [(⟨o.1.aS,o.2.1.aS⟩:bD)]>>=λt81=>ite (bR 16 (o.2.2++t81).length) (some (o.2.2++t81)>>=λl=>if(bif (o.1.ae=9:J)then true else bif bif (o.1.ae=7:J)then true else (o.1.ae=8:J)then (0<o.1.Max:J)else false) then some [(⟨o.1.aE,o.2.1.aE⟩:bD)]>>=λt107=>ite (bR 16 (l++t107).length) (mi (0,l++t107,[])>>=λd=>some d) none else mi (0,l,[])>>=λe=>some e) none else if(bif (o.1.ae=9:J)then true else bif bif (o.1.ae=7:J)then true else (o.1.ae=8:J)then (0<o.1.Max:J)else false) then some [(⟨o.1.aE,o.2.1.aE⟩:bD)]>>=λa=>ite (bR 16 (o.2.2++a).length) (mi (0,o.2.2++a,[])>>=λf=>some f) none else mi (0,o.2.2,[])>>=λg=>some g) none) none
theorem ZM:bn ajM ID:= .bH .n (.k YF (.k YG .n))
def r5:Int×I bD×Int×I aj×I aj×I bD->ai (Int×I aj×I aj×I bD)
 |(e,l,k,b,c,d)=>
 if (k<(l.length:Int):J) then ite (aG k l.length) (Ad (l.getD k.toNat ey,d)>>=λa=>ite ((a.2.length=d.length:J)&&true) (if !a.1 then ite (aG k l.length) (some [l.getD k.toNat ey]>>=λt54=>ite (bR 16 (a.2++t54).length) (r5 (e,l,aQ .i64 k 1,b,c,a.2++t54)) none) none else r5 (e,l,aQ .i64 k 1,b,c,a.2)) none) none else some (e,b,c,d)
  partial_fixpoint
theorem Yf:cF 51 0 [0,0] QP r5:= .rx r5.partial_correctness (.k LO .n)
def wG:Int×I aj×I aj×I bD->ai (I bD)
 |(i,c,d,a)=>
 if (i<(a.length:Int):J) then ite (aG i a.length) (ite (i.toNat<a.length:J) (ite (aG i a.length) (ite (i.toNat<a.length:J) (ID ((⟨c⟩:aY),(a.getD i.toNat ey).c8,(⟨d⟩:aY),(a.getD i.toNat ey).cO)>>=λe=>r5 (i,e,0,c,d,a)>>=λb=>wG (aQ .i64 b.1 1,b.2.1,b.2.2.1,b.2.2.2)) none) none) none) none else some a
  partial_fixpoint
theorem X0:cF 51 0 [0] Vz wG:= .rx wG.partial_correctness (.k ZM .n) (.k Yf .n)
def DR:aY×Int×aY×Int->ai (I bD)
 |(w,wt,r,rt)=>
 wG (0,w.bk,r.bk,[(⟨wt,rt⟩:bD)])>>=λo=>some o
theorem YH:bn ajN DR:= .bH .n (.k X0 .n)
def rF:Int×Int×aj->ai (Int)
 |(a,v,b)=>
 if(bif (a<100:J)then (v<b.bI:J)else false) then rF (aQ .i64 a 1,aQ .i64 v 1,b)else some a
  partial_fixpoint
theorem YI:cF 95 0 [0] VL rF:= .rx rF.partial_correctness
def xm(a:aj):ai (Int):=
 if (a.ae=1:J) then some 2 else if (a.ae=2:J) then rF (1,a.bA,a)>>=λo=>some o else if (a.ae=4:J) then some (a.bf.length:Int)else if (a.Max=0:J) then some 1 else some 100
theorem ZN:bn aj9 xm:= .bH .n (.k YI .n)
def rI:Int×aj×aj->ai ((J) ⊕ (aj×aj))
 |(i,a,b)=>
 if (i<(a.bf.length:Int):J) then ite (aG i a.bf.length) (qx (b,(a.bf.getD i.toNat ek).ah)>>=λr=>if !r.2 then some (.inl false)else rI (aQ .i64 i 1,a,b)) none else some (.inr (a,b))
  partial_fixpoint
theorem YW:cF 96 0 [0] VM rI:= .rx rI.partial_correctness (.k Aj .n)
def rJ:Int×aj×aj->ai ((J) ⊕ (Unit))
 |(b,a,c)=>
 if (b<(a.af.length:Int):J) then ite (aG b a.af.length) (g' (c,(a.af.getD b.toNat aF).ah)>>=λd=>if !d.2 then some (.inl false)else rJ (aQ .i64 b 1,a,c)) none else some (.inr ())
  partial_fixpoint
theorem YX:cF 96 0 [1] VN rJ:= .rx rJ.partial_correctness (.k kC .n)
def um(f:aj×aj):ai (J):=
 match f with
 |(e,y)=>
 rI (0,e,y)>>=λo=>match o with
 |.inl b=>
 some b
 |.inr a=>
 rJ (0,a.1,a.2)>>=λc=>match c with
 |.inl d=>
 some d
 |.inr g=>
 some true
theorem aaS:bn aj' um:= .bH .n (.k YW (.k YX .n))
def rN:aY×Int->ai (Int)
 |(s,t)=>
 qA s>>=λr=>if !(r=0:J) then some r else if(bif (t<0:J)then true else ((s.bk.length:Int)<=t:J)) then some 4 else some 0
theorem LK:bn aiG rN:= .bH (.k DQ .n)
def Eo:aY×Int×ab×aY×Int->ai (Int)
 |(w,wt,v,r,rt)=>
 rN (w,wt)>>=λa=>if !(a=0:J) then some a else rN (r,rt)>>=λb=>if !(b=0:J) then some b else qB (w,wt,ab.eta v)>>=λc=>if !c then some 1 else some 0
theorem Zu:bn ajS Eo:= .bH (.k LK (.k IV .n))
def k9(so:az):ai (ej):=
 ite (bR 8 ([]++so).length) (some (⟨(⟨0,false,0,[],0,[],[],[]⟩:ab),[]++so,false⟩:ej)) none
theorem DJ:bn aiH k9:= .bH
def xi:Int×au->ai au
 |(a,b)=>
 if (0<a:J) then some (strOf [b7 .u8 (cn a 256)])>>=λt10=>ite (t10.length+b.length<=eT:J) (xi (fR .u64 a 256,t10++b)) none else some b
  partial_fixpoint
theorem YY:cF 114 0 [0] S4 xi:= .rx xi.partial_correctness
def Ah(n:Int):ai au:=
 xi (n,[])>>=λo=>some o
theorem aaT:bn aiB Ah:= .bH .n (.k YY .n)
def xj:Int×az->ai (Int×az)
 |(a,b)=>
 if (128<=a:J) then some [b7 .u8 (aQ .u64 (cn a 128) 128)]>>=λt11=>ite (bR 1 (b++t11).length) (xj (fR .u64 a 128,b++t11)) none else some (a,b)
  partial_fixpoint
theorem YZ:cF 116 0 [0] SB xj:= .rx xj.partial_correctness
def rT(n:Int):ai au:=
 xj (n,[])>>=λo=>some [b7 .u8 o.1]>>=λt18=>ite (bR 1 (o.2++t18).length) (some (strOf (o.2++t18))) none
theorem Iz:bn aiD rT:= .bH .n (.k YZ .n)
def rR(p:au):ai au:=
 rT (b7 .u64 (p.length:Int))>>=λr=>ite (r.length+p.length<=eT:J) (some (r++p)) none
theorem Is:bn aiE rR:= .bH (.k Iz .n)
def z':Int×J×au->ai au
 |(id,d,p)=>
 some (b7 .u64 (gi .i64 2 id))>>=λt10=>if d then rT (aQ .u64 t10 1)>>=λr=>rR p>>=λa=>ite (r.length+a.length<=eT:J) (some (r++a)) none else rT t10>>=λb=>rR p>>=λc=>ite (b.length+c.length<=eT:J) (some (b++c)) none
theorem LL:bn aiF z':= .bH (.k Iz (.k Is .n))
def ni:au×Int×Int×I aj×ab×aj->ai (au×Int×I aj×ab×aj)
 |(c,b,k,d,a,e)=>
 if (k<(a.a6.length:Int):J) then ite (aG k a.a6.length) (if ((a.a6.getD k.toNat cq).ah=b:J) then ite (aG k a.a6.length) (z' (b,false,(a.a6.getD k.toNat cq).b5)>>=λf=>ite (c.length+f.length<=eT:J) (ni (c++f,b,aQ .i64 k 1,d,ab.eta a,e)) none) none else ni (c,b,aQ .i64 k 1,d,ab.eta a,e)) none else some (c,b,d,ab.eta a,e)
  partial_fixpoint
theorem Yg:cF 63 0 [0,2] QQ ni:= .rx ni.partial_correctness (.k LL .n)
mutual
def kD:aY×Int×ab->ai au
 |(s,t,v)=>
 ite (aG t s.bk.length) (some (s.bk.getD t.toNat aM)>>=λa=>if (a.ae=1:J) then if v.cp then some [1]else some []else if (a.ae=2:J) then xh v.bF>>=λr=>Ah r>>=λZ=>some Z else if (a.ae=3:J) then some v.bW else if (a.ae=4:J) then Ah (b7 .u64 v.ah)>>=λan=>some an else if (a.ae=9:J) then if ((v.aw.length:Int)=0:J) then some []else ite (aG 0 v.aw.length) (kD (s,a.aE,ab.eta (v.aw.getD (0:Int).toNat aI))>>=λP=>ite ([1].length+P.length<=eT:J) (some ([1]++P)) none) none else if (a.ae=6:J) then if (0<(v.a6.length:Int):J) then rT (b7 .u64 v.ah)>>=λQ=>ite (aG 0 v.a6.length) (some (v.a6.getD (0:Int).toNat cq)>>=λW=>ite (Q.length+W.b5.length<=eT:J) (some (Q++W.b5)) none) none else g' (a,v.ah)>>=λR=>rT (b7 .u64 v.ah)>>=λS=>ite (aG R.1 a.af.length) (ite (aG 0 v.aw.length) (kD (s,(a.af.getD R.1.toNat aF).aC,ab.eta (v.aw.getD (0:Int).toNat aI))>>=λU=>ite (S.length+U.length<=eT:J) (some (S++U)) none) none) none else if (a.ae=7:J) then tL ([],0,s.bk,ab.eta v,a)>>=λo=>some o else if (a.ae=8:J) then tM ([],0,s.bk,ab.eta v,a)>>=λX=>some X else pW ([],1,s.bk,ab.eta v,a)>>=λY=>some Y) none
  partial_fixpoint
def tL:au×Int×I aj×ab×aj->ai au
 |(G,i,b,A,K)=>
 if (i<(A.aw.length:Int):J) then ite (aG i A.aw.length) (kD ((⟨b⟩:aY),K.aE,ab.eta (A.aw.getD i.toNat aI))>>=λaa=>rR aa>>=λL=>ite (G.length+L.length<=eT:J) (tL (G++L,aQ .i64 i 1,b,ab.eta A,K)) none) none else some G
  partial_fixpoint
def tM:au×Int×I aj×ab×aj->ai au
 |(H,p,E,g,F)=>
 if (p<(g.aw.length:Int):J) then ite (aG p g.a'.length) (kD ((⟨E⟩:aY),F.aS,ab.eta (g.a'.getD p.toNat aI))>>=λak=>rR ak>>=λM=>ite (H.length+M.length<=eT:J) (some (H++M)>>=λt144=>ite (aG p g.aw.length) (kD ((⟨E⟩:aY),F.aE,ab.eta (g.aw.getD p.toNat aI))>>=λal=>rR al>>=λN=>ite (t144.length+N.length<=eT:J) (tM (t144++N,aQ .i64 p 1,E,ab.eta g,F)) none) none) none) none else some H
  partial_fixpoint
def pW:au×Int×I aj×ab×aj->ai au
 |(y,id,B,c,j)=>
 if (id<=1000:J) then g' (j,id)>>=λe=>if e.2 then ite (aG e.1 j.af.length) (some (j.af.getD e.1.toNat aF)>>=λD=>some (!D.bO)>>=λt175=>ite (aG e.1 c.aw.length||(!(!t175))) ((if !t175 then k8 (ab.eta (c.aw.getD e.1.toNat aI),ab.eta D.bC)else some false)>>=λam=>if(bif t175 then true else(!am)) then ite (aG e.1 c.aw.length) (kD ((⟨B⟩:aY),D.aC,ab.eta (c.aw.getD e.1.toNat aI))>>=λap=>z' (id,D.bV,ap)>>=λO=>ite (y.length+O.length<=eT:J) (ni (y++O,id,0,B,ab.eta c,j)>>=λq=>pW (q.1,aQ .i64 q.2.1 1,q.2.2.1,ab.eta q.2.2.2.1,q.2.2.2.2)) none) none else ni (y,id,0,B,ab.eta c,j)>>=λw=>pW (w.1,aQ .i64 w.2.1 1,w.2.2.1,ab.eta w.2.2.2.1,w.2.2.2.2)) none) none else ni (y,id,0,B,ab.eta c,j)>>=λx=>pW (x.1,aQ .i64 x.2.1 1,x.2.2.1,ab.eta x.2.2.2.1,x.2.2.2.2)else some y
  partial_fixpoint
end
theorem XO:e6 tu kD/\fx 63 0 [2] y0 pW/\fx 63 0 [1] yZ tM/\fx 63 0 [0] yY tL:=kD.mutual_partial_correctness (eX tu) (fw 63 0 [2] y0) (fw 63 0 [1] yZ) (fw 63 0 [0] yY)
 (λ_ _ _ _ h0 h1 a b _ _ h=>fb h (.k LD (.k aaT (.k (cL tu h0) (.k Iz (.k kC .n))))) (.k (fL yY b) (.k (fL yZ a) (.k (fL y0 h1) .n))))
 (λ_ _ h0 h1 _ _ h=>fK y0 h1 h (.k kC (.k DG (.k (cL tu h0) (.k LL .n)))) (.k Yg .n))
 (λ_ _ h0 a _ _ h=>fK yZ a h (.k (cL tu h0) (.k Is .n)))
 (λ_ _ h0 b _ _ h=>fK yY b h (.k (cL tu h0) (.k Is .n)))
theorem IQ:bn tu kD:=cL _ XO.1
def oE(v:ab):ai (ej):=
 some (⟨ab.eta v,[],true⟩:ej)
theorem It:bn aiK oE:= .bH
def rV:az×Int->ai az
 |(so,step)=>
 ite (bR 8 ([]++so).length) (some ([]++so)>>=λl=>some [step]>>=λt9=>ite (bR 8 (l++t9).length) (some (l++t9)) none) none
theorem Ae:bn aiJ rV:= .bH
def xl:ab×ab->ai (J)
 |(a,b)=>
 k8 (ab.eta a,ab.eta b)>>=λr=>some r
theorem LM:bn ajf xl:= .bH (.k DG .n)
def wI:aT×ab->ai (J)
 |(m,v)=>
 (if m.bO then xl (ab.eta m.bC,ab.eta v)else some false)>>=λr=>some (bif m.bO then r else false)
theorem L3:bn ai8 wI:= .bH (.k LM .n)
def ow:az×Int×I aj×aj×ab×aj×Int×J×Int×au×Int×J×Int×J×Int×au×Int×I ab×I ct->ai ((ej) ⊕ (Int×J×Int×au×Int×J×Int×J×Int×au×Int×I ab×I ct))
 |(u,i,e,c,b,f,g,j,k,l,m,n,o,p,q,r,s,t,d)=>
 if (i<(c.af.length:Int):J) then ite (aG i c.af.length) (some (c.af.getD i.toNat aF)>>=λa=>g' (f,a.ah)>>=λw=>if w.2 then ow (u,aQ .i64 i 1,e,c,ab.eta b,f,g,j,k,l,m,n,o,p,q,r,s,t,d)else if a.bV then rV (u,a.ah)>>=λx=>k9 x>>=λv=>some (.inl (⟨ab.eta v.b6,v.fy,v.cD⟩:ej))else ite (aG i b.aw.length) (wI ((⟨a.ah,a.aR,a.aC,a.bV,a.bO,ab.eta a.bC⟩:aT),ab.eta (b.aw.getD i.toNat aI))>>=λy=>if !y then ite (aG i b.aw.length) (kD ((⟨e⟩:aY),a.aC,ab.eta (b.aw.getD i.toNat aI))>>=λz=>some [(⟨a.ah,z⟩:ct)]>>=λt170=>ite (bR 24 (d++t170).length) (ow (u,aQ .i64 i 1,e,c,ab.eta b,f,g,j,k,l,m,n,o,p,q,r,s,t,d++t170)) none) none else ow (u,aQ .i64 i 1,e,c,ab.eta b,f,g,j,k,l,m,n,o,p,q,r,s,t,d)) none) none else some (.inr (g,j,k,l,m,n,o,p,q,r,s,t,d))
  partial_fixpoint
theorem XP:cF 124 0 [1] SC ow:= .rx ow.partial_correctness (.k kC (.k Ae (.k DJ (.k L3 (.k IQ .n)))))
mutual
def ns(t:aY×Int×ab×aY×Int×az):ai (ej):=
 match t with
 |(w,wt,v,r,rt,so)=>
 ite (aG wt w.bk.length) (some (w.bk.getD wt.toNat aM)>>=λc=>ite (aG rt r.bk.length) (some (r.bk.getD rt.toNat aM)>>=λe=>if !(c.ae=e.ae:J) then k9 so>>=λq=>some (⟨ab.eta q.b6,q.fy,q.cD⟩:ej)else if(bif (c.ae=2:J)then bif (v.bF<e.bA:J)then true else (e.bI<v.bF:J)else false) then k9 so>>=λM=>some (⟨ab.eta M.b6,M.fy,M.cD⟩:ej)else if(bif (c.ae=3:J)then (e.Max<(v.bW.length:Int):J)else false) then k9 so>>=λp=>some (⟨ab.eta p.b6,p.fy,p.cD⟩:ej)else if (c.ae=4:J) then qx (e,v.ah)>>=λO=>if(bif (!O.2)then(!e.bt)else false) then k9 so>>=λj=>some (⟨ab.eta j.b6,j.fy,j.cD⟩:ej)else if(bif bif (c.ae=7:J)then true else (c.ae=8:J)then (e.Max<(v.aw.length:Int):J)else false) then k9 so>>=λF=>some (⟨ab.eta F.b6,F.fy,F.cD⟩:ej)else if (c.ae=6:J) then Aa (w,c,ab.eta v,r,e,so)>>=λB=>some (⟨ab.eta B.b6,B.fy,B.cD⟩:ej)else if (c.ae=5:J) then zS (w,c,ab.eta v,r,e,so)>>=λx=>some (⟨ab.eta x.b6,x.fy,x.cD⟩:ej)else oy (so,0,w.bk,ab.eta v,r.bk,0,false,0,[],0,false,c,e,v.ae,v.cp,v.bF,v.bW,v.ah,v.a6,[])>>=λo=>match o with
 |.inl H=>
 some (⟨ab.eta H.b6,H.fy,H.cD⟩:ej)
 |.inr a=>
 oz (a.1,0,a.2.1,ab.eta a.2.2.1,a.2.2.2.1,a.2.2.2.2.1,a.2.2.2.2.2.1,a.2.2.2.2.2.2.1,a.2.2.2.2.2.2.2.1,a.2.2.2.2.2.2.2.2.1,a.2.2.2.2.2.2.2.2.2.1,a.2.2.2.2.2.2.2.2.2.2.1,a.2.2.2.2.2.2.2.2.2.2.2.1,a.2.2.2.2.2.2.2.2.2.2.2.2.1,a.2.2.2.2.2.2.2.2.2.2.2.2.2.1,a.2.2.2.2.2.2.2.2.2.2.2.2.2.2.1,a.2.2.2.2.2.2.2.2.2.2.2.2.2.2.2.1,a.2.2.2.2.2.2.2.2.2.2.2.2.2.2.2.2.1,a.2.2.2.2.2.2.2.2.2.2.2.2.2.2.2.2.2.1,a.2.2.2.2.2.2.2.2.2.2.2.2.2.2.2.2.2.2,[])>>=λbi=>match bi with
 |.inl K=>
 some (⟨ab.eta K.b6,K.fy,K.cD⟩:ej)
 |.inr g=>
 oE (⟨g.2.2.2.2.2.2.1,g.2.2.2.2.2.2.2.1,g.2.2.2.2.2.2.2.2.1,g.2.2.2.2.2.2.2.2.2.1,g.2.2.2.2.2.2.2.2.2.2.1,g.2.2.2.2.2.2.2.2.2.2.2.2.1,g.2.2.2.2.2.2.2.2.2.2.2.2.2,g.2.2.2.2.2.2.2.2.2.2.2.1⟩:ab)>>=λA=>some (⟨ab.eta A.b6,A.fy,A.cD⟩:ej)else if(bif bif (c.ae=7:J)then true else (c.ae=8:J)then (e.Max<(v.aw.length:Int):J)else false) then k9 so>>=λL=>some (⟨ab.eta L.b6,L.fy,L.cD⟩:ej)else if (c.ae=6:J) then Aa (w,c,ab.eta v,r,e,so)>>=λbv=>some (⟨ab.eta bv.b6,bv.fy,bv.cD⟩:ej)else if (c.ae=5:J) then zS (w,c,ab.eta v,r,e,so)>>=λbw=>some (⟨ab.eta bw.b6,bw.fy,bw.cD⟩:ej)else oy (so,0,w.bk,ab.eta v,r.bk,0,false,0,[],0,false,c,e,v.ae,v.cp,v.bF,v.bW,v.ah,v.a6,[])>>=λg2=>match g2 with
 |.inl bs=>
 some (⟨ab.eta bs.b6,bs.fy,bs.cD⟩:ej)
 |.inr f=>
 oz (f.1,0,f.2.1,ab.eta f.2.2.1,f.2.2.2.1,f.2.2.2.2.1,f.2.2.2.2.2.1,f.2.2.2.2.2.2.1,f.2.2.2.2.2.2.2.1,f.2.2.2.2.2.2.2.2.1,f.2.2.2.2.2.2.2.2.2.1,f.2.2.2.2.2.2.2.2.2.2.1,f.2.2.2.2.2.2.2.2.2.2.2.1,f.2.2.2.2.2.2.2.2.2.2.2.2.1,f.2.2.2.2.2.2.2.2.2.2.2.2.2.1,f.2.2.2.2.2.2.2.2.2.2.2.2.2.2.1,f.2.2.2.2.2.2.2.2.2.2.2.2.2.2.2.1,f.2.2.2.2.2.2.2.2.2.2.2.2.2.2.2.2.1,f.2.2.2.2.2.2.2.2.2.2.2.2.2.2.2.2.2.1,f.2.2.2.2.2.2.2.2.2.2.2.2.2.2.2.2.2.2,[])>>=λg3=>match g3 with
 |.inl bg=>
 some (⟨ab.eta bg.b6,bg.fy,bg.cD⟩:ej)
 |.inr E=>
 oE (⟨E.2.2.2.2.2.2.1,E.2.2.2.2.2.2.2.1,E.2.2.2.2.2.2.2.2.1,E.2.2.2.2.2.2.2.2.2.1,E.2.2.2.2.2.2.2.2.2.2.1,E.2.2.2.2.2.2.2.2.2.2.2.2.1,E.2.2.2.2.2.2.2.2.2.2.2.2.2,E.2.2.2.2.2.2.2.2.2.2.2.1⟩:ab)>>=λbx=>some (⟨ab.eta bx.b6,bx.fy,bx.cD⟩:ej)) none) none
  partial_fixpoint
def zS(t:aY×aj×ab×aY×aj×az):ai (ej):=
 match t with
 |(w,c,v,r,y,so)=>
 p1 (so,0,w.bk,c,ab.eta v,r.bk,y,0,false,0,[],0,false,v.ae,false,0,[],0,[])>>=λo=>match o with
 |.inl H=>
 some (⟨ab.eta H.b6,H.fy,H.cD⟩:ej)
 |.inr a=>
 ow (a.1,0,a.2.1,a.2.2.1,ab.eta a.2.2.2.1,a.2.2.2.2.1,a.2.2.2.2.2.1,a.2.2.2.2.2.2.1,a.2.2.2.2.2.2.2.1,a.2.2.2.2.2.2.2.2.1,a.2.2.2.2.2.2.2.2.2.1,a.2.2.2.2.2.2.2.2.2.2.1,a.2.2.2.2.2.2.2.2.2.2.2.1,a.2.2.2.2.2.2.2.2.2.2.2.2.1,a.2.2.2.2.2.2.2.2.2.2.2.2.2.1,a.2.2.2.2.2.2.2.2.2.2.2.2.2.2.1,a.2.2.2.2.2.2.2.2.2.2.2.2.2.2.2.1,a.2.2.2.2.2.2.2.2.2.2.2.2.2.2.2.2,[])>>=λbi=>match bi with
 |.inl K=>
 some (⟨ab.eta K.b6,K.fy,K.cD⟩:ej)
 |.inr g=>
 oE (⟨g.2.2.2.2.2.2.1,g.2.2.2.2.2.2.2.1,g.2.2.2.2.2.2.2.2.1,g.2.2.2.2.2.2.2.2.2.1,g.2.2.2.2.2.2.2.2.2.2.1,[],g.2.2.2.2.2.2.2.2.2.2.2.1,g.2.2.2.2.2.2.2.2.2.2.2.2⟩:ab)>>=λq=>some (⟨ab.eta q.b6,q.fy,q.cD⟩:ej)
  partial_fixpoint
def Aa:aY×aj×ab×aY×aj×az->ai (ej)
 |(w,c,v,r,y,so)=>
 g' (c,v.ah)>>=λq=>g' (y,v.ah)>>=λO=>if(bif (!O.2)then(!y.bt)else false) then k9 so>>=λj=>some (⟨ab.eta j.b6,j.fy,j.cD⟩:ej)else if !O.2 then ite (aG q.1 c.af.length) (ite (aG 0 v.aw.length) (kD (w,(c.af.getD q.1.toNat aF).aC,ab.eta (v.aw.getD (0:Int).toNat aI))>>=λF=>oE (⟨v.ae,false,0,[],v.ah,[],[],[(⟨v.ah,F⟩:ct)]⟩:ab)>>=λB=>some (⟨ab.eta B.b6,B.fy,B.cD⟩:ej)) none) none else ite (aG q.1 c.af.length) (ite (aG 0 v.aw.length) (ite (aG O.1 y.af.length) (rV (so,v.ah)>>=λx=>ns (w,(c.af.getD q.1.toNat aF).aC,ab.eta (v.aw.getD (0:Int).toNat aI),r,(y.af.getD O.1.toNat aF).aC,x)>>=λA=>if !A.cD then some (⟨ab.eta A.b6,A.fy,A.cD⟩:ej)else oE (⟨v.ae,false,0,[],v.ah,[],[ab.eta A.b6],[]⟩:ab)>>=λL=>some (⟨ab.eta L.b6,L.fy,L.cD⟩:ej)) none) none) none
  partial_fixpoint
def oy:az×Int×I aj×ab×I aj×Int×J×Int×au×Int×J×aj×aj×Int×J×Int×au×Int×I ct×I ab->ai ((ej) ⊕ (az×I aj×ab×I aj×Int×J×Int×au×Int×J×aj×aj×Int×J×Int×au×Int×I ct×I ab))
 |(bu,i,a3,R,a4,ce,ci,cj,ck,cs,cM,a5,a9,cS,c6,dt,dE,eq,es,be)=>
 if (i<(R.a'.length:Int):J) then ite (aG i R.a'.length) (rV (bu,i)>>=λg4=>ns ((⟨a3⟩:aY),a5.aS,ab.eta (R.a'.getD i.toNat aI),(⟨a4⟩:aY),a9.aS,g4)>>=λU=>if !U.cD then some (.inl (⟨ab.eta U.b6,U.fy,U.cD⟩:ej))else some [ab.eta U.b6]>>=λt161=>ite (bR 120 (be++t161).length) (oy (bu,aQ .i64 i 1,a3,ab.eta R,a4,ce,ci,cj,ck,cs,cM,a5,a9,cS,c6,dt,dE,eq,es,be++t161)) none) none else some (.inr (bu,a3,ab.eta R,a4,ce,ci,cj,ck,cs,cM,a5,a9,cS,c6,dt,dE,eq,es,be))
  partial_fixpoint
def oz:az×Int×I aj×ab×I aj×Int×J×Int×au×Int×J×aj×aj×Int×J×Int×au×Int×I ct×I ab×I ab->ai ((ej) ⊕ (Int×J×Int×au×Int×J×Int×J×Int×au×Int×I ct×I ab×I ab))
 |(g1,S,ex,Y,fd,ff,fj,fo,fs,gc,gd,ge,gl,gs,gt,g0,bS,b0,b1,b2,aa)=>
 if (S<(Y.aw.length:Int):J) then ite (aG S Y.aw.length) (rV (g1,S)>>=λg5=>ns ((⟨ex⟩:aY),ge.aE,ab.eta (Y.aw.getD S.toNat aI),(⟨fd⟩:aY),gl.aE,g5)>>=λW=>if !W.cD then some (.inl (⟨ab.eta W.b6,W.fy,W.cD⟩:ej))else some [ab.eta W.b6]>>=λt194=>ite (bR 120 (aa++t194).length) (oz (g1,aQ .i64 S 1,ex,ab.eta Y,fd,ff,fj,fo,fs,gc,gd,ge,gl,gs,gt,g0,bS,b0,b1,b2,aa++t194)) none) none else some (.inr (ff,fj,fo,fs,gc,gd,gs,gt,g0,bS,b0,b1,b2,aa))
  partial_fixpoint
def p1:az×Int×I aj×aj×ab×I aj×aj×Int×J×Int×au×Int×J×Int×J×Int×au×Int×I ab->ai ((ej) ⊕ (az×I aj×aj×ab×aj×Int×J×Int×au×Int×J×Int×J×Int×au×Int×I ab))
 |(Z,k,X,D,G,ak,N,al,am,an,ap,ax,aB,aD,aP,a0,a1,a2,Q)=>
 if (k<(N.af.length:Int):J) then ite (aG k N.af.length) (some (N.af.getD k.toNat aF)>>=λe=>rV (Z,e.ah)>>=λM=>g' (D,e.ah)>>=λp=>if(bif (!p.2)then(!e.bO)else false) then k9 M>>=λbE=>some (.inl (⟨ab.eta bE.b6,bE.fy,bE.cD⟩:ej))else if !p.2 then some [ab.eta e.bC]>>=λt65=>ite (bR 120 (Q++t65).length) (p1 (Z,aQ .i64 k 1,X,D,ab.eta G,ak,N,al,am,an,ap,ax,aB,aD,aP,a0,a1,a2,Q++t65)) none else ite (aG p.1 D.af.length) (ite (aG p.1 G.aw.length) (ns ((⟨X⟩:aY),(D.af.getD p.1.toNat aF).aC,ab.eta (G.aw.getD p.1.toNat aI),(⟨ak⟩:aY),e.aC,M)>>=λj=>ite (aG p.1 D.af.length) (some (D.af.getD p.1.toNat aF)>>=λP=>ite (aG p.1 G.aw.length) (wI ((⟨P.ah,P.aR,P.aC,P.bV,P.bO,ab.eta P.bC⟩:aT),ab.eta (G.aw.getD p.1.toNat aI))>>=λF=>some (!j.cD)>>=λt99=>(if(F&&(!t99)) then wI ((⟨e.ah,e.aR,e.aC,e.bV,e.bO,ab.eta e.bC⟩:aT),ab.eta j.b6)else some false)>>=λB=>if(bif F then bif t99 then true else(!B)else false) then k9 M>>=λx=>some (.inl (⟨ab.eta x.b6,x.fy,x.cD⟩:ej))else if !j.cD then some (.inl (⟨ab.eta j.b6,j.fy,j.cD⟩:ej))else some [ab.eta j.b6]>>=λt118=>ite (bR 120 (Q++t118).length) (p1 (Z,aQ .i64 k 1,X,D,ab.eta G,ak,N,al,am,an,ap,ax,aB,aD,aP,a0,a1,a2,Q++t118)) none) none) none) none) none) none else some (.inr (Z,X,D,ab.eta G,N,al,am,an,ap,ax,aB,aD,aP,a0,a1,a2,Q))
  partial_fixpoint
end
theorem Ys:e6 tv ns/\fx 66 0 [1] y2 oz/\fx 66 0 [0] y1 oy/\e6 GU zS/\fx 124 0 [0] B5 p1/\e6 GS Aa:=ns.mutual_partial_correctness (eX tv) (fw 66 0 [1] y2) (fw 66 0 [0] y1) (eX GU) (fw 124 0 [0] B5) (eX GS)
 (λ_ _ _ _ h1 a c bu _ _ h=>fb h (.k DJ (.k Aj (.k (cL GS bu) (.k (cL GU c) (.k It .n))))) (.k (fL y1 a) (.k (fL y2 h1) .n)))
 (λ_ _ h0 h1 _ _ h=>fK y2 h1 h (.k Ae (.k (cL tv h0) .n)))
 (λ_ _ h0 a _ _ h=>fK y1 a h (.k Ae (.k (cL tv h0) .n)))
 (λ_ b _ _ h=>fb h (.k It .n) (.k (fL B5 b) (.k XP .n)))
 (λ_ _ h0 b _ _ h=>fK B5 b h (.k Ae (.k kC (.k DJ (.k (cL tv h0) (.k L3 .n))))))
 (λ_ h0 _ _ h=>fb h (.k kC (.k DJ (.k IQ (.k It (.k Ae (.k (cL tv h0) .n)))))))
theorem ZO:bn tv ns:=cL _ Ys.1
def Aq:aY×Int×ab×aY×Int->ai (ab×Int)
 |(w,wt,v,r,rt)=>
 Eo (w,wt,ab.eta v,r,rt)>>=λa=>if !(a=0:J) then some ((⟨0,false,0,[],0,[],[],[]⟩:ab),a)else ns (w,wt,ab.eta v,r,rt,[])>>=λb=>if !b.cD then some ((⟨0,false,0,[],0,[],[],[]⟩:ab),12)else some (ab.eta b.b6,0)
theorem Mb:bn ajt Aq:= .bH (.k Zu (.k ZO .n))
def Ep:aY×Int×ab×aY×Int×ab->ai (J)
 |(w,wt,v,r,rt,u)=>
 Aq (w,wt,ab.eta v,r,rt)>>=λa=>some (a.2=0:J)>>=λt25=>(if t25 then xl (ab.eta a.1,ab.eta u)else some false)>>=λb=>some (bif t25 then b else false)
theorem Zv:bn aiT Ep:= .bH (.k Mb (.k LM .n))
def sd:Int×I aj×aj×I aj×aj->ai ((Int) ⊕ (aj×aj))
 |(i,e,a,f,c)=>
 if (i<(c.af.length:Int):J) then ite (aG i c.af.length) (some (c.af.getD i.toNat aF)>>=λd=>g' (a,d.ah)>>=λb=>some (!d.bO)>>=λt37=>some (!b.2)>>=λt40=>ite (aG b.1 a.af.length||(!(t37&&(!t40)))) (if(bif t37 then bif t40 then true else(a.af.getD b.1.toNat aF).bO else false) then some (.inl 7)else ite (aG b.1 a.af.length||(!b.2)) (some (bif b.2 then(a.af.getD b.1.toNat aF).bO else false)>>=λt58=>ite (aG b.1 a.af.length||(!t58)) (ite (aG b.1 a.af.length||(!t58)) ((if t58 then Ep ((⟨e⟩:aY),(a.af.getD b.1.toNat aF).aC,ab.eta (a.af.getD b.1.toNat aF).bC,(⟨f⟩:aY),d.aC,ab.eta d.bC)else some false)>>=λg=>if(bif t58 then(!g)else false) then some (.inl 10)else sd (aQ .i64 i 1,e,a,f,c)) none) none) none) none) none else some (.inr (a,c))
  partial_fixpoint
theorem Y0:cF 97 0 [0] VO sd:= .rx sd.partial_correctness (.k kC (.k Zv .n))
def se:Int×aj×aj->ai ((Int) ⊕ (Unit))
 |(b,a,c)=>
 if (b<(a.af.length:Int):J) then ite (aG b a.af.length) (g' (c,(a.af.getD b.toNat aF).ah)>>=λd=>some (!d.2)>>=λt100=>ite (aG b a.af.length||(!t100)) (if(bif t100 then(a.af.getD b.toNat aF).bV else false) then some (.inl 6)else se (aQ .i64 b 1,a,c)) none) none else some (.inr ())
  partial_fixpoint
theorem Y1:cF 97 0 [1] VP se:= .rx se.partial_correctness (.k kC .n)
def zT(f:aY×aj×aY×aj):ai (Int):=
 match f with
 |(w,e,r,y)=>
 sd (0,w.bk,e,r.bk,y)>>=λo=>match o with
 |.inl b=>
 some b
 |.inr a=>
 se (0,a.1,a.2)>>=λc=>match c with
 |.inl d=>
 some d
 |.inr g=>
 some 0
theorem Yt:bn aka zT:= .bH .n (.k Y0 (.k Y1 .n))
def Iu:aY×Int×aY×Int->ai (Int)
 |(w,wt,r,rt)=>
 ite (aG wt w.bk.length) (some (w.bk.getD wt.toNat aM)>>=λa=>ite (aG rt r.bk.length) (some (r.bk.getD rt.toNat aM)>>=λb=>if !(a.ae=b.ae:J) then some 9 else if (a.ae=2:J) then if(bif (a.bA<b.bA:J)then true else (b.bI<a.bI:J)) then some 2 else some 0 else some (a.ae=3:J)>>=λt43=>if t43 then if t43 then if (b.Max<a.Max:J) then some 3 else some 0 else if (a.ae=8:J) then ite (aG a.aS w.bk.length) (xm (w.bk.getD a.aS.toNat aM)>>=λe=>if (b.Max<ed a.Max e:J) then some 3 else some 0) none else if (a.ae=4:J) then some (!b.bt)>>=λt69=>(if t69 then um (a,b)else some false)>>=λf=>if(bif t69 then(!f)else false) then some 4 else some 0 else if (a.ae=6:J) then some (!b.bt)>>=λt80=>(if t80 then um (a,b)else some false)>>=λg=>if(bif t80 then(!g)else false) then some 5 else some 0 else if (a.ae=5:J) then zT (w,a,r,b)>>=λi=>some i else some 0 else if (a.ae=7:J) then if (b.Max<a.Max:J) then some 3 else some 0 else if (a.ae=8:J) then ite (aG a.aS w.bk.length) (xm (w.bk.getD a.aS.toNat aM)>>=λj=>if (b.Max<ed a.Max j:J) then some 3 else some 0) none else if (a.ae=4:J) then some (!b.bt)>>=λc=>(if c then um (a,b)else some false)>>=λk=>if(bif c then(!k)else false) then some 4 else some 0 else if (a.ae=6:J) then some (!b.bt)>>=λd=>(if d then um (a,b)else some false)>>=λl=>if(bif d then(!l)else false) then some 5 else some 0 else if (a.ae=5:J) then zT (w,a,r,b)>>=λm=>some m else some 0) none) none
theorem Yu:bn ajL Iu:= .bH (.k ZN (.k aaS (.k Yt .n)))
def rG:I bD×Int×I aj×I aj->ai ((J) ⊕ (Unit))
 |(l,i,b,a)=>
 if (i<(l.length:Int):J) then ite (aG i l.length) (ite (aG i l.length) (Iu ((⟨b⟩:aY),(l.getD i.toNat ey).c8,(⟨a⟩:aY),(l.getD i.toNat ey).cO)>>=λc=>if !(c=0:J) then some (.inl false)else rG (l,aQ .i64 i 1,b,a)) none) none else some (.inr ())
  partial_fixpoint
theorem YJ:cF 46 0 [0] Vw rG:= .rx rG.partial_correctness (.k Yu .n)
def IE(c:aY×Int×aY×Int):ai (J):=
 match c with
 |(w,wt,r,rt)=>
 DR (w,wt,r,rt)>>=λb=>rG (b,0,w.bk,r.bk)>>=λo=>match o with
 |.inl a=>
 some a
 |.inr d=>
 some true
theorem ZP:bn ajJ IE:= .bH (.k YH .n) (.k YJ .n)
def DH:dJ×dJ->ai (J×Int)
 |(w,r)=>
 zZ (w,r)>>=λa=>if !(a=0:J) then some (false,a)else IE (w.ik,w.aC,r.ik,r.aC)>>=λb=>some (b,0)
theorem X1:bn aiU DH:= .bH (.k LJ (.k ZP .n))
def pX:au×Int×Int->ai (Int)
 |(a,b,i)=>
 if (i<(a.length:Int):J) then ite (aG i a.length) (pX (a,aQ .u64 (gi .u64 b 256) (b7 .u64 (gC a i)),aQ .i64 i 1)) none else some b
  partial_fixpoint
theorem X2:cF 169 0 [0] SD pX:= .rx pX.partial_correctness
def xe(s:au):ai (Int×Int):=
 some (0<(s.length:Int):J)>>=λt8=>ite (aG 0 s.length||(!t8)) (if(bif t8 then (gC s 0=0:J)else false) then some (0,2)else if (8<(s.length:Int):J) then some (0,7)else pX (s,0,0)>>=λo=>some (o,0)) none
theorem Mc:bn aiX xe:= .bH .n (.k X2 .n)
def wJ(n:Int):ai (Int):=
 if (cn n 2=0:J) then some (b7 .i64 (fR .u64 n 2))else some (dG .i64 (dG .i64 0 (b7 .i64 (fR .u64 n 2))) 1)
theorem L5:bn aiY wJ:= .bH
def uF:au×Int×Int×Int->ai ((Int×Int×Int) ⊕ (Unit))
 |(a,n,b,i)=>
 if (i<10:J) then if (i=(a.length:Int):J) then some (.inl (0,0,10))else ite (aG i a.length) (some (b7 .u64 (gC a i))>>=λt20=>if(bif (i=9:J)then (1<t20:J)else false) then some (.inl (0,0,7))else some (aQ .u64 n (gi .u64 (cn t20 128) b))>>=λt32=>if (t20<128:J) then if(bif (t20=0:J)then (0<i:J)else false) then some (.inl (0,0,2))else some (.inl (t32,aQ .i64 i 1,0))else uF (a,t32,gi .u64 b 128,aQ .i64 i 1)) none else some (.inr ())
  partial_fixpoint
theorem Yv:cF 243 0 [0] SE uF:= .rx uF.partial_correctness
def wQ(s:au):ai (Int×Int×Int):=
 uF (s,0,1,0)>>=λo=>match o with
 |.inl a=>
 some (a.1,a.2.1,a.2.2)
 |.inr b=>
 some (0,0,7)
theorem IA:bn ajn wQ:= .bH .n (.k Yv .n)
def wR(a:au):ai (Int×au×Int):=
 wQ a>>=λr=>if(bif bif (!(r.2.2=0:J))then true else (r.1<1:J)then true else (1000<r.1:J)) then some (0,[],12)else ite (fI r.2.1 (a.length:Int) a.length) (some (b7 .i64 r.1,hd a r.2.1 (a.length:Int),0)) none
theorem LX:bn aiZ wR:= .bH (.k IA .n)
def zI(s:au):ai (au×au×J):=
 wQ s>>=λr=>if(bif (!(r.2.2=0:J))then true else (b7 .u64 (dG .i64 (s.length:Int) r.2.1)<r.1:J)) then some ([],[],false)else some (aQ .i64 r.2.1 (b7 .i64 r.1))>>=λt30=>ite (fI r.2.1 t30 s.length) (some (aQ .i64 r.2.1 (b7 .i64 r.1))>>=λt36=>ite (fI t36 (s.length:Int) s.length) (some (hd s r.2.1 t30,hd s t36 (s.length:Int),true)) none) none
theorem LY:bn ajo zI:= .bH (.k IA .n)
def uz:au×I au->ai ((Int) ⊕ (I au))
 |(b,a)=>
 if !(b=[]:J) then zI b>>=λr=>if !r.2.2 then some (.inl 12)else some [r.1]>>=λt20=>ite (bR 16 (a++t20).length) (uz (r.2.1,a++t20)) none else some (.inr a)
  partial_fixpoint
theorem Zd:cF 172 0 [0] SF uz:= .rx uz.partial_correctness (.k LY .n)
def rO(c:au):ai (I au×Int):=
 uz (c,[])>>=λo=>match o with
 |.inl a=>
 some ([],a)
 |.inr b=>
 some (b,0)
theorem Io:bn ai0 rO:= .bH .n (.k Zd .n)
def Er:au×au->ai (J)
 |(a,b)=>
 some (bif ((a.length:Int)<(b.length:Int):J)then true else bif ((a.length:Int)=(b.length:Int):J)then Op.bytesLess a b else false)
theorem Zw:bn ai1 Er:= .bH
def ux:au×Int×I da->ai ((Int) ⊕ (I da))
 |(a,d,b)=>
 if !(a=[]:J) then wQ a>>=λr=>if(bif bif (!(r.2.2=0:J))then true else (2001<r.1:J)then true else (b7 .i64 (fR .u64 r.1 2)<=d:J)) then some (.inl 12)else ite (fI r.2.1 (a.length:Int) a.length) (zI (hd a r.2.1 (a.length:Int))>>=λc=>if !c.2.2 then some (.inl 12)else some (b7 .i64 (fR .u64 r.1 2))>>=λt45=>some [(⟨t45,(cn r.1 2=1:J),c.1⟩:da)]>>=λt54=>ite (bR 32 (b++t54).length) (ux (c.2.1,t45,b++t54)) none) none else some (.inr b)
  partial_fixpoint
theorem Y2:cF 174 0 [0] SG ux:= .rx ux.partial_correctness (.k IA (.k LY .n))
def xk(c:au):ai (I da×Int):=
 ux (c,0,[])>>=λo=>match o with
 |.inl a=>
 some ([],a)
 |.inr b=>
 some (b,0)
theorem LF:bn ai2 xk:= .bH .n (.k Y2 .n)
def pN:Int×I da×Int×Int×Int×I aj×Int×au×Int×Int×Int×I de×I aT×Int×Int×J×aT->ai (Int×I da×Int×Int×I aj×Int×au×Int×Int×Int×I de×I aT×Int×Int×J×aT)
 |(q,b,p,r,k,c,d,e,f,g,i,j,l,m,n,o,a)=>
 if (k<(b.length:Int):J) then ite (aG k b.length) (if ((b.getD k.toNat dP).ah=a.ah:J) then pN (q,b,p,k,aQ .i64 k 1,c,d,e,f,g,i,j,l,m,n,o,(⟨a.ah,a.aR,a.aC,a.bV,a.bO,ab.eta a.bC⟩:aT))else pN (q,b,p,r,aQ .i64 k 1,c,d,e,f,g,i,j,l,m,n,o,(⟨a.ah,a.aR,a.aC,a.bV,a.bO,ab.eta a.bC⟩:aT))) none else some (q,b,p,r,c,d,e,f,g,i,j,l,m,n,o,(⟨a.ah,a.aR,a.aC,a.bV,a.bO,ab.eta a.bC⟩:aT))
  partial_fixpoint
theorem X9:cF 107 0 [0,2] QL pN:= .rx pN.partial_correctness
def nj:I da×Int×Int×au×Int×Int×Int×I de×I aT×Int×Int×J->ai ((J) ⊕ (Unit))
 |(b,a,c,d,e,f,g,i,j,k,l,m)=>
 if (a<(b.length:Int):J) then ite (aG a b.length) (g' ((⟨c,d,e,f,g,i,j,k,l,m⟩:aj),(b.getD a.toNat dP).ah)>>=λn=>some (!n.2)>>=λt367=>ite (aG a b.length||(!t367)) (if(bif t367 then(b.getD a.toNat dP).bV else false) then some (.inl false)else nj (b,aQ .i64 a 1,c,d,e,f,g,i,j,k,l,m)) none) none else some (.inr ())
  partial_fixpoint
theorem Yh:cF 107 0 [4] SH nj:= .rx nj.partial_correctness (.k kC .n)
mutual
def im(j:aY×Int×au×Int):ai (J):=
 match j with
 |(s,t,p,q)=>
 ite (aG t s.bk.length) (some (s.bk.getD t.toNat aM)>>=λa=>if (q<1:J) then some false else if (a.ae=1:J) then some (bif (p=[]:J)then true else (p=[1]:J))else if (a.ae=2:J) then xe p>>=λr=>some (r.2=0:J)>>=λt61=>(if t61 then wJ r.1 else some 0)>>=λck=>some (bif t61 then (a.bA<=ck:J)else false)>>=λt68=>(if t68 then wJ r.1 else some 0)>>=λdE=>some (bif t68 then (dE<=a.bI:J)else false)else if (a.ae=3:J) then some ((p.length:Int)<=a.Max:J)else if (a.ae=4:J) then xe p>>=λB=>if(bif bif (!(B.2=0:J))then true else (B.1<1:J)then true else (1000<B.1:J)) then some false else qx (a,b7 .i64 B.1)>>=λeq=>some (bif eq.2 then true else a.bt)else if (a.ae=9:J) then some (p=[]:J)>>=λt115=>ite (aG 0 p.length||(!(!t115))) (some (gC p 0=1:J)>>=λt119=>ite (fI 1 (p.length:Int) p.length||(!((!t115)&&t119))) ((if((!t115)&&t119) then im (s,a.aE,hd p 1 (p.length:Int),dG .i64 q 1)else some false)>>=λce=>some (bif t115 then true else bif t119 then ce else false)) none) none else if (a.ae=6:J) then wR p>>=λH=>if !(H.2.2=0:J) then some false else g' (a,H.1)>>=λK=>if K.2 then ite (aG K.1 a.af.length) (im (s,(a.af.getD K.1.toNat aF).aC,H.2.1,dG .i64 q 1)>>=λci=>some ci) none else some a.bt else if (a.ae=7:J) then rO p>>=λa1=>pP (q,a1.1,a1.2,0,s.bk,a.ae,a.aR,a.bA,a.bI,a.Max,a.bf,a.af,a.aS,a.aE,a.bt)>>=λo=>match o with
 |.inl bw=>
 some bw
 |.inr G=>
 some (bif (G.2.1=0:J)then ((G.1.length:Int)<=G.2.2.2.2.2.2.1:J)else false)else if (a.ae=8:J) then rO p>>=λA=>if(bif bif (!(A.2=0:J))then true else(!(cn (A.1.length:Int) 2=0:J))then true else (a.Max<fR .i64 (A.1.length:Int) 2:J)) then some false else tJ (q,A.1,0,s.bk,a.ae,a.aR,a.bA,a.bI,a.Max,a.bf,a.af,a.aS,a.aE,a.bt)>>=λbE=>match bE with
 |.inl bS=>
 some bS
 |.inr ex=>
 some true else xk p>>=λa2=>if !(a2.2=0:J) then some false else om (q,a2.1,0,s.bk,a.ae,a.aR,a.bA,a.bI,a.Max,a.bf,a.af,a.aS,a.aE,a.bt)>>=λb0=>match b0 with
 |.inl b1=>
 some b1
 |.inr e=>
 nj (e.1,0,e.2.1,e.2.2.1,e.2.2.2.1,e.2.2.2.2.1,e.2.2.2.2.2.1,e.2.2.2.2.2.2.1,e.2.2.2.2.2.2.2.1,e.2.2.2.2.2.2.2.2.1,e.2.2.2.2.2.2.2.2.2.1,e.2.2.2.2.2.2.2.2.2.2)>>=λb2=>match b2 with
 |.inl bx=>
 some bx
 |.inr es=>
 some true) none
  partial_fixpoint
def pP:Int×I au×Int×Int×I aj×Int×au×Int×Int×Int×I de×I aT×Int×Int×J->ai ((J) ⊕ (I au×Int×Int×au×Int×Int×Int×I de×I aT×Int×Int×J))
 |(a0,x,aD,i,L,M,N,O,P,Q,R,S,U,D,W)=>
 if (i<(x.length:Int):J) then ite (aG i x.length) (im ((⟨L⟩:aY),D,x.getD i.toNat [],dG .i64 a0 1)>>=λcj=>if !cj then some (.inl false)else pP (a0,x,aD,aQ .i64 i 1,L,M,N,O,P,Q,R,S,U,D,W)) none else some (.inr (x,aD,M,N,O,P,Q,R,S,U,D,W))
  partial_fixpoint
def tJ:Int×I au×Int×I aj×Int×au×Int×Int×Int×I de×I aT×Int×Int×J->ai ((J) ⊕ (Unit))
 |(F,f,g,E,a3,a4,a5,a9,be,bg,bi,X,Y,bs)=>
 if (g<(f.length:Int):J) then ite (aG g f.length) (im ((⟨E⟩:aY),X,f.getD g.toNat [],dG .i64 F 1)>>=λcs=>some (!cs)>>=λt233=>some (aQ .i64 g 1)>>=λt240=>ite (aG t240 f.length||(!(!t233))) ((if !t233 then im ((⟨E⟩:aY),Y,f.getD t240.toNat [],dG .i64 F 1)else some false)>>=λcM=>some (bif t233 then true else(!cM))>>=λt247=>some (0<g:J)>>=λt250=>some (dG .i64 g 2)>>=λt254=>ite (aG t254 f.length||(!((!t247)&&t250))) (ite (aG g f.length||(!((!t247)&&t250))) ((if((!t247)&&t250) then Er (f.getD t254.toNat [],f.getD g.toNat [])else some false)>>=λcS=>if(bif t247 then true else bif t250 then(!cS)else false) then some (.inl false)else tJ (F,f,aQ .i64 g 2,E,a3,a4,a5,a9,be,bg,bi,X,Y,bs)) none) none) none) none else some (.inr ())
  partial_fixpoint
def om:Int×I da×Int×I aj×Int×au×Int×Int×Int×I de×I aT×Int×Int×J->ai ((J) ⊕ (I da×Int×au×Int×Int×Int×I de×I aT×Int×Int×J))
 |(bv,aP,y,bu,Z,aa,ak,al,am,an,w,ap,ax,aB)=>
 if (y<(w.length:Int):J) then ite (aG y w.length) (some (w.getD y.toNat aF)>>=λv=>pN (bv,aP,y,(-1),0,bu,Z,aa,ak,al,am,an,w,ap,ax,aB,(⟨v.ah,v.aR,v.aC,v.bV,v.bO,ab.eta v.bC⟩:aT))>>=λc=>if(bif (c.2.2.2.1<0:J)then(!c.2.2.2.2.2.2.2.2.2.2.2.2.2.2.2.bO)else false) then some (.inl false)else some (0<=c.2.2.2.1:J)>>=λt307=>ite (aG c.2.2.2.1 c.2.1.length||(!t307)) (some (!(ft (c.2.1.getD c.2.2.2.1.toNat dP).bV c.2.2.2.2.2.2.2.2.2.2.2.2.2.2.2.bV))>>=λt316=>ite (aG c.2.2.2.1 c.2.1.length||(!(t307&&(!t316)))) ((if(t307&&(!t316)) then im ((⟨c.2.2.2.2.1⟩:aY),c.2.2.2.2.2.2.2.2.2.2.2.2.2.2.2.aC,(c.2.1.getD c.2.2.2.1.toNat dP).b5,dG .i64 c.1 1)else some false)>>=λc6=>some (bif t316 then true else(!c6))>>=λt330=>ite (aG c.2.2.2.1 c.2.1.length||(!(t307&&(!t330)&&c.2.2.2.2.2.2.2.2.2.2.2.2.2.2.2.bO))) ((if(t307&&(!t330)&&c.2.2.2.2.2.2.2.2.2.2.2.2.2.2.2.bO) then kD ((⟨c.2.2.2.2.1⟩:aY),c.2.2.2.2.2.2.2.2.2.2.2.2.2.2.2.aC,ab.eta c.2.2.2.2.2.2.2.2.2.2.2.2.2.2.2.bC)else some [])>>=λdt=>if(bif t307 then bif t330 then true else bif c.2.2.2.2.2.2.2.2.2.2.2.2.2.2.2.bO then ((c.2.1.getD c.2.2.2.1.toNat dP).b5=dt:J)else false else false) then some (.inl false)else om (c.1,c.2.1,aQ .i64 c.2.2.1 1,c.2.2.2.2.1,c.2.2.2.2.2.1,c.2.2.2.2.2.2.1,c.2.2.2.2.2.2.2.1,c.2.2.2.2.2.2.2.2.1,c.2.2.2.2.2.2.2.2.2.1,c.2.2.2.2.2.2.2.2.2.2.1,c.2.2.2.2.2.2.2.2.2.2.2.1,c.2.2.2.2.2.2.2.2.2.2.2.2.1,c.2.2.2.2.2.2.2.2.2.2.2.2.2.1,c.2.2.2.2.2.2.2.2.2.2.2.2.2.2.1)) none) none) none) none else some (.inr (aP,Z,aa,ak,al,am,an,w,ap,ax,aB))
  partial_fixpoint
end
theorem XQ:e6 tq im/\fx 107 0 [2] B8 om/\fx 107 0 [1] B7 tJ/\fx 107 0 [0] B6 pP:=im.mutual_partial_correctness (eX tq) (fw 107 0 [2] B8) (fw 107 0 [1] B7) (fw 107 0 [0] B6)
 (λ_ _ _ _ h0 h1 a b _ _ h=>fb h (.k Mc (.k L5 (.k Aj (.k (cL tq h0) (.k LX (.k kC (.k Io (.k LF .n)))))))) (.k (fL B6 b) (.k (fL B7 a) (.k (fL B8 h1) (.k Yh .n)))))
 (λ_ _ h0 h1 _ _ h=>fK B8 h1 h (.k (cL tq h0) (.k IQ .n)) (.k X9 .n))
 (λ_ _ h0 a _ _ h=>fK B7 a h (.k (cL tq h0) (.k Zw .n)))
 (λ_ _ h0 b _ _ h=>fK B6 b h (.k (cL tq h0) .n))
theorem Y3:bn tq im:=cL _ XQ.1
def DK:aY×Int×au->ai (J)
 |(s,t,m)=>
 qA s>>=λr=>some (bif bif bif (r=0:J)then (0<=t:J)else false then (t<(s.bk.length:Int):J)else false then ((m.length:Int)<=4096:J)else false)>>=λt25=>(if t25 then im (s,t,m,200)else some false)>>=λa=>some (bif t25 then a else false)
theorem Y4:bn ajP DK:= .bH (.k DQ (.k Y3 .n))
def h3:az×Int->ai (dd)
 |(so,a)=>
 ite (bR 8 ([]++so).length) (some (⟨(⟨0,false,0,[],0,[],[],[]⟩:ab),(⟨[]++so,a⟩:jw),false⟩:dd)) none
theorem p3:bn ai3 h3:= .bH
def zU(p:au):ai (Int×J):=
 xe p>>=λr=>some (r.1,(r.2=0:J))
theorem Yw:bn ajp zU:= .bH (.k Mc .n)
def mC:az×Int->ai az
 |(so,step)=>
 ite (bR 8 ([]++so).length) (some ([]++so)>>=λl=>some [step]>>=λt9=>ite (bR 8 (l++t9).length) (some (l++t9)) none) none
theorem uj:bn ajq mC:= .bH
def oF(v:ab):ai (dd):=
 some (⟨ab.eta v,(⟨[],0⟩:jw),true⟩:dd)
theorem zV:bn ajr oF:= .bH
def r2:Int×az×I au×Int×I aj×aj×Int×J×Int×au×Int×Int×J×Int×J×Int×au×Int×I ab->ai ((dd) ⊕ (Int×az×I au×I aj×aj×Int×J×Int×au×Int×Int×J×Int×J×Int×au×Int×I ab))
 |(u,c,t,b,e,f,g,i,j,k,l,m,n,o,p,q,r,s,a)=>
 if (b<(a.length:Int):J) then some (dG .i64 b 1)>>=λt87=>ite (aG t87 a.length) (ite (t87.toNat<a.length:J) (ite (aG b a.length) (ite (b.toNat<a.length:J) (qv (ab.eta (a.getD t87.toNat aI),ab.eta (a.getD b.toNat aI))>>=λv=>if (0<=v:J) then h3 (c,1)>>=λd=>some (.inl (⟨ab.eta d.b6,d.er,d.cD⟩:dd))else r2 (u,c,t,aQ .i64 b 1,e,f,g,i,j,k,l,m,n,o,p,q,r,s,a)) none) none) none) none else some (.inr (u,c,t,e,f,g,i,j,k,l,m,n,o,p,q,r,s,a))
  partial_fixpoint
theorem Ya:cF 249 0 [1] TN r2:= .rx r2.partial_correctness (.k Ma (.k p3 .n))
def uA:I da×Int×Int->ai ((Int) ⊕ (Unit))
 |(a,b,i)=>
 if (i<(a.length:Int):J) then ite (aG i a.length) (if ((a.getD i.toNat dP).ah=b:J) then some (.inl i)else uA (a,b,aQ .i64 i 1)) none else some (.inr ())
  partial_fixpoint
theorem Ze:cF 299 0 [0] TO uA:= .rx uA.partial_correctness
def Ab(b:I da×Int):ai (Int):=
 match b with
 |(l,id)=>
 uA (l,id,0)>>=λo=>match o with
 |.inl a=>
 some a
 |.inr c=>
 some (-1)
theorem Zx:bn ajA Ab:= .bH .n (.k Ze .n)
def p2:az×I da×Int×aj×Int×J×Int×au×Int×Int×J×Int×J×Int×au×Int×I ab×I ct->ai ((dd) ⊕ (Int×J×Int×au×Int×Int×J×Int×J×Int×au×Int×I ab×I ct))
 |(s,a,k,c,d,e,f,g,i,j,l,m,n,o,p,q,r,b)=>
 if (k<(a.length:Int):J) then ite (aG k a.length) (g' (c,(a.getD k.toNat dP).ah)>>=λu=>if u.2 then p2 (s,a,aQ .i64 k 1,c,d,e,f,g,i,j,l,m,n,o,p,q,r,b)else ite (aG k a.length) (if(a.getD k.toNat dP).bV then ite (aG k a.length) (mC (s,(a.getD k.toNat dP).ah)>>=λv=>h3 (v,6)>>=λt=>some (.inl (⟨ab.eta t.b6,t.er,t.cD⟩:dd))) none else ite (aG k a.length) (ite (aG k a.length) (some [(⟨(a.getD k.toNat dP).ah,(a.getD k.toNat dP).b5⟩:ct)]>>=λt135=>ite (bR 24 (b++t135).length) (p2 (s,a,aQ .i64 k 1,c,d,e,f,g,i,j,l,m,n,o,p,q,r,b++t135)) none) none) none) none) none else some (.inr (d,e,f,g,i,j,l,m,n,o,p,q,r,b))
  partial_fixpoint
theorem Y5:cF 250 0 [1] TP p2:= .rx p2.partial_correctness (.k kC (.k uj (.k p3 .n)))
mutual
def ka:aY×Int×au×Int×az->ai (dd)
 |(s,t,p,v,so)=>
 ite (aG t s.bk.length) (some (s.bk.getD t.toNat aM)>>=λc=>if (200<v:J) then h3 (so,8)>>=λr=>some (⟨ab.eta r.b6,r.er,r.cD⟩:dd)else
 let i0:=λkw=>
 let ip:=λks=>
 let io:=λkk=>
 let ii:=λjp=>
 let h1:=λi9=>
 if (c.ae=6:J) then Es (s,c,p,v,so)>>=λb0=>some (⟨ab.eta b0.b6,b0.er,b0.cD⟩:dd)else if (c.ae=7:J) then Ev (s,c,p,v,so)>>=λb1=>some (⟨ab.eta b1.b6,b1.er,b1.cD⟩:dd)else if (c.ae=8:J) then DI (s,c,p,v,so)>>=λb2=>some (⟨ab.eta b2.b6,b2.er,b2.cD⟩:dd)else if (c.ae=5:J) then DC (s,c,p,v,so)>>=λce=>some (⟨ab.eta ce.b6,ce.er,ce.cD⟩:dd)else oF (⟨c.ae,kw,ks,kk,jp,[],i9,[]⟩:ab)>>=λci=>some (⟨ab.eta ci.b6,ci.er,ci.cD⟩:dd)
 if(bif (c.ae=9:J)then(!(p=[]:J))else false) then ite (aG 0 p.length) (if !(gC p 0=1:J) then h3 (so,1)>>=λbS=>some (⟨ab.eta bS.b6,bS.er,bS.cD⟩:dd)else ite (fI 1 (p.length:Int) p.length) (mC (so,0)>>=λi8=>ka (s,c.aE,hd p 1 (p.length:Int),aQ .i64 v 1,i8)>>=λN=>if !N.cD then some (⟨ab.eta N.b6,N.er,N.cD⟩:dd)else h1 [ab.eta N.b6]) none) none else h1 []
 if (c.ae=4:J) then zU p>>=λS=>if(bif bif (!S.2)then true else (S.1<1:J)then true else (1000<S.1:J)) then h3 (so,1)>>=λbx=>some (⟨ab.eta bx.b6,bx.er,bx.cD⟩:dd)else some (b7 .i64 S.1)>>=λi5=>qx (c,i5)>>=λi7=>if(bif (!i7.2)then(!c.bt)else false) then h3 (so,4)>>=λbE=>some (⟨ab.eta bE.b6,bE.er,bE.cD⟩:dd)else ii i5 else ii 0
 if (c.ae=3:J) then if (c.Max<(p.length:Int):J) then h3 (so,3)>>=λbw=>some (⟨ab.eta bw.b6,bw.er,bw.cD⟩:dd)else io p else io []
 if (c.ae=2:J) then zU p>>=λi4=>if !i4.2 then h3 (so,1)>>=λbs=>some (⟨ab.eta bs.b6,bs.er,bs.cD⟩:dd)else wJ i4.1>>=λbu=>if(bif (bu<c.bA:J)then true else (c.bI<bu:J)) then h3 (so,2)>>=λbv=>some (⟨ab.eta bv.b6,bv.er,bv.cD⟩:dd)else ip bu else ip 0
 if (c.ae=1:J) then if(bif (!(p=[]:J))then(!(p=[1]:J))else false) then h3 (so,1)>>=λbe=>some (⟨ab.eta be.b6,be.er,be.cD⟩:dd)else some (!(p=[]:J))>>=λt44=>i0 t44 else i0 false) none
  partial_fixpoint
def DI(f:aY×aj×au×Int×az):ai (dd):=
 match f with
 |(s,c,p,v,so)=>
 rO p>>=λr=>if(bif (!(r.2=0:J))then true else (cn (r.1.length:Int) 2=1:J)) then h3 (so,1)>>=λy=>some (⟨ab.eta y.b6,y.er,y.cD⟩:dd)else if (c.Max<fR .i64 (r.1.length:Int) 2:J) then h3 (so,3)>>=λj=>some (⟨ab.eta j.b6,j.er,j.cD⟩:dd)else tF (v,so,r.1,0,s.bk,c,0,false,0,[],0,0,false,c.ae,false,0,[],0,[])>>=λo=>match o with
 |.inl w=>
 some (⟨ab.eta w.b6,w.er,w.cD⟩:dd)
 |.inr a=>
 r2 (a.1,a.2.1,a.2.2.1,1,a.2.2.2.1,a.2.2.2.2.1,a.2.2.2.2.2.1,a.2.2.2.2.2.2.1,a.2.2.2.2.2.2.2.1,a.2.2.2.2.2.2.2.2.1,a.2.2.2.2.2.2.2.2.2.1,a.2.2.2.2.2.2.2.2.2.2.1,a.2.2.2.2.2.2.2.2.2.2.2.1,a.2.2.2.2.2.2.2.2.2.2.2.2.1,a.2.2.2.2.2.2.2.2.2.2.2.2.2.1,a.2.2.2.2.2.2.2.2.2.2.2.2.2.2.1,a.2.2.2.2.2.2.2.2.2.2.2.2.2.2.2.1,a.2.2.2.2.2.2.2.2.2.2.2.2.2.2.2.2.1,a.2.2.2.2.2.2.2.2.2.2.2.2.2.2.2.2.2)>>=λa4=>match a4 with
 |.inl B=>
 some (⟨ab.eta B.b6,B.er,B.cD⟩:dd)
 |.inr e=>
 tG (e.1,e.2.1,e.2.2.1,0,e.2.2.2.1,e.2.2.2.2.1,e.2.2.2.2.2.1,e.2.2.2.2.2.2.1,e.2.2.2.2.2.2.2.1,e.2.2.2.2.2.2.2.2.1,e.2.2.2.2.2.2.2.2.2.1,e.2.2.2.2.2.2.2.2.2.2.1,e.2.2.2.2.2.2.2.2.2.2.2.1,e.2.2.2.2.2.2.2.2.2.2.2.2.1,e.2.2.2.2.2.2.2.2.2.2.2.2.2.1,e.2.2.2.2.2.2.2.2.2.2.2.2.2.2.1,e.2.2.2.2.2.2.2.2.2.2.2.2.2.2.2.1,e.2.2.2.2.2.2.2.2.2.2.2.2.2.2.2.2.1,e.2.2.2.2.2.2.2.2.2.2.2.2.2.2.2.2.2,[])>>=λi6=>match i6 with
 |.inl a5=>
 some (⟨ab.eta a5.b6,a5.er,a5.cD⟩:dd)
 |.inr D=>
 oF (⟨D.2.2.2.2.2.2.2.1,D.2.2.2.2.2.2.2.2.1,D.2.2.2.2.2.2.2.2.2.1,D.2.2.2.2.2.2.2.2.2.2.1,D.2.2.2.2.2.2.2.2.2.2.2.1,D.2.2.2.2.2.2.2.2.2.2.2.2.1,D.2.2.2.2.2.2.2.2.2.2.2.2.2,[]⟩:ab)>>=λg=>some (⟨ab.eta g.b6,g.er,g.cD⟩:dd)
  partial_fixpoint
def Ev(f:aY×aj×au×Int×az):ai (dd):=
 match f with
 |(s,c,p,v,so)=>
 rO p>>=λr=>if !(r.2=0:J) then h3 (so,1)>>=λy=>some (⟨ab.eta y.b6,y.er,y.cD⟩:dd)else if (c.Max<(r.1.length:Int):J) then h3 (so,3)>>=λj=>some (⟨ab.eta j.b6,j.er,j.cD⟩:dd)else uC (v,so,r.1,0,s.bk,c,0,false,0,[],0,0,false,c.ae,false,0,[],0,[])>>=λo=>match o with
 |.inl w=>
 some (⟨ab.eta w.b6,w.er,w.cD⟩:dd)
 |.inr a=>
 oF (⟨a.2.2.2.2.2.2.2.1,a.2.2.2.2.2.2.2.2.1,a.2.2.2.2.2.2.2.2.2.1,a.2.2.2.2.2.2.2.2.2.2.1,a.2.2.2.2.2.2.2.2.2.2.2.1,[],a.2.2.2.2.2.2.2.2.2.2.2.2,[]⟩:ab)>>=λg=>some (⟨ab.eta g.b6,g.er,g.cD⟩:dd)
  partial_fixpoint
def DC(f:aY×aj×au×Int×az):ai (dd):=
 match f with
 |(s,c,p,v,so)=>
 xk p>>=λr=>if !(r.2=0:J) then h3 (so,1)>>=λy=>some (⟨ab.eta y.b6,y.er,y.cD⟩:dd)else nn (v,so,r.1,0,s.bk,c,0,false,0,[],0,0,false,c.ae,false,0,[],0,[])>>=λo=>match o with
 |.inl w=>
 some (⟨ab.eta w.b6,w.er,w.cD⟩:dd)
 |.inr a=>
 p2 (a.1,a.2.1,0,a.2.2.1,a.2.2.2.1,a.2.2.2.2.1,a.2.2.2.2.2.1,a.2.2.2.2.2.2.1,a.2.2.2.2.2.2.2.1,a.2.2.2.2.2.2.2.2.1,a.2.2.2.2.2.2.2.2.2.1,a.2.2.2.2.2.2.2.2.2.2.1,a.2.2.2.2.2.2.2.2.2.2.2.1,a.2.2.2.2.2.2.2.2.2.2.2.2.1,a.2.2.2.2.2.2.2.2.2.2.2.2.2.1,a.2.2.2.2.2.2.2.2.2.2.2.2.2.2.1,a.2.2.2.2.2.2.2.2.2.2.2.2.2.2.2,[])>>=λa4=>match a4 with
 |.inl B=>
 some (⟨ab.eta B.b6,B.er,B.cD⟩:dd)
 |.inr e=>
 oF (⟨e.2.2.2.2.2.2.2.1,e.2.2.2.2.2.2.2.2.1,e.2.2.2.2.2.2.2.2.2.1,e.2.2.2.2.2.2.2.2.2.2.1,e.2.2.2.2.2.2.2.2.2.2.2.1,[],e.2.2.2.2.2.2.2.2.2.2.2.2.1,e.2.2.2.2.2.2.2.2.2.2.2.2.2⟩:ab)>>=λj=>some (⟨ab.eta j.b6,j.er,j.cD⟩:dd)
  partial_fixpoint
def Es:aY×aj×au×Int×az->ai (dd)
 |(s,c,p,v,so)=>
 wR p>>=λr=>if !(r.2.2=0:J) then h3 (so,1)>>=λj=>some (⟨ab.eta j.b6,j.er,j.cD⟩:dd)else g' (c,r.1)>>=λg=>if(bif (!g.2)then(!c.bt)else false) then h3 (so,5)>>=λP=>some (⟨ab.eta P.b6,P.er,P.cD⟩:dd)else if !g.2 then oF (⟨c.ae,false,0,[],r.1,[],[],[(⟨r.1,r.2.1⟩:ct)]⟩:ab)>>=λA=>some (⟨ab.eta A.b6,A.er,A.cD⟩:dd)else ite (aG g.1 c.af.length) (mC (so,r.1)>>=λbg=>ka (s,(c.af.getD g.1.toNat aF).aC,r.2.1,aQ .i64 v 1,bg)>>=λx=>if !x.cD then some (⟨ab.eta x.b6,x.er,x.cD⟩:dd)else oF (⟨c.ae,false,0,[],r.1,[],[ab.eta x.b6],[]⟩:ab)>>=λbi=>some (⟨ab.eta bi.b6,bi.er,bi.cD⟩:dd)) none
  partial_fixpoint
def tF:Int×az×I au×Int×I aj×aj×Int×J×Int×au×Int×Int×J×Int×J×Int×au×Int×I ab->ai ((dd) ⊕ (Int×az×I au×I aj×aj×Int×J×Int×au×Int×Int×J×Int×J×Int×au×Int×I ab))
 |(a3,a9,L,i,aP,a0,fo,fs,gc,gd,ge,gl,gs,gt,g0,g1,g2,g3,a1)=>
 if (gi .i64 2 i<(L.length:Int):J) then some (gi .i64 2 i)>>=λt57=>ite (aG t57 L.length) (mC (a9,i)>>=λO=>ka ((⟨aP⟩:aY),a0.aS,L.getD t57.toNat [],aQ .i64 a3 1,O)>>=λq=>if !q.cD then some (.inl (⟨ab.eta q.b6,q.er,q.cD⟩:dd))else some [ab.eta q.b6]>>=λt74=>ite (bR 120 (a1++t74).length) (tF (a3,a9,L,aQ .i64 i 1,aP,a0,fo,fs,gc,gd,ge,gl,gs,gt,g0,g1,g2,g3,a1++t74)) none) none else some (.inr (a3,a9,L,aP,a0,fo,fs,gc,gd,ge,gl,gs,gt,g0,g1,g2,g3,a1))
  partial_fixpoint
def tG:Int×az×I au×Int×I aj×aj×Int×J×Int×au×Int×Int×J×Int×J×Int×au×Int×I ab×I ab->ai ((dd) ⊕ (Int×J×Int×au×Int×Int×J×Int×J×Int×au×Int×I ab×I ab))
 |(i1,i3,R,Q,g4,g5,g6,g7,g8,g9,he,hk,hm,hs,ht,hu,hw,hH,h0,a2)=>
 if (gi .i64 2 Q<(R.length:Int):J) then some (aQ .i64 (gi .i64 2 Q) 1)>>=λt112=>ite (aG t112 R.length) (mC (i3,Q)>>=λbg=>ka ((⟨g4⟩:aY),g5.aE,R.getD t112.toNat [],aQ .i64 i1 1,bg)>>=λx=>if !x.cD then some (.inl (⟨ab.eta x.b6,x.er,x.cD⟩:dd))else some [ab.eta x.b6]>>=λt129=>ite (bR 120 (a2++t129).length) (tG (i1,i3,R,aQ .i64 Q 1,g4,g5,g6,g7,g8,g9,he,hk,hm,hs,ht,hu,hw,hH,h0,a2++t129)) none) none else some (.inr (g6,g7,g8,g9,he,hk,hm,hs,ht,hu,hw,hH,h0,a2))
  partial_fixpoint
def uC:Int×az×I au×Int×I aj×aj×Int×J×Int×au×Int×Int×J×Int×J×Int×au×Int×I ab->ai ((dd) ⊕ (Int×J×Int×au×Int×Int×J×Int×J×Int×au×Int×I ab))
 |(G,i2,l,i,cj,ck,cs,cM,cS,c6,dt,dE,eq,es,ex,fd,ff,fj,U)=>
 if (i<(l.length:Int):J) then ite (aG i l.length) (mC (i2,i)>>=λO=>ka ((⟨cj⟩:aY),ck.aE,l.getD i.toNat [],aQ .i64 G 1,O)>>=λq=>if !q.cD then some (.inl (⟨ab.eta q.b6,q.er,q.cD⟩:dd))else some [ab.eta q.b6]>>=λt62=>ite (bR 120 (U++t62).length) (uC (G,i2,l,aQ .i64 i 1,cj,ck,cs,cM,cS,c6,dt,dE,eq,es,ex,fd,ff,fj,U++t62)) none) none else some (.inr (cs,cM,cS,c6,dt,dE,eq,es,ex,fd,ff,fj,U))
  partial_fixpoint
def nn:Int×az×I da×Int×I aj×aj×Int×J×Int×au×Int×Int×J×Int×J×Int×au×Int×I ab->ai ((dd) ⊕ (az×I da×aj×Int×J×Int×au×Int×Int×J×Int×J×Int×au×Int×I ab))
 |(G,M,F,i,W,E,X,Y,Z,aa,ak,al,am,an,ap,ax,aB,aD,K)=>
 if (i<(E.af.length:Int):J) then ite (aG i E.af.length) (some (E.af.getD i.toNat aF)>>=λH=>Ab (F,H.ah)>>=λg=>if (g<0:J) then if !H.bO then mC (M,H.ah)>>=λO=>h3 (O,7)>>=λq=>some (.inl (⟨ab.eta q.b6,q.er,q.cD⟩:dd))else some [ab.eta H.bC]>>=λt63=>ite (bR 120 (K++t63).length) (nn (G,M,F,aQ .i64 i 1,W,E,X,Y,Z,aa,ak,al,am,an,ap,ax,aB,aD,K++t63)) none else ite (aG g F.length) (mC (M,H.ah)>>=λP=>ka ((⟨W⟩:aY),H.aC,(F.getD g.toNat dP).b5,aQ .i64 G 1,P)>>=λA=>if !A.cD then some (.inl (⟨ab.eta A.b6,A.er,A.cD⟩:dd))else some [ab.eta A.b6]>>=λt89=>ite (bR 120 (K++t89).length) (nn (G,M,F,aQ .i64 i 1,W,E,X,Y,Z,aa,ak,al,am,an,ap,ax,aB,aD,K++t89)) none) none) none else some (.inr (M,F,E,X,Y,Z,aa,ak,al,am,an,ap,ax,aB,aD,K))
  partial_fixpoint
end
theorem Y6:e6 pI ka/\e6 G2 DC/\fx 250 0 [0] Cc nn/\e6 G1 DI/\fx 249 0 [2] Cb tG/\fx 249 0 [0] Ca tF/\e6 G0 Ev/\fx 248 0 [0] B' uC/\e6 GZ Es:=ka.mutual_partial_correctness (eX pI) (eX G2) (fw 250 0 [0] Cc) (eX G1) (fw 249 0 [2] Cb) (fw 249 0 [0] Ca) (eX G0) (fw 248 0 [0] B') (eX GZ)
 (λ_ _ _ _ _ h0 h1 d e f _ _ h=>fb h (.k p3 (.k Yw (.k L5 (.k Aj (.k uj (.k (cL pI h0) (.k (cL GZ f) (.k (cL G0 e) (.k (cL G1 d) (.k (cL G2 h1) (.k zV .n))))))))))))
 (λ_ a _ _ h=>fb h (.k LF (.k p3 (.k zV .n))) (.k (fL Cc a) (.k Y5 .n)))
 (λ_ _ h0 a _ _ h=>fK Cc a h (.k Zx (.k uj (.k p3 (.k (cL pI h0) .n)))))
 (λ_ _ b bu _ _ h=>fb h (.k Io (.k p3 (.k zV .n))) (.k (fL Ca bu) (.k Ya (.k (fL Cb b) .n))))
 (λ_ _ h0 b _ _ h=>fK Cb b h (.k uj (.k (cL pI h0) .n)))
 (λ_ _ h0 bu _ _ h=>fK Ca bu h (.k uj (.k (cL pI h0) .n)))
 (λ_ c _ _ h=>fb h (.k Io (.k p3 (.k zV .n))) (.k (fL B' c) .n))
 (λ_ _ h0 c _ _ h=>fK B' c h (.k uj (.k (cL pI h0) .n)))
 (λ_ h0 _ _ h=>fb h (.k LX (.k p3 (.k kC (.k zV (.k uj (.k (cL pI h0) .n)))))))
theorem YK:bn pI ka:=cL _ Y6.1
def IF:aY×Int×au->ai (dd×Int)
 |(s,t,m)=>
 rN (s,t)>>=λr=>if !(r=0:J) then some ((⟨(⟨0,false,0,[],0,[],[],[]⟩:ab),(⟨[],0⟩:jw),false⟩:dd),r)else if (4096<(m.length:Int):J) then h3 ([],3)>>=λa=>some ((⟨ab.eta a.b6,a.er,a.cD⟩:dd),0)else ka (s,t,m,1,[])>>=λb=>some ((⟨ab.eta b.b6,b.er,b.cD⟩:dd),0)
theorem Zn:bn aiz IF:= .bH (.k LK (.k p3 (.k YK .n)))
def Eh:aY×Int×au->ai (ab×Int)
 |(s,t,m)=>
 IF (s,t,m)>>=λr=>if(bif (r.2=0:J)then(!r.1.cD)else false) then some (ab.eta r.1.b6,12)else some (ab.eta r.1.b6,r.2)
theorem Yx:bn ajQ Eh:= .bH (.k Zn .n)
def Dz:dJ×dJ×au->ai (J)
 |(w,r,m)=>
 zZ (w,r)>>=λb=>some (!(b=0:J))>>=λt12=>(if !t12 then DK (w.ik,w.aC,m)else some false)>>=λc=>if(bif t12 then true else(!c)) then some false else Eh (w.ik,w.aC,m)>>=λa=>some (!(a.2=0:J))>>=λt32=>(if !t32 then qB (w.ik,w.aC,ab.eta a.1)else some false)>>=λd=>if(bif t32 then true else(!d)) then some false else Aq (w.ik,w.aC,ab.eta a.1,r.ik,r.aC)>>=λe=>some (e.2=12:J)
theorem YL:bn ajh Dz:= .bH (.k LJ (.k Y4 (.k Yx (.k IV (.k Mb .n)))))
def BZ:nu×au->ai (J)
 |(c,m)=>
 zK c>>=λr=>zY ()>>=λe=>if(bif bif (!e)then true else(!r.2.2)then true else (300<(m.length:Int):J)) then zY ()>>=λf=>some f else Ex (r.1,r.2.1,m)>>=λa=>DH (r.1,r.2.1)>>=λb=>Dz (r.1,r.2.1,m)>>=λd=>some (bif bif ft a d then (b.2=0:J)else false then bif (!a)then true else(!b.1)else false)
theorem ahJ:bn jU BZ:= .bH (.k aa3 (.k ZS (.k aaO (.k X1 (.k YL .n)))))
end
section
open Go Go.Proofs.YtkbmjabicjpmjaaGreatDoor.Shv
open Tryz
set_option maxRecDepth 100000

end
section
open Go Go.Proofs.YtkbmjabicjpmjaaGreatDoor.Shv
set_option maxRecDepth 100000
def ie(s:au):Nat->Nat->Nat->Int×Int×Int
 |0,_,_=>(0,0,10)
 |f+1,i,n=>
  if i<s.length then if i=9/\1<(s.getD i 0).toNat then(0,0,7)else if 128<=(s.getD i 0).toNat then ie s f (i+1) (n+((s.getD i 0).toNat%128)*2^(7*i))else if(s.getD i 0).toNat=0/\0<i then(0,0,2)else(((n+(s.getD i 0).toNat*2^(7*i):Nat):Int),((i+1:Nat):Int),0)else(0,0,10)
theorem Wt{i:Nat}(h:i<=9):2^(7*i)<=9223372036854775808:=by
 have:2^(7*i)<=2^63:=xW (by omega) (by omega);omega
theorem Wu(i:Nat):2^(7*(i+1))=2^(7*i)*128:=by rw[Nat.mul_add,Nat.pow_add]
theorem Ij{n i b:Nat}(aL:n<2^(7*i)):n+(b%128)*2^(7*i)<2^(7*(i+1)):=by
 rw[Wu];have:b%128*2^(7*i)<=127*2^(7*i):=fG _ (by omega);omega
theorem za{n i b:Nat}(d:i<=9)(aL:n<2^(7*i))(c:b<128)(a:i=9->b<=1):b*2^(7*i)<18446744073709551616/\n+b*2^(7*i)<18446744073709551616:=by
 rcases Nat.lt_or_ge i 9 with h|h;have:2^(7*i)<=2^56:=xW (by omega) (by omega);have e:(2:Nat)^56=72057594037927936:=(by decide);have:b*2^(7*i)<=127*2^(7*i):=fG _ (by omega);omega;grind
theorem TQ(s:au):∀(f i n:Nat),i+f=10->n<2^(7*i)->∃o,tQ (s,(n:Int),((min 10 s.length:Nat):Int),(i:Int))=some o/\(match o with|.inl x=>x|.inr _=>(0,0,10))=ie s f i n
 |0,i,n,h,aL=>by
  refine⟨.inr (),?_,rfl⟩;rw[tQ];grind
 |f+1,i,n,h,aL=>by
  rw[tQ];simp only[ie,a7,ay,sD];by_cases d:i<s.length
  . have e:=AJ s i;generalize (s.getD i 0).toNat=b at e⊢;rw[c',ag (aX d),ag d];have l:gi .i64 7 (i:Int)=((7*i:Nat):Int):=by rw[RI (by omega) (by omega)];norm_cast
    rw[l];have j:((0:Int)<=((7*i:Nat):Int):J):=by simp;omega
    by_cases c:i=9/\1<b;rw[ag c,ag (by obtain⟨h1,m⟩:=c;subst h1;simp;omega)];grind
    . rw[aq c,aq (by grind)];by_cases g:128<=b
      rw[ag g,c',ag j];have k:i=9->False:=λh1=>c ⟨h1,by omega⟩;have aD:b%128<128:=zA _ (by omega);have a:=za (i:=i) (n:=n) (b:=b%128) (by omega) aL aD (λh1=>(k h1).elim);rw[afc e,ig,Qv (by omega) a.1,Rf (by have:=Wt (i:=i) (by omega);omega) a.1,RH aL,bP];exact TQ s f (i+1) (n+b%128*2^(7*i)) (by omega) (Ij aL)
      . rw[aq g,eF];by_cases h0:b=0/\0<i
        simp_all;rw[aq h0,aq (by grind),ag j];have a:=za (i:=i) (n:=n) (b:=b) (by omega) aL (by omega) (λh1=>by omega);rw[ig,Qv (by omega) a.1,Rf (by have:=Wt (i:=i) (by omega);omega) a.1,RH aL,bP];grind
  rw[eF,aq d];grind
theorem TR(s:au):Fm s=some (ie s 10 0 0):=by
 obtain⟨o,h1,a⟩:=TQ s 10 0 0 rfl (by decide);rw[Fm];have:ed 10 (s.length:Int)=((min 10 s.length:Nat):Int):=afd 10 s.length;grind
theorem PF(s:au):∀(f i n:Nat),i<=s.length->i+f=10->n<2^(7*i)->∃o,uF (s,(n:Int),(if i<10 then((2^(7*i):Nat):Int)else gi .u64 ((2^(7*9):Nat):Int) 128),(i:Int))=some o/\(i<10->(match o with|.inl x=>x|.inr _=>(0,0,7))=ie s f i n)
 |0,i,n,p,h,aL=>by
  refine⟨.inr (),?_,λr=>by omega⟩;rw[uF];grind
 |f+1,i,n,p,h,aL=>by
  rw[uF];simp only[ie,a7,ay,sD];rw[ag (show ((i:Int)<10:J) by simp;omega),ag (show i<10 by omega)];by_cases e:i<s.length
  . have m:=AJ s i;generalize (s.getD i 0).toNat=b at m⊢;rw[eF,ag (aX e),ag e,ig];by_cases d:i=9/\1<b
    rw[ag d,ag (by obtain⟨h1,k⟩:=d;subst h1;simp;omega)];grind
    . rw[aq d,aq (by grind)];have j:cn (b:Int) 128=((b%128:Nat):Int):=yb (b:=128);have aD:b%128<128:=zA _ (by omega);by_cases g:128<=b
      . rw[ag g,eF];have l:i=9->False:=λh1=>d ⟨h1,by omega⟩;have c:=za (i:=i) (n:=n) (b:=b%128) (by omega) aL aD (λh1=>(l h1).elim);rw[j,u7 c.1,ti c.2,bP];obtain⟨o,h1,k⟩:=PF s f (i+1) (n+b%128*2^(7*i)) (by omega) (by omega) (Ij aL);have t:gi .u64 ((2^(7*i):Nat):Int) 128=((2^(7*(i+1)):Nat):Int):=by
         have:=u7 (a:=2^(7*i)) (b:=128) (by
          have:2^(7*i)<=2^56:=xW (by omega) (by omega)
          omega)
         grind
        grind
      . rw[aq g,c'];have q:b%128=b:=pa (by omega);have c:=za (i:=i) (n:=n) (b:=b) (by omega) aL (by omega) (λh1=>by omega);by_cases h0:b=0/\0<i
        simp_all;rw[aq h0,aq (by grind)];rw[j,q,u7 c.1,ti c.2,bP];grind
  rw[c',aq e];grind
theorem J4(s:au):wQ s=some (ie s 10 0 0):=by
 obtain⟨o,h1,a⟩:=PF s 10 0 0 (by omega) rfl (by decide);rw[wQ];grind
theorem QM(s:au):∀(f i n:Nat),i<=s.length->i+f=10->n<2^(7*i)->(∃e:Int,e≠0/\ie s f i n=(0,0,e))\/∃m k:Nat,ie s f i n=((m:Int),(k:Int),0)/\i<k/\k<=s.length/\m<18446744073709551616
 |0,i,n,l,h,aL=>.inl ⟨10,by decide,rfl⟩
 |f+1,i,n,l,h,aL=>by
  simp only[ie];have g:=AJ s i;generalize (s.getD i 0).toNat=b at g⊢;by_cases c:i<s.length
  . rw[ag c];by_cases d:i=9/\1<b
    simp_all
    . rw[aq d];by_cases a:128<=b
      . rw[ag a];rcases QM s f (i+1) (n+b%128*2^(7*i)) (by omega) (by omega) (Ij aL)with h|⟨m,k,h1,o,p,q⟩
        exact .inl h;grind
      . rw[aq a];by_cases h0:b=0/\0<i
        simp_all;rw[aq h0];have j:=za (i:=i) (n:=n) (b:=b) (by omega) aL (by omega) (λh1=>by omega);exact .inr ⟨_,i+1,rfl,by omega,by omega,j.2⟩
  rw[aq c];exact .inl ⟨10,by decide,rfl⟩
theorem l4(s:au):(∃e:Int,e≠0/\ie s 10 0 0=(0,0,e))\/∃m k:Nat,ie s 10 0 0=((m:Int),(k:Int),0)/\0<k/\k<=s.length/\m<18446744073709551616:=
 QM s 10 0 0 (by simp) rfl (by simp)
theorem oT{s:au}{e:Int}(he:e≠0)(h:ie s 10 0 0=(0,0,e)):ry s=some (0,[],false):=by
 grind[ry,TR]
theorem mx{s:au}{m k:Nat}(h:ie s 10 0 0=((m:Int),(k:Int),0))(a:k<=s.length):ry s=some ((m:Int),s.drop k,true):=by
 grind[ry,TR,oZ,x5]
def eu:ai (au×au)->au×au×J
 |none=>([],[],false)
 |some (a,b)=>(a,b,true)
def jc(s:au):ai (au×au):=
 match ie s 10 0 0 with
 |(m,k,e)=>ite (e=0/\m.toNat+k.toNat<=s.length) (some ((s.drop k.toNat).take m.toNat,(s.drop k.toNat).drop m.toNat)) none
theorem oQ{s a b:au}(h:jc s=some (a,b)):a.length+b.length<s.length:=by
 unfold jc at h;rcases l4 s with⟨e,he,c⟩|⟨m,k,c,f,d,g⟩;grind;grind
theorem my{s:au}(hs:s.length<=1000000:=by omega):A9 s=some (eu (jc s)):=by
 rw[A9];unfold jc;rcases l4 s with⟨e,he,b⟩|⟨m,k,b,f,d,g⟩;rw[oT he b,b];simp[he,eu]
 . rw[mx b d,b];simp only[a7,ay,fH,true_and,mL];rw[ig];by_cases c:m+k<=s.length
   rw[eF,ag (show fI 0 m _=true from oZ (a:=0) (by omega) (by omega)),ag (oZ (by omega) (e' _)),ag c];have:(s.length-k:Nat)=(s.drop k).length:=(by simp);rw[this,x5,ac3];rfl;rw[c',aq c];rfl
theorem TS{s:au}(hs:s.length<=1000000):zI s=some (eu (jc s)):=by
 rw[zI,J4];unfold jc;rcases l4 s with⟨e,he,b⟩|⟨m,k,b,g,f,i⟩;grind[eu]
 . rw[b];simp only[a7,ay,fH,true_and];have c:dG .i64 (s.length:Int) (k:Int)=((s.length-k:Nat):Int):=(by grind[pD]);rw[c,ig];by_cases a:m+k<=s.length
   . rw[aq (by grind),ag a];have d:b7 .i64 _=m:=Cl (by simp) (by omega);rw[d,KI (by omega),ag (oZ (by simp) (by omega)),ag (oZ (by omega) (e' _)),x5];have:hd s k (k+m:Nat)=(s.drop k).take m:=by
      grind[hd,Int.toNat_natCast,List.drop_take]
     rw[this,vd];rfl
   rw[ag (by grind),aq a];rfl
theorem FM:∀(n:Nat) (s:au) (b:I au),s.length<=n->s.length+b.length<=100000->∃o,ir (s,b)=some o/\∀l,o= .inr l->l.length<=s.length+b.length:=by
 intro n;induction n with
 |zero=>
  simp_all[ir]
 |succ n ih=>
  intro s b h1 f;rw[ir,my];simp only[a7,ay];by_cases hs:s=[];grind
  . have c:(!(s=[]:J)):=(by grind);rw[ag c];cases e:jc s with
    |none=>exact⟨.inl 12,rfl,λl ak=>by grind⟩
    |some p=>
     obtain⟨x,y⟩:=p;have ak:=oQ e;have d:bR 16 (b++[(eu (some (x,y))).1]).length:=dQ (by simp) (by grind);have aL:¬((!(eu (some (x,y))).2.2)=true):=(by simp[eu]);rw[ag d];obtain⟨o,a,bu⟩:=ih y (b++[x]) (by omega) (by grind);exact⟨o,a,λl g=>by grind⟩
theorem afn{s:au}(h:s.length<=90000):∃o,lb s=some o/\o.1.length<=s.length:=by
 obtain⟨o,h1,a⟩:=FM _ s [] (e' _) (by grind);rw[lb];cases o<;>simp_all
theorem agl:∀(n:Nat) (s:au) (b:I au),s.length<=n->s.length+b.length<=100000->uz (s,b)=ir (s,b):=by
 intro n;induction n with
 |zero=>
  simp_all[ko,ir,uz,aq]
 |succ n ih=>
  intro s b h1 e;rw[ir,uz,my,TS (by omega)];simp only[a7,ay];by_cases hs:s=[];grind
  . have a:(!(s=[]:J)):=(by grind);rw[ag a,ag a];cases d:jc s with
    |none=>rfl
    |some p=>
     obtain⟨x,y⟩:=p;have ak:=oQ d;have c:bR 16 (b++[(eu (some (x,y))).1]).length:=dQ (by simp) (by grind);have aL:¬((!(eu (some (x,y))).2.2)=true):=(by simp[eu]);rw[aq aL,ag c,aq aL,ag c];exact ih y (b++[x]) (by omega) (by grind)
theorem afo{s:au}(h:s.length<=90000):rO s=lb s:=by
 rw[rO,agl _ s [] (e' _) (by simp;omega)]<;>rfl
theorem PG:∀(n:Nat) (s:au) (last:Nat) (b:I da),s.length<=n->s.length+b.length<=100000->∃o,hC ((last:Int),s,b)=some o/\∀l,o= .inr l->l.length<=s.length+b.length:=by
 intro n;induction n with
 |zero=>
  simp_all[ko,hC,aq]
 |succ n ih=>
  intro s last b h1 q;rw[hC];by_cases hs:s=[];simp_all
  . have d:(!(s=[]:J)):=(by grind);rw[ag d];rcases l4 s with⟨e,he,a⟩|⟨m,k,a,t,f,g⟩
    rw[oT he a];simp_all
    . rw[mx a f];simp only[a7,ay];rw[vq g];by_cases r:m/2<=last\/1000<m/2
      exact⟨.inl 12,by grind,λl ak=>by grind⟩
      . have j:b7 .i64 _=((m/2:Nat):Int):=lv;rw[aq (by grind),j,my (by grind)];simp only[ay];cases ar:jc _ with
        |none=>exact⟨.inl 12,rfl,λl ak=>by grind⟩
        |some p=>
         obtain⟨x,y⟩:=p;have ak:=oQ ar;rw[mL]at ak;have i:bR 32 (b++[(⟨((m/2:Nat):Int),(cn (m:Int) 2=1:J),(eu (some (x,y))).1⟩:da)]).length:=dQ (by simp) (by grind);have aL:¬((!(eu (some (x,y))).2.2)=true):=(by simp[eu]);rw[aq aL,ag i];obtain⟨o,c,bu⟩:=ih y (m/2) (b++[(⟨((m/2:Nat):Int),(cn (m:Int) 2=1:J),x⟩:da)]) (by omega) (by grind);exact⟨o,c,λl u=>by grind⟩
theorem aeT{s:au}(h:s.length<=90000):∃o,mE s=some o/\o.1.length<=s.length:=by
 obtain⟨o,h1,a⟩:=PG _ s 0 [] (e' _) (by grind);rw[mE];cases o<;>simp_all
theorem afp:∀(n:Nat) (s:au) (last:Nat) (b:I da),s.length<=n->s.length+b.length<=100000->ux (s,(last:Int),b)=hC ((last:Int),s,b):=by
 intro n;induction n with
 |zero=>
  simp_all[ko,hC,ux,aq]
 |succ n ih=>
  intro s last b h1 l;rw[hC,ux,J4];by_cases hs:s=[];grind
  . have c:(!(s=[]:J)):=(by grind);rw[ag c,ag c];rcases l4 s with⟨e,he,a⟩|⟨m,k,a,q,d,i⟩
    grind[oT]
    . rw[mx a d,a];simp only[a7,ay];rw[vq i];by_cases o:m/2<=last\/1000<m/2
      grind[Cl]
      . have j:b7 .i64 ((m/2:Nat):Int)=((m/2:Nat):Int):=lv;have g:¬(bif bif (!true)then true else (((m/2:Nat):Int)<=(last:Int):J)then true else (1000<((m/2:Nat):Int):J)):=(by grind);rw[j,aq (by grind),ag (oZ d (e' _)),x5,TS (by grind),aq g,my (by grind)];simp only[ay];cases ar:jc _ with
        |none=>rfl
        |some p=>
         obtain⟨x,y⟩:=p;have ak:=oQ ar;rw[mL]at ak;have f:bR 32 (b++[(⟨((m/2:Nat):Int),(cn (m:Int) 2=1:J),(eu (some (x,y))).1⟩:da)]).length:=dQ (by simp) (by grind);have aL:¬((!(eu (some (x,y))).2.2)=true):=(by simp[eu]);rw[aq aL,ag f,aq aL,ag f];exact ih y _ _ (by omega) (by grind)
theorem ad9{s:au}(h:s.length<=90000):xk s=mE s:=by
 have h1:=afp _ s 0 [] (e' _) (by grind);grind[mE,xk]
theorem ahQ(s:au):∃o,mu s=some o:=by
 rw[mu];rcases l4 s with⟨e,he,a⟩|⟨m,k,a,d,b,f⟩;rw[oT he a];simp
 . rw[mx a b];simp only[a7,ay];by_cases c:m<1\/1000<m
   exact⟨(0,[],12),by grind⟩;rw[aq (by grind)];simp
theorem ahR(s:au):∃o,mu s=some o/\wR s=some o:=by
 rw[mu,wR,J4];rcases l4 s with⟨e,he,a⟩|⟨m,k,a,d,b,f⟩;rw[oT he a,a];simp
 . rw[mx a b,a];simp only[a7,ay];by_cases c:m<1\/1000<m
   exact⟨(0,[],12),by grind,by grind⟩;rw[aq (by grind),aq (by grind),ag (oZ b (e' _)),x5];simp
def e5(n:Nat):au:=if n<128 then[UInt8.ofNat n]else UInt8.ofNat (n%128+128)::e5 (n/128)
termination_by n
decreasing_by omega
theorem w6{n:Nat}(h:n<128):e5 n=[UInt8.ofNat n]:=by rw[e5,ag h]
theorem x6{n:Nat}(h:¬n<128):e5 n=UInt8.ofNat (n%128+128)::e5 (n/128):=by rw[e5,aq h]
theorem afP{a:Nat}(h:a<256):sS .u8 (a:Int) 128=((a%128+128:Nat):Int):=by
 have key:∀a:Nat,a<256->sS .u8 a 128=a%128+128:=by decide+kernel
 grind
theorem yq(n:Nat):b7 .u8 (n:Int)=((n%256:Nat):Int):=by rfl
theorem alr(n:Nat):lZ .u64 (n:Int) 7=((n/128:Nat):Int):=by
 unfold lZ;have:(2^min (7:Int).toNat IntKind.u64.bits)=128:=by rfl
 grind
theorem acL(m:Nat)(l:az):strOf ((m:Int)::l)=UInt8.ofNat m::strOf l:=rfl
theorem Ee(a b:az):strOf (a++b)=strOf a++strOf b:=xK
variable{α γ:Type}{p N:au}{a v:ab}{names:I au}{f:aT×aT->ai J}{t:aj}{S:I de}{K M E H id:Int}{c:I aT}{ts:I aj}{L':Nat->ai (Int ⊕ Unit)}{o:ai (Int×J)}{L:ai (J ⊕ Unit)}
theorem JM:∀(l:I α) (i:Nat) (x:α),i<l.length->(l.set i x).take (i+1)=l.take i++[x]
 |[],i,x,h=>by grind
 |a::l,0,x,h=>by rfl
 |a::l,i+1,x,h=>by simp[JM l i x (by grind)]
theorem TT:∀(f n i:Nat) (b:az),i+f=9->n<128*128^f->b.length=10->∃(cS c:Nat) (a:az),tO ((n:Int),(i:Int),b)=some ((cS:Int),(c:Int),a)/\cS<128/\c<=9/\a.length=10/\strOf (a.take c)++[UInt8.ofNat cS]=strOf (b.take i)++e5 n
 |f,n,i,b,d,aL,k=>by
  rw[tO];by_cases hs:n<128;rw[aq (by grind)];grind[w6]
  . rw[ag (by grind),ag (aX (by
     omega)),ag (by
     grind)]
    match f,d,aL with
    |0,d,aL=>grind
    |f+1,d,aL=>
     rw[alr,bP,yq,afP (zA _ (by simp))];have aD:n/128<128*128^f:=(by omega);obtain⟨cS,c,a,h1,e,g,j,bu⟩:=TT f _ (i+1) (b.set i _) (by omega) aD (by grind);refine⟨cS,c,a,h1,e,g,j,?_⟩;rw[bu,JM _ _ _ (by omega),Ee,x6 hs];have l:strOf [n%128+128]=[UInt8.ofNat _]:=rfl;grind
theorem qt{n:Nat}(aL:n<18446744073709551616:=by omega):qa (n:Int)=some (e5 n):=by
 obtain⟨cS,d,e,h1,f,g,i,bu⟩:=TT 9 n 0 [0,0,0,0,0,0,0,0,0,0] rfl (by grind) rfl;rw[qa];have a:tO (n,0,[0,0,0,0,0,0,0,0,0,0])=some _:=h1;rw[a];simp only[a7,ay];have c:fI 0 (d+1:Nat) 10:=oZ (by simp) (by omega);rw[ag (fP),ag (by grind),bP,ag c,ag (by grind[yk]),bo,yq];have:cS%256=cS:=pa (by omega);rw[this];simp;rw[JM _ _ _ (by omega),Ee];have b:strOf [cS]=[UInt8.ofNat cS]:=rfl;rw[b,bu];rfl
theorem PH:∀(f n:Nat) (b:az),n<128^f->n<18446744073709551616->b.length+f<=1000->∃(cS:Nat) (a:az),xj ((n:Int),b)=some ((cS:Int),a)/\cS<128/\a.length<=1000/\strOf a++[UInt8.ofNat cS]=strOf b++e5 n
 |f,n,b,aL,k,l=>by
  rw[xj];by_cases hs:n<128;rw[aq (by grind)];grind[w6]
  . rw[ag (by grind)]
    match f,aL with
    |0,aL=>grind
    |f+1,aL=>
     have j:cn (n:Int) 128=((n%128:Nat):Int):=yb (b:=128);have g:aQ .u64 _ 128=((n%128+128:Nat):Int):=ti (b:=128) (by omega);have i:fR .u64 (n:Int) 128=((n/128:Nat):Int):=by
      grind[fR,Int.tdiv_eq_ediv_of_nonneg,s0]
     simp only[a7,ay];rw[j,g,i,yq,ag (dQ (by simp) (by grind))];have aD:n/128<128^f:=(by omega);obtain⟨cS,a,h1,c,d,e⟩:=PH f (n/128) (b++[(((n%128+128)%256:Nat):Int)]) aD (by omega) (by grind);refine⟨cS,a,h1,c,d,?_⟩;rw[e,Ee,x6 hs];have m:strOf [((n%128+128:Nat):Int)]=[UInt8.ofNat (n%128+128)]:=rfl;grind
theorem AK{n:Nat}(aL:n<18446744073709551616:=by omega):rT (n:Int)=some (e5 n):=by
 obtain⟨cS,c,h1,d,e,a⟩:=PH 10 n [] (by grind) aL (by simp);rw[rT,h1];simp only[a7,ay];rw[ag (dQ (by simp) (by grind)),yq,Ee];have:cS%256=cS:=pa (by omega);rw[this];have b:strOf [cS]=[UInt8.ofNat cS]:=rfl;rw[b,a];rfl
theorem Lb:∀(f n:Nat),n<128^(f+1)->(e5 n).length<=f+1
 |f,n,aL=>by
  by_cases hs:n<128;grind[w6]
  . rw[x6 hs]
    match f,aL with
    |0,aL=>grind
    |f+1,aL=>
     have:=Lb f (n/128) (by omega);grind
theorem kG{n:Nat}(aL:n<18446744073709551616):(e5 n).length<=10:=Lb 9 n (by grind)
theorem qe(n:Nat):0<(e5 n).length:=by
 grind[e5]
theorem nz{n:Nat}(h:n<256):(UInt8.ofNat n).toNat=n:=by simp_all
theorem TU:∀(f i acc n:Nat) (pre rest:au),i+f=10->pre.length=i->n*2^(7*i)<18446744073709551616->(n=0->i=0)->ie (pre++(e5 n++rest)) f i acc=(((acc+n*2^(7*i):Nat):Int),((i+(e5 n).length:Nat):Int),0)
 |0,i,acc,n,pre,rest,c,ar,aL,h0=>by grind
 |f+1,i,acc,n,pre,rest,c,ar,aL,h0=>by
  have d:i<(pre++(e5 n++rest)).length:=by
   grind[qe]
  have a:∀(x:UInt8) (r:au),e5 n=x::r->(pre++(e5 n++rest)).getD i 0=x:=by grind
  simp only[ie];rw[ag d];by_cases hs:n<128
  . rw[a _ _ (w6 hs),nz (by omega),aq (by
     grind),b9,aq (by
     grind),w6 hs]
    rfl
  . have e:i<9:=(by grind);rw[a _ _ (x6 hs),nz (by omega),b9,jY];have g:n%128*2^(7*i)+n/128*2^(7*(i+1))=n*2^(7*i):=by
     rw[Wu];have h1:n/128*(2^(7*i)*128)=(n/128*128)*2^(7*i):=(by grind);rw[h1,<-ja];grind
    have b:n/128*2^(7*(i+1))<18446744073709551616:=(by omega);have:=TU f _ (acc+n%128*2^(7*i)) _ (pre++[UInt8.ofNat (n%128+128)]) rest (by omega) (by grind) b (by omega);have es:pre++(e5 n++rest)=pre++[UInt8.ofNat (n%128+128)]++(e5 (n/128)++rest):=by rw[x6 hs];simp
    grind
theorem BR{n:Nat}(aL:n<18446744073709551616)(rest:au):ie (e5 n++rest) 10 0 0=((n:Int),((e5 n).length:Int),0):=by
 have:=TU 10 0 0 n [] rest rfl rfl (by grind) (λ_=>rfl);grind
def dC(p:au):au:=e5 p.length++p
theorem ha{n:Nat}(h:n<=9223372036854775807:=by omega):(n<=eT:J):=by
 grind[eT]
theorem FN(h:p.length<=1152921504606846976:=by omega):rZ p=some (dC p):=by
 rw[rZ,ig,qt];simp only[a7,ay];have:=kG (n:=p.length) (by omega);rw[ag (ha)];rfl
theorem Fa(h:p.length<=1152921504606846976:=by omega):rR p=some (dC p):=by
 rw[rR,ig,AK];simp only[a7,ay];have:=kG (n:=p.length) (by omega);rw[ag (ha)];rfl
def fV(id:Nat)(c:J)(p:au):au:=e5 (2*id+(if c then 1 else 0))++dC p
theorem OS(h:p.length<=1152921504606846976):(dC p).length<=p.length+10:=by
 grind[kG,dC]
theorem Lc{id:Nat}{c:J}(hid:id<=4611686018427387903)(h:p.length<=1152921504606846900:=by omega):wZ ((id:Int),c,p)=some (fV id c p):=by
 rw[wZ];have e:gi .u64 2 (b7 .u64 id)=(2*id:Nat):=by rw[ig];exact u7 (a:=2) (by omega)
 simp only[a7,ay];rw[e,FN];have ak:=OS (p:=p) (by omega);cases c with
 |true=>
  have d:aQ .u64 _ 1=(2*id+1:Nat):=ti (b:=1) (by omega);rw[d,qt];have:=kG (n:=2*id+1) (by omega);simp only[ay];rw[ag (ha)];rfl
 |false=>
  rw[qt];have:=kG (n:=2*id) (by omega);simp only[ay];rw[ag (ha)];rfl
theorem N2{id:Nat}{c:J}(hid:id<=4611686018427387903)(h:p.length<=1152921504606846900):z' ((id:Int),c,p)=some (fV id c p):=by
 rw[z'];have d:b7 .u64 (gi .i64 2 id)=(2*id:Nat):=by
  rw[RI (by omega) (by omega)];have:(2:Int)*id=(2*id:Nat):=by rfl
  rw[this];exact ig
 simp only[a7,ay];rw[d,Fa];have ak:=OS (p:=p) (by omega);cases c with
 |true=>
  have a:aQ _ _ 1=(2*id+1:Nat):=ti (b:=1) (by omega);rw[a,AK];have:=kG (n:=2*id+1) (by omega);simp only[ay];rw[ag (ha)];rfl
 |false=>
  rw[AK];have:=kG (n:=2*id) (by omega);simp only[ay];rw[ag (ha)];rfl
theorem N3{rest:au}(h:p.length<=100000):jc (dC p++rest)=some (p,rest):=by
 unfold jc dC;rw[j1,BR (by omega)];simp;grind
theorem ab8{id:Nat}{c:J}{rest:au}{last:Nat}{b:I da}(h1:last<id)(hid:id<=1000)(h:(fV id c p++rest).length<=100000)(j:b.length<=90000):
 hC ((last:Int),fV id c p++rest,b)=hC ((id:Int),rest,b++[⟨(id:Int),c,p⟩]):=by
 have e:p.length<=100000:=by
  grind[fV,dC,List.length_append]
 have l:fV id c p++rest≠[]:=by
  intro k;grind[qe,fV,List.length_append,List.length_nil]
 have av:ie (fV id c p++rest) 10 0 0=(((2*id+(if c then 1 else 0):Nat):Int),((e5 (2*id+(if c then 1 else 0))).length:Int),0):=by
  grind[fV,List.append_assoc,BR]
 have aL:=mx av (by grind[fV]);have a:(fV id c p++rest).drop (e5 (2*id+(if c then 1 else 0))).length=dC p++rest:=by
  grind[fV]
 rw[a]at aL;have d:(2*id+(if c then 1 else 0))/2=id:=by grind
 have g:(cn ((2*id+(if c then 1 else 0):Nat):Int) 2=1:J)=c:=by
  have:cn _ 2=(((2*id+(if c then 1 else 0))%2:Nat):Int):=yb (b:=2);grind
 rw[hC,ag (by grind),aL];simp only[a7,ay];rw[vq (by omega),d,aq (by grind),g,my (by grind),N3 e];simp only[ay];have i:b7 .i64 (id:Int)=(id:Int):=Cl (by simp) (by omega);have m:¬((!(eu (some (p,rest))).2.2)=true):=by simp[eu]
 rw[i];have f:bR 32 (b++[(⟨(id:Int),c,(eu (some (p,rest))).1⟩:da)]).length:=dQ (by simp) (by grind);rw[ag f];rfl
inductive cz:ab->Prop
 |mk (v:ab) (hs:v.bW.length<=reachBytes) (h1:v.a'.length<=reachBytes) (akE:v.aw.length<=reachBytes) (al6:v.a6.length<=reachBytes)
  (hk:∀x,x∈v.a'->cz x) (G':∀x,x∈v.aw->cz x) (ame:∀x,x∈v.a6->x.b5.length<=reachBytes)
  (dF: -9223372036854775808<=v.ae/\v.ae<=9223372036854775807) (amj: -9223372036854775808<=v.bF/\v.bF<=9223372036854775807) (amk: -9223372036854775808<=v.ah/\v.ah<=9223372036854775807)
  (aml:∀x,x∈v.a6->-9223372036854775808<=x.ah/\x.ah<=9223372036854775807):cz v
theorem eS{n:Nat}(h:n<=reachBytes):n<9223372036854775807:=Nat.lt_of_le_of_lt h (by decide)
theorem scan(L:Nat->ai γ)(n:Nat)(p:Nat->J)(a b:γ)(e:∀i,i<n->L i=if p i then L (i+1)else some a)(d:L n=some b):
 (L 0=some b/\∀j,j<n->p j)\/(L 0=some a/\∃j,j<n/\p j=false):=by
 have key:∀k i,i+k=n->(L i=some b/\∀j,i<=j->j<n->p j)\/(L i=some a/\∃j,j<n/\p j=false):=by
  intro k;induction k<;>grind
 rcases key n 0 (by simp)with⟨h1,c⟩|h
 all_goals grind
theorem gA{l:I α}{i:Nat}(h:i<l.length)(d:α):l.getD i d=l[i]:=by grind
theorem A'{a b:I α}{p:Nat->J}(ak:a.length=b.length)(ar:∀(i:Nat) (h1:i<a.length) (c:i<b.length),p i↔a[i]=b[i]):
 (∀j,j<a.length->p j)↔a=b:=by
 grind[List.ext_getElem]
def fC{α:Type}(o:ai J)(a b:α):Prop:=∃r,o=some r/\(r=true↔a=b)
theorem fC.HN{a b:I α}{p:Nat->J}(ak:a.length=b.length)(ar:∀(i:Nat) (h1:i<a.length) (c:i<b.length),p i↔a[i]=b[i]){o:ai J}
 (h:(o=some true/\∀j,j<a.length->p j)\/(o=some false/\∃j,j<a.length/\p j=false)):fC o a b:=by
 rcases h with⟨h1,c⟩|⟨h1,j,c,e⟩;exact⟨true,h1,by simp[(A' ak ar).1 c]⟩;refine⟨false,h1,?_⟩;grind
theorem TV{a b:ct}:(eZ a.ah b.ah&&(jW a.b5 b.b5&&true))↔a=b:=by cases a;cases b;simp[eZ,jW]
theorem TW{a b:de}:(eZ a.ah b.ah&&(jW a.aR b.aR&&true))↔a=b:=by
 cases a;cases b;simp[eZ,jW]
theorem x7{a b:I α}(h:¬a.length=b.length):fC (some false) a b:=⟨false,rfl,by grind⟩
theorem TX{a b:I ct}(d:a.length<=reachBytes):fC (zG (a,b)) a b:=by
 rw[zG];by_cases ak:a.length=b.length
 . have f:=eS d;have:=scan (λi=>tD (a,b,(a.length:Int),(i:Int))) a.length (λi=>eZ (a.getD i cq).ah (b.getD i cq).ah&&(jW (a.getD i cq).b5 (b.getD i cq).b5&&true)) (.inl false) (.inr ())
    (λi e=>by
     rw[tD,ag (by grind),ag (aX e)];simp[a7,ay,bo];rw[ag (fP),bP]
     grind)
    (by simp_all[tD])
   refine fC.HN (p:=λi=>eZ (a.getD i cq).ah (b.getD i cq).ah&&(jW (a.getD i cq).b5 (b.getD i cq).b5&&true)) ak (λi h1 c=>by simp only[gA h1,gA c];exact TV) ?_;grind
 rw[ag (by grind)];exact x7 ak
theorem ahS{a b:I de}(d:a.length<=reachBytes):fC (DF (a,b)) a b:=by
 rw[DF];by_cases ak:a.length=b.length
 . have f:=eS d;have:=scan (λi=>tC (a,b,(a.length:Int),(i:Int))) a.length (λi=>eZ (a.getD i ek).ah (b.getD i ek).ah&&(jW (a.getD i ek).aR (b.getD i ek).aR&&true)) (.inl false) (.inr ())
    (λi e=>by
     rw[tC,ag (aX e)];simp;rw[ag (fP),bP]
     grind)
    (by simp_all[tC])
   refine fC.HN (p:=λi=>eZ (a.getD i ek).ah (b.getD i ek).ah&&(jW (a.getD i ek).aR (b.getD i ek).aR&&true)) ak (λi h1 c=>by simp only[gA h1,gA c];exact TW) ?_;grind
 rw[ag (by grind)];exact x7 ak
theorem ER(v:ab):(⟨v.ae,v.cp,v.bF,v.bW,v.ah,v.a',v.aw,v.a6⟩:ab)=v:=by cases v;rfl
theorem PI{b:ab}:a=b↔a.ae=b.ae/\a.cp=b.cp/\a.bF=b.bF/\a.bW=b.bW/\a.ah=b.ah/\a.a6=b.a6/\a.a'=b.a'/\a.aw=b.aw:=by
 constructor;grind;cases a;cases b;grind
section
variable {f:ab×ab->ai J}
theorem Kw {a b:I ab}(ak:a.length=b.length)(ih:∀x,x∈a->∀y,fC (f (x,y)) x y)(L:Nat->ai (J ⊕ Unit))
 (l:∀i,i<a.length->L i=(f (ab.eta (a.getD i aI),ab.eta (b.getD i aI))>>=λr=>if !r then some (.inl false)else L (i+1)))
 (e:L a.length=some (.inr ())):fC (L 0>>=λo=>match o with|.inl x=>some x|.inr _=>some true) a b:=by
 have d:∀(i:Nat) (h1:i<a.length) (c:i<b.length),fC (f (ab.eta (a.getD i aI),ab.eta (b.getD i aI))) a[i] b[i]:=by
  grind[gA,ab.bN]
 have:=scan L a.length (λi=>(f (ab.eta (a.getD i aI),ab.eta (b.getD i aI))).getD false) (.inl false) (.inr ())
  (λi g=>by
   obtain⟨r,h1,c⟩:=d i g (by omega)
   grind) e
 refine fC.HN ak (λi h1 c=>?_) ?_ (p:=λi=>(f (ab.eta (a.getD i aI),ab.eta (b.getD i aI))).getD false)
 obtain⟨r,j,k⟩:=d i h1 c;grind;grind
end
theorem QR{a b:I ab}(c:a.length<=reachBytes)(ih:∀x,x∈a->∀y,fC (nC (x,y)) x y):fC (wD (a,b)) a b:=by
 rw[wD];by_cases ak:a.length=b.length
 . rw[aq (by grind)];have e:=eS c;exact Kw ak ih (λi=>wB (b,a,a.length,i))
    (λi d=>by
     rw[wB,ag (by grind),ag (aX d),ag (fP),bP]
     rfl)
    (by grind[wB])
 rw[ag (by grind)];exact x7 ak
theorem QS{a b:I ab}(c:a.length<=reachBytes)(ih:∀x,x∈a->∀y,fC (nB (x,y)) x y):fC (zr (a,b)) a b:=by
 rw[zr];by_cases ak:a.length=b.length
 . rw[aq (by grind)];have e:=eS c;exact Kw ak ih (λi=>wC (b,a,a.length,i))
    (λi d=>by
     rw[wC,ag (by grind),ag (aX d),ag (fP),bP]
     rfl)
    (by simp_all[wC])
 rw[ag (by grind)];exact x7 ak
theorem QT{a b:I ab}(c:a.length<=reachBytes)(ih:∀x,x∈a->∀y,fC (k8 (x,y)) x y):fC (zo (a,b)) a b:=by
 rw[zo];by_cases ak:a.length=b.length
 . rw[aq (by grind)];have e:=eS c;exact Kw ak ih (λi=>wE (a,b,i))
    (λi d=>by
     rw[wE,ag (by grind),ag (aX d),ag (fP),bP]
     rfl)
    (by grind[wE])
 rw[ag (by grind)];exact x7 ak
theorem three{b:ab}{bu:J}(iW:bu=true↔a.ae=b.ae/\a.cp=b.cp/\a.bF=b.bF/\a.bW=b.bW/\a.ah=b.ah){x y z:ai J}(aa:fC x a.a6 b.a6)(al:fC y a.a' b.a')(g:fC z a.aw b.aw):
 fC (some bu>>=λt37=>(if t37 then x else some false)>>=λr=>some (bif t37 then r else false)>>=λt44=>(if t44 then y else some false)>>=λj=>some (bif t44 then j else false)>>=λt51=>(if t51 then z else some false)>>=λk=>some (bif t51 then k else false)) a b:=by
 obtain⟨c,e,m⟩:=aa;obtain⟨d,f,n⟩:=al;obtain⟨l,i,o⟩:=g;subst e;subst f;subst i;refine⟨bu&&c&&d&&l,?_,?_⟩;cases bu<;>cases c<;>cases d<;>rfl;grind[PI]
theorem V0{b:ab}:(bif bif bif bif (a.ae=b.ae:J)then ft a.cp b.cp else false then(a.bF=b.bF:J)else false then(a.bW=b.bW:J)else false then(a.ah=b.ah:J)else false)=true↔a.ae=b.ae/\a.cp=b.cp/\a.bF=b.bF/\a.bW=b.bW/\a.ah=b.ah:=by
 grind[ft]
theorem OT(h:cz a):∀b,fC (nC (a,b)) a b:=by
 induction h with
 |mk a hs h1 c d i g j dF k l m f e=>
  intro b;rw[nC];exact three V0 (TX d) (QR h1 f) (QR c e)
theorem Fo(h:cz a):∀b,fC (nB (a,b)) a b:=by
 induction h with
 |mk a hs h1 c d i g j dF k l m f e=>
  intro b;rw[nB];exact three V0 (TX d) (QS h1 f) (QS c e)
theorem Fs(h:cz a):∀b,fC (k8 (a,b)) a b:=by
 induction h with
 |mk a hs h1 c e q p r dF v w x l k=>
  intro b;rw[k8];by_cases bu:a.ae=b.ae/\a.cp=b.cp/\a.bF=b.bF/\a.bW=b.bW/\a.ah=b.ah/\a.a6.length=b.a6.length
  . obtain⟨aK,n,dB,o,iW,jU⟩:=bu;rw[aq (by grind[ft])];have s:=eS e;have d:=scan (λi=>pO ((i:Int),a,b)) a.a6.length (λi=>eZ (a.a6.getD i cq).ah (b.a6.getD i cq).ah&&(jW (a.a6.getD i cq).b5 (b.a6.getD i cq).b5&&true)) (.inl false) (.inr (a,b))
     (λi f=>by
      rw[pO,ag (aX f)];simp only[a7,ay,bo,ab.bN];rw[ag (fP),bP]
      grind)
     (by rw[pO,cN,ab.bN,ab.bN])
    have h0:pO (((0:Nat):Int),a,b)=pO (0,a,b):=rfl;simp only[h0]at d;rw[ER,ER];have ar:∀(i:Nat) (h1:i<a.a6.length) (c:i<b.a6.length),(eZ (a.a6.getD i cq).ah (b.a6.getD i cq).ah&&(jW (a.a6.getD i cq).b5 (b.a6.getD i cq).b5&&true))↔a.a6[i]=b.a6[i]:=λi h1 c=>by grind[gA,TV]
    rcases d with⟨g1,g2⟩|⟨g1,j,g2,g3⟩;have t:=(A' jU ar).1 g2;rw[g1];obtain⟨sU,bj,bq⟩:=QT (a:=a.a') (b:=b.a') h1 l;obtain⟨m,g,u⟩:=QT (a:=a.aw) (b:=b.aw) c k;simp only[a7,ay];rw[bj,g];refine⟨sU&&m,by cases sU<;>rfl,?_⟩;simp_all[PI,dr];rw[g1];refine⟨false,rfl,?_⟩;grind
  . rw[ag]
    refine⟨false,rfl,?_⟩;grind;simp only[Dl,ft];grind
def qh(c:Int):J:=(c=95\/(97<=c/\c<=122)\/(65<=c/\c<=90):J)
def Cd(c:Int):J:=(48<=c/\c<=57:J)
theorem ES(c:Int):zM c=some (qh c):=by
 rw[zM];unfold qh;grind
theorem PJ(c:Int):zR c=some (qh c):=by
 rw[zR];unfold qh;grind
theorem aeU(c:Int):D0 c=some (Cd c):=by
 rw[D0];unfold Cd;grind
theorem aeV(c:Int):Ek c=some (Cd c):=by
 rw[Ek];unfold Cd;grind
theorem QN(A B cr:J)(X a:ai γ)(b:cr=true):
 (some A>>=λc=>some (!c)>>=λt26=>if(cr||(!t26)) then(if t26 then some B else some false)>>=λd=>if(bif t26 then(!d)else false) then X else a else none)=if(A||B) then a else X:=by
 subst b;cases A<;>cases B<;>rfl
theorem QU(s:au):∃r,la s=some r/\uE s=some r:=by
 rw[la,uE];simp only[a7,ay];by_cases d:s=[]\/24<s.length;have ht:(bif (s=[]:J)then true else (24<(s.length:Int):J))=true:=(by grind);rw[ht];simp_all
 . have f:s≠[]:=λh=>d (.inl h);have m:s.length<=24:=(by omega);have ht:(bif (s=[]:J)then true else (24<(s.length:Int):J))=false:=(by grind);have g:0<s.length:=qP.2 f;have e:aG 0 s.length:=aX (k:=0) g;simp only[ht,e,pc,cg,fY,ay,ES,PJ,eC];cases ak:qh (gC s 0)with
   |false=>exact⟨false,rfl,rfl⟩
   |true=>
    rw[cN,cN];let p:Nat->J:=λi=>qh (gC s i)||Cd (gC s i);have s1:=scan (λi=>mB (s,(s.length:Int),(i:Int))) s.length p (.inl false) (.inr ())
     (λi a=>by
      rw[mB,c',ag (aX a),ES,aeU,bP]
      exact QN _ _ _ _ _ (aX a))
     (by rw[mB,cN])
    have b:=scan (λi=>pZ (s,(i:Int))) s.length p (.inl false) (.inr ())
     (λi a=>by
      rw[pZ,c',ag (aX a),PJ,aeV,bP]
      exact QN _ _ _ _ _ (aX a))
     (by rw[pZ,cN])
    have aK:mB (s,(s.length:Int),((0:Nat):Int))=mB (s,(s.length:Int),0):=rfl;have c:pZ (s,((0:Nat):Int))=pZ (s,0):=rfl;simp only[aK,c]at s1 b;rcases s1 with⟨a1,a2⟩|⟨a1,j,a2,a3⟩<;>rcases b with⟨b1,b2⟩|⟨b1,k,b2,l⟩;simp_all;grind;grind;simp_all
def nm(s:au):J:=(la s).getD false
theorem uw(s:au):la s=some (nm s):=by
 obtain⟨r,h1,_⟩:=QU s;unfold nm;rw[h1];rfl
theorem BI(s:au):uE s=some (nm s):=by
 obtain⟨r,h1,a⟩:=QU s;unfold nm;rw[h1,a];rfl
theorem Hn{s:au}(h:nm s):s≠[]:=by
 rintro rfl;unfold nm at h;rw[la]at h;simp at h
def kM(l:az)(names:I au)(i:Nat):J:=
 (1<=l.getD i 0:J)&&(l.getD i 0<=1000:J)&&((i=0:J)||(l.getD (i-1) 0<l.getD i 0:J))&&nm (names.getD i []) && !((names.take i).contains (names.getD i []))
def lY(l:I au):I au:=l.foldl jr []
theorem aeW(ks:I au)(a s:au):hr (jr ks a) s=(hr ks s||(a=s:J)):=by
 unfold jr;split;grind;simp[hr,List.any_append]
theorem OU(l:I au)(s:au):hr (lY l) s=l.contains s:=by
 have key:∀(l:I au) (ks:I au),hr (l.foldl jr ks) s=(hr ks s||l.contains s):=by
  intro l;induction l with
  |nil=>intro ks;simp
  |cons a r ih=>
   intro ks;rw[qS,ih,aeW,Bool.or_assoc];grind
 have:=key l [];simpa[lY,hr]using this
theorem OV{l:I au}{i:Nat}(h:i<l.length):jr (lY (l.take i)) (l.getD i [])=lY (l.take (i+1)):=by
 unfold lY;rw[List.take_add_one,Dj,fm h,gA h];rfl
theorem afQ(A a b C cr H N:J)(X c:ai γ)(d:cr=true)(e:a=true->b=true):
 (if(b||(!((!A)&&a))) then
  some (bif A then true else bif a then C else false)>>=λt34=>
  if(cr||(!(!t34))) then
   some (bif t34 then true else H)>>=λt42=>
   if(cr||(!(!t42))) then
    (if !t42 then some N else some false)>>=λr=>
    if(bif t42 then true else(!r)) then X else(if cr then c else none)
   else none
  else none
 else none)=if !A&&(!a || !C)&&N && !H then c else X:=by
 subst d;cases a with
 |true=>have:=e rfl;subst this;cases A<;>cases C<;>cases H<;>cases N<;>rfl
 |false=>cases A<;>cases b<;>cases C<;>cases H<;>cases N<;>rfl
theorem TY{l:az}(ak:l.length<=reachBytes)(aL:names.length=l.length):∃r,AA (l,names)=some r/\(r=true↔(∀i,i<l.length->kM l names i)/\l.length<=16):=by
 rw[AA];have m:=eS ak;have b:=scan (λi=>qE (l,names,l,(l.length:Int),(i:Int),lY (names.take i))) l.length (kM l names) (.inl false) (.inr l)
  (λi d=>by
   have a:i<names.length:=(by omega);rw[qE,c',ag (aX d)];simp only[bo];rw[uw,bP,OV a,OU];have f:0<i->dG .i64 (i:Int) 1=((i-1:Nat):Int):=by intro h;rw[lE];omega
   refine(afQ (bif (l.getD i 0<1:J)then true else (1000<l.getD i 0:J)) ((0:Int)<(i:Int):J) (aG (dG .i64 (i:Int) 1) l.length) (l.getD i 0<=l.getD (dG .i64 (i:Int) 1).toNat 0:J) (aG (i:Int) names.length) ((names.take i).contains (names.getD i [])) (nm (names.getD i [])) _ _ (aX a) (λg=>?_)).trans ?_
   . have e:0<i:=by simp at g;omega
     rw[f e];exact fP
   . have:(!(bif (l.getD i 0<1:J)then true else (1000<l.getD i 0:J))&&(!((0:Int)<(i:Int):J) || !(l.getD i 0<=l.getD (dG .i64 (i:Int) 1).toNat 0:J))&&nm (names.getD i []) && !((names.take i).contains (names.getD i [])))=kM l names i:=by
      unfold kM;grind
     rw[this])
  (by rw[qE,cN])
 have dw:qE (l,names,l,(l.length:Int),((0:Nat):Int),lY (names.take 0))=qE (l,names,l,(l.length:Int),0,[]):=rfl;simp only[dw]at b;rcases b with⟨h1,c⟩|⟨h1,j,c,k⟩;rw[h1];refine⟨((l.length:Int)<=16:J),rfl,?_⟩;grind;rw[h1];refine⟨false,rfl,?_⟩;grind
theorem Dx{k n:Nat}(a:k<=16)(h:n*24<=reachBytes:=by simp;omega):bR k n:=by
 unfold bR h4 dT;unfold reachBytes at h;simp only[dr,gP];have:(2*n+192)*k<=(2*n+192)*16:=Nat.mul_le_mul_left _ a;omega
theorem xY(l:I α)(i:Nat)(d:α)(h:i<l.length):l.take i++[l.getD i d]=l.take (i+1):=by simp_all
theorem jx{a:Type}(f:α->a)(l:I α)(i:Nat)(d:α)(e:a)(h:i<l.length):(l.map f).getD i e=f (l.getD i d):=by grind
theorem rY{l:I au}{i:Nat}{s:au}(b:i<=l.length):(l.take i).contains s↔∃k,k<i/\l.getD k []=s:=by
 rw[List.contains_iff_mem];constructor;intro h;obtain⟨k,a,he⟩:=hE h;rw[vk]at a;refine⟨k,by omega,?_⟩;grind
 . rintro ⟨k,a,he⟩
   rw[<-he,gA (by omega)];have:(l.take i)[k]'(by rw[vk];omega)=l[k]:=List.getElem_take;grind
def mc(l:az)(i:Nat):Int:=if i=0 then 0 else l.getD (i-1) 0
theorem QV{l:az}{i:Nat}(e:i<l.length)(aL:names.length=l.length):
 kM l names i=((mc l i<l.getD i 0:J)&&(1<=l.getD i 0:J)&&(l.getD i 0<=1000:J)&&nm (names.getD i []) && !((names.take i).contains (names.getD i []))):=by
 unfold kM mc;generalize l.getD i 0=x;generalize l.getD (i-1) 0=y;generalize nm (names.getD i [])=a;generalize (names.take i).contains (names.getD i [])=b;by_cases h0:i=0
 . subst h0;by_cases h1:1<=x
   . have:((0:Int)<x:J):=by simp;omega
     simp[h1,this]
   simp[h1]
 simp only[h0,cw,dz,Bool.false_or];by_cases h1:1<=x<;>by_cases c:x<=1000<;>by_cases d:y<x<;>simp[h1,c,d]
theorem OW(l:I de)(ak:l.length*24<=reachBytes):∀(k i:Nat),i+k=l.length->rK (l,l,(l.length:Int),(i:Int),(l.map (·.ah)).take i,(l.map (·.aR)).take i)=some (l,l.map (·.ah),l.map (·.aR))
 |0,i,h=>by
  have:i=l.length:=by omega
  subst this;rw[rK,cN];rw[xS (by simp),xS (by simp)]
 |k+1,i,h=>by
  have b:l.length<9223372036854775807:=by unfold reachBytes at ak;omega
  have a:i<l.length:=by omega
  rw[rK,c',ag (aX a)];simp only[a7,ay,bo];rw[<-jx (·.ah) l i ek 0 a,<-jx (·.aR) l i ek [] a,xY _ _ _ (by simpa using a),xY _ _ _ (by simpa using a)];rw[ag (Dx (by omega)),ag (Dx (by omega)),bP];exact OW l ak k (i+1) (by omega)
theorem QW{l:I de}(ak:l.length*24<=reachBytes):∃r,wS l=some r/\(r=true↔0<l.length/\(∀i,i<l.length->kM (l.map (·.ah)) (l.map (·.aR)) i)/\l.length<=16):=by
 have h:=OW l ak l.length 0 (by omega);have a:rK (l,l,(l.length:Int),0,[],[])=some (l,l.map (·.ah),l.map (·.aR)):=h;rw[wS,a];simp only[a7,ay];obtain⟨r,h1,b⟩:=TY (l:=l.map (·.ah)) (names:=l.map (·.aR)) (by simp;unfold reachBytes at*;omega) (by simp);rw[sQ]at b;grind
theorem WA(a b:Int):AY (a,b)=some ((a<b:J)&&(1<=b:J)&&(b<=1000:J)):=by
 rw[AY];grind
theorem acM(l:I de)(ak:l.length<=reachBytes)(i:Nat)(b:i<l.length):
 oN (l,(i:Int),0)=some (if((l.map (·.aR)).take i).contains ((l.map (·.aR)).getD i []) then .inl false else .inr (l,(i:Int))):=by
 have f:=eS ak;have d:=scan (λk=>oN (l,(i:Int),(k:Int))) i (λk=>!((l.getD k ek).aR=(l.getD i ek).aR:J)) (.inl false) (.inr (l,(i:Int)))
  (λk c=>by
   rw[oN,c',ag (fP),ag (aX b),bP]
   grind)
  (by rw[oN,cN])
 have dw:oN (l,(i:Int),((0:Nat):Int))=oN (l,(i:Int),0):=rfl;simp only[dw]at d;rw[jx (·.aR) l i ek [] b];rcases d with⟨h1,a⟩|⟨h1,j,a,e⟩
 . rw[h1,aq];rw[rY (by simp;omega)]
   rintro ⟨k,c,he⟩;rw[jx (·.aR) l k ek [] (by omega)]at he;have:=a k c;rw[he]at this;simp at this
 rw[h1,ag];rw[rY (by simp;omega)];refine⟨j,a,?_⟩;rw[jx (·.aR) l j ek [] (by omega)];simpa using e
theorem afR{l:I de}(ak:l.length<=reachBytes):∃r,Ap l=some r/\(r=true↔0<l.length/\(∀i,i<l.length->kM (l.map (·.ah)) (l.map (·.aR)) i)/\l.length<=16):=by
 have f:=eS ak;have b:=scan (λi=>pU (l,mc (l.map (·.ah)) i,(i:Int))) l.length (kM (l.map (·.ah)) (l.map (·.aR))) (.inl false) (.inr l)
  (λi a=>by
   rw[pU,c',ag (aX a),WA,acM l ak i a,QV (by simpa using a) (by simp)];simp only[a7,ay,bo];rw[<-jx (·.ah) l i ek 0 a,<-jx (·.aR) l i ek [] a,BI];generalize ((mc (l.map (·.ah)) i<(l.map (·.ah)).getD i 0:J)&&(1<=(l.map (·.ah)).getD i 0:J)&&((l.map (·.ah)).getD i 0<=1000:J))=q;rw[ag (by rw[aX a];rfl)];cases q with
   |false=>rfl
   |true=>
    simp only[dX,fY,cg,ay,mN];cases nm ((l.map (·.aR)).getD i [])with
    |false=>rfl
    |true=>
     simp only[dX,eC,cm,cw,mN];cases e:((l.map (·.aR)).take i).contains ((l.map (·.aR)).getD i [])with
     |true=>simp
     |false=>
      simp only[cm,cw,fY,cg];rw[ag (aX a),bP];have:mc (l.map (·.ah)) (i+1)=(l.getD i ek).ah:=by
       unfold mc;grind
      grind)
  (by rw[pU,cN])
 have dw:pU (l,mc (l.map (·.ah)) 0,((0:Nat):Int))=pU (l,0,0):=rfl;simp only[dw]at b;rw[Ap];rcases b with⟨h1,c⟩|⟨h1,j,c,d⟩;rw[h1];refine⟨_,rfl,?_⟩;grind;rw[h1];refine⟨false,rfl,?_⟩;grind
theorem ad'{l:I de}(ak:l.length*24<=reachBytes):∃r,wS l=some r/\Ap l=some r:=by
 obtain⟨r,h1,a⟩:=QW ak;obtain⟨q,b,c⟩:=afR (l:=l) (by unfold reachBytes at*;omega);grind
structure fT (t:aj):Prop where
 syms:t.bf.length*24<=reachBytes
 hP:t.af.length*24<=reachBytes
 iw:∀m,m∈t.af->cz m.bC
theorem iR{n:Nat}(h:n*24<=reachBytes):n<=reachBytes:=by unfold reachBytes at*;omega
theorem acN{a b:aT}:a=b↔a.ah=b.ah/\a.aR=b.aR/\a.aC=b.aC/\a.bV=b.bV/\a.bO=b.bO/\a.bC=b.bC:=by cases a;cases b;simp
theorem iQ(x:aT):(⟨x.ah,x.aR,x.aC,x.bV,x.bO,ab.eta x.bC⟩:aT)=x:=by cases x;simp[ab.bN]
theorem V1{a b:aT}:(bif bif bif bif (a.ah=b.ah:J)then(a.aR=b.aR:J)else false then(a.aC=b.aC:J)else false then ft a.bV b.bV else false then ft a.bO b.bO else false)=true↔a.ah=b.ah/\a.aR=b.aR/\a.aC=b.aC/\a.bV=b.bV/\a.bO=b.bO:=by
 simp only[Dl,ft];grind
theorem WL{a b:aT}{q:J}(f:q=true↔a.ah=b.ah/\a.aR=b.aR/\a.aC=b.aC/\a.bV=b.bV/\a.bO=b.bO){x:ai J}(aa:fC x a.bC b.bC):
 fC (some q>>=λt37=>(if t37 then x else some false)>>=λr=>some (bif t37 then r else false)) a b:=by
 obtain⟨d,h1,e⟩:=aa;subst h1;refine⟨q&&d,by cases q<;>cases d<;>rfl,?_⟩;rw[acN,dr,f,e];constructor;rintro ⟨⟨a1,a2,a3,a4,a5⟩,c⟩;exact⟨a1,a2,a3,a4,a5,c⟩;rintro ⟨a1,a2,a3,a4,a5,c⟩;exact⟨⟨a1,a2,a3,a4,a5⟩,c⟩
theorem aea{a:aT}(h:cz a.bC)(b:aT):fC (zL (a,b)) a b:=by
 rw[zL];simp only[ER,ab.bN];exact WL V1 (Fo h _)
theorem aeb{a:aT}(h:cz a.bC)(b:aT):fC (zp (a,b)) a b:=by
 rw[zp];simp only[ER,ab.bN];exact WL V1 (Fs h _)
theorem N4{g:γ}{a b:I aT}(ak:a.length=b.length)(ih:∀x,x∈a->∀y,fC (f (x,y)) x y)(L:Nat->ai (J ⊕ γ))
 (o:∀i,i<a.length->L i=(f (a.getD i aF,b.getD i aF)>>=λr=>if !r then some (.inl false)else L (i+1)))
 (l:L a.length=some (.inr g)):(L 0=some (.inr g)/\a=b)\/(L 0=some (.inl false)/\a≠b):=by
 have k:∀(i:Nat) (h1:i<a.length) (c:i<b.length),fC (f (a.getD i aF,b.getD i aF)) a[i] b[i]:=by grind
 have ar:∀(i:Nat) (h1:i<a.length) (c:i<b.length),(f (a.getD i aF,b.getD i aF)).getD false↔a[i]=b[i]:=by
  intro i h1 c;obtain⟨r,d,n⟩:=k i h1 c;grind
 have:=scan L a.length (λi=>(f (a.getD i aF,b.getD i aF)).getD false) (.inl false) (.inr g)
  (λi m=>by
   obtain⟨r,h1,c⟩:=k i m (by omega)
   grind) l
 rcases this with⟨h1,c⟩|⟨h1,j,c,d⟩;exact .inl ⟨h1,(A' ak ar).1 c⟩;refine .inr ⟨h1,λe=>?_⟩;have:=(A' ak ar).2 e j c;rw[d]at this;cases this
theorem acv{a b:I aT}(d:a.length<=reachBytes)(e:∀m,m∈a->cz m.bC):fC (DD (a,b)) a b:=by
 rw[DD];by_cases ak:a.length=b.length
 . rw[eF];have k:=eS d;have hs:=N4 (g:=()) ak (f:=zL) (λx aa y=>aea (e x aa) y) (λi=>pK (b,a,(a.length:Int),(i:Int)))
    (λi j=>by
     rw[pK,c',ag (aX j)];simp only[a7,ay,bo,iQ]
     rw[ag (fP),bP])
    (by rw[pK,cN])
   have dw:pK (b,a,(a.length:Int),((0:Nat):Int))=pK (b,a,(a.length:Int),0):=rfl;simp only[dw]at hs;rcases hs with⟨h1,c⟩|⟨h1,c⟩;rw[h1];exact⟨true,rfl,by simp[c]⟩;rw[h1];exact⟨false,rfl,by simp[c]⟩
 rw[c'];exact x7 ak
theorem Qa{a b:aj}:a=b↔a.ae=b.ae/\a.aR=b.aR/\a.bA=b.bA/\a.bI=b.bI/\a.Max=b.Max/\a.aS=b.aS/\a.aE=b.aE/\a.bt=b.bt/\a.bf=b.bf/\a.af=b.af:=by
 cases a;cases b;grind
theorem ahT{a b:aj}:(bif bif bif bif bif bif bif (a.ae=b.ae:J)then(a.aR=b.aR:J)else false then(a.bA=b.bA:J)else false then(a.bI=b.bI:J)else false then(a.Max=b.Max:J)else false then(a.aS=b.aS:J)else false then(a.aE=b.aE:J)else false then ft a.bt b.bt else false)=true↔
 a.ae=b.ae/\a.aR=b.aR/\a.bA=b.bA/\a.bI=b.bI/\a.Max=b.Max/\a.aS=b.aS/\a.aE=b.aE/\a.bt=b.bt:=by
 simp only[Dl,ft];by_cases h1:a.ae=b.ae<;>by_cases c:a.aR=b.aR<;>by_cases d:a.bA=b.bA<;>by_cases e:a.bI=b.bI<;>simp[h1,c,d,e];by_cases bu:a.Max=b.Max<;>by_cases f:a.aS=b.aS<;>by_cases g:a.aE=b.aE<;>simp[bu,f,g]
theorem jy{a:aj}(h:fT a)(b:aj):fC (iF (a,b)) a b:=by
 rw[iF];obtain⟨d,s1,g⟩:=ahS (a:=a.bf) (b:=b.bf) (iR h.syms);obtain⟨c,e,f⟩:=acv (a:=a.af) (b:=b.af) (iR h.hP) h.iw;have e8:=ahT (a:=a) (b:=b);generalize (bif bif bif bif bif bif bif (a.ae=b.ae:J)then (a.aR=b.aR:J)else false then (a.bA=b.bA:J)else false then (a.bI=b.bI:J)else false then (a.Max=b.Max:J)else false then (a.aS=b.aS:J)else false then (a.aE=b.aE:J)else false then ft a.bt b.bt else false)=q at e8⊢;simp only[a7,ay];rw[s1,e];refine⟨q&&d&&c,by cases q<;>cases d<;>cases c<;>rfl,?_⟩;rw[Qa,dr,dr,e8,g,f];grind
theorem FO(a:aj):(⟨a.ae,a.aR,a.bA,a.bI,a.Max,a.bf,a.af,a.aS,a.aE,a.bt⟩:aj)=a:=by cases a;rfl
theorem qi{a:aj}(h:fT a)(b:aj):fC (DM (a,b)) a b:=by
 rw[DM];simp only[FO];by_cases bu:(a.ae=b.ae/\a.aR=b.aR/\a.bA=b.bA/\a.bI=b.bI/\a.Max=b.Max/\a.aS=b.aS/\a.aE=b.aE/\a.bt=b.bt)/\a.bf.length=b.bf.length/\a.af.length=b.af.length
 . obtain⟨⟨aK,l,dB,m,iW,jU,tx,e8⟩,d,c⟩:=bu;rw[aq (by simp[aK,l,dB,m,iW,jU,tx,e8,d,c,ft])];have t:=eS (iR h.syms);have u:=eS (iR h.hP);have k:=scan (λi=>pR ((i:Int),a,b)) a.bf.length (λi=>eZ (a.bf.getD i ek).ah (b.bf.getD i ek).ah&&(jW (a.bf.getD i ek).aR (b.bf.getD i ek).aR&&true)) (.inl false) (.inr (a,b))
    (λi o=>by
     rw[pR,c',ag (aX o)];simp only[a7,ay,bo];rw[ag (fP),bP]
     grind)
    (by rw[pR,cN])
   have h0:pR (((0:Nat):Int),a,b)=pR (0,a,b):=rfl;simp only[h0]at k;have ar:∀(i:Nat) (h1:i<a.bf.length) (e:i<b.bf.length),(eZ (a.bf.getD i ek).ah (b.bf.getD i ek).ah&&(jW (a.bf.getD i ek).aR (b.bf.getD i ek).aR&&true))↔a.bf[i]=b.bf[i]:=λi h1 e=>by rw[gA h1,gA e];exact TW
   rcases k with⟨g1,g2⟩|⟨g1,j,g2,g3⟩
   . have v:=(A' d ar).1 g2;rw[g1];simp only[a7,ay];have hs:=N4 (g:=()) c (f:=zp) (λx aa y=>aeb (h.iw x aa) y) (λi=>pS ((i:Int),a,b))
      (λi n=>by
       rw[pS,c',ag (aX n)];simp only[a7,ay,bo,iQ]
       rw[ag (fP),bP])
      (by rw[pS,cN])
     have dw:pS (((0:Nat):Int),a,b)=pS (0,a,b):=rfl;simp only[dw]at hs;rcases hs with⟨bj,bq⟩|⟨bj,bq⟩;rw[bj];refine⟨true,rfl,?_⟩;rw[Qa];grind;rw[bj];refine⟨false,rfl,?_⟩;grind
   rw[g1];refine⟨false,rfl,?_⟩;grind
 . rw[ag]
   refine⟨false,rfl,?_⟩;grind;simp only[Dl,ft];by_cases p:a.ae=b.ae<;>by_cases q:a.aR=b.aR<;>by_cases r:a.bA=b.bA<;>by_cases s:a.bI=b.bI<;>simp[p,q,r,s];grind
def qH(v:ab):J:=(nB (v,aI)).getD false
theorem afS(h:cz v):nB (v,aI)=some (qH v):=by
 obtain⟨r,h1,a⟩:=Fo h aI;unfold qH;rw[h1];rfl
theorem afT(h:cz v):k8 (v,aI)=some (qH v):=by
 obtain⟨r,h1,b⟩:=Fo h aI;obtain⟨q,a,c⟩:=Fs h aI;unfold qH;rw[h1,a];grind
theorem aeX(h:cz v):Eb v=some (qH v):=by
 rw[Eb,ab.bN];have:=afS h;unfold aI at this;grind
def pB(a:J)(m:aT):J:=(a&&(m.bV||m.bO))||(m.bV&&m.bO)||(!m.bO && !qH m.bC)
theorem bp{l:I α}{i:Nat}(h:i<l.length)(d:α):l.getD i d∈l:=by grind
theorem OX(h:fT t):∃r,uo t=some r/\(r=true↔(∀i,i<t.af.length->pB (t.ae=6:J) (t.af.getD i aF)=false)/\(t.ae=5\/0<t.af.length)/\(∀i,i<t.af.length->kM (t.af.map (·.ah)) (t.af.map (·.aR)) i)/\t.af.length<=16):=by
 have g:t.af.length<9223372036854775807:=eS (iR h.hP);have b:=scan (λi=>qy (t.af,(t.af.length:Int),(i:Int),t,(t.af.map (·.ah)).take i,(t.af.map (·.aR)).take i)) t.af.length (λi=>!(pB (t.ae=6:J) (t.af.getD i aF))) (.inl false) (.inr (t,t.af.map (·.ah),t.af.map (·.aR)))
  (λi a=>by
   have f:=aeX (h.iw _ (bp a aF));rw[qy,c',ag (aX a)];simp only[a7,ay,bo,ab.bN];rw[<-jx (·.ah) t.af i aF 0 a,<-jx (·.aR) t.af i aF [] a,xY _ _ _ (by simpa using a),xY _ _ _ (by simpa using a)];have d:((t.af.map (·.ah)).take (i+1)).length*24<=reachBytes:=by
    refine hF (fG _ ?_) h.hP;simp;omega
   have e:((t.af.map (·.aR)).take (i+1)).length*24<=reachBytes:=(by grind);rw[ag (Dx (by omega) d),ag (Dx (by omega) e),bP,f];unfold pB
   grind)
  (by
   rw[qy,cN]
   rw[xS (by simp),xS (by simp)])
 have dw:qy (t.af,(t.af.length:Int),((0:Nat):Int),t,(t.af.map (·.ah)).take 0,(t.af.map (·.aR)).take 0)=qy (t.af,(t.af.length:Int),0,t,[],[]):=rfl;simp only[dw]at b;rw[uo];obtain⟨r,h1,c⟩:=TY (l:=t.af.map (·.ah)) (names:=t.af.map (·.aR)) (by simpa using iR h.hP) (by simp);rw[sQ]at c;rcases b with⟨g1,g2⟩|⟨g1,j,g2,g3⟩
 . rw[g1];simp only[a7,ay];rw[h1];refine⟨(bif (t.ae=5:J)then true else (0<((t.af.map (·.ah)).length:Int):J))&&r,?_,?_⟩
   grind;grind
 grind
theorem acO(l:I aT)(record:J)(ak:l.length<=reachBytes)(i:Nat)(e:i<l.length):
 oj (l,record,(i:Int),0,l.getD i aF)=some (if((l.map (·.aR)).take i).contains ((l.map (·.aR)).getD i []) then .inl false else .inr (l,record,(i:Int),l.getD i aF)):=by
 have f:=eS ak;have c:=scan (λk=>oj (l,record,(i:Int),(k:Int),l.getD i aF)) i (λk=>!((l.getD k aF).aR=(l.getD i aF).aR:J)) (.inl false) (.inr (l,record,(i:Int),l.getD i aF))
  (λk b=>by
   rw[oj,c',ag (fP),bP];simp only[bo,iQ]
   grind)
  (by rw[oj,cN,iQ])
 have dw:oj (l,record,(i:Int),((0:Nat):Int),l.getD i aF)=oj (l,record,(i:Int),0,l.getD i aF):=rfl;simp only[dw]at c;rw[jx (·.aR) l i aF [] e];rcases c with⟨h1,a⟩|⟨h1,j,a,d⟩
 . rw[h1,aq];rw[rY (by simp;omega)]
   rintro ⟨k,b,he⟩;rw[jx (·.aR) l k aF [] (by omega)]at he;have:=a k b;rw[he]at this;simp at this
 rw[h1,ag];rw[rY (by simp;omega)];refine⟨j,a,?_⟩;rw[jx (·.aR) l j aF [] (by omega)];simpa using d
theorem acP{l:I aT}{record:J}(ak:l.length<=reachBytes)(f:∀m,m∈l->cz m.bC):∃r,xd (l,record)=some r/\(r=true↔(∀i,i<l.length->pB (!record) (l.getD i aF)=false)/\(record=true\/0<l.length)/\(∀i,i<l.length->kM (l.map (·.ah)) (l.map (·.aR)) i)/\l.length<=16):=by
 have n:=eS ak;have b:=scan (λi=>pV (l,record,mc (l.map (·.ah)) i,(i:Int))) l.length (λi=>kM (l.map (·.ah)) (l.map (·.aR)) i && !(pB (!record) (l.getD i aF))) (.inl false) (.inr (l,record))
  (λi a=>by
   have c:=afT (f _ (bp a aF));unfold aI at c;rw[pV,c',ag (aX a)];simp only[a7,ay,bo,ab.bN,iQ,QV (l:=l.map (·.ah)) (names:=l.map (·.aR)) (i:=i) (by simpa using a) (by simp)];rw[acO l record ak i a,c];have e:mc (l.map (·.ah)) (i+1)=(l.getD i aF).ah:=by
    unfold mc;grind
   rw[<-jx (·.ah) l i aF 0 a,<-jx (·.aR) l i aF [] a,WA,BI];simp only[ay];generalize ((mc (l.map (·.ah)) i<(l.map (·.ah)).getD i 0:J)&&(1<=(l.map (·.ah)).getD i 0:J)&&((l.map (·.ah)).getD i 0<=1000:J))=q;cases q with
   |false=>simp
   |true=>
    simp only[dX,fY,cg,ay,mN];cases nm ((l.map (·.aR)).getD i [])with
    |false=>simp
    |true=>
     simp only[dX,mN,i',eC];unfold pB;cases record<;>cases (l.getD i aF).bV<;>cases (l.getD i aF).bO<;>cases qH (l.getD i aF).bC <;>
      simp only[dX,fY,Bool.or_self,Bool.and_self,Bool.or_true,pc,sR,Bool.and_false,Bool.false_and,mN,Bool.false_or,i',fe,eC,cg,cw,cm,ay] <;>
      first
       |rfl
       |(cases k:((l.map (·.aR)).take i).contains ((l.map (·.aR)).getD i [])with
        |true=>simp
        |false=>
         simp only[cm,cw,fY,cg];rw[bP,e]
         try rfl))
  (by rw[pV,cN])
 have dw:pV (l,record,mc (l.map (·.ah)) 0,((0:Nat):Int))=pV (l,record,0,0):=rfl;simp only[dw]at b;rw[xd];rcases b with⟨h1,d⟩|⟨h1,j,d,g⟩;rw[h1];refine⟨_,rfl,?_⟩;grind;rw[h1];refine⟨false,rfl,?_⟩;grind
theorem PK(h:fT t)(d:t.ae=5\/t.ae=6):∃r,uo t=some r/\xd (t.af,(t.ae=5:J))=some r:=by
 obtain⟨r,h1,a⟩:=OX h;obtain⟨q,b,c⟩:=acP (l:=t.af) (record:=(t.ae=5:J)) (iR h.hP) h.iw;have e:(!(t.ae=5:J))=(t.ae=6:J):=by grind
 grind
theorem fT.plain{k l h m kk e:Int}{n:au}{a:I aT}{o:J}(aH:S.length*24<=reachBytes)(c:a.length*24<=reachBytes)(f:∀x,x∈a->cz x.bC):fT ⟨k,n,l,h,m,S,a,kk,e,o⟩:=⟨aH,c,f⟩
theorem aku{L:Int}{d:J}(h:fT (⟨1,N,L,H,M,S,c,K,E,d⟩:aj)):∃r,ho (⟨1,N,L,H,M,S,c,K,E,d⟩:aj)=some r/\iu (⟨1,N,L,H,M,S,c,K,E,d⟩:aj)=some r/\(r=true->N=[]):=by
 obtain⟨a,a1,a2⟩:=jy (a:=(⟨0,N,L,H,M,S,c,K,E,d⟩:aj)) ⟨h.syms,h.hP,h.iw⟩ (⟨0,[],0,0,0,[],[],0,0,false⟩:aj);obtain⟨b,b1,b2⟩:=qi h (⟨1,[],0,0,0,[],[],0,0,false⟩:aj);have e:a=b:=by grind
 subst e;refine⟨a,by simp[ho,a1],by simp[iu,nr,kE,b1];try (cases a<;>rfl),λf=>?_⟩;grind
theorem akv{L:Int}{d:J}(h:fT (⟨2,N,L,H,M,S,c,K,E,d⟩:aj)):∃r,ho (⟨2,N,L,H,M,S,c,K,E,d⟩:aj)=some r/\iu (⟨2,N,L,H,M,S,c,K,E,d⟩:aj)=some r/\(r=true->N=[]):=by
 obtain⟨a,a1,a2⟩:=jy (a:=(⟨0,N,0,0,M,S,c,K,E,d⟩:aj)) ⟨h.syms,h.hP,h.iw⟩ (⟨0,[],0,0,0,[],[],0,0,false⟩:aj);obtain⟨b,b1,b2⟩:=qi h (⟨2,[],L,H,0,[],[],0,0,false⟩:aj);have e:a=b:=by grind
 subst e;refine⟨(L<=H:J)&&a,?_,?_,λf=>?_⟩;simp only[ho];grind;simp only[iu];generalize (L<=H:J)=q;simp[nr,kE,b1];grind;grind
theorem akw{L:Int}{d:J}(h:fT (⟨3,N,L,H,M,S,c,K,E,d⟩:aj)):∃r,ho (⟨3,N,L,H,M,S,c,K,E,d⟩:aj)=some r/\iu (⟨3,N,L,H,M,S,c,K,E,d⟩:aj)=some r/\(r=true->N=[]):=by
 obtain⟨a,a1,a2⟩:=jy (a:=(⟨0,N,L,H,0,S,c,K,E,d⟩:aj)) ⟨h.syms,h.hP,h.iw⟩ (⟨0,[],0,0,0,[],[],0,0,false⟩:aj);obtain⟨b,b1,b2⟩:=qi h (⟨3,[],0,0,M,[],[],0,0,false⟩:aj);have e:a=b:=by grind
 subst e;refine⟨(bif (0<=M:J)then (M<=200:J)else false)&&a,?_,?_,λf=>?_⟩;simp only[ho];grind;simp only[iu];generalize (bif (0<=M:J)then (M<=200:J)else false)=q;simp[nr,kE,b1];grind;grind
theorem akx{L:Int}{d:J}(h:fT (⟨4,N,L,H,M,S,c,K,E,d⟩:aj)):∃r,ho (⟨4,N,L,H,M,S,c,K,E,d⟩:aj)=some r/\iu (⟨4,N,L,H,M,S,c,K,E,d⟩:aj)=some r/\(r=true->N≠[]):=by
 obtain⟨a,a1,a2⟩:=jy (a:=(⟨0,[],L,H,M,[],c,K,E,false⟩:aj)) ⟨(by simp),h.hP,h.iw⟩ (⟨0,[],0,0,0,[],[],0,0,false⟩:aj);obtain⟨b,b1,b2⟩:=qi h (⟨4,N,0,0,0,S,[],0,0,d⟩:aj);have g:a=b:=by grind
 subst g;obtain⟨q,i,f⟩:=ad' (l:=S) h.syms;refine⟨nm N&&q&&a,?_,?_,λe=>?_⟩;simp only[ho];simp[a1,i,uw];grind
 . simp only[iu]
   try simp at f
   simp[nr,kE,b1,f,BI];grind
 simp only[dr]at e;exact Hn e.1.1
theorem aky{L:Int}{d:J}(h:fT (⟨5,N,L,H,M,S,c,K,E,d⟩:aj)):∃r,ho (⟨5,N,L,H,M,S,c,K,E,d⟩:aj)=some r/\iu (⟨5,N,L,H,M,S,c,K,E,d⟩:aj)=some r/\(r=true->N≠[]):=by
 obtain⟨a,a1,a2⟩:=jy (a:=(⟨0,[],L,H,M,S,[],K,E,(bif d then ((5:Int)=5:J)else false)⟩:aj)) ⟨h.syms,(by simp),(by simp)⟩ (⟨0,[],0,0,0,[],[],0,0,false⟩:aj);obtain⟨b,b1,b2⟩:=qi h (⟨5,N,0,0,0,[],c,0,0,false⟩:aj);have i:a=b:=by grind
 subst i;obtain⟨q,f,g⟩:=PK h (by simp);refine⟨nm N&&q&&a,?_,?_,λe=>?_⟩
 . simp only[ho]
   try simp at a1
   try simp at f
   simp[a1,f,uw];grind
 . simp only[iu]
   try simp at g
   simp[nr,kE,b1,g,BI];grind
 simp only[dr]at e;exact Hn e.1.1
theorem akz{L:Int}{d:I aT}{c:J}(h:fT (⟨6,N,L,H,M,S,d,K,E,c⟩:aj)):∃r,ho (⟨6,N,L,H,M,S,d,K,E,c⟩:aj)=some r/\iu (⟨6,N,L,H,M,S,d,K,E,c⟩:aj)=some r/\(r=true->N≠[]):=by
 obtain⟨a,a1,a2⟩:=jy (a:=(⟨0,[],L,H,M,S,[],K,E,(bif c then ((6:Int)=5:J)else false)⟩:aj)) ⟨h.syms,(by simp),(by simp)⟩ (⟨0,[],0,0,0,[],[],0,0,false⟩:aj);obtain⟨b,b1,b2⟩:=qi h (⟨6,N,0,0,0,[],d,0,0,c⟩:aj);have i:a=b:=by grind
 subst i;obtain⟨q,f,g⟩:=PK h (by simp);refine⟨nm N&&q&&a,?_,?_,λe=>?_⟩
 . simp only[ho]
   try simp at a1
   try simp at f
   simp[a1,f,uw];grind
 . simp only[iu]
   try simp at g
   simp[nr,kE,b1,g,BI];grind
 simp only[dr]at e;exact Hn e.1.1
theorem akA{L:Int}{d:J}(h:fT (⟨7,N,L,H,M,S,c,K,E,d⟩:aj)):∃r,ho (⟨7,N,L,H,M,S,c,K,E,d⟩:aj)=some r/\iu (⟨7,N,L,H,M,S,c,K,E,d⟩:aj)=some r/\(r=true->N=[]):=by
 obtain⟨a,a1,a2⟩:=jy (a:=(⟨0,N,L,H,0,S,c,K,0,d⟩:aj)) ⟨h.syms,h.hP,h.iw⟩ (⟨0,[],0,0,0,[],[],0,0,false⟩:aj);obtain⟨b,b1,b2⟩:=qi h (⟨7,[],0,0,M,[],[],0,E,false⟩:aj);have e:a=b:=by grind
 subst e;refine⟨(bif (0<=M:J)then (M<=50:J)else false)&&a,?_,?_,λf=>?_⟩;simp only[ho];grind;simp only[iu];generalize (bif (0<=M:J)then (M<=50:J)else false)=q;simp[nr,kE,b1];grind;grind
theorem akB{L:Int}{d:J}(h:fT (⟨8,N,L,H,M,S,c,K,E,d⟩:aj)):∃r,ho (⟨8,N,L,H,M,S,c,K,E,d⟩:aj)=some r/\iu (⟨8,N,L,H,M,S,c,K,E,d⟩:aj)=some r/\(r=true->N=[]):=by
 obtain⟨a,a1,a2⟩:=jy (a:=(⟨0,N,L,H,0,S,c,0,0,d⟩:aj)) ⟨h.syms,h.hP,h.iw⟩ (⟨0,[],0,0,0,[],[],0,0,false⟩:aj);obtain⟨b,b1,b2⟩:=qi h (⟨8,[],0,0,M,[],[],K,E,false⟩:aj);have e:a=b:=by grind
 subst e;refine⟨(bif (0<=M:J)then (M<=50:J)else false)&&a,?_,?_,λf=>?_⟩;simp only[ho];grind;simp only[iu];generalize (bif (0<=M:J)then (M<=50:J)else false)=q;simp[nr,kE,b1];grind;grind
theorem akC{L:Int}{d:J}(h:fT (⟨9,N,L,H,M,S,c,K,E,d⟩:aj)):∃r,ho (⟨9,N,L,H,M,S,c,K,E,d⟩:aj)=some r/\iu (⟨9,N,L,H,M,S,c,K,E,d⟩:aj)=some r/\(r=true->N=[]):=by
 obtain⟨a,a1,a2⟩:=jy (a:=(⟨0,N,L,H,M,S,c,K,0,d⟩:aj)) ⟨h.syms,h.hP,h.iw⟩ (⟨0,[],0,0,0,[],[],0,0,false⟩:aj);obtain⟨b,b1,b2⟩:=qi h (⟨9,[],0,0,0,[],[],0,E,false⟩:aj);have e:a=b:=by grind
 subst e;refine⟨a,by simp[ho,a1],by simp[iu,nr,kE,b1];try (cases a<;>rfl),λf=>?_⟩;grind
def k7(k:Int):J:=bif bif (k=4:J)then true else(k=5:J)then true else(k=6:J)
theorem PL(h:fT t):∃r,ho t=some r/\iu t=some r/\(r=true->1<=t.ae/\t.ae<=9/\k7 t.ae=!(t.aR=[]:J)):=by
 by_cases b:1<=t.ae/\t.ae<=9
 . obtain⟨a,N,L,H,M,S,c,K,E,d⟩:=t;simp at b;have:a=1\/a=2\/a=3\/a=4\/a=5\/a=6\/a=7\/a=8\/a=9:=(by omega);rcases this with rfl|rfl|rfl|rfl|rfl|rfl|rfl|rfl|rfl
   grind[aku,k7];grind[akv,k7];grind[akw,k7];grind[akx,k7];grind[aky,k7];grind[akz,k7];grind[akA,k7];grind[akB,k7];grind[akC,k7]
 . refine⟨false,?_,?_,λh=>by grind⟩
   have e:∀k,1<=k->k<=9->¬t.ae=k:=λk h1 f e=>b (by omega);simp_all[ho];have e:(bif (t.ae<1:J)then true else (9<t.ae:J))=true:=(by grind);rw[iu,e];rfl
def fB(t:aj):az:=t.af.map (·.aC)++(if t.ae=8 then[t.aS]else[])++(if 7<=t.ae then[t.aE]else[])
theorem xE{k n:Nat}(a:k<=16){m:Nat}(h:m*24<=reachBytes)(aL:n<=m+2):bR k n:=by
 unfold bR h4 dT;unfold reachBytes at h;simp;have:(2*n+192)*k<=(2*n+192)*16:=Nat.mul_le_mul_left _ a;omega
theorem OY(t:aj)(h:t.af.length*24<=reachBytes):∀(k i:Nat),i+k=t.af.length->uq (t.af,(t.af.length:Int),(i:Int),t,(t.af.map (·.aC)).take i)=some (t,t.af.map (·.aC))
 |0,i,a=>by grind[uq,List.take_of_length_le]
 |k+1,i,a=>by
  have b:=eS (iR h);have aD:i<t.af.length:=by omega
  rw[uq,ag (by grind),ag (aX aD)];simp only[a7,ay,bo];rw[<-jx (·.aC) _ i _ 0 aD,xY _ _ _ (by grind),bP,ag (xE (by simp) h (by grind))];exact OY t h k _ (by omega)
theorem afU(h:t.af.length*24<=reachBytes):E7 t=some (fB t):=by
 have h0:=OY t h t.af.length 0 (by simp);rw[E7];unfold fB;have a:bR 8 (t.af.map (·.aC)++[t.aS]).length:=xE (by simp) h (by simp);have b:bR 8 (t.af.map (·.aC)++[t.aS]++[t.aE]).length:=xE (m:=t.af.length) (by simp) h (by simp);grind
theorem OZ(t:aj)(h:t.af.length*24<=reachBytes):∀(k i:Nat),i+k=t.af.length->uB ((i:Int),t,(t.af.map (·.aC)).take i)=some (t,t.af.map (·.aC))
 |0,i,a=>by grind[uB,List.take_of_length_le]
 |k+1,i,a=>by
  have b:=eS (iR h);have aD:i<t.af.length:=by omega
  rw[uB,ag (by grind),ag (aX aD)];simp only[a7,ay,bo];rw[<-jx (·.aC) _ i _ 0 aD,xY _ _ _ (by grind),bP,ag (xE (by simp) h (by grind))];exact OZ t h k _ (by omega)
theorem afV(h:t.af.length*24<=reachBytes)(a:t.ae<=9):Eu t=some (fB t):=by
 have h0:=OZ t h t.af.length 0 (by simp);rw[Eu];unfold fB;have b:bR 8 (t.af.map (·.aC)++[t.aS]).length:=xE (by simp) h (by simp);have c:bR 8 (t.af.map (·.aC)++[t.aS]++[t.aE]).length:=xE (m:=t.af.length) (by simp) h (by simp);grind
theorem afW(k:Int):kE k=some (k7 k):=rfl
def zh(k:Int):J:=bif (1<=k:J)then(k<=4:J)else false
def qU(n:Nat)(u:Int):J:=bif (u<0:J)then true else((n:Int)<=u:J)
def vz(ts:I aj)(i:Nat):ai Int:=
 let t:=ts.getD i aM
 if !((ho t).getD false)then some 1 else if !(t.aR=[]:J)&&((ts.map (·.aR)).take i).contains t.aR then some 1 else if(fB t).any (qU ts.length)then some 4 else ite ((t.ae=8:J) && !(zh (ts.getD t.aS.toNat aM).ae)) (some 1) none
theorem Ld{i:Nat}{r:J}(dE:ts.getD i aM=t)(f1:ho t=some r):
 vz ts i=if !r then some 1 else if !(t.aR=[]:J)&&((ts.map (·.aR)).take i).contains t.aR then some 1 else if(fB t).any (qU ts.length) then some 4 else if((t.ae=8:J) && !(zh (ts.getD t.aS.toNat aM).ae)) then some 1 else none:=by
 grind[vz]
theorem Qb(L:Nat->ai γ)(l:az)(q:Int->J)(a b:γ)(e:∀i,i<l.length->L i=if q (l.getD i 0)then some a else L (i+1))(c:L l.length=some b):
 L 0=some (if l.any q then a else b):=by
 have:=scan L l.length (λi=>!(q (l.getD i 0))) a _ (λi d=>by grind) c;grind[List.getElem_of_mem]
theorem PM(h:t.af.length*24<=reachBytes):(fB t).length<9223372036854775807:=by
 grind[fB,reachBytes]
theorem ahU{L:Nat->ai (Int ⊕ Unit)}{n:Nat}{step:Nat->ai Int}
 (h:∀i,i<n->L i=match step i with|some e=>some (.inl e)|none=>L (i+1))(he:L n=some (.inr ()))
 (a:∀i,i<n->L' i=match step i with|some e=>some (.inl e)|none=>L' (i+1))(f:L' n=some (.inr ())):∃o,L 0=some o/\L' 0=some o/\((o= .inr ()/\∀i,i<n->step i=none)\/∃i e,i<n/\step i=some e/\o= .inl e):=by
 have key:∀k i,i+k=n->∃o,L i=some o/\L' i=some o/\((o= .inr ()/\∀m,i<=m->m<n->step m=none)\/∃m e,m<n/\step m=some e/\o= .inl e):=by
  intro k;induction k with
  |zero=>grind
  |succ k ih=>
   intro i g;rw[a i (by omega)];cases j:step i with
   |some e=>grind
   |none=>
    obtain⟨o,b,c,d⟩:=ih (i+1) (by omega);grind
 obtain⟨o,b,c,d⟩:=key n 0 (by simp);grind
theorem TZ(b:(fB t).any (qU ts.length)=false)(a:t.ae=8):aG t.aS ts.length:=by
 grind[fB,qU,aG]
theorem ahV(ts:I aj)(t:aj)(i:Nat)(d:i<ts.length)(f:ts.length<9223372036854775807):
 ot ((i:Int),0,ts,t.ae,t.aR,t.bA,t.bI,t.Max,t.bf,t.af,t.aS,t.aE,t.bt)=some (if(k7 t.ae&&((ts.map (·.aR)).take i).contains t.aR) then .inl 1 else .inr ((i:Int),ts,t.ae,t.aR,t.bA,t.bI,t.Max,t.bf,t.af,t.aS,t.aE,t.bt)):=by
 have b:=scan (λk=>ot (i,k,ts,t.ae,t.aR,t.bA,t.bI,t.Max,t.bf,t.af,t.aS,t.aE,t.bt)) i (λk=>!(bif k7 t.ae then ((ts.getD k aM).aR=t.aR:J)else false)) (.inl 1) (.inr (i,ts,t.ae,t.aR,t.bA,t.bI,t.Max,t.bf,t.af,t.aS,t.aE,t.bt))
  (λk e=>by
   rw[ot,ag (by grind),afW];simp only[a7,ay];rw[ag (by grind[aX]),bP]
   grind)
  (by simp_all[ot])
 have dw:ot ((i:Int),(0:Nat),ts,t.ae,t.aR,t.bA,t.bI,t.Max,t.bf,t.af,t.aS,t.aE,t.bt)=ot ((i:Int),0,ts,t.ae,t.aR,t.bA,t.bI,t.Max,t.bf,t.af,t.aS,t.aE,t.bt):=rfl;simp at b;rcases b with⟨h1,a⟩|⟨h1,j,a,c⟩;rw[h1,aq];rw[dr,rY (by grind)];grind
 . rw[h1,ag];rw[dr,rY (by grind)];cases aL:k7 _ with
   |false=>grind
   |true=>
    refine⟨rfl,j,a,?_⟩;grind
theorem ahW(ts:I aj)(t:aj)(i:Nat)(l:az)(ak:l.length<9223372036854775807):
 sa ((i:Int),l,0,ts,t.ae,t.aR,t.bA,t.bI,t.Max,t.bf,t.af,t.aS,t.aE,t.bt)=some (if l.any (qU ts.length) then .inl 4 else .inr ((i:Int),ts,t.ae,t.aR,t.bA,t.bI,t.Max,t.bf,t.af,t.aS,t.aE,t.bt)):=
 Qb (λj=>sa (i,l,j,ts,t.ae,t.aR,t.bA,t.bI,t.Max,t.bf,t.af,t.aS,t.aE,t.bt)) l _ _ _
  (λj a=>by
   rw[sa,ag (by grind),ag (aX a)];simp only[a7,ay];rw[ag (by grind[aX]),bP]
   rfl)
  (by grind[sa])
theorem adN{s:aY}(hs:s.bk.length<=reachBytes)(ht:∀t,t∈s.bk->fT t):∃e,p8 s=some e/\qA s=some e/\(e=0->s.bk.length<=32/\∀i,i<s.bk.length->vz s.bk i=none)/\((s.bk.length<=32/\∀i,i<s.bk.length->vz s.bk i=none)->e=0)/\e≠12:=by
 rw[p8,qA];by_cases y:32<s.bk.length;exact⟨3,by grind,by grind,λh=>(by grind),λh=>absurd h.1 (by omega),by simp⟩
 . rw[aq (by grind),aq (by grind)];have u:s.bk.length<9223372036854775807:=(by omega);have:=ahU (L:=λi=>rS (s.bk,(s.bk.length:Int),(i:Int),s.bk,lY ((s.bk.map (·.aR)).take i))) (L':=λi=>si ((i:Int),s.bk)) (n:=s.bk.length) (step:=vz s.bk)
    (λi b=>by
     have a:=ht _ (bp b aM);obtain⟨r,f1,f2,f3⟩:=PL a;rw[rS,ag (by grind),ag (aX b)];simp only[a7,ay,bo];generalize dE:s.bk.getD i aM=t at*;rw[Ld dE f1,f1];simp only[ay,OU];cases r with
     |false=>rfl
     |true=>
      by_cases f:(!(t.aR=[]:J)&&((s.bk.map (·.aR)).take i).contains t.aR)=true;grind
      . have l:¬((bif (!(t.aR=[]:J))then((s.bk.map (·.aR)).take i).contains t.aR else false)=true):=(by grind);rw[aq (show ¬((bif (!true)then true else bif (!(t.aR=[]:J))then((s.bk.map (·.aR)).take i).contains t.aR else false)=true)from l),aq f,afU a.hP];simp only[ay];have z:=PM a.hP;have m:=Qb (λj=>qz (s.bk,(s.bk.length:Int),(i:Int),fB t,((fB t).length:Int),(j:Int),s.bk,jr (lY ((s.bk.map (·.aR)).take i)) t.aR,t.ae,t.aR,t.bA,t.bI,t.Max,t.bf,t.af,t.aS,t.aE,t.bt)) (fB t) (qU s.bk.length) (.inl 4)
         (.inr (s.bk,(s.bk.length:Int),(i:Int),s.bk,jr (lY ((s.bk.map (·.aR)).take i)) t.aR,t.ae,t.aR,t.bA,t.bI,t.Max,t.bf,t.af,t.aS,t.aE,t.bt))
         (λj p=>by
          rw[qz,ag (by grind),ag (aX p),bP]
          rfl)
         (by simp_all[qz,aq])
        have dw:qz (s.bk,(s.bk.length:Int),(i:Int),fB t,((fB t).length:Int),((0:Nat):Int),s.bk,jr (lY ((s.bk.map (·.aR)).take i)) t.aR,t.ae,t.aR,t.bA,t.bI,t.Max,t.bf,t.af,t.aS,t.aE,t.bt)=qz (s.bk,(s.bk.length:Int),(i:Int),fB t,((fB t).length:Int),0,s.bk,jr _ t.aR,t.ae,t.aR,t.bA,t.bI,t.Max,t.bf,t.af,t.aS,t.aE,t.bt):=rfl;rw[<-dw,m];cases d:(fB t).any (qU s.bk.length)with
        |true=>rfl
        |false=>
         simp only[cm,cw,ay];have v:jr (lY ((s.bk.map (·.aR)).take i)) t.aR=lY ((s.bk.map (·.aR)).take (i+1)):=by
          grind[OV]
         rw[v,bP];by_cases c:t.ae=8;have q:=TZ d c;simp only[c,di,fe,mN,zh];grind
         grind)
    (by simp_all[rS,aq])
    (λi b=>by
     have a:=ht _ (bp b aM);obtain⟨r,f1,f2,f3⟩:=PL a;rw[si,ag (by grind),ag (aX b)];simp only[a7,ay,bo];generalize dE:s.bk.getD i aM=t at*;rw[Ld dE f1,f2,ahV s.bk t i b u];simp only[ay];cases r with
     |false=>rfl
     |true=>
      obtain⟨bj,bq,b4⟩:=f3 rfl;rw[aq (show ¬((!true)=true) by simp),b4];cases f:(!(t.aR=[]:J)&&((s.bk.map (·.aR)).take i).contains t.aR)with
      |true=>rfl
      |false=>
       simp only[cm,cw,FO];rw[afV a.hP bq];simp only[ay];rw[ahW s.bk t i (fB t) (PM a.hP)];cases d:(fB t).any (qU s.bk.length)with
       |true=>rfl
       |false=>
        simp only[cm,cw,ay];rw[bP];by_cases c:t.ae=8;have q:=TZ d c;rw[ag (by grind)];simp only[c,di,cg,Ak,ay,fe,mN];show(if !(zh (s.bk.getD t.aS.toNat aM).ae) then some (.inl 1)else si (((i+1:Nat):Int),s.bk))=_;grind
        grind)
    (by simp_all[si,aq])
   obtain⟨o,h1,x,g⟩:=this;have w:rS (s.bk,(s.bk.length:Int),0,s.bk,[])=some o:=h1;rcases g with⟨rfl,k⟩|⟨i,e,k,bu,rfl⟩;simp_all;grind[vz]
theorem uZ(L:Nat->ai γ)(n:Nat)(q:Nat->J)(a:Nat->γ)(c:γ)(f:∀i,i<n->L i=if q i then some (a i)else L (i+1))(d:L n=some c):
 (∃j,j<n/\q j/\(∀k,k<j->q k=false)/\L 0=some (a j))\/((∀k,k<n->q k=false)/\L 0=some c):=by
 have key:∀k i,i+k=n->(∀m,m<i->q m=false)->L 0=L i->(∃j,j<n/\q j/\(∀k,k<j->q k=false)/\L 0=some (a j))\/((∀k,k<n->q k=false)/\L 0=some c):=by
  intro k;induction k with
  |zero=> intro i e b h0; have:i = n:= by omega
          subst this;exact .inr ⟨b,by rw[h0,d]⟩
  |succ k ih=>
   intro i e b h0;rw[f i (by omega)]at h0;grind
 exact key n 0 (by omega) (λm b=>by omega) rfl
def uR(l:I aT)(id:Int)(r:Int×J):Prop:=(∃j:Nat,j<l.length/\(l.getD j aF).ah=id/\(∀k,k<j->(l.getD k aF).ah≠id)/\r=((j:Int),true))\/((∀k,k<l.length->(l.getD k aF).ah≠id)/\r=(0,false))
theorem IZ{l:I aT}{r q:Int×J}(h1:uR l id r)(a:uR l id q):r=q:=by
 rcases h1 with⟨j,a1,a2,a3,rfl⟩|⟨a1,rfl⟩<;>rcases a with⟨k,b1,b2,b,rfl⟩|⟨b1,rfl⟩;grind;grind;grind;rfl
theorem AZ(ak:t.af.length<9223372036854775807):∃r,hl (t,id)=some r/\uR t.af id r:=by
 rw[hl,IL];have h:=uZ (λi=>pL (t.af,(t.af.length:Int),(i:Int),id)) t.af.length (λi=>((t.af.getD i aF).ah=id:J)) (λi=>.inl ((i:Int),id)) (.inr id)
  (λi e=>by
   rw[pL,c',ag (aX e)];simp only[a7,ay,bo,iQ,II]
   rw[bP])
  (by rw[pL,cN])
 have dw:pL (t.af,(t.af.length:Int),((0:Nat):Int),id)=pL (t.af,(t.af.length:Int),0,id):=rfl;simp only[dw]at h;rcases h with⟨j,h1,c,d,a⟩|⟨h1,a⟩
 . rw[a];refine⟨((j:Int),true),?_,.inl ⟨j,h1,by simpa using c,λk b=>by simpa using d k b,rfl⟩⟩;have aK:mJ (j:Int) 0=(j:Int):=by unfold mJ;omega
   simp_all
 rw[a];exact⟨(0,false),rfl,.inr ⟨λk b=>by simpa using h1 k b,rfl⟩⟩
theorem DW(ak:t.af.length<9223372036854775807):∃r,g' (t,id)=some r/\uR t.af id r:=by
 rw[g'];have h:=uZ (λi=>p0 (id,(i:Int),t)) t.af.length (λi=>((t.af.getD i aF).ah=id:J)) (λi=>.inl ((i:Int),true)) (.inr ())
  (λi e=>by
   rw[p0,c',ag (aX e),bP]
   grind)
  (by rw[p0,cN])
 have dw:p0 (id,((0:Nat):Int),t)=p0 (id,0,t):=rfl;simp only[dw]at h;rcases h with⟨j,h1,c,d,a⟩|⟨h1,a⟩;rw[a];exact⟨((j:Int),true),rfl,.inl ⟨j,h1,by simpa using c,λk b=>by simpa using d k b,rfl⟩⟩;rw[a];exact⟨(0,false),rfl,.inr ⟨λk b=>by simpa using h1 k b,rfl⟩⟩
theorem nD(id:Int)(ak:t.af.length<9223372036854775807):∃r,hl (t,id)=some r/\g' (t,id)=some r/\uR t.af id r:=by
 obtain⟨r,h1,a⟩:=AZ (id:=id) ak;obtain⟨q,c,b⟩:=DW (id:=id) ak;have:=IZ a b;grind
def xF(l:I de)(id:Int)(r:Int×J):Prop:=(∃j:Nat,j<l.length/\(l.getD j ek).ah=id/\(∀k,k<j->(l.getD k ek).ah≠id)/\r=((j:Int),true))\/((∀k,k<l.length->(l.getD k ek).ah≠id)/\r=(0,false))
theorem ab9{l:I de}{r q:Int×J}(h1:xF l id r)(a:xF l id q):r=q:=by
 rcases h1 with⟨j,a1,a2,a3,rfl⟩|⟨a1,rfl⟩<;>rcases a with⟨k,b1,b2,b,rfl⟩|⟨b1,rfl⟩;grind;grind;grind;rfl
theorem rz(id:Int)(ak:t.bf.length<9223372036854775807):∃r,rX (t,id)=some r/\qx (t,id)=some r/\xF t.bf id r:=by
 rw[rX,IK,qx];have h:=uZ (λi=>oL (t.bf,(t.bf.length:Int),(i:Int),id)) t.bf.length (λi=>((t.bf.getD i ek).ah=id:J)) (λi=>.inl ((i:Int),id)) (.inr id)
  (λi f=>by
   rw[oL,c',ag (aX f)];simp only[a7,ay,bo,IG]
   rw[bP])
  (by rw[oL,cN])
 have dw:oL (t.bf,(t.bf.length:Int),((0:Nat):Int),id)=oL (t.bf,(t.bf.length:Int),0,id):=rfl;have g:=uZ (λi=>ov (id,(i:Int),t)) t.bf.length (λi=>((t.bf.getD i ek).ah=id:J)) (λi=>.inl ((i:Int),true)) (.inr ())
  (λi f=>by
   rw[ov,c',ag (aX f),bP]
   grind)
  (by rw[ov,cN])
 have m:ov (id,((0:Nat):Int),t)=ov (id,0,t):=rfl;simp only[dw]at h;simp only[m]at g;have n:∃r,(oL (t.bf,(t.bf.length:Int),0,id)>>=λo=>match o with|.inl c=>some (c.1,c.2)|.inr l=>some ((-1),l))>>=(λr=>some (mJ r.1 0,(0<=r.1:J)))=some r/\xF t.bf id r:=by
  rcases h with⟨j,h1,d,e,a⟩|⟨h1,a⟩
  . rw[a];refine⟨((j:Int),true),?_,.inl ⟨j,h1,by simpa using d,λk b=>by simpa using e k b,rfl⟩⟩;have aK:mJ (j:Int) 0=(j:Int):=by unfold mJ;omega
    simp_all
  rw[a];exact⟨(0,false),rfl,.inr ⟨λk b=>by simpa using h1 k b,rfl⟩⟩
 have dM:∃r,(ov (id,0,t)>>=λo=>match o with|.inl c=>some (c.1,c.2)|.inr l=>some (0,false))=some r/\xF t.bf id r:=by
  rcases g with⟨j,h1,d,e,a⟩|⟨h1,a⟩;rw[a];exact⟨((j:Int),true),rfl,.inl ⟨j,h1,by simpa using d,λk b=>by simpa using e k b,rfl⟩⟩;rw[a];exact⟨(0,false),rfl,.inr ⟨λk b=>by simpa using h1 k b,rfl⟩⟩
 obtain⟨r,a1,a2⟩:=n;obtain⟨q,b1,b2⟩:=dM;have:=ab9 a2 b2;grind
def fZ(n:Int):Int:=if 0<=n then 2*n else -2*n-1
theorem KJ{a b:Int}(h:fZ a=fZ b):a=b:=by
 unfold fZ at h;split at h<;>split at h<;>omega
def eE(n:Int):Prop:= -9223372036854775808<=n/\n<=9223372036854775807
theorem sw{n:Int}(h:eE n):xh n=some (fZ n):=by
 obtain⟨h1,f⟩:=h;rw[xh];unfold fZ;by_cases h0:0<=n
 . rw[ag (by simp[h0]),ag h0];obtain⟨k,rfl⟩:∃k:Nat,n=(k:Int):=⟨n.toNat,by omega⟩
   rw[ig];have:=u7 (a:=2) (b:=k) (by omega);grind
 . rw[aq (by simp[h0]),aq h0];rw[k4,lE];obtain⟨k,e⟩:∃k:Nat,0-(n+1)=(k:Int):=⟨(0-(n+1)).toNat,by omega⟩
   rw[e,ig];have c:=u7 (a:=2) (b:=k) (by omega);have d:gi .u64 2 (k:Int)=((2*k:Nat):Int):=c;rw[d];have g:=ti (a:=2*k) (b:=1) (by omega);grind
theorem aeY(a:Nat)(h:a<18446744073709551616):vF .u64 (a:Int) 0=(a:Int):=by
 have e:(BitVec.ofInt 64 (a:Int) ^^^ BitVec.ofInt 64 (0:Int)).toNat=a:=by grind
 show IntKind.u64.wrap (((BitVec.ofInt 64 (a:Int) ^^^ BitVec.ofInt 64 (0:Int)).toNat:Nat):Int)=_;rw[e];exact vE
theorem aeZ(a:Nat)(h:a<18446744073709551616):vF .u64 (a:Int) 18446744073709551615=((18446744073709551615-a:Nat):Int):=by
 have e:(BitVec.ofInt 64 (a:Int) ^^^ BitVec.ofInt 64 (18446744073709551615:Int)).toNat=18446744073709551615-a:=by
  have h1:BitVec.ofInt 64 (18446744073709551615:Int)=BitVec.allOnes 64:=by decide
  rw[h1,xU,BitVec.xor_allOnes,BitVec.toNat_not,zu,Il,pa h]
 all_goals (try omega)
 show IntKind.u64.wrap (((BitVec.ofInt 64 (a:Int) ^^^ BitVec.ofInt 64 (18446744073709551615:Int)).toNat:Nat):Int)=_;rw[e];exact vE
theorem alq{n:Int}(h:eE n):lZ .i64 n 63=if 0<=n then 0 else -1:=by
 obtain⟨h1,a⟩:=h;unfold lZ;have e:((2:Int)^min (63:Int).toNat IntKind.i64.bits)=9223372036854775808:=by decide
 grind
theorem sx{n:Int}(h:eE n):wU n=some (fZ n):=by
 rw[wU,alq h];obtain⟨h1,a⟩:=h;unfold fZ;have hs:∀m:Int,n1 .u64 m 1=IntKind.u64.wrap (m*2):=by
  intro m;unfold n1;rfl
 rw[hs];congr 1;by_cases h0:0<=n
 . rw[ag h0,ag h0];obtain⟨k,rfl⟩:∃k:Nat,n=(k:Int):=⟨n.toNat,by omega⟩
   rw[ig,vE];have:b7 .u64 0=0:=(by decide);rw[this];have:=aeY (2*k) (by omega);grind
 . rw[aq h0,aq h0];have:b7 .u64 (-1)=18446744073709551615:=(by decide);rw[this];obtain⟨k,b⟩:∃k:Nat,n+9223372036854775808=(k:Int):=⟨(n+9223372036854775808).toNat,by omega⟩
   have e:IntKind.u64.wrap (b7 .u64 n*2)=((2*k:Nat):Int):=by
    unfold b7;rw[IntKind.wrap_u64,IntKind.wrap_u64];omega
   rw[e,aeZ _ (by omega)];omega
theorem GP(a b:Int):E8 (a,b)=some (if a<b then -1 else if b<a then 1 else 0):=by
 rw[E8];simp only[EP,a7,ay,di,dX,cm,cw];grind
theorem wb(a b:Int):A1 (a,b)=some (if a<b then -1 else if b<a then 1 else 0):=by
 rw[A1];simp only[E9,a7,ay,di,dX,cm,cw];grind
theorem GQ(a b:au):D1 (a,b)=some (if Op.bytesLess a b then -1 else if(Op.bytesLess a b||(a=b:J))then 0 else 1):=by
 rw[D1];simp only[E',a7,ay,di,dX,cm,cw];grind
theorem HP(a b:Int):FJ [a,b]=some (if a≠0 then a else b):=by
 rw[FJ];have h0:sG (0,[a,b],((2:Nat):Int),((0:Nat):Int))=if a≠0 then some (.inl a)else(if b≠0 then some (.inl b)else some (.inr 0)):=by
  rw[sG,ag (by decide),ag (show aG ((0:Nat):Int) ([a,b]:az).length=true from aX (k:=0) (n:=2) (by omega))];simp only[a7,ay,bo,qQ];by_cases c:a=0
  . rw[aq (by simp[c]),aq (by simp[c])];have aK:aQ .i64 ((0:Nat):Int) 1=((1:Nat):Int):=bP;rw[aK,sG,ag (by decide),ag (show aG ((1:Nat):Int) ([a,b]:az).length=true from aX (k:=1) (n:=2) (by omega))];simp only[a7,ay,bo,vj,qQ];by_cases d:b=0
    rw[aq (by simp[d]),aq (by simp[d])];have e:aQ .i64 ((1:Nat):Int) 1=((2:Nat):Int):=bP;rw[e,sG,aq (by decide)];grind
  grind
 grind
theorem JN:∀a:au,Op.bytesLess a a=false
 |[]=>rfl
 |x::r=>by
  simp[Op.bytesLess,JN r]
theorem Ef{b:ab}(c:eE a.bF)(d:eE b.bF):∃r,ny (a,b)=some r/\qv (a,b)=some r:=by
 rw[ny,qv];by_cases e:a.ae=b.ae
 . rw[aq (show ¬((!(a.ae=b.ae:J))=true) by simp[e]),aq (show ¬((!(a.ae=b.ae:J))=true) by simp[e])];by_cases bj:a.ae=1
   rw[ag (show (a.ae=1:J) by simp[bj]),ag (show (a.ae=1:J) by simp[bj])];simp only[js];cases ft a.cp b.cp<;>cases b.cp<;>exact⟨_,rfl,rfl⟩
   . rw[aq (show ¬((a.ae=1:J)=true) by simp[bj]),aq (show ¬((a.ae=1:J)=true) by simp[bj])];by_cases bq:a.ae=2
     . rw[ag (show (a.ae=2:J) by simp[bq]),ag (show (a.ae=2:J) by simp[bq]),sx c,sx d,sw c,sw d];simp only[a7,ay,GP,js];by_cases he:a.bF=b.bF
       grind;have g:fZ a.bF≠fZ b.bF:=λh=>he (KJ h);grind
     . rw[aq (show ¬((a.ae=2:J)=true) by simp[bq]),aq (show ¬((a.ae=2:J)=true) by simp[bq])];by_cases b4:a.ae=3
       . rw[ag (show (a.ae=3:J) by simp[b4]),ag (show (a.ae=3:J) by simp[b4])];simp only[a7,ay,wb,GQ,HP,js];by_cases ak:a.bW.length=b.bW.length
         . have f:¬((!((a.bW.length:Int)=(b.bW.length:Int):J))=true):=by simp;omega
           rw[aq f,ak];have aK:¬((b.bW.length:Int)<(b.bW.length:Int)):=(by omega);simp only[aK,cw,ne_eq,not_true_eq_false];by_cases he:a.bW=b.bW;rw[he,JN];grind;grind
         grind
       . rw[aq (show ¬((a.ae=3:J)=true) by simp[b4]),aq (show ¬((a.ae=3:J)=true) by simp[b4])];by_cases cv:a.ae=4
         rw[ag (show (a.ae=4:J) by simp[cv]),ag (show (a.ae=4:J) by simp[cv])];simp only[a7,ay,wb,js];grind;simp_all
 simp_all
def M0(a b:ai J):Prop:=∃r,a=some r/\b=some r
theorem J5{b:Type}(L:Nat->ai (J ⊕ γ))(L':Nat->ai (J ⊕ b))(n:Nat)(p:Nat->J)(g:γ)(a:b)
 (h:∀i,i<n->L i=if p i then L (i+1)else some (.inl false))(he:L n=some (.inr g))
 (d:∀i,i<n->L' i=if p i then L' (i+1)else some (.inl false))(e:L' n=some (.inr a)):
 (L 0=some (.inr g)/\L' 0=some (.inr a)/\∀j,j<n->p j)\/(L 0=some (.inl false)/\L' 0=some (.inl false)/\∃j,j<n/\p j=false):=by
 rcases scan L n p (.inl false) (.inr g) h he with⟨a1,a2⟩|⟨a1,j,a2,a3⟩<;>rcases scan L' n p (.inl false) (.inr a) d e with⟨b1,b2⟩|⟨b1,k,b2,c⟩;exact .inl ⟨a1,b1,a2⟩;have:=a2 k b2;rw[c]at this;cases this;have:=b2 j a2;rw[a3]at this;cases this;exact .inr ⟨a1,b1,j,a2,a3⟩
def lQ(k:Int):Prop:=1<=k/\k<=9
theorem ab'(a:lQ v.ae):∃p,Ec v=some p/\uh v=some p/\(p=true->v.ae≠5->v.ae≠6->v.a6=[]):=by
 obtain⟨K,B,cr,S,ah,c,b,R⟩:=v;simp only at a;rw[Ec,ab.bN,uh];have:K=1\/K=2\/K=3\/K=4\/K=5\/K=6\/K=7\/K=8\/K=9:=by unfold lQ at a;omega
 have d:∀(x:Int),(x=x:J)=true:=λx=>by simp
 rcases this with rfl|rfl|rfl|rfl|rfl|rfl|rfl|rfl|rfl
 all_goals
  refine⟨_,rfl,?_,?_⟩
  . simp[Fk,ft]
    try (cases B<;>simp)
  simp[Fk,ft]
section
variable {ts:I aj}(aL:ts.length<9223372036854775807)(dE:∀t,t∈ts->fT t)(bS:∀t,t∈ts->lQ t.ae)
def Fit(ts:I aj)(x:ab):Prop:=∀t plain,M0 (kF ((⟨ts⟩:aY),t,x,plain)) (ju ((⟨ts⟩:aY),t,x,plain))
theorem PN{l:I ab}(ak:l.length<=reachBytes)(ih:∀x,x∈l->Fit ts x)(t:Int)(plain:J):
 M0 (sE ((⟨ts⟩:aY),t,l,plain)) (oH ((⟨ts⟩:aY),t,l,plain)):=by
 have g:=eS ak;let p:Nat->J:=λi=>(kF ((⟨ts⟩:aY),t,l.getD i aI,plain)).getD false;have ar:∀i,i<l.length->kF ((⟨ts⟩:aY),t,l.getD i aI,plain)=some (p i)/\ju ((⟨ts⟩:aY),t,l.getD i aI,plain)=some (p i):=by
  intro i a;obtain⟨r,h1,f⟩:=ih _ (bp a aI) t plain;grind
 have b:=uZ (λi=>r1 (l,(l.length:Int),(i:Int),ts,t,plain)) l.length (λi=>!(p i)) (λi=>.inl ((i:Int),ts,t,plain)) (.inr (ts,t,plain))
  (λi a=>by
   rw[r1,c',ag (aX a),I'];simp only[ab.bN,bo];rw[(ar i a).1,bP]
   rfl)
  (by rw[r1,cN])
 have hs:=scan (λi=>np (t,l,plain,(i:Int),ts)) l.length p (.inl false) (.inr ())
  (λi a=>by
   rw[np,c',ag (aX a)];simp only[ab.bN,bo];rw[(ar i a).2,bP]
   grind)
  (by rw[np,cN])
 have aK:r1 (l,(l.length:Int),((0:Nat):Int),ts,t,plain)=r1 (l,(l.length:Int),0,ts,t,plain):=rfl;have d:np (t,l,plain,((0:Nat):Int),ts)=np (t,l,plain,0,ts):=rfl;simp only[aK]at b;simp only[d]at hs;rw[sE,DE,IM,oH];rcases b with⟨j,a1,a2,a3,a4⟩|⟨a1,a4⟩<;>rcases hs with⟨b1,b2⟩|⟨b1,k,b2,c⟩;have:=b2 j a1;simp[this]at a2;rw[a4,b1];refine⟨false,?_,rfl⟩;have e:((0:Int)<=(j:Int):J):=(by simp);simp only[a7,ay,e,dX];rw[a4,b1];exact⟨true,rfl,rfl⟩;have:=a1 k b2;simp[c]at this
def H6(t:aj)(l:I ct)(i:Nat):J:=
 !((hl (t,(l.getD i cq).ah)).getD (0,false)).2&&((1<=(l.getD i cq).ah:J)&&((l.getD i cq).ah<=1000:J))&&((i=0:J)||((l.getD (i-1) cq).ah<(l.getD i cq).ah:J))
theorem ae0(hv f b:J)(a:Int)(e C:Int->J)(X g:ai γ)(i:b=true->e a):
 ((if !hv then some f else some false)>>=λj=>some (bif hv then true else(!j))>>=λt131=>some b>>=λt134=>some a>>=λt141=>
  if(e t141||(!((!t131)&&t134))) then if(bif t131 then true else bif t134 then C t141 else false) then X else g else none)=if !hv&&f&&(!b || !(C a)) then g else X:=by
 simp only[a7,ay];generalize C a=c;cases b with
 |true=>rw[i rfl];cases hv<;>cases f<;>cases c<;>rfl
 |false=>generalize e a=d;cases hv<;>cases f<;>cases d<;>cases c<;>rfl
theorem N5(b g e:J)(a:Int)(f C:Int->J)(X i:ai γ)(j:g=true)(k:e=true->f a):
 (some b>>=λl=>some (!l)>>=λt31=>some e>>=λt34=>
  if(g||(!((!t31)&&t34))) then some a>>=λt43=>if(f t43||(!((!t31)&&t34))) then if(bif t31 then true else bif t34 then C t43 else false) then X else i else none else none)=if(b&&(!e || !(C a))) then i else X:=by
 subst j;simp only[a7,ay];generalize C a=c;cases e with
 |true=>rw[k rfl];cases b<;>cases c<;>rfl
 |false=>generalize f a=d;cases b<;>cases d<;>cases c<;>rfl
theorem sH{i:Nat}(h:0<i)(a:i<9223372036854775807):dG .i64 (i:Int) 1=((i-1:Nat):Int):=by
 rw[lE];omega
theorem alg(ht:t.af.length<9223372036854775807)(v:ab)(ak:v.a6.length<=reachBytes)(plain:J)(ts:I aj):
 let inr:=(plain,ts,v.ae,v.cp,v.bF,v.bW,v.ah,v.a',v.aw,v.a6,t.ae,t.aR,t.bA,t.bI,t.Max,t.bf,t.af,t.aS,t.aE,t.bt)
 ((lL (plain,v.a6,(v.a6.length:Int),0,ts,v,t.ae,t.aR,t.bA,t.bI,t.Max,t.bf,t.af,t.aS,t.aE,t.bt)=some (.inr inr)/\ui (t,v.a6)=some true)\/
  (lL (plain,v.a6,(v.a6.length:Int),0,ts,v,t.ae,t.aR,t.bA,t.bI,t.Max,t.bf,t.af,t.aS,t.aE,t.bt)=some (.inl false)/\ui (t,v.a6)=some false)):=by
 intro inr;have g:=eS ak;have d:∀i,i<v.a6.length->∀r,hl (t,(v.a6.getD i cq).ah)=some r->H6 t v.a6 i=(!r.2&&(bif (1<=(v.a6.getD i cq).ah:J)then ((v.a6.getD i cq).ah<=1000:J)else false)&&(!((0:Int)<(i:Int):J) || !((v.a6.getD i cq).ah<=(v.a6.getD (dG .i64 (i:Int) 1).toNat cq).ah:J))):=by
  intro i a r f;unfold H6;rw[f,qR];generalize (v.a6.getD i cq).ah=x;by_cases h0:i=0;grind
  . have c:((0:Int)<(i:Int):J):=by simp;omega
    rw[c,sH (by omega) (by omega),bo];grind
 have h:=J5 (λi=>lL (plain,v.a6,(v.a6.length:Int),(i:Int),ts,v,t.ae,t.aR,t.bA,t.bI,t.Max,t.bf,t.af,t.aS,t.aE,t.bt)) (λi=>mh (v.a6,(i:Int),t)) v.a6.length (H6 t v.a6) inr ()
  (λi a=>by
   obtain⟨r,h1,_,_⟩:=nD (t:=t) (v.a6.getD i cq).ah ht;rw[lL,c',ag (aX a),d i a r h1];simp only[bo,FO,ab.bN,AB,a7,ay];rw[h1,bP]
   exact ae0 r.2 (bif (1<=(v.a6.getD i cq).ah:J)then ((v.a6.getD i cq).ah<=1000:J)else false) ((0:Int)<(i:Int):J) (dG .i64 (i:Int) 1) (λj=>aG j v.a6.length) (λj=>((v.a6.getD i cq).ah<=(v.a6.getD j.toNat cq).ah:J)) _ _ (λc=>by
    have:0<i:=by simp at c;omega
    show aG _ _=true
    rw[sH this (by omega)];exact fP))
  (by rw[lL,cN])
  (λi a=>by
   obtain⟨r,h1,b,_⟩:=nD (t:=t) (v.a6.getD i cq).ah ht;rw[mh,c',ag (aX a),d i a r h1];simp only[bo];rw[b,bP];have hid:jP ((v.a6.getD i cq).ah,r.2)=some ((!r.2)&&(bif (1<=(v.a6.getD i cq).ah:J)then ((v.a6.getD i cq).ah<=1000:J)else false)):=by
    rw[jP];grind
   show(if aG (i:Int) v.a6.length then jP ((v.a6.getD i cq).ah,r.2)>>=_ else none)=_;rw[ag (aX a),hid]
   exact N5 ((!r.2)&&(bif (1<=(v.a6.getD i cq).ah:J)then ((v.a6.getD i cq).ah<=1000:J)else false)) (aG (i:Int) v.a6.length) ((0:Int)<(i:Int):J) (dG .i64 (i:Int) 1) (λj=>aG j v.a6.length) (λj=>((v.a6.getD i cq).ah<=(v.a6.getD j.toNat cq).ah:J)) _ _ (aX a) (λc=>by
    have:0<i:=by simp at c;omega
    show aG _ _=true
    rw[sH this (by omega)];exact fP))
  (by rw[mh,cN])
 have aK:lL (plain,v.a6,(v.a6.length:Int),((0:Nat):Int),ts,v,t.ae,t.aR,t.bA,t.bI,t.Max,t.bf,t.af,t.aS,t.aE,t.bt)=lL (plain,v.a6,(v.a6.length:Int),0,ts,v,t.ae,t.aR,t.bA,t.bI,t.Max,t.bf,t.af,t.aS,t.aE,t.bt):=rfl;have e:mh (v.a6,((0:Nat):Int),t)=mh (v.a6,0,t):=rfl;simp only[aK,e]at h;rw[ui];rcases h with⟨h1,b,_⟩|⟨h1,b,_⟩;exact .inl ⟨h1,by rw[b];rfl⟩;exact .inr ⟨h1,by rw[b];rfl⟩
end
theorem adO(ak:v.aw.length=t.af.length)(c:t.af.length<9223372036854775807)(ih:∀x,x∈v.aw->Fit ts x)(plain:J):
 (qF (plain,t.af,(t.af.length:Int),0,ts,v.ae,v.cp,v.bF,v.bW,v.ah,v.a',v.aw,v.a6)=some (.inr ())/\lI (plain,0,ts,v,t.ae,t.aR,t.bA,t.bI,t.Max,t.bf,t.af,t.aS,t.aE,t.bt)=some (.inr ()))\/
 (qF (plain,t.af,(t.af.length:Int),0,ts,v.ae,v.cp,v.bF,v.bW,v.ah,v.a',v.aw,v.a6)=some (.inl false)/\lI (plain,0,ts,v,t.ae,t.aR,t.bA,t.bI,t.Max,t.bf,t.af,t.aS,t.aE,t.bt)=some (.inl false)):=by
 let p:Nat->J:=λi=>(kF (⟨ts⟩,(t.af.getD i aF).aC,v.aw.getD i aI,plain)).getD false;have ar:∀i,i<t.af.length->kF (⟨ts⟩,(t.af.getD i aF).aC,v.aw.getD i aI,plain)=some (p i)/\ju (⟨ts⟩,(t.af.getD i aF).aC,v.aw.getD i aI,plain)=some (p i):=by
  intro i a;obtain⟨r,h1,b⟩:=ih _ (bp (by omega:i<v.aw.length) aI) (t.af.getD i aF).aC plain;grind
 have h:=J5 (λi=>qF (plain,t.af,t.af.length,i,ts,v.ae,v.cp,v.bF,v.bW,v.ah,v.a',v.aw,v.a6)) (λi=>lI (plain,i,ts,v,t.ae,t.aR,t.bA,t.bI,t.Max,t.bf,t.af,t.aS,t.aE,t.bt)) _ p () ()
  (λi a=>by
   rw[qF,ag (aX a),ag (fP)]
   grind[bo,ab.bN,lC])
  (by simp_all[qF])
  (λi a=>by
   rw[lI,ag (aX a),ag (fP)]
   grind[bo,ab.bN,lC])
  (by simp_all[lI,aq])
 grind
theorem Ft(h:cz v):eE v.bF:=by cases h with|mk _ _ _ _ _ _ _ _ dF a=>exact a
theorem aec{ts:I aj}{t:aj}(j:v.a'.length<9223372036854775807)(d:∀x,x∈v.a'->cz x)(plain:J):
 let inr:=(plain,ts,v,t.ae,t.aR,t.bA,t.bI,t.Max,t.bf,t.af,t.aS,t.aE,t.bt)
 (mD (plain,1,ts,v,t.ae,t.aR,t.bA,t.bI,t.Max,t.bf,t.af,t.aS,t.aE,t.bt)=some (.inr inr)/\kb (1,v)=some (.inr ()))\/
 (mD (plain,1,ts,v,t.ae,t.aR,t.bA,t.bI,t.Max,t.bf,t.af,t.aS,t.aE,t.bt)=some (.inl false)/\kb (1,v)=some (.inl false)):=by
 intro inr;by_cases h0:v.a'.length=0
 . left;refine⟨?_,?_⟩
   rw[mD,aq (by grind),ab.bN];simp_all[kb,aq]
 let c:=λi=>(ny (v.a'.getD i aI,v.a'.getD (i+1) aI)).getD 0;have g:∀i,i+1<v.a'.length->ny (v.a'.getD i aI,v.a'.getD (i+1) aI)=some (c i)/\qv (v.a'.getD i aI,v.a'.getD (i+1) aI)=some (c i):=by
  intro i a;obtain⟨r,h1,f⟩:=Ef (Ft (d _ (bp (by omega:i<v.a'.length) aI))) (Ft (d _ (bp a aI)));grind
 have h:=J5 (λi=>mD (plain,((i+1:Nat):Int),ts,v,t.ae,t.aR,t.bA,t.bI,t.Max,t.bf,t.af,t.aS,t.aE,t.bt)) (λi=>kb ((i+1:Nat),v)) (v.a'.length-1) (λi=>!(0<=c i:J)) inr ()
  (λi a=>by
   have hs:=sH (i:=i+1) (by simp) (by omega);have b:dG .i64 ((i+1:Nat):Int) 1=(i:Int):=(by grind);rw[mD];simp only[a7,ay];rw[b,ag (fP),ag (fP)];simp only[bo,ab.bN]
   grind[lC])
  (by
   have e:v.a'.length-1+1=v.a'.length:=by omega
   rw[e,mD,cN,ab.bN])
  (λi a=>by
   have hs:=sH (i:=i+1) (by simp) (by omega);have b:dG .i64 ((i+1:Nat):Int) 1=(i:Int):=(by grind);rw[kb];simp only[a7,ay];rw[b,ag (fP),ag (fP)];simp only[bo,ab.bN]
   grind[lC])
  (by
   have e:v.a'.length-1+1=v.a'.length:=by omega
   simp_all[kb,aq])
 grind
theorem O0{c:Type}{a:I α}{b:I c}(h:((a.length:Int)=(b.length:Int):J)):a.length=b.length:=by grind
theorem V7{r:Int×J}(d:o=some r)(a plain f:J):
 (o>>=λb=>some (bif a then(!plain)else false)>>=λt85=>(if((!b.2)&&t85) then some f else some false)>>=λc=>some (bif b.2 then true else bif t85 then c else false))=some (r.2||(a && !plain&&f)):=by
 grind
theorem He{r:Int×J}(d:o=some r)(b plain f:J)(F:J->ai J)(bJ:F false=some f):
 (o>>=λa=>some (bif b then(!plain)else false)>>=λt85=>(if((!a.2)&&t85) then F a.2 else some false)>>=λc=>some (bif a.2 then true else bif t85 then c else false))=some (r.2||(b && !plain&&f)):=by
 grind
theorem fc{o:ai J}{r:J}(b:o=some r)(q:J):(some q>>=λt244=>(if t244 then o else some false)>>=λa=>some (bif t244 then a else false))=some (q&&r):=by grind
theorem Hf(c a b f:J){X:ai J}(e:c=true->X=some f)(h1:c=true->a=true/\b=true):(some c>>=λt188=>if(a||(!t188))then if(b||(!t188))then(if t188 then X else some false)>>=λd=>some (bif t188 then d else false)else none else none)=some (c&&f):=by grind
theorem akJ(A b q m:J){a:ai J}(e:a=some q)(d:A=true->L=some (if m then .inr ()else .inl false)):
 (if(bif (bif false then true else(!true))then true else b) then some false else some (!A)>>=λt107=>(if !t107 then a else some false)>>=λc=>if(bif t107 then true else(!c)) then some false else L>>=λo=>match o with|.inl x=>some x|.inr _=>some true)=some (A && !b&&q&&m):=by
 grind
theorem Hg(g f c1 c2 cr E:J)(h1:c2=true->cr=true):(some g>>=λt209=>(if t209 then some f else some false)>>=λa=>some (bif bif bif t209 then a else false then c1 else false then c2 else false)>>=λt226=>if(cr||(!t226))then some (bif t226 then E else false)else none)=some (g&&f&&c1&&c2&&E):=by grind
theorem V8(c:J){ok a:ai J}{k i:J}(e:ok=some k)(d:a=some i){q:J}(b:L=some (if q then .inr ()else .inl false)):
 (some c>>=λt239=>(if !t239 then ok else some false)>>=λj=>some (bif t239 then true else(!j))>>=λt249=>(if !t249 then a else some false)>>=λl=>if(bif t249 then true else(!l)) then some false else L>>=λf=>match f with|.inl g=>some g|.inr _=>some true)=some (!c&&k&&q&&i):=by
 subst e;subst d;subst b;cases c<;>cases k<;>cases q<;>cases i<;>rfl
theorem aed(aL:ts.length<9223372036854775807)(dE:∀t,t∈ts->fT t)(bS:∀t,t∈ts->lQ t.ae)(ay:cz v):Fit ts v:=by
 induction ay with
 |mk v hs h1 T U an aO aQ dF aT aU aV az Q=>
  intro t plain;rw[kF,ju];by_cases F:(bif (t<0:J)then true else (((⟨ts⟩:aY).bk.length:Int)<=t:J))=true;rw[ag F,ag F];exact⟨false,rfl,rfl⟩
  . rw[aq F,aq F];have aP:0<=t/\t<ts.length:=(by grind);obtain⟨j,rfl⟩:∃j:Nat,t=(j:Int):=⟨t.toNat,by omega⟩
    have C:j<ts.length:=(by omega);rw[ag (aX C),ag (aX C)];simp only[bo,ab.bN];have P:=dE _ (bp C aM);have G:=bS _ (bp C aM);generalize ts.getD j aM=x at P G⊢;have D:=eS (iR P.hP);have Y:=eS (iR P.syms);by_cases y:v.ae=x.ae
    . obtain⟨p,aA,aB,aD⟩:=ab' (v:=v) (by rw[y];exact G);rw[aA,aB];cases p with
      |false=>exact⟨false,by simp[y],by simp[y]⟩
      |true=>
       have O:=PN (ts:=ts) T Q;have ao:=PN (ts:=ts) h1 az;obtain⟨K,N,L,H,M,S,d,l,E,e⟩:=x;obtain⟨u,B,cr,n,ah,g,c,R⟩:=v;simp only at y;subst y;have w:=aD rfl;simp only at w G D Y h1 T U;have am:u=1\/u=2\/u=3\/u=4\/u=5\/u=6\/u=7\/u=8\/u=9:=by unfold lQ at G;omega
       rcases am with rfl|rfl|rfl|rfl|rfl|rfl|rfl|rfl|rfl;obtain rfl:R=[]:=w (by decide) (by decide);cases plain<;>exact⟨true,rfl,rfl⟩;obtain rfl:R=[]:=w (by decide) (by decide);cases plain<;>exact⟨_,rfl,rfl⟩;obtain rfl:R=[]:=w (by decide) (by decide);cases plain<;>exact⟨_,rfl,rfl⟩
       . obtain rfl:R=[]:=w (by decide) (by decide);obtain⟨r,o,s,_⟩:=rz (t:=⟨4,N,L,H,M,S,d,l,E,e⟩) ah Y;have A:jP (ah,false)=some (bif (1<=ah:J)then (ah<=1000:J)else false):=(by rfl);cases plain
         exact⟨_,V7 o e false _,He s e false _ (λb=>jP (ah,b)) A⟩;exact⟨_,V7 o e true _,He s e true _ (λb=>jP (ah,b)) A⟩
       ·
        have aR:=alg (t:=⟨5,N,L,H,M,S,d,l,E,e⟩) D ⟨5,B,cr,n,ah,g,c,R⟩ U plain ts;have aw:((c.length:Int)=(d.length:Int):J)->_:=λz=>adO (ts:=ts) (t:=⟨5,N,L,H,M,S,d,l,E,e⟩) (v:=⟨5,B,cr,n,ah,g,c,R⟩) (O0 z) D Q plain;have ax:∃q:J,lL (plain,R,(R.length:Int),0,ts,⟨5,B,cr,n,ah,g,c,R⟩,5,N,L,H,M,S,d,l,E,e)=some (if q then .inr (plain,ts,5,B,cr,n,ah,g,c,R,5,N,L,H,M,S,d,l,E,e)else .inl false)/\ui (⟨5,N,L,H,M,S,d,l,E,e⟩,R)=some q:=(by grind);obtain⟨q,aW,aE⟩:=ax;have au:∃m:J,((c.length:Int)=(d.length:Int):J)->(qF (plain,d,(d.length:Int),0,ts,5,B,cr,n,ah,g,c,R)=some (if m then .inr ()else .inl false)/\lI (plain,0,ts,⟨5,B,cr,n,ah,g,c,R⟩,5,N,L,H,M,S,d,l,E,e)=some (if m then .inr ()else .inl false)):=by
         cases z:((c.length:Int)=(d.length:Int):J)with
         |false=>exact⟨true,λh=>by cases h⟩
         |true=>
          rcases aw z with⟨a,b⟩|⟨a,b⟩;simp_all;simp_all
        obtain⟨m,ar⟩:=au;refine⟨((c.length:Int)=(d.length:Int):J) && !(bif plain then (0<(R.length:Int):J)else false)&&q&&m,?_,?_⟩;show(if(bif (!((c.length:Int)=(d.length:Int):J))then true else bif plain then (0<(R.length:Int):J)else false) then some false else lL (plain,R,(R.length:Int),0,ts,⟨5,B,cr,n,ah,g,c,R⟩,5,N,L,H,M,S,d,l,E,e)>>=_)=_;grind;exact akJ ((c.length:Int)=(d.length:Int):J) (bif plain then (0<(R.length:Int):J)else false) q m aE (λz=>(ar z).2)
       ·
        obtain⟨r,o,s,A⟩:=nD (t:=⟨6,N,L,H,M,S,d,l,E,e⟩) ah D;have hid:∀b,b=false->jP (ah,b)=some (bif (1<=ah:J)then (ah<=1000:J)else false):=by
         intro b al;subst al;rfl
        have ak:∃f:J,(bif ((c.length:Int)=1:J)then ((R.length:Int)=0:J)else false)=true->(kF ((⟨ts⟩:aY),(d.getD r.1.toNat aF).aC,c.getD (0:Int).toNat aI,plain)=some f/\ju ((⟨ts⟩:aY),(d.getD r.1.toNat aF).aC,c.getD (0:Int).toNat aI,plain)=some f):=by
         by_cases af:c.length=1;obtain⟨f,f1,f2⟩:=Q (c.getD 0 aI) (bp (by omega:0<c.length) aI) (d.getD r.1.toNat aF).aC plain;grind;grind
        obtain⟨f,W⟩:=ak;have X:r.2->(bif ((c.length:Int)=1:J)then ((R.length:Int)=0:J)else false)=true->aG r.1 d.length/\aG 0 c.length:=by
         intro ai aN;constructor
         . rcases A with⟨k,bj,_,_,rfl⟩|⟨_,rfl⟩
           exact aX bj;cases ai
         . by_cases af:c.length=1
           exact aX (k:=0) (by omega);grind
        have V:((R.length:Int)=1:J)->aG 0 R.length:=by
         intro h;have:=hx h;exact aX (k:=0) (by omega)
        obtain⟨ad,sU⟩:=r;refine⟨if sU then(bif ((c.length:Int)=1:J)then ((R.length:Int)=0:J)else false)&&f else(bif e then(!plain)else false)&&(bif (1<=ah:J)then (ah<=1000:J)else false)&&((c.length:Int)=0:J)&&((R.length:Int)=1:J)&&((R.getD (0:Int).toNat cq).ah=ah:J),?_,?_⟩
        . show(hl (⟨6,N,L,H,M,S,d,l,E,e⟩,ah)>>=_)=_;rw[o];cases sU with
          |true=>exact Hf _ (aG ad d.length) (aG 0 c.length) f (λh=>(W h).1) (X rfl)
          |false=>exact Hg (bif e then(!plain)else false) (bif (1<=ah:J)then (ah<=1000:J)else false) ((c.length:Int)=0:J) ((R.length:Int)=1:J) (aG 0 R.length) ((R.getD (0:Int).toNat cq).ah=ah:J) V
        . show(if(bif (bif false then true else(!true))then true else(bif plain then (0<(R.length:Int):J)else false)) then some false else g' (⟨6,N,L,H,M,S,d,l,E,e⟩,ah)>>=_)=_;rw[s];cases aK:(bif plain then (0<(R.length:Int):J)else false)with
          |true=>
           have av:plain=true:=(by grind);subst av;have aJ:((R.length:Int)=0:J)=false:=(by grind);grind
          |false=>
           cases sU with
           |true=>exact Hf _ (aG ad d.length) (aG 0 c.length) f (λh=>(W h).2) (X rfl)
           |false=>exact Hg (bif e then(!plain)else false) (bif (1<=ah:J)then (ah<=1000:J)else false) ((c.length:Int)=0:J) ((R.length:Int)=1:J) (aG 0 R.length) ((R.getD (0:Int).toNat cq).ah=ah:J) V
       . obtain rfl:R=[]:=w (by decide) (by decide);obtain⟨r,o,s⟩:=O E plain;cases plain
         exact⟨_,fc o _,fc s _⟩;exact⟨_,fc o _,fc s _⟩
       . obtain rfl:R=[]:=w (by decide) (by decide);obtain⟨k,bj,bq⟩:=ao l plain;obtain⟨i,aS,Z⟩:=O E plain;have ap:=aec (ts:=ts) (t:=⟨8,N,L,H,M,S,d,l,E,e⟩) (v:=⟨8,B,cr,n,ah,g,c,[]⟩) (eS h1) an plain;obtain⟨q,aZ,aa⟩:∃q:J,mD (plain,1,ts,⟨8,B,cr,n,ah,g,c,[]⟩,8,N,L,H,M,S,d,l,E,e)=some (if q then .inr (plain,ts,⟨8,B,cr,n,ah,g,c,[]⟩,8,N,L,H,M,S,d,l,E,e)else .inl false)/\kb (1,⟨8,B,cr,n,ah,g,c,[]⟩)=some (if q then .inr ()else .inl false):=by
          rcases ap with⟨a,b⟩|⟨a,b⟩;simp_all;simp_all
         refine⟨!(bif (M<(g.length:Int):J)then true else(!((c.length:Int)=(g.length:Int):J)))&&k&&q&&i,?_,?_⟩;show(some (bif (M<(g.length:Int):J)then true else(!((c.length:Int)=(g.length:Int):J)))>>=λt270=>(if !t270 then sE ((⟨ts⟩:aY),l,g,plain)else some false)>>=λaH=>if(bif t270 then true else(!aH)) then some false else mD (plain,1,ts,⟨8,B,cr,n,ah,g,c,[]⟩,8,N,L,H,M,S,d,l,E,e)>>=_)=_;grind
         . cases plain
           exact V8 (bif (M<(g.length:Int):J)then true else(!((c.length:Int)=(g.length:Int):J))) bq Z aa;exact V8 (bif (M<(g.length:Int):J)then true else(!((c.length:Int)=(g.length:Int):J))) bq Z aa
       . obtain rfl:R=[]:=w (by decide) (by decide);obtain⟨r,o,s⟩:=O E plain;cases plain
         exact⟨_,fc o _,fc s _⟩;exact⟨_,fc o _,fc s _⟩
    exact⟨false,by simp[y],by simp[y]⟩
theorem AU{U:c0}{t:aO}{l:I (t.den U.D)}(h:WF U ⟨.slice t,l⟩):l.length<=reachBytes/\l.length*t.bytes U<=reachBytes/\∀x,x∈l->∀c,c∈t.row U x->WF U c:=by cases h with|slice t l h1 a b=>exact⟨h1,a,b⟩
theorem adP(s:aY):(⟨s.bk⟩:aY)=s:=by cases s;rfl
def eD(n:Nat):au:=if n=0 then[]else eD (n/256)++[UInt8.ofNat (n%256)]
termination_by n
decreasing_by omega
theorem Qc:∀(l:I α) (k:Nat) (x:α),k<l.length->(l.set k x).drop k=x::l.drop (k+1)
 |[],k,x,h=>by simp at h
 |a::l,0,x,h=>by simp
 |a::l,k+1,x,h=>by simp[Qc l k x (by simpa using h)]
theorem als(n:Nat):lZ .u64 (n:Int) 8=((n/256:Nat):Int):=by
 unfold lZ;have:((2:Int)^min (8:Int).toNat IntKind.u64.bits)=256:=by decide
 grind
theorem T0:∀(i n:Nat) (b:az),n<256^i->i<=8->b.length=8->∃(c:Nat) (a:az),tP ((n:Int),(i:Int),b)=some ((c:Int),a)/\c<=8/\a.length=8/\strOf (a.drop c)=eD n++strOf (b.drop i)
 |i,n,b,aL,d,e=>by
  rw[tP];by_cases h0:n=0;subst h0;rw[cN];refine⟨i,b,rfl,d,e,?_⟩;rw[eD,ag rfl];rfl
  . rw[c']
    match i,aL,d with
    |0,aL,d=>simp at aL;omega
    |i+1,aL,d=>
     have hs:dG .i64 ((i+1:Nat):Int) 1=(i:Int):=by rw[lE];omega
     simp only[a7,ay];rw[hs,ag (fP),ag (by simp[e];omega),als,yq,bo];have aD:n/256<256^i:=(by omega);obtain⟨c,a,h1,f,g,j⟩:=T0 i (n/256) (b.set i ((n%256:Nat):Int)) aD (by omega) (by simp[e]);refine⟨c,a,h1,f,g,?_⟩;rw[j,Qc _ _ _ (by omega),acL]
     conv=>rhs;rw[eD,aq h0]
     grind
theorem FK{n:Nat}(aL:n<18446744073709551616):AD (n:Int)=some (eD n):=by
 have e:(256:Nat)^8=18446744073709551616:=by decide
 obtain⟨c,d,h1,k,a,g⟩:=T0 8 n [0,0,0,0,0,0,0,0] (by rw[e];exact aL) (by omega) rfl;have f:tP ((n:Int),8,[0,0,0,0,0,0,0,0])=some ((c:Int),d):=h1;rw[AD,f];simp only[a7,ay,bo];have j:fI (c:Int) 8 8:=oZ (b:=8) (by omega) (by omega);have i:(8:Int).toNat=8:=rfl;rw[ag j,i,ag (by simp[yk,a];omega)];rw[xS (by simp[a]),g];simp[strOf]
theorem x8:∀(f n:Nat),n<256^f->(eD n).length<=f
 |0,n,h=>by
  have:n=0:=by simpa using h
  subst this;rw[eD,ag rfl];simp
 |f+1,n,h=>by
  rw[eD];split;simp;have:=x8 f (n/256) (by omega);simp;omega
theorem PO:∀(f n:Nat) (a:au),n<256^f->n<18446744073709551616->a.length+f<=1000->xi ((n:Int),a)=some (eD n++a)
 |f,n,a,aL,j,c=>by
  rw[xi];by_cases h0:n=0;subst h0;rw[cN,eD,ag rfl];rfl
  . rw[c']
    match f,aL,c with
    |0,aL,c=>simp at aL;omega
    |f+1,aL,c=>
     have i:cn (n:Int) 256=((n%256:Nat):Int):=yb (b:=256);have g:fR .u64 (n:Int) 256=((n/256:Nat):Int):=by
      unfold fR;have e:(n:Int).tdiv 256=((n/256:Nat):Int):=by rw[Hr (by omega)];omega
      rw[e];exact vE
     have d:strOf [((n%256%256:Nat):Int)]=[UInt8.ofNat (n%256)]:=by
      have:n%256%256=n%256:=(by omega);rw[this];rfl
     simp only[a7,ay];rw[i,g,yq,d,ag (ha (by simp;omega))];have aD:n/256<256^f:=(by omega);rw[PO f (n/256) _ aD (by omega) (by simp;omega)]
     conv=>rhs;rw[eD,aq h0]
     grind
theorem PQ{n:Nat}(aL:n<18446744073709551616):Ah (n:Int)=some (eD n):=by
 have e:(256:Nat)^8=18446744073709551616:=by decide
 rw[Ah,PO 8 n [] (by rw[e];exact aL) aL (by simp)];simp
end
end Go.Proofs.YtkbmjabicjpmjaaGreatDoor
