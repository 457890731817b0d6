/- The functions of the program as functions of Lean, that its code does what they say, and what they answer; part B. -/
import Derived.Test.YtkbmjabicjpmjaaGreatDoorCcA

namespace Go.Proofs.YtkbmjabicjpmjaaGreatDoor
set_option linter.all false
section
open Go Go.Proofs.YtkbmjabicjpmjaaGreatDoor.Shv
open Tryz
set_option maxRecDepth 100000
def jv:Int×ao×List eE->Option ((Int) ⊕ (List eE))
 |(last,s,a)=>
 if !(s=[]:Bool) then qa s>>=λr=>if(bif bif (!r.2.2)then true else (gF .u64 r.1 2<=last:Bool)then true else (1000<gF .u64 r.1 2:Bool)) then some (.inl 12)else ym r.2.1>>=λb=>if !b.2.2 then some (.inl 12)else some [(⟨b9 .i64 (gF .u64 r.1 2),decide (cf r.1 2=1),b.1⟩:eE)]>>=λt50=>if room 32 (a++t50).length then jv (gF .u64 r.1 2,b.2.1,a++t50)else none else some (.inr a)
  partial_fixpoint
theorem Tx:cS 281 0 [0] LS jv:= .rx jv.partial_correctness (.k FD (.k QA .n))
def p6(c:ao):Option (List eE×Int):=
 jv (0,c,[])>>=λo=>match o with
 |.inl a=>
 some ([],a)
 |.inr b=>
 some (b,0)
theorem T8:bm Nd p6:= .bA .n (.k Tx .n)
def qz(a:ao):Option (Int×ao×Int):=
 qa a>>=λr=>if(bif bif (!r.2.2)then true else (r.1<1:Bool)then true else (1000<r.1:Bool)) then some (0,[],12)else some (b9 .i64 r.1,r.2.1,0)
theorem UX:bm Nb qz:= .bA (.k FD .n)
mutual
def wT(y:ah×ao×List ah×au×Int×au):Option (I×Bool×List ah×au×Int×au):=
 match y with
 |(c,p,b,f,g,e)=>
 pe p>>=λr=>if(bif (!(r.2=0:Bool))then true else(!(cf (r.1.length:Int) 2=0:Bool))) then hp (1,b,f,g,e)>>=λx=>some (I.eta x.1,x.2.1,x.2.2.1,x.2.2.2.2.2,x.2.2.2.1,x.2.2.2.2.1)else if (c.Max<gF .i64 (r.1.length:Int) 2:Bool) then hp (3,b,f,g,e)>>=λv=>some (I.eta v.1,v.2.1,v.2.2.1,v.2.2.2.2.2,v.2.2.2.1,v.2.2.2.2.1)else r6 (r.1,0,b,f,g,c,0,false,0,[],0,c.Kind,false,0,[],0,e,[])>>=λo=>match o with
 |.inl w=>
 some (I.eta w.2.2.2.2.1,w.1,w.2.1,w.2.2.1,w.2.2.2.1,w.2.2.2.2.2)
 |.inr a=>
 qi (a.1,1,a.2.1,a.2.2.1,a.2.2.2.1,a.2.2.2.2.1,a.2.2.2.2.2.1,a.2.2.2.2.2.2.1,a.2.2.2.2.2.2.2.1,a.2.2.2.2.2.2.2.2.1,a.2.2.2.2.2.2.2.2.2.1,a.2.2.2.2.2.2.2.2.2.2.1,a.2.2.2.2.2.2.2.2.2.2.2.1,a.2.2.2.2.2.2.2.2.2.2.2.2.1,a.2.2.2.2.2.2.2.2.2.2.2.2.2.1,a.2.2.2.2.2.2.2.2.2.2.2.2.2.2.1,a.2.2.2.2.2.2.2.2.2.2.2.2.2.2.2.1,a.2.2.2.2.2.2.2.2.2.2.2.2.2.2.2.2)>>=λbs=>match bs with
 |.inl D=>
 some (I.eta D.2.2.2.1,D.1,D.2.1,D.2.2.2.2.2,D.2.2.1,D.2.2.2.2.1)
 |.inr q=>
 r7 (q.1,1,q.2.1,q.2.2.1,q.2.2.2.1,q.2.2.2.2.1,q.2.2.2.2.2.1,q.2.2.2.2.2.2.1,q.2.2.2.2.2.2.2.1,q.2.2.2.2.2.2.2.2.1,q.2.2.2.2.2.2.2.2.2.1,q.2.2.2.2.2.2.2.2.2.2.1,q.2.2.2.2.2.2.2.2.2.2.2.1,q.2.2.2.2.2.2.2.2.2.2.2.2.1,q.2.2.2.2.2.2.2.2.2.2.2.2.2.1,q.2.2.2.2.2.2.2.2.2.2.2.2.2.2.1,q.2.2.2.2.2.2.2.2.2.2.2.2.2.2.2.1,q.2.2.2.2.2.2.2.2.2.2.2.2.2.2.2.2,[])>>=λh0=>match h0 with
 |.inl J=>
 some (I.eta J.2.2.2.2.1,J.1,J.2.1,J.2.2.1,J.2.2.2.1,J.2.2.2.2.2)
 |.inr E=>
 some ((⟨E.2.2.2.2.2.2.2.2.1,E.2.2.2.2.2.2.2.2.2.1,E.2.2.2.2.2.2.2.2.2.2.1,E.2.2.2.2.2.2.2.2.2.2.2.1,E.2.2.2.2.2.2.2.2.2.2.2.2.1,E.2.2.2.2.2.2.2.2.2.2.2.2.2.2.1,E.2.2.2.2.2.2.2.2.2.2.2.2.2.2.2,[]⟩:I),true,E.1,E.2.1,E.2.2.1,E.2.2.2.2.2.2.2.2.2.2.2.2.2.1)
  partial_fixpoint
def Bm(y:ah×ao×List ah×au×Int×au):Option (I×Bool×List ah×au×Int×au):=
 match y with
 |(c,p,b,f,g,e)=>
 pe p>>=λr=>if !(r.2=0:Bool) then hp (1,b,f,g,e)>>=λx=>some (I.eta x.1,x.2.1,x.2.2.1,x.2.2.2.2.2,x.2.2.2.1,x.2.2.2.2.1)else if (c.Max<(r.1.length:Int):Bool) then hp (3,b,f,g,e)>>=λv=>some (I.eta v.1,v.2.1,v.2.2.1,v.2.2.2.2.2,v.2.2.2.1,v.2.2.2.2.1)else rE (r.1,(r.1.length:Int),0,b,f,g,c,0,false,0,[],0,c.Kind,false,0,[],0,e,[])>>=λo=>match o with
 |.inl w=>
 some (I.eta w.2.2.2.2.1,w.1,w.2.1,w.2.2.1,w.2.2.2.1,w.2.2.2.2.2)
 |.inr a=>
 some ((⟨a.2.2.2.2.2.2.2.2.1,a.2.2.2.2.2.2.2.2.2.1,a.2.2.2.2.2.2.2.2.2.2.1,a.2.2.2.2.2.2.2.2.2.2.2.1,a.2.2.2.2.2.2.2.2.2.2.2.2.1,[],a.2.2.2.2.2.2.2.2.2.2.2.2.2.2,[]⟩:I),true,a.1,a.2.1,a.2.2.1,a.2.2.2.2.2.2.2.2.2.2.2.2.2.1)
  partial_fixpoint
def iE:Int×Int×ao×List ah×au×Int×au->Option (I×Bool×List ah×au×Int×au)
 |(step,t,p,b,f,g,e)=>
 some [step]>>=λt18=>if room 8 (e++t18).length then oz (t,p,b,f,g,e++t18)>>=λr=>some (dL .i64 (r.2.2.2.2.2.length:Int) 1)>>=λt39=>if ez 0 t39 r.2.2.2.2.2.length then if (t39.toNat<=r.2.2.2.2.2.length:Bool) then some (I.eta r.1,r.2.1,r.2.2.1,r.2.2.2.1,r.2.2.2.2.1,r.2.2.2.2.2.take t39.toNat)else none else none else none
  partial_fixpoint
def oz:Int×ao×List ah×au×Int×au->Option (I×Bool×List ah×au×Int×au)
 |(t,p,b,f,g,e)=>
 if (200<=(e.length:Int):Bool) then hp (8,b,f,g,e)>>=λr=>some (I.eta r.1,r.2.1,r.2.2.1,r.2.2.2.2.2,r.2.2.2.1,r.2.2.2.2.1)else if aI t b.length then some (b.getD t.toNat aN)>>=λc=>if (c.Kind=1:Bool) then some (decide (p=[1]))>>=λt50=>if(bif (!(p=[]:Bool))then(!t50)else false) then hp (1,b,f,g,e)>>=λQ=>some (I.eta Q.1,Q.2.1,Q.2.2.1,Q.2.2.2.2.2,Q.2.2.2.1,Q.2.2.2.2.1)else some ((⟨c.Kind,t50,0,[],0,[],[],[]⟩:I),true,b,f,g,e)else if (c.Kind=2:Bool) then xi p>>=λG=>if !(G.2=0:Bool) then hp (1,b,f,g,e)>>=λj=>some (I.eta j.1,j.2.1,j.2.2.1,j.2.2.2.2.2,j.2.2.2.1,j.2.2.2.2.1)else AX G.1>>=λbJ=>if(bif (bJ<c.bE:Bool)then true else (c.bG<bJ:Bool)) then hp (2,b,f,g,e)>>=λK=>some (I.eta K.1,K.2.1,K.2.2.1,K.2.2.2.2.2,K.2.2.2.1,K.2.2.2.2.1)else some ((⟨c.Kind,false,bJ,[],0,[],[],[]⟩:I),true,b,f,g,e)else if (c.Kind=3:Bool) then if (c.Max<(p.length:Int):Bool) then hp (3,b,f,g,e)>>=λA=>some (I.eta A.1,A.2.1,A.2.2.1,A.2.2.2.2.2,A.2.2.2.1,A.2.2.2.2.1)else some ((⟨c.Kind,false,0,p,0,[],[],[]⟩:I),true,b,f,g,e)else if (c.Kind=4:Bool) then xi p>>=λaE=>if(bif bif (!(aE.2=0:Bool))then true else (aE.1<1:Bool)then true else (1000<aE.1:Bool)) then hp (1,b,f,g,e)>>=λM=>some (I.eta M.1,M.2.1,M.2.2.1,M.2.2.2.2.2,M.2.2.2.1,M.2.2.2.2.1)else some (b9 .i64 aE.1)>>=λt130=>uf (c,t130)>>=λii=>if(bif (!ii.2)then(!c.Open)else false) then hp (4,b,f,g,e)>>=λN=>some (I.eta N.1,N.2.1,N.2.2.1,N.2.2.2.2.2,N.2.2.2.1,N.2.2.2.2.1)else some ((⟨c.Kind,false,0,[],t130,[],[],[]⟩:I),true,b,f,g,e)else if (c.Kind=9:Bool) then if (p=[]:Bool) then some ((⟨c.Kind,false,0,[],0,[],[],[]⟩:I),true,b,f,g,e)else if aI 0 p.length then if !(hU p 0=1:Bool) then hp (1,b,f,g,e)>>=λO=>some (I.eta O.1,O.2.1,O.2.2.1,O.2.2.2.2.2,O.2.2.2.1,O.2.2.2.2.1)else if ez 1 (p.length:Int) p.length then iE (0,c.aC,e1 p 1 (p.length:Int),b,f,g,e)>>=λP=>some ((⟨c.Kind,false,0,[],0,[],[I.eta P.1],[]⟩:I),P.2.1,P.2.2.1,P.2.2.2.1,P.2.2.2.2.1,P.2.2.2.2.2)else none else none else if (c.Kind=6:Bool) then Bk (c,p,b,f,g,e)>>=λR=>some (I.eta R.1,R.2.1,R.2.2.1,R.2.2.2.1,R.2.2.2.2.1,R.2.2.2.2.2)else if (c.Kind=7:Bool) then Bm (c,p,b,f,g,e)>>=λS=>some (I.eta S.1,S.2.1,S.2.2.1,S.2.2.2.1,S.2.2.2.2.1,S.2.2.2.2.2)else if (c.Kind=8:Bool) then wT (c,p,b,f,g,e)>>=λU=>some (I.eta U.1,U.2.1,U.2.2.1,U.2.2.2.1,U.2.2.2.2.1,U.2.2.2.2.2)else wU (c,p,b,f,g,e)>>=λW=>some (I.eta W.1,W.2.1,W.2.2.1,W.2.2.2.1,W.2.2.2.2.1,W.2.2.2.2.2)else none
  partial_fixpoint
def wU(y:ah×ao×List ah×au×Int×au):Option (I×Bool×List ah×au×Int×au):=
 match y with
 |(c,p,b,f,g,e)=>
 p6 p>>=λr=>if !(r.2=0:Bool) then hp (1,b,f,g,e)>>=λx=>some (I.eta x.1,x.2.1,x.2.2.1,x.2.2.2.2.2,x.2.2.2.1,x.2.2.2.2.1)else mw (r.1,c.ag,(c.ag.length:Int),0,b,f,g,c,0,false,0,[],0,c.Kind,false,0,[],0,e,[])>>=λo=>match o with
 |.inl w=>
 some (I.eta w.2.2.2.2.1,w.1,w.2.1,w.2.2.1,w.2.2.2.1,w.2.2.2.2.2)
 |.inr a=>
 oq (a.1,(a.1.length:Int),0,a.2.1,a.2.2.1,a.2.2.2.1,a.2.2.2.2.1,a.2.2.2.2.2.1,a.2.2.2.2.2.2.1,a.2.2.2.2.2.2.2.1,a.2.2.2.2.2.2.2.2.1,a.2.2.2.2.2.2.2.2.2.1,a.2.2.2.2.2.2.2.2.2.2.1,a.2.2.2.2.2.2.2.2.2.2.2.1,a.2.2.2.2.2.2.2.2.2.2.2.2.1,a.2.2.2.2.2.2.2.2.2.2.2.2.2.1,a.2.2.2.2.2.2.2.2.2.2.2.2.2.2.1,a.2.2.2.2.2.2.2.2.2.2.2.2.2.2.2.1,a.2.2.2.2.2.2.2.2.2.2.2.2.2.2.2.2,[])>>=λbs=>match bs with
 |.inl D=>
 some (I.eta D.2.2.2.1,D.1,D.2.1,D.2.2.2.2.2,D.2.2.1,D.2.2.2.2.1)
 |.inr q=>
 some ((⟨q.2.2.2.2.2.2.2.2.1,q.2.2.2.2.2.2.2.2.2.1,q.2.2.2.2.2.2.2.2.2.2.1,q.2.2.2.2.2.2.2.2.2.2.2.1,q.2.2.2.2.2.2.2.2.2.2.2.2.1,[],q.2.2.2.2.2.2.2.2.2.2.2.2.2.2.1,q.2.2.2.2.2.2.2.2.2.2.2.2.2.2.2⟩:I),true,q.1,q.2.1,q.2.2.1,q.2.2.2.2.2.2.2.2.2.2.2.2.2.1)
  partial_fixpoint
def Bk:ah×ao×List ah×au×Int×au->Option (I×Bool×List ah×au×Int×au)
 |(c,p,b,f,g,e)=>
 qz p>>=λr=>if !(r.2.2=0:Bool) then hp (1,b,f,g,e)>>=λL=>some (I.eta L.1,L.2.1,L.2.2.1,L.2.2.2.2.2,L.2.2.2.1,L.2.2.2.2.1)else hG (c,r.1)>>=λbv=>if bv.2 then if aI bv.1 c.ag.length then iE (r.1,(c.ag.getD bv.1.toNat aD).aB,r.2.1,b,f,g,e)>>=λG=>some ((⟨c.Kind,false,0,[],r.1,[],[I.eta G.1],[]⟩:I),G.2.1,G.2.2.1,G.2.2.2.1,G.2.2.2.2.1,G.2.2.2.2.2)else none else if !c.Open then hp (5,b,f,g,e)>>=λB=>some (I.eta B.1,B.2.1,B.2.2.1,B.2.2.2.2.2,B.2.2.2.1,B.2.2.2.2.1)else some ((⟨c.Kind,false,0,[],r.1,[],[],[(⟨r.1,r.2.1⟩:b6)]⟩:I),true,b,f,g,e)
  partial_fixpoint
def r6:List ao×Int×List ah×au×Int×ah×Int×Bool×Int×ao×Int×Int×Bool×Int×ao×Int×au×List I->Option ((Bool×List ah×au×Int×I×au) ⊕ (List ao×List ah×au×Int×ah×Int×Bool×Int×ao×Int×Int×Bool×Int×ao×Int×au×List I))
 |(am,i,g2,g3,g4,bj,g5,g6,g7,g8,g9,he,hk,hm,hs,ht,hu,bp)=>
 if (i<(am.length:Int):Bool) then if aI i am.length then iE (gF .i64 i 2,bj.Key,am.getD i.toNat [],g2,g3,g4,hu)>>=λj=>if !j.2.1 then some (.inl (false,j.2.2.1,j.2.2.2.1,j.2.2.2.2.1,I.eta j.1,j.2.2.2.2.2))else some [I.eta j.1]>>=λt73=>if room 120 (bp++t73).length then r6 (am,aQ .i64 i 2,j.2.2.1,j.2.2.2.1,j.2.2.2.2.1,bj,g5,g6,g7,g8,g9,he,hk,hm,hs,ht,j.2.2.2.2.2,bp++t73)else none else none else some (.inr (am,g2,g3,g4,bj,g5,g6,g7,g8,g9,he,hk,hm,hs,ht,hu,bp))
  partial_fixpoint
def r7:List ao×Int×List ah×au×Int×ah×Int×Bool×Int×ao×Int×Int×Bool×Int×ao×Int×au×List I×List I->Option ((Bool×List ah×au×Int×I×au) ⊕ (List ah×au×Int×Int×Bool×Int×ao×Int×Int×Bool×Int×ao×Int×au×List I×List I))
 |(ax,ad,hw,bY,b0,b1,b2,ce,ci,cp,cs,ct,cF,c',dr,dt,ec,eq,aH)=>
 if (ad<(ax.length:Int):Bool) then if aI ad ax.length then iE (gF .i64 ad 2,b1.aC,ax.getD ad.toNat [],hw,bY,b0,ec)>>=λA=>if !A.2.1 then some (.inl (false,A.2.2.1,A.2.2.2.1,A.2.2.2.2.1,I.eta A.1,A.2.2.2.2.2))else some [I.eta A.1]>>=λt125=>if room 120 (aH++t125).length then r7 (ax,aQ .i64 ad 2,A.2.2.1,A.2.2.2.1,A.2.2.2.2.1,b1,b2,ce,ci,cp,cs,ct,cF,c',dr,dt,A.2.2.2.2.2,eq,aH++t125)else none else none else some (.inr (hw,bY,b0,b2,ce,ci,cp,cs,ct,cF,c',dr,dt,ec,eq,aH))
  partial_fixpoint
def rE:List ao×Int×Int×List ah×au×Int×ah×Int×Bool×Int×ao×Int×Int×Bool×Int×ao×Int×au×List I->Option ((Bool×List ah×au×Int×I×au) ⊕ (List ah×au×Int×Int×Bool×Int×ao×Int×Int×Bool×Int×ao×Int×au×List I))
 |(t38,hH,t40,es,ex,fd,ff,fo,fs,fK,gc,gd,ge,gl,gs,gt,g0,g1,aY)=>
 if (t40<hH:Bool) then if aI t40 t38.length then iE (t40,ff.aC,t38.getD t40.toNat [],es,ex,fd,g1)>>=λj=>if !j.2.1 then some (.inl (false,j.2.2.1,j.2.2.2.1,j.2.2.2.2.1,I.eta j.1,j.2.2.2.2.2))else some [I.eta j.1]>>=λt60=>if room 120 (aY++t60).length then rE (t38,hH,aQ .i64 t40 1,j.2.2.1,j.2.2.2.1,j.2.2.2.2.1,ff,fo,fs,fK,gc,gd,ge,gl,gs,gt,g0,j.2.2.2.2.2,aY++t60)else none else none else some (.inr (es,ex,fd,fo,fs,fK,gc,gd,ge,gl,gs,gt,g0,g1,aY))
  partial_fixpoint
def mw:List eE×List aU×Int×Int×List ah×au×Int×ah×Int×Bool×Int×ao×Int×Int×Bool×Int×ao×Int×au×List I->Option ((Bool×List ah×au×Int×I×au) ⊕ (List eE×List ah×au×Int×ah×Int×Bool×Int×ao×Int×Int×Bool×Int×ao×Int×au×List I))
 |(H,t39,bX,t41,an,ap,av,a0,a1,a2,a3,a4,a5,a9,bc,bd,be,bi,Y,Z)=>
 if (t41<bX:Bool) then if aI t41 t39.length then some (t39.getD t41.toNat aD)>>=λX=>wN (H,(⟨X.ae,X.Name,X.aB,X.cv,X.bV,I.eta X.bz⟩:aU))>>=λv=>if (0<=v.1:Bool) then if aI v.1 H.length then iE (v.2.ae,v.2.aB,(H.getD v.1.toNat lP).Data,an,ap,av,Y)>>=λF=>if !F.2.1 then some (.inl (false,F.2.2.1,F.2.2.2.1,F.2.2.2.2.1,I.eta F.1,F.2.2.2.2.2))else some [I.eta F.1]>>=λt102=>if room 120 (Z++t102).length then mw (H,t39,bX,aQ .i64 t41 1,F.2.2.1,F.2.2.2.1,F.2.2.2.2.1,a0,a1,a2,a3,a4,a5,a9,bc,bd,be,bi,F.2.2.2.2.2,Z++t102)else none else none else if v.2.bV then jw (I.eta v.2.bz)>>=λh1=>some [I.eta h1]>>=λt113=>if room 120 (Z++t113).length then mw (H,t39,bX,aQ .i64 t41 1,an,ap,av,a0,a1,a2,a3,a4,a5,a9,bc,bd,be,bi,Y,Z++t113)else none else some [v.2.ae]>>=λt55=>if room 8 (Y++t55).length then hp (7,an,ap,av,Y++t55)>>=λB=>some (dL .i64 (B.2.2.2.2.1.length:Int) 1)>>=λt74=>if ez 0 t74 B.2.2.2.2.1.length then if (t74.toNat<=B.2.2.2.2.1.length:Bool) then some (.inl (false,B.2.2.1,B.2.2.2.2.2,B.2.2.2.1,I.eta B.1,B.2.2.2.2.1.take t74.toNat))else none else none else none else none else some (.inr (H,an,ap,av,a0,a1,a2,a3,a4,a5,a9,bc,bd,be,bi,Y,Z))
  partial_fixpoint
end
theorem RM:eQ z' wT/\eY 214 2 [2] yR r7/\eQ oe iE/\eQ wm oz/\eQ Aa wU/\eY 215 2 [0] yU mw/\eQ z8 Bm/\eY 213 2 [0] yP rE/\eQ z7 Bk/\eY 214 2 [0] yQ r6:=wT.mutual_partial_correctness (eM z') (eX 214 2 [2] yR) (eM oe) (eM wm) (eM Aa) (eX 215 2 [0] yU) (eM z8) (eX 213 2 [0] yP) (eM z7) (eX 214 2 [0] yQ)
 (λ_ _ h1 c _ _ h=>eT h (.k PD (.k qo .n)) (.k (fb yQ c) (.k R8 (.k (fb yR h1) .n))))
 (λ_ _ h1 a _ _ h=>fa yR h1 h (.k (cC oe a) .n))
 (λ_ d _ _ h=>eT h (.k (cC wm d) .n))
 (λ_ _ _ _ _ h0 a e f g _ _ h=>eT h (.k qo (.k Ud (.k Tk (.k EA (.k (cC oe a) (.k (cC z7 g) (.k (cC z8 f) (.k (cC z' h0) (.k (cC Aa e) .n))))))))))
 (λ_ bp _ _ h=>eT h (.k T8 (.k qo .n)) (.k (fb yU bp) (.k RL .n)))
 (λ_ _ a bp _ _ h=>fa yU bp h (.k R1 (.k (cC oe a) (.k T7 (.k qo .n)))))
 (λ_ b _ _ h=>eT h (.k PD (.k qo .n)) (.k (fb yP b) .n))
 (λ_ _ a b _ _ h=>fa yP b h (.k (cC oe a) .n))
 (λ_ a _ _ h=>eT h (.k UX (.k qo (.k o7 (.k (cC oe a) .n)))))
 (λ_ _ a c _ _ h=>fa yQ c h (.k (cC oe a) .n))
theorem S0:bm wm oz:=cC _ RM.2.2.2.1
def Fm:bl×Int×ao->Option (I×k7×Int)
 |(s,t,m)=>
 pd s>>=λr=>if !(r=0:Bool) then some ((⟨0,false,0,[],0,[],[],[]⟩:I),(⟨[],0⟩:k7),r)else if(bif (t<0:Bool)then true else ((s.Types.length:Int)<=t:Bool)) then some ((⟨0,false,0,[],0,[],[],[]⟩:I),(⟨[],0⟩:k7),4)else if (4096<(m.length:Int):Bool) then some ((⟨0,false,0,[],0,[],[],[]⟩:I),(⟨[],3⟩:k7),12)else oz (t,m,s.Types,[],0,[])>>=λa=>if !a.2.1 then some ((⟨0,false,0,[],0,[],[],[]⟩:I),(⟨a.2.2.2.1,a.2.2.2.2.1⟩:k7),12)else some (I.eta a.1,(⟨[],0⟩:k7),0)
theorem VE:bm Ms Fm:= .bA (.k xg (.k S0 .n))
def xo:bl×Int×ao->Option (I×Int)
 |(s,t,m)=>
 Fm (s,t,m)>>=λr=>some (I.eta r.1,r.2.2)
theorem T9:bm NH xo:= .bA (.k VE .n)
def AY:dZ×dZ×ao->Option Bool
 |(w,r,m)=>
 xn w>>=λc=>some (!c)>>=λt13=>(if !t13 then xn r else some false)>>=λe=>if(bif t13 then true else(!e)) then some false else xo (w.kS,w.aB,m)>>=λa=>some (!(decide (a.2=0)))>>=λt29=>(if !t29 then oG (w.kS,w.aB,I.eta a.1)else some false)>>=λf=>if(bif t29 then true else(!f)) then some false else nD (w.kS,w.aB,I.eta a.1)>>=λb=>if(bif (!(b.2=0:Bool))then true else(!(b.1=m:Bool))) then some false else AW (w.kS,w.aB,I.eta a.1,r.kS,r.aB)>>=λd=>some (decide (d.2=12))
theorem Uw:bm Ab AY:= .bA (.k Us (.k T9 (.k FC (.k Pq (.k Tj .n)))))
def mz(t:ah):Option ah:=
 if (t.Kind=1:Bool) then some (⟨t.Kind,[],0,0,0,[],[],0,0,false⟩:ah)else if (t.Kind=2:Bool) then some (⟨t.Kind,[],t.bE,t.bG,0,[],[],0,0,false⟩:ah)else if (t.Kind=3:Bool) then some (⟨t.Kind,[],0,0,t.Max,[],[],0,0,false⟩:ah)else if (t.Kind=4:Bool) then some (⟨t.Kind,t.Name,0,0,0,t.bg,[],0,0,t.Open⟩:ah)else if (t.Kind=5:Bool) then some (⟨t.Kind,t.Name,0,0,0,[],t.ag,0,0,false⟩:ah)else if (t.Kind=6:Bool) then some (⟨t.Kind,t.Name,0,0,0,[],t.ag,0,0,t.Open⟩:ah)else if (t.Kind=7:Bool) then some (⟨t.Kind,[],0,0,t.Max,[],[],0,t.aC,false⟩:ah)else if (t.Kind=8:Bool) then some (⟨t.Kind,[],0,0,t.Max,[],[],t.Key,t.aC,false⟩:ah)else some (⟨t.Kind,[],0,0,0,[],[],0,t.aC,false⟩:ah)
theorem TU:bm acj mz:= .bA
def oo:Int×I×I->Option ((Bool) ⊕ (I×I))
 |(i,a,b)=>
 if (i<(a.Rest.length:Int):Bool) then if aI i a.Rest.length then some (a.Rest.getD i.toNat bS)>>=λc=>if aI i b.Rest.length then some (b.Rest.getD i.toNat bS)>>=λd=>if !(fy c.ae d.ae&&(jd c.Data d.Data&&true)) then some (.inl false)else oo (aQ .i64 i 1,I.eta a,I.eta b)else none else none else some (.inr (I.eta a,I.eta b))
  partial_fixpoint
theorem R9:cS 118 0 [0] LW oo:= .rx oo.partial_correctness
mutual
def jt(e:I×I):Option Bool:=
 match e with
 |(a,b)=>
 if(bif bif bif bif bif (!(a.Kind=b.Kind:Bool))then true else(!(fg a.b5 b.b5))then true else(!(a.bo=b.bo:Bool))then true else(!(a.bx=b.bx:Bool))then true else(!(a.ae=b.ae:Bool))then true else(!((a.Rest.length:Int)=(b.Rest.length:Int):Bool))) then some false else oo (0,(⟨a.Kind,a.b5,a.bo,a.bx,a.ae,a.aG,a.ai,a.Rest⟩:I),(⟨b.Kind,b.b5,b.bo,b.bx,b.ae,b.aG,b.ai,b.Rest⟩:I))>>=λo=>match o with
 |.inl j=>
 some j
 |.inr c=>
 wR (c.1.aG,c.2.aG)>>=λr=>(if r then wR (c.1.ai,c.2.ai)else some false)>>=λp=>some (bif r then p else false)
  partial_fixpoint
def wR(e:List I×List I):Option Bool:=
 match e with
 |(a,b)=>
 if !((a.length:Int)=(b.length:Int):Bool) then some false else tW (a,b,0)>>=λo=>match o with
 |.inl j=>
 some j
 |.inr c=>
 some true
  partial_fixpoint
def tW:List I×List I×Int->Option ((Bool) ⊕ (Unit))
 |(f,g,i)=>
 if (i<(f.length:Int):Bool) then if aI i f.length then if aI i g.length then jt (I.eta (f.getD i.toNat az),I.eta (g.getD i.toNat az))>>=λr=>if !r then some (.inl false)else tW (f,g,aQ .i64 i 1)else none else none else some (.inr ())
  partial_fixpoint
end
theorem RP:eQ zU jt/\eQ Dl wR/\eY 183 0 [0] yV tW:=jt.mutual_partial_correctness (eM zU) (eM Dl) (eX 183 0 [0] yV)
 (λ_ h1 _ _ h=>eT h (.k (cC Dl h1) .n) (.k R9 .n))
 (λ_ a _ _ h=>eT h .n (.k (fb yV a) .n))
 (λ_ _ h0 a _ _ h=>fa yV a h (.k (cC zU h0) .n))
theorem wP:bm zU jt:=cC _ RP.1
def wS:aU×aU->Option Bool
 |(a,b)=>
 some (bif bif bif bif decide (a.ae=b.ae)then decide (a.Name=b.Name)else false then decide (a.aB=b.aB)else false then fg a.cv b.cv else false then fg a.bV b.bV else false)>>=λt37=>(if t37 then jt ((⟨a.bz.Kind,a.bz.b5,a.bz.bo,a.bz.bx,a.bz.ae,a.bz.aG,a.bz.ai,a.bz.Rest⟩:I),(⟨b.bz.Kind,b.bz.b5,b.bz.bo,b.bz.bx,b.bz.ae,b.bz.aG,b.bz.ai,b.bz.Rest⟩:I))else some false)>>=λr=>some (bif t37 then r else false)
theorem SQ:bm acz wS:= .bA (.k wP .n)
def ot:Int×ah×ah->Option ((Bool) ⊕ (ah×ah))
 |(i,a,b)=>
 if (i<(a.bg.length:Int):Bool) then if aI i a.bg.length then some (a.bg.getD i.toNat dR)>>=λc=>if aI i b.bg.length then some (b.bg.getD i.toNat dR)>>=λd=>if !(fy c.ae d.ae&&(jd c.Name d.Name&&true)) then some (.inl false)else ot (aQ .i64 i 1,a,b)else none else none else some (.inr (a,b))
  partial_fixpoint
theorem RQ:cS 238 0 [0] LX ot:= .rx ot.partial_correctness
def ou:Int×ah×ah->Option ((Bool) ⊕ (Unit))
 |(a,d,e)=>
 if (a<(d.ag.length:Int):Bool) then if aI a d.ag.length then some (d.ag.getD a.toNat aD)>>=λb=>if aI a e.ag.length then some (e.ag.getD a.toNat aD)>>=λc=>wS ((⟨b.ae,b.Name,b.aB,b.cv,b.bV,I.eta b.bz⟩:aU),(⟨c.ae,c.Name,c.aB,c.cv,c.bV,I.eta c.bz⟩:aU))>>=λr=>if !r then some (.inl false)else ou (aQ .i64 a 1,d,e)else none else none else some (.inr ())
  partial_fixpoint
theorem RR:cS 238 0 [1] LY ou:= .rx ou.partial_correctness (.k SQ .n)
def Bi(g:ah×ah):Option Bool:=
 match g with
 |(a,b)=>
 if(bif bif bif bif bif bif bif bif bif (!(a.Kind=b.Kind:Bool))then true else(!(a.Name=b.Name:Bool))then true else(!(a.bE=b.bE:Bool))then true else(!(a.bG=b.bG:Bool))then true else(!(a.Max=b.Max:Bool))then true else(!(a.Key=b.Key:Bool))then true else(!(a.aC=b.aC:Bool))then true else(!(fg a.Open b.Open))then true else(!((a.bg.length:Int)=(b.bg.length:Int):Bool))then true else(!((a.ag.length:Int)=(b.ag.length:Int):Bool))) then some false else ot (0,(⟨a.Kind,a.Name,a.bE,a.bG,a.Max,a.bg,a.ag,a.Key,a.aC,a.Open⟩:ah),(⟨b.Kind,b.Name,b.bE,b.bG,b.Max,b.bg,b.ag,b.Key,b.aC,b.Open⟩:ah))>>=λo=>match o with
 |.inl d=>
 some d
 |.inr c=>
 ou (0,c.1,c.2)>>=λe=>match e with
 |.inl f=>
 some f
 |.inr i=>
 some true
theorem S9:bm aci Bi:= .bA .n (.k RQ (.k RR .n))
def xx(b:Int):Option Bool:=
 some (bif bif bif decide (97<=b)then decide (b<=122)else false then true else bif decide (65<=b)then decide (b<=90)else false then true else decide (b=95))
theorem PM:bm acA xx:= .bA
def AQ(b:Int):Option Bool:=
 some (bif decide (48<=b)then decide (b<=57)else false)
theorem TV:bm acB AQ:= .bA
def oA:ao×Int->Option ((Bool) ⊕ (Unit))
 |(a,i)=>
 if (i<(a.length:Int):Bool) then if aI i a.length then xx (hU a i)>>=λb=>some (!b)>>=λt27=>if(aI i a.length||(!t27)) then (if t27 then AQ (hU a i)else some false)>>=λc=>if(bif t27 then(!c)else false) then some (.inl false)else oA (a,aQ .i64 i 1)else none else none else some (.inr ())
  partial_fixpoint
theorem S1:cS 240 0 [0] Le oA:= .rx oA.partial_correctness (.k PM (.k TV .n))
def rJ(s:ao):Option Bool:=
 some (bif decide (s=[])then true else decide (24<(s.length:Int)))>>=λt10=>if(aI 0 s.length||(!(!t10))) then (if !t10 then xx (hU s 0)else some false)>>=λr=>if(bif t10 then true else(!r)) then some false else oA (s,0)>>=λo=>match o with
 |.inl a=>
 some a
 |.inr b=>
 some true else none
theorem EX:bm acm rJ:= .bA (.k PM .n) (.k S1 .n)
def xj:Int×Int->Option Bool
 |(a,n)=>
 some (bif bif decide (a<n)then decide (1<=n)else false then decide (n<=1000)else false)
theorem Pk:bm acC xj:= .bA
def m':List c6×Int×Int->Option ((Bool) ⊕ (List c6×Int))
 |(a,b,k)=>
 if (k<b:Bool) then if aI k a.length then if aI b a.length then if ((a.getD k.toNat dR).Name=(a.getD b.toNat dR).Name:Bool) then some (.inl false)else m' (a,b,aQ .i64 k 1)else none else none else some (.inr (a,b))
  partial_fixpoint
theorem Sa:cS 241 0 [0,0] IK m':= .rx m'.partial_correctness
def ow(g:List c6×Int×Int):Option ((Bool) ⊕ (List c6)):=
 match g with
 |(a,c,i)=>
 if (i<(a.length:Int):Bool) then if aI i a.length then xj (c,(a.getD i.toNat dR).ae)>>=λr=>some (!r)>>=λt19=>if(aI i a.length||(!(!t19))) then (if !t19 then rJ (a.getD i.toNat dR).Name else some false)>>=λf=>if(bif t19 then true else(!f)) then some (.inl false)else m' (a,i,0)>>=λd=>match d with
 |.inl e=>
 some (.inl e)
 |.inr b=>
 if aI b.2 b.1.length then ow (b.1,(b.1.getD b.2.toNat dR).ae,aQ .i64 b.2 1)else none else none else none else some (.inr a)
  partial_fixpoint
theorem SR:cS 241 0 [0] Lf ow:= .rx ow.partial_correctness (.k Pk (.k EX .n)) (.k Sa .n)
def wZ(l:List c6):Option Bool:=
 ow (l,0,0)>>=λo=>match o with
 |.inl b=>
 some b
 |.inr a=>
 some (bif decide (1<=(a.length:Int))then decide ((a.length:Int)<=16)else false)
theorem Sy:bm acn wZ:= .bA .n (.k SR .n)
def na:List aU×Bool×Int×Int×aU->Option ((Bool) ⊕ (List aU×Bool×Int×aU))
 |(b,d,c,k,a)=>
 if (k<c:Bool) then if aI k b.length then if ((b.getD k.toNat aD).Name=a.Name:Bool) then some (.inl false)else na (b,d,c,aQ .i64 k 1,(⟨a.ae,a.Name,a.aB,a.cv,a.bV,I.eta a.bz⟩:aU))else none else some (.inr (b,d,c,(⟨a.ae,a.Name,a.aB,a.cv,a.bV,I.eta a.bz⟩:aU)))
  partial_fixpoint
theorem Sb:cS 242 0 [0,0] IL na:= .rx na.partial_correctness
def ox(l:List aU×Bool×Int×Int):Option ((Bool) ⊕ (List aU×Bool)):=
 match l with
 |(b,d,e,i)=>
 if (i<(b.length:Int):Bool) then if aI i b.length then some (b.getD i.toNat aD)>>=λa=>xj (e,a.ae)>>=λr=>some (!r)>>=λt23=>(if !t23 then rJ a.Name else some false)>>=λj=>if(bif bif bif t23 then true else(!j)then true else bif a.cv then a.bV else false then true else bif (!d)then bif a.cv then true else a.bV else false) then some (.inl false)else some (!a.bV)>>=λt52=>(if t52 then jt (I.eta a.bz,(⟨0,false,0,[],0,[],[],[]⟩:I))else some false)>>=λk=>if(bif t52 then(!k)else false) then some (.inl false)else na (b,d,i,0,(⟨a.ae,a.Name,a.aB,a.cv,a.bV,I.eta a.bz⟩:aU))>>=λf=>match f with
 |.inl g=>
 some (.inl g)
 |.inr c=>
 ox (c.1,c.2.1,c.2.2.2.ae,aQ .i64 c.2.2.1 1)else none else some (.inr (b,d))
  partial_fixpoint
theorem SS:cS 242 0 [0] Lg ox:= .rx ox.partial_correctness (.k Pk (.k EX (.k wP .n))) (.k Sb .n)
def uI(c:List aU×Bool):Option Bool:=
 match c with
 |(l,record)=>
 ox (l,record,0,0)>>=λo=>match o with
 |.inl b=>
 some b
 |.inr a=>
 some (bif decide ((a.1.length:Int)<=16)then bif a.2 then true else decide (1<=(a.1.length:Int))else false)
theorem Sz:bm aco uI:= .bA .n (.k SS .n)
def hq(t:ah):Option Bool:=
 some (bif decide (t.Kind<1)then true else decide (9<t.Kind))>>=λt10=>(if !t10 then mz t else some aN)>>=λr=>(if !t10 then Bi (t,r)else some false)>>=λc=>some (bif t10 then true else(!c))>>=λt17=>(if !t17 then jV t.Kind else some false)>>=λa=>(if((!t17)&&a) then rJ t.Name else some false)>>=λd=>if(bif t17 then true else bif a then(!d)else false) then some false else if (t.Kind=2:Bool) then some (decide (t.bE<=t.bG))else if (t.Kind=3:Bool) then some (bif decide (0<=t.Max)then decide (t.Max<=200)else false)else if (t.Kind=4:Bool) then wZ t.bg>>=λe=>some e else some (decide (t.Kind=5))>>=λt54=>if t54 then if t54 then uI (t.ag,decide (t.Kind=5))>>=λf=>some f else some (decide (t.Kind=7))>>=λt63=>if t63 then if t63 then some (bif decide (0<=t.Max)then decide (t.Max<=50)else false)else some true else if (t.Kind=8:Bool) then some (bif decide (0<=t.Max)then decide (t.Max<=50)else false)else some true else if (t.Kind=6:Bool) then uI (t.ag,decide (t.Kind=5))>>=λg=>some g else some (decide (t.Kind=7))>>=λb=>if b then if b then some (bif decide (0<=t.Max)then decide (t.Max<=50)else false)else some true else if (t.Kind=8:Bool) then some (bif decide (0<=t.Max)then decide (t.Max<=50)else false)else some true
theorem Ux:bm ab3 hq:= .bA (.k TU (.k S9 (.k EZ (.k EX (.k Sy (.k Sz .n))))))
def rF:Int×ah×au->Option (ah×au)
 |(i,a,b)=>
 if (i<(a.ag.length:Int):Bool) then if aI i a.ag.length then some [(a.ag.getD i.toNat aD).aB]>>=λt19=>if room 8 (b++t19).length then rF (aQ .i64 i 1,a,b++t19)else none else none else some (a,b)
  partial_fixpoint
theorem SA:cS 168 0 [0] Lh rF:= .rx rF.partial_correctness
def AU(t:ah):Option au:=
 rF (0,t,[])>>=λo=>if (o.1.Kind=8:Bool) then some [o.1.Key]>>=λt27=>if room 8 (o.2++t27).length then some (o.2++t27)>>=λl=>if(bif bif (o.1.Kind=7:Bool)then true else (o.1.Kind=8:Bool)then true else (o.1.Kind=9:Bool)) then some [o.1.aC]>>=λt45=>if room 8 (l++t45).length then some (l++t45)else none else some l else none else if(bif bif (o.1.Kind=7:Bool)then true else (o.1.Kind=8:Bool)then true else (o.1.Kind=9:Bool)) then some [o.1.aC]>>=λa=>if room 8 (o.2++a).length then some (o.2++a)else none else some o.2
theorem Ty:bm ab4 AU:= .bA .n (.k SA .n)
def nc:Int×Int×List ah×Int×ao×Int×Int×Int×List c6×List aU×Int×Int×Bool->Option ((Int) ⊕ (Int×List ah×Int×ao×Int×Int×Int×List c6×List aU×Int×Int×Bool))
 |(d,k,a,b,c,e,f,g,i,j,l,m,n)=>
 if (k<d:Bool) then jV b>>=λo=>if(aI k a.length||(!o)) then if(bif o then ((a.getD k.toNat aN).Name=c:Bool)else false) then some (.inl 1)else nc (d,aQ .i64 k 1,a,b,c,e,f,g,i,j,l,m,n)else none else some (.inr (d,a,b,c,e,f,g,i,j,l,m,n))
  partial_fixpoint
theorem SU:cS 106 0 [0,0] IM nc:= .rx nc.partial_correctness (.k EZ .n)
def qm:Int×au×Int×List ah×Int×ao×Int×Int×Int×List c6×List aU×Int×Int×Bool->Option ((Int) ⊕ (Int×List ah×Int×ao×Int×Int×Int×List c6×List aU×Int×Int×Bool))
 |(o,l,a,b,c,d,e,f,g,i,j,k,m,n)=>
 if (a<(l.length:Int):Bool) then if aI a l.length then some (decide (l.getD a.toNat 0<0))>>=λt58=>if(aI a l.length||(!(!t58))) then if(bif t58 then true else ((b.length:Int)<=l.getD a.toNat 0:Bool)) then some (.inl 4)else qm (o,l,aQ .i64 a 1,b,c,d,e,f,g,i,j,k,m,n)else none else none else some (.inr (o,b,c,d,e,f,g,i,j,k,m,n))
  partial_fixpoint
theorem SV:cS 106 0 [1,0] Ig qm:= .rx qm.partial_correctness
def qp(m:Int×List ah):Option ((Int) ⊕ (Unit)):=
 match m with
 |(i,b)=>
 if (i<(b.length:Int):Bool) then if aI i b.length then some (b.getD i.toNat aN)>>=λc=>hq c>>=λr=>if !r then some (.inl 1)else nc (i,0,b,c.Kind,c.Name,c.bE,c.bG,c.Max,c.bg,c.ag,c.Key,c.aC,c.Open)>>=λe=>match e with
 |.inl f=>
 some (.inl f)
 |.inr a=>
 AU (⟨a.2.2.1,a.2.2.2.1,a.2.2.2.2.1,a.2.2.2.2.2.1,a.2.2.2.2.2.2.1,a.2.2.2.2.2.2.2.1,a.2.2.2.2.2.2.2.2.1,a.2.2.2.2.2.2.2.2.2.1,a.2.2.2.2.2.2.2.2.2.2.1,a.2.2.2.2.2.2.2.2.2.2.2⟩:ah)>>=λk=>qm (a.1,k,0,a.2.1,a.2.2.1,a.2.2.2.1,a.2.2.2.2.1,a.2.2.2.2.2.1,a.2.2.2.2.2.2.1,a.2.2.2.2.2.2.2.1,a.2.2.2.2.2.2.2.2.1,a.2.2.2.2.2.2.2.2.2.1,a.2.2.2.2.2.2.2.2.2.2.1,a.2.2.2.2.2.2.2.2.2.2.2)>>=λg=>match g with
 |.inl j=>
 some (.inl j)
 |.inr d=>
 some (decide (d.2.2.1=8))>>=λt71=>if(aI d.2.2.2.2.2.2.2.2.2.1 d.2.1.length||(!t71)) then (if t71 then wV (d.2.1.getD d.2.2.2.2.2.2.2.2.2.1.toNat aN).Kind else some false)>>=λl=>if(bif t71 then(!l)else false) then some (.inl 1)else qp (aQ .i64 d.1 1,d.2.1)else none else none else some (.inr ())
  partial_fixpoint
theorem S':cS 106 0 [0] Li qp:= .rx qp.partial_correctness (.k Ux (.k Ty (.k PI .n))) (.k SU (.k SV .n))
def uQ(s:bl):Option Int:=
 if (32<(s.Types.length:Int):Bool) then some 3 else qp (0,s.Types)>>=λo=>match o with
 |.inl a=>
 some a
 |.inr b=>
 some 0
theorem PR:bm abI uQ:= .bA .n (.k S' .n)
def rV(v:I):Option Bool:=
 some (bif bif bif bif bif bif bif decide (v.Kind=1)then true else(!v.b5)then bif decide (v.Kind=2)then true else decide (v.bo=0)else false then bif decide (v.Kind=3)then true else decide (v.bx=[])else false then bif bif decide (v.Kind=4)then true else decide (v.Kind=6)then true else decide (v.ae=0)else false then bif decide (v.Kind=8)then true else decide ((v.aG.length:Int)=0)else false then bif decide (5<=v.Kind)then true else decide ((v.ai.length:Int)=0)else false then bif bif decide (v.Kind=5)then true else decide (v.Kind=6)then true else decide ((v.Rest.length:Int)=0)else false)
theorem Tz:bm ab5 rV:= .bA
def ng:Int×Int×ah->Option ((Int×Bool) ⊕ (Unit))
 |(a,i,b)=>
 if (i<(b.bg.length:Int):Bool) then if aI i b.bg.length then if ((b.bg.getD i.toNat dR).ae=a:Bool) then some (.inl (i,true))else ng (a,aQ .i64 i 1,b)else none else some (.inr ())
  partial_fixpoint
theorem S2:cS 122 0 [0] Lj ng:= .rx ng.partial_correctness
def uL(b:ah×Int):Option (Int×Bool):=
 match b with
 |(t,id)=>
 ng (id,0,t)>>=λo=>match o with
 |.inl a=>
 some (a.1,a.2)
 |.inr c=>
 some (0,false)
theorem EY:bm abT uL:= .bA .n (.k S2 .n)
def iY:Int×Bool->Option Bool
 |(n,a)=>
 some (bif bif (!a)then decide (1<=n)else false then decide (n<=1000)else false)
theorem Pl:bm ab6 iY:= .bA
def oB:Int×Int×ah->Option ((Int×Bool) ⊕ (Unit))
 |(a,i,b)=>
 if (i<(b.ag.length:Int):Bool) then if aI i b.ag.length then if ((b.ag.getD i.toNat aD).ae=a:Bool) then some (.inl (i,true))else oB (a,aQ .i64 i 1,b)else none else some (.inr ())
  partial_fixpoint
theorem S3:cS 98 0 [0] NS oB:= .rx oB.partial_correctness
def ib(b:ah×Int):Option (Int×Bool):=
 match b with
 |(t,id)=>
 oB (id,0,t)>>=λo=>match o with
 |.inl a=>
 some (a.1,a.2)
 |.inr c=>
 some (0,false)
theorem oD:bm ac4 ib:= .bA .n (.k S3 .n)
def lB:List b6×Int×ah->Option ((Bool) ⊕ (Unit))
 |(a,i,b)=>
 if (i<(a.length:Int):Bool) then if aI i a.length then ib (b,(a.getD i.toNat bS).ae)>>=λr=>if aI i a.length then iY ((a.getD i.toNat bS).ae,r.2)>>=λc=>some (!c)>>=λt31=>some (decide (0<i))>>=λt34=>if(aI i a.length||(!((!t31)&&t34))) then some (dL .i64 i 1)>>=λt43=>if(aI t43 a.length||(!((!t31)&&t34))) then if(bif t31 then true else bif t34 then ((a.getD i.toNat bS).ae<=(a.getD t43.toNat bS).ae:Bool)else false) then some (.inl false)else lB (a,aQ .i64 i 1,b)else none else none else none else none else some (.inr ())
  partial_fixpoint
theorem SB:cS 179 0 [0] Lk lB:= .rx lB.partial_correctness (.k oD (.k Pl .n))
def rW(b:ah×List b6):Option Bool:=
 match b with
 |(t,l)=>
 lB (l,0,t)>>=λo=>match o with
 |.inl a=>
 some a
 |.inr c=>
 some true
theorem TA:bm ab7 rW:= .bA .n (.k SB .n)
def uM(n:Int):Option Int:=
 if (0<=n:Bool) then some (jH .u64 2 (b9 .u64 n))else some (aQ .u64 (jH .u64 2 (b9 .u64 (dL .i64 0 (aQ .i64 n 1)))) 1)
theorem PN:bm abN uM:= .bA
def ku:Bool×Bool->Option Int
 |(b,a)=>
 if a then some 0 else if b then some (-1)else some 1
theorem TW:bm acq ku:= .bA
def o1:I×I->Option Int
 |(a,b)=>
 if !(a.Kind=b.Kind:Bool) then some 0 else if (a.Kind=1:Bool) then ku (b.b5,fg a.b5 b.b5)>>=λr=>some r else if (a.Kind=2:Bool) then uM a.bo>>=λc=>uM b.bo>>=λd=>ku (decide (c<d),decide (a.bo=b.bo))>>=λe=>some e else if (a.Kind=3:Bool) then if !((a.bx.length:Int)=(b.bx.length:Int):Bool) then ku (decide ((a.bx.length:Int)<(b.bx.length:Int)),false)>>=λf=>some f else ku (Op.bytesLess a.bx b.bx,decide (a.bx=b.bx))>>=λg=>some g else if (a.Kind=4:Bool) then ku (decide (a.ae<b.ae),decide (a.ae=b.ae))>>=λi=>some i else some 0
theorem EV:bm ab8 o1:= .bA (.k TW (.k PN .n))
def ju:Int×I->Option ((Bool) ⊕ (Unit))
 |(b,a)=>
 if (b<(a.aG.length:Int):Bool) then some (dL .i64 b 1)>>=λt270=>if aI t270 a.aG.length then if aI b a.aG.length then o1 (I.eta (a.aG.getD t270.toNat az),I.eta (a.aG.getD b.toNat az))>>=λc=>if (0<=c:Bool) then some (.inl false)else ju (aQ .i64 b 1,I.eta a)else none else none else some (.inr ())
  partial_fixpoint
theorem SM:cS 109 0 [1] Ll ju:= .rx ju.partial_correctness (.k EV .n)
mutual
def nB(c:bl×Int×List I×Bool):Option Bool:=
 match c with
 |(s,t,l,plain)=>
 mx (t,l,plain,0,s.Types)>>=λo=>match o with
 |.inl q=>
 some q
 |.inr K=>
 some true
  partial_fixpoint
def ic(c:bl×Int×I×Bool):Option Bool:=
 match c with
 |(s,t,v,plain)=>
 if(bif (t<0:Bool)then true else ((s.Types.length:Int)<=t:Bool)) then some false else if aI t s.Types.length then some (s.Types.getD t.toNat aN)>>=λa=>some (!(decide (v.Kind=a.Kind)))>>=λt34=>(if !t34 then rV (I.eta v)else some false)>>=λr=>if(bif bif t34 then true else(!r)then true else bif plain then (0<(v.Rest.length:Int):Bool)else false) then some false else if (a.Kind=1:Bool) then some true else if (a.Kind=2:Bool) then some (bif decide (a.bE<=v.bo)then decide (v.bo<=a.bG)else false)else if (a.Kind=3:Bool) then some (decide ((v.bx.length:Int)<=a.Max))else if (a.Kind=4:Bool) then uL (a,v.ae)>>=λw=>some (bif a.Open then(!plain)else false)>>=λt91=>(if((!w.2)&&t91) then iY (v.ae,w.2)else some false)>>=λU=>some (bif w.2 then true else bif t91 then U else false)else if (a.Kind=5:Bool) then some (!(decide ((v.ai.length:Int)=(a.ag.length:Int))))>>=λt107=>(if !t107 then rW (a,v.Rest)else some false)>>=λW=>if(bif t107 then true else(!W)) then some false else k2 (plain,0,s.Types,I.eta v,a.Kind,a.Name,a.bE,a.bG,a.Max,a.bg,a.ag,a.Key,a.aC,a.Open)>>=λo=>match o with
 |.inl q=>
 some q
 |.inr K=>
 some true else if (a.Kind=6:Bool) then ib (a,v.ae)>>=λj=>if j.2 then some (bif decide ((v.ai.length:Int)=1)then decide ((v.Rest.length:Int)=0)else false)>>=λt156=>if(aI j.1 a.ag.length||(!t156)) then if(aI 0 v.ai.length||(!t156)) then (if t156 then ic (s,(a.ag.getD j.1.toNat aD).aB,I.eta (v.ai.getD (0:Int).toNat az),plain)else some false)>>=λX=>some (bif t156 then X else false)else none else none else some (bif a.Open then(!plain)else false)>>=λt177=>(if t177 then iY (v.ae,j.2)else some false)>>=λN=>some (bif bif bif t177 then N else false then decide ((v.ai.length:Int)=0)else false then decide ((v.Rest.length:Int)=1)else false)>>=λt195=>if(aI 0 v.Rest.length||(!t195)) then some (bif t195 then decide ((v.Rest.getD (0:Int).toNat bS).ae=v.ae)else false)else none else if (a.Kind=7:Bool) then some (decide ((v.ai.length:Int)<=a.Max))>>=λt213=>(if t213 then nB (s,a.aC,v.ai,plain)else some false)>>=λO=>some (bif t213 then O else false)else if (a.Kind=8:Bool) then some (bif decide (a.Max<(v.aG.length:Int))then true else(!(decide ((v.ai.length:Int)=(v.aG.length:Int)))))>>=λt239=>(if !t239 then nB (s,a.Key,v.aG,plain)else some false)>>=λP=>some (bif t239 then true else(!P))>>=λt249=>(if !t249 then nB (s,a.aC,v.ai,plain)else some false)>>=λQ=>if(bif t249 then true else(!Q)) then some false else ju (1,I.eta v)>>=λL=>match L with
 |.inl M=>
 some M
 |.inr Y=>
 some true else some (decide ((v.ai.length:Int)<=1))>>=λt283=>(if t283 then nB (s,a.aC,v.ai,plain)else some false)>>=λR=>some (bif t283 then R else false)else none
  partial_fixpoint
def mx:Int×List I×Bool×Int×List ah->Option ((Bool) ⊕ (Unit))
 |(x,g,e,i,b)=>
 if (i<(g.length:Int):Bool) then if aI i g.length then ic ((⟨b⟩:bl),x,I.eta (g.getD i.toNat az),e)>>=λr=>if !r then some (.inl false)else mx (x,g,e,aQ .i64 i 1,b)else none else some (.inr ())
  partial_fixpoint
def k2:Bool×Int×List ah×I×Int×ao×Int×Int×Int×List c6×List aU×Int×Int×Bool->Option ((Bool) ⊕ (Unit))
 |(e,i,b,f,B,D,E,F,G,H,p,J,y,A)=>
 if (i<(f.ai.length:Int):Bool) then if aI i p.length then if aI i f.ai.length then ic ((⟨b⟩:bl),(p.getD i.toNat aD).aB,I.eta (f.ai.getD i.toNat az),e)>>=λS=>if !S then some (.inl false)else k2 (e,aQ .i64 i 1,b,I.eta f,B,D,E,F,G,H,p,J,y,A)else none else none else some (.inr ())
  partial_fixpoint
end
theorem TX:eQ Dk nB/\eY 180 0 [0] yW mx/\eQ tF ic/\eY 109 0 [0] yX k2:=nB.mutual_partial_correctness (eM Dk) (eX 180 0 [0] yW) (eM tF) (eX 109 0 [0] yX)
 (λ_ h1 _ _ h=>eT h .n (.k (fb yW h1) .n))
 (λ_ _ h1 a _ _ h=>fa yW h1 h (.k (cC tF a) .n))
 (λ_ _ _ h0 a b _ _ h=>eT h (.k Tz (.k EY (.k Pl (.k TA (.k oD (.k (cC tF a) (.k (cC Dk h0) .n))))))) (.k (fb yX b) (.k SM .n)))
 (λ_ _ a b _ _ h=>fa yX b h (.k (cC tF a) .n))
theorem P1:bm tF ic:=cC _ TX.2.2.1
def Ev:bl×Int×I->Option Bool
 |(s,t,v)=>
 ic (s,t,I.eta v,true)>>=λr=>some r
theorem TY:bm acK Ev:= .bA (.k P1 .n)
end
section
open Go Go.Proofs.YtkbmjabicjpmjaaGreatDoor.Shv
open Tryz
set_option maxRecDepth 100000
def xF:bl×Int->Option Int
 |(s,t)=>
 uQ s>>=λr=>if !(r=0:Bool) then some r else if(bif (t<0:Bool)then true else ((s.Types.length:Int)<=t:Bool)) then some 4 else some 0
theorem TZ:bm abR xF:= .bA (.k PR .n)
def AR:bl×Int×I×bl×Int->Option Int
 |(w,wt,v,r,rt)=>
 xF (w,wt)>>=λa=>if !(a=0:Bool) then some a else xF (r,rt)>>=λb=>if !(b=0:Bool) then some b else Ev (w,wt,I.eta v)>>=λc=>if !c then some 1 else some 0
theorem T0:bm acO AR:= .bA (.k TZ (.k TY .n))
def kt(path:au):Option dJ:=
 if room 8 ([]++path).length then some (⟨(⟨0,false,0,[],0,[],[],[]⟩:I),[]++path,false⟩:dJ)else none
theorem Bg:bm abS kt:= .bA
def uN:Int×ao->Option ao
 |(a,b)=>
 if (0<a:Bool) then some (strOf [b9 .u8 (cf a 256)])>>=λt10=>if (t10.length+b.length<=eo:Bool) then uN (gF .u64 a 256,t10++b)else none else some b
  partial_fixpoint
theorem SN:cS 114 0 [0] Lm uN:= .rx uN.partial_correctness
def xc(n:Int):Option ao:=
 uN (n,[])>>=λo=>some o
theorem Uy:bm abM xc:= .bA .n (.k SN .n)
def uO:Int×au->Option (Int×au)
 |(a,b)=>
 if (128<=a:Bool) then some [b9 .u8 (aQ .u64 (cf a 128) 128)]>>=λt11=>if room 1 (b++t11).length then uO (gF .u64 a 128,b++t11)else none else some (a,b)
  partial_fixpoint
theorem Si:cS 116 0 [0] Ln uO:= .rx uO.partial_correctness
def p1(n:Int):Option ao:=
 uO (n,[])>>=λo=>some [b9 .u8 o.1]>>=λt18=>if room 1 (o.2++t18).length then some (strOf (o.2++t18))else none
theorem Ew:bm abO p1:= .bA .n (.k Si .n)
def pZ(p:ao):Option ao:=
 p1 (b9 .u64 (p.length:Int))>>=λr=>if (r.length+p.length<=eo:Bool) then some (r++p)else none
theorem E3:bm abP pZ:= .bA (.k Ew .n)
def w4:Int×Bool×ao->Option ao
 |(id,d,p)=>
 some (b9 .u64 (jH .i64 2 id))>>=λt10=>if d then p1 (aQ .u64 t10 1)>>=λr=>pZ p>>=λa=>if (r.length+a.length<=eo:Bool) then some (r++a)else none else p1 t10>>=λb=>pZ p>>=λc=>if (b.length+c.length<=eo:Bool) then some (b++c)else none
theorem PS:bm abQ w4:= .bA (.k Ew (.k E3 .n))
def mg:ao×Int×Int×List ah×I×ah->Option (ao×Int×List ah×I×ah)
 |(c,b,k,d,a,e)=>
 if (k<(a.Rest.length:Int):Bool) then if aI k a.Rest.length then if ((a.Rest.getD k.toNat bS).ae=b:Bool) then if aI k a.Rest.length then w4 (b,false,(a.Rest.getD k.toNat bS).Data)>>=λf=>if (c.length+f.length<=eo:Bool) then mg (c++f,b,aQ .i64 k 1,d,I.eta a,e)else none else none else mg (c,b,aQ .i64 k 1,d,I.eta a,e)else none else some (c,b,d,I.eta a,e)
  partial_fixpoint
theorem Sc:cS 63 0 [0,2] KQ mg:= .rx mg.partial_correctness (.k PS .n)
mutual
def jU:bl×Int×I->Option ao
 |(s,t,v)=>
 if aI t s.Types.length then some (s.Types.getD t.toNat aN)>>=λa=>if (a.Kind=1:Bool) then if v.b5 then some [1]else some []else if (a.Kind=2:Bool) then uM v.bo>>=λr=>xc r>>=λY=>some Y else if (a.Kind=3:Bool) then some v.bx else if (a.Kind=4:Bool) then xc (b9 .u64 v.ae)>>=λap=>some ap else if (a.Kind=9:Bool) then if ((v.ai.length:Int)=0:Bool) then some []else if aI 0 v.ai.length then jU (s,a.aC,I.eta (v.ai.getD (0:Int).toNat az))>>=λO=>if ([1].length+O.length<=eo:Bool) then some ([1]++O)else none else none else if (a.Kind=6:Bool) then if (0<(v.Rest.length:Int):Bool) then p1 (b9 .u64 v.ae)>>=λP=>if aI 0 v.Rest.length then some (v.Rest.getD (0:Int).toNat bS)>>=λU=>if (P.length+U.Data.length<=eo:Bool) then some (P++U.Data)else none else none else ib (a,v.ae)>>=λQ=>p1 (b9 .u64 v.ae)>>=λR=>if aI Q.1 a.ag.length then if aI 0 v.ai.length then jU (s,(a.ag.getD Q.1.toNat aD).aB,I.eta (v.ai.getD (0:Int).toNat az))>>=λS=>if (R.length+S.length<=eo:Bool) then some (R++S)else none else none else none else if (a.Kind=7:Bool) then r' ([],0,s.Types,I.eta v,a)>>=λo=>some o else if (a.Kind=8:Bool) then sa ([],0,s.Types,I.eta v,a)>>=λW=>some W else oy ([],1,s.Types,I.eta v,a)>>=λX=>some X else none
  partial_fixpoint
def r':ao×Int×List ah×I×ah->Option ao
 |(G,i,b,A,J)=>
 if (i<(A.ai.length:Int):Bool) then if aI i A.ai.length then jU ((⟨b⟩:bl),J.aC,I.eta (A.ai.getD i.toNat az))>>=λZ=>pZ Z>>=λK=>if (G.length+K.length<=eo:Bool) then r' (G++K,aQ .i64 i 1,b,I.eta A,J)else none else none else some G
  partial_fixpoint
def sa:ao×Int×List ah×I×ah->Option ao
 |(H,p,E,g,F)=>
 if (p<(g.ai.length:Int):Bool) then if aI p g.aG.length then jU ((⟨E⟩:bl),F.Key,I.eta (g.aG.getD p.toNat az))>>=λad=>pZ ad>>=λL=>if (H.length+L.length<=eo:Bool) then some (H++L)>>=λt144=>if aI p g.ai.length then jU ((⟨E⟩:bl),F.aC,I.eta (g.ai.getD p.toNat az))>>=λam=>pZ am>>=λM=>if (t144.length+M.length<=eo:Bool) then sa (t144++M,aQ .i64 p 1,E,I.eta g,F)else none else none else none else none else some H
  partial_fixpoint
def oy:ao×Int×List ah×I×ah->Option ao
 |(y,id,B,c,j)=>
 if (id<=1000:Bool) then ib (j,id)>>=λe=>if e.2 then if aI e.1 j.ag.length then some (j.ag.getD e.1.toNat aD)>>=λD=>some (!D.bV)>>=λt175=>if(aI e.1 c.ai.length||(!(!t175))) then (if !t175 then jt (I.eta (c.ai.getD e.1.toNat az),I.eta D.bz)else some false)>>=λan=>if(bif t175 then true else(!an)) then if aI e.1 c.ai.length then jU ((⟨B⟩:bl),D.aB,I.eta (c.ai.getD e.1.toNat az))>>=λav=>w4 (id,D.cv,av)>>=λN=>if (y.length+N.length<=eo:Bool) then mg (y++N,id,0,B,I.eta c,j)>>=λq=>oy (q.1,aQ .i64 q.2.1 1,q.2.2.1,I.eta q.2.2.2.1,q.2.2.2.2)else none else none else mg (y,id,0,B,I.eta c,j)>>=λw=>oy (w.1,aQ .i64 w.2.1 1,w.2.2.1,I.eta w.2.2.2.1,w.2.2.2.2)else none else none else mg (y,id,0,B,I.eta c,j)>>=λx=>oy (x.1,aQ .i64 x.2.1 1,x.2.2.1,I.eta x.2.2.2.1,x.2.2.2.2)else some y
  partial_fixpoint
end
theorem S4:eQ rn jU/\eY 63 0 [2] wx oy/\eY 63 0 [1] wv sa/\eY 63 0 [0] wu r':=jU.mutual_partial_correctness (eM rn) (eX 63 0 [2] wx) (eX 63 0 [1] wv) (eX 63 0 [0] wu)
 (λ_ _ _ _ h0 h1 a b _ _ h=>eT h (.k PN (.k Uy (.k (cC rn h0) (.k Ew (.k oD .n))))) (.k (fb wu b) (.k (fb wv a) (.k (fb wx h1) .n))))
 (λ_ _ h0 h1 _ _ h=>fa wx h1 h (.k oD (.k wP (.k (cC rn h0) (.k PS .n)))) (.k Sc .n))
 (λ_ _ h0 a _ _ h=>fa wv a h (.k (cC rn h0) (.k E3 .n)))
 (λ_ _ h0 b _ _ h=>fa wu b h (.k (cC rn h0) (.k E3 .n)))
theorem EW:bm rn jU:=cC _ S4.1
def ny(v:I):Option dJ:=
 some (⟨I.eta v,[],true⟩:dJ)
theorem E4:bm abV ny:= .bA
def p3:au×Int->Option au
 |(path,step)=>
 if room 8 ([]++path).length then some ([]++path)>>=λl=>some [step]>>=λt9=>if room 8 (l++t9).length then some (l++t9)else none else none
theorem w8:bm abU p3:= .bA
def AS:I×I->Option Bool
 |(a,b)=>
 jt (I.eta a,I.eta b)>>=λr=>some r
theorem T1:bm acg AS:= .bA (.k wP .n)
def uE:aU×I->Option Bool
 |(m,v)=>
 (if m.bV then AS (I.eta m.bz,I.eta v)else some false)>>=λr=>some (bif m.bV then r else false)
theorem O9:bm ab9 uE:= .bA (.k T1 .n)
def nh:au×Int×List ah×ah×I×ah×Int×Bool×Int×ao×Int×Bool×Int×Bool×Int×ao×Int×List I×List b6->Option ((dJ) ⊕ (Int×Bool×Int×ao×Int×Bool×Int×Bool×Int×ao×Int×List I×List b6))
 |(u,i,e,c,b,f,g,j,k,l,m,n,o,p,q,r,s,t,d)=>
 if (i<(c.ag.length:Int):Bool) then if aI i c.ag.length then some (c.ag.getD i.toNat aD)>>=λa=>ib (f,a.ae)>>=λw=>if w.2 then nh (u,aQ .i64 i 1,e,c,I.eta b,f,g,j,k,l,m,n,o,p,q,r,s,t,d)else if a.cv then p3 (u,a.ae)>>=λx=>kt x>>=λv=>some (.inl (⟨I.eta v.Value,v.Path,v.eB⟩:dJ))else if aI i b.ai.length then uE ((⟨a.ae,a.Name,a.aB,a.cv,a.bV,I.eta a.bz⟩:aU),I.eta (b.ai.getD i.toNat az))>>=λy=>if !y then if aI i b.ai.length then jU ((⟨e⟩:bl),a.aB,I.eta (b.ai.getD i.toNat az))>>=λz=>some [(⟨a.ae,z⟩:b6)]>>=λt170=>if room 24 (d++t170).length then nh (u,aQ .i64 i 1,e,c,I.eta b,f,g,j,k,l,m,n,o,p,q,r,s,t,d++t170)else none else none else nh (u,aQ .i64 i 1,e,c,I.eta b,f,g,j,k,l,m,n,o,p,q,r,s,t,d)else none else none else some (.inr (g,j,k,l,m,n,o,p,q,r,s,t,d))
  partial_fixpoint
theorem S5:cS 124 0 [1] Lo nh:= .rx nh.partial_correctness (.k oD (.k w8 (.k Bg (.k O9 (.k EW .n)))))
mutual
def mA(t:bl×Int×I×bl×Int×au):Option dJ:=
 match t with
 |(w,wt,v,r,rt,path)=>
 if aI wt w.Types.length then some (w.Types.getD wt.toNat aN)>>=λc=>if aI rt r.Types.length then some (r.Types.getD rt.toNat aN)>>=λe=>if !(c.Kind=e.Kind:Bool) then kt path>>=λq=>some (⟨I.eta q.Value,q.Path,q.eB⟩:dJ)else if(bif (c.Kind=2:Bool)then bif (v.bo<e.bE:Bool)then true else (e.bG<v.bo:Bool)else false) then kt path>>=λL=>some (⟨I.eta L.Value,L.Path,L.eB⟩:dJ)else if(bif (c.Kind=3:Bool)then (e.Max<(v.bx.length:Int):Bool)else false) then kt path>>=λp=>some (⟨I.eta p.Value,p.Path,p.eB⟩:dJ)else if (c.Kind=4:Bool) then uL (e,v.ae)>>=λN=>if(bif (!N.2)then(!e.Open)else false) then kt path>>=λj=>some (⟨I.eta j.Value,j.Path,j.eB⟩:dJ)else if(bif bif (c.Kind=7:Bool)then true else (c.Kind=8:Bool)then (e.Max<(v.ai.length:Int):Bool)else false) then kt path>>=λF=>some (⟨I.eta F.Value,F.Path,F.eB⟩:dJ)else if (c.Kind=6:Bool) then w5 (w,c,I.eta v,r,e,path)>>=λB=>some (⟨I.eta B.Value,B.Path,B.eB⟩:dJ)else if (c.Kind=5:Bool) then xy (w,c,I.eta v,r,e,path)>>=λx=>some (⟨I.eta x.Value,x.Path,x.eB⟩:dJ)else ni (path,0,w.Types,I.eta v,r.Types,0,false,0,[],0,false,c,e,v.Kind,v.b5,v.bo,v.bx,v.ae,v.Rest,[])>>=λo=>match o with
 |.inl H=>
 some (⟨I.eta H.Value,H.Path,H.eB⟩:dJ)
 |.inr a=>
 nj (a.1,0,a.2.1,I.eta a.2.2.1,a.2.2.2.1,a.2.2.2.2.1,a.2.2.2.2.2.1,a.2.2.2.2.2.2.1,a.2.2.2.2.2.2.2.1,a.2.2.2.2.2.2.2.2.1,a.2.2.2.2.2.2.2.2.2.1,a.2.2.2.2.2.2.2.2.2.2.1,a.2.2.2.2.2.2.2.2.2.2.2.1,a.2.2.2.2.2.2.2.2.2.2.2.2.1,a.2.2.2.2.2.2.2.2.2.2.2.2.2.1,a.2.2.2.2.2.2.2.2.2.2.2.2.2.2.1,a.2.2.2.2.2.2.2.2.2.2.2.2.2.2.2.1,a.2.2.2.2.2.2.2.2.2.2.2.2.2.2.2.2.1,a.2.2.2.2.2.2.2.2.2.2.2.2.2.2.2.2.2.1,a.2.2.2.2.2.2.2.2.2.2.2.2.2.2.2.2.2.2,[])>>=λbe=>match be with
 |.inl J=>
 some (⟨I.eta J.Value,J.Path,J.eB⟩:dJ)
 |.inr g=>
 ny (⟨g.2.2.2.2.2.2.1,g.2.2.2.2.2.2.2.1,g.2.2.2.2.2.2.2.2.1,g.2.2.2.2.2.2.2.2.2.1,g.2.2.2.2.2.2.2.2.2.2.1,g.2.2.2.2.2.2.2.2.2.2.2.2.1,g.2.2.2.2.2.2.2.2.2.2.2.2.2,g.2.2.2.2.2.2.2.2.2.2.2.1⟩:I)>>=λA=>some (⟨I.eta A.Value,A.Path,A.eB⟩:dJ)else if(bif bif (c.Kind=7:Bool)then true else (c.Kind=8:Bool)then (e.Max<(v.ai.length:Int):Bool)else false) then kt path>>=λK=>some (⟨I.eta K.Value,K.Path,K.eB⟩:dJ)else if (c.Kind=6:Bool) then w5 (w,c,I.eta v,r,e,path)>>=λbp=>some (⟨I.eta bp.Value,bp.Path,bp.eB⟩:dJ)else if (c.Kind=5:Bool) then xy (w,c,I.eta v,r,e,path)>>=λbs=>some (⟨I.eta bs.Value,bs.Path,bs.eB⟩:dJ)else ni (path,0,w.Types,I.eta v,r.Types,0,false,0,[],0,false,c,e,v.Kind,v.b5,v.bo,v.bx,v.ae,v.Rest,[])>>=λg1=>match g1 with
 |.inl bi=>
 some (⟨I.eta bi.Value,bi.Path,bi.eB⟩:dJ)
 |.inr f=>
 nj (f.1,0,f.2.1,I.eta f.2.2.1,f.2.2.2.1,f.2.2.2.2.1,f.2.2.2.2.2.1,f.2.2.2.2.2.2.1,f.2.2.2.2.2.2.2.1,f.2.2.2.2.2.2.2.2.1,f.2.2.2.2.2.2.2.2.2.1,f.2.2.2.2.2.2.2.2.2.2.1,f.2.2.2.2.2.2.2.2.2.2.2.1,f.2.2.2.2.2.2.2.2.2.2.2.2.1,f.2.2.2.2.2.2.2.2.2.2.2.2.2.1,f.2.2.2.2.2.2.2.2.2.2.2.2.2.2.1,f.2.2.2.2.2.2.2.2.2.2.2.2.2.2.2.1,f.2.2.2.2.2.2.2.2.2.2.2.2.2.2.2.2.1,f.2.2.2.2.2.2.2.2.2.2.2.2.2.2.2.2.2.1,f.2.2.2.2.2.2.2.2.2.2.2.2.2.2.2.2.2.2,[])>>=λg2=>match g2 with
 |.inl bd=>
 some (⟨I.eta bd.Value,bd.Path,bd.eB⟩:dJ)
 |.inr E=>
 ny (⟨E.2.2.2.2.2.2.1,E.2.2.2.2.2.2.2.1,E.2.2.2.2.2.2.2.2.1,E.2.2.2.2.2.2.2.2.2.1,E.2.2.2.2.2.2.2.2.2.2.1,E.2.2.2.2.2.2.2.2.2.2.2.2.1,E.2.2.2.2.2.2.2.2.2.2.2.2.2,E.2.2.2.2.2.2.2.2.2.2.2.1⟩:I)>>=λbv=>some (⟨I.eta bv.Value,bv.Path,bv.eB⟩:dJ)else none else none
  partial_fixpoint
def xy(t:bl×ah×I×bl×ah×au):Option dJ:=
 match t with
 |(w,c,v,r,y,path)=>
 oC (path,0,w.Types,c,I.eta v,r.Types,y,0,false,0,[],0,false,v.Kind,false,0,[],0,[])>>=λo=>match o with
 |.inl H=>
 some (⟨I.eta H.Value,H.Path,H.eB⟩:dJ)
 |.inr a=>
 nh (a.1,0,a.2.1,a.2.2.1,I.eta a.2.2.2.1,a.2.2.2.2.1,a.2.2.2.2.2.1,a.2.2.2.2.2.2.1,a.2.2.2.2.2.2.2.1,a.2.2.2.2.2.2.2.2.1,a.2.2.2.2.2.2.2.2.2.1,a.2.2.2.2.2.2.2.2.2.2.1,a.2.2.2.2.2.2.2.2.2.2.2.1,a.2.2.2.2.2.2.2.2.2.2.2.2.1,a.2.2.2.2.2.2.2.2.2.2.2.2.2.1,a.2.2.2.2.2.2.2.2.2.2.2.2.2.2.1,a.2.2.2.2.2.2.2.2.2.2.2.2.2.2.2.1,a.2.2.2.2.2.2.2.2.2.2.2.2.2.2.2.2,[])>>=λbe=>match be with
 |.inl J=>
 some (⟨I.eta J.Value,J.Path,J.eB⟩:dJ)
 |.inr g=>
 ny (⟨g.2.2.2.2.2.2.1,g.2.2.2.2.2.2.2.1,g.2.2.2.2.2.2.2.2.1,g.2.2.2.2.2.2.2.2.2.1,g.2.2.2.2.2.2.2.2.2.2.1,[],g.2.2.2.2.2.2.2.2.2.2.2.1,g.2.2.2.2.2.2.2.2.2.2.2.2⟩:I)>>=λq=>some (⟨I.eta q.Value,q.Path,q.eB⟩:dJ)
  partial_fixpoint
def w5:bl×ah×I×bl×ah×au->Option dJ
 |(w,c,v,r,y,path)=>
 ib (c,v.ae)>>=λq=>ib (y,v.ae)>>=λN=>if(bif (!N.2)then(!y.Open)else false) then kt path>>=λj=>some (⟨I.eta j.Value,j.Path,j.eB⟩:dJ)else if !N.2 then if aI q.1 c.ag.length then if aI 0 v.ai.length then jU (w,(c.ag.getD q.1.toNat aD).aB,I.eta (v.ai.getD (0:Int).toNat az))>>=λF=>ny (⟨v.Kind,false,0,[],v.ae,[],[],[(⟨v.ae,F⟩:b6)]⟩:I)>>=λB=>some (⟨I.eta B.Value,B.Path,B.eB⟩:dJ)else none else none else if aI q.1 c.ag.length then if aI 0 v.ai.length then if aI N.1 y.ag.length then p3 (path,v.ae)>>=λx=>mA (w,(c.ag.getD q.1.toNat aD).aB,I.eta (v.ai.getD (0:Int).toNat az),r,(y.ag.getD N.1.toNat aD).aB,x)>>=λA=>if !A.eB then some (⟨I.eta A.Value,A.Path,A.eB⟩:dJ)else ny (⟨v.Kind,false,0,[],v.ae,[],[I.eta A.Value],[]⟩:I)>>=λK=>some (⟨I.eta K.Value,K.Path,K.eB⟩:dJ)else none else none else none
  partial_fixpoint
def ni:au×Int×List ah×I×List ah×Int×Bool×Int×ao×Int×Bool×ah×ah×Int×Bool×Int×ao×Int×List b6×List I->Option ((dJ) ⊕ (au×List ah×I×List ah×Int×Bool×Int×ao×Int×Bool×ah×ah×Int×Bool×Int×ao×Int×List b6×List I))
 |(bj,i,a3,Q,a4,b2,ce,ci,cp,cs,ct,a5,a9,cF,c',dr,dt,ec,eq,bc)=>
 if (i<(Q.aG.length:Int):Bool) then if aI i Q.aG.length then p3 (bj,i)>>=λg3=>mA ((⟨a3⟩:bl),a5.Key,I.eta (Q.aG.getD i.toNat az),(⟨a4⟩:bl),a9.Key,g3)>>=λS=>if !S.eB then some (.inl (⟨I.eta S.Value,S.Path,S.eB⟩:dJ))else some [I.eta S.Value]>>=λt161=>if room 120 (bc++t161).length then ni (bj,aQ .i64 i 1,a3,I.eta Q,a4,b2,ce,ci,cp,cs,ct,a5,a9,cF,c',dr,dt,ec,eq,bc++t161)else none else none else some (.inr (bj,a3,I.eta Q,a4,b2,ce,ci,cp,cs,ct,a5,a9,cF,c',dr,dt,ec,eq,bc))
  partial_fixpoint
def nj:au×Int×List ah×I×List ah×Int×Bool×Int×ao×Int×Bool×ah×ah×Int×Bool×Int×ao×Int×List b6×List I×List I->Option ((dJ) ⊕ (Int×Bool×Int×ao×Int×Bool×Int×Bool×Int×ao×Int×List b6×List I×List I))
 |(g0,R,es,X,ex,fd,ff,fo,fs,fK,gc,gd,ge,gl,gs,gt,bX,bY,b0,b1,Z)=>
 if (R<(X.ai.length:Int):Bool) then if aI R X.ai.length then p3 (g0,R)>>=λg4=>mA ((⟨es⟩:bl),gd.aC,I.eta (X.ai.getD R.toNat az),(⟨ex⟩:bl),ge.aC,g4)>>=λU=>if !U.eB then some (.inl (⟨I.eta U.Value,U.Path,U.eB⟩:dJ))else some [I.eta U.Value]>>=λt194=>if room 120 (Z++t194).length then nj (g0,aQ .i64 R 1,es,I.eta X,ex,fd,ff,fo,fs,fK,gc,gd,ge,gl,gs,gt,bX,bY,b0,b1,Z++t194)else none else none else some (.inr (fd,ff,fo,fs,fK,gc,gl,gs,gt,bX,bY,b0,b1,Z))
  partial_fixpoint
def oC:au×Int×List ah×ah×I×List ah×ah×Int×Bool×Int×ao×Int×Bool×Int×Bool×Int×ao×Int×List I->Option ((dJ) ⊕ (au×List ah×ah×I×ah×Int×Bool×Int×ao×Int×Bool×Int×Bool×Int×ao×Int×List I))
 |(Y,k,W,D,G,ad,M,am,an,ap,av,ax,aE,aH,aY,a0,a1,a2,P)=>
 if (k<(M.ag.length:Int):Bool) then if aI k M.ag.length then some (M.ag.getD k.toNat aD)>>=λe=>p3 (Y,e.ae)>>=λL=>ib (D,e.ae)>>=λp=>if(bif (!p.2)then(!e.bV)else false) then kt L>>=λbJ=>some (.inl (⟨I.eta bJ.Value,bJ.Path,bJ.eB⟩:dJ))else if !p.2 then some [I.eta e.bz]>>=λt65=>if room 120 (P++t65).length then oC (Y,aQ .i64 k 1,W,D,I.eta G,ad,M,am,an,ap,av,ax,aE,aH,aY,a0,a1,a2,P++t65)else none else if aI p.1 D.ag.length then if aI p.1 G.ai.length then mA ((⟨W⟩:bl),(D.ag.getD p.1.toNat aD).aB,I.eta (G.ai.getD p.1.toNat az),(⟨ad⟩:bl),e.aB,L)>>=λj=>if aI p.1 D.ag.length then some (D.ag.getD p.1.toNat aD)>>=λO=>if aI p.1 G.ai.length then uE ((⟨O.ae,O.Name,O.aB,O.cv,O.bV,I.eta O.bz⟩:aU),I.eta (G.ai.getD p.1.toNat az))>>=λF=>some (!j.eB)>>=λt99=>(if(F&&(!t99)) then uE ((⟨e.ae,e.Name,e.aB,e.cv,e.bV,I.eta e.bz⟩:aU),I.eta j.Value)else some false)>>=λB=>if(bif F then bif t99 then true else(!B)else false) then kt L>>=λx=>some (.inl (⟨I.eta x.Value,x.Path,x.eB⟩:dJ))else if !j.eB then some (.inl (⟨I.eta j.Value,j.Path,j.eB⟩:dJ))else some [I.eta j.Value]>>=λt118=>if room 120 (P++t118).length then oC (Y,aQ .i64 k 1,W,D,I.eta G,ad,M,am,an,ap,av,ax,aE,aH,aY,a0,a1,a2,P++t118)else none else none else none else none else none else none else some (.inr (Y,W,D,I.eta G,M,am,an,ap,av,ax,aE,aH,aY,a0,a1,a2,P))
  partial_fixpoint
end
theorem Sj:eQ rp mA/\eY 66 0 [1] wA nj/\eY 66 0 [0] wz ni/\eQ Di xy/\eY 124 0 [0] yY oC/\eQ Dh w5:=mA.mutual_partial_correctness (eM rp) (eX 66 0 [1] wA) (eX 66 0 [0] wz) (eM Di) (eX 124 0 [0] yY) (eM Dh)
 (λ_ _ _ _ h1 a c bp _ _ h=>eT h (.k Bg (.k EY (.k (cC Dh bp) (.k (cC Di c) (.k E4 .n))))) (.k (fb wz a) (.k (fb wA h1) .n)))
 (λ_ _ h0 h1 _ _ h=>fa wA h1 h (.k w8 (.k (cC rp h0) .n)))
 (λ_ _ h0 a _ _ h=>fa wz a h (.k w8 (.k (cC rp h0) .n)))
 (λ_ b _ _ h=>eT h (.k E4 .n) (.k (fb yY b) (.k S5 .n)))
 (λ_ _ h0 b _ _ h=>fa yY b h (.k w8 (.k oD (.k Bg (.k (cC rp h0) (.k O9 .n))))))
 (λ_ h0 _ _ h=>eT h (.k oD (.k Bg (.k EW (.k E4 (.k w8 (.k (cC rp h0) .n)))))))
theorem TB:bm rp mA:=cC _ Sj.1
def Bl:bl×Int×I×bl×Int->Option (I×Int)
 |(w,wt,v,r,rt)=>
 AR (w,wt,I.eta v,r,rt)>>=λa=>if !(a=0:Bool) then some ((⟨0,false,0,[],0,[],[],[]⟩:I),a)else mA (w,wt,I.eta v,r,rt,[])>>=λb=>if !b.eB then some ((⟨0,false,0,[],0,[],[],[]⟩:I),12)else some (I.eta b.Value,0)
theorem SC:bm acy Bl:= .bA (.k T0 (.k TB .n))
end
section
open Go Go.Proofs.YtkbmjabicjpmjaaGreatDoor.Shv
open Tryz
set_option maxRecDepth 100000


end
section
open Go Go.Proofs.YtkbmjabicjpmjaaGreatDoor.Shv
open Tryz
set_option maxRecDepth 100000
def iD:Int×List ah×au×Bool->Option (Int×List ah×au×Bool)
 |(n,b,a,c)=>
 if ((a.length:Int)=0:Bool) then some (0,b,a,c)else if aI 0 a.length then if !(n=0:Bool) then if ez 1 (a.length:Int) a.length then some (cf (b9 .i64 (a.getD (0:Int).toNat 0)) n,b,e1 a 1 (a.length:Int),c)else none else none else none
theorem r8:bm acr iD:= .bA
def r5:ao×Int×List ah×au×Bool->Option (ao×List ah×au×Bool)
 |(b,n,c,d,e)=>
 if (0<n:Bool) then iD (3,c,d,e)>>=λa=>some (mq (b9 .i32 (aQ .i64 97 a.1)))>>=λt21=>if (b.length+t21.length<=eo:Bool) then r5 (b++t21,dL .i64 n 1,a.2.1,a.2.2.1,a.2.2.2)else none else some (b,c,d,e)
  partial_fixpoint
theorem R5:cS 254 1 [0] Lp r5:= .rx r5.partial_correctness (.k r8 .n)
def Bf:Int×List ah×au×Bool->Option (ao×List ah×au×Bool)
 |(most,b,a,c)=>
 iD (aQ .i64 (eN most 3) 1,b,a,c)>>=λr=>r5 ([],r.1,r.2.1,r.2.2.1,r.2.2.2)>>=λo=>some (o.1,o.2.1,o.2.2.1,o.2.2.2)
theorem SX:bm acs Bf:= .bA (.k r8 .n) (.k R5 .n)
def uF:List ah×au×Bool->Option (Bool×List ah×au×Bool)
 |(b,c,a)=>
 if a then iD (4,b,c,a)>>=λr=>some (bif a then decide (r.1=3)else false,r.2.1,r.2.2.1,r.2.2.2)else some (bif a then false else false,b,c,a)
theorem S6:bm acu uF:= .bA (.k r8 .n)
def AV:ah×Int->Option Bool
 |(t,n)=>
 ib (t,n)>>=λr=>uL (t,n)>>=λa=>some (bif r.2 then true else a.2)
theorem TC:bm acE AV:= .bA (.k oD (.k EY .n))
def tV:Int×List ah×au×Bool×ah->Option (Int×List ah×au×Bool)
 |(a,b,c,d,e)=>
 AV (e,a)>>=λf=>if f then tV (aQ .i64 a 1,b,c,d,e)else some (a,b,c,d)
  partial_fixpoint
theorem R4:cS 256 1 [0] Lq tV:= .rx tV.partial_correctness (.k TC .n)
def qh:ah×List ah×au×Bool->Option (Int×List ah×au×Bool)
 |(t,b,a,c)=>
 iD (14,b,a,c)>>=λr=>tV (aQ .i64 1 r.1,r.2.1,r.2.2.1,r.2.2.2,t)>>=λo=>some (o.1,o.2.1,o.2.2.1,o.2.2.2)
theorem R6:bm acv qh:= .bA (.k r8 .n) (.k R4 .n)
def uG:Int×List ah×au×Bool->Option (b6×List ah×au×Bool)
 |(n,b,a,c)=>
 some [[],[1],[97],[3,1,2]]>>=λt6=>iD (4,b,a,c)>>=λr=>if aI r.1 t6.length then some ((⟨n,t6.getD r.1.toNat []⟩:b6),r.2.1,r.2.2.1,r.2.2.2)else none
theorem S7:bm acw uG:= .bA (.k r8 .n)
def qw:Int×I×I×I×Int×Bool×Int×ao×Int->Option (Int×I×I×I×Int×Bool×Int×ao×Int)
 |(b,a,c,d,e,f,g,i,j)=>
 some (decide (b<(a.aG.length:Int)))>>=λt12=>if(aI b a.aG.length||(!t12)) then (if t12 then o1 (I.eta (a.aG.getD b.toNat az),I.eta c)else some 0)>>=λk=>if(bif t12 then (k<0:Bool)else false) then qw (aQ .i64 b 1,I.eta a,I.eta c,I.eta d,e,f,g,i,j)else some (b,I.eta a,I.eta c,I.eta d,e,f,g,i,j)else none
  partial_fixpoint
theorem Sk:cS 258 0 [0] Lr qw:= .rx qw.partial_correctness (.k EV .n)
def AZ:I×I×I->Option I
 |(v,key,item)=>
 qw (0,I.eta v,I.eta key,I.eta item,0,false,0,[],0)>>=λo=>some (decide (o.1<(o.2.1.aG.length:Int)))>>=λt29=>if(aI o.1 o.2.1.aG.length||(!t29)) then (if t29 then o1 (I.eta (o.2.1.aG.getD o.1.toNat az),I.eta o.2.2.1)else some 0)>>=λr=>if(bif t29 then (r=0:Bool)else false) then some (I.eta o.2.1)else if ez 0 o.1 o.2.1.aG.length then some (e1 o.2.1.aG 0 o.1)>>=λt45=>if room 120 ([]++t45).length then some ([]++t45)>>=λl=>some [I.eta o.2.2.1]>>=λt48=>if room 120 (l++t48).length then some (l++t48)>>=λa=>if ez o.1 (o.2.1.aG.length:Int) o.2.1.aG.length then some (e1 o.2.1.aG o.1 (o.2.1.aG.length:Int))>>=λt53=>if room 120 (a++t53).length then if ez 0 o.1 o.2.1.ai.length then some (e1 o.2.1.ai 0 o.1)>>=λt60=>if room 120 ([]++t60).length then some ([]++t60)>>=λb=>some [I.eta o.2.2.2.1]>>=λt63=>if room 120 (b++t63).length then some (b++t63)>>=λc=>if ez o.1 (o.2.1.ai.length:Int) o.2.1.ai.length then some (e1 o.2.1.ai o.1 (o.2.1.ai.length:Int))>>=λt68=>if room 120 (c++t68).length then some (⟨o.2.1.Kind,o.2.1.b5,o.2.1.bo,o.2.1.bx,o.2.1.ae,a++t53,c++t68,o.2.1.Rest⟩:I)else none else none else none else none else none else none else none else none else none else none else none
theorem Uz:bm acx AZ:= .bA (.k EV .n) (.k Sk .n)
mutual
def js:Int×List ah×au×Bool->Option (I×List ah×au×Bool)
 |(t,b,e,f)=>
 if aI t b.length then some (b.getD t.toNat aN)>>=λa=>if (a.Kind=1:Bool) then iD (2,b,e,f)>>=λr=>some ((⟨a.Kind,decide (r.1=1),0,[],0,[],[],[]⟩:I),r.2.1,r.2.2.1,r.2.2.2)else if (a.Kind=2:Bool) then iD (256,b,e,f)>>=λbi=>some (aQ .i64 (dL .i64 a.bG a.bE) 1)>>=λt51=>if !(t51=0:Bool) then some ((⟨a.Kind,false,aQ .i64 a.bE (cf bi.1 t51),[],0,[],[],[]⟩:I),bi.2.1,bi.2.2.1,bi.2.2.2)else none else if (a.Kind=3:Bool) then Bf (a.Max,b,e,f)>>=λaH=>some ((⟨a.Kind,false,0,aH.1,0,[],[],[]⟩:I),aH.2.1,aH.2.2.1,aH.2.2.2)else if (a.Kind=4:Bool) then iD ((a.bg.length:Int),b,e,f)>>=λj=>if aI j.1 a.bg.length then some (a.bg.getD j.1.toNat dR)>>=λg8=>if a.Open then uF (j.2.1,j.2.2.1,j.2.2.2)>>=λy=>if(bif a.Open then y.1 else false) then qh (a,y.2.1,y.2.2.1,y.2.2.2)>>=λa9=>some ((⟨a.Kind,false,0,[],a9.1,[],[],[]⟩:I),a9.2.1,a9.2.2.1,a9.2.2.2)else some ((⟨a.Kind,false,0,[],g8.ae,[],[],[]⟩:I),y.2.1,y.2.2.1,y.2.2.2)else if(bif a.Open then false else false) then qh (a,j.2.1,j.2.2.1,j.2.2.2)>>=λbc=>some ((⟨a.Kind,false,0,[],bc.1,[],[],[]⟩:I),bc.2.1,bc.2.2.1,bc.2.2.2)else some ((⟨a.Kind,false,0,[],g8.ae,[],[],[]⟩:I),j.2.1,j.2.2.1,j.2.2.2)else none else if (a.Kind=5:Bool) then mf (0,b,e,f,0,false,0,[],0,a.Kind,a.Name,a.bE,a.bG,a.Max,a.bg,a.ag,a.Key,a.aC,a.Open,a.Kind,false,0,[],0,[])>>=λo=>uF (o.1,o.2.1,o.2.2.1)>>=λA=>if A.1 then qh ((⟨o.2.2.2.2.2.2.2.2.1,o.2.2.2.2.2.2.2.2.2.1,o.2.2.2.2.2.2.2.2.2.2.1,o.2.2.2.2.2.2.2.2.2.2.2.1,o.2.2.2.2.2.2.2.2.2.2.2.2.1,o.2.2.2.2.2.2.2.2.2.2.2.2.2.1,o.2.2.2.2.2.2.2.2.2.2.2.2.2.2.1,o.2.2.2.2.2.2.2.2.2.2.2.2.2.2.2.1,o.2.2.2.2.2.2.2.2.2.2.2.2.2.2.2.2.1,o.2.2.2.2.2.2.2.2.2.2.2.2.2.2.2.2.2.1⟩:ah),A.2.1,A.2.2.1,A.2.2.2)>>=λbd=>uG (bd.1,bd.2.1,bd.2.2.1,bd.2.2.2)>>=λbe=>some ((⟨o.2.2.2.2.2.2.2.2.2.2.2.2.2.2.2.2.2.2.1,o.2.2.2.2.2.2.2.2.2.2.2.2.2.2.2.2.2.2.2.1,o.2.2.2.2.2.2.2.2.2.2.2.2.2.2.2.2.2.2.2.2.1,o.2.2.2.2.2.2.2.2.2.2.2.2.2.2.2.2.2.2.2.2.2.1,o.2.2.2.2.2.2.2.2.2.2.2.2.2.2.2.2.2.2.2.2.2.2.1,[],o.2.2.2.2.2.2.2.2.2.2.2.2.2.2.2.2.2.2.2.2.2.2.2,[be.1]⟩:I),be.2.1,be.2.2.1,be.2.2.2)else some ((⟨o.2.2.2.2.2.2.2.2.2.2.2.2.2.2.2.2.2.2.1,o.2.2.2.2.2.2.2.2.2.2.2.2.2.2.2.2.2.2.2.1,o.2.2.2.2.2.2.2.2.2.2.2.2.2.2.2.2.2.2.2.2.1,o.2.2.2.2.2.2.2.2.2.2.2.2.2.2.2.2.2.2.2.2.2.1,o.2.2.2.2.2.2.2.2.2.2.2.2.2.2.2.2.2.2.2.2.2.2.1,[],o.2.2.2.2.2.2.2.2.2.2.2.2.2.2.2.2.2.2.2.2.2.2.2,[]⟩:I),A.2.1,A.2.2.1,A.2.2.2)else if (a.Kind=6:Bool) then if a.Open then uF (b,e,f)>>=λB=>if(bif a.Open then B.1 else false) then qh (a,B.2.1,B.2.2.1,B.2.2.2)>>=λad=>uG (ad.1,ad.2.1,ad.2.2.1,ad.2.2.2)>>=λbj=>some ((⟨a.Kind,false,0,[],ad.1,[],[],[bj.1]⟩:I),bj.2.1,bj.2.2.1,bj.2.2.2)else iD ((a.ag.length:Int),B.2.1,B.2.2.1,B.2.2.2)>>=λam=>if aI am.1 a.ag.length then some (a.ag.getD am.1.toNat aD)>>=λg9=>js (g9.aB,am.2.1,am.2.2.1,am.2.2.2)>>=λbp=>some ((⟨a.Kind,false,0,[],g9.ae,[],[I.eta bp.1],[]⟩:I),bp.2.1,bp.2.2.1,bp.2.2.2)else none else if(bif a.Open then false else false) then qh (a,b,e,f)>>=λan=>uG (an.1,an.2.1,an.2.2.1,an.2.2.2)>>=λbs=>some ((⟨a.Kind,false,0,[],an.1,[],[],[bs.1]⟩:I),bs.2.1,bs.2.2.1,bs.2.2.2)
 else iD ((a.ag.length:Int),b,e,f)>>=λap=>if aI ap.1 a.ag.length then some (a.ag.getD ap.1.toNat aD)>>=λhe=>js (he.aB,ap.2.1,ap.2.2.1,ap.2.2.2)>>=λbv=>some ((⟨a.Kind,false,0,[],he.ae,[],[I.eta bv.1],[]⟩:I),bv.2.1,bv.2.2.1,bv.2.2.2)else none else if (a.Kind=7:Bool) then iD (aQ .i64 (eN a.Max 3) 1,b,e,f)>>=λbJ=>pQ (bJ.1,bJ.2.1,bJ.2.2.1,bJ.2.2.2,0,false,0,[],0,a.Kind,a.Name,a.bE,a.bG,a.Max,a.bg,a.ag,a.Key,a.aC,a.Open,a.Kind,false,0,[],0,[])>>=λq=>some ((⟨q.2.2.2.2.2.2.2.2.1,q.2.2.2.2.2.2.2.2.2.1,q.2.2.2.2.2.2.2.2.2.2.1,q.2.2.2.2.2.2.2.2.2.2.2.1,q.2.2.2.2.2.2.2.2.2.2.2.2.1,[],q.2.2.2.2.2.2.2.2.2.2.2.2.2,[]⟩:I),q.1,q.2.1,q.2.2.1)else if (a.Kind=8:Bool) then iD (aQ .i64 (eN a.Max 3) 1,b,e,f)>>=λaY=>qg (aY.1,aY.2.1,aY.2.2.1,aY.2.2.2,0,false,0,[],0,a.Kind,a.Name,a.bE,a.bG,a.Max,a.bg,a.ag,a.Key,a.aC,a.Open,a.Kind,false,0,[],0,[],[],[])>>=λg=>some ((⟨g.2.2.2.2.2.2.2.2.1,g.2.2.2.2.2.2.2.2.2.1,g.2.2.2.2.2.2.2.2.2.2.1,g.2.2.2.2.2.2.2.2.2.2.2.1,g.2.2.2.2.2.2.2.2.2.2.2.2.1,g.2.2.2.2.2.2.2.2.2.2.2.2.2.1,g.2.2.2.2.2.2.2.2.2.2.2.2.2.2.1,g.2.2.2.2.2.2.2.2.2.2.2.2.2.2.2⟩:I),g.1,g.2.1,g.2.2.1)else iD (2,b,e,f)>>=λw=>if (w.1=1:Bool) then js (a.aC,w.2.1,w.2.2.1,w.2.2.2)>>=λa0=>some ((⟨a.Kind,false,0,[],0,[],[I.eta a0.1],[]⟩:I),a0.2.1,a0.2.2.1,a0.2.2.2)else some ((⟨a.Kind,false,0,[],0,[],[],[]⟩:I),w.2.1,w.2.2.1,w.2.2.2)else none
  partial_fixpoint
def mf:Int×List ah×au×Bool×Int×Bool×Int×ao×Int×Int×ao×Int×Int×Int×List c6×List aU×Int×Int×Bool×Int×Bool×Int×ao×Int×List I->Option (List ah×au×Bool×Int×Bool×Int×ao×Int×Int×ao×Int×Int×Int×List c6×List aU×Int×Int×Bool×Int×Bool×Int×ao×Int×List I)
 |(i,av,ax,aE,E,F,G,H,J,K,L,M,N,O,P,c,Q,R,S,U,W,X,Y,Z,p)=>
 if (i<(c.length:Int):Bool) then if aI i c.length then some (c.getD i.toNat aD)>>=λbY=>if bY.bV then iD (3,av,ax,aE)>>=λx=>if(bif bY.bV then (x.1=0:Bool)else false) then if aI i c.length then some [I.eta (c.getD i.toNat aD).bz]>>=λt113=>if room 120 (p++t113).length then mf (aQ .i64 i 1,x.2.1,x.2.2.1,x.2.2.2,E,F,G,H,J,K,L,M,N,O,P,c,Q,R,S,U,W,X,Y,Z,p++t113)else none else none else if aI i c.length then js ((c.getD i.toNat aD).aB,x.2.1,x.2.2.1,x.2.2.2)>>=λa1=>some [I.eta a1.1]>>=λt126=>if room 120 (p++t126).length then mf (aQ .i64 i 1,a1.2.1,a1.2.2.1,a1.2.2.2,E,F,G,H,J,K,L,M,N,O,P,c,Q,R,S,U,W,X,Y,Z,p++t126)else none else none else if(bif bY.bV then false else false) then if aI i c.length then some [I.eta (c.getD i.toNat aD).bz]>>=λg6=>if room 120 (p++g6).length then mf (aQ .i64 i 1,av,ax,aE,E,F,G,H,J,K,L,M,N,O,P,c,Q,R,S,U,W,X,Y,Z,p++g6)else none else none else if aI i c.length then js ((c.getD i.toNat aD).aB,av,ax,aE)>>=λa2=>some [I.eta a2.1]>>=λg7=>if room 120 (p++g7).length then mf (aQ .i64 i 1,a2.2.1,a2.2.2.1,a2.2.2.2,E,F,G,H,J,K,L,M,N,O,P,c,Q,R,S,U,W,X,Y,Z,p++g7)else none else none else none else some (av,ax,aE,E,F,G,H,J,K,L,M,N,O,P,c,Q,R,S,U,W,X,Y,Z,p)
  partial_fixpoint
def pQ:Int×List ah×au×Bool×Int×Bool×Int×ao×Int×Int×ao×Int×Int×Int×List c6×List aU×Int×Int×Bool×Int×Bool×Int×ao×Int×List I->Option (List ah×au×Bool×Int×Bool×Int×ao×Int×Int×Bool×Int×ao×Int×List I)
 |(n,gd,ge,gl,gs,gt,g0,g1,g2,h1,ii,io,ip,i0,i1,i2,i3,g3,i4,g4,b0,b1,b2,ce,bX)=>
 if (0<n:Bool) then js (g3,gd,ge,gl)>>=λa3=>some [I.eta a3.1]>>=λt193=>if room 120 (bX++t193).length then pQ (dL .i64 n 1,a3.2.1,a3.2.2.1,a3.2.2.2,gs,gt,g0,g1,g2,h1,ii,io,ip,i0,i1,i2,i3,g3,i4,g4,b0,b1,b2,ce,bX++t193)else none else some (gd,ge,gl,gs,gt,g0,g1,g2,g4,b0,b1,b2,ce,bX)
  partial_fixpoint
def qg:Int×List ah×au×Bool×Int×Bool×Int×ao×Int×Int×ao×Int×Int×Int×List c6×List aU×Int×Int×Bool×Int×Bool×Int×ao×Int×List I×List I×List b6->Option (List ah×au×Bool×Int×Bool×Int×ao×Int×Int×Bool×Int×ao×Int×List I×List I×List b6)
 |(g5,ci,cp,cs,ct,cF,c',dr,dt,hk,hm,hs,ht,hu,hw,hH,ec,eq,h0,es,ex,fd,ff,fo,fs,fK,gc)=>
 if (0<g5:Bool) then js (ec,ci,cp,cs)>>=λa4=>js (eq,a4.2.1,a4.2.2.1,a4.2.2.2)>>=λa5=>AZ ((⟨es,ex,fd,ff,fo,fs,fK,gc⟩:I),I.eta a4.1,I.eta a5.1)>>=λv=>qg (dL .i64 g5 1,a5.2.1,a5.2.2.1,a5.2.2.2,ct,cF,c',dr,dt,hk,hm,hs,ht,hu,hw,hH,ec,eq,h0,v.Kind,v.b5,v.bo,v.bx,v.ae,v.aG,v.ai,v.Rest)else some (ci,cp,cs,ct,cF,c',dr,dt,es,ex,fd,ff,fo,fs,fK,gc)
  partial_fixpoint
end
theorem R7:eQ rm js/\eY 182 1 [2] y' qg/\eY 182 1 [1] yC pQ/\eY 182 1 [0] yB mf:=js.mutual_partial_correctness (eM rm) (eX 182 1 [2] y') (eX 182 1 [1] yC) (eX 182 1 [0] yB)
 (λ_ _ _ _ h0 h1 a b _ _ h=>eT h (.k r8 (.k SX (.k S6 (.k R6 (.k S7 (.k (cC rm h0) .n)))))) (.k (fb yB b) (.k (fb yC a) (.k (fb y' h1) .n))))
 (λ_ _ h0 h1 _ _ h=>fa y' h1 h (.k (cC rm h0) (.k Uz .n)))
 (λ_ _ h0 a _ _ h=>fa yC a h (.k (cC rm h0) .n))
 (λ_ _ h0 b _ _ h=>fa yB b h (.k r8 (.k (cC rm h0) .n)))
theorem O7:bm rm js:=cC _ R7.1
def w9:bl×Int×au->Option I
 |(s,t,a)=>
 some (eN 60 (a.length:Int))>>=λt12=>if ez 0 t12 a.length then js (t,s.Types,e1 a 0 t12,false)>>=λr=>some (I.eta r.1)else none
theorem TD:bm abJ w9:= .bA (.k O7 .n)
def w0:bl×Int×au->Option I
 |(s,t,a)=>
 some (eN 60 (a.length:Int))>>=λt12=>if ez 0 t12 a.length then js (t,s.Types,e1 a 0 t12,true)>>=λr=>some (I.eta r.1)else none
theorem SD:bm abK w0:= .bA (.k O7 .n)
def p4(d:lH):Option (bl×Int×I×I×Bool):=
 p2 d.S>>=λr=>if !r.2 then some (r.1,0,(⟨0,false,0,[],0,[],[],[]⟩:I),(⟨0,false,0,[],0,[],[],[]⟩:I),false)else some (r.1.Types.length:Int)>>=λt26=>if !(t26=0:Bool) then some (cf (b9 .i64 d.T) t26)>>=λt27=>w9 (r.1,t27,d.C)>>=λa=>w0 (r.1,t27,d.C)>>=λb=>some (r.1,t27,I.eta a,I.eta b,true)else none
theorem Ue:bm acL p4:= .bA (.k Ph (.k TD (.k SD .n)))
def qu:Int×Int×I->Option (Int×I)
 |(b,i,a)=>
 if(bif (i<(a.Rest.length:Int):Bool)then (0<=b:Bool)else false) then if aI i a.Rest.length then qu (dL .i64 b ((a.Rest.getD i.toNat bS).Data.length:Int),aQ .i64 i 1,I.eta a)else none else some (b,I.eta a)
  partial_fixpoint
theorem SE:cS 112 0 [0] Ls qu:= .rx qu.partial_correctness
mutual
def nz:I×Int->Option Int
 |(v,n)=>
 qu (dL .i64 n (aQ .i64 (aQ .i64 10 (v.bx.length:Int)) (v.Rest.length:Int)),0,I.eta v)>>=λo=>rG (o.1,0,I.eta o.2)>>=λq=>rH (q.1,0,I.eta q.2)>>=λt=>some t
  partial_fixpoint
def rG:Int×Int×I->Option (Int×I)
 |(j,f,a)=>
 if(bif (f<(a.aG.length:Int):Bool)then (0<=j:Bool)else false) then if aI f a.aG.length then nz (I.eta (a.aG.getD f.toNat az),j)>>=λr=>rG (r,aQ .i64 f 1,I.eta a)else none else some (j,I.eta a)
  partial_fixpoint
def rH:Int×Int×I->Option Int
 |(p,g,e)=>
 if(bif (g<(e.ai.length:Int):Bool)then (0<=p:Bool)else false) then if aI g e.ai.length then nz (I.eta (e.ai.getD g.toNat az),p)>>=λw=>rH (w,aQ .i64 g 1,I.eta e)else none else some p
  partial_fixpoint
end
theorem Sl:eQ wk nz/\eY 112 0 [2] zb rH/\eY 112 0 [1] za rG:=nz.mutual_partial_correctness (eM wk) (eX 112 0 [2] zb) (eX 112 0 [1] za)
 (λ_ _ h1 a _ _ h=>eT h .n (.k SE (.k (fb za a) (.k (fb zb h1) .n))))
 (λ_ _ h0 h1 _ _ h=>fa zb h1 h (.k (cC wk h0) .n))
 (λ_ _ h0 a _ _ h=>fa za a h (.k (cC wk h0) .n))
theorem TE:bm wk nz:=cC _ Sl.1
def AT(v:I):Option Bool:=
 nz (I.eta v,3000)>>=λr=>some (decide (0<=r))
theorem T2:bm acM AT:= .bA (.k TE .n)
def r0(c:lJ):Option (bl×bl×Int×I×Bool):=
 p4 c.D>>=λr=>Bj (c.D.S,c.L)>>=λd=>p2 d>>=λa=>some (bif bif (!r.2.2.2.2)then true else(!a.2)then true else decide (4<(c.L.length:Int)))>>=λt44=>(if !t44 then AT (I.eta r.2.2.1)else some false)>>=λb=>if(bif t44 then true else(!b)) then some ((⟨[]⟩:bl),(⟨[]⟩:bl),0,(⟨0,false,0,[],0,[],[],[]⟩:I),false)else some (r.1,a.1,r.2.1,I.eta r.2.2.1,true)
theorem Uf:bm ack r0:= .bA (.k Ue (.k Su (.k Ph (.k T2 .n))))
def Ey:bl×Int×I->Option Bool
 |(s,t,v)=>
 ic (s,t,I.eta v,false)>>=λr=>some r
theorem TF:bm abL Ey:= .bA (.k P1 .n)
def w6:bl×Int×I->Option Int
 |(s,t,v)=>
 uQ s>>=λr=>if !(r=0:Bool) then some r else if(bif (t<0:Bool)then true else ((s.Types.length:Int)<=t:Bool)) then some 4 else Ey (s,t,I.eta v)>>=λa=>if !a then some 1 else some 0
theorem Tl:bm acN w6:= .bA (.k PR (.k TF .n))
mutual
def my:bl×Int×I->Option Int
 |(s,t,v)=>
 if aI t s.Types.length then hF (0,0,s.Types,I.eta v,s.Types.getD t.toNat aN)>>=λo=>if (0<(o.2.aG.length:Int):Bool) then some (aQ .i64 1 (iw o.1 1))else some (aQ .i64 1 o.1)else none
  partial_fixpoint
def hF:Int×Int×List ah×I×ah->Option (Int×I)
 |(f,i,e,a,c)=>
 if (i<(a.ai.length:Int):Bool) then if (c.Kind=5:Bool) then if aI i c.ag.length then some (c.ag.getD i.toNat aD)>>=λg=>if(aI i a.ai.length||(!g.bV)) then (if g.bV then jt (I.eta (a.ai.getD i.toNat az),I.eta g.bz)else some false)>>=λr=>if(bif g.bV then r else false) then hF (f,aQ .i64 i 1,e,I.eta a,c)else if (c.Kind=6:Bool) then ib (c,a.ae)>>=λp=>if aI p.1 c.ag.length then if aI i a.ai.length then my ((⟨e⟩:bl),(c.ag.getD p.1.toNat aD).aB,I.eta (a.ai.getD i.toNat az))>>=λx=>hF (iw f x,aQ .i64 i 1,e,I.eta a,c)else none else none else if aI i a.ai.length then my ((⟨e⟩:bl),g.aB,I.eta (a.ai.getD i.toNat az))>>=λy=>hF (iw f y,aQ .i64 i 1,e,I.eta a,c)else none else none else none else if (c.Kind=6:Bool) then ib (c,a.ae)>>=λq=>if aI q.1 c.ag.length then if aI i a.ai.length then my ((⟨e⟩:bl),(c.ag.getD q.1.toNat aD).aB,I.eta (a.ai.getD i.toNat az))>>=λA=>hF (iw f A,aQ .i64 i 1,e,I.eta a,c)else none else none else if aI i a.ai.length then my ((⟨e⟩:bl),c.aC,I.eta (a.ai.getD i.toNat az))>>=λw=>hF (iw f w,aQ .i64 i 1,e,I.eta a,c)else none else some (f,I.eta a)
  partial_fixpoint
end
theorem Ta:eQ Af my/\eY 64 0 [0] wy hF:=my.mutual_partial_correctness (eM Af) (eX 64 0 [0] wy)
 (λ_ h1 _ _ h=>eT h .n (.k (fb wy h1) .n))
 (λ_ _ h0 h1 _ _ h=>fa wy h1 h (.k wP (.k oD (.k (cC Af h0) .n))))
theorem Sm:bm Af my:=cC _ Ta.1
def xz:bl×Int×I->Option (ao×Int)
 |(s,t,v)=>
 w6 (s,t,I.eta v)>>=λr=>if !(r=0:Bool) then some ([],r)else jU (s,t,I.eta v)>>=λa=>some (decide (4096<(a.length:Int)))>>=λt23=>(if !t23 then my (s,t,I.eta v)else some 0)>>=λb=>if(bif t23 then true else (200<b:Bool)) then some ([],3)else some (a,0)
theorem Sn:bm acp xz:= .bA (.k Tl (.k EW (.k Sm .n)))
def zf(c:lJ):Option Bool:=
 r0 c>>=λr=>xE ()>>=λe=>if(bif bif (!e)then true else(!r.2.2.2.2)then true else ((r.2.1.Types.length:Int)<=r.2.2.1:Bool)) then xE ()>>=λf=>some f else xz (r.1,r.2.2.1,I.eta r.2.2.2.1)>>=λa=>if !(a.2=0:Bool) then some true else Bl (r.1,r.2.2.1,I.eta r.2.2.2.1,r.2.1,r.2.2.1)>>=λb=>AY ((⟨r.1,r.2.2.1⟩:dZ),(⟨r.2.1,r.2.2.1⟩:dZ),a.1)>>=λd=>some (fg d (decide (b.2=12)))
theorem aaF:bm og zf:= .bA (.k Uf (.k TI (.k Sn (.k SC (.k Uw .n)))))
end
section
open Go Go.Proofs.YtkbmjabicjpmjaaGreatDoor.Shv
set_option maxRecDepth 100000
def jL(s:ao):Nat->Nat->Nat->Int×Int×Int
 |0,_,_=>(0,0,10)
 |f+1,i,n=>
  if i<s.length then if i=9/\1<(s.getD i 0).toNat then(0,0,7)else if 128<=(s.getD i 0).toNat then jL s f (i+1) (n+((s.getD i 0).toNat%128)*2^(7*i))else if(s.getD i 0).toNat=0/\0<i then(0,0,2)else(((n+(s.getD i 0).toNat*2^(7*i):Nat):Int),((i+1:Nat):Int),0)else(0,0,10)
theorem OA{i:Nat}(h:i<=9):2^(7*i)<=9223372036854775808:=by
 have:2^(7*i)<=2^63:=Ar (by omega) (by omega);omega
theorem OB(i:Nat):2^(7*(i+1))=2^(7*i)*128:=by rw[Nat.mul_add,Nat.pow_add]
theorem OT{n i b:Nat}(aP:n<2^(7*i)):n+(b%128)*2^(7*i)<2^(7*(i+1)):=by
 rw[OB];have:b%128*2^(7*i)<=127*2^(7*i):=eV _ (by omega);omega
theorem Ds{n i b:Nat}(d:i<=9)(aP:n<2^(7*i))(c:b<128)(a:i=9->b<=1):b*2^(7*i)<18446744073709551616/\n+b*2^(7*i)<18446744073709551616:=by
 rcases Nat.lt_or_ge i 9 with h|h
 . have:2^(7*i)<=2^56:=Ar (by omega) (by omega);have e:(2:Nat)^56=72057594037927936:=(by decide);have:b*2^(7*i)<=127*2^(7*i):=eV _ (by omega);omega
 grind
theorem Lt(s:ao):∀(f i n:Nat),i+f=10->n<2^(7*i)->∃o,ry (s,(n:Int),((min 10 s.length:Nat):Int),(i:Int))=some o/\(match o with|.inl x=>x|.inr _=>(0,0,10))=jL s f i n
 |0,i,n,h,aP=>by
  refine⟨.inr (),?_,rfl⟩;rw[ry];grind
 |f+1,i,n,h,aP=>by
  rw[ry];simp only[jL,a8,aq,yw];by_cases d:i<s.length
  . have e:=GG s i;generalize (s.getD i 0).toNat=b at e⊢;rw[cq,af (aS d),af d];have l:jH .i64 7 (i:Int)=((7*i:Nat):Int):=by rw[KF (by omega) (by omega)];norm_cast
    rw[l];have j:decide ((0:Int)<=((7*i:Nat):Int))=true:=by simp;omega
    by_cases c:i=9/\1<b
    . rw[af c,af (by obtain⟨h1,m⟩:=c;subst h1;simp;omega)];grind
    . rw[al c,al (by grind)];by_cases g:128<=b
      . rw[af g,cq,af j];have k:i=9->False:=λh1=>c ⟨h1,by omega⟩;have aE:b%128<128:=Nat.mod_lt _ (by omega);have a:=Ds (i:=i) (n:=n) (b:=b%128) (by omega) aP aE (λh1=>(k h1).elim);rw[Yg e,h7,IC (by omega) a.1,KM (by have:=OA (i:=i) (by omega);omega) a.1,KE aP,bH (by omega)];exact Lt s f (i+1) (n+b%128*2^(7*i)) (by omega) (OT aP)
      . rw[al g,dE];by_cases h0:b=0/\0<i
        . simp_all
        . rw[al h0,al (by grind),af j];have a:=Ds (i:=i) (n:=n) (b:=b) (by omega) aP (by omega) (λh1=>by omega);rw[h7,IC (by omega) a.1,KM (by have:=OA (i:=i) (by omega);omega) a.1,KE aP,bH (by omega)];grind
  . rw[dE,al d];grind
theorem Lu(s:ao):BI s=some (jL s 10 0 0):=by
 obtain⟨o,h1,a⟩:=Lt s 10 0 0 rfl (by decide);rw[BI];have:eN 10 (s.length:Int)=((min 10 s.length:Nat):Int):=Ge 10 s.length;grind
theorem Ih(s:ao):∀(f i n:Nat),i<=s.length->i+f=10->n<2^(7*i)->(∃e:Int,e≠0/\jL s f i n=(0,0,e))\/∃m k:Nat,jL s f i n=((m:Int),(k:Int),0)/\i<k/\k<=s.length/\m<18446744073709551616
 |0,i,n,l,h,aP=>.inl ⟨10,by decide,rfl⟩
 |f+1,i,n,l,h,aP=>by
  simp only[jL];have g:=GG s i;generalize (s.getD i 0).toNat=b at g⊢;by_cases c:i<s.length
  . rw[af c];by_cases d:i=9/\1<b
    . simp_all
    . rw[al d];by_cases a:128<=b
      . rw[af a];rcases Ih s f (i+1) (n+b%128*2^(7*i)) (by omega) (by omega) (OT aP)with h|⟨m,k,h1,o,p,q⟩
        . exact .inl h
        grind
      . rw[al a];by_cases h0:b=0/\0<i
        . simp_all
        . rw[al h0];have j:=Ds (i:=i) (n:=n) (b:=b) (by omega) aP (by omega) (λh1=>by omega);exact .inr ⟨_,i+1,rfl,by omega,by omega,j.2⟩
  . rw[al c];exact .inl ⟨10,by decide,rfl⟩
theorem vM(s:ao):(∃e:Int,e≠0/\jL s 10 0 0=(0,0,e))\/∃m k:Nat,jL s 10 0 0=((m:Int),(k:Int),0)/\0<k/\k<=s.length/\m<18446744073709551616:=
 Ih s 10 0 0 (by simp) rfl (by simp)
theorem xX{s:ao}{e:Int}(he:e≠0)(h:jL s 10 0 0=(0,0,e)):qa s=some (0,[],false):=by
 grind[qa,Lu]
theorem sf{s:ao}{m k:Nat}(h:jL s 10 0 0=((m:Int),(k:Int),0))(a:k<=s.length):qa s=some ((m:Int),s.drop k,true):=by
 grind[qa,Lu,lO,sL]
def gM:Option (ao×ao)->ao×ao×Bool
 |none=>([],[],false)
 |some (a,b)=>(a,b,true)
def nV(s:ao):Option (ao×ao):=
 match jL s 10 0 0 with
 |(m,k,e)=>if e=0/\m.toNat+k.toNat<=s.length then some ((s.drop k.toNat).take m.toNat,(s.drop k.toNat).drop m.toNat)else none
theorem Bo{s a b:ao}(h:nV s=some (a,b)):a.length+b.length<s.length:=by
 unfold nV at h;rcases vM s with⟨e,he,c⟩|⟨m,k,c,f,d,g⟩
 . grind
 grind
theorem u'{s:ao}(hs:s.length<=1000000:=by omega):ym s=some (gM (nV s)):=by
 rw[ym];unfold nV;rcases vM s with⟨e,he,b⟩|⟨m,k,b,f,d,g⟩
 . rw[xX he b,b];simp[he,gM]
 . rw[sf b d,b];simp only[a8,aq,kb,true_and,vy];rw[h7];by_cases c:m+k<=s.length
   . rw[dE,af (show ez 0 m _=true from lO (a:=0) (by omega) (by omega)),af (lO (by omega) (e9 _)),af c];have:(s.length-k:Nat)=(s.drop k).length:=(by simp);rw[this,sL,sC];rfl
   . rw[cq,al c];rfl
theorem Ii:∀(n:Nat) (s:ao) (b:List ao),s.length<=n->s.length+b.length<=100000->∃o,kv (s,b)=some o/\∀l,o= .inr l->l.length<=s.length+b.length:=by
 intro n;induction n with
 |zero=>
  simp_all[kv]
 |succ n ih=>
  intro s b h1 f;rw[kv,u'];simp only[a8,aq];by_cases hs:s=[]
  . grind
  . have c:(!(decide (s=[])))=true:=(by grind);rw[af c];cases e:nV s with
    |none=>exact⟨.inl 12,rfl,λl ad=>by grind⟩
    |some p=>
     obtain⟨x,y⟩:=p;have ad:=Bo e;have d:room 16 (b++[(gM (some (x,y))).1]).length=true:=dB (by simp) (by grind);have aP:¬((!(gM (some (x,y))).2.2)=true):=(by simp[gM]);rw[af d];obtain⟨o,a,bp⟩:=ih y (b++[x]) (by omega) (by grind);exact⟨o,a,λl g=>by grind⟩
theorem Zq{s:ao}(h:s.length<=90000):∃o,pe s=some o/\o.1.length<=s.length:=by
 obtain⟨o,h1,a⟩:=Ii _ s [] (e9 _) (by grind);rw[pe];cases o<;>simp_all
theorem HM:∀(n:Nat) (s:ao) (last:Nat) (b:List eE),s.length<=n->s.length+b.length<=100000->∃o,jv ((last:Int),s,b)=some o/\∀l,o= .inr l->l.length<=s.length+b.length:=by
 intro n;induction n with
 |zero=>
  simp_all[lb,jv,al]
 |succ n ih=>
  intro s last b h1 q;rw[jv];by_cases hs:s=[]
  . simp_all
  . have d:(!(decide (s=[])))=true:=(by grind);rw[af d];rcases vM s with⟨e,he,a⟩|⟨m,k,a,t,f,g⟩
    . rw[xX he a];simp_all
    . rw[sf a f];simp only[a8,aq];rw[Eb g];by_cases r:m/2<=last\/1000<m/2
      . exact⟨.inl 12,by grind,λl ad=>by grind⟩
      . have j:b9 .i64 _=((m/2:Nat):Int):=pA;rw[al (by grind),j,u' (by grind)];simp only[aq];cases aj:nV _ with
        |none=>exact⟨.inl 12,rfl,λl ad=>by grind⟩
        |some p=>
         obtain⟨x,y⟩:=p;have ad:=Bo aj;rw[vy]at ad;have i:room 32 (b++[(⟨((m/2:Nat):Int),decide (cf (m:Int) 2=1),(gM (some (x,y))).1⟩:eE)]).length=true:=dB (by simp) (by grind);have aP:¬((!(gM (some (x,y))).2.2)=true):=(by simp[gM]);rw[al aP,af i];obtain⟨o,c,bp⟩:=ih y (m/2) (b++[(⟨((m/2:Nat):Int),decide (cf (m:Int) 2=1),x⟩:eE)]) (by omega) (by grind);exact⟨o,c,λl u=>by grind⟩
theorem Xp{s:ao}(h:s.length<=90000):∃o,p6 s=some o/\o.1.length<=s.length:=by
 obtain⟨o,h1,a⟩:=HM _ s 0 [] (e9 _) (by grind);rw[p6];cases o<;>simp_all
theorem aaJ(s:ao):∃o,qz s=some o:=by
 rw[qz];rcases vM s with⟨e,he,a⟩|⟨m,k,a,d,b,f⟩
 . rw[xX he a];simp
 . rw[sf a b];simp only[a8,aq];by_cases c:m<1\/1000<m
   . exact⟨(0,[],12),by grind⟩
   . rw[al (by grind)];simp
def e4(n:Nat):ao:=if n<128 then[UInt8.ofNat n]else UInt8.ofNat (n%128+128)::e4 (n/128)
termination_by n
decreasing_by omega
theorem xK{n:Nat}(h:n<128):e4 n=[UInt8.ofNat n]:=by rw[e4,af h]
theorem xY{n:Nat}(h:¬n<128):e4 n=UInt8.ofNat (n%128+128)::e4 (n/128):=by rw[e4,al h]
theorem aat{a:Nat}(h:a<256):qR .u8 (a:Int) 128=((a%128+128:Nat):Int):=by
 have key:∀a:Nat,a<256->qR .u8 a 128=a%128+128:=by decide+kernel
 grind
theorem vO(n:Nat):b9 .u8 (n:Int)=((n%256:Nat):Int):=by rfl
theorem aeq(n:Nat):lh .u64 (n:Int) 7=((n/128:Nat):Int):=by
 unfold lh;have:(2^min (7:Int).toNat IntKind.u64.bits)=128:=by rfl
 grind
theorem WM(m:Nat)(l:au):strOf ((m:Int)::l)=UInt8.ofNat m::strOf l:=rfl
theorem BU(a b:au):strOf (a++b)=strOf a++strOf b:=vz
variable{α:Type}{p N:ao}{x:Option Bool}{names:List ao}{q:Bool}{f:aU×aU->Option Bool}{v:I}{t:ah}{S:List c6}{H E K M id:Int}{c:List aU}{ts:List ah}{L':Nat->Option (Int ⊕ Unit)}{o:Option (Int×Bool)}{L:Option (Bool ⊕ Unit)}{a:List α}
theorem FE:∀(l:List α) (i:Nat) (x:α),i<l.length->(l.set i x).take (i+1)=l.take i++[x]
 |[],i,x,h=>by grind
 |a::l,0,x,h=>by rfl
 |a::l,i+1,x,h=>by simp[FE l i x (by grind)]
theorem Lv:∀(f n i:Nat) (b:au),i+f=9->n<128*128^f->b.length=10->∃(cF c:Nat) (a:au),r1 ((n:Int),(i:Int),b)=some ((cF:Int),(c:Int),a)/\cF<128/\c<=9/\a.length=10/\strOf (a.take c)++[UInt8.ofNat cF]=strOf (b.take i)++e4 n
 |f,n,i,b,d,aP,k=>by
  rw[r1];by_cases hs:n<128
  . rw[al (by grind)];grind[xK]
  . rw[af (by grind),af (aS (by
     omega)),af (by
     grind)]
    match f,d,aP with
    |0,d,aP=>grind
    |f+1,d,aP=>
     rw[aeq,bH (by omega),vO,aat (Nat.mod_lt _ (by simp))];have aE:n/128<128*128^f:=(by omega);obtain⟨cF,c,a,h1,e,g,j,bp⟩:=Lv f _ (i+1) (b.set i _) (by omega) aE (by grind);refine⟨cF,c,a,h1,e,g,j,?_⟩;rw[bp,FE _ _ _ (by omega),BU,xY hs];have l:strOf [n%128+128]=[UInt8.ofNat _]:=rfl;grind
theorem oW{n:Nat}(aP:n<18446744073709551616:=by omega):oJ (n:Int)=some (e4 n):=by
 obtain⟨cF,d,e,h1,f,g,i,bp⟩:=Lv 9 n 0 [0,0,0,0,0,0,0,0,0,0] rfl (by grind) rfl;rw[oJ];have a:r1 (n,0,[0,0,0,0,0,0,0,0,0,0])=some _:=h1;rw[a];simp only[a8,aq];have c:ez 0 (d+1:Nat) 10=true:=lO (by simp) (by omega);rw[af (aS (by omega)),af (by grind),bH (by omega),af c,af (by grind[vI]),a',vO];have:cF%256=cF:=po (by omega);rw[this];simp;rw[FE _ _ _ (by omega),BU];have b:strOf [cF]=[UInt8.ofNat cF]:=rfl;rw[b,bp];rfl
theorem HN:∀(f n:Nat) (b:au),n<128^f->n<18446744073709551616->b.length+f<=1000->∃(cF:Nat) (a:au),uO ((n:Int),b)=some ((cF:Int),a)/\cF<128/\a.length<=1000/\strOf a++[UInt8.ofNat cF]=strOf b++e4 n
 |f,n,b,aP,k,l=>by
  rw[uO];by_cases hs:n<128
  . rw[al (by grind)];grind[xK]
  . rw[af (by grind)]
    match f,aP with
    |0,aP=>grind
    |f+1,aP=>
     have j:cf (n:Int) 128=((n%128:Nat):Int):=Ee (b:=128);have g:aQ .u64 _ 128=((n%128+128:Nat):Int):=zM (b:=128) (by omega);have i:gF .u64 (n:Int) 128=((n/128:Nat):Int):=by
      grind[gF,Int.tdiv_eq_ediv_of_nonneg,kO]
     simp only[a8,aq];rw[j,g,i,vO,af (dB (by simp) (by grind))];have aE:n/128<128^f:=(by omega);obtain⟨cF,a,h1,c,d,e⟩:=HN f (n/128) (b++[(((n%128+128)%256:Nat):Int)]) aE (by omega) (by grind);refine⟨cF,a,h1,c,d,?_⟩;rw[e,BU,xY hs];have m:strOf [((n%128+128:Nat):Int)]=[UInt8.ofNat (n%128+128)]:=rfl;grind
theorem xP{n:Nat}(aP:n<18446744073709551616:=by omega):p1 (n:Int)=some (e4 n):=by
 obtain⟨cF,c,h1,d,e,a⟩:=HN 10 n [] (by grind) aP (by simp);rw[p1,h1];simp only[a8,aq];rw[af (dB (by simp) (by grind)),vO,BU];have:cF%256=cF:=po (by omega);rw[this];have b:strOf [cF]=[UInt8.ofNat cF]:=rfl;rw[b,a];rfl
theorem Gf:∀(f n:Nat),n<128^(f+1)->(e4 n).length<=f+1
 |f,n,aP=>by
  by_cases hs:n<128
  . grind[xK]
  . rw[xY hs]
    match f,aP with
    |0,aP=>grind
    |f+1,aP=>
     have:=Gf f (n/128) (by omega);grind
theorem jY{n:Nat}(aP:n<18446744073709551616):(e4 n).length<=10:=Gf 9 n (by grind)
theorem xZ(n:Nat):0<(e4 n).length:=by
 grind[e4]
theorem nF{n:Nat}(h:n<256):(UInt8.ofNat n).toNat=n:=by simp_all
theorem Lw:∀(f i acc n:Nat) (pre rest:ao),i+f=10->pre.length=i->n*2^(7*i)<18446744073709551616->(n=0->i=0)->jL (pre++(e4 n++rest)) f i acc=(((acc+n*2^(7*i):Nat):Int),((i+(e4 n).length:Nat):Int),0)
 |0,i,acc,n,pre,rest,c,aj,aP,h0=>by grind
 |f+1,i,acc,n,pre,rest,c,aj,aP,h0=>by
  have d:i<(pre++(e4 n++rest)).length:=by
   grind[xZ]
  have a:∀(x:UInt8) (r:ao),e4 n=x::r->(pre++(e4 n++rest)).getD i 0=x:=by grind
  simp only[jL];rw[af d];by_cases hs:n<128
  . rw[a _ _ (xK hs),nF (by omega),al (by
     grind),bR,al (by
     grind),xK hs]
    rfl
  . have e:i<9:=(by grind);rw[a _ _ (xY hs),nF (by omega),bR,j7];have g:n%128*2^(7*i)+n/128*2^(7*(i+1))=n*2^(7*i):=by
     rw[OB];have h1:n/128*(2^(7*i)*128)=(n/128*128)*2^(7*i):=(by grind);rw[h1,<-h3];grind
    have b:n/128*2^(7*(i+1))<18446744073709551616:=(by omega);have:=Lw f _ (acc+n%128*2^(7*i)) _ (pre++[UInt8.ofNat (n%128+128)]) rest (by omega) (by grind) b (by omega);have es:pre++(e4 n++rest)=pre++[UInt8.ofNat (n%128+128)]++(e4 (n/128)++rest):=by rw[xY hs];simp
    grind
theorem Hd{n:Nat}(aP:n<18446744073709551616)(rest:ao):jL (e4 n++rest) 10 0 0=((n:Int),((e4 n).length:Int),0):=by
 have:=Lw 10 0 0 n [] rest rfl rfl (by grind) (λ_=>rfl);grind
def dS(p:ao):ao:=e4 p.length++p
theorem fW{n:Nat}(h:n<=9223372036854775807:=by omega):decide (n<=eo)=true:=by
 grind[eo]
theorem CD(h:p.length<=1152921504606846976:=by omega):p8 p=some (dS p):=by
 rw[p8,h7,oW];simp only[a8,aq];have:=jY (n:=p.length) (by omega);rw[af (fW)];rfl
theorem Bx(h:p.length<=1152921504606846976:=by omega):pZ p=some (dS p):=by
 rw[pZ,h7,xP];simp only[a8,aq];have:=jY (n:=p.length) (by omega);rw[af (fW)];rfl
def fR(id:Nat)(c:Bool)(p:ao):ao:=e4 (2*id+(if c then 1 else 0))++dS p
theorem Rc(h:p.length<=1152921504606846976):(dS p).length<=p.length+10:=by
 grind[jY,dS]
theorem Gg{id:Nat}{c:Bool}(hid:id<=4611686018427387903)(h:p.length<=1152921504606846900:=by omega):uk ((id:Int),c,p)=some (fR id c p):=by
 rw[uk];have e:jH .u64 2 (b9 .u64 id)=(2*id:Nat):=by rw[h7];exact DI (a:=2) (by omega)
 simp only[a8,aq];rw[e,CD];have ad:=Rc (p:=p) (by omega);cases c with
 |true=>
  have d:aQ .u64 _ 1=(2*id+1:Nat):=zM (b:=1) (by omega);rw[d,oW];have:=jY (n:=2*id+1) (by omega);simp only[aq];rw[af (fW)];rfl
 |false=>
  rw[oW];have:=jY (n:=2*id) (by omega);simp only[aq];rw[af (fW)];rfl
theorem P9{id:Nat}{c:Bool}(hid:id<=4611686018427387903)(h:p.length<=1152921504606846900):w4 ((id:Int),c,p)=some (fR id c p):=by
 rw[w4];have d:b9 .u64 (jH .i64 2 id)=(2*id:Nat):=by
  rw[KF (by omega) (by omega)];have:(2:Int)*id=(2*id:Nat):=by rfl
  rw[this];exact h7
 simp only[a8,aq];rw[d,Bx];have ad:=Rc (p:=p) (by omega);cases c with
 |true=>
  have a:aQ _ _ 1=(2*id+1:Nat):=zM (b:=1) (by omega);rw[a,xP];have:=jY (n:=2*id+1) (by omega);simp only[aq];rw[af (fW)];rfl
 |false=>
  rw[xP];have:=jY (n:=2*id) (by omega);simp only[aq];rw[af (fW)];rfl
theorem Rk{rest:ao}(h:p.length<=100000):nV (dS p++rest)=some (p,rest):=by
 unfold nV dS;rw[jh,Hd (by omega)];simp;grind
theorem VO{id:Nat}{c:Bool}{rest:ao}{last:Nat}{b:List eE}(h1:last<id)(hid:id<=1000)(h:(fR id c p++rest).length<=100000)(j:b.length<=90000):
 jv ((last:Int),fR id c p++rest,b)=jv ((id:Int),rest,b++[⟨(id:Int),c,p⟩]):=by
 have e:p.length<=100000:=by
  grind[fR,dS,List.length_append]
 have l:fR id c p++rest≠[]:=by
  intro k;grind[xZ,fR,List.length_append,List.length_nil]
 have ak:jL (fR id c p++rest) 10 0 0=(((2*id+(if c then 1 else 0):Nat):Int),((e4 (2*id+(if c then 1 else 0))).length:Int),0):=by
  grind[fR,List.append_assoc,Hd]
 have aP:=sf ak (by grind[fR]);have a:(fR id c p++rest).drop (e4 (2*id+(if c then 1 else 0))).length=dS p++rest:=by
  grind[fR]
 rw[a]at aP;have d:(2*id+(if c then 1 else 0))/2=id:=by grind
 have g:decide (cf ((2*id+(if c then 1 else 0):Nat):Int) 2=1)=c:=by
  have:cf _ 2=(((2*id+(if c then 1 else 0))%2:Nat):Int):=Ee (b:=2);grind
 rw[jv,af (by grind),aP];simp only[a8,aq];rw[Eb (by omega),d,al (by grind),g,u' (by grind),Rk e];simp only[aq];have i:b9 .i64 (id:Int)=(id:Int):=pA (by simp);have m:¬((!(gM (some (p,rest))).2.2)=true):=by simp[gM]
 rw[i];have f:room 32 (b++[(⟨(id:Int),c,(gM (some (p,rest))).1⟩:eE)]).length=true:=dB (by simp) (by grind);rw[af f];rfl
inductive b3:I->Prop
 |mk (v:I) (hs:v.bx.length<=reachBytes) (h1:v.aG.length<=reachBytes) (ady:v.ai.length<=reachBytes) (ae6:v.Rest.length<=reachBytes)
  (hk:∀x,x∈v.aG->b3 x) (Dw:∀x,x∈v.ai->b3 x) (afe:∀x,x∈v.Rest->x.Data.length<=reachBytes)
  (cV: -9223372036854775808<=v.Kind/\v.Kind<=9223372036854775807) (afk: -9223372036854775808<=v.bo/\v.bo<=9223372036854775807) (afl: -9223372036854775808<=v.ae/\v.ae<=9223372036854775807)
  (afm:∀x,x∈v.Rest->-9223372036854775808<=x.ae/\x.ae<=9223372036854775807):b3 v
theorem dM{n:Nat}(h:n<=reachBytes):n<9223372036854775807:=Nat.lt_of_le_of_lt h (by decide)
theorem scan{c:Type}(L:Nat->Option c)(n:Nat)(p:Nat->Bool)(a b:c)(f:∀i,i<n->L i=if p i then L (i+1)else some a)(e:L n=some b):
 (L 0=some b/\∀j,j<n->p j=true)\/(L 0=some a/\∃j,j<n/\p j=false):=by
 have key:∀k i,i+k=n->(L i=some b/\∀j,i<=j->j<n->p j=true)\/(L i=some a/\∃j,j<n/\p j=false):=by
  intro k;induction k<;>grind
 rcases key n 0 (by simp)with⟨h1,d⟩|h
 all_goals grind
theorem fG{l:List α}{i:Nat}(h:i<l.length)(d:α):l.getD i d=l[i]:=by grind
theorem yn{b:List α}{p:Nat->Bool}(ad:a.length=b.length)(aj:∀(i:Nat) (h1:i<a.length) (c:i<b.length),p i=true↔a[i]=b[i]):
 (∀j,j<a.length->p j=true)↔a=b:=by
 grind[List.ext_getElem]
def eZ{α:Type}(o:Option Bool)(a b:α):Prop:=∃r,o=some r/\(r=true↔a=b)
theorem eZ.D6{b:List α}{p:Nat->Bool}(ad:a.length=b.length)(aj:∀(i:Nat) (h1:i<a.length) (c:i<b.length),p i=true↔a[i]=b[i]){o:Option Bool}
 (h:(o=some true/\∀j,j<a.length->p j=true)\/(o=some false/\∃j,j<a.length/\p j=false)):eZ o a b:=by
 rcases h with⟨h1,c⟩|⟨h1,j,c,e⟩
 . exact⟨true,h1,by simp[(yn ad aj).1 c]⟩
 . refine⟨false,h1,?_⟩;grind
theorem Lx{a b:b6}:(fy a.ae b.ae&&(jd a.Data b.Data&&true))=true↔a=b:=by cases a;cases b;simp[fy,jd]
theorem Ly{a b:c6}:(fy a.ae b.ae&&(jd a.Name b.Name&&true))=true↔a=b:=by
 cases a;cases b;simp[fy,jd]
theorem ua{b:List α}(h:¬a.length=b.length):eZ (some false) a b:=⟨false,rfl,by grind⟩
theorem K7{a b:List b6}(d:a.length<=reachBytes):eZ (wO (a,b)) a b:=by
 rw[wO];by_cases ad:a.length=b.length
 . have f:=dM d;have:=scan (λi=>r3 (a,b,(a.length:Int),(i:Int))) a.length (λi=>fy (a.getD i bS).ae (b.getD i bS).ae&&(jd (a.getD i bS).Data (b.getD i bS).Data&&true)) (.inl false) (.inr ())
    (λi e=>by
     rw[r3,af (by grind),af (aS e)];simp[a8,aq,a'];rw[af (aS (by omega)),bH (by omega)]
     grind)
    (by simp_all[r3])
   refine eZ.D6 (p:=λi=>fy (a.getD i bS).ae (b.getD i bS).ae&&(jd (a.getD i bS).Data (b.getD i bS).Data&&true)) ad (λi h1 c=>by simp only[fG h1,fG c];exact Lx) ?_;grind
 . rw[af (by grind)];exact ua ad
theorem aaK{a b:List c6}(d:a.length<=reachBytes):eZ (Be (a,b)) a b:=by
 rw[Be];by_cases ad:a.length=b.length
 . have f:=dM d;have:=scan (λi=>r2 (a,b,(a.length:Int),(i:Int))) a.length (λi=>fy (a.getD i dR).ae (b.getD i dR).ae&&(jd (a.getD i dR).Name (b.getD i dR).Name&&true)) (.inl false) (.inr ())
    (λi e=>by
     rw[r2,af (aS e)];simp;rw[af (aS (by omega)),bH (by omega)]
     grind)
    (by simp_all[r2])
   refine eZ.D6 (p:=λi=>fy (a.getD i dR).ae (b.getD i dR).ae&&(jd (a.getD i dR).Name (b.getD i dR).Name&&true)) ad (λi h1 c=>by simp only[fG h1,fG c];exact Ly) ?_;grind
 . rw[af (by grind)];exact ua ad
theorem Bp(v:I):(⟨v.Kind,v.b5,v.bo,v.bx,v.ae,v.aG,v.ai,v.Rest⟩:I)=v:=by cases v;rfl
theorem HO{a b:I}:a=b↔a.Kind=b.Kind/\a.b5=b.b5/\a.bo=b.bo/\a.bx=b.bx/\a.ae=b.ae/\a.Rest=b.Rest/\a.aG=b.aG/\a.ai=b.ai:=by
 constructor
 . grind
 . cases a;cases b;grind
section
variable {f:I×I->Option Bool}
theorem E9 {a b:List I}(ad:a.length=b.length)(ih:∀x,x∈a->∀y,eZ (f (x,y)) x y)(L:Nat->Option (Bool ⊕ Unit))
 (l:∀i,i<a.length->L i=(f (I.eta (a.getD i az),I.eta (b.getD i az))>>=λr=>if !r then some (.inl false)else L (i+1)))
 (e:L a.length=some (.inr ())):eZ (L 0>>=λo=>match o with|.inl x=>some x|.inr _=>some true) a b:=by
 have d:∀(i:Nat) (h1:i<a.length) (c:i<b.length),eZ (f (I.eta (a.getD i az),I.eta (b.getD i az))) a[i] b[i]:=by
  grind[fG,I.bk]
 have:=scan L a.length (λi=>(f (I.eta (a.getD i az),I.eta (b.getD i az))).getD false) (.inl false) (.inr ())
  (λi g=>by
   obtain⟨r,h1,c⟩:=d i g (by omega)
   grind) e
 refine eZ.D6 ad (λi h1 c=>?_) ?_ (p:=λi=>(f (I.eta (a.getD i az),I.eta (b.getD i az))).getD false)
 . obtain⟨r,j,k⟩:=d i h1 c;grind
 grind
end
theorem KR{a b:List I}(c:a.length<=reachBytes)(ih:∀x,x∈a->∀y,eZ (oH (x,y)) x y):eZ (tU (a,b)) a b:=by
 rw[tU];by_cases ad:a.length=b.length
 . rw[al (by grind)];have e:=dM c;exact E9 ad ih (λi=>tS (b,a,a.length,i))
    (λi d=>by
     rw[tS,af (by grind),af (aS d),af (aS (by omega)),bH (by omega)]
     rfl)
    (by grind[tS])
 . rw[af (by grind)];exact ua ad
theorem KS{a b:List I}(c:a.length<=reachBytes)(ih:∀x,x∈a->∀y,eZ (mj (x,y)) x y):eZ (wM (a,b)) a b:=by
 rw[wM];by_cases ad:a.length=b.length
 . rw[al (by grind)];have e:=dM c;exact E9 ad ih (λi=>tT (b,a,a.length,i))
    (λi d=>by
     rw[tT,af (by grind),af (aS d),af (aS (by omega)),bH (by omega)]
     rfl)
    (by simp_all[tT])
 . rw[af (by grind)];exact ua ad
theorem KT{a b:List I}(c:a.length<=reachBytes)(ih:∀x,x∈a->∀y,eZ (jt (x,y)) x y):eZ (wR (a,b)) a b:=by
 rw[wR];by_cases ad:a.length=b.length
 . rw[al (by grind)];have e:=dM c;exact E9 ad ih (λi=>tW (a,b,i))
    (λi d=>by
     rw[tW,af (by grind),af (aS d),af (aS (by omega)),bH (by omega)]
     rfl)
    (by grind[tW])
 . rw[af (by grind)];exact ua ad
theorem three{a b:I}{bp:Bool}(j3:bp=true↔a.Kind=b.Kind/\a.b5=b.b5/\a.bo=b.bo/\a.bx=b.bx/\a.ae=b.ae){y z:Option Bool}(e:eZ x a.Rest b.Rest)(g:eZ y a.aG b.aG)(j:eZ z a.ai b.ai):
 eZ (some bp>>=λt37=>(if t37 then x else some false)>>=λr=>some (bif t37 then r else false)>>=λt44=>(if t44 then y else some false)>>=λl=>some (bif t44 then l else false)>>=λt51=>(if t51 then z else some false)>>=λm=>some (bif t51 then m else false)) a b:=by
 obtain⟨c,f,o⟩:=e;obtain⟨d,i,p⟩:=g;obtain⟨n,k,q⟩:=j;subst f;subst i;subst k;refine⟨bp&&c&&d&&n,?_,?_⟩
 . cases bp<;>cases c<;>cases d<;>rfl
 grind[HO]
theorem N2{a b:I}:(bif bif bif bif decide (a.Kind=b.Kind)then fg a.b5 b.b5 else false then decide (a.bo=b.bo)else false then decide (a.bx=b.bx)else false then decide (a.ae=b.ae)else false)=true↔a.Kind=b.Kind/\a.b5=b.b5/\a.bo=b.bo/\a.bx=b.bx/\a.ae=b.ae:=by
 grind[fg]
theorem Re{a:I}(h:b3 a):∀b,eZ (oH (a,b)) a b:=by
 induction h with
 |mk a hs h1 c d i g j cV k l m f e=>
  intro b;rw[oH];exact three N2 (K7 d) (KR h1 f) (KR c e)
theorem BJ{a:I}(h:b3 a):∀b,eZ (mj (a,b)) a b:=by
 induction h with
 |mk a hs h1 c d i g j cV k l m f e=>
  intro b;rw[mj];exact three N2 (K7 d) (KS h1 f) (KS c e)
theorem Cc{a:I}(h:b3 a):∀b,eZ (jt (a,b)) a b:=by
 induction h with
 |mk a hs h1 c e q p r cV v w x l k=>
  intro b;rw[jt];by_cases bp:a.Kind=b.Kind/\a.b5=b.b5/\a.bo=b.bo/\a.bx=b.bx/\a.ae=b.ae/\a.Rest.length=b.Rest.length
  . obtain⟨aK,n,dD,o,j3,pM⟩:=bp;rw[al (by grind[fg])];have s:=dM e;have d:=scan (λi=>oo ((i:Int),a,b)) a.Rest.length (λi=>fy (a.Rest.getD i bS).ae (b.Rest.getD i bS).ae&&(jd (a.Rest.getD i bS).Data (b.Rest.getD i bS).Data&&true)) (.inl false) (.inr (a,b))
     (λi f=>by
      rw[oo,af (aS f)];simp only[a8,aq,a',I.bk];rw[af (aS (by omega)),bH (by omega)]
      grind)
     (by rw[oo,ch,I.bk,I.bk])
    have h0:oo (((0:Nat):Int),a,b)=oo (0,a,b):=rfl;simp only[h0]at d;rw[Bp,Bp];have aj:∀(i:Nat) (h1:i<a.Rest.length) (c:i<b.Rest.length),(fy (a.Rest.getD i bS).ae (b.Rest.getD i bS).ae&&(jd (a.Rest.getD i bS).Data (b.Rest.getD i bS).Data&&true))=true↔a.Rest[i]=b.Rest[i]:=λi h1 c=>by grind[fG,Lx]
    rcases d with⟨g1,g2⟩|⟨g1,j,g2,g3⟩
    . have t:=(yn pM aj).1 g2;rw[g1];obtain⟨kg,bb,bq⟩:=KT (a:=a.aG) (b:=b.aG) h1 l;obtain⟨m,g,u⟩:=KT (a:=a.ai) (b:=b.ai) c k;simp only[a8,aq];rw[bb,g];refine⟨kg&&m,by cases kg<;>rfl,?_⟩;simp_all[HO,cX]
    . rw[g1];refine⟨false,rfl,?_⟩;grind
  . rw[af]
    . refine⟨false,rfl,?_⟩;grind
    . simp only[Aw,fg];grind
def oO(c:Int):Bool:=decide (c=95\/(97<=c/\c<=122)\/(65<=c/\c<=90))
def zc(c:Int):Bool:=decide (48<=c/\c<=57)
theorem Bq(c:Int):xf c=some (oO c):=by
 rw[xf];unfold oO;grind
theorem HP(c:Int):xx c=some (oO c):=by
 rw[xx];unfold oO;grind
theorem Zr(c:Int):A5 c=some (zc c):=by
 rw[A5];unfold zc;grind
theorem Zs(c:Int):AQ c=some (zc c):=by
 rw[AQ];unfold zc;grind
theorem Ij{e:Type}(A B cr:Bool)(X a:Option e)(b:cr=true):
 (some A>>=λc=>some (!c)>>=λt26=>if(cr||(!t26)) then(if t26 then some B else some false)>>=λd=>if(bif t26 then(!d)else false) then X else a else none)=if(A||B) then a else X:=by
 subst b;cases A<;>cases B<;>rfl
theorem KU(s:ao):∃r,kx s=some r/\rJ s=some r:=by
 rw[kx,rJ];simp only[a8,aq];by_cases d:s=[]\/24<s.length
 . have ht:(bif decide (s=[])then true else decide (24<(s.length:Int)))=true:=(by grind);rw[ht];simp_all
 . have f:s≠[]:=λh=>d (.inl h);have m:s.length<=24:=(by omega);have ht:(bif decide (s=[])then true else decide (24<(s.length:Int)))=false:=(by grind);have g:0<s.length:=yg.2 f;have e:aI 0 s.length=true:=aS (k:=0) g;simp only[ht,e,x9,b7,fz,aq,Bq,HP,e'];cases ad:oO (hU s 0)with
   |false=>exact⟨false,rfl,rfl⟩
   |true=>
    rw[ch,ch];let p:Nat->Bool:=λi=>oO (hU s i)||zc (hU s i);have s1:=scan (λi=>lL (s,(s.length:Int),(i:Int))) s.length p (.inl false) (.inr ())
     (λi a=>by
      rw[lL,cq,af (aS a),Bq,Zr,bH (by omega)]
      exact Ij _ _ _ _ _ (aS a))
     (by rw[lL,ch])
    have b:=scan (λi=>oA (s,(i:Int))) s.length p (.inl false) (.inr ())
     (λi a=>by
      rw[oA,cq,af (aS a),HP,Zs,bH (by omega)]
      exact Ij _ _ _ _ _ (aS a))
     (by rw[oA,ch])
    have aK:lL (s,(s.length:Int),((0:Nat):Int))=lL (s,(s.length:Int),0):=rfl;have c:oA (s,((0:Nat):Int))=oA (s,0):=rfl;simp only[aK,c]at s1 b;rcases s1 with⟨a1,a2⟩|⟨a1,j,a2,a3⟩<;>rcases b with⟨b1,b2⟩|⟨b1,k,b2,l⟩
    . simp_all
    . grind
    . grind
    simp_all
def nm(s:ao):Bool:=(kx s).getD false
theorem sN(s:ao):kx s=some (nm s):=by
 obtain⟨r,h1,_⟩:=KU s;unfold nm;rw[h1];rfl
theorem zl(s:ao):rJ s=some (nm s):=by
 obtain⟨r,h1,a⟩:=KU s;unfold nm;rw[h1,a];rfl
theorem DK{s:ao}(h:nm s=true):s≠[]:=by
 rintro rfl
 unfold nm at h;rw[kx]at h;simp at h
def j8(l:au)(names:List ao)(i:Nat):Bool:=
 decide (1<=l.getD i 0)&&decide (l.getD i 0<=1000)&&(decide (i=0)||decide (l.getD (i-1) 0<l.getD i 0))&&nm (names.getD i []) && !((names.take i).contains (names.getD i []))
def lg(l:List ao):List ao:=l.foldl iC []
theorem Zt(ks:List ao)(a s:ao):iO (iC ks a) s=(iO ks s||decide (a=s)):=by
 unfold iC;split
 . grind
 . simp[iO,List.any_append]
theorem Rf(l:List ao)(s:ao):iO (lg l) s=l.contains s:=by
 have key:∀(l:List ao) (ks:List ao),iO (l.foldl iC ks) s=(iO ks s||l.contains s):=by
  intro l;induction l with
  |nil=>intro ks;simp
  |cons a r ih=>
   intro ks;rw[List.foldl_cons,ih,Zt,Bool.or_assoc];grind
 have:=key l [];simpa[lg,iO]using this
theorem Rg{l:List ao}{i:Nat}(h:i<l.length):iC (lg (l.take i)) (l.getD i [])=lg (l.take (i+1)):=by
 unfold lg;rw[List.take_add_one,List.foldl_append,eF h,fG h];rfl
theorem aau{f:Type}(A a b C cr H N:Bool)(X c:Option f)(d:cr=true)(e:a=true->b=true):
 (if(b||(!((!A)&&a))) then
  some (bif A then true else bif a then C else false)>>=λt34=>
  if(cr||(!(!t34))) then
   some (bif t34 then true else H)>>=λt42=>
   if(cr||(!(!t42))) then
    (if !t42 then some N else some false)>>=λr=>
    if(bif t42 then true else(!r)) then X else(if cr then c else none)
   else none
  else none
 else none)=if !A&&(!a || !C)&&N && !H then c else X:=by
 subst d;cases a with
 |true=>have:=e rfl;subst this;cases A<;>cases C<;>cases H<;>cases N<;>rfl
 |false=>cases A<;>cases b<;>cases C<;>cases H<;>cases N<;>rfl
theorem K8{l:au}(ad:l.length<=reachBytes)(aP:names.length=l.length):∃r,yy (l,names)=some r/\(r=true↔(∀i,i<l.length->j8 l names i=true)/\l.length<=16):=by
 rw[yy];have m:=dM ad;have b:=scan (λi=>o8 (l,names,l,(l.length:Int),(i:Int),lg (names.take i))) l.length (j8 l names) (.inl false) (.inr l)
  (λi d=>by
   have a:i<names.length:=(by omega);rw[o8,cq,af (aS d)];simp only[a'];rw[sN,bH (by omega),Rg a,Rf];have f:0<i->dL .i64 (i:Int) 1=((i-1:Nat):Int):=by intro h;rw[iL (by omega) (by omega)];omega
   refine(aau (bif decide (l.getD i 0<1)then true else decide (1000<l.getD i 0)) (decide ((0:Int)<(i:Int))) (aI (dL .i64 (i:Int) 1) l.length) (decide (l.getD i 0<=l.getD (dL .i64 (i:Int) 1).toNat 0)) (aI (i:Int) names.length) ((names.take i).contains (names.getD i [])) (nm (names.getD i [])) _ _ (aS a) (λg=>?_)).trans ?_
   . have e:0<i:=by simp at g;omega
     rw[f e];exact aS (by omega)
   . have:(!(bif decide (l.getD i 0<1)then true else decide (1000<l.getD i 0))&&(!(decide ((0:Int)<(i:Int))) || !(decide (l.getD i 0<=l.getD (dL .i64 (i:Int) 1).toNat 0)))&&nm (names.getD i []) && !((names.take i).contains (names.getD i [])))=j8 l names i:=by
      unfold j8;grind
     rw[this])
  (by rw[o8,ch])
 have dh:o8 (l,names,l,(l.length:Int),((0:Nat):Int),lg (names.take 0))=o8 (l,names,l,(l.length:Int),0,[]):=rfl;simp only[dh]at b;rcases b with⟨h1,c⟩|⟨h1,j,c,k⟩
 . rw[h1];refine⟨decide ((l.length:Int)<=16),rfl,?_⟩;grind
 . rw[h1];refine⟨false,rfl,?_⟩;grind
theorem BZ{k n:Nat}(a:k<=16)(h:n*24<=reachBytes:=by simp;omega):room k n=true:=by
 unfold room hr dm;unfold reachBytes at h;simp only[cX,gE];have:(2*n+192)*k<=(2*n+192)*16:=Nat.mul_le_mul_left _ a;omega
theorem uz(l:List α)(i:Nat)(d:α)(h:i<l.length):l.take i++[l.getD i d]=l.take (i+1):=by simp_all
theorem ij{a:Type}(f:α->a)(l:List α)(i:Nat)(d:α)(e:a)(h:i<l.length):(l.map f).getD i e=f (l.getD i d):=by grind
theorem p7{l:List ao}{i:Nat}{s:ao}(b:i<=l.length):(l.take i).contains s=true↔∃k,k<i/\l.getD k []=s:=by
 rw[List.contains_iff_mem];constructor
 . intro h;obtain⟨k,a,he⟩:=jf h;rw[vw]at a;refine⟨k,by omega,?_⟩;grind
 . rintro ⟨k,a,he⟩
   rw[<-he,fG (by omega)];have:(l.take i)[k]'(by rw[vw];omega)=l[k]:=List.getElem_take;grind
def lx(l:au)(i:Nat):Int:=if i=0 then 0 else l.getD (i-1) 0
theorem KV{l:au}{i:Nat}(e:i<l.length)(aP:names.length=l.length):
 j8 l names i=(decide (lx l i<l.getD i 0)&&decide (1<=l.getD i 0)&&decide (l.getD i 0<=1000)&&nm (names.getD i []) && !((names.take i).contains (names.getD i []))):=by
 unfold j8 lx;generalize l.getD i 0=x;generalize l.getD (i-1) 0=y;generalize nm (names.getD i [])=a;generalize (names.take i).contains (names.getD i [])=b;by_cases h0:i=0
 . subst h0;by_cases h1:1<=x
   . have:decide ((0:Int)<x)=true:=by simp;omega
     simp[h1,this]
   . simp[h1]
 . simp only[h0,b4,dF,Bool.false_or];by_cases h1:1<=x<;>by_cases c:x<=1000<;>by_cases d:y<x<;>simp[h1,c,d]
theorem Rh(l:List c6)(ad:l.length*24<=reachBytes):∀(k i:Nat),i+k=l.length->qx (l,l,(l.length:Int),(i:Int),(l.map (·.ae)).take i,(l.map (·.Name)).take i)=some (l,l.map (·.ae),l.map (·.Name))
 |0,i,h=>by
  have:i=l.length:=by omega
  subst this;rw[qx,ch];rw[vp (by simp),vp (by simp)]
 |k+1,i,h=>by
  have b:l.length<9223372036854775807:=by unfold reachBytes at ad;omega
  have a:i<l.length:=by omega
  rw[qx,cq,af (aS a)];simp only[a8,aq,a'];rw[<-ij (·.ae) l i dR 0 a,<-ij (·.Name) l i dR [] a,uz _ _ _ (by simpa using a),uz _ _ _ (by simpa using a)];rw[af (BZ (by omega)),af (BZ (by omega)),bH (by omega)];exact Rh l ad k (i+1) (by omega)
theorem KW{l:List c6}(ad:l.length*24<=reachBytes):∃r,ud l=some r/\(r=true↔0<l.length/\(∀i,i<l.length->j8 (l.map (·.ae)) (l.map (·.Name)) i=true)/\l.length<=16):=by
 have h:=Rh l ad l.length 0 (by omega);have a:qx (l,l,(l.length:Int),0,[],[])=some (l,l.map (·.ae),l.map (·.Name)):=h;rw[ud,a];simp only[a8,aq];obtain⟨r,h1,b⟩:=K8 (l:=l.map (·.ae)) (names:=l.map (·.Name)) (by simp;unfold reachBytes at*;omega) (by simp);rw[sU]at b;grind
theorem OL(a b:Int):xj (a,b)=some (decide (a<b)&&decide (1<=b)&&decide (b<=1000)):=by
 rw[xj];grind
theorem WN(l:List c6)(ad:l.length<=reachBytes)(i:Nat)(b:i<l.length):
 m' (l,(i:Int),0)=some (if((l.map (·.Name)).take i).contains ((l.map (·.Name)).getD i []) then .inl false else .inr (l,(i:Int))):=by
 have f:=dM ad;have d:=scan (λk=>m' (l,(i:Int),(k:Int))) i (λk=>!(decide ((l.getD k dR).Name=(l.getD i dR).Name))) (.inl false) (.inr (l,(i:Int)))
  (λk c=>by
   rw[m',cq,af (aS (by omega)),af (aS b),bH (by omega)]
   grind)
  (by rw[m',ch])
 have dh:m' (l,(i:Int),((0:Nat):Int))=m' (l,(i:Int),0):=rfl;simp only[dh]at d;rw[ij (·.Name) l i dR [] b];rcases d with⟨h1,a⟩|⟨h1,j,a,e⟩
 . rw[h1,al];rw[p7 (by simp;omega)]
   rintro ⟨k,c,he⟩
   rw[ij (·.Name) l k dR [] (by omega)]at he;have:=a k c;rw[he]at this;simp at this
 . rw[h1,af];rw[p7 (by simp;omega)];refine⟨j,a,?_⟩;rw[ij (·.Name) l j dR [] (by omega)];simpa using e
theorem aav{l:List c6}(ad:l.length<=reachBytes):∃r,wZ l=some r/\(r=true↔0<l.length/\(∀i,i<l.length->j8 (l.map (·.ae)) (l.map (·.Name)) i=true)/\l.length<=16):=by
 have f:=dM ad;have b:=scan (λi=>ow (l,lx (l.map (·.ae)) i,(i:Int))) l.length (j8 (l.map (·.ae)) (l.map (·.Name))) (.inl false) (.inr l)
  (λi a=>by
   rw[ow,cq,af (aS a),OL,WN l ad i a,KV (by simpa using a) (by simp)];simp only[a8,aq,a'];rw[<-ij (·.ae) l i dR 0 a,<-ij (·.Name) l i dR [] a,zl];generalize (decide (lx (l.map (·.ae)) i<(l.map (·.ae)).getD i 0)&&decide (1<=(l.map (·.ae)).getD i 0)&&decide ((l.map (·.ae)).getD i 0<=1000))=q;rw[af (by rw[aS a];rfl)];cases q with
   |false=>rfl
   |true=>
    simp only[dU,fz,b7,aq,pr];cases nm ((l.map (·.Name)).getD i [])with
    |false=>rfl
    |true=>
     simp only[dU,e',ca,b4,pr];cases e:((l.map (·.Name)).take i).contains ((l.map (·.Name)).getD i [])with
     |true=>simp
     |false=>
      simp only[ca,b4,fz,b7];rw[af (aS a),bH (by omega)];have:lx (l.map (·.ae)) (i+1)=(l.getD i dR).ae:=by
       unfold lx;grind
      grind)
  (by rw[ow,ch])
 have dh:ow (l,lx (l.map (·.ae)) 0,((0:Nat):Int))=ow (l,0,0):=rfl;simp only[dh]at b;rw[wZ];rcases b with⟨h1,c⟩|⟨h1,j,c,d⟩
 . rw[h1];refine⟨_,rfl,?_⟩;grind
 . rw[h1];refine⟨false,rfl,?_⟩;grind
theorem Xq{l:List c6}(ad:l.length*24<=reachBytes):∃r,ud l=some r/\wZ l=some r:=by
 obtain⟨r,h1,a⟩:=KW ad;obtain⟨q,b,c⟩:=aav (l:=l) (by unfold reachBytes at*;omega);grind
structure fD (t:ah):Prop where
 syms:t.bg.length*24<=reachBytes
 gT:t.ag.length*24<=reachBytes
 im:∀m,m∈t.ag->b3 m.bz
theorem ik{n:Nat}(h:n*24<=reachBytes):n<=reachBytes:=by unfold reachBytes at*;omega
theorem WO{a b:aU}:a=b↔a.ae=b.ae/\a.Name=b.Name/\a.aB=b.aB/\a.cv=b.cv/\a.bV=b.bV/\a.bz=b.bz:=by cases a;cases b;simp
theorem iZ(x:aU):(⟨x.ae,x.Name,x.aB,x.cv,x.bV,I.eta x.bz⟩:aU)=x:=by cases x;simp[I.bk]
theorem N3{a b:aU}:(bif bif bif bif decide (a.ae=b.ae)then decide (a.Name=b.Name)else false then decide (a.aB=b.aB)else false then fg a.cv b.cv else false then fg a.bV b.bV else false)=true↔a.ae=b.ae/\a.Name=b.Name/\a.aB=b.aB/\a.cv=b.cv/\a.bV=b.bV:=by
 simp only[Aw,fg];grind
theorem OU{a b:aU}(f:q=true↔a.ae=b.ae/\a.Name=b.Name/\a.aB=b.aB/\a.cv=b.cv/\a.bV=b.bV)(g:eZ x a.bz b.bz):
 eZ (some q>>=λt37=>(if t37 then x else some false)>>=λr=>some (bif t37 then r else false)) a b:=by
 obtain⟨d,h1,e⟩:=g;subst h1;refine⟨q&&d,by cases q<;>cases d<;>rfl,?_⟩;rw[WO,cX,f,e];constructor
 . rintro ⟨⟨a1,a2,a3,a4,a5⟩,c⟩;exact⟨a1,a2,a3,a4,a5,c⟩
 . rintro ⟨a1,a2,a3,a4,a5,c⟩;exact⟨⟨a1,a2,a3,a4,a5⟩,c⟩
theorem YG{a:aU}(h:b3 a.bz)(b:aU):eZ (xe (a,b)) a b:=by
 rw[xe];simp only[Bp,I.bk];exact OU N3 (BJ h _)
theorem YH{a:aU}(h:b3 a.bz)(b:aU):eZ (wS (a,b)) a b:=by
 rw[wS];simp only[Bp,I.bk];exact OU N3 (Cc h _)
theorem Rl{l:Type}{g:l}{a b:List aU}(ad:a.length=b.length)(ih:∀x,x∈a->∀y,eZ (f (x,y)) x y)(L:Nat->Option (Bool ⊕ l))
 (p:∀i,i<a.length->L i=(f (a.getD i aD,b.getD i aD)>>=λr=>if !r then some (.inl false)else L (i+1)))
 (m:L a.length=some (.inr g)):(L 0=some (.inr g)/\a=b)\/(L 0=some (.inl false)/\a≠b):=by
 have k:∀(i:Nat) (h1:i<a.length) (c:i<b.length),eZ (f (a.getD i aD,b.getD i aD)) a[i] b[i]:=by grind
 have aj:∀(i:Nat) (h1:i<a.length) (c:i<b.length),(f (a.getD i aD,b.getD i aD)).getD false=true↔a[i]=b[i]:=by
  intro i h1 c;obtain⟨r,d,o⟩:=k i h1 c;grind
 have:=scan L a.length (λi=>(f (a.getD i aD,b.getD i aD)).getD false) (.inl false) (.inr g)
  (λi n=>by
   obtain⟨r,h1,c⟩:=k i n (by omega)
   grind) m
 rcases this with⟨h1,c⟩|⟨h1,j,c,d⟩
 . exact .inl ⟨h1,(yn ad aj).1 c⟩
 . refine .inr ⟨h1,λe=>?_⟩;have:=(yn ad aj).2 e j c;rw[d]at this;cases this
theorem V2{a b:List aU}(d:a.length<=reachBytes)(e:∀m,m∈a->b3 m.bz):eZ (Bc (a,b)) a b:=by
 rw[Bc];by_cases ad:a.length=b.length
 . rw[dE];have l:=dM d;have hs:=Rl (g:=()) ad (f:=xe) (λx k y=>YG (e x k) y) (λi=>oi (b,a,(a.length:Int),(i:Int)))
    (λi j=>by
     rw[oi,cq,af (aS j)];simp only[a8,aq,a',iZ]
     rw[af (aS (by omega)),bH (by omega)])
    (by rw[oi,ch])
   have dh:oi (b,a,(a.length:Int),((0:Nat):Int))=oi (b,a,(a.length:Int),0):=rfl;simp only[dh]at hs;rcases hs with⟨h1,c⟩|⟨h1,c⟩
   . rw[h1];exact⟨true,rfl,by simp[c]⟩
   . rw[h1];exact⟨false,rfl,by simp[c]⟩
 . rw[cq];exact ua ad
theorem Ik{a b:ah}:a=b↔a.Kind=b.Kind/\a.Name=b.Name/\a.bE=b.bE/\a.bG=b.bG/\a.Max=b.Max/\a.Key=b.Key/\a.aC=b.aC/\a.Open=b.Open/\a.bg=b.bg/\a.ag=b.ag:=by
 cases a;cases b;grind
theorem aaL{a b:ah}:(bif bif bif bif bif bif bif decide (a.Kind=b.Kind)then decide (a.Name=b.Name)else false then decide (a.bE=b.bE)else false then decide (a.bG=b.bG)else false then decide (a.Max=b.Max)else false then decide (a.Key=b.Key)else false then decide (a.aC=b.aC)else false then fg a.Open b.Open else false)=true↔
 a.Kind=b.Kind/\a.Name=b.Name/\a.bE=b.bE/\a.bG=b.bG/\a.Max=b.Max/\a.Key=b.Key/\a.aC=b.aC/\a.Open=b.Open:=by
 simp only[Aw,fg];by_cases h1:a.Kind=b.Kind<;>by_cases c:a.Name=b.Name<;>by_cases d:a.bE=b.bE<;>by_cases e:a.bG=b.bG<;>simp[h1,c,d,e];by_cases bp:a.Max=b.Max<;>by_cases f:a.Key=b.Key<;>by_cases g:a.aC=b.aC<;>simp[bp,f,g]
theorem iK{a:ah}(h:fD a)(b:ah):eZ (hI (a,b)) a b:=by
 rw[hI];obtain⟨d,s1,g⟩:=aaK (a:=a.bg) (b:=b.bg) (ik h.syms);obtain⟨c,e,f⟩:=V2 (a:=a.ag) (b:=b.ag) (ik h.gT) h.im;have e8:=aaL (a:=a) (b:=b);generalize (bif bif bif bif bif bif bif decide (a.Kind=b.Kind)then decide (a.Name=b.Name)else false then decide (a.bE=b.bE)else false then decide (a.bG=b.bG)else false then decide (a.Max=b.Max)else false then decide (a.Key=b.Key)else false then decide (a.aC=b.aC)else false then fg a.Open b.Open else false)=q at e8⊢;simp only[a8,aq];rw[s1,e];refine⟨q&&d&&c,by cases q<;>cases d<;>cases c<;>rfl,?_⟩;rw[Ik,cX,cX,e8,g,f];grind
theorem CE(a:ah):(⟨a.Kind,a.Name,a.bE,a.bG,a.Max,a.bg,a.ag,a.Key,a.aC,a.Open⟩:ah)=a:=by cases a;rfl
theorem oP{a:ah}(h:fD a)(b:ah):eZ (Bi (a,b)) a b:=by
 rw[Bi];simp only[CE];by_cases bp:(a.Kind=b.Kind/\a.Name=b.Name/\a.bE=b.bE/\a.bG=b.bG/\a.Max=b.Max/\a.Key=b.Key/\a.aC=b.aC/\a.Open=b.Open)/\a.bg.length=b.bg.length/\a.ag.length=b.ag.length
 . obtain⟨⟨aK,l,dD,m,j3,pM,og,e8⟩,d,c⟩:=bp;rw[al (by simp[aK,l,dD,m,j3,pM,og,e8,d,c,fg])];have u:=dM (ik h.syms);have v:=dM (ik h.gT);have k:=scan (λi=>ot ((i:Int),a,b)) a.bg.length (λi=>fy (a.bg.getD i dR).ae (b.bg.getD i dR).ae&&(jd (a.bg.getD i dR).Name (b.bg.getD i dR).Name&&true)) (.inl false) (.inr (a,b))
    (λi o=>by
     rw[ot,cq,af (aS o)];simp only[a8,aq,a'];rw[af (aS (by omega)),bH (by omega)]
     grind)
    (by rw[ot,ch])
   have h0:ot (((0:Nat):Int),a,b)=ot (0,a,b):=rfl;simp only[h0]at k;have aj:∀(i:Nat) (h1:i<a.bg.length) (e:i<b.bg.length),(fy (a.bg.getD i dR).ae (b.bg.getD i dR).ae&&(jd (a.bg.getD i dR).Name (b.bg.getD i dR).Name&&true))=true↔a.bg[i]=b.bg[i]:=λi h1 e=>by rw[fG h1,fG e];exact Ly
   rcases k with⟨g1,g2⟩|⟨g1,j,g2,g3⟩
   . have w:=(yn d aj).1 g2;rw[g1];simp only[a8,aq];have hs:=Rl (g:=()) c (f:=wS) (λx p y=>YH (h.im x p) y) (λi=>ou ((i:Int),a,b))
      (λi n=>by
       rw[ou,cq,af (aS n)];simp only[a8,aq,a',iZ]
       rw[af (aS (by omega)),bH (by omega)])
      (by rw[ou,ch])
     have dh:ou (((0:Nat):Int),a,b)=ou (0,a,b):=rfl;simp only[dh]at hs;rcases hs with⟨bb,bq⟩|⟨bb,bq⟩
     . rw[bb];refine⟨true,rfl,?_⟩;rw[Ik];grind
     . rw[bb];refine⟨false,rfl,?_⟩;grind
   . rw[g1];refine⟨false,rfl,?_⟩;grind
 . rw[af]
   . refine⟨false,rfl,?_⟩;grind
   . simp only[Aw,fg];by_cases q:a.Kind=b.Kind<;>by_cases r:a.Name=b.Name<;>by_cases s:a.bE=b.bE<;>by_cases t:a.bG=b.bG<;>simp[q,r,s,t];grind
def oX(v:I):Bool:=(mj (v,az)).getD false
theorem aaw(h:b3 v):mj (v,az)=some (oX v):=by
 obtain⟨r,h1,a⟩:=BJ h az;unfold oX;rw[h1];rfl
theorem aax(h:b3 v):jt (v,az)=some (oX v):=by
 obtain⟨r,h1,b⟩:=BJ h az;obtain⟨q,a,c⟩:=Cc h az;unfold oX;rw[h1,a];grind
theorem Zu(h:b3 v):AN v=some (oX v):=by
 rw[AN,I.bk];have:=aaw h;unfold az at this;grind
def n9(a:Bool)(m:aU):Bool:=(a&&(m.cv||m.bV))||(m.cv&&m.bV)||(!m.bV && !oX m.bz)
theorem br{l:List α}{i:Nat}(h:i<l.length)(d:α):l.getD i d∈l:=by grind
theorem Ri(h:fD t):∃r,rY t=some r/\(r=true↔(∀i,i<t.ag.length->n9 (decide (t.Kind=6)) (t.ag.getD i aD)=false)/\(t.Kind=5\/0<t.ag.length)/\(∀i,i<t.ag.length->j8 (t.ag.map (·.ae)) (t.ag.map (·.Name)) i=true)/\t.ag.length<=16):=by
 have g:t.ag.length<9223372036854775807:=dM (ik h.gT);have b:=scan (λi=>o3 (t.ag,(t.ag.length:Int),(i:Int),t,(t.ag.map (·.ae)).take i,(t.ag.map (·.Name)).take i)) t.ag.length (λi=>!(n9 (decide (t.Kind=6)) (t.ag.getD i aD))) (.inl false) (.inr (t,t.ag.map (·.ae),t.ag.map (·.Name)))
  (λi a=>by
   have f:=Zu (h.im _ (br a aD));rw[o3,cq,af (aS a)];simp only[a8,aq,a',I.bk];rw[<-ij (·.ae) t.ag i aD 0 a,<-ij (·.Name) t.ag i aD [] a,uz _ _ _ (by simpa using a),uz _ _ _ (by simpa using a)];have d:((t.ag.map (·.ae)).take (i+1)).length*24<=reachBytes:=by
    refine gz (eV _ ?_) h.gT;simp;omega
   have e:((t.ag.map (·.Name)).take (i+1)).length*24<=reachBytes:=(by grind);rw[af (BZ (by omega) d),af (BZ (by omega) e),bH (by omega),f];unfold n9
   grind)
  (by
   rw[o3,ch]
   rw[vp (by simp),vp (by simp)])
 have dh:o3 (t.ag,(t.ag.length:Int),((0:Nat):Int),t,(t.ag.map (·.ae)).take 0,(t.ag.map (·.Name)).take 0)=o3 (t.ag,(t.ag.length:Int),0,t,[],[]):=rfl;simp only[dh]at b;rw[rY];obtain⟨r,h1,c⟩:=K8 (l:=t.ag.map (·.ae)) (names:=t.ag.map (·.Name)) (by simpa using ik h.gT) (by simp);rw[sU]at c;rcases b with⟨g1,g2⟩|⟨g1,j,g2,g3⟩
 . rw[g1];simp only[a8,aq];rw[h1];refine⟨(bif decide (t.Kind=5)then true else decide (0<((t.ag.map (·.ae)).length:Int)))&&r,?_,?_⟩
   . grind
   grind
 grind
theorem WQ(l:List aU)(record:Bool)(ad:l.length<=reachBytes)(i:Nat)(e:i<l.length):
 na (l,record,(i:Int),0,l.getD i aD)=some (if((l.map (·.Name)).take i).contains ((l.map (·.Name)).getD i []) then .inl false else .inr (l,record,(i:Int),l.getD i aD)):=by
 have f:=dM ad;have c:=scan (λk=>na (l,record,(i:Int),(k:Int),l.getD i aD)) i (λk=>!(decide ((l.getD k aD).Name=(l.getD i aD).Name))) (.inl false) (.inr (l,record,(i:Int),l.getD i aD))
  (λk b=>by
   rw[na,cq,af (aS (by omega)),bH (by omega)];simp only[a',iZ]
   grind)
  (by rw[na,ch,iZ])
 have dh:na (l,record,(i:Int),((0:Nat):Int),l.getD i aD)=na (l,record,(i:Int),0,l.getD i aD):=rfl;simp only[dh]at c;rw[ij (·.Name) l i aD [] e];rcases c with⟨h1,a⟩|⟨h1,j,a,d⟩
 . rw[h1,al];rw[p7 (by simp;omega)]
   rintro ⟨k,b,he⟩
   rw[ij (·.Name) l k aD [] (by omega)]at he;have:=a k b;rw[he]at this;simp at this
 . rw[h1,af];rw[p7 (by simp;omega)];refine⟨j,a,?_⟩;rw[ij (·.Name) l j aD [] (by omega)];simpa using d
theorem WR{l:List aU}{record:Bool}(ad:l.length<=reachBytes)(f:∀m,m∈l->b3 m.bz):∃r,uI (l,record)=some r/\(r=true↔(∀i,i<l.length->n9 (!record) (l.getD i aD)=false)/\(record=true\/0<l.length)/\(∀i,i<l.length->j8 (l.map (·.ae)) (l.map (·.Name)) i=true)/\l.length<=16):=by
 have n:=dM ad;have b:=scan (λi=>ox (l,record,lx (l.map (·.ae)) i,(i:Int))) l.length (λi=>j8 (l.map (·.ae)) (l.map (·.Name)) i && !(n9 (!record) (l.getD i aD))) (.inl false) (.inr (l,record))
  (λi a=>by
   have c:=aax (f _ (br a aD));unfold az at c;rw[ox,cq,af (aS a)];simp only[a8,aq,a',I.bk,iZ,KV (l:=l.map (·.ae)) (names:=l.map (·.Name)) (i:=i) (by simpa using a) (by simp)];rw[WQ l record ad i a,c];have e:lx (l.map (·.ae)) (i+1)=(l.getD i aD).ae:=by
    unfold lx;grind
   rw[<-ij (·.ae) l i aD 0 a,<-ij (·.Name) l i aD [] a,OL,zl];simp only[aq];generalize (decide (lx (l.map (·.ae)) i<(l.map (·.ae)).getD i 0)&&decide (1<=(l.map (·.ae)).getD i 0)&&decide ((l.map (·.ae)).getD i 0<=1000))=q;cases q with
   |false=>simp
   |true=>
    simp only[dU,fz,b7,aq,pr];cases nm ((l.map (·.Name)).getD i [])with
    |false=>simp
    |true=>
     simp only[dU,pr,hQ,e'];unfold n9;cases record<;>cases (l.getD i aD).cv<;>cases (l.getD i aD).bV<;>cases oX (l.getD i aD).bz <;>
      simp only[dU,fz,Bool.or_self,Bool.and_self,AB,x9,Az,Bool.and_false,Bool.false_and,pr,Bool.false_or,hQ,eS,e',b7,b4,ca,aq] <;>
      first
       |rfl
       |(cases k:((l.map (·.Name)).take i).contains ((l.map (·.Name)).getD i [])with
        |true=>simp
        |false=>
         simp only[ca,b4,fz,b7];rw[bH (by omega),e]
         try rfl))
  (by rw[ox,ch])
 have dh:ox (l,record,lx (l.map (·.ae)) 0,((0:Nat):Int))=ox (l,record,0,0):=rfl;simp only[dh]at b;rw[uI];rcases b with⟨h1,d⟩|⟨h1,j,d,g⟩
 . rw[h1];refine⟨_,rfl,?_⟩;grind
 . rw[h1];refine⟨false,rfl,?_⟩;grind
theorem Ho(h:fD t)(d:t.Kind=5\/t.Kind=6):∃r,rY t=some r/\uI (t.ag,decide (t.Kind=5))=some r:=by
 obtain⟨r,h1,a⟩:=Ri h;obtain⟨q,b,c⟩:=WR (l:=t.ag) (record:=decide (t.Kind=5)) (ik h.gT) h.im;have e:(!(decide (t.Kind=5)))=decide (t.Kind=6):=by grind
 grind
theorem fD.plain{k l h m kk e:Int}{n:ao}{a:List aU}{o:Bool}(aA:S.length*24<=reachBytes)(c:a.length*24<=reachBytes)(f:∀x,x∈a->b3 x.bz):fD ⟨k,n,l,h,m,S,a,kk,e,o⟩:=⟨aA,c,f⟩
theorem ado{L:Int}{d:Bool}(h:fD (⟨1,N,L,H,M,S,c,K,E,d⟩:ah)):∃r,gr (⟨1,N,L,H,M,S,c,K,E,d⟩:ah)=some r/\hq (⟨1,N,L,H,M,S,c,K,E,d⟩:ah)=some r/\(r=true->N=[]):=by
 obtain⟨a,a1,a2⟩:=iK (a:=(⟨0,N,L,H,M,S,c,K,E,d⟩:ah)) ⟨h.syms,h.gT,h.im⟩ (⟨0,[],0,0,0,[],[],0,0,false⟩:ah);obtain⟨b,b1,b2⟩:=oP h (⟨1,[],0,0,0,[],[],0,0,false⟩:ah);have e:a=b:=by grind
 subst e;refine⟨a,by simp[gr,a1],by simp[hq,mz,jV,b1];try (cases a<;>rfl),λf=>?_⟩;grind
theorem adp{L:Int}{d:Bool}(h:fD (⟨2,N,L,H,M,S,c,K,E,d⟩:ah)):∃r,gr (⟨2,N,L,H,M,S,c,K,E,d⟩:ah)=some r/\hq (⟨2,N,L,H,M,S,c,K,E,d⟩:ah)=some r/\(r=true->N=[]):=by
 obtain⟨a,a1,a2⟩:=iK (a:=(⟨0,N,0,0,M,S,c,K,E,d⟩:ah)) ⟨h.syms,h.gT,h.im⟩ (⟨0,[],0,0,0,[],[],0,0,false⟩:ah);obtain⟨b,b1,b2⟩:=oP h (⟨2,[],L,H,0,[],[],0,0,false⟩:ah);have e:a=b:=by grind
 subst e;refine⟨decide (L<=H)&&a,?_,?_,λf=>?_⟩
 . simp only[gr];grind
 . simp only[hq];generalize decide (L<=H)=q;simp[mz,jV,b1];grind
 grind
theorem adq{L:Int}{d:Bool}(h:fD (⟨3,N,L,H,M,S,c,K,E,d⟩:ah)):∃r,gr (⟨3,N,L,H,M,S,c,K,E,d⟩:ah)=some r/\hq (⟨3,N,L,H,M,S,c,K,E,d⟩:ah)=some r/\(r=true->N=[]):=by
 obtain⟨a,a1,a2⟩:=iK (a:=(⟨0,N,L,H,0,S,c,K,E,d⟩:ah)) ⟨h.syms,h.gT,h.im⟩ (⟨0,[],0,0,0,[],[],0,0,false⟩:ah);obtain⟨b,b1,b2⟩:=oP h (⟨3,[],0,0,M,[],[],0,0,false⟩:ah);have e:a=b:=by grind
 subst e;refine⟨(bif decide (0<=M)then decide (M<=200)else false)&&a,?_,?_,λf=>?_⟩
 . simp only[gr];grind
 . simp only[hq];generalize (bif decide (0<=M)then decide (M<=200)else false)=q;simp[mz,jV,b1];grind
 grind
theorem adr{L:Int}{d:Bool}(h:fD (⟨4,N,L,H,M,S,c,K,E,d⟩:ah)):∃r,gr (⟨4,N,L,H,M,S,c,K,E,d⟩:ah)=some r/\hq (⟨4,N,L,H,M,S,c,K,E,d⟩:ah)=some r/\(r=true->N≠[]):=by
 obtain⟨a,a1,a2⟩:=iK (a:=(⟨0,[],L,H,M,[],c,K,E,false⟩:ah)) ⟨(by simp),h.gT,h.im⟩ (⟨0,[],0,0,0,[],[],0,0,false⟩:ah);obtain⟨b,b1,b2⟩:=oP h (⟨4,N,0,0,0,S,[],0,0,d⟩:ah);have g:a=b:=by grind
 subst g;obtain⟨q,i,f⟩:=Xq (l:=S) h.syms;refine⟨nm N&&q&&a,?_,?_,λe=>?_⟩
 . simp only[gr];simp[a1,i,sN];grind
 . simp only[hq]
   try simp at f
   simp[mz,jV,b1,f,zl];grind
 . simp only[cX]at e;exact DK e.1.1
theorem ads{L:Int}{d:Bool}(h:fD (⟨5,N,L,H,M,S,c,K,E,d⟩:ah)):∃r,gr (⟨5,N,L,H,M,S,c,K,E,d⟩:ah)=some r/\hq (⟨5,N,L,H,M,S,c,K,E,d⟩:ah)=some r/\(r=true->N≠[]):=by
 obtain⟨a,a1,a2⟩:=iK (a:=(⟨0,[],L,H,M,S,[],K,E,(bif d then decide ((5:Int)=5)else false)⟩:ah)) ⟨h.syms,(by simp),(by simp)⟩ (⟨0,[],0,0,0,[],[],0,0,false⟩:ah);obtain⟨b,b1,b2⟩:=oP h (⟨5,N,0,0,0,[],c,0,0,false⟩:ah);have i:a=b:=by grind
 subst i;obtain⟨q,f,g⟩:=Ho h (by simp);refine⟨nm N&&q&&a,?_,?_,λe=>?_⟩
 . simp only[gr]
   try simp at a1
   try simp at f
   simp[a1,f,sN];grind
 . simp only[hq]
   try simp at g
   simp[mz,jV,b1,g,zl];grind
 . simp only[cX]at e;exact DK e.1.1
theorem adt{L:Int}{d:List aU}{c:Bool}(h:fD (⟨6,N,L,H,M,S,d,K,E,c⟩:ah)):∃r,gr (⟨6,N,L,H,M,S,d,K,E,c⟩:ah)=some r/\hq (⟨6,N,L,H,M,S,d,K,E,c⟩:ah)=some r/\(r=true->N≠[]):=by
 obtain⟨a,a1,a2⟩:=iK (a:=(⟨0,[],L,H,M,S,[],K,E,(bif c then decide ((6:Int)=5)else false)⟩:ah)) ⟨h.syms,(by simp),(by simp)⟩ (⟨0,[],0,0,0,[],[],0,0,false⟩:ah);obtain⟨b,b1,b2⟩:=oP h (⟨6,N,0,0,0,[],d,0,0,c⟩:ah);have i:a=b:=by grind
 subst i;obtain⟨q,f,g⟩:=Ho h (by simp);refine⟨nm N&&q&&a,?_,?_,λe=>?_⟩
 . simp only[gr]
   try simp at a1
   try simp at f
   simp[a1,f,sN];grind
 . simp only[hq]
   try simp at g
   simp[mz,jV,b1,g,zl];grind
 . simp only[cX]at e;exact DK e.1.1
theorem adu{L:Int}{d:Bool}(h:fD (⟨7,N,L,H,M,S,c,K,E,d⟩:ah)):∃r,gr (⟨7,N,L,H,M,S,c,K,E,d⟩:ah)=some r/\hq (⟨7,N,L,H,M,S,c,K,E,d⟩:ah)=some r/\(r=true->N=[]):=by
 obtain⟨a,a1,a2⟩:=iK (a:=(⟨0,N,L,H,0,S,c,K,0,d⟩:ah)) ⟨h.syms,h.gT,h.im⟩ (⟨0,[],0,0,0,[],[],0,0,false⟩:ah);obtain⟨b,b1,b2⟩:=oP h (⟨7,[],0,0,M,[],[],0,E,false⟩:ah);have e:a=b:=by grind
 subst e;refine⟨(bif decide (0<=M)then decide (M<=50)else false)&&a,?_,?_,λf=>?_⟩
 . simp only[gr];grind
 . simp only[hq];generalize (bif decide (0<=M)then decide (M<=50)else false)=q;simp[mz,jV,b1];grind
 grind
theorem adv{L:Int}{d:Bool}(h:fD (⟨8,N,L,H,M,S,c,K,E,d⟩:ah)):∃r,gr (⟨8,N,L,H,M,S,c,K,E,d⟩:ah)=some r/\hq (⟨8,N,L,H,M,S,c,K,E,d⟩:ah)=some r/\(r=true->N=[]):=by
 obtain⟨a,a1,a2⟩:=iK (a:=(⟨0,N,L,H,0,S,c,0,0,d⟩:ah)) ⟨h.syms,h.gT,h.im⟩ (⟨0,[],0,0,0,[],[],0,0,false⟩:ah);obtain⟨b,b1,b2⟩:=oP h (⟨8,[],0,0,M,[],[],K,E,false⟩:ah);have e:a=b:=by grind
 subst e;refine⟨(bif decide (0<=M)then decide (M<=50)else false)&&a,?_,?_,λf=>?_⟩
 . simp only[gr];grind
 . simp only[hq];generalize (bif decide (0<=M)then decide (M<=50)else false)=q;simp[mz,jV,b1];grind
 grind
theorem adw{L:Int}{d:Bool}(h:fD (⟨9,N,L,H,M,S,c,K,E,d⟩:ah)):∃r,gr (⟨9,N,L,H,M,S,c,K,E,d⟩:ah)=some r/\hq (⟨9,N,L,H,M,S,c,K,E,d⟩:ah)=some r/\(r=true->N=[]):=by
 obtain⟨a,a1,a2⟩:=iK (a:=(⟨0,N,L,H,M,S,c,K,0,d⟩:ah)) ⟨h.syms,h.gT,h.im⟩ (⟨0,[],0,0,0,[],[],0,0,false⟩:ah);obtain⟨b,b1,b2⟩:=oP h (⟨9,[],0,0,0,[],[],0,E,false⟩:ah);have e:a=b:=by grind
 subst e;refine⟨a,by simp[gr,a1],by simp[hq,mz,jV,b1];try (cases a<;>rfl),λf=>?_⟩;grind
def kF(k:Int):Bool:=bif bif decide (k=4)then true else decide (k=5)then true else decide (k=6)
theorem Hp(h:fD t):∃r,gr t=some r/\hq t=some r/\(r=true->1<=t.Kind/\t.Kind<=9/\kF t.Kind=!(decide (t.Name=[]))):=by
 by_cases b:1<=t.Kind/\t.Kind<=9
 . obtain⟨a,N,L,H,M,S,c,K,E,d⟩:=t;simp at b;have:a=1\/a=2\/a=3\/a=4\/a=5\/a=6\/a=7\/a=8\/a=9:=(by omega);rcases this with rfl|rfl|rfl|rfl|rfl|rfl|rfl|rfl|rfl
   . grind[ado,kF]
   . grind[adp,kF]
   . grind[adq,kF]
   . grind[adr,kF]
   . grind[ads,kF]
   . grind[adt,kF]
   . grind[adu,kF]
   . grind[adv,kF]
   grind[adw,kF]
 . refine⟨false,?_,?_,λh=>by grind⟩
   . have e:∀k,1<=k->k<=9->¬t.Kind=k:=λk h1 f e=>b (by omega);simp_all[gr]
   . have e:(bif decide (t.Kind<1)then true else decide (9<t.Kind))=true:=(by grind);rw[hq,e];rfl
def fu(t:ah):au:=t.ag.map (·.aB)++(if t.Kind=8 then[t.Key]else[])++(if 7<=t.Kind then[t.aC]else[])
theorem uV{k n:Nat}(a:k<=16){m:Nat}(h:m*24<=reachBytes)(aP:n<=m+2):room k n=true:=by
 unfold room hr dm;unfold reachBytes at h;simp;have:(2*n+192)*k<=(2*n+192)*16:=Nat.mul_le_mul_left _ a;omega
theorem Rj(t:ah)(h:t.ag.length*24<=reachBytes):∀(k i:Nat),i+k=t.ag.length->rZ (t.ag,(t.ag.length:Int),(i:Int),t,(t.ag.map (·.aB)).take i)=some (t,t.ag.map (·.aB))
 |0,i,a=>by grind[rZ,List.take_of_length_le]
 |k+1,i,a=>by
  have b:=dM (ik h);have aE:i<t.ag.length:=by omega
  rw[rZ,af (by grind),af (aS aE)];simp only[a8,aq,a'];rw[<-ij (·.aB) _ i _ 0 aE,uz _ _ _ (by grind),bH (by omega),af (uV (by simp) h (by grind))];exact Rj t h k _ (by omega)
theorem aay(h:t.ag.length*24<=reachBytes):Bt t=some (fu t):=by
 have h0:=Rj t h t.ag.length 0 (by simp);rw[Bt];unfold fu;have a:room 8 (t.ag.map (·.aB)++[t.Key]).length=true:=uV (by simp) h (by simp);have b:room 8 (t.ag.map (·.aB)++[t.Key]++[t.aC]).length=true:=uV (m:=t.ag.length) (by simp) h (by simp);grind
theorem QS(t:ah)(h:t.ag.length*24<=reachBytes):∀(k i:Nat),i+k=t.ag.length->rF ((i:Int),t,(t.ag.map (·.aB)).take i)=some (t,t.ag.map (·.aB))
 |0,i,a=>by grind[rF,List.take_of_length_le]
 |k+1,i,a=>by
  have b:=dM (ik h);have aE:i<t.ag.length:=by omega
  rw[rF,af (by grind),af (aS aE)];simp only[a8,aq,a'];rw[<-ij (·.aB) _ i _ 0 aE,uz _ _ _ (by grind),bH (by omega),af (uV (by simp) h (by grind))];exact QS t h k _ (by omega)
theorem aaz(h:t.ag.length*24<=reachBytes)(a:t.Kind<=9):AU t=some (fu t):=by
 have h0:=QS t h t.ag.length 0 (by simp);rw[AU];unfold fu;have b:room 8 (t.ag.map (·.aB)++[t.Key]).length=true:=uV (by simp) h (by simp);have c:room 8 (t.ag.map (·.aB)++[t.Key]++[t.aC]).length=true:=uV (m:=t.ag.length) (by simp) h (by simp);grind
theorem aaA(k:Int):jV k=some (kF k):=rfl
def wL(k:Int):Bool:=bif decide (1<=k)then decide (k<=4)else false
def pv(n:Nat)(u:Int):Bool:=bif decide (u<0)then true else decide ((n:Int)<=u)
def s6(ts:List ah)(i:Nat):Option Int:=
 let t:=ts.getD i aN
 if !((gr t).getD false)then some 1 else if !(decide (t.Name=[]))&&((ts.map (·.Name)).take i).contains t.Name then some 1 else if(fu t).any (pv ts.length)then some 4 else if decide (t.Kind=8) && !(wL (ts.getD t.Key.toNat aN).Kind)then some 1 else none
theorem Gh{i:Nat}{r:Bool}(dr:ts.getD i aN=t)(f1:gr t=some r):
 s6 ts i=if !r then some 1 else if !(t.Name=[]:Bool)&&((ts.map (·.Name)).take i).contains t.Name then some 1 else if(fu t).any (pv ts.length) then some 4 else if((t.Kind=8:Bool) && !(wL (ts.getD t.Key.toNat aN).Kind)) then some 1 else none:=by
 grind[s6]
theorem Il{c:Type}(L:Nat->Option c)(l:au)(q:Int->Bool)(a b:c)(f:∀i,i<l.length->L i=if q (l.getD i 0)then some a else L (i+1))(d:L l.length=some b):
 L 0=some (if l.any q then a else b):=by
 have:=scan L l.length (λi=>!(q (l.getD i 0))) a _ (λi e=>by grind) d;grind[List.getElem_of_mem]
theorem Hq(h:t.ag.length*24<=reachBytes):(fu t).length<9223372036854775807:=by
 grind[fu,reachBytes]
theorem aaM{L:Nat->Option (Int ⊕ Unit)}{n:Nat}{step:Nat->Option Int}
 (h:∀i,i<n->L i=match step i with|some e=>some (.inl e)|none=>L (i+1))(he:L n=some (.inr ()))
 (a:∀i,i<n->L' i=match step i with|some e=>some (.inl e)|none=>L' (i+1))(f:L' n=some (.inr ())):∃o,L 0=some o/\L' 0=some o/\((o= .inr ()/\∀i,i<n->step i=none)\/∃i e,i<n/\step i=some e/\o= .inl e):=by
 have key:∀k i,i+k=n->∃o,L i=some o/\L' i=some o/\((o= .inr ()/\∀m,i<=m->m<n->step m=none)\/∃m e,m<n/\step m=some e/\o= .inl e):=by
  intro k;induction k with
  |zero=>grind
  |succ k ih=>
   intro i g;rw[a i (by omega)];cases j:step i with
   |some e=>grind
   |none=>
    obtain⟨o,b,c,d⟩:=ih (i+1) (by omega);grind
 obtain⟨o,b,c,d⟩:=key n 0 (by simp);grind
theorem K9(b:(fu t).any (pv ts.length)=false)(a:t.Kind=8):aI t.Key ts.length=true:=by
 grind[fu,pv,aI]
theorem aaN(ts:List ah)(t:ah)(i:Nat)(d:i<ts.length)(f:ts.length<9223372036854775807):
 nc ((i:Int),0,ts,t.Kind,t.Name,t.bE,t.bG,t.Max,t.bg,t.ag,t.Key,t.aC,t.Open)=some (if(kF t.Kind&&((ts.map (·.Name)).take i).contains t.Name) then .inl 1 else .inr ((i:Int),ts,t.Kind,t.Name,t.bE,t.bG,t.Max,t.bg,t.ag,t.Key,t.aC,t.Open)):=by
 have b:=scan (λk=>nc (i,k,ts,t.Kind,t.Name,t.bE,t.bG,t.Max,t.bg,t.ag,t.Key,t.aC,t.Open)) i (λk=>!(bif kF t.Kind then decide ((ts.getD k aN).Name=t.Name)else false)) (.inl 1) (.inr (i,ts,t.Kind,t.Name,t.bE,t.bG,t.Max,t.bg,t.ag,t.Key,t.aC,t.Open))
  (λk e=>by
   rw[nc,af (by grind),aaA];simp only[a8,aq];rw[af (by grind[aS]),bH (by omega)]
   grind)
  (by simp_all[nc])
 have dh:nc ((i:Int),(0:Nat),ts,t.Kind,t.Name,t.bE,t.bG,t.Max,t.bg,t.ag,t.Key,t.aC,t.Open)=nc ((i:Int),0,ts,t.Kind,t.Name,t.bE,t.bG,t.Max,t.bg,t.ag,t.Key,t.aC,t.Open):=rfl;simp at b;rcases b with⟨h1,a⟩|⟨h1,j,a,c⟩
 . rw[h1,al];rw[cX,p7 (by grind)];grind
 . rw[h1,af];rw[cX,p7 (by grind)];cases aP:kF _ with
   |false=>grind
   |true=>
    refine⟨rfl,j,a,?_⟩;grind
theorem aaO(ts:List ah)(t:ah)(i:Nat)(l:au)(ad:l.length<9223372036854775807):
 qm ((i:Int),l,0,ts,t.Kind,t.Name,t.bE,t.bG,t.Max,t.bg,t.ag,t.Key,t.aC,t.Open)=some (if l.any (pv ts.length) then .inl 4 else .inr ((i:Int),ts,t.Kind,t.Name,t.bE,t.bG,t.Max,t.bg,t.ag,t.Key,t.aC,t.Open)):=
 Il (λj=>qm (i,l,j,ts,t.Kind,t.Name,t.bE,t.bG,t.Max,t.bg,t.ag,t.Key,t.aC,t.Open)) l _ _ _
  (λj a=>by
   rw[qm,af (by grind),af (aS a)];simp only[a8,aq];rw[af (by grind[aS]),bH (by omega)]
   rfl)
  (by grind[qm])
theorem WS{s:bl}(hs:s.Types.length<=reachBytes)(ht:∀t,t∈s.Types->fD t):∃e,pd s=some e/\uQ s=some e/\(e=0->s.Types.length<=32/\∀i,i<s.Types.length->s6 s.Types i=none)/\((s.Types.length<=32/\∀i,i<s.Types.length->s6 s.Types i=none)->e=0)/\e≠12:=by
 rw[pd,uQ];by_cases y:32<s.Types.length
 . exact⟨3,by grind,by grind,λh=>(by grind),λh=>absurd h.1 (by omega),by simp⟩
 . rw[al (by grind),al (by grind)];have u:s.Types.length<9223372036854775807:=(by omega);have:=aaM (L:=λi=>p0 (s.Types,(s.Types.length:Int),(i:Int),s.Types,lg ((s.Types.map (·.Name)).take i))) (L':=λi=>qp ((i:Int),s.Types)) (n:=s.Types.length) (step:=s6 s.Types)
    (λi b=>by
     have a:=ht _ (br b aN);obtain⟨r,f1,f2,f3⟩:=Hp a;rw[p0,af (by grind),af (aS b)];simp only[a8,aq,a'];generalize dr:s.Types.getD i aN=t at*;rw[Gh dr f1,f1];simp only[aq,Rf];cases r with
     |false=>rfl
     |true=>
      by_cases f:(!(decide (t.Name=[]))&&((s.Types.map (·.Name)).take i).contains t.Name)=true
      . grind
      . have l:¬((bif (!(decide (t.Name=[])))then((s.Types.map (·.Name)).take i).contains t.Name else false)=true):=(by grind);rw[al (show ¬((bif (!true)then true else bif (!(decide (t.Name=[])))then((s.Types.map (·.Name)).take i).contains t.Name else false)=true)from l),al f,aay a.gT];simp only[aq];have z:=Hq a.gT;have m:=Il (λj=>o4 (s.Types,(s.Types.length:Int),(i:Int),fu t,((fu t).length:Int),(j:Int),s.Types,iC (lg ((s.Types.map (·.Name)).take i)) t.Name,t.Kind,t.Name,t.bE,t.bG,t.Max,t.bg,t.ag,t.Key,t.aC,t.Open)) (fu t) (pv s.Types.length) (.inl 4)
         (.inr (s.Types,(s.Types.length:Int),(i:Int),s.Types,iC (lg ((s.Types.map (·.Name)).take i)) t.Name,t.Kind,t.Name,t.bE,t.bG,t.Max,t.bg,t.ag,t.Key,t.aC,t.Open))
         (λj p=>by
          rw[o4,af (by grind),af (aS p),bH (by omega)]
          rfl)
         (by simp_all[o4,al])
        have dh:o4 (s.Types,(s.Types.length:Int),(i:Int),fu t,((fu t).length:Int),((0:Nat):Int),s.Types,iC (lg ((s.Types.map (·.Name)).take i)) t.Name,t.Kind,t.Name,t.bE,t.bG,t.Max,t.bg,t.ag,t.Key,t.aC,t.Open)=o4 (s.Types,(s.Types.length:Int),(i:Int),fu t,((fu t).length:Int),0,s.Types,iC _ t.Name,t.Kind,t.Name,t.bE,t.bG,t.Max,t.bg,t.ag,t.Key,t.aC,t.Open):=rfl;rw[<-dh,m];cases d:(fu t).any (pv s.Types.length)with
        |true=>rfl
        |false=>
         simp only[ca,b4,aq];have v:iC (lg ((s.Types.map (·.Name)).take i)) t.Name=lg ((s.Types.map (·.Name)).take (i+1)):=by
          grind[Rg]
         rw[v,bH (by omega)];by_cases c:t.Kind=8
         . have q:=K9 d c;simp only[c,ds,eS,pr,wL];grind
         grind)
    (by simp_all[p0,al])
    (λi b=>by
     have a:=ht _ (br b aN);obtain⟨r,f1,f2,f3⟩:=Hp a;rw[qp,af (by grind),af (aS b)];simp only[a8,aq,a'];generalize dr:s.Types.getD i aN=t at*;rw[Gh dr f1,f2,aaN s.Types t i b u];simp only[aq];cases r with
     |false=>rfl
     |true=>
      obtain⟨bb,bq,bU⟩:=f3 rfl;rw[al (show ¬((!true)=true) by simp),bU];cases f:(!(decide (t.Name=[]))&&((s.Types.map (·.Name)).take i).contains t.Name)with
      |true=>rfl
      |false=>
       simp only[ca,b4,CE];rw[aaz a.gT bq];simp only[aq];rw[aaO s.Types t i (fu t) (Hq a.gT)];cases d:(fu t).any (pv s.Types.length)with
       |true=>rfl
       |false=>
        simp only[ca,b4,aq];rw[bH (by omega)];by_cases c:t.Kind=8
        . have q:=K9 d c;rw[af (by grind)];simp only[c,ds,b7,wV,aq,eS,pr];show(if !(wL (s.Types.getD t.Key.toNat aN).Kind) then some (.inl 1)else qp (((i+1:Nat):Int),s.Types))=_;grind
        grind)
    (by simp_all[qp,al])
   obtain⟨o,h1,x,g⟩:=this;have w:p0 (s.Types,(s.Types.length:Int),0,s.Types,[])=some o:=h1;rcases g with⟨rfl,k⟩|⟨i,e,k,bp,rfl⟩
   . simp_all
   grind[s6]
theorem uA{d:Type}(L:Nat->Option d)(n:Nat)(q:Nat->Bool)(a:Nat->d)(c:d)(g:∀i,i<n->L i=if q i then some (a i)else L (i+1))(e:L n=some c):
 (∃j,j<n/\q j=true/\(∀k,k<j->q k=false)/\L 0=some (a j))\/((∀k,k<n->q k=false)/\L 0=some c):=by
 have key:∀k i,i+k=n->(∀m,m<i->q m=false)->L 0=L i->(∃j,j<n/\q j=true/\(∀k,k<j->q k=false)/\L 0=some (a j))\/((∀k,k<n->q k=false)/\L 0=some c):=by
  intro k;induction k with
  |zero=> intro i f b h0; have:i = n:= by omega
          subst this;exact .inr ⟨b,by rw[h0,e]⟩
  |succ k ih=>
   intro i f b h0;rw[g i (by omega)]at h0;grind
 exact key n 0 (by omega) (λm b=>by omega) rfl
def sv(l:List aU)(id:Int)(r:Int×Bool):Prop:=(∃j:Nat,j<l.length/\(l.getD j aD).ae=id/\(∀k,k<j->(l.getD k aD).ae≠id)/\r=((j:Int),true))\/((∀k,k<l.length->(l.getD k aD).ae≠id)/\r=(0,false))
theorem Fo{l:List aU}{r q:Int×Bool}(h1:sv l id r)(a:sv l id q):r=q:=by
 rcases h1 with⟨j,a1,a2,a3,rfl⟩|⟨a1,rfl⟩<;>rcases a with⟨k,b1,b2,b,rfl⟩|⟨b1,rfl⟩
 . grind
 . grind
 . grind
 . rfl
theorem xk(ad:t.ag.length<9223372036854775807):∃r,hG (t,id)=some r/\sv t.ag id r:=by
 rw[hG,ER];have h:=uA (λi=>oj (t.ag,(t.ag.length:Int),(i:Int),id)) t.ag.length (λi=>decide ((t.ag.getD i aD).ae=id)) (λi=>.inl ((i:Int),id)) (.inr id)
  (λi e=>by
   rw[oj,cq,af (aS e)];simp only[a8,aq,a',iZ,EB]
   rw[bH (by omega)])
  (by rw[oj,ch])
 have dh:oj (t.ag,(t.ag.length:Int),((0:Nat):Int),id)=oj (t.ag,(t.ag.length:Int),0,id):=rfl;simp only[dh]at h;rcases h with⟨j,h1,c,d,a⟩|⟨h1,a⟩
 . rw[a];refine⟨((j:Int),true),?_,.inl ⟨j,h1,by simpa using c,λk b=>by simpa using d k b,rfl⟩⟩;have aK:iw (j:Int) 0=(j:Int):=by unfold iw;omega
   simp_all
 . rw[a];exact⟨(0,false),rfl,.inr ⟨λk b=>by simpa using h1 k b,rfl⟩⟩
theorem PE(ad:t.ag.length<9223372036854775807):∃r,ib (t,id)=some r/\sv t.ag id r:=by
 rw[ib];have h:=uA (λi=>oB (id,(i:Int),t)) t.ag.length (λi=>decide ((t.ag.getD i aD).ae=id)) (λi=>.inl ((i:Int),true)) (.inr ())
  (λi e=>by
   rw[oB,cq,af (aS e),bH (by omega)]
   grind)
  (by rw[oB,ch])
 have dh:oB (id,((0:Nat):Int),t)=oB (id,0,t):=rfl;simp only[dh]at h;rcases h with⟨j,h1,c,d,a⟩|⟨h1,a⟩
 . rw[a];exact⟨((j:Int),true),rfl,.inl ⟨j,h1,by simpa using c,λk b=>by simpa using d k b,rfl⟩⟩
 . rw[a];exact⟨(0,false),rfl,.inr ⟨λk b=>by simpa using h1 k b,rfl⟩⟩
theorem ml(id:Int)(ad:t.ag.length<9223372036854775807):∃r,hG (t,id)=some r/\ib (t,id)=some r/\sv t.ag id r:=by
 obtain⟨r,h1,a⟩:=xk (id:=id) ad;obtain⟨q,c,b⟩:=PE (id:=id) ad;have:=Fo a b;grind
def uW(l:List c6)(id:Int)(r:Int×Bool):Prop:=(∃j:Nat,j<l.length/\(l.getD j dR).ae=id/\(∀k,k<j->(l.getD k dR).ae≠id)/\r=((j:Int),true))\/((∀k,k<l.length->(l.getD k dR).ae≠id)/\r=(0,false))
theorem VP{l:List c6}{r q:Int×Bool}(h1:uW l id r)(a:uW l id q):r=q:=by
 rcases h1 with⟨j,a1,a2,a3,rfl⟩|⟨a1,rfl⟩<;>rcases a with⟨k,b1,b2,b,rfl⟩|⟨b1,rfl⟩
 . grind
 . grind
 . grind
 . rfl
theorem ur(id:Int)(ad:t.bg.length<9223372036854775807):∃r,uf (t,id)=some r/\uL (t,id)=some r/\uW t.bg id r:=by
 rw[uf,EP,uL];have h:=uA (λi=>mZ (t.bg,(t.bg.length:Int),(i:Int),id)) t.bg.length (λi=>decide ((t.bg.getD i dR).ae=id)) (λi=>.inl ((i:Int),id)) (.inr id)
  (λi f=>by
   rw[mZ,cq,af (aS f)];simp only[a8,aq,a',Ez]
   rw[bH (by omega)])
  (by rw[mZ,ch])
 have dh:mZ (t.bg,(t.bg.length:Int),((0:Nat):Int),id)=mZ (t.bg,(t.bg.length:Int),0,id):=rfl;have g:=uA (λi=>ng (id,(i:Int),t)) t.bg.length (λi=>decide ((t.bg.getD i dR).ae=id)) (λi=>.inl ((i:Int),true)) (.inr ())
  (λi f=>by
   rw[ng,cq,af (aS f),bH (by omega)]
   grind)
  (by rw[ng,ch])
 have m:ng (id,((0:Nat):Int),t)=ng (id,0,t):=rfl;simp only[dh]at h;simp only[m]at g;have n:∃r,(mZ (t.bg,(t.bg.length:Int),0,id)>>=λo=>match o with|.inl c=>some (c.1,c.2)|.inr l=>some ((-1),l))>>=(λr=>some (iw r.1 0,decide (0<=r.1)))=some r/\uW t.bg id r:=by
  rcases h with⟨j,h1,d,e,a⟩|⟨h1,a⟩
  . rw[a];refine⟨((j:Int),true),?_,.inl ⟨j,h1,by simpa using d,λk b=>by simpa using e k b,rfl⟩⟩;have aK:iw (j:Int) 0=(j:Int):=by unfold iw;omega
    simp_all
  . rw[a];exact⟨(0,false),rfl,.inr ⟨λk b=>by simpa using h1 k b,rfl⟩⟩
 have di:∃r,(ng (id,0,t)>>=λo=>match o with|.inl c=>some (c.1,c.2)|.inr l=>some (0,false))=some r/\uW t.bg id r:=by
  rcases g with⟨j,h1,d,e,a⟩|⟨h1,a⟩
  . rw[a];exact⟨((j:Int),true),rfl,.inl ⟨j,h1,by simpa using d,λk b=>by simpa using e k b,rfl⟩⟩
  . rw[a];exact⟨(0,false),rfl,.inr ⟨λk b=>by simpa using h1 k b,rfl⟩⟩
 obtain⟨r,a1,a2⟩:=n;obtain⟨q,b1,b2⟩:=di;have:=VP a2 b2;grind
def gB(n:Int):Int:=if 0<=n then 2*n else -2*n-1
theorem KX{a b:Int}(h:gB a=gB b):a=b:=by
 unfold gB at h;split at h<;>split at h<;>omega
def cx(n:Int):Prop:= -9223372036854775808<=n/\n<=9223372036854775807
theorem sw{n:Int}(h:cx n):uM n=some (gB n):=by
 obtain⟨h1,f⟩:=h;rw[uM];unfold gB;by_cases h0:0<=n
 . rw[af (by simp[h0]),af h0];obtain⟨k,rfl⟩:∃k:Nat,n=(k:Int):=⟨n.toNat,by omega⟩
   rw[h7];have:=DI (a:=2) (b:=k) (by omega);grind
 . rw[al (by simp[h0]),al h0];rw[jb (by omega) (by omega),iL (by omega) (by omega)];obtain⟨k,e⟩:∃k:Nat,0-(n+1)=(k:Int):=⟨(0-(n+1)).toNat,by omega⟩
   rw[e,h7];have c:=DI (a:=2) (b:=k) (by omega);have d:jH .u64 2 (k:Int)=((2*k:Nat):Int):=c;rw[d];have g:=zM (a:=2*k) (b:=1) (by omega);grind
theorem Zv(a:Nat)(h:a<18446744073709551616):td .u64 (a:Int) 0=(a:Int):=by
 have e:(BitVec.ofInt 64 (a:Int) ^^^ BitVec.ofInt 64 (0:Int)).toNat=a:=by grind
 show IntKind.u64.wrap (((BitVec.ofInt 64 (a:Int) ^^^ BitVec.ofInt 64 (0:Int)).toNat:Nat):Int)=_;rw[e];exact kO (by omega) (by omega)
theorem Zw(a:Nat)(h:a<18446744073709551616):td .u64 (a:Int) 18446744073709551615=((18446744073709551615-a:Nat):Int):=by
 have e:(BitVec.ofInt 64 (a:Int) ^^^ BitVec.ofInt 64 (18446744073709551615:Int)).toNat=18446744073709551615-a:=by
  have h1:BitVec.ofInt 64 (18446744073709551615:Int)=BitVec.allOnes 64:=by decide
  rw[h1,vr,BitVec.xor_allOnes,BitVec.toNat_not,yh,E5,po h]
 all_goals (try omega)
 show IntKind.u64.wrap (((BitVec.ofInt 64 (a:Int) ^^^ BitVec.ofInt 64 (18446744073709551615:Int)).toNat:Nat):Int)=_;rw[e];exact kO (by omega) (by omega)
theorem aep{n:Int}(h:cx n):lh .i64 n 63=if 0<=n then 0 else -1:=by
 obtain⟨h1,a⟩:=h;unfold lh;have e:((2:Int)^min (63:Int).toNat IntKind.i64.bits)=9223372036854775808:=by decide
 grind
theorem B6{n:Int}(h:cx n):ug n=some (gB n):=by
 rw[ug,aep h];obtain⟨h1,a⟩:=h;unfold gB;have hs:∀m:Int,mK .u64 m 1=IntKind.u64.wrap (m*2):=by
  intro m;unfold mK;rfl
 rw[hs]
 congr 1
 by_cases h0:0<=n
 . rw[af h0,af h0];obtain⟨k,rfl⟩:∃k:Nat,n=(k:Int):=⟨n.toNat,by omega⟩
   rw[h7,kO (by omega) (by omega)];have:b9 .u64 0=0:=(by decide);rw[this];have:=Zv (2*k) (by omega);grind
 . rw[al h0,al h0];have:b9 .u64 (-1)=18446744073709551615:=(by decide);rw[this];obtain⟨k,b⟩:∃k:Nat,n+9223372036854775808=(k:Int):=⟨(n+9223372036854775808).toNat,by omega⟩
   have e:IntKind.u64.wrap (b9 .u64 n*2)=((2*k:Nat):Int):=by
    unfold b9;rw[IntKind.wrap_u64,IntKind.wrap_u64];omega
   rw[e,Zw _ (by omega)];omega
theorem abA(a b:Int):Bu (a,b)=some (if a<b then -1 else if b<a then 1 else 0):=by
 rw[Bu];simp only[Bn,a8,aq,ds,dU,ca,b4];grind
theorem Mq(a b:Int):xm (a,b)=some (if a<b then -1 else if b<a then 1 else 0):=by
 rw[xm];simp only[Bv,a8,aq,ds,dU,ca,b4];grind
theorem abB(a b:ao):A6 (a,b)=some (if Op.bytesLess a b then -1 else if(Op.bytesLess a b||(a=b:Bool))then 0 else 1):=by
 rw[A6];simp only[Bw,a8,aq,ds,dU,ca,b4];grind
theorem ad9(a b:Int):B5 [a,b]=some (if a≠0 then a else b):=by
 rw[B5];have h0:qB (0,[a,b],((2:Nat):Int),((0:Nat):Int))=if a≠0 then some (.inl a)else(if b≠0 then some (.inl b)else some (.inr 0)):=by
  rw[qB,af (by decide),af (show aI ((0:Nat):Int) ([a,b]:au).length=true from aS (k:=0) (n:=2) (by omega))];simp only[a8,aq,a',mG];by_cases c:a=0
  . rw[al (by simp[c]),al (by simp[c])];have aK:aQ .i64 ((0:Nat):Int) 1=((1:Nat):Int):=bH (by omega);rw[aK,qB,af (by decide),af (show aI ((1:Nat):Int) ([a,b]:au).length=true from aS (k:=1) (n:=2) (by omega))];simp only[a8,aq,a',DX,mG];by_cases d:b=0
    . rw[al (by simp[d]),al (by simp[d])];have e:aQ .i64 ((1:Nat):Int) 1=((2:Nat):Int):=bH (by omega);rw[e,qB,al (by decide)]
    grind
  grind
 grind
theorem QB:∀a:ao,Op.bytesLess a a=false
 |[]=>rfl
 |x::r=>by
  simp[Op.bytesLess,QB r]
theorem BV{a b:I}(c:cx a.bo)(d:cx b.bo):∃r,o9 (a,b)=some r/\o1 (a,b)=some r:=by
 rw[o9,o1];by_cases e:a.Kind=b.Kind
 . rw[al (show ¬((!(decide (a.Kind=b.Kind)))=true) by simp[e]),al (show ¬((!(decide (a.Kind=b.Kind)))=true) by simp[e])];by_cases bb:a.Kind=1
   . rw[af (show decide (a.Kind=1)=true by simp[bb]),af (show decide (a.Kind=1)=true by simp[bb])];simp only[ku];cases fg a.b5 b.b5<;>cases b.b5<;>exact⟨_,rfl,rfl⟩
   . rw[al (show ¬(decide (a.Kind=1)=true) by simp[bb]),al (show ¬(decide (a.Kind=1)=true) by simp[bb])];by_cases bq:a.Kind=2
     . rw[af (show decide (a.Kind=2)=true by simp[bq]),af (show decide (a.Kind=2)=true by simp[bq]),B6 c,B6 d,sw c,sw d];simp only[a8,aq,abA,ku];by_cases he:a.bo=b.bo
       . grind
       . have g:gB a.bo≠gB b.bo:=λh=>he (KX h);grind
     . rw[al (show ¬(decide (a.Kind=2)=true) by simp[bq]),al (show ¬(decide (a.Kind=2)=true) by simp[bq])];by_cases bU:a.Kind=3
       . rw[af (show decide (a.Kind=3)=true by simp[bU]),af (show decide (a.Kind=3)=true by simp[bU])];simp only[a8,aq,Mq,abB,ad9,ku];by_cases ad:a.bx.length=b.bx.length
         . have f:¬((!(decide ((a.bx.length:Int)=(b.bx.length:Int))))=true):=by simp;omega
           rw[al f,ad];have aK:¬((b.bx.length:Int)<(b.bx.length:Int)):=(by omega);simp only[aK,b4,ne_eq,not_true_eq_false];by_cases he:a.bx=b.bx
           . rw[he,QB];grind
           grind
         grind
       . rw[al (show ¬(decide (a.Kind=3)=true) by simp[bU]),al (show ¬(decide (a.Kind=3)=true) by simp[bU])];by_cases cu:a.Kind=4
         . rw[af (show decide (a.Kind=4)=true by simp[cu]),af (show decide (a.Kind=4)=true by simp[cu])];simp only[a8,aq,Mq,ku];grind
         simp_all
 simp_all
def I4(a b:Option Bool):Prop:=∃r,a=some r/\b=some r
theorem FZ {b c:Type}(L:Nat->Option (Bool ⊕ b))(L':Nat->Option (Bool ⊕ c))(n:Nat)(p:Nat->Bool)(g:b)(a:c)
 (h:∀i,i<n->L i=if p i then L (i+1)else some (.inl false))(he:L n=some (.inr g))
 (e:∀i,i<n->L' i=if p i then L' (i+1)else some (.inl false))(f:L' n=some (.inr a)):
 (L 0=some (.inr g)/\L' 0=some (.inr a)/\∀j,j<n->p j=true)\/(L 0=some (.inl false)/\L' 0=some (.inl false)/\∃j,j<n/\p j=false):=by
 rcases scan L n p (.inl false) (.inr g) h he with⟨a1,a2⟩|⟨a1,j,a2,a3⟩<;>rcases scan L' n p (.inl false) (.inr a) e f with⟨b1,b2⟩|⟨b1,k,b2,d⟩
 . exact .inl ⟨a1,b1,a2⟩
 . have:=a2 k b2;rw[d]at this;cases this
 . have:=b2 j a2;rw[a3]at this;cases this
 . exact .inr ⟨a1,b1,j,a2,a3⟩
def oY(k:Int):Prop:=1<=k/\k<=9
theorem VQ(a:oY v.Kind):∃p,BS v=some p/\rV v=some p/\(p=true->v.Kind≠5->v.Kind≠6->v.Rest=[]):=by
 obtain⟨K,B,cr,S,ae,c,b,R⟩:=v;simp only at a;rw[BS,I.bk,rV];have:K=1\/K=2\/K=3\/K=4\/K=5\/K=6\/K=7\/K=8\/K=9:=by unfold oY at a;omega
 have d:∀(x:Int),decide (x=x)=true:=λx=>by simp
 rcases this with rfl|rfl|rfl|rfl|rfl|rfl|rfl|rfl|rfl
 all_goals
  refine⟨_,rfl,?_,?_⟩
  . simp[BG,fg]
    try (cases B<;>simp)
  . simp[BG,fg]
section
variable {ts:List ah}(aP:ts.length<9223372036854775807)(dr:∀t,t∈ts->fD t)(bJ:∀t,t∈ts->oY t.Kind)
def Fit(ts:List ah)(x:I):Prop:=∀t plain,I4 (jX ((⟨ts⟩:bl),t,x,plain)) (ic ((⟨ts⟩:bl),t,x,plain))
theorem Hr{l:List I}(ad:l.length<=reachBytes)(ih:∀x,x∈l->Fit ts x)(t:Int)(plain:Bool):
 I4 (qy ((⟨ts⟩:bl),t,l,plain)) (nB ((⟨ts⟩:bl),t,l,plain)):=by
 have g:=dM ad;let p:Nat->Bool:=λi=>(jX ((⟨ts⟩:bl),t,l.getD i az,plain)).getD false;have aj:∀i,i<l.length->jX ((⟨ts⟩:bl),t,l.getD i az,plain)=some (p i)/\ic ((⟨ts⟩:bl),t,l.getD i az,plain)=some (p i):=by
  intro i a;obtain⟨r,h1,f⟩:=ih _ (br a az) t plain;grind
 have b:=uA (λi=>pP (l,(l.length:Int),(i:Int),ts,t,plain)) l.length (λi=>!(p i)) (λi=>.inl ((i:Int),ts,t,plain)) (.inr (ts,t,plain))
  (λi a=>by
   rw[pP,cq,af (aS a),FP];simp only[I.bk,a'];rw[(aj i a).1,bH (by omega)]
   rfl)
  (by rw[pP,ch])
 have hs:=scan (λi=>mx (t,l,plain,(i:Int),ts)) l.length p (.inl false) (.inr ())
  (λi a=>by
   rw[mx,cq,af (aS a)];simp only[I.bk,a'];rw[(aj i a).2,bH (by omega)]
   grind)
  (by rw[mx,ch])
 have aK:pP (l,(l.length:Int),((0:Nat):Int),ts,t,plain)=pP (l,(l.length:Int),0,ts,t,plain):=rfl;have d:mx (t,l,plain,((0:Nat):Int),ts)=mx (t,l,plain,0,ts):=rfl;simp only[aK]at b;simp only[d]at hs;rw[qy,Bd,ES,nB];rcases b with⟨j,a1,a2,a3,a4⟩|⟨a1,a4⟩<;>rcases hs with⟨b1,b2⟩|⟨b1,k,b2,c⟩
 . have:=b2 j a1;simp[this]at a2
 . rw[a4,b1];refine⟨false,?_,rfl⟩;have e:decide ((0:Int)<=(j:Int))=true:=(by simp);simp only[a8,aq,e,dU]
 . rw[a4,b1];exact⟨true,rfl,rfl⟩
 . have:=a1 k b2;simp[c]at this
def Ef(t:ah)(l:List b6)(i:Nat):Bool:=
 !((hG (t,(l.getD i bS).ae)).getD (0,false)).2&&(decide (1<=(l.getD i bS).ae)&&decide ((l.getD i bS).ae<=1000))&&(decide (i=0)||decide ((l.getD (i-1) bS).ae<(l.getD i bS).ae))
theorem Zx{k:Type}(gy f b:Bool)(a:Int)(e C:Int->Bool)(X g:Option k)(i:b=true->e a=true):
 ((if !gy then some f else some false)>>=λj=>some (bif gy then true else(!j))>>=λt131=>some b>>=λt134=>some a>>=λt141=>
  if(e t141||(!((!t131)&&t134))) then if(bif t131 then true else bif t134 then C t141 else false) then X else g else none)=if !gy&&f&&(!b || !(C a)) then g else X:=by
 simp only[a8,aq];generalize C a=c;cases b with
 |true=>rw[i rfl];cases gy<;>cases f<;>cases c<;>rfl
 |false=>generalize e a=d;cases gy<;>cases f<;>cases d<;>cases c<;>rfl
theorem Rm{m:Type}(b g e:Bool)(a:Int)(f C:Int->Bool)(X i:Option m)(j:g=true)(k:e=true->f a=true):
 (some b>>=λl=>some (!l)>>=λt31=>some e>>=λt34=>
  if(g||(!((!t31)&&t34))) then some a>>=λt43=>if(f t43||(!((!t31)&&t34))) then if(bif t31 then true else bif t34 then C t43 else false) then X else i else none else none)=if(b&&(!e || !(C a))) then i else X:=by
 subst j;simp only[a8,aq];generalize C a=c;cases e with
 |true=>rw[k rfl];cases b<;>cases c<;>rfl
 |false=>generalize f a=d;cases b<;>cases d<;>cases c<;>rfl
theorem qC{i:Nat}(h:0<i)(a:i<9223372036854775807):dL .i64 (i:Int) 1=((i-1:Nat):Int):=by
 rw[iL (by omega) (by omega)];omega
theorem aeh(ht:t.ag.length<9223372036854775807)(v:I)(ad:v.Rest.length<=reachBytes)(plain:Bool)(ts:List ah):
 let inr:=(plain,ts,v.Kind,v.b5,v.bo,v.bx,v.ae,v.aG,v.ai,v.Rest,t.Kind,t.Name,t.bE,t.bG,t.Max,t.bg,t.ag,t.Key,t.aC,t.Open)
 ((k5 (plain,v.Rest,(v.Rest.length:Int),0,ts,v,t.Kind,t.Name,t.bE,t.bG,t.Max,t.bg,t.ag,t.Key,t.aC,t.Open)=some (.inr inr)/\rW (t,v.Rest)=some true)\/
  (k5 (plain,v.Rest,(v.Rest.length:Int),0,ts,v,t.Kind,t.Name,t.bE,t.bG,t.Max,t.bg,t.ag,t.Key,t.aC,t.Open)=some (.inl false)/\rW (t,v.Rest)=some false)):=by
 intro inr;have g:=dM ad;have d:∀i,i<v.Rest.length->∀r,hG (t,(v.Rest.getD i bS).ae)=some r->Ef t v.Rest i=(!r.2&&(bif decide (1<=(v.Rest.getD i bS).ae)then decide ((v.Rest.getD i bS).ae<=1000)else false)&&(!(decide ((0:Int)<(i:Int))) || !(decide ((v.Rest.getD i bS).ae<=(v.Rest.getD (dL .i64 (i:Int) 1).toNat bS).ae)))):=by
  intro i a r f;unfold Ef;rw[f,D3];generalize (v.Rest.getD i bS).ae=x;by_cases h0:i=0
  . grind
  . have c:decide ((0:Int)<(i:Int))=true:=by simp;omega
    rw[c,qC (by omega) (by omega),a'];grind
 have h:=FZ (λi=>k5 (plain,v.Rest,(v.Rest.length:Int),(i:Int),ts,v,t.Kind,t.Name,t.bE,t.bG,t.Max,t.bg,t.ag,t.Key,t.aC,t.Open)) (λi=>lB (v.Rest,(i:Int),t)) v.Rest.length (Ef t v.Rest) inr ()
  (λi a=>by
   obtain⟨r,h1,_,_⟩:=ml (t:=t) (v.Rest.getD i bS).ae ht;rw[k5,cq,af (aS a),d i a r h1];simp only[a',CE,I.bk,yz,a8,aq];rw[h1,bH (by omega)]
   exact Zx r.2 (bif decide (1<=(v.Rest.getD i bS).ae)then decide ((v.Rest.getD i bS).ae<=1000)else false) (decide ((0:Int)<(i:Int))) (dL .i64 (i:Int) 1) (λj=>aI j v.Rest.length) (λj=>decide ((v.Rest.getD i bS).ae<=(v.Rest.getD j.toNat bS).ae)) _ _ (λc=>by
    have:0<i:=by simp at c;omega
    show aI _ _=true
    rw[qC this (by omega)];exact aS (by omega)))
  (by rw[k5,ch])
  (λi a=>by
   obtain⟨r,h1,b,_⟩:=ml (t:=t) (v.Rest.getD i bS).ae ht;rw[lB,cq,af (aS a),d i a r h1];simp only[a'];rw[b,bH (by omega)];have hid:iY ((v.Rest.getD i bS).ae,r.2)=some ((!r.2)&&(bif decide (1<=(v.Rest.getD i bS).ae)then decide ((v.Rest.getD i bS).ae<=1000)else false)):=by
    rw[iY];grind
   show(if aI (i:Int) v.Rest.length then iY ((v.Rest.getD i bS).ae,r.2)>>=_ else none)=_;rw[af (aS a),hid]
   exact Rm ((!r.2)&&(bif decide (1<=(v.Rest.getD i bS).ae)then decide ((v.Rest.getD i bS).ae<=1000)else false)) (aI (i:Int) v.Rest.length) (decide ((0:Int)<(i:Int))) (dL .i64 (i:Int) 1) (λj=>aI j v.Rest.length) (λj=>decide ((v.Rest.getD i bS).ae<=(v.Rest.getD j.toNat bS).ae)) _ _ (aS a) (λc=>by
    have:0<i:=by simp at c;omega
    show aI _ _=true
    rw[qC this (by omega)];exact aS (by omega)))
  (by rw[lB,ch])
 have aK:k5 (plain,v.Rest,(v.Rest.length:Int),((0:Nat):Int),ts,v,t.Kind,t.Name,t.bE,t.bG,t.Max,t.bg,t.ag,t.Key,t.aC,t.Open)=k5 (plain,v.Rest,(v.Rest.length:Int),0,ts,v,t.Kind,t.Name,t.bE,t.bG,t.Max,t.bg,t.ag,t.Key,t.aC,t.Open):=rfl;have e:lB (v.Rest,((0:Nat):Int),t)=lB (v.Rest,0,t):=rfl;simp only[aK,e]at h;rw[rW];rcases h with⟨h1,b,_⟩|⟨h1,b,_⟩
 . exact .inl ⟨h1,by rw[b];rfl⟩
 . exact .inr ⟨h1,by rw[b];rfl⟩
end
theorem WT(ad:v.ai.length=t.ag.length)(c:t.ag.length<9223372036854775807)(ih:∀x,x∈v.ai->Fit ts x)(plain:Bool):
 (o' (plain,t.ag,(t.ag.length:Int),0,ts,v.Kind,v.b5,v.bo,v.bx,v.ae,v.aG,v.ai,v.Rest)=some (.inr ())/\k2 (plain,0,ts,v,t.Kind,t.Name,t.bE,t.bG,t.Max,t.bg,t.ag,t.Key,t.aC,t.Open)=some (.inr ()))\/
 (o' (plain,t.ag,(t.ag.length:Int),0,ts,v.Kind,v.b5,v.bo,v.bx,v.ae,v.aG,v.ai,v.Rest)=some (.inl false)/\k2 (plain,0,ts,v,t.Kind,t.Name,t.bE,t.bG,t.Max,t.bg,t.ag,t.Key,t.aC,t.Open)=some (.inl false)):=by
 let p:Nat->Bool:=λi=>(jX (⟨ts⟩,(t.ag.getD i aD).aB,v.ai.getD i az,plain)).getD false;have aj:∀i,i<t.ag.length->jX (⟨ts⟩,(t.ag.getD i aD).aB,v.ai.getD i az,plain)=some (p i)/\ic (⟨ts⟩,(t.ag.getD i aD).aB,v.ai.getD i az,plain)=some (p i):=by
  intro i a;obtain⟨r,h1,b⟩:=ih _ (br (by omega:i<v.ai.length) az) (t.ag.getD i aD).aB plain;grind
 have h:=FZ (λi=>o' (plain,t.ag,t.ag.length,i,ts,v.Kind,v.b5,v.bo,v.bx,v.ae,v.aG,v.ai,v.Rest)) (λi=>k2 (plain,i,ts,v,t.Kind,t.Name,t.bE,t.bG,t.Max,t.bg,t.ag,t.Key,t.aC,t.Open)) _ p () ()
  (λi a=>by
   rw[o',af (aS a),af (aS (by omega))]
   grind[a',I.bk,bH])
  (by simp_all[o'])
  (λi a=>by
   rw[k2,af (aS a),af (aS (by omega))]
   grind[a',I.bk,bH])
  (by simp_all[k2,al])
 grind
theorem vb(h:b3 v):cx v.bo:=by cases h with|mk _ _ _ _ _ _ _ _ cV a=>exact a
theorem YI{ts:List ah}{t:ah}(j:v.aG.length<9223372036854775807)(d:∀x,x∈v.aG->b3 x)(plain:Bool):
 let inr:=(plain,ts,v,t.Kind,t.Name,t.bE,t.bG,t.Max,t.bg,t.ag,t.Key,t.aC,t.Open)
 (lM (plain,1,ts,v,t.Kind,t.Name,t.bE,t.bG,t.Max,t.bg,t.ag,t.Key,t.aC,t.Open)=some (.inr inr)/\ju (1,v)=some (.inr ()))\/
 (lM (plain,1,ts,v,t.Kind,t.Name,t.bE,t.bG,t.Max,t.bg,t.ag,t.Key,t.aC,t.Open)=some (.inl false)/\ju (1,v)=some (.inl false)):=by
 intro inr;by_cases h0:v.aG.length=0
 . left;refine⟨?_,?_⟩
   . rw[lM,al (by grind),I.bk]
   simp_all[ju,al]
 let c:=λi=>(o9 (v.aG.getD i az,v.aG.getD (i+1) az)).getD 0;have g:∀i,i+1<v.aG.length->o9 (v.aG.getD i az,v.aG.getD (i+1) az)=some (c i)/\o1 (v.aG.getD i az,v.aG.getD (i+1) az)=some (c i):=by
  intro i a;obtain⟨r,h1,f⟩:=BV (vb (d _ (br (by omega:i<v.aG.length) az))) (vb (d _ (br a az)));grind
 have h:=FZ (λi=>lM (plain,((i+1:Nat):Int),ts,v,t.Kind,t.Name,t.bE,t.bG,t.Max,t.bg,t.ag,t.Key,t.aC,t.Open)) (λi=>ju ((i+1:Nat),v)) (v.aG.length-1) (λi=>!(decide (0<=c i))) inr ()
  (λi a=>by
   have hs:=qC (i:=i+1) (by simp) (by omega);have b:dL .i64 ((i+1:Nat):Int) 1=(i:Int):=(by grind);rw[lM];simp only[a8,aq];rw[b,af (aS (by omega)),af (aS (by omega))];simp only[a',I.bk]
   grind[bH])
  (by
   have e:v.aG.length-1+1=v.aG.length:=by omega
   rw[e,lM,ch,I.bk])
  (λi a=>by
   have hs:=qC (i:=i+1) (by simp) (by omega);have b:dL .i64 ((i+1:Nat):Int) 1=(i:Int):=(by grind);rw[ju];simp only[a8,aq];rw[b,af (aS (by omega)),af (aS (by omega))];simp only[a',I.bk]
   grind[bH])
  (by
   have e:v.aG.length-1+1=v.aG.length:=by omega
   simp_all[ju,al])
 grind
theorem QT{c:Type}{b:List c}(h:decide ((a.length:Int)=(b.length:Int))=true):a.length=b.length:=by grind
theorem N9{r:Int×Bool}(d:o=some r)(a plain f:Bool):
 (o>>=λb=>some (bif a then(!plain)else false)>>=λt85=>(if((!b.2)&&t85) then some f else some false)>>=λc=>some (bif b.2 then true else bif t85 then c else false))=some (r.2||(a && !plain&&f)):=by
 grind
theorem DA{r:Int×Bool}(d:o=some r)(b plain f:Bool)(F:Bool->Option Bool)(bI:F false=some f):
 (o>>=λa=>some (bif b then(!plain)else false)>>=λt85=>(if((!a.2)&&t85) then F a.2 else some false)>>=λc=>some (bif a.2 then true else bif t85 then c else false))=some (r.2||(b && !plain&&f)):=by
 grind
theorem gx{o:Option Bool}{r:Bool}(b:o=some r)(q:Bool):(some q>>=λt244=>(if t244 then o else some false)>>=λa=>some (bif t244 then a else false))=some (q&&r):=by grind
theorem DB(c a b f:Bool){X:Option Bool}(e:c=true->X=some f)(h1:c=true->a=true/\b=true):(some c>>=λt188=>if(a||(!t188))then if(b||(!t188))then(if t188 then X else some false)>>=λd=>some (bif t188 then d else false)else none else none)=some (c&&f):=by grind
theorem adD(A b q m:Bool){a:Option Bool}(e:a=some q)(d:A=true->L=some (if m then .inr ()else .inl false)):
 (if(bif (bif false then true else(!true))then true else b) then some false else some (!A)>>=λt107=>(if !t107 then a else some false)>>=λc=>if(bif t107 then true else(!c)) then some false else L>>=λo=>match o with|.inl x=>some x|.inr _=>some true)=some (A && !b&&q&&m):=by
 grind
theorem DC(g f c1 c2 cr E:Bool)(h1:c2=true->cr=true):(some g>>=λt209=>(if t209 then some f else some false)>>=λa=>some (bif bif bif t209 then a else false then c1 else false then c2 else false)>>=λt226=>if(cr||(!t226))then some (bif t226 then E else false)else none)=some (g&&f&&c1&&c2&&E):=by grind
theorem Oa(c:Bool){ok a:Option Bool}{k i:Bool}(e:ok=some k)(d:a=some i)(b:L=some (if q then .inr ()else .inl false)):
 (some c>>=λt239=>(if !t239 then ok else some false)>>=λj=>some (bif t239 then true else(!j))>>=λt249=>(if !t249 then a else some false)>>=λl=>if(bif t249 then true else(!l)) then some false else L>>=λf=>match f with|.inl g=>some g|.inr _=>some true)=some (!c&&k&&q&&i):=by
 subst e;subst d;subst b;cases c<;>cases k<;>cases q<;>cases i<;>rfl
theorem YJ(aP:ts.length<9223372036854775807)(dr:∀t,t∈ts->fD t)(bJ:∀t,t∈ts->oY t.Kind)(av:b3 v):Fit ts v:=by
 induction av with
 |mk v hs h1 Q T ak aJ aL cV aQ aR aT aw P=>
  intro t plain;rw[jX,ic];by_cases F:(bif decide (t<0)then true else decide (((⟨ts⟩:bl).Types.length:Int)<=t))=true
  . rw[af F,af F];exact⟨false,rfl,rfl⟩
  . rw[al F,al F];have aK:0<=t/\t<ts.length:=(by grind);obtain⟨j,rfl⟩:∃j:Nat,t=(j:Int):=⟨t.toNat,by omega⟩
    have C:j<ts.length:=(by omega);rw[af (aS C),af (aS C)];simp only[a',I.bk];have O:=dr _ (br C aN);have G:=bJ _ (br C aN);generalize ts.getD j aN=x at O G⊢;have D:=dM (ik O.gT);have X:=dM (ik O.syms);by_cases y:v.Kind=x.Kind
    . obtain⟨p,ax,ay,aA⟩:=VQ (v:=v) (by rw[y];exact G);rw[ax,ay];cases p with
      |false=>exact⟨false,by simp[y],by simp[y]⟩
      |true=>
       have J:=Hr (ts:=ts) Q P;have am:=Hr (ts:=ts) h1 aw;obtain⟨K,N,L,H,M,S,d,l,E,e⟩:=x;obtain⟨u,B,cr,n,ae,g,c,R⟩:=v;simp only at y;subst y;have w:=aA rfl;simp only at w G D X h1 Q T;have aj:u=1\/u=2\/u=3\/u=4\/u=5\/u=6\/u=7\/u=8\/u=9:=by unfold oY at G;omega
       rcases aj with rfl|rfl|rfl|rfl|rfl|rfl|rfl|rfl|rfl
       . obtain rfl:R=[]:=w (by decide) (by decide);cases plain<;>exact⟨true,rfl,rfl⟩
       . obtain rfl:R=[]:=w (by decide) (by decide);cases plain<;>exact⟨_,rfl,rfl⟩
       . obtain rfl:R=[]:=w (by decide) (by decide);cases plain<;>exact⟨_,rfl,rfl⟩
       . obtain rfl:R=[]:=w (by decide) (by decide);obtain⟨r,o,s,_⟩:=ur (t:=⟨4,N,L,H,M,S,d,l,E,e⟩) ae X;have A:iY (ae,false)=some (bif decide (1<=ae)then decide (ae<=1000)else false):=(by rfl);cases plain
         . exact⟨_,N9 o e false _,DA s e false _ (λb=>iY (ae,b)) A⟩
         . exact⟨_,N9 o e true _,DA s e true _ (λb=>iY (ae,b)) A⟩
       ·
        have aM:=aeh (t:=⟨5,N,L,H,M,S,d,l,E,e⟩) D ⟨5,B,cr,n,ae,g,c,R⟩ T plain ts;have ar:decide ((c.length:Int)=(d.length:Int))=true->_:=λz=>WT (ts:=ts) (t:=⟨5,N,L,H,M,S,d,l,E,e⟩) (v:=⟨5,B,cr,n,ae,g,c,R⟩) (QT z) D P plain;have au:∃q:Bool,k5 (plain,R,(R.length:Int),0,ts,⟨5,B,cr,n,ae,g,c,R⟩,5,N,L,H,M,S,d,l,E,e)=some (if q then .inr (plain,ts,5,B,cr,n,ae,g,c,R,5,N,L,H,M,S,d,l,E,e)else .inl false)/\rW (⟨5,N,L,H,M,S,d,l,E,e⟩,R)=some q:=(by grind);obtain⟨q,aU,aC⟩:=au;have ap:∃m:Bool,decide ((c.length:Int)=(d.length:Int))=true->(o' (plain,d,(d.length:Int),0,ts,5,B,cr,n,ae,g,c,R)=some (if m then .inr ()else .inl false)/\k2 (plain,0,ts,⟨5,B,cr,n,ae,g,c,R⟩,5,N,L,H,M,S,d,l,E,e)=some (if m then .inr ()else .inl false)):=by
         cases z:decide ((c.length:Int)=(d.length:Int))with
         |false=>exact⟨true,λh=>by cases h⟩
         |true=>
          rcases ar z with⟨a,b⟩|⟨a,b⟩
          . simp_all
          simp_all
        obtain⟨m,ao⟩:=ap;refine⟨(decide ((c.length:Int)=(d.length:Int))) && !(bif plain then decide (0<(R.length:Int))else false)&&q&&m,?_,?_⟩
        . show(if(bif (!((c.length:Int)=(d.length:Int):Bool))then true else bif plain then (0<(R.length:Int):Bool)else false) then some false else k5 (plain,R,(R.length:Int),0,ts,⟨5,B,cr,n,ae,g,c,R⟩,5,N,L,H,M,S,d,l,E,e)>>=_)=_;grind
        . exact adD (decide ((c.length:Int)=(d.length:Int))) (bif plain then decide (0<(R.length:Int))else false) q m aC (λz=>(ao z).2)
       ·
        obtain⟨r,o,s,A⟩:=ml (t:=⟨6,N,L,H,M,S,d,l,E,e⟩) ae D;have hid:∀b,b=false->iY (ae,b)=some (bif decide (1<=ae)then decide (ae<=1000)else false):=by
         intro b ai;subst ai;rfl
        have ag:∃f:Bool,(bif decide ((c.length:Int)=1)then decide ((R.length:Int)=0)else false)=true->(jX ((⟨ts⟩:bl),(d.getD r.1.toNat aD).aB,c.getD (0:Int).toNat az,plain)=some f/\ic ((⟨ts⟩:bl),(d.getD r.1.toNat aD).aB,c.getD (0:Int).toNat az,plain)=some f):=by
         by_cases ab:c.length=1
         . obtain⟨f,f1,f2⟩:=P (c.getD 0 az) (br (by omega:0<c.length) az) (d.getD r.1.toNat aD).aB plain;grind
         grind
        obtain⟨f,V⟩:=ag;have W:r.2=true->(bif decide ((c.length:Int)=1)then decide ((R.length:Int)=0)else false)=true->aI r.1 d.length=true/\aI 0 c.length=true:=by
         intro ad aH;constructor
         . rcases A with⟨k,bb,_,_,rfl⟩|⟨_,rfl⟩
           . exact aS bb
           . cases ad
         . by_cases ab:c.length=1
           . exact aS (k:=0) (by omega)
           grind
        have U:decide ((R.length:Int)=1)=true->aI 0 R.length=true:=by
         intro h;have:=gk h;exact aS (k:=0) (by omega)
        obtain⟨aa,kg⟩:=r;refine⟨if kg then(bif decide ((c.length:Int)=1)then decide ((R.length:Int)=0)else false)&&f else(bif e then(!plain)else false)&&(bif decide (1<=ae)then decide (ae<=1000)else false)&&decide ((c.length:Int)=0)&&decide ((R.length:Int)=1)&&decide ((R.getD (0:Int).toNat bS).ae=ae),?_,?_⟩
        . show(hG (⟨6,N,L,H,M,S,d,l,E,e⟩,ae)>>=_)=_;rw[o];cases kg with
          |true=>exact DB _ (aI aa d.length) (aI 0 c.length) f (λh=>(V h).1) (W rfl)
          |false=>exact DC (bif e then(!plain)else false) (bif decide (1<=ae)then decide (ae<=1000)else false) (decide ((c.length:Int)=0)) (decide ((R.length:Int)=1)) (aI 0 R.length) (decide ((R.getD (0:Int).toNat bS).ae=ae)) U
        . show(if(bif (bif false then true else(!true))then true else(bif plain then (0<(R.length:Int):Bool)else false)) then some false else ib (⟨6,N,L,H,M,S,d,l,E,e⟩,ae)>>=_)=_;rw[s];cases aG:(bif plain then decide (0<(R.length:Int))else false)with
          |true=>
           have aq:plain=true:=(by grind);subst aq;have aF:decide ((R.length:Int)=0)=false:=(by grind);grind
          |false=>
           cases kg with
           |true=>exact DB _ (aI aa d.length) (aI 0 c.length) f (λh=>(V h).2) (W rfl)
           |false=>exact DC (bif e then(!plain)else false) (bif decide (1<=ae)then decide (ae<=1000)else false) (decide ((c.length:Int)=0)) (decide ((R.length:Int)=1)) (aI 0 R.length) (decide ((R.getD (0:Int).toNat bS).ae=ae)) U
       . obtain rfl:R=[]:=w (by decide) (by decide);obtain⟨r,o,s⟩:=J E plain;cases plain
         . exact⟨_,gx o _,gx s _⟩
         . exact⟨_,gx o _,gx s _⟩
       . obtain rfl:R=[]:=w (by decide) (by decide);obtain⟨k,bb,bq⟩:=am l plain;obtain⟨i,aO,Y⟩:=J E plain;have an:=YI (ts:=ts) (t:=⟨8,N,L,H,M,S,d,l,E,e⟩) (v:=⟨8,B,cr,n,ae,g,c,[]⟩) (dM h1) ak plain;obtain⟨q,aV,Z⟩:∃q:Bool,lM (plain,1,ts,⟨8,B,cr,n,ae,g,c,[]⟩,8,N,L,H,M,S,d,l,E,e)=some (if q then .inr (plain,ts,⟨8,B,cr,n,ae,g,c,[]⟩,8,N,L,H,M,S,d,l,E,e)else .inl false)/\ju (1,⟨8,B,cr,n,ae,g,c,[]⟩)=some (if q then .inr ()else .inl false):=by
          rcases an with⟨a,b⟩|⟨a,b⟩
          . simp_all
          simp_all
         refine⟨!(bif decide (M<(g.length:Int))then true else(!(decide ((c.length:Int)=(g.length:Int)))))&&k&&q&&i,?_,?_⟩
         . show(some (bif decide (M<(g.length:Int))then true else(!(decide ((c.length:Int)=(g.length:Int)))))>>=λt270=>(if !t270 then qy ((⟨ts⟩:bl),l,g,plain)else some false)>>=λaE=>if(bif t270 then true else(!aE)) then some false else lM (plain,1,ts,⟨8,B,cr,n,ae,g,c,[]⟩,8,N,L,H,M,S,d,l,E,e)>>=_)=_;grind
         . cases plain
           . exact Oa (bif decide (M<(g.length:Int))then true else(!(decide ((c.length:Int)=(g.length:Int))))) bq Y Z
           . exact Oa (bif decide (M<(g.length:Int))then true else(!(decide ((c.length:Int)=(g.length:Int))))) bq Y Z
       . obtain rfl:R=[]:=w (by decide) (by decide);obtain⟨r,o,s⟩:=J E plain;cases plain
         . exact⟨_,gx o _,gx s _⟩
         . exact⟨_,gx o _,gx s _⟩
    . exact⟨false,by simp[y],by simp[y]⟩
theorem ub{U:cE}{t:aF}{l:List (t.den U.D)}(h:WF U ⟨.slice t,l⟩):l.length<=reachBytes/\l.length*t.bytes U<=reachBytes/\∀x,x∈l->∀c,c∈t.row U x->WF U c:=by cases h with|slice t l h1 a b=>exact⟨h1,a,b⟩
theorem WU(s:bl):(⟨s.Types⟩:bl)=s:=by cases s;rfl
def gG(n:Nat):ao:=if n=0 then[]else gG (n/256)++[UInt8.ofNat (n%256)]
termination_by n
decreasing_by omega
theorem Im:∀(l:List α) (k:Nat) (x:α),k<l.length->(l.set k x).drop k=x::l.drop (k+1)
 |[],k,x,h=>by simp at h
 |a::l,0,x,h=>by simp
 |a::l,k+1,x,h=>by simp[Im l k x (by simpa using h)]
theorem aer(n:Nat):lh .u64 (n:Int) 8=((n/256:Nat):Int):=by
 unfold lh;have:((2:Int)^min (8:Int).toNat IntKind.u64.bits)=256:=by decide
 grind
theorem K':∀(i n:Nat) (b:au),n<256^i->i<=8->b.length=8->∃(c:Nat) (a:au),rv ((n:Int),(i:Int),b)=some ((c:Int),a)/\c<=8/\a.length=8/\strOf (a.drop c)=gG n++strOf (b.drop i)
 |i,n,b,aP,d,e=>by
  rw[rv];by_cases h0:n=0
  . subst h0;rw[ch];refine⟨i,b,rfl,d,e,?_⟩;rw[gG,af rfl];rfl
  . rw[cq]
    match i,aP,d with
    |0,aP,d=>simp at aP;omega
    |i+1,aP,d=>
     have hs:dL .i64 ((i+1:Nat):Int) 1=(i:Int):=by rw[iL (by omega) (by omega)];omega
     simp only[a8,aq];rw[hs,af (aS (by omega)),af (by simp[e];omega),aer,vO,a'];have aE:n/256<256^i:=(by omega);obtain⟨c,a,h1,f,g,j⟩:=K' i (n/256) (b.set i ((n%256:Nat):Int)) aE (by omega) (by simp[e]);refine⟨c,a,h1,f,g,?_⟩;rw[j,Im _ _ _ (by omega),WM]
     conv=>rhs;rw[gG,al h0]
     grind
theorem B7{n:Nat}(aP:n<18446744073709551616):yA (n:Int)=some (gG n):=by
 have e:(256:Nat)^8=18446744073709551616:=by decide
 obtain⟨c,d,h1,k,a,g⟩:=K' 8 n [0,0,0,0,0,0,0,0] (by rw[e];exact aP) (by omega) rfl;have f:rv ((n:Int),8,[0,0,0,0,0,0,0,0])=some ((c:Int),d):=h1;rw[yA,f];simp only[a8,aq,a'];have j:ez (c:Int) 8 8=true:=lO (b:=8) (by omega) (by omega);have i:(8:Int).toNat=8:=rfl;rw[af j,i,af (by simp[vI,a];omega)];rw[vp (by simp[a]),g];simp[strOf]
theorem uZ:∀(f n:Nat),n<256^f->(gG n).length<=f
 |0,n,h=>by
  have:n=0:=by simpa using h
  subst this;rw[gG,af rfl];simp
 |f+1,n,h=>by
  rw[gG];split
  . simp
  . have:=uZ f (n/256) (by omega);simp;omega
theorem Hs:∀(f n:Nat) (a:ao),n<256^f->n<18446744073709551616->a.length+f<=1000->uN ((n:Int),a)=some (gG n++a)
 |f,n,a,aP,j,c=>by
  rw[uN];by_cases h0:n=0
  . subst h0;rw[ch,gG,af rfl];rfl
  . rw[cq]
    match f,aP,c with
    |0,aP,c=>simp at aP;omega
    |f+1,aP,c=>
     have i:cf (n:Int) 256=((n%256:Nat):Int):=Ee (b:=256);have g:gF .u64 (n:Int) 256=((n/256:Nat):Int):=by
      unfold gF;have e:(n:Int).tdiv 256=((n/256:Nat):Int):=by rw[Int.tdiv_eq_ediv_of_nonneg (by omega)];omega
      rw[e];exact kO (by omega) (by omega)
     have d:strOf [((n%256%256:Nat):Int)]=[UInt8.ofNat (n%256)]:=by
      have:n%256%256=n%256:=(by omega);rw[this];rfl
     simp only[a8,aq];rw[i,g,vO,d,af (fW (by simp;omega))];have aE:n/256<256^f:=(by omega);rw[Hs f (n/256) _ aE (by omega) (by simp;omega)]
     conv=>rhs;rw[gG,al h0]
     grind
theorem Ht{n:Nat}(aP:n<18446744073709551616):xc (n:Int)=some (gG n):=by
 have e:(256:Nat)^8=18446744073709551616:=by decide
 rw[xc,Hs 8 n [] (by rw[e];exact aP) aP (by simp)];simp
end
section
open Go Go.Proofs.YtkbmjabicjpmjaaGreatDoor.Shv Go.Sort
set_option maxRecDepth 100000
variable{c α:Type}{v:I}{ms:List aU}{id:Int}{Q P:Prop}{o:Option Bool}{L:Nat->Option (Bool ⊕ Unit)}{t:ah}
section
variable {α:Type}
theorem Io{a:Type}{f g:a->List c}:∀{l:List a},(∀x,x∈l->f x=g x)->l.flatMap f=l.flatMap g
 |[],_=>rfl
 |x::l,h=>by
  simp;rw[h x (.head _),Io λy b=>h y (.tail _ b)]
theorem QU(x:α)(n:Nat)(f:Nat->List α):∀(ks:aW),ks.Nodup->n∈ks->(ks.flatMap λi=>if n=i then x::f i else f i).Perm (x::ks.flatMap f)
 |[],_,h=>by grind
 |k::ks,aP,h=>by
  rw[List.nodup_cons]at aP;simp;by_cases e:n=k
  . have:(ks.flatMap λi=>if n=i then x::f i else f i)=ks.flatMap f:=Io λy b=>by grind
    simp_all
  . rw[al e];have a:=(e2.1 h).resolve_left e;refine((QU x n f ks aP.2 a).append_left _).trans ?_;simp
theorem HQ(key:α->Nat)(ks:aW)(aP:ks.Nodup):∀l:List α,(∀x,x∈l->key x∈ks)->(ks.flatMap λi=>l.filter λx=>decide (key x=i)).Perm l
 |[],_=>by simp
 |x::l,h=>by
  have e:(λi=>(x::l).filter λy=>decide (key y=i))=λi=>if key x=i then x::(l.filter λy=>decide (key y=i))else l.filter λy=>decide (key y=i):=by grind
  rw[e];exact(QU x _ _ ks aP (h x (.head _))).trans ((HQ _ ks aP l λy a=>h y (.tail _ a)).cons x)
theorem V3(key:α->Nat)(a n:Nat)(l:List α):((List.range' a n).flatMap λi=>l.filter λx=>decide (key x=i)).Pairwise (λx y=>decide (key y<key x)=false):=by
 rw[List.pairwise_flatMap];grind[List.pairwise_iff_forall_sublist,List.pairwise_lt_range']
theorem JJ[Inhabited α][Inhabited c]{lt:α->α->Bool}{d:c->c->Bool}(g:α->c)(h:∀a b,d (g a) (g b)=lt a b):∀l,gR d (l.map g)=(gR lt l).map g
 |[]=>rfl
 |x::l=>by
  have key:∀r,nM d (g x) (r.map g)=(nM lt x r).map g:=by
   intro r;induction r with
   |nil=>rfl
   |cons y r ih=>
    grind[nM]
  simp[gR];rw[JJ g h l,key]
theorem Hu[Inhabited α]{lt:α->α->Bool}:∀{l:List α},l.Pairwise (λx y=>lt x y=true\/lt y x=true)->j1 lt l=true
 |[],_=>rfl
 |x::l,h=>by
  rw[ka]at h;simp[j1];exact⟨h.1,Hu h.2⟩
end
mutual
def wt:I->Nat
 |⟨_,_,_,s,_,ks,a,r⟩=>10+s.length+(r.map λx=>x.Data.length+1).sum+du ks+du a
def du:List I->Nat
 |[]=>0
 |v::l=>wt v+du l
end
structure Fd where
 id:Nat
 c:Bool
 p:ao
instance:Inhabited Fd:=⟨⟨0,false,[]⟩⟩
def fq(a b:Fd):Bool:=decide (a.id<b.id)
def Fd.text(f:Fd):ao:=fR f.id f.c f.p
def gw:List ao->List ao->ao
 |k::ks,v::vs=>dS k++(dS v++gw ks vs)
 |_,_=>[]
def cU(l:List aU)(id:Int):Option aU:=l.find? λm=>decide (m.ae=id)
open Classical in
noncomputable def dz (m:aU)(v:I):Bool:=m.bV&&decide (m.bz=v)
def kf(r:b6):Fd:=⟨r.ae.toNat,false,r.Data⟩
mutual
noncomputable def bF (ts:List ah)(t:Int):I->ao
 |⟨_,b,i,s,id,ks,a,r⟩=>
  let x:=ts.getD t.toNat aN
  if x.Kind=1 then(if b then[1]else[])
  else if x.Kind=2 then gG (gB i).toNat
  else if x.Kind=3 then s
  else if x.Kind=4 then gG id.toNat
  else if x.Kind=5 then(gR fq (dy ts x.ag a++r.map kf)).flatMap Fd.text
  else if x.Kind=6 then e4 id.toNat++(match cU x.ag id with
   |some m=>(bL ts m.aB a).headD []
   |none=>(r.map b6.Data).headD [])
  else if x.Kind=7 then(bL ts x.aC a).flatMap dS
  else if x.Kind=8 then gw (bL ts x.Key ks) (bL ts x.aC a)
  else match bL ts x.aC a with
   |[]=>[]
   |p::_=>1::p
noncomputable def bL (ts:List ah)(t:Int):List I->List ao
 |[]=>[]
 |v::l=>bF ts t v::bL ts t l
noncomputable def dy (ts:List ah):List aU->List I->List Fd
 |m::ms,v::l=>if dz m v then dy ts ms l else⟨m.ae.toNat,m.cv,bF ts m.aB v⟩::dy ts ms l
 |_,_=>[]
end
mutual
noncomputable def eK (ts:List ah)(t:Int):I->Nat
 |⟨_,_,_,_,id,ks,a,_⟩=>
  let x:=ts.getD t.toNat aN
  1+max (if ks=[]then 0 else 1) (if x.Kind=5 then gW ts x.ag a
   else if x.Kind=6 then(match cU x.ag id with
    |some m=>eW ts m.aB a
    |none=>0)
   else eW ts x.aC a)
noncomputable def eW (ts:List ah)(t:Int):List I->Nat
 |[]=>0
 |v::l=>max (eK ts t v) (eW ts t l)
noncomputable def gW (ts:List ah):List aU->List I->Nat
 |m::ms,v::l=>if dz m v then gW ts ms l else max (eK ts m.aB v) (gW ts ms l)
 |_,_=>0
end
def cK(n:Int):Prop:=1<=n/\n<=1000
def kG(ms:List aU)(r:List b6):Prop:=r.Pairwise (λa b=>a.ae<b.ae)/\∀x,x∈r->cK x.ae/\cU ms x.ae=none
def iz(a b:I):Int:=(o9 (a,b)).getD 0
def jA(ks:List I):Prop:=∀i,i+1<ks.length->iz (ks.getD i az) (ks.getD (i+1) az)<0
mutual
def cL(ts:List ah)(pl:Bool)(t:Int):I->Prop
 |⟨k,b,i,s,id,ks,a,r⟩=>
  let x:=ts.getD t.toNat aN
  (0<=t/\t<ts.length/\k=x.Kind/\(pl=true->r=[]))/\
  (k=1/\i=0/\s=[]/\id=0/\ks=[]/\a=[]/\r=[]\/
  k=2/\b=false/\s=[]/\id=0/\ks=[]/\a=[]/\r=[]/\x.bE<=i/\i<=x.bG\/
  k=3/\b=false/\i=0/\id=0/\ks=[]/\a=[]/\r=[]/\(s.length:Int)<=x.Max\/
  k=4/\b=false/\i=0/\s=[]/\ks=[]/\a=[]/\r=[]/\((∃y,y∈x.bg/\y.ae=id)\/x.Open=true/\pl=false/\cK id)\/
  k=5/\b=false/\i=0/\s=[]/\id=0/\ks=[]/\kG x.ag r/\h6 ts pl x.ag a\/
  k=6/\b=false/\i=0/\s=[]/\ks=[]/\(match cU x.ag id with
   |some m=>r=[]/\a.length=1/\e3 ts pl m.aB a
   |none=>x.Open=true/\pl=false/\cK id/\a=[]/\∃d,r=[⟨id,d⟩])\/
  k=7/\b=false/\i=0/\s=[]/\id=0/\ks=[]/\r=[]/\(a.length:Int)<=x.Max/\e3 ts pl x.aC a\/
  k=8/\b=false/\i=0/\s=[]/\id=0/\r=[]/\(ks.length:Int)<=x.Max/\a.length=ks.length/\e3 ts pl x.Key ks/\e3 ts pl x.aC a/\jA ks\/
  k=9/\b=false/\i=0/\s=[]/\id=0/\ks=[]/\r=[]/\a.length<=1/\e3 ts pl x.aC a)
def e3(ts:List ah)(pl:Bool)(t:Int):List I->Prop
 |[]=>True
 |v::l=>cL ts pl t v/\e3 ts pl t l
def h6(ts:List ah)(pl:Bool):List aU->List I->Prop
 |m::ms,v::l=>cL ts pl m.aB v/\h6 ts pl ms l
 |[],[]=>True
 |_,_=>False
end
theorem hz(v:I):wt v=10+v.bx.length+(v.Rest.map λx=>x.Data.length+1).sum+du v.aG+du v.ai:=by cases v;rfl
theorem jz(v:I)(l:List I):du (v::l)=wt v+du l:=by rfl
theorem ja:du []=0:=by rfl
theorem fx:∀{l:List I} {x:I},x∈l->wt x<=du l
 |y::l,x,h=>by
  rw[jz];rcases e2.1 h with rfl|h
  . simp
  . have:=fx h;omega
theorem HR{p:ao}(h:p.length<1152921504606846976):(dS p).length<=p.length+10:=by
 grind[jY,dS]
theorem JK{f:Fd}(h:f.p.length<1152921504606846976)(a:f.id<=9223372036854775807):f.text.length<=f.p.length+20:=by
 grind[HR,jY,Fd.text,fR]
theorem FF{f:α->List c}{a b:List α}(h:a.Perm b):(a.flatMap f).length=(b.flatMap f).length:=(h.flatMap_right f).length_eq
theorem zd{n:Int}(h:cx n):(gB n).toNat<18446744073709551616:=by
 grind[gB,cx]
section
variable {ts:List ah}
def zH(ts:List ah)(v:I):Prop:=∀t,(bF ts t v).length+20<=21*wt v
theorem F0:∀{l:List I} {t:Int},du l<=1099511627776->(∀x,x∈l->zH ts x)->((bL ts t l).flatMap dS).length<=21*du l
 |[],t,_,_=>by grind[bL]
 |v::l,t,a,h=>by
  rw[bL];rw[jz]at a⊢;have h1:=h v (.head _) t;have c:=F0 (t:=t) (by omega) λx b=>h x (.tail _ b);grind[HR]
theorem ky:∀{l:List I} {t:Int},(bL ts t l).length=l.length
 |[],t=>by rfl
 |v::l,t=>by rw[bL,iP,iP,ky]
theorem Br:∀{l:List I} {t:Int},bL ts t l=l.map (bF ts t)
 |[],t=>by rfl
 |v::l,t=>by rw[bL,List.map,Br]
theorem Cd:∀(a b:List ao),(gw a b).length<=(a.flatMap dS).length+(b.flatMap dS).length
 |[],b=>by simp[gw]
 |k::ks,[]=>by simp[gw]
 |k::ks,v::vs=>by
  have:=Cd ks vs;simp only[gw,hO,db];omega
theorem IN:∀{ms:List aU} {l:List I},du l<=1099511627776->(∀m,m∈ms->m.ae<=1000)->(∀x,x∈l->zH ts x)->((dy ts ms l).flatMap Fd.text).length<=21*du l
 |[],l,_,_,_=>by grind[dy]
 |m::ms,[],_,_,_=>by grind[dy]
 |m::ms,v::l,c,b,h=>by
  rw[jz]at c⊢;rw[dy];have h1:=h v (.head _) m.aB;have d:=IN (by omega) (λx a=>b x (.tail _ a)) λx a=>h x (.tail _ a);grind[JK]
theorem JL:∀{l:List b6},(∀x,x∈l->x.Data.length<=reachBytes/\x.ae<=9223372036854775807)->True->((l.map kf).flatMap Fd.text).length<=21*(l.map λx=>x.Data.length+1).sum
 |[],_,_=>by simp
 |r::l,h,_=>by
  have h1:=h r (.head _);have c:=JL (λx b=>h x (.tail _ b)) trivial;unfold reachBytes at h1;have a:=JK (f:=kf r) (by show r.Data.length<_;omega) (by show r.ae.toNat<=_;omega);have d:(kf r).text.length<=r.Data.length+20:=a;grind
def Mi(ts:List ah):Prop:=∀x,x∈ts->∀m,m∈x.ag->m.ae<=1000
theorem VR(l:List α)(i:Nat)(d:α):l.getD i d∈l\/l.getD i d=d:=by grind
theorem IP{l:List ao}{n:Nat}(h:∀x,x∈l->x.length<=n):(l.headD []).length<=n:=by
 cases l<;>grind
theorem KY:∀{l:aW} {n:Nat},n∈l->n<=l.sum
 |a::l,n,h=>by
  rw[vk];rcases e2.1 h with rfl|h
  . simp
  . have:=KY h;omega
theorem Zy(e:Mi ts)(h:b3 v):wt v<=1099511627776->zH ts v:=by
 induction h with
 |mk v hs h1 z A D C g cV n H o k j=>
  intro E t;have F:=hz v;have d:∀x,x∈v.aG->zH ts x:=λx a=>k x a (by have:=fx a;omega);have c:=λx a=>j x a (by have:=fx a;omega);have w:=λt=>F0 (t:=t) (by omega) d;have n4:=λt=>F0 (t:=t) (by omega) c;have a:∀m,m∈(ts.getD t.toNat aN).ag->m.ae<=1000:=by
   rcases VR ts t.toNat aN with h|h
   . exact e _ h
   . rw[h];intro m f;cases f
  have y:=λt=>by
   have:((bL ts t v.ai).headD []).length<=21*du v.ai:=IP λp aj=>by
    rw[Br]at aj;obtain⟨x,a,rfl⟩:=fT.1 aj;have:=c x a t;have:=fx a;omega
   omega
  have fN:=JL (λx a=>⟨g x a,(o x a).2⟩) trivial;have u:=IN (by omega) a c;have q:((v.Rest.map b6.Data).headD []).length<=(v.Rest.map λx=>x.Data.length+1).sum:=IP λp aj=>by
   obtain⟨x,a,rfl⟩:=fT.1 aj;have:x.Data.length+1<=(v.Rest.map λx=>x.Data.length+1).sum:=KY (fT.2 ⟨x,a,rfl⟩);omega
  obtain⟨K,b,i,s,id,ks,l,r⟩:=v;simp only at*;rw[bF];have G:=uZ 8 _ (zd n);have hid:id.toNat<18446744073709551616:=by omega
  have B:=uZ 8 _ hid;have aj:=jY hid;generalize ts.getD t.toNat aN=x at*;split
  . grind
  . split
    . omega
    . split
      . omega
      . split
        . omega
        . split
          . rw[FF (mn _ _),DY,db];omega
          . split
            . grind
            . split
              . grind
              . split
                . have:=Cd (bL ts x.Key ks) (bL ts x.aC l);grind
                grind
end
section
variable (ts:List ah)
mutual
theorem O2:∀(v:I) (t:Int),eK ts t v<=wt v
 |⟨_,_,_,_,id,ks,a,_⟩,t=>by
  rw[eK,wt];have h1:=GA a;have c:=Gz a;grind
theorem GA:∀(l:List I) (t:Int),eW ts t l<=du l
 |[],t=>by rw[eW];omega
 |v::l,t=>by
  rw[eW,du];have:=O2 v t;have:=GA l t;omega
theorem Gz:∀(l:List I) (ms:List aU),gW ts ms l<=du l
 |[],ms=>by rw [gW]; · omega
            . intros;simp_all
 |v::l,[]=>by rw [gW]; · omega
              . intros;simp_all
 |v::l,m::ms=>by
  rw[gW,du];have:=O2 v m.aB;have:=Gz l ms;grind
end
end
theorem aaP(v:I):10<=wt v:=by grind[hz]
section
variable {ts:List ah}
theorem uB:∀{ms:List aU} {l:List I} {x:Fd},x∈dy ts ms l->∃m,m∈ms/\x.id=m.ae.toNat
 |[],l,x,h=>by
  grind[dy]
 |m::ms,[],x,h=>by
  grind[dy]
 |m::ms,v::l,x,h=>by
  rw[dy]at h;split at h
  . obtain⟨b,h1,a⟩:=uB h;grind
  . rcases e2.1 h with rfl|h
    . simp
    . obtain⟨b,h1,a⟩:=uB h;grind
theorem HS{l:List I}{n:Nat}(h:∀m,m∈ms->m.ae.toNat≠n):((dy ts ms l).filter λx=>decide (x.id=n))=[]:=by
 grind[List.filter_eq_nil_iff,uB]
theorem Rn:∀{ms:List aU} {l:List I} {n j:Nat},ms.Pairwise (λa b=>a.ae.toNat≠b.ae.toNat)->l.length=ms.length->j<ms.length->(ms.getD j aD).ae.toNat=n->
 ((dy ts ms l).filter λx=>decide (x.id=n))=if dz (ms.getD j aD) (l.getD j az) then[]else[⟨n,(ms.getD j aD).cv,bF ts (ms.getD j aD).aB (l.getD j az)⟩]
 |[],l,n,j,_,_,d,_=>by grind
 |m::ms,[],n,j,_,ad,_,_=>by grind
 |m::ms,v::l,n,0,c,ad,d,he=>by
  rw[ka]at c;have aP:=HS (ts:=ts) (l:=l) (ms:=ms) (n:=n) λx f=>by grind
  grind[dy]
 |m::ms,v::l,n,j+1,c,ad,d,he=>by
  rw[ka]at c;have e:j<ms.length:=by grind
  have ih:=Rn c.2 (by simpa using ad) e he;grind[dy]
theorem VS(l:List b6)(n:Nat)(h:∀x,x∈l->0<=x.ae):((l.map kf).filter λx=>decide (x.id=n))=(l.filter λx=>decide (x.ae=(n:Int))).map kf:=by
 rw[List.filter_map]
 congr 1
 apply List.filter_congr;intro x a;show decide (x.ae.toNat=n)=_;grind
noncomputable def fI (ts:List ah)(ms:List aU)(l:List I)(r:List b6):List Fd:=dy ts ms l++r.map kf
def hD(ms:List aU):Prop:=ms.Pairwise (λa b=>a.ae<b.ae)/\∀m,m∈ms->cK m.ae
theorem KZ(h:hD ms):ms.Pairwise (λa b=>a.ae.toNat≠b.ae.toNat):=by
 refine h.1.imp_of_mem λ{a b} d c aE=>?_;have:=h.2 b c;grind[cK]
theorem F1:∀{ms:List aU} {l:List I},ms.Pairwise (λa b=>a.ae.toNat≠b.ae.toNat)->(dy ts ms l).Pairwise (λa b=>a.id≠b.id)
 |[],l,_=>by
  simp_all[dy]
 |m::ms,[],_=>by
  simp_all[dy]
 |m::ms,v::l,h=>by
  rw[ka]at h;rw[dy];split
  . exact F1 h.2
  . rw[ka];refine⟨λx c=>?_,F1 h.2⟩;grind[uB]
theorem sD(h:cU ms id=none):∀m,m∈ms->m.ae≠id:=by
 grind[cU]
theorem xp{l:List I}{r:List b6}(h:hD ms)(c:kG ms r):j1 fq (fI ts ms l r)=true:=by
 apply Hu;have key:(fI ts ms l r).Pairwise (λa b=>a.id≠b.id):=by
  unfold fI;rw[DW];refine⟨F1 (KZ h),?_,?_⟩
  . rw[nP];refine c.1.imp_of_mem λ{a b} k e aE=>?_;have:=(c.2 b e).1;show a.ae.toNat≠b.ae.toNat;grind[cK]
  . intro x f y g;obtain⟨m,h1,i⟩:=uB f;obtain⟨q,d,rfl⟩:=fT.1 g;have j:=sD (c.2 q d).2 m h1;have:=(c.2 q d).1;show x.id≠q.ae.toNat;grind[cK]
 grind[fq]
theorem Qa{l:List I}{r:List b6}(h:hD ms)(c:kG ms r){x:Fd}(a:x∈fI ts ms l r):1<=x.id/\x.id<=1000:=by
 rcases hP.1 a with a|a
 . obtain⟨m,h1,d⟩:=uB a;have:=h.2 m h1;grind[cK]
 . obtain⟨q,b,rfl⟩:=fT.1 a;have:=(c.2 q b).1;unfold cK at*;show 1<=q.ae.toNat/\q.ae.toNat<=1000;omega
theorem K0:SWO fq:=by refine⟨λx=>?_,λx y z h1 a=>?_,λx y z h1 a=>?_⟩<;>simp[fq]at*<;>omega
theorem UY{l:List Fd}(aj:j1 fq l=true)(a:∀x,x∈l->1<=x.id/\x.id<=1000):
 gR fq l=(List.range' 1 1000).flatMap λn=>l.filter λx=>decide (x.id=n):=by
 refine P8 aj (mn _ _) (HQ _ _ List.nodup_range' l λx b=>?_) (B2 K0 l) (V3 _ 1 _ l);grind
end
section
variable {ts:List ah}{pl:Bool}
theorem dk:∀{l:List I} {t:Int},e3 ts pl t l↔∀x,x∈l->cL ts pl t x
 |[],t=>by grind[e3]
 |v::l,t=>by
  rw[e3,dk];simp
theorem jZ:∀{ms:List aU} {l:List I},h6 ts pl ms l↔l.length=ms.length/\∀i,i<ms.length->cL ts pl (ms.getD i aD).aB (l.getD i az)
 |[],[]=>by
  grind[h6]
 |[],v::l=>by
  grind[h6]
 |m::ms,[]=>by
  grind[h6]
 |m::ms,v::l=>by
  rw[h6,jZ];constructor
  . grind
  . rintro ⟨h1,a⟩
    exact⟨a 0 (by simp),by grind,λi b=>a (i+1) (by grind)⟩
end
def dj(o:Option Bool)(P:Prop):Prop:=∃r,o=some r/\(r=true↔P)
theorem dj.imp(h:dj o P)(e:P↔Q):dj o Q:=by grind
theorem dj.of{b:Bool}(e:b=true↔P):dj (some b) P:=⟨b,rfl,e⟩
theorem dj.loop{n:Nat}{p:Nat->Bool}{g:Unit}{o:Option (Bool ⊕ Unit)}(h0:o=L 0)(e:∀i,i<n->L i=if p i then L (i+1)else some (.inl false))(c:L n=some (.inr g)):
 dj (o>>=λo=>match o with|.inl x=>some x|.inr _=>some true) (∀i,i<n->p i=true):=by
 subst h0;rcases scan L n p _ _ e c with⟨h1,a⟩|⟨h1,j,a,f⟩
 . rw[h1];exact⟨true,rfl,by grind⟩
 . rw[h1];refine⟨false,rfl,?_⟩;grind
theorem Ce(f:α->Int)(d:α):∀l:List α,l.Pairwise (λa b=>f a<f b)↔∀i,i+1<l.length->f (l.getD i d)<f (l.getD (i+1) d)
 |[]=>by simp
 |[a]=>by simp
 |a::b::l=>by
  rw[ka,Ce f d _];constructor
  . rintro ⟨h1,c⟩ i e
    cases i<;>simp_all
  . intro h;have c:∀i,i+1<(b::l).length->f ((b::l).getD i d)<f ((b::l).getD _ d):=λi e=>h (i+1) (by simpa using e);have h0:=h 0 (by simp);have g:=(Ce f d _).2 c;rw[ka]at g;grind
section
variable {ts:List ah}
def C0(ts:List ah)(x:I):Prop:=∀t pl,dj (ic ((⟨ts⟩:bl),t,x,pl)) (cL ts pl t x)
theorem JM{l:List I}(ad:l.length<=reachBytes)(ih:∀x,x∈l->C0 ts x)(t:Int)(pl:Bool):dj (nB ((⟨ts⟩:bl),t,l,pl)) (e3 ts pl t l):=by
 have c:=dM ad;let p:Nat->Bool:=λi=>(ic (⟨ts⟩,t,l.getD i az,pl)).getD false;have aj:∀i,i<l.length->ic (⟨ts⟩,t,l.getD i az,pl)=some (p i)/\(p i=true↔cL ts pl t (l.getD i az)):=by
  intro i a;obtain⟨r,h1,b⟩:=ih _ (br a az) t pl;grind
 rw[nB];refine(dj.loop (L:=λi=>mx (t,l,pl,(i:Int),ts)) (n:=l.length) (p:=p) (g:=()) rfl (λi a=>?_) ?_).imp ?_
 . rw[mx,cq,af (aS a)];simp only[I.bk,a'];rw[(aj i a).1,bH (by omega)];grind
 . simp_all[mx,al]
 grind[dk,List.getElem_of_mem]
theorem rC{l:List aU}{r:Int×Bool}(h:sv l id r):(r.2=true/\∃j:Nat,j<l.length/\r.1=(j:Int)/\cU l id=some (l.getD j aD)/\(l.getD j aD).ae=id)\/(r.2=false/\cU l id=none):=by
 rcases h with⟨j,h1,a,b,rfl⟩|⟨h1,rfl⟩
 . refine .inl ⟨rfl,j,h1,rfl,?_,a⟩;unfold cU;rw[DL];refine⟨by grind,j,h1,(fG h1 _).symm,λk c=>?_⟩;grind
 grind[cU,List.getElem_of_mem]
theorem YK(ht:t.ag.length<9223372036854775807){l:List b6}(ad:l.length<=reachBytes):dj (rW (t,l)) (kG t.ag l):=by
 have m:=dM ad;let p:Nat->Bool:=λi=>!((hG (t,(l.getD i bS).ae)).getD (0,false)).2&&(bif decide (1<=(l.getD i bS).ae)then decide ((l.getD i bS).ae<=1000)else false)&&(!(decide ((0:Int)<(i:Int))) || !(decide ((l.getD i bS).ae<=(l.getD (dL .i64 (i:Int) 1).toNat bS).ae)));refine(dj.loop (L:=λi=>lB (l,(i:Int),t)) (n:=l.length) (p:=p) (g:=()) rfl (λi b=>?_) ?_).imp ?_
 . obtain⟨r,h1,c,_⟩:=ml (t:=t) (l.getD i bS).ae ht;have d:p i=(!r.2&&(bif decide (1<=(l.getD i bS).ae)then decide ((l.getD i bS).ae<=1000)else false)&&(!(decide ((0:Int)<(i:Int))) || !(decide ((l.getD i bS).ae<=(l.getD (dL .i64 (i:Int) 1).toNat bS).ae)))):=(by grind);rw[d,lB,af (by grind),af (aS b)];simp only[a'];rw[c,bH (by omega)];have hid:iY ((l.getD i bS).ae,r.2)=some ((!r.2)&&(bif decide (1<=(l.getD i bS).ae)then decide ((l.getD i bS).ae<=1000)else false)):=by
    grind[iY]
   show(if aI (i:Int) l.length then iY _>>=_ else none)=_;rw[af (aS b),hid]
   exact Rm _ _ _ _ _ _ _ _ (aS b) (λf=>by
    grind[qC,aS])
 . simp_all[lB,al]
 . unfold kG;rw[Ce (λa:b6=>a.ae) bS];have key:∀i,i<l.length->(p i=true↔(cK (l.getD i bS).ae/\cU t.ag (l.getD i bS).ae=none)/\(i=0\/(l.getD (i-1) bS).ae<(l.getD i bS).ae)):=by
    intro i b;obtain⟨r,h1,c,k⟩:=ml (t:=t) (l.getD i bS).ae ht;have d:p i=(!r.2&&(bif decide (1<=(l.getD i bS).ae)then decide ((l.getD i bS).ae<=1000)else false)&&(!(decide ((0:Int)<(i:Int))) || !(decide ((l.getD i bS).ae<=(l.getD (dL .i64 (i:Int) 1).toNat bS).ae)))):=(by grind);rw[d];have aP:r.2=false↔cU t.ag (l.getD i bS).ae=none:=by
     grind[rC]
    unfold cK;by_cases h0:i=0
    . grind
    . have f:decide ((0:Int)<(i:Int))=true:=(by grind);rw[f,qC (by omega) (by omega),a'];grind
   constructor
   . intro h;refine⟨λi b=>?_,λx j=>?_⟩
     . grind
     . obtain⟨i,b,rfl⟩:=jf j;simp_all
   . rintro ⟨h1,c⟩ i b
     refine(key i b).2 ⟨c _ (br b bS),?_⟩;by_cases h0:i=0
     . omega
     . have e:i-1+1=i:=(by omega);grind
theorem WV(ad:v.ai.length=t.ag.length)(d:t.ag.length<9223372036854775807)(ih:∀x,x∈v.ai->C0 ts x)(pl:Bool):
 dj (k2 (pl,0,ts,v,t.Kind,t.Name,t.bE,t.bG,t.Max,t.bg,t.ag,t.Key,t.aC,t.Open)>>=λo=>match o with|.inl b=>some b|.inr _=>some true) (h6 ts pl t.ag v.ai):=by
 let p:=λi=>(ic (⟨ts⟩,(t.ag.getD i aD).aB,v.ai.getD i az,pl)).getD false;have aj:∀i,i<t.ag.length->ic (⟨ts⟩,(t.ag.getD i aD).aB,v.ai.getD i az,pl)=some (p i)/\(p i=true↔cL ts pl (t.ag.getD i aD).aB (v.ai.getD i az)):=by
  intro i a;obtain⟨r,h1,c⟩:=ih _ (br (by omega:i<v.ai.length) az) (t.ag.getD i aD).aB pl;grind
 refine(dj.loop (L:=λi=>k2 (pl,(i:Int),ts,v,t.Kind,t.Name,t.bE,t.bG,t.Max,t.bg,t.ag,t.Key,t.aC,t.Open)) (n:=t.ag.length) (p:=p) (g:=()) rfl (λi a=>?_) ?_).imp ?_
 . rw[k2,af (aS a),af (aS (by omega))];grind[a',I.bk,bH]
 . simp_all[k2]
 grind[jZ]
theorem YL(k:v.aG.length<9223372036854775807)(a:∀x,x∈v.aG->b3 x):
 dj (ju (1,v)>>=λd=>match d with|.inl f=>some f|.inr _=>some true) (jA v.aG):=by
 by_cases h0:v.aG.length=0
 . rw[ju,al (by grind)];refine⟨true,rfl,?_⟩;simp_all[jA,true_iff]
 refine(dj.loop (L:=λi=>ju ((i+1:Nat),v)) (n:=v.aG.length-1) (p:=λi=>!(decide (0<=iz (v.aG.getD i az) (v.aG.getD (i+1) az)))) (g:=()) rfl (λi j=>?_) ?_).imp ?_
 . have b:dL .i64 (i+1:Nat) 1=i:=by rw[qC (by simp) (by omega)];rfl
   obtain⟨r,c1,c2⟩:=BV (vb (a _ (br (by omega:i<v.aG.length) az))) (vb (a _ (br (by omega:i+1<v.aG.length) az)));have c:iz (v.aG.getD i az) (v.aG.getD (i+1) az)=r:=(by grind[iz]);rw[c,ju];simp only[a8,aq];rw[b,af (aS (by omega)),af (aS (by omega))];simp only[a',I.bk];rw[c2,bH (by omega)];grind
 . have e:v.aG.length-1+1=v.aG.length:=(by omega);simp_all[ju,al]
 grind[jA]
theorem hc(pl:Bool)(t:Int)(v:I):cL ts pl t v↔
 (0<=t/\t<ts.length/\v.Kind=(ts.getD t.toNat aN).Kind/\(pl=true->v.Rest=[]))/\
 (v.Kind=1/\v.bo=0/\v.bx=[]/\v.ae=0/\v.aG=[]/\v.ai=[]/\v.Rest=[]\/
 v.Kind=2/\v.b5=false/\v.bx=[]/\v.ae=0/\v.aG=[]/\v.ai=[]/\v.Rest=[]/\(ts.getD t.toNat aN).bE<=v.bo/\v.bo<=(ts.getD t.toNat aN).bG\/
 v.Kind=3/\v.b5=false/\v.bo=0/\v.ae=0/\v.aG=[]/\v.ai=[]/\v.Rest=[]/\(v.bx.length:Int)<=(ts.getD t.toNat aN).Max\/
 v.Kind=4/\v.b5=false/\v.bo=0/\v.bx=[]/\v.aG=[]/\v.ai=[]/\v.Rest=[]/\((∃y,y∈(ts.getD t.toNat aN).bg/\y.ae=v.ae)\/(ts.getD t.toNat aN).Open=true/\pl=false/\cK v.ae)\/
 v.Kind=5/\v.b5=false/\v.bo=0/\v.bx=[]/\v.ae=0/\v.aG=[]/\kG (ts.getD t.toNat aN).ag v.Rest/\h6 ts pl (ts.getD t.toNat aN).ag v.ai\/
 v.Kind=6/\v.b5=false/\v.bo=0/\v.bx=[]/\v.aG=[]/\(match cU (ts.getD t.toNat aN).ag v.ae with
  |some m=>v.Rest=[]/\v.ai.length=1/\e3 ts pl m.aB v.ai
  |none=>(ts.getD t.toNat aN).Open=true/\pl=false/\cK v.ae/\v.ai=[]/\∃d,v.Rest=[⟨v.ae,d⟩])\/
 v.Kind=7/\v.b5=false/\v.bo=0/\v.bx=[]/\v.ae=0/\v.aG=[]/\v.Rest=[]/\(v.ai.length:Int)<=(ts.getD t.toNat aN).Max/\e3 ts pl (ts.getD t.toNat aN).aC v.ai\/
 v.Kind=8/\v.b5=false/\v.bo=0/\v.bx=[]/\v.ae=0/\v.Rest=[]/\(v.aG.length:Int)<=(ts.getD t.toNat aN).Max/\v.ai.length=v.aG.length/\e3 ts pl (ts.getD t.toNat aN).Key v.aG/\e3 ts pl (ts.getD t.toNat aN).aC v.ai/\jA v.aG\/
 v.Kind=9/\v.b5=false/\v.bo=0/\v.bx=[]/\v.ae=0/\v.aG=[]/\v.Rest=[]/\v.ai.length<=1/\e3 ts pl (ts.getD t.toNat aN).aC v.ai):=by
 cases v;rfl
end
def lr(v:I):Prop:=(v.Kind=1\/v.b5=false)/\(v.Kind=2\/v.bo=0)/\(v.Kind=3\/v.bx=[])/\((v.Kind=4\/v.Kind=6)\/v.ae=0)/\(v.Kind=8\/v.aG=[])/\(5<=v.Kind\/v.ai=[])/\((v.Kind=5\/v.Kind=6)\/v.Rest=[])
theorem YM(v:I):dj (rV v) (lr v):=by
 rw[rV];refine .of ?_;unfold lr;have e:∀{α:Type} (l:List α),((l.length:Int)=0)↔l=[]:=λl=>by simp_all
 grind
theorem abD{z b:Bool}{c:Prop}(d:z=true↔c)(a:b=false↔Q)(e:dj o P):dj (if(bif (bif false then true else(!z))then true else b)then some false else o) (c/\Q/\P):=by
 obtain⟨r,rfl,h⟩:=e;cases z with
 |false=>
  refine⟨false,rfl,?_⟩;grind
 |true=>
  cases b with
  |true=>refine⟨false,rfl,?_⟩;simp at a;simp[a]
  |false=>refine⟨r,rfl,?_⟩;simp at d a;simp[d,a,h]
theorem tx{q:Bool}(c:q=true↔Q)(a:dj o P):dj (some q>>=λt244=>(if t244 then o else some false)>>=λb=>some (bif t244 then b else false)) (Q/\P):=by
 obtain⟨r,rfl,h⟩:=a;refine⟨q&&r,by cases q<;>cases r<;>rfl,?_⟩;grind
theorem abr{A:Bool}{f L:Option Bool}{c e d:Prop}(a:A=true↔c)(j:dj f e)(g:A=true->dj L d):
 dj (some (!A)>>=λt107=>(if !t107 then f else some false)>>=λk=>if(bif t107 then true else(!k)) then some false else L) (c/\e/\d):=by
 obtain⟨q,rfl,b⟩:=j;cases A with
 |false=>refine⟨false,rfl,?_⟩;simp at a;simp[a]
 |true=>
  obtain⟨m,rfl,i⟩:=g rfl;cases q with
  |false=>refine⟨false,rfl,?_⟩;simp at b;simp[b]
  |true=>refine⟨m,rfl,?_⟩;simp at a b;simp[a,b,i]
theorem abt{c:Bool}{ok g L:Option Bool}{d e n4 f:Prop}(l:c=false↔d)(b:dj ok e)(a:dj g n4)(j:dj L f):
 dj (some c>>=λt239=>(if !t239 then ok else some false)>>=λn=>some (bif t239 then true else(!n))>>=λt249=>(if !t249 then g else some false)>>=λo=>if(bif t249 then true else(!o)) then some false else L) (d/\e/\n4/\f):=by
 obtain⟨k,rfl,b⟩:=b;obtain⟨i,rfl,a⟩:=a;obtain⟨q,rfl,m⟩:=j;rw[<-l,<-b,<-a,<-m];cases c<;>cases k<;>cases i<;>exact⟨_,rfl,by simp⟩
theorem E'{l:List c6}{r:Int×Bool}(h:uW l id r):r.2=true↔∃y,y∈l/\y.ae=id:=by
 rcases h with⟨j,h1,b,c,rfl⟩|⟨h1,rfl⟩
 . grind
 . constructor
   . grind
   . rintro ⟨y,a,he⟩
     obtain⟨i,d,rfl⟩:=jf a;grind
section
variable {ts:List ah}(aP:ts.length<9223372036854775807)(dr:∀t,t∈ts->fD t)(bJ:∀t,t∈ts->oY t.Kind)
include aP dr bJ in
theorem Gi(ar:b3 v):C0 ts v:=by
 induction ar with
 |mk v hs h1 Z aa ao ay aA cV aC aE aF av X=>
  intro t pl;rw[ic];by_cases ab:(bif decide (t<0)then true else decide (((⟨ts⟩:bl).Types.length:Int)<=t))=true
  . rw[af ab];refine⟨false,rfl,?_⟩;rw[hc];grind
  . rw[al ab];have an:0<=t/\t<ts.length:=(by grind);obtain⟨j,rfl⟩:∃j:Nat,t=(j:Int):=⟨t.toNat,by omega⟩
    have T:j<ts.length:=(by omega);rw[af (aS T)];simp only[hc,a',I.bk];have V:=dr _ (br T aN);have U:=bJ _ (br T aN);generalize ts.getD j aN=x at V U⊢;have F:=dM (ik V.gT);have ad:=dM (ik V.syms);by_cases D:v.Kind=x.Kind
    . obtain⟨z,z1,z2⟩:=YM v;have Q:=JM (ts:=ts) Z X;have ap:=JM (ts:=ts) h1 av;show dj ((if !(!(v.Kind=x.Kind:Bool)) then rV v else some false)>>=_) _;rw[af (by simp[D]),z1];obtain⟨K,N,L,H,M,S,l,w,E,n⟩:=x;obtain⟨p,B,cr,C,ae,s,i,R⟩:=v;simp only at D;subst D;simp only at U F ad h1 Z aa z1;have J:(bif pl then decide (0<(R.length:Int))else false)=false↔(pl=true->R=[]):=(by simp_all);have ak:p=1\/p=2\/p=3\/p=4\/p=5\/p=6\/p=7\/p=8\/p=9:=by unfold oY at U;omega
      have cut:∀ {o:Option Bool} {P W:Prop},dj o P->((lr ⟨p,B,cr,C,ae,s,i,R⟩/\(pl = true->R = [])/\P) ↔ W)->
       dj (some z>>=λr=>if(bif (bif false then true else(!r))then true else bif pl then (0<(R.length:Int):Bool)else false) then some false else o) W:=λaq au=>(abD z2 J aq).imp au
      have u:(0:Int)<=j/\(j:Int)<ts.length:=an;rcases ak with rfl|rfl|rfl|rfl|rfl|rfl|rfl|rfl|rfl
      . exact cut (P:=True) (.of (b:=true) (by simp)) (by unfold lr;simp[u];grind)
      . exact cut (P:=L<=cr/\cr<=H) (.of (b:=bif decide (L<=cr)then decide (cr<=H)else false) (by by_cases g:L<=cr<;>simp[g])) (by unfold lr;simp[u];grind)
      . exact cut (P:=(C.length:Int)<=M) (.of (b:=decide ((C.length:Int)<=M)) (by simp)) (by unfold lr;simp[u];grind)
      . obtain⟨r,_,Y,O⟩:=ur (t:=⟨4,N,L,H,M,S,l,w,E,n⟩) ae ad;have hid:iY (ae,false)=some (bif decide (1<=ae)then decide (ae<=1000)else false):=(by rfl);have ag:=DA Y n pl _ (λb=>iY (ae,b)) hid;have hs:=E' O;simp only at hs;refine cut (P:=(∃y,y∈S/\y.ae=ae)\/n=true/\pl=false/\cK ae) ⟨_,ag,?_⟩ (by unfold lr;simp[u];grind);rw[<-hs];unfold cK;grind
      . refine cut (P:=i.length=l.length/\kG l R/\h6 ts pl l i) ?_ (by
         have:h6 ts pl l i->i.length=l.length:=λh=>(jZ.1 h).1
         unfold lr;simp[u];grind)
        exact abr (A:=decide ((i.length:Int)=(l.length:Int))) (by simp;omega) (YK (t:=⟨5,N,L,H,M,S,l,w,E,n⟩) F aa) (λah=>WV (ts:=ts) (t:=⟨5,N,L,H,M,S,l,w,E,n⟩) (v:=⟨5,B,cr,C,ae,s,i,R⟩) (QT ah) F X pl)
      . obtain⟨r,_,Y,O⟩:=ml (t:=⟨6,N,L,H,M,S,l,w,E,n⟩) ae F;have hid:∀b,b=false->iY (ae,b)=some (bif decide (1<=ae)then decide (ae<=1000)else false):=by
         intro b J;subst J;rfl
        have ai:decide ((R.length:Int)=1)=true->aI 0 R.length=true:=by
         intro h;have:=gk h;exact aS (k:=0) (by omega)
        refine cut (P:=match cU l ae with
         |some m=>R=[]/\i.length=1/\e3 ts pl m.aB i
         |none=>n=true/\pl=false/\cK ae/\i=[]/\∃d,R=[⟨ae,d⟩]) ?_ (by
          unfold lr;simp[u]
          grind)
        obtain⟨aG,kg⟩:=r;show dj (ib (⟨6,N,L,H,M,S,l,w,E,n⟩,ae)>>=_) _;rw[Y];rcases rC O with⟨e,k,bb,bq,bU,cu⟩|⟨e,bU⟩
        . simp only at e bb bq bU cu;subst e;subst bq;rw[bU];have aj:∃f:Bool,((bif decide ((i.length:Int)=1)then decide ((R.length:Int)=0)else false)=true->ic ((⟨ts⟩:bl),(l.getD (k:Int).toNat aD).aB,i.getD (0:Int).toNat az,pl)=some f)/\(i.length=1->(f=true↔e3 ts pl (l.getD k aD).aB i)):=by
           by_cases G:i.length=1
           . obtain⟨f,f1,f2⟩:=X (i.getD 0 az) (br (by omega:0<i.length) az) (l.getD k aD).aB pl;refine⟨f,λ_=>f1,λ_=>?_⟩;rw[f2]
             match i,G with
             |[y],_=>rw[dk];simp
           . refine⟨false,λh=>?_,λh=>absurd h G⟩;grind
          obtain⟨f,f1,f2⟩:=aj;have am:(bif decide ((i.length:Int)=1)then decide ((R.length:Int)=0)else false)=true->aI (k:Int) l.length=true/\aI 0 i.length=true:=by
           intro ax;refine⟨aS bb,?_⟩;by_cases G:i.length=1
           . exact aS (k:=0) (by omega)
           grind
          refine⟨_,DB _ (aI (k:Int) l.length) (aI 0 i.length) f f1 am,?_⟩;by_cases g1:i.length=1
          . simp_all
          grind
        . simp only at e bU;subst e;rw[bU];refine⟨_,DC (bif n then(!pl)else false) (bif decide (1<=ae)then decide (ae<=1000)else false) (decide ((i.length:Int)=0)) (decide ((R.length:Int)=1)) (aI 0 R.length) (decide ((R.getD (0:Int).toNat bS).ae=ae)) ai,?_⟩;unfold cK
          match R with
          |[]=>simp
          |[⟨aw,rd⟩]=>cases n<;>cases pl<;>by_cases g1:1<=ae<;>by_cases g2:ae<=1000<;>cases i<;>by_cases g3:aw=ae<;>simp[g1,g2,g3]<;>omega
          |a::b::c=>simp;omega
      . exact cut (P:=(i.length:Int)<=M/\e3 ts pl E i) (tx (by simp) (Q E pl)) (by unfold lr;simp[u];grind)
      . refine cut (P:=((s.length:Int)<=M/\i.length=s.length)/\e3 ts pl w s/\e3 ts pl E i/\jA s) ?_ (by unfold lr;simp[u];grind);refine abt (c:=bif decide (M<(s.length:Int))then true else(!(decide ((i.length:Int)=(s.length:Int))))) ?_ (ap w pl) (Q E pl) (YL (v:=⟨8,B,cr,C,ae,s,i,R⟩) (dM h1) ao);grind
      . exact cut (P:=i.length<=1/\e3 ts pl E i) (tx (q:=decide ((i.length:Int)<=1)) (by simp;omega) (Q E pl)) (by unfold lr;simp[u];grind)
    . refine⟨false,by simp[D],?_⟩;grind
end
theorem aej{n:Nat}(h:n<=70368744177664):room 1 n=true:=by
 unfold room hr dm;grind
theorem La{n:Nat}(h:n<=2199023255552:=by simp;omega):room 24 n=true:=by
 unfold room hr dm;grind
theorem bws{s b:ao}(h:b.length+s.length<=70368744177664:=by omega):r4 (s,b)=some ((s.length:Int),b++s):=by
 rw[r4];simp only[a8,aq];rw[j7,af (aej h)];rfl
theorem Db(b:ao):wQ b=some b:=by rw[wQ,af (by simp[fy])]
theorem yZ(a b:Nat):iw (a:Int) (b:Int)=((max a b:Nat):Int):=by unfold iw;omega
theorem eD{l:List α}{i:Nat}(h:i<l.length)(d:α):l.drop i=l.getD i d::l.drop (i+1):=by simp_all
def jc(f:Fd):gv:=⟨(f.id:Int),f.text⟩
theorem WW{m:aU}(a:b3 m.bz)(v:I):A1 (m,v)=some (dz m v):=by
 rw[A1];unfold dz;cases c:m.bV with
 |false=>simp
 |true=>
  obtain⟨r,h1,b⟩:=Re a v;simp only[I.bk];grind
theorem K1{m:aU}(a:b3 v)(c:m.bV=true):jt (v,m.bz)=some (dz m v):=by
 obtain⟨r,h1,b⟩:=Cc a m.bz;rw[h1];unfold dz;grind
section
variable {ts:List ah}
def pG(ts:List ah)(x:I)(t:Int):Prop:=∀L D:Nat,1<=L->L+wt x<=1125899906842624->jT (t,x,(L:Int),ts,(D:Int))=some (bF ts t x,ts,((max D (L+eK ts t x-1):Nat):Int))
theorem IQ:∀{ms:List aU} {l:List I},(dy ts ms l).length<=ms.length
 |[],l=>by
  rw[dy]
  . simp
  grind
 |m::ms,[]=>by
  rw[dy]
  . simp
  grind
 |m::ms,v::l=>by
  rw[dy];have:=IQ (ms:=ms) (l:=l);grind
theorem sM(t:Int)(v:I):1<=eK ts t v:=by
 cases v;rw[eK];omega
theorem Lb{a:List aU}(p:a.length<=1000)(d:∀m,m∈a->b3 m.bz)(hid:∀m,m∈a->cK m.ae)(ad:v.ai.length=a.length)(e:∀x,x∈v.ai->∀t,(bF ts t x).length<=70368744177664)
 (g:∀i,i<a.length->dz (a.getD i aD) (v.ai.getD i az)=false->pG ts (v.ai.getD i az) (a.getD i aD).aB)(L:Nat)(l:1<=L)(o:L+du v.ai<1125899906842624):
 ∀(k i:Nat) (D:Nat) (acc:List gv),i+k=a.length->L<=D->acc.length+k<=100000->
 qk ((L:Int),a,(a.length:Int),(i:Int),ts,(D:Int),v,acc)=some (ts,((max D (L+gW ts (a.drop i) (v.ai.drop i)):Nat):Int),v,acc++(dy ts (a.drop i) (v.ai.drop i)).map jc)
 |0,i,D,acc,r,j,q=>by
  rw[qk,dE,I.bk,fr (by omega:a.length<=i)];rw[gW,dy]
  . simp;omega
  . grind
  grind
 |k+1,i,D,acc,r,j,q=>by
  have aE:i<a.length:=by omega
  have b:i<v.ai.length:=by omega
  rw[qk,cq,af (aS aE)];simp only[a8,aq,a',I.bk,iZ];rw[af (aS b),WW (d _ (br aE aD))];rw[eD aE aD,eD b az,gW,dy];have u:=Lb p d hid ad e g L l o k (i+1);cases s:dz (a.getD i aD) (v.ai.getD i az)with
  |true=>
   simp only[aq,dU,ca,b4,b7];rw[bH (by omega)];grind
  |false=>
   have f:v.ai.getD i az∈v.ai:=br b az;have z:=fx f;have dN:=g i aE s (L+1) D (by omega) (by omega);have w:=sM (ts:=ts) (a.getD i aD).aB (v.ai.getD i az);have c:=hid _ (br aE aD);obtain⟨n,aP⟩:∃n:Nat,(a.getD i aD).ae=(n:Int):=⟨(a.getD i aD).ae.toNat,by unfold cK at c;omega⟩
   simp only[aq,fz,b7,ca,b4];have y:=e _ f (a.getD i aD).aB;have aK:aQ .i64 (L:Int) 1=((L+1:Nat):Int):=bH (by omega);rw[af (aS b),aK,dN];simp only[aq];rw[aP,Gg (by unfold cK at c;omega)];simp only[aq];rw[af (La),bH (by omega),u _ _ (by omega) (by omega) (by simp;omega)];have:(⟨(n:Int),fR n (a.getD i aD).cv (bF ts (a.getD i aD).aB (v.ai.getD i az))⟩:gv)=jc ⟨(n:Int).toNat,(a.getD i aD).cv,bF ts (a.getD i aD).aB (v.ai.getD i az)⟩:=(by rfl);simp_all
theorem Lc{R:List b6}(b:∀x,x∈R->cK x.ae/\x.Data.length<=reachBytes)(c:R.length<=2199023255552)(D:Int):∀(k i:Nat) (acc:List gv),i+k=R.length->acc.length+k<=2199023255552->
 qj (R,(R.length:Int),(i:Int),ts,D,acc)=some (ts,D,acc++((R.drop i).map kf).map jc)
 |0,i,acc,f,d=>by
  rw[qj,dE,fr (by omega:R.length<=i)];simp
 |k+1,i,acc,f,d=>by
  have aE:i<R.length:=by omega
  obtain⟨a,e⟩:=b _ (br aE bS);obtain⟨n,aP⟩:∃n:Nat,(R.getD i bS).ae=(n:Int):=⟨(R.getD i bS).ae.toNat,by unfold cK at a;omega⟩
  unfold reachBytes at e;rw[qj,cq,af (aS aE)];simp only[a8,aq,a'];rw[aP,Gg (by unfold cK at a;omega)];simp only[aq];rw[af (La),bH (by omega),Lc b c D k (i+1) _ (by omega) (by simp;omega),eD aE bS];have:(⟨(n:Int),fR n false (R.getD i bS).Data⟩:gv)=jc (kf (R.getD i bS)):=by
   show _=(⟨(((R.getD i bS).ae.toNat:Nat):Int),fR (R.getD i bS).ae.toNat false (R.getD i bS).Data⟩:gv);grind
  grind
theorem Ld{l:List Fd}(D:Int):∀(k i:Nat) (b:ao),i+k=l.length->l.length<=2199023255552->b.length+((l.drop i).flatMap Fd.text).length<=70368744177664->
 r9 ((l.length:Int),(i:Int),ts,D,l.map jc,b)=some (ts,D,b++(l.drop i).flatMap Fd.text)
 |0,i,b,c,_,a=>by
  rw[r9,dE,fr (by omega:l.length<=i)];simp
 |k+1,i,b,c,ad,a=>by
  have aE:i<l.length:=by omega
  rw[r9,cq,af (aS (by simp;omega)),cq];rw[eD aE default]at a⊢;simp only[hO,db]at a⊢;have ak:(l.map jc).getD i uj=jc (l.getD i default):=ij jc l i default uj aE;simp only[a',ak];have:(jc (l.getD i default)).text=(l.getD i default).text:=rfl;rw[this,bws];simp only[a8,aq];rw[bH (by omega),Ld D k (i+1) _ (by omega) ad (by rw[db];omega)];simp
end
end
end Go.Proofs.YtkbmjabicjpmjaaGreatDoor
