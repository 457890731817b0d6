/- The functions of the program as functions of Lean, that its code does what they say, and what they answer; part B. -/
import Derived.Test.YtdjagncoefjfeaaGreatCtA

namespace Go.Proofs.YtdjagncoefjfeaaGreat
set_option linter.all false
section
open Go Go.Proofs.YtdjagncoefjfeaaGreat.Shv
open Tryz
set_option maxRecDepth 100000
def lU:aT×Int×I->Option (ak×Int)
 |(s,t,v)=>
 tm ((⟨s.Types⟩:aT),t,I.eta v)>>=λr=>if !(r=0:Bool) then some ([],r)else j8 (t,I.eta v,1,s.Types,0)>>=λa=>if(bif (4096<(a.1.length:Int):Bool)then true else (200<a.2.2:Bool)) then some ([],3)else some (a.1,0)
theorem TT:a6 Bu lU:= .bj (.k M2 (.k VS .n))
def DH:Int×Bool×ak->Option (ak×Int)
 |(id,b,a)=>
 if(bif (id<1:Bool)then true else (1000<id:Bool)) then some ([],7)else if (4096<(a.length:Int):Bool) then some ([],3)else wy (id,b,a)>>=λr=>some (r,0)
theorem XY:a6 RU DH:= .bj (.k Hy .n)
def wq(p:ak):Option ak:=
 pN (bT .u64 (p.length:Int))>>=λr=>if (r.length+p.length<=eF:Bool) then some (r++p)else none
theorem Yz:a6 RV wq:= .bj (.k zd .n)
mutual
def lh:aT×Int×I->Option ak
 |(s,t,v)=>
 if aG t s.Types.length then some (s.Types.getD t.toNat aK)>>=λa=>if (a.Kind=5:Bool) then rJ ([],a.ah,(a.ah.length:Int),0,s.Types,I.eta v)>>=λo=>some o else if (a.Kind=6:Bool) then hg (a,v.ad)>>=λr=>pN (bT .u64 v.ad)>>=λK=>if aG r.1 a.ah.length then if aG 0 v.aj.length then lh (s,(a.ah.getD r.1.toNat aC).aw,I.eta (v.aj.getD (0:Int).toNat av))>>=λL=>if (K.length+L.length<=eF:Bool) then some (K++L)else none else none else none else if (a.Kind=9:Bool) then vw ([],v.aj,(v.aj.length:Int),0,s.Types,a)>>=λO=>some O else some (decide (a.Kind=7))>>=λt115=>if t115 then if t115 then lb ([],v.aj,(v.aj.length:Int),0,s.Types,I.eta v,a)>>=λP=>some P else lU (s,t,I.eta v)>>=λZ=>some Z.1 else if (a.Kind=8:Bool) then lb ([],v.aj,(v.aj.length:Int),0,s.Types,I.eta v,a)>>=λQ=>some Q else lU (s,t,I.eta v)>>=λaf=>some af.1 else none
  partial_fixpoint
def rJ:ak×List aU×Int×Int×List ai×I->Option ak
 |(x,t36,A,t38,b,f)=>
 if (t38<A:Bool) then if aG t38 t36.length then some (t36.getD t38.toNat aC)>>=λc=>if aG t38 f.aj.length then tQ ((⟨c.ad,c.Name,c.aw,c.ch,c.bU,I.eta c.bA⟩:aU),I.eta (f.aj.getD t38.toNat av))>>=λS=>if !S then if aG t38 f.aj.length then lh ((⟨b⟩:aT),c.aw,I.eta (f.aj.getD t38.toNat av))>>=λU=>DH (c.ad,c.ch,U)>>=λE=>if (x.length+E.1.length<=eF:Bool) then rJ (x++E.1,t36,A,aM .i64 t38 1,b,I.eta f)else none else none else rJ (x,t36,A,aM .i64 t38 1,b,I.eta f)else none else none else some x
  partial_fixpoint
def vw:ak×List I×Int×Int×List ai×ai->Option ak
 |(R,t101,M,t103,B,D)=>
 if (t103<M:Bool) then if aG t103 t101.length then lh ((⟨B⟩:aT),D.aF,I.eta (t101.getD t103.toNat av))>>=λF=>if ([1].length+F.length<=eF:Bool) then vw ([1]++F,t101,M,aM .i64 t103 1,B,D)else none else none else some R
  partial_fixpoint
def lb:ak×List I×Int×Int×List ai×I×ai->Option ak
 |(q,t118,y,t120,p,w,j)=>
 if (t120<y:Bool) then if aG t120 t118.length then some (t118.getD t120.toNat av)>>=λN=>if (j.Kind=8:Bool) then if aG t120 w.ay.length then lh ((⟨p⟩:aT),j.Key,I.eta (w.ay.getD t120.toNat av))>>=λW=>wq W>>=λG=>if (q.length+G.length<=eF:Bool) then some (q++G)>>=λt139=>lh ((⟨p⟩:aT),j.aF,I.eta N)>>=λX=>wq X>>=λH=>if (t139.length+H.length<=eF:Bool) then lb (t139++H,t118,y,aM .i64 t120 1,p,I.eta w,j)else none else none else none else lh ((⟨p⟩:aT),j.aF,I.eta N)>>=λY=>wq Y>>=λJ=>if (q.length+J.length<=eF:Bool) then lb (q++J,t118,y,aM .i64 t120 1,p,I.eta w,j)else none else none else some q
  partial_fixpoint
end
theorem Wh:ee qG lh/\eC 222 0 [2] Av lb/\eC 222 0 [1] Au vw/\eC 222 0 [0] As rJ:=lh.mutual_partial_correctness (ec qG) (eB 222 0 [2] Av) (eB 222 0 [1] Au) (eB 222 0 [0] As)
 (λ_ _ _ _ h0 h1 a b _ _ h=>ei h (.k nP (.k zd (.k (cd qG h0) (.k TT .n)))) (.k (eM As b) (.k (eM Au a) (.k (eM Av h1) .n))))
 (λ_ _ h0 h1 _ _ h=>eL Av h1 h (.k (cd qG h0) (.k Yz .n)))
 (λ_ _ h0 a _ _ h=>eL Au a h (.k (cd qG h0) .n))
 (λ_ _ h0 b _ _ h=>eL As b h (.k GB (.k (cd qG h0) (.k XY .n))))
theorem Un:a6 qG lh:=cd _ Wh.1
def n4:List aU×Int×Int×List ai×List ai×ar×I×ai×Int×Bool×Int×ak×Int×Int×Bool×Int×ak×Int×ar×List I×List bW->Option ((Bool×List ai×List ai×I×ar×ar) ⊕ (List ai×List ai×ar×Int×Bool×Int×ak×Int×Int×Bool×Int×ak×Int×ar×List I×List bW))
 |(t115,v,t117,c,e,f,b,j,k,l,m,n,o,p,q,r,s,t,g,u,i)=>
 if (t117<v:Bool) then if aG t117 t115.length then some (t115.getD t117.toNat aC)>>=λa=>hg (j,a.ad)>>=λw=>if w.2 then n4 (t115,v,aM .i64 t117 1,c,e,f,I.eta b,j,k,l,m,n,o,p,q,r,s,t,g,u,i)else if a.ch then vq (a.ad,c,e,f,g)>>=λd=>some (.inl (d.2.1,d.2.2.1,d.2.2.2.1,I.eta d.1,d.2.2.2.2.1,d.2.2.2.2.2))else if aG t117 b.aj.length then tQ ((⟨a.ad,a.Name,a.aw,a.ch,a.bU,I.eta a.bA⟩:aU),I.eta (b.aj.getD t117.toNat av))>>=λx=>if !x then if aG t117 b.aj.length then lh ((⟨c⟩:aT),a.aw,I.eta (b.aj.getD t117.toNat av))>>=λy=>some [(⟨a.ad,y⟩:bW)]>>=λt163=>if room 24 (i++t163).length then n4 (t115,v,aM .i64 t117 1,c,e,f,I.eta b,j,k,l,m,n,o,p,q,r,s,t,g,u,i++t163)else none else none else n4 (t115,v,aM .i64 t117 1,c,e,f,I.eta b,j,k,l,m,n,o,p,q,r,s,t,g,u,i)else none else none else some (.inr (c,e,f,k,l,m,n,o,p,q,r,s,t,g,u,i))
  partial_fixpoint
theorem US:cL 183 2 [1] O2 n4:= .rx n4.partial_correctness (.k nP (.k TB (.k GB (.k Un .n))))
mutual
def qU:Int×Int×I×Int×List ai×List ai×ar×ar->Option (I×Bool×List ai×List ai×ar×ar)
 |(step,wt,v,rt,b,f,p,j)=>
 some [step]>>=λt20=>if room 8 (j++t20).length then tR (wt,I.eta v,rt,b,f,p,j++t20)>>=λr=>some (c9 .i64 (r.2.2.2.2.2.length:Int) 1)>>=λt42=>if dN 0 t42 r.2.2.2.2.2.length then if (t42.toNat<=r.2.2.2.2.2.length:Bool) then some (I.eta r.1,r.2.1,r.2.2.1,r.2.2.2.1,r.2.2.2.2.1,r.2.2.2.2.2.take t42.toNat)else none else none else none
  partial_fixpoint
def nJ(t:Int×List I×Int×List ai×List ai×ar×ar):Option (List I×Bool×List ai×List ai×ar×ar):=
 match t with
 |(wt,l,rt,b,f,p,j)=>
 sT (wt,rt,l,(l.length:Int),0,b,f,p,[],j)>>=λo=>match o with
 |.inl w=>
 some ([],w.1,w.2.1,w.2.2.1,w.2.2.2.1,w.2.2.2.2)
 |.inr e=>
 some (e.2.2.2.1,true,e.1,e.2.1,e.2.2.1,e.2.2.2.2)
  partial_fixpoint
def tR:Int×I×Int×List ai×List ai×ar×ar->Option (I×Bool×List ai×List ai×ar×ar)
 |(wt,v,rt,b,f,p,j)=>
 if aG wt b.length then some (b.getD wt.toNat aK)>>=λc=>if aG rt f.length then some (f.getD rt.toNat aK)>>=λa=>if !(c.Kind=a.Kind:Bool) then tM (b,f,p,j)>>=λr=>some (I.eta r.1,r.2.1,r.2.2.1,r.2.2.2.1,r.2.2.2.2.2,r.2.2.2.2.1)else
 let bD:=λcE=>
 if !cE then tM (b,f,p,j)>>=λW=>some (I.eta W.1,W.2.1,W.2.2.1,W.2.2.2.1,W.2.2.2.2.2,W.2.2.2.2.1)else if (c.Kind=5:Bool) then yz (c,I.eta v,a,b,f,p,j)>>=λP=>some (I.eta P.1,P.2.1,P.2.2.1,P.2.2.2.1,P.2.2.2.2.1,P.2.2.2.2.2)else if (c.Kind=6:Bool) then yi (c,I.eta v,a,b,f,p,j)>>=λQ=>some (I.eta Q.1,Q.2.1,Q.2.2.1,Q.2.2.2.1,Q.2.2.2.2.1,Q.2.2.2.2.2)else if (c.Kind=8:Bool) then nJ (c.Key,v.ay,a.Key,b,f,p,j)>>=λD=>if !D.2.1 then some ((⟨0,false,0,[],0,[],[],[]⟩:I),false,D.2.2.1,D.2.2.2.1,D.2.2.2.2.1,D.2.2.2.2.2)else nJ (c.aF,v.aj,a.aF,D.2.2.1,D.2.2.2.1,D.2.2.2.2.1,D.2.2.2.2.2)>>=λG=>if !G.2.1 then some ((⟨0,false,0,[],0,[],[],[]⟩:I),false,G.2.2.1,G.2.2.2.1,G.2.2.2.2.1,G.2.2.2.2.2)else some ((⟨v.Kind,v.bN,v.bc,v.bl,v.ad,D.1,G.1,[]⟩:I),true,G.2.2.1,G.2.2.2.1,G.2.2.2.2.1,G.2.2.2.2.2)else nJ (c.aF,v.aj,a.aF,b,f,p,j)>>=λH=>if !H.2.1 then some ((⟨0,false,0,[],0,[],[],[]⟩:I),false,H.2.2.1,H.2.2.2.1,H.2.2.2.2.1,H.2.2.2.2.2)else some ((⟨v.Kind,v.bN,v.bc,v.bl,v.ad,[],H.1,[]⟩:I),true,H.2.2.1,H.2.2.2.1,H.2.2.2.2.1,H.2.2.2.2.2)
 if (c.Kind=2:Bool) then bD (bif decide (a.bE<=v.bc)then decide (v.bc<=a.bH)else false)else
 let bv:=λcs=>
 bD cs
 if (c.Kind=3:Bool) then bv (decide ((v.bl.length:Int)<=a.Max))else if (c.Kind=4:Bool) then tn (a,v.ad)>>=λce=>bv (bif ce.2 then true else a.Open)else some (decide (c.Kind=7))>>=λt91=>
 let bs:=λci=>
 let bq:=λ(_:Unit)=>
 if (c.Kind=5:Bool) then yz (c,I.eta v,a,b,f,p,j)>>=λS=>some (I.eta S.1,S.2.1,S.2.2.1,S.2.2.2.1,S.2.2.2.2.1,S.2.2.2.2.2)else if (c.Kind=6:Bool) then yi (c,I.eta v,a,b,f,p,j)>>=λU=>some (I.eta U.1,U.2.1,U.2.2.1,U.2.2.2.1,U.2.2.2.2.1,U.2.2.2.2.2)else if (c.Kind=8:Bool) then nJ (c.Key,v.ay,a.Key,b,f,p,j)>>=λA=>if !A.2.1 then some ((⟨0,false,0,[],0,[],[],[]⟩:I),false,A.2.2.1,A.2.2.2.1,A.2.2.2.2.1,A.2.2.2.2.2)else nJ (c.aF,v.aj,a.aF,A.2.2.1,A.2.2.2.1,A.2.2.2.2.1,A.2.2.2.2.2)>>=λB=>if !B.2.1 then some ((⟨0,false,0,[],0,[],[],[]⟩:I),false,B.2.2.1,B.2.2.2.1,B.2.2.2.2.1,B.2.2.2.2.2)else some ((⟨v.Kind,v.bN,v.bc,v.bl,v.ad,A.1,B.1,[]⟩:I),true,B.2.2.1,B.2.2.2.1,B.2.2.2.2.1,B.2.2.2.2.2)else nJ (c.aF,v.aj,a.aF,b,f,p,j)>>=λE=>if !E.2.1 then some ((⟨0,false,0,[],0,[],[],[]⟩:I),false,E.2.2.1,E.2.2.2.1,E.2.2.2.2.1,E.2.2.2.2.2)else some ((⟨v.Kind,v.bN,v.bc,v.bl,v.ad,[],E.1,[]⟩:I),true,E.2.2.1,E.2.2.2.1,E.2.2.2.2.1,E.2.2.2.2.2)
 if ci then if !((v.aj.length:Int)<=a.Max:Bool) then tM (b,f,p,j)>>=λR=>some (I.eta R.1,R.2.1,R.2.2.1,R.2.2.2.1,R.2.2.2.2.2,R.2.2.2.2.1)else bq ()else bq ()
 if t91 then bs t91 else bs (decide (c.Kind=8))else none else none
  partial_fixpoint
def yz(t:ai×I×ai×List ai×List ai×ar×ar):Option (I×Bool×List ai×List ai×ar×ar):=
 match t with
 |(c,v,y,b,f,p,j)=>
 pf (y.ah,(y.ah.length:Int),0,b,f,p,c,I.eta v,y,0,false,0,[],0,v.Kind,false,0,[],0,j,[])>>=λo=>match o with
 |.inl w=>
 some (I.eta w.2.2.2.2.1,w.1,w.2.1,w.2.2.1,w.2.2.2.1,w.2.2.2.2.2)
 |.inr e=>
 n4 (e.2.2.2.1.ah,(e.2.2.2.1.ah.length:Int),0,e.1,e.2.1,e.2.2.1,I.eta e.2.2.2.2.1,e.2.2.2.2.2.1,e.2.2.2.2.2.2.1,e.2.2.2.2.2.2.2.1,e.2.2.2.2.2.2.2.2.1,e.2.2.2.2.2.2.2.2.2.1,e.2.2.2.2.2.2.2.2.2.2.1,e.2.2.2.2.2.2.2.2.2.2.2.1,e.2.2.2.2.2.2.2.2.2.2.2.2.1,e.2.2.2.2.2.2.2.2.2.2.2.2.2.1,e.2.2.2.2.2.2.2.2.2.2.2.2.2.2.1,e.2.2.2.2.2.2.2.2.2.2.2.2.2.2.2.1,e.2.2.2.2.2.2.2.2.2.2.2.2.2.2.2.2.1,e.2.2.2.2.2.2.2.2.2.2.2.2.2.2.2.2.2,[])>>=λb2=>match b2 with
 |.inl N=>
 some (I.eta N.2.2.2.1,N.1,N.2.1,N.2.2.1,N.2.2.2.2.2,N.2.2.2.2.1)
 |.inr x=>
 some ((⟨x.2.2.2.2.2.2.2.2.1,x.2.2.2.2.2.2.2.2.2.1,x.2.2.2.2.2.2.2.2.2.2.1,x.2.2.2.2.2.2.2.2.2.2.2.1,x.2.2.2.2.2.2.2.2.2.2.2.2.1,[],x.2.2.2.2.2.2.2.2.2.2.2.2.2.2.1,x.2.2.2.2.2.2.2.2.2.2.2.2.2.2.2⟩:I),true,x.1,x.2.1,x.2.2.1,x.2.2.2.2.2.2.2.2.2.2.2.2.2.1)
  partial_fixpoint
def yi:ai×I×ai×List ai×List ai×ar×ar->Option (I×Bool×List ai×List ai×ar×ar)
 |(c,v,y,b,f,p,j)=>
 hg (c,v.ad)>>=λr=>hg (y,v.ad)>>=λF=>if F.2 then if aG r.1 c.ah.length then if aG 0 v.aj.length then if aG F.1 y.ah.length then qU (v.ad,(c.ah.getD r.1.toNat aC).aw,I.eta (v.aj.getD (0:Int).toNat av),(y.ah.getD F.1.toNat aC).aw,b,f,p,j)>>=λJ=>if !J.2.1 then some ((⟨0,false,0,[],0,[],[],[]⟩:I),false,J.2.2.1,J.2.2.2.1,J.2.2.2.2.1,J.2.2.2.2.2)else some ((⟨v.Kind,false,0,[],v.ad,[],[I.eta J.1],[]⟩:I),true,J.2.2.1,J.2.2.2.1,J.2.2.2.2.1,J.2.2.2.2.2)else none else none else none else if !y.Open then tM (b,f,p,j)>>=λO=>some (I.eta O.1,O.2.1,O.2.2.1,O.2.2.2.1,O.2.2.2.2.2,O.2.2.2.2.1)else if aG r.1 c.ah.length then if aG 0 v.aj.length then lh ((⟨b⟩:aT),(c.ah.getD r.1.toNat aC).aw,I.eta (v.aj.getD (0:Int).toNat av))>>=λL=>some ((⟨v.Kind,false,0,[],v.ad,[],[],[(⟨v.ad,L⟩:bW)]⟩:I),true,b,f,p,j)else none else none
  partial_fixpoint
def sT:Int×Int×List I×Int×Int×List ai×List ai×ar×List I×ar->Option ((Bool×List ai×List ai×ar×ar) ⊕ (List ai×List ai×ar×List I×ar))
 |(b1,bZ,t15,b0,t17,bb,be,bf,an,bi)=>
 if (t17<b0:Bool) then if aG t17 t15.length then qU (t17,b1,I.eta (t15.getD t17.toNat av),bZ,bb,be,bf,bi)>>=λr=>if !r.2.1 then some (.inl (false,r.2.2.1,r.2.2.2.1,r.2.2.2.2.1,r.2.2.2.2.2))else some [I.eta r.1]>>=λt35=>if room 120 (an++t35).length then sT (b1,bZ,t15,b0,aM .i64 t17 1,r.2.2.1,r.2.2.2.1,r.2.2.2.2.1,an++t35,r.2.2.2.2.2)else none else none else some (.inr (bb,be,bf,an,bi))
  partial_fixpoint
def pf:List aU×Int×Int×List ai×List ai×ar×ai×I×ai×Int×Bool×Int×ak×Int×Int×Bool×Int×ak×Int×ar×List I->Option ((Bool×List ai×List ai×ar×I×ar) ⊕ (List ai×List ai×ar×ai×I×ai×Int×Bool×Int×ak×Int×Int×Bool×Int×ak×Int×ar×List I))
 |(t25,a9,t27,Z,af,ag,K,M,ap,ax,aB,aD,aJ,a0,a1,a2,a3,a4,a5,am,Y)=>
 if (t27<a9:Bool) then if aG t27 t25.length then some (t25.getD t27.toNat aC)>>=λa=>hg (K,a.ad)>>=λr=>if !r.2 then if !a.bU then vq (a.ad,Z,af,ag,am)>>=λF=>some (.inl (F.2.1,F.2.2.1,F.2.2.2.1,F.2.2.2.2.2,I.eta F.1,F.2.2.2.2.1))else kb (I.eta a.bA)>>=λb3=>some [I.eta b3]>>=λt54=>if room 120 (Y++t54).length then pf (t25,a9,aM .i64 t27 1,Z,af,ag,K,I.eta M,ap,ax,aB,aD,aJ,a0,a1,a2,a3,a4,a5,am,Y++t54)else none else if aG r.1 K.ah.length then if aG r.1 M.aj.length then qU (a.ad,(K.ah.getD r.1.toNat aC).aw,I.eta (M.aj.getD r.1.toNat av),a.aw,Z,af,ag,am)>>=λq=>if aG r.1 K.ah.length then some (K.ah.getD r.1.toNat aC)>>=λX=>if aG r.1 M.aj.length then tQ ((⟨X.ad,X.Name,X.aw,X.ch,X.bU,I.eta X.bA⟩:aU),I.eta (M.aj.getD r.1.toNat av))>>=λbP=>some (!q.2.1)>>=λt90=>(if(bP&&(!t90)) then tQ ((⟨a.ad,a.Name,a.aw,a.ch,a.bU,I.eta a.bA⟩:aU),I.eta q.1)else some false)>>=λb4=>if(bif bP then bif t90 then true else(!b4)else false) then vq (a.ad,q.2.2.1,q.2.2.2.1,q.2.2.2.2.1,q.2.2.2.2.2)>>=λL=>some (.inl (L.2.1,L.2.2.1,L.2.2.2.1,L.2.2.2.2.2,I.eta L.1,L.2.2.2.2.1))else if !q.2.1 then some (.inl (false,q.2.2.1,q.2.2.2.1,q.2.2.2.2.1,(⟨0,false,0,[],0,[],[],[]⟩:I),q.2.2.2.2.2))else some [I.eta q.1]>>=λt110=>if room 120 (Y++t110).length then pf (t25,a9,aM .i64 t27 1,q.2.2.1,q.2.2.2.1,q.2.2.2.2.1,K,I.eta M,ap,ax,aB,aD,aJ,a0,a1,a2,a3,a4,a5,q.2.2.2.2.2,Y++t110)else none else none else none else none else none else none else some (.inr (Z,af,ag,K,I.eta M,ap,ax,aB,aD,aJ,a0,a1,a2,a3,a4,a5,am,Y))
  partial_fixpoint
end
theorem Vw:ee u7 qU/\ee xO tR/\ee BC nJ/\eC 185 2 [0] Ax sT/\ee BB yi/\ee BA yz/\eC 183 2 [0] Aw pf:=qU.mutual_partial_correctness (ec u7) (ec xO) (ec BC) (eB 185 2 [0] Ax) (ec BB) (ec BA) (eB 183 2 [0] Aw)
 (λ_ h1 _ _ h=>ei h (.k (cd xO h1) .n))
 (λ_ _ _ c d bf _ _ h=>ei h (.k T' (.k (cd BA bf) (.k (cd BB d) (.k (cd BC c) (.k CP .n))))))
 (λ_ a _ _ h=>ei h .n (.k (eM Ax a) .n))
 (λ_ _ h0 a _ _ h=>eL Ax a h (.k (cd u7 h0) .n))
 (λ_ h0 _ _ h=>ei h (.k nP (.k (cd u7 h0) (.k T' (.k Un .n)))))
 (λ_ b _ _ h=>ei h .n (.k (eM Aw b) (.k US .n)))
 (λ_ _ h0 b _ _ h=>eL Aw b h (.k nP (.k TB (.k WW (.k (cd u7 h0) (.k GB .n))))))
theorem Wi:a6 xO tR:=cd _ Vw.2.1
def yY:aT×Int×I×aT×Int->Option (I×Int)
 |(w,wt,v,r,rt)=>
 Cz (w,wt,I.eta v,r,rt)>>=λa=>if !(a=0:Bool) then some ((⟨0,false,0,[],0,[],[],[]⟩:I),a)else tR (wt,I.eta v,rt,w.Types,r.Types,[],[])>>=λb=>if !b.2.1 then some ((⟨0,false,0,[],0,[],[],[]⟩:I),12)else some (I.eta b.1,0)
theorem W9:a6 Bt yY:= .bj (.k Yw (.k Wi .n))
def mO:cD×cD×ak->Option (eP×Int)
 |(w,r,m)=>
 tq (w.cW,w.aw,m)>>=λa=>if !(a.2=0:Bool) then some ((⟨(⟨0,false,0,[],0,[],[],[]⟩:I),(⟨0,false,0,[],0,[],[],[]⟩:I),[]⟩:eP),12)else wB (w.cW,w.aw,I.eta a.1)>>=λe=>if !(e.2=0:Bool) then some ((⟨(⟨0,false,0,[],0,[],[],[]⟩:I),(⟨0,false,0,[],0,[],[],[]⟩:I),[]⟩:eP),12)else yY (w.cW,w.aw,I.eta e.1,r.cW,r.aw)>>=λf=>if !(f.2=0:Bool) then some ((⟨(⟨0,false,0,[],0,[],[],[]⟩:I),(⟨0,false,0,[],0,[],[],[]⟩:I),[]⟩:eP),12)else lU (w.cW,w.aw,I.eta a.1)>>=λc=>if !(c.2=0:Bool) then some ((⟨(⟨0,false,0,[],0,[],[],[]⟩:I),(⟨0,false,0,[],0,[],[],[]⟩:I),[]⟩:eP),3)else tq (r.cW,r.aw,c.1)>>=λb=>if !(b.2=0:Bool) then some ((⟨(⟨0,false,0,[],0,[],[],[]⟩:I),(⟨0,false,0,[],0,[],[],[]⟩:I),[]⟩:eP),12)else lU (r.cW,r.aw,I.eta b.1)>>=λd=>if !(d.2=0:Bool) then some ((⟨(⟨0,false,0,[],0,[],[],[]⟩:I),(⟨0,false,0,[],0,[],[],[]⟩:I),[]⟩:eP),3)else some ((⟨I.eta a.1,I.eta b.1,d.1⟩:eP),0)
theorem W':a6 Fw mO:= .bj (.k Yq (.k Yc (.k W9 (.k TT .n))))
def pL:cD×cD×ak->Option (eP×Int)
 |(w,r,m)=>
 wo [w,r]>>=λb=>if !(b=0:Bool) then some ((⟨(⟨0,false,0,[],0,[],[],[]⟩:I),(⟨0,false,0,[],0,[],[],[]⟩:I),[]⟩:eP),b)else mO (w,r,m)>>=λa=>some ((⟨I.eta a.1.v,I.eta a.1.u,a.1.message⟩:eP),a.2)
def mL(t:ai):Option ai:=
 if (t.Kind=1:Bool) then some (⟨t.Kind,[],0,0,0,[],[],0,0,false⟩:ai)else if (t.Kind=2:Bool) then some (⟨t.Kind,[],t.bE,t.bH,0,[],[],0,0,false⟩:ai)else if (t.Kind=3:Bool) then some (⟨t.Kind,[],0,0,t.Max,[],[],0,0,false⟩:ai)else if (t.Kind=4:Bool) then some (⟨t.Kind,t.Name,0,0,0,t.bh,[],0,0,t.Open⟩:ai)else if (t.Kind=5:Bool) then some (⟨t.Kind,t.Name,0,0,0,[],t.ah,0,0,false⟩:ai)else if (t.Kind=6:Bool) then some (⟨t.Kind,t.Name,0,0,0,[],t.ah,0,0,t.Open⟩:ai)else if (t.Kind=7:Bool) then some (⟨t.Kind,[],0,0,t.Max,[],[],0,t.aF,false⟩:ai)else if (t.Kind=8:Bool) then some (⟨t.Kind,[],0,0,t.Max,[],[],t.Key,t.aF,false⟩:ai)else some (⟨t.Kind,[],0,0,0,[],[],0,t.aF,false⟩:ai)
theorem Wj:a6 afY mL:= .bj
def ys:aU×aU->Option Bool
 |(a,b)=>
 some (bif bif bif bif decide (a.ad=b.ad)then decide (a.Name=b.Name)else false then decide (a.aw=b.aw)else false then fy a.ch b.ch else false then fy a.bU b.bU else false)>>=λt37=>(if t37 then jH ((⟨a.bA.Kind,a.bA.bN,a.bA.bc,a.bA.bl,a.bA.ad,a.bA.ay,a.bA.aj,a.bA.Rest⟩:I),(⟨b.bA.Kind,b.bA.bN,b.bA.bc,b.bA.bl,b.bA.ad,b.bA.ay,b.bA.aj,b.bA.Rest⟩:I))else some false)>>=λr=>some (bif t37 then r else false)
theorem UT:a6 agc ys:= .bj (.k yp .n)
def pc:Int×ai×ai->Option ((Bool) ⊕ (ai×ai))
 |(i,a,b)=>
 if (i<(a.bh.length:Int):Bool) then if aG i a.bh.length then some (a.bh.getD i.toNat dK)>>=λc=>if aG i b.bh.length then some (b.bh.getD i.toNat dK)>>=λd=>if !(hK c.ad d.ad&&(i' c.Name d.Name&&true)) then some (.inl false)else pc (aM .i64 i 1,a,b)else none else none else some (.inr (a,b))
  partial_fixpoint
theorem UM:cL 153 0 [0] Qf pc:= .rx pc.partial_correctness
def pd:Int×ai×ai->Option ((Bool) ⊕ (Unit))
 |(a,d,e)=>
 if (a<(d.ah.length:Int):Bool) then if aG a d.ah.length then some (d.ah.getD a.toNat aC)>>=λb=>if aG a e.ah.length then some (e.ah.getD a.toNat aC)>>=λc=>ys ((⟨b.ad,b.Name,b.aw,b.ch,b.bU,I.eta b.bA⟩:aU),(⟨c.ad,c.Name,c.aw,c.ch,c.bU,I.eta c.bA⟩:aU))>>=λr=>if !r then some (.inl false)else pd (aM .i64 a 1,d,e)else none else none else some (.inr ())
  partial_fixpoint
theorem UN:cL 153 0 [1] Qg pd:= .rx pd.partial_correctness (.k UT .n)
def C4(g:ai×ai):Option Bool:=
 match g with
 |(a,b)=>
 if(bif bif bif bif bif bif bif bif bif (!(a.Kind=b.Kind:Bool))then true else(!(a.Name=b.Name:Bool))then true else(!(a.bE=b.bE:Bool))then true else(!(a.bH=b.bH:Bool))then true else(!(a.Max=b.Max:Bool))then true else(!(a.Key=b.Key:Bool))then true else(!(a.aF=b.aF:Bool))then true else(!(fy a.Open b.Open))then true else(!((a.bh.length:Int)=(b.bh.length:Int):Bool))then true else(!((a.ah.length:Int)=(b.ah.length:Int):Bool))) then some false else pc (0,(⟨a.Kind,a.Name,a.bE,a.bH,a.Max,a.bh,a.ah,a.Key,a.aF,a.Open⟩:ai),(⟨b.Kind,b.Name,b.bE,b.bH,b.Max,b.bh,b.ah,b.Key,b.aF,b.Open⟩:ai))>>=λo=>match o with
 |.inl d=>
 some d
 |.inr c=>
 pd (0,c.1,c.2)>>=λe=>match e with
 |.inl f=>
 some f
 |.inr i=>
 some true
theorem V1:a6 afX C4:= .bj .n (.k UM (.k UN .n))
def yj(b:Int):Option Bool:=
 some (bif bif bif decide (97<=b)then decide (b<=122)else false then true else bif decide (65<=b)then decide (b<=90)else false then true else decide (b=95))
theorem T7:a6 agd yj:= .bj
def CF(b:Int):Option Bool:=
 some (bif decide (48<=b)then decide (b<=57)else false)
theorem Wk:a6 age CF:= .bj
def po:ak×Int->Option ((Bool) ⊕ (Unit))
 |(a,i)=>
 if (i<(a.length:Int):Bool) then if aG i a.length then yj (fI a i)>>=λb=>some (!b)>>=λt27=>if(aG i a.length||(!t27)) then (if t27 then CF (fI a i)else some false)>>=λc=>if(bif t27 then(!c)else false) then some (.inl false)else po (a,aM .i64 i 1)else none else none else some (.inr ())
  partial_fixpoint
theorem VT:cL 155 0 [0] Qh po:= .rx po.partial_correctness (.k T7 (.k Wk .n))
def s4(s:ak):Option Bool:=
 some (bif decide (s=[])then true else decide (24<(s.length:Int)))>>=λt10=>if(aG 0 s.length||(!(!t10))) then (if !t10 then yj (fI s 0)else some false)>>=λr=>if(bif t10 then true else(!r)) then some false else po (s,0)>>=λo=>match o with
 |.inl a=>
 some a
 |.inr b=>
 some true else none
theorem Gz:a6 afZ s4:= .bj (.k T7 .n) (.k VT .n)
def y8:Int×Int->Option Bool
 |(a,n)=>
 some (bif bif decide (a<n)then decide (1<=n)else false then decide (n<=1000)else false)
theorem TN:a6 agf y8:= .bj
def n2:List c3×Int×Int->Option ((Bool) ⊕ (List c3×Int))
 |(a,b,k)=>
 if (k<b:Bool) then if aG k a.length then if aG b a.length then if ((a.getD k.toNat dK).Name=(a.getD b.toNat dK).Name:Bool) then some (.inl false)else n2 (a,b,aM .i64 k 1)else none else none else some (.inr (a,b))
  partial_fixpoint
theorem UE:cL 156 0 [0,0] Md n2:= .rx n2.partial_correctness
def pg(g:List c3×Int×Int):Option ((Bool) ⊕ (List c3)):=
 match g with
 |(a,c,i)=>
 if (i<(a.length:Int):Bool) then if aG i a.length then y8 (c,(a.getD i.toNat dK).ad)>>=λr=>some (!r)>>=λt19=>if(aG i a.length||(!(!t19))) then (if !t19 then s4 (a.getD i.toNat dK).Name else some false)>>=λf=>if(bif t19 then true else(!f)) then some (.inl false)else n2 (a,i,0)>>=λd=>match d with
 |.inl e=>
 some (.inl e)
 |.inr b=>
 if aG b.2 b.1.length then pg (b.1,(b.1.getD b.2.toNat dK).ad,aM .i64 b.2 1)else none else none else none else some (.inr a)
  partial_fixpoint
theorem UU:cL 156 0 [0] Qi pg:= .rx pg.partial_correctness (.k TN (.k Gz .n)) (.k UE .n)
def yO(l:List c3):Option Bool:=
 pg (l,0,0)>>=λo=>match o with
 |.inl b=>
 some b
 |.inr a=>
 some (bif decide (1<=(a.length:Int))then decide ((a.length:Int)<=16)else false)
theorem Vx:a6 af0 yO:= .bj .n (.k UU .n)
def n3:List aU×Bool×Int×Int×aU->Option ((Bool) ⊕ (List aU×Bool×Int×aU))
 |(b,d,c,k,a)=>
 if (k<c:Bool) then if aG k b.length then if ((b.getD k.toNat aC).Name=a.Name:Bool) then some (.inl false)else n3 (b,d,c,aM .i64 k 1,(⟨a.ad,a.Name,a.aw,a.ch,a.bU,I.eta a.bA⟩:aU))else none else some (.inr (b,d,c,(⟨a.ad,a.Name,a.aw,a.ch,a.bU,I.eta a.bA⟩:aU)))
  partial_fixpoint
theorem UF:cL 157 0 [0,0] Me n3:= .rx n3.partial_correctness
def ph(l:List aU×Bool×Int×Int):Option ((Bool) ⊕ (List aU×Bool)):=
 match l with
 |(b,d,e,i)=>
 if (i<(b.length:Int):Bool) then if aG i b.length then some (b.getD i.toNat aC)>>=λa=>y8 (e,a.ad)>>=λr=>some (!r)>>=λt23=>(if !t23 then s4 a.Name else some false)>>=λj=>if(bif bif bif t23 then true else(!j)then true else bif a.ch then a.bU else false then true else bif (!d)then bif a.ch then true else a.bU else false) then some (.inl false)else some (!a.bU)>>=λt52=>(if t52 then jH (I.eta a.bA,(⟨0,false,0,[],0,[],[],[]⟩:I))else some false)>>=λk=>if(bif t52 then(!k)else false) then some (.inl false)else n3 (b,d,i,0,(⟨a.ad,a.Name,a.aw,a.ch,a.bU,I.eta a.bA⟩:aU))>>=λf=>match f with
 |.inl g=>
 some (.inl g)
 |.inr c=>
 ph (c.1,c.2.1,c.2.2.2.ad,aM .i64 c.2.2.1 1)else none else some (.inr (b,d))
  partial_fixpoint
theorem UW:cL 157 0 [0] Qj ph:= .rx ph.partial_correctness (.k TN (.k Gz (.k yp .n))) (.k UF .n)
def vr(c:List aU×Bool):Option Bool:=
 match c with
 |(l,record)=>
 ph (l,record,0,0)>>=λo=>match o with
 |.inl b=>
 some b
 |.inr a=>
 some (bif decide ((a.1.length:Int)<=16)then bif a.2 then true else decide (1<=(a.1.length:Int))else false)
theorem Vy:a6 af1 vr:= .bj .n (.k UW .n)
def hF(t:ai):Option Bool:=
 some (bif decide (t.Kind<1)then true else decide (9<t.Kind))>>=λt10=>(if !t10 then mL t else some aK)>>=λr=>(if !t10 then C4 (t,r)else some false)>>=λc=>some (bif t10 then true else(!c))>>=λt17=>(if !t17 then j' t.Kind else some false)>>=λa=>(if((!t17)&&a) then s4 t.Name else some false)>>=λd=>if(bif t17 then true else bif a then(!d)else false) then some false else if (t.Kind=2:Bool) then some (decide (t.bE<=t.bH))else if (t.Kind=3:Bool) then some (bif decide (0<=t.Max)then decide (t.Max<=200)else false)else if (t.Kind=4:Bool) then yO t.bh>>=λe=>some e else some (decide (t.Kind=5))>>=λt54=>if t54 then if t54 then vr (t.ah,decide (t.Kind=5))>>=λf=>some f else some (decide (t.Kind=7))>>=λt63=>if t63 then if t63 then some (bif decide (0<=t.Max)then decide (t.Max<=50)else false)else some true else if (t.Kind=8:Bool) then some (bif decide (0<=t.Max)then decide (t.Max<=50)else false)else some true else if (t.Kind=6:Bool) then vr (t.ah,decide (t.Kind=5))>>=λg=>some g else some (decide (t.Kind=7))>>=λb=>if b then if b then some (bif decide (0<=t.Max)then decide (t.Max<=50)else false)else some true else if (t.Kind=8:Bool) then some (bif decide (0<=t.Max)then decide (t.Max<=50)else false)else some true
theorem Xa:a6 afA hF:= .bj (.k Wj (.k V1 (.k GA (.k Gz (.k Vx (.k Vy .n))))))
def rH:Int×ai×ar->Option (ai×ar)
 |(i,a,b)=>
 if (i<(a.ah.length:Int):Bool) then if aG i a.ah.length then some [(a.ah.getD i.toNat aC).aw]>>=λt19=>if room 8 (b++t19).length then rH (aM .i64 i 1,a,b++t19)else none else none else some (a,b)
  partial_fixpoint
theorem Vz:cL 114 0 [0] Qk rH:= .rx rH.partial_correctness
def CL(t:ai):Option ar:=
 rH (0,t,[])>>=λo=>if (o.1.Kind=8:Bool) then some [o.1.Key]>>=λt27=>if room 8 (o.2++t27).length then some (o.2++t27)>>=λl=>if(bif bif (o.1.Kind=7:Bool)then true else (o.1.Kind=8:Bool)then true else (o.1.Kind=9:Bool)) then some [o.1.aF]>>=λt45=>if room 8 (l++t45).length then some (l++t45)else none else some l else none else if(bif bif (o.1.Kind=7:Bool)then true else (o.1.Kind=8:Bool)then true else (o.1.Kind=9:Bool)) then some [o.1.aF]>>=λa=>if room 8 (o.2++a).length then some (o.2++a)else none else some o.2
theorem Xv:a6 afB CL:= .bj .n (.k Vz .n)
def n5:Int×Int×List ai×Int×ak×Int×Int×Int×List c3×List aU×Int×Int×Bool->Option ((Int) ⊕ (Int×List ai×Int×ak×Int×Int×Int×List c3×List aU×Int×Int×Bool))
 |(d,k,a,b,c,e,f,g,i,j,l,m,n)=>
 if (k<d:Bool) then j' b>>=λo=>if(aG k a.length||(!o)) then if(bif o then ((a.getD k.toNat aK).Name=c:Bool)else false) then some (.inl 1)else n5 (d,aM .i64 k 1,a,b,c,e,f,g,i,j,l,m,n)else none else some (.inr (d,a,b,c,e,f,g,i,j,l,m,n))
  partial_fixpoint
theorem UX:cL 79 0 [0,0] OT n5:= .rx n5.partial_correctness (.k GA .n)
def rz:Int×ar×Int×List ai×Int×ak×Int×Int×Int×List c3×List aU×Int×Int×Bool->Option ((Int) ⊕ (Int×List ai×Int×ak×Int×Int×Int×List c3×List aU×Int×Int×Bool))
 |(o,l,a,b,c,d,e,f,g,i,j,k,m,n)=>
 if (a<(l.length:Int):Bool) then if aG a l.length then some (decide (l.getD a.toNat 0<0))>>=λt58=>if(aG a l.length||(!(!t58))) then if(bif t58 then true else ((b.length:Int)<=l.getD a.toNat 0:Bool)) then some (.inl 4)else rz (o,l,aM .i64 a 1,b,c,d,e,f,g,i,j,k,m,n)else none else none else some (.inr (o,b,c,d,e,f,g,i,j,k,m,n))
  partial_fixpoint
theorem UY:cL 79 0 [1,0] Od rz:= .rx rz.partial_correctness
def pt(m:Int×List ai):Option ((Int) ⊕ (Unit)):=
 match m with
 |(i,b)=>
 if (i<(b.length:Int):Bool) then if aG i b.length then some (b.getD i.toNat aK)>>=λc=>hF c>>=λr=>if !r then some (.inl 1)else n5 (i,0,b,c.Kind,c.Name,c.bE,c.bH,c.Max,c.bh,c.ah,c.Key,c.aF,c.Open)>>=λe=>match e with
 |.inl f=>
 some (.inl f)
 |.inr a=>
 CL (⟨a.2.2.1,a.2.2.2.1,a.2.2.2.2.1,a.2.2.2.2.2.1,a.2.2.2.2.2.2.1,a.2.2.2.2.2.2.2.1,a.2.2.2.2.2.2.2.2.1,a.2.2.2.2.2.2.2.2.2.1,a.2.2.2.2.2.2.2.2.2.2.1,a.2.2.2.2.2.2.2.2.2.2.2⟩:ai)>>=λk=>rz (a.1,k,0,a.2.1,a.2.2.1,a.2.2.2.1,a.2.2.2.2.1,a.2.2.2.2.2.1,a.2.2.2.2.2.2.1,a.2.2.2.2.2.2.2.1,a.2.2.2.2.2.2.2.2.1,a.2.2.2.2.2.2.2.2.2.1,a.2.2.2.2.2.2.2.2.2.2.1,a.2.2.2.2.2.2.2.2.2.2.2)>>=λg=>match g with
 |.inl j=>
 some (.inl j)
 |.inr d=>
 some (decide (d.2.2.1=8))>>=λt71=>if(aG d.2.2.2.2.2.2.2.2.2.1 d.2.1.length||(!t71)) then (if t71 then yv (d.2.1.getD d.2.2.2.2.2.2.2.2.2.1.toNat aK).Kind else some false)>>=λl=>if(bif t71 then(!l)else false) then some (.inl 1)else pt (aM .i64 d.1 1,d.2.1)else none else none else some (.inr ())
  partial_fixpoint
theorem V2:cL 79 0 [0] Sk pt:= .rx pt.partial_correctness (.k Xa (.k Xv (.k TA .n))) (.k UX (.k UY .n))
def vz(s:aT):Option Int:=
 if (32<(s.Types.length:Int):Bool) then some 3 else pt (0,s.Types)>>=λo=>match o with
 |.inl a=>
 some a
 |.inr b=>
 some 0
theorem Ua:a6 agN vz:= .bj .n (.k V2 .n)
def jJ:aT×Int->Option Int
 |(s,t)=>
 vz s>>=λr=>if !(r=0:Bool) then some r else if(bif (t<0:Bool)then true else ((s.Types.length:Int)<=t:Bool)) then some 4 else some 0
theorem C8:a6 agK jJ:= .bj (.k Ua .n)
def CG:cD×cD->Option Int
 |(w,r)=>
 jJ (w.cW,w.aw)>>=λa=>if !(a=0:Bool) then some a else jJ (r.cW,r.aw)>>=λb=>some b
theorem Wl:a6 agC CG:= .bj (.k C8 .n)
def hf:ar×Int->Option cV
 |(path,a)=>
 if room 8 ([]++path).length then some (⟨(⟨0,false,0,[],0,[],[],[]⟩:I),(⟨[]++path,a⟩:iQ),false⟩:cV)else none
theorem pv:a6 agT hf:= .bj
def pj:ak×Int×Int->Option Int
 |(a,b,i)=>
 if (i<(a.length:Int):Bool) then if aG i a.length then pj (a,aM .u64 (gz .u64 b 256) (bT .u64 (fI a i)),aM .i64 i 1)else none else some b
  partial_fixpoint
theorem Uw:cL 158 0 [0] Ql pj:= .rx pj.partial_correctness
def C9(s:ak):Option (Int×Int):=
 some (decide (0<(s.length:Int)))>>=λt8=>if(aG 0 s.length||(!t8)) then if(bif t8 then (fI s 0=0:Bool)else false) then some (0,2)else if (8<(s.length:Int):Bool) then some (0,7)else pj (s,0,0)>>=λo=>some (o,0)else none
theorem VA:a6 af2 C9:= .bj .n (.k Uw .n)
def yk(p:ak):Option (Int×Bool):=
 C9 p>>=λr=>some (r.1,decide (r.2=0))
theorem Vq:a6 afD yk:= .bj (.k VA .n)
def C5(n:Int):Option Int:=
 if (b7 n 2=0:Bool) then some (bT .i64 (fC .u64 n 2))else some (c9 .i64 (c9 .i64 0 (bT .i64 (fC .u64 n 2))) 1)
theorem V3:a6 afE C5:= .bj
def lS:ar×Int->Option ar
 |(path,step)=>
 if room 8 ([]++path).length then some ([]++path)>>=λl=>some [step]>>=λt9=>if room 8 (l++t9).length then some (l++t9)else none else none
theorem tW:a6 afF lS:= .bj
def s5:ak×Int×Int×Int->Option ((Int×Int×Int) ⊕ (Unit))
 |(a,n,b,i)=>
 if (i<10:Bool) then if (i=(a.length:Int):Bool) then some (.inl (0,0,10))else if aG i a.length then some (bT .u64 (fI a i))>>=λt20=>if(bif (i=9:Bool)then (1<t20:Bool)else false) then some (.inl (0,0,7))else some (aM .u64 n (gz .u64 (b7 t20 128) b))>>=λt32=>if (t20<128:Bool) then if(bif (t20=0:Bool)then (0<i:Bool)else false) then some (.inl (0,0,2))else some (.inl (t32,aM .i64 i 1,0))else s5 (a,t32,gz .u64 b 128,aM .i64 i 1)else none else some (.inr ())
  partial_fixpoint
theorem Ww:cL 199 0 [0] Qm s5:= .rx s5.partial_correctness
def wi(s:ak):Option (Int×Int×Int):=
 s5 (s,0,1,0)>>=λo=>match o with
 |.inl a=>
 some (a.1,a.2.1,a.2.2)
 |.inr b=>
 some (0,0,7)
theorem GJ:a6 agh wi:= .bj .n (.k Ww .n)
def yZ(a:ak):Option (Int×ak×Int):=
 wi a>>=λr=>if(bif bif (!(r.2.2=0:Bool))then true else (r.1<1:Bool)then true else (1000<r.1:Bool)) then some (0,[],12)else if dN r.2.1 (a.length:Int) a.length then some (bT .i64 r.1,dZ a r.2.1 (a.length:Int),0)else none
theorem Xb:a6 af3 yZ:= .bj (.k GJ .n)
def nL(v:I):Option cV:=
 some (⟨I.eta v,(⟨[],0⟩:iQ),true⟩:cV)
theorem ze:a6 afG nL:= .bj
def y0(s:ak):Option (ak×ak×Bool):=
 wi s>>=λr=>if(bif (!(r.2.2=0:Bool))then true else (bT .u64 (c9 .i64 (s.length:Int) r.2.1)<r.1:Bool)) then some ([],[],false)else some (aM .i64 r.2.1 (bT .i64 r.1))>>=λt30=>if dN r.2.1 t30 s.length then some (aM .i64 r.2.1 (bT .i64 r.1))>>=λt36=>if dN t36 (s.length:Int) s.length then some (dZ s r.2.1 t30,dZ s t36 (s.length:Int),true)else none else none
theorem Uo:a6 agj y0:= .bj (.k GJ .n)
def sU:ak×List ak->Option ((Int) ⊕ (List ak))
 |(b,a)=>
 if !(b=[]:Bool) then y0 b>>=λr=>if !r.2.2 then some (.inl 12)else some [r.1]>>=λt20=>if room 16 (a++t20).length then sU (r.2.1,a++t20)else none else some (.inr a)
  partial_fixpoint
theorem V4:cL 160 0 [0] Qn sU:= .rx sU.partial_correctness (.k Uo .n)
def vA(c:ak):Option (List ak×Int):=
 sU (c,[])>>=λo=>match o with
 |.inl a=>
 some ([],a)
 |.inr b=>
 some (b,0)
theorem Ub:a6 af5 vA:= .bj .n (.k V4 .n)
def rn:Int×ar×List ak×Int×List ai×ai×Int×Bool×Int×ak×Int×Int×Bool×Int×Bool×Int×ak×Int×List I->Option ((cV) ⊕ (Int×ar×List ak×List ai×ai×Int×Bool×Int×ak×Int×Int×Bool×Int×Bool×Int×ak×Int×List I))
 |(u,c,t,b,e,f,g,i,j,k,l,m,n,o,p,q,r,s,a)=>
 if (b<(a.length:Int):Bool) then some (c9 .i64 b 1)>>=λt87=>if aG t87 a.length then if (t87.toNat<a.length:Bool) then if aG b a.length then if (b.toNat<a.length:Bool) then oe (I.eta (a.getD t87.toNat av),I.eta (a.getD b.toNat av))>>=λv=>if (0<=v:Bool) then hf (c,1)>>=λd=>some (.inl (⟨I.eta d.Value,d.dQ,d.ck⟩:cV))else rn (u,c,t,aM .i64 b 1,e,f,g,i,j,k,l,m,n,o,p,q,r,s,a)else none else none else none else none else some (.inr (u,c,t,e,f,g,i,j,k,l,m,n,o,p,q,r,s,a))
  partial_fixpoint
theorem Vh:cL 121 0 [1] Qo rn:= .rx rn.partial_correctness (.k Cp (.k pv .n))
def rC:ak×Int×List cT->Option ((Int) ⊕ (List cT))
 |(a,d,b)=>
 if !(a=[]:Bool) then wi a>>=λr=>if(bif bif (!(r.2.2=0:Bool))then true else (2001<r.1:Bool)then true else (bT .i64 (fC .u64 r.1 2)<=d:Bool)) then some (.inl 12)else if dN r.2.1 (a.length:Int) a.length then y0 (dZ a r.2.1 (a.length:Int))>>=λc=>if !c.2.2 then some (.inl 12)else some (bT .i64 (fC .u64 r.1 2))>>=λt45=>some [(⟨t45,decide (b7 r.1 2=1),c.1⟩:cT)]>>=λt54=>if room 32 (b++t54).length then rC (c.2.1,t45,b++t54)else none else none else some (.inr b)
  partial_fixpoint
theorem VU:cL 161 0 [0] Qp rC:= .rx rC.partial_correctness (.k GJ (.k Uo .n))
def zf(c:ak):Option (List cT×Int):=
 rC (c,0,[])>>=λo=>match o with
 |.inl a=>
 some ([],a)
 |.inr b=>
 some (b,0)
theorem Wx:a6 af6 zf:= .bj .n (.k VU .n)
def pw:List cT×Int×Int->Option ((Int) ⊕ (Unit))
 |(a,b,i)=>
 if (i<(a.length:Int):Bool) then if aG i a.length then if ((a.getD i.toNat gk).ad=b:Bool) then some (.inl i)else pw (a,b,aM .i64 i 1)else none else some (.inr ())
  partial_fixpoint
theorem V5:cL 162 0 [0] Qq pw:= .rx pw.partial_correctness
def zn(b:List cT×Int):Option Int:=
 match b with
 |(l,id)=>
 pw (l,id,0)>>=λo=>match o with
 |.inl a=>
 some a
 |.inr c=>
 some (-1)
theorem Wm:a6 af7 zn:= .bj .n (.k V5 .n)
def pq:ar×List cT×Int×ai×Int×Bool×Int×ak×Int×Int×Bool×Int×Bool×Int×ak×Int×List I×List bW->Option ((cV) ⊕ (Int×Bool×Int×ak×Int×Int×Bool×Int×Bool×Int×ak×Int×List I×List bW))
 |(s,a,k,c,d,e,f,g,i,j,l,m,n,o,p,q,r,b)=>
 if (k<(a.length:Int):Bool) then if aG k a.length then hC (c,(a.getD k.toNat gk).ad)>>=λu=>if u.2 then pq (s,a,aM .i64 k 1,c,d,e,f,g,i,j,l,m,n,o,p,q,r,b)else if aG k a.length then if(a.getD k.toNat gk).ch then if aG k a.length then lS (s,(a.getD k.toNat gk).ad)>>=λv=>hf (v,6)>>=λt=>some (.inl (⟨I.eta t.Value,t.dQ,t.ck⟩:cV))else none else if aG k a.length then if aG k a.length then some [(⟨(a.getD k.toNat gk).ad,(a.getD k.toNat gk).Data⟩:bW)]>>=λt135=>if room 24 (b++t135).length then pq (s,a,aM .i64 k 1,c,d,e,f,g,i,j,l,m,n,o,p,q,r,b++t135)else none else none else none else none else none else some (.inr (d,e,f,g,i,j,l,m,n,o,p,q,r,b))
  partial_fixpoint
theorem VV:cL 122 0 [1] Qr pq:= .rx pq.partial_correctness (.k mH (.k tW (.k pv .n)))
mutual
def jI:aT×Int×ak×Int×ar->Option cV
 |(s,t,p,w,path)=>
 if aG t s.Types.length then some (s.Types.getD t.toNat aK)>>=λc=>if (200<w:Bool) then hf (path,8)>>=λr=>some (⟨I.eta r.Value,r.dQ,r.ck⟩:cV)else
 let i1:=λlc=>
 let i0:=λkw=>
 let ip:=λks=>
 let io:=λkk=>
 let ii:=λjp=>
 if (c.Kind=6:Bool) then CH (s,c,p,w,path)>>=λb1=>some (⟨I.eta b1.Value,b1.dQ,b1.ck⟩:cV)else if (c.Kind=7:Bool) then CM (s,c,p,w,path)>>=λb2=>some (⟨I.eta b2.Value,b2.dQ,b2.ck⟩:cV)else if (c.Kind=8:Bool) then Co (s,c,p,w,path)>>=λb3=>some (⟨I.eta b3.Value,b3.dQ,b3.ck⟩:cV)else if (c.Kind=5:Bool) then Dd (s,c,p,w,path)>>=λb4=>some (⟨I.eta b4.Value,b4.dQ,b4.ck⟩:cV)else nL (⟨c.Kind,lc,kw,ks,kk,[],jp,[]⟩:I)>>=λce=>some (⟨I.eta ce.Value,ce.dQ,ce.ck⟩:cV)
 if(bif (c.Kind=9:Bool)then(!(p=[]:Bool))else false) then if aG 0 p.length then if !(fI p 0=1:Bool) then hf (path,1)>>=λb0=>some (⟨I.eta b0.Value,b0.dQ,b0.ck⟩:cV)else if dN 1 (p.length:Int) p.length then lS (path,0)>>=λi9=>jI (s,c.aF,dZ p 1 (p.length:Int),aM .i64 w 1,i9)>>=λN=>if !N.ck then some (⟨I.eta N.Value,N.dQ,N.ck⟩:cV)else ii [I.eta N.Value]else none else none else ii []
 if (c.Kind=4:Bool) then yk p>>=λS=>if(bif bif (!S.2)then true else (S.1<1:Bool)then true else (1000<S.1:Bool)) then hf (path,1)>>=λbP=>some (⟨I.eta bP.Value,bP.dQ,bP.ck⟩:cV)else some (bT .i64 S.1)>>=λi6=>s3 (c,i6)>>=λi8=>if(bif (!i8.2)then(!c.Open)else false) then hf (path,4)>>=λbZ=>some (⟨I.eta bZ.Value,bZ.dQ,bZ.ck⟩:cV)else io i6 else io 0
 if (c.Kind=3:Bool) then if (c.Max<(p.length:Int):Bool) then hf (path,3)>>=λbD=>some (⟨I.eta bD.Value,bD.dQ,bD.ck⟩:cV)else ip p else ip []
 if (c.Kind=2:Bool) then yk p>>=λi5=>if !i5.2 then hf (path,1)>>=λbq=>some (⟨I.eta bq.Value,bq.dQ,bq.ck⟩:cV)else C5 i5.1>>=λbs=>if(bif (bs<c.bE:Bool)then true else (c.bH<bs:Bool)) then hf (path,2)>>=λbv=>some (⟨I.eta bv.Value,bv.dQ,bv.ck⟩:cV)else i0 bs else i0 0
 if (c.Kind=1:Bool) then if(bif (!(p=[]:Bool))then(!(p=[1]:Bool))else false) then hf (path,1)>>=λbe=>some (⟨I.eta be.Value,be.dQ,be.ck⟩:cV)else some (!(decide (p=[])))>>=λt44=>i1 t44 else i1 false else none
  partial_fixpoint
def Co(f:aT×ai×ak×Int×ar):Option cV:=
 match f with
 |(s,c,p,w,path)=>
 vA p>>=λr=>if(bif (!(r.2=0:Bool))then true else (b7 (r.1.length:Int) 2=1:Bool)) then hf (path,1)>>=λA=>some (⟨I.eta A.Value,A.dQ,A.ck⟩:cV)else if (c.Max<fC .i64 (r.1.length:Int) 2:Bool) then hf (path,3)>>=λq=>some (⟨I.eta q.Value,q.dQ,q.ck⟩:cV)else tc (w,path,r.1,0,s.Types,c,0,false,0,[],0,0,false,c.Kind,false,0,[],0,[])>>=λo=>match o with
 |.inl x=>
 some (⟨I.eta x.Value,x.dQ,x.ck⟩:cV)
 |.inr a=>
 rn (a.1,a.2.1,a.2.2.1,1,a.2.2.2.1,a.2.2.2.2.1,a.2.2.2.2.2.1,a.2.2.2.2.2.2.1,a.2.2.2.2.2.2.2.1,a.2.2.2.2.2.2.2.2.1,a.2.2.2.2.2.2.2.2.2.1,a.2.2.2.2.2.2.2.2.2.2.1,a.2.2.2.2.2.2.2.2.2.2.2.1,a.2.2.2.2.2.2.2.2.2.2.2.2.1,a.2.2.2.2.2.2.2.2.2.2.2.2.2.1,a.2.2.2.2.2.2.2.2.2.2.2.2.2.2.1,a.2.2.2.2.2.2.2.2.2.2.2.2.2.2.2.1,a.2.2.2.2.2.2.2.2.2.2.2.2.2.2.2.2.1,a.2.2.2.2.2.2.2.2.2.2.2.2.2.2.2.2.2)>>=λa5=>match a5 with
 |.inl D=>
 some (⟨I.eta D.Value,D.dQ,D.ck⟩:cV)
 |.inr e=>
 sM (e.1,e.2.1,e.2.2.1,0,e.2.2.2.1,e.2.2.2.2.1,e.2.2.2.2.2.1,e.2.2.2.2.2.2.1,e.2.2.2.2.2.2.2.1,e.2.2.2.2.2.2.2.2.1,e.2.2.2.2.2.2.2.2.2.1,e.2.2.2.2.2.2.2.2.2.2.1,e.2.2.2.2.2.2.2.2.2.2.2.1,e.2.2.2.2.2.2.2.2.2.2.2.2.1,e.2.2.2.2.2.2.2.2.2.2.2.2.2.1,e.2.2.2.2.2.2.2.2.2.2.2.2.2.2.1,e.2.2.2.2.2.2.2.2.2.2.2.2.2.2.2.1,e.2.2.2.2.2.2.2.2.2.2.2.2.2.2.2.2.1,e.2.2.2.2.2.2.2.2.2.2.2.2.2.2.2.2.2,[])>>=λi7=>match i7 with
 |.inl a9=>
 some (⟨I.eta a9.Value,a9.dQ,a9.ck⟩:cV)
 |.inr E=>
 nL (⟨E.2.2.2.2.2.2.2.1,E.2.2.2.2.2.2.2.2.1,E.2.2.2.2.2.2.2.2.2.1,E.2.2.2.2.2.2.2.2.2.2.1,E.2.2.2.2.2.2.2.2.2.2.2.1,E.2.2.2.2.2.2.2.2.2.2.2.2.1,E.2.2.2.2.2.2.2.2.2.2.2.2.2,[]⟩:I)>>=λj=>some (⟨I.eta j.Value,j.dQ,j.ck⟩:cV)
  partial_fixpoint
def CM(f:aT×ai×ak×Int×ar):Option cV:=
 match f with
 |(s,c,p,w,path)=>
 vA p>>=λr=>if !(r.2=0:Bool) then hf (path,1)>>=λA=>some (⟨I.eta A.Value,A.dQ,A.ck⟩:cV)else if (c.Max<(r.1.length:Int):Bool) then hf (path,3)>>=λq=>some (⟨I.eta q.Value,q.dQ,q.ck⟩:cV)else sY (w,path,r.1,0,s.Types,c,0,false,0,[],0,0,false,c.Kind,false,0,[],0,[])>>=λo=>match o with
 |.inl x=>
 some (⟨I.eta x.Value,x.dQ,x.ck⟩:cV)
 |.inr a=>
 nL (⟨a.2.2.2.2.2.2.2.1,a.2.2.2.2.2.2.2.2.1,a.2.2.2.2.2.2.2.2.2.1,a.2.2.2.2.2.2.2.2.2.2.1,a.2.2.2.2.2.2.2.2.2.2.2.1,[],a.2.2.2.2.2.2.2.2.2.2.2.2,[]⟩:I)>>=λj=>some (⟨I.eta j.Value,j.dQ,j.ck⟩:cV)
  partial_fixpoint
def Dd(f:aT×ai×ak×Int×ar):Option cV:=
 match f with
 |(s,c,p,w,path)=>
 zf p>>=λr=>if !(r.2=0:Bool) then hf (path,1)>>=λA=>some (⟨I.eta A.Value,A.dQ,A.ck⟩:cV)else mG (w,path,r.1,0,s.Types,c,0,false,0,[],0,0,false,c.Kind,false,0,[],0,[])>>=λo=>match o with
 |.inl x=>
 some (⟨I.eta x.Value,x.dQ,x.ck⟩:cV)
 |.inr a=>
 pq (a.1,a.2.1,0,a.2.2.1,a.2.2.2.1,a.2.2.2.2.1,a.2.2.2.2.2.1,a.2.2.2.2.2.2.1,a.2.2.2.2.2.2.2.1,a.2.2.2.2.2.2.2.2.1,a.2.2.2.2.2.2.2.2.2.1,a.2.2.2.2.2.2.2.2.2.2.1,a.2.2.2.2.2.2.2.2.2.2.2.1,a.2.2.2.2.2.2.2.2.2.2.2.2.1,a.2.2.2.2.2.2.2.2.2.2.2.2.2.1,a.2.2.2.2.2.2.2.2.2.2.2.2.2.2.1,a.2.2.2.2.2.2.2.2.2.2.2.2.2.2.2,[])>>=λa5=>match a5 with
 |.inl D=>
 some (⟨I.eta D.Value,D.dQ,D.ck⟩:cV)
 |.inr e=>
 nL (⟨e.2.2.2.2.2.2.2.1,e.2.2.2.2.2.2.2.2.1,e.2.2.2.2.2.2.2.2.2.1,e.2.2.2.2.2.2.2.2.2.2.1,e.2.2.2.2.2.2.2.2.2.2.2.1,[],e.2.2.2.2.2.2.2.2.2.2.2.2.1,e.2.2.2.2.2.2.2.2.2.2.2.2.2⟩:I)>>=λq=>some (⟨I.eta q.Value,q.dQ,q.ck⟩:cV)
  partial_fixpoint
def CH:aT×ai×ak×Int×ar->Option cV
 |(s,c,p,w,path)=>
 yZ p>>=λr=>if !(r.2.2=0:Bool) then hf (path,1)>>=λq=>some (⟨I.eta q.Value,q.dQ,q.ck⟩:cV)else hC (c,r.1)>>=λj=>if(bif (!j.2)then(!c.Open)else false) then hf (path,5)>>=λP=>some (⟨I.eta P.Value,P.dQ,P.ck⟩:cV)else if !j.2 then nL (⟨c.Kind,false,0,[],r.1,[],[],[(⟨r.1,r.2.1⟩:bW)]⟩:I)>>=λB=>some (⟨I.eta B.Value,B.dQ,B.ck⟩:cV)else if aG j.1 c.ah.length then lS (path,r.1)>>=λbf=>jI (s,(c.ah.getD j.1.toNat aC).aw,r.2.1,aM .i64 w 1,bf)>>=λy=>if !y.ck then some (⟨I.eta y.Value,y.dQ,y.ck⟩:cV)else nL (⟨c.Kind,false,0,[],r.1,[],[I.eta y.Value],[]⟩:I)>>=λbi=>some (⟨I.eta bi.Value,bi.dQ,bi.ck⟩:cV)else none
  partial_fixpoint
def tc:Int×ar×List ak×Int×List ai×ai×Int×Bool×Int×ak×Int×Int×Bool×Int×Bool×Int×ak×Int×List I->Option ((cV) ⊕ (Int×ar×List ak×List ai×ai×Int×Bool×Int×ak×Int×Int×Bool×Int×Bool×Int×ak×Int×List I))
 |(a4,bb,L,i,a0,a1,fs,gc,gd,ge,gl,gs,gt,g0,g1,g2,g3,g4,a2)=>
 if (gz .i64 2 i<(L.length:Int):Bool) then some (gz .i64 2 i)>>=λt57=>if aG t57 L.length then lS (bb,i)>>=λO=>jI ((⟨a0⟩:aT),a1.Key,L.getD t57.toNat [],aM .i64 a4 1,O)>>=λv=>if !v.ck then some (.inl (⟨I.eta v.Value,v.dQ,v.ck⟩:cV))else some [I.eta v.Value]>>=λt74=>if room 120 (a2++t74).length then tc (a4,bb,L,aM .i64 i 1,a0,a1,fs,gc,gd,ge,gl,gs,gt,g0,g1,g2,g3,g4,a2++t74)else none else none else some (.inr (a4,bb,L,a0,a1,fs,gc,gd,ge,gl,gs,gt,g0,g1,g2,g3,g4,a2))
  partial_fixpoint
def sM:Int×ar×List ak×Int×List ai×ai×Int×Bool×Int×ak×Int×Int×Bool×Int×Bool×Int×ak×Int×List I×List I->Option ((cV) ⊕ (Int×Bool×Int×ak×Int×Int×Bool×Int×Bool×Int×ak×Int×List I×List I))
 |(i2,i4,R,Q,g5,g6,g7,g8,g9,he,hk,hm,hs,ht,hu,hw,hH,h0,h1,a3)=>
 if (gz .i64 2 Q<(R.length:Int):Bool) then some (aM .i64 (gz .i64 2 Q) 1)>>=λt112=>if aG t112 R.length then lS (i4,Q)>>=λbf=>jI ((⟨g5⟩:aT),g6.aF,R.getD t112.toNat [],aM .i64 i2 1,bf)>>=λy=>if !y.ck then some (.inl (⟨I.eta y.Value,y.dQ,y.ck⟩:cV))else some [I.eta y.Value]>>=λt129=>if room 120 (a3++t129).length then sM (i2,i4,R,aM .i64 Q 1,g5,g6,g7,g8,g9,he,hk,hm,hs,ht,hu,hw,hH,h0,h1,a3++t129)else none else none else some (.inr (g7,g8,g9,he,hk,hm,hs,ht,hu,hw,hH,h0,h1,a3))
  partial_fixpoint
def sY:Int×ar×List ak×Int×List ai×ai×Int×Bool×Int×ak×Int×Int×Bool×Int×Bool×Int×ak×Int×List I->Option ((cV) ⊕ (Int×Bool×Int×ak×Int×Int×Bool×Int×Bool×Int×ak×Int×List I))
 |(H,i3,l,i,ci,cs,cE,cN,cX,db,dn,dt,eq,es,ex,fd,ff,fo,U)=>
 if (i<(l.length:Int):Bool) then if aG i l.length then lS (i3,i)>>=λO=>jI ((⟨ci⟩:aT),cs.aF,l.getD i.toNat [],aM .i64 H 1,O)>>=λv=>if !v.ck then some (.inl (⟨I.eta v.Value,v.dQ,v.ck⟩:cV))else some [I.eta v.Value]>>=λt62=>if room 120 (U++t62).length then sY (H,i3,l,aM .i64 i 1,ci,cs,cE,cN,cX,db,dn,dt,eq,es,ex,fd,ff,fo,U++t62)else none else none else some (.inr (cE,cN,cX,db,dn,dt,eq,es,ex,fd,ff,fo,U))
  partial_fixpoint
def mG:Int×ar×List cT×Int×List ai×ai×Int×Bool×Int×ak×Int×Int×Bool×Int×Bool×Int×ak×Int×List I->Option ((cV) ⊕ (ar×List cT×ai×Int×Bool×Int×ak×Int×Int×Bool×Int×Bool×Int×ak×Int×List I))
 |(H,M,G,i,W,F,X,Y,Z,af,ag,am,an,ap,ax,aB,aD,aJ,K)=>
 if (i<(F.ah.length:Int):Bool) then if aG i F.ah.length then some (F.ah.getD i.toNat aC)>>=λJ=>zn (G,J.ad)>>=λj=>if (j<0:Bool) then if !J.bU then lS (M,J.ad)>>=λO=>hf (O,7)>>=λv=>some (.inl (⟨I.eta v.Value,v.dQ,v.ck⟩:cV))else some [I.eta J.bA]>>=λt63=>if room 120 (K++t63).length then mG (H,M,G,aM .i64 i 1,W,F,X,Y,Z,af,ag,am,an,ap,ax,aB,aD,aJ,K++t63)else none else if aG j G.length then lS (M,J.ad)>>=λP=>jI ((⟨W⟩:aT),J.aw,(G.getD j.toNat gk).Data,aM .i64 H 1,P)>>=λB=>if !B.ck then some (.inl (⟨I.eta B.Value,B.dQ,B.ck⟩:cV))else some [I.eta B.Value]>>=λt89=>if room 120 (K++t89).length then mG (H,M,G,aM .i64 i 1,W,F,X,Y,Z,af,ag,am,an,ap,ax,aB,aD,aJ,K++t89)else none else none else none else some (.inr (M,G,F,X,Y,Z,af,ag,am,an,ap,ax,aB,aD,aJ,K))
  partial_fixpoint
end
theorem VW:ee o8 jI/\ee Fp Dd/\eC 122 0 [0] AB mG/\ee Fo Co/\eC 121 0 [2] AA sM/\eC 121 0 [0] Az tc/\ee Fm CM/\eC 120 0 [0] Ay sY/\ee Fl CH:=jI.mutual_partial_correctness (ec o8) (ec Fp) (eB 122 0 [0] AB) (ec Fo) (eB 121 0 [2] AA) (eB 121 0 [0] Az) (ec Fm) (eB 120 0 [0] Ay) (ec Fl)
 (λ_ _ _ _ _ h0 h1 d e f _ _ h=>ei h (.k pv (.k Vq (.k V3 (.k C2 (.k tW (.k (cd o8 h0) (.k (cd Fl f) (.k (cd Fm e) (.k (cd Fo d) (.k (cd Fp h1) (.k ze .n))))))))))))
 (λ_ a _ _ h=>ei h (.k Wx (.k pv (.k ze .n))) (.k (eM AB a) (.k VV .n)))
 (λ_ _ h0 a _ _ h=>eL AB a h (.k Wm (.k tW (.k pv (.k (cd o8 h0) .n)))))
 (λ_ _ b bf _ _ h=>ei h (.k Ub (.k pv (.k ze .n))) (.k (eM Az bf) (.k Vh (.k (eM AA b) .n))))
 (λ_ _ h0 b _ _ h=>eL AA b h (.k tW (.k (cd o8 h0) .n)))
 (λ_ _ h0 bf _ _ h=>eL Az bf h (.k tW (.k (cd o8 h0) .n)))
 (λ_ c _ _ h=>ei h (.k Ub (.k pv (.k ze .n))) (.k (eM Ay c) .n))
 (λ_ _ h0 c _ _ h=>eL Ay c h (.k tW (.k (cd o8 h0) .n)))
 (λ_ h0 _ _ h=>ei h (.k Xb (.k pv (.k mH (.k ze (.k tW (.k (cd o8 h0) .n)))))))
theorem VB:a6 o8 jI:=cd _ VW.1
def GM:aT×Int×ak->Option (cV×Int)
 |(s,t,m)=>
 jJ (s,t)>>=λr=>if !(r=0:Bool) then some ((⟨(⟨0,false,0,[],0,[],[],[]⟩:I),(⟨[],0⟩:iQ),false⟩:cV),r)else if (4096<(m.length:Int):Bool) then hf ([],3)>>=λa=>some ((⟨I.eta a.Value,a.dQ,a.ck⟩:cV),0)else jI (s,t,m,1,[])>>=λb=>some ((⟨I.eta b.Value,b.dQ,b.ck⟩:cV),0)
theorem Xw:a6 agt GM:= .bj (.k C8 (.k pv (.k VB .n)))
def s6:aT×Int×ak->Option (I×Int)
 |(s,t,m)=>
 GM (s,t,m)>>=λr=>if(bif (r.2=0:Bool)then(!r.1.ck)else false) then some (I.eta r.1.Value,12)else some (I.eta r.1.Value,r.2)
theorem Wy:a6 af' s6:= .bj (.k Xw .n)
def tX(v:I):Option Bool:=
 some (bif bif bif bif bif bif bif decide (v.Kind=1)then true else(!v.bN)then bif decide (v.Kind=2)then true else decide (v.bc=0)else false then bif decide (v.Kind=3)then true else decide (v.bl=[])else false then bif bif decide (v.Kind=4)then true else decide (v.Kind=6)then true else decide (v.ad=0)else false then bif decide (v.Kind=8)then true else decide ((v.ay.length:Int)=0)else false then bif decide (5<=v.Kind)then true else decide ((v.aj.length:Int)=0)else false then bif bif decide (v.Kind=5)then true else decide (v.Kind=6)then true else decide ((v.Rest.length:Int)=0)else false)
theorem Xx:a6 afH tX:= .bj
def jl:Int×Bool->Option Bool
 |(n,a)=>
 some (bif bif (!a)then decide (1<=n)else false then decide (n<=1000)else false)
theorem TO:a6 afI jl:= .bj
def j9:List bW×Int×ai->Option ((Bool) ⊕ (Unit))
 |(a,i,b)=>
 if (i<(a.length:Int):Bool) then if aG i a.length then hC (b,(a.getD i.toNat bV).ad)>>=λr=>if aG i a.length then jl ((a.getD i.toNat bV).ad,r.2)>>=λc=>some (!c)>>=λt31=>some (decide (0<i))>>=λt34=>if(aG i a.length||(!((!t31)&&t34))) then some (c9 .i64 i 1)>>=λt43=>if(aG t43 a.length||(!((!t31)&&t34))) then if(bif t31 then true else bif t34 then ((a.getD i.toNat bV).ad<=(a.getD t43.toNat bV).ad:Bool)else false) then some (.inl false)else j9 (a,aM .i64 i 1,b)else none else none else none else none else some (.inr ())
  partial_fixpoint
theorem VC:cL 126 0 [0] Qs j9:= .rx j9.partial_correctness (.k mH (.k TO .n))
def qY(b:ai×List bW):Option Bool:=
 match b with
 |(t,l)=>
 j9 (l,0,t)>>=λo=>match o with
 |.inl a=>
 some a
 |.inr c=>
 some true
theorem Xy:a6 afJ qY:= .bj .n (.k VC .n)
def hX:Int×I->Option ((Bool) ⊕ (Unit))
 |(b,a)=>
 if (b<(a.ay.length:Int):Bool) then some (c9 .i64 b 1)>>=λt270=>if aG t270 a.ay.length then if aG b a.ay.length then oe (I.eta (a.ay.getD t270.toNat av),I.eta (a.ay.getD b.toNat av))>>=λc=>if (0<=c:Bool) then some (.inl false)else hX (aM .i64 b 1,I.eta a)else none else none else some (.inr ())
  partial_fixpoint
theorem Wz:cL 91 0 [1] Sn hX:= .rx hX.partial_correctness (.k Cp .n)
mutual
def nQ(c:aT×Int×List I×Bool):Option Bool:=
 match c with
 |(s,t,l,plain)=>
 kE (t,l,plain,0,s.Types)>>=λo=>match o with
 |.inl w=>
 some w
 |.inr L=>
 some true
  partial_fixpoint
def iC(c:aT×Int×I×Bool):Option Bool:=
 match c with
 |(s,t,v,plain)=>
 if(bif (t<0:Bool)then true else ((s.Types.length:Int)<=t:Bool)) then some false else if aG t s.Types.length then some (s.Types.getD t.toNat aK)>>=λa=>some (!(decide (v.Kind=a.Kind)))>>=λt34=>(if !t34 then tX (I.eta v)else some false)>>=λr=>if(bif bif t34 then true else(!r)then true else bif plain then (0<(v.Rest.length:Int):Bool)else false) then some false else if (a.Kind=1:Bool) then some true else if (a.Kind=2:Bool) then some (bif decide (a.bE<=v.bc)then decide (v.bc<=a.bH)else false)else if (a.Kind=3:Bool) then some (decide ((v.bl.length:Int)<=a.Max))else if (a.Kind=4:Bool) then s3 (a,v.ad)>>=λx=>some (bif a.Open then(!plain)else false)>>=λt91=>(if((!x.2)&&t91) then jl (v.ad,x.2)else some false)>>=λW=>some (bif x.2 then true else bif t91 then W else false)else if (a.Kind=5:Bool) then some (!(decide ((v.aj.length:Int)=(a.ah.length:Int))))>>=λt107=>(if !t107 then qY (a,v.Rest)else some false)>>=λX=>if(bif t107 then true else(!X)) then some false else iX (plain,0,s.Types,I.eta v,a.Kind,a.Name,a.bE,a.bH,a.Max,a.bh,a.ah,a.Key,a.aF,a.Open)>>=λo=>match o with
 |.inl w=>
 some w
 |.inr L=>
 some true else if (a.Kind=6:Bool) then hC (a,v.ad)>>=λp=>if p.2 then some (bif decide ((v.aj.length:Int)=1)then decide ((v.Rest.length:Int)=0)else false)>>=λt156=>if(aG p.1 a.ah.length||(!t156)) then if(aG 0 v.aj.length||(!t156)) then (if t156 then iC (s,(a.ah.getD p.1.toNat aC).aw,I.eta (v.aj.getD (0:Int).toNat av),plain)else some false)>>=λY=>some (bif t156 then Y else false)else none else none else some (bif a.Open then(!plain)else false)>>=λt177=>(if t177 then jl (v.ad,p.2)else some false)>>=λO=>some (bif bif bif t177 then O else false then decide ((v.aj.length:Int)=0)else false then decide ((v.Rest.length:Int)=1)else false)>>=λt195=>if(aG 0 v.Rest.length||(!t195)) then some (bif t195 then decide ((v.Rest.getD (0:Int).toNat bV).ad=v.ad)else false)else none else if (a.Kind=7:Bool) then some (decide ((v.aj.length:Int)<=a.Max))>>=λt213=>(if t213 then nQ (s,a.aF,v.aj,plain)else some false)>>=λP=>some (bif t213 then P else false)else if (a.Kind=8:Bool) then some (bif decide (a.Max<(v.ay.length:Int))then true else(!(decide ((v.aj.length:Int)=(v.ay.length:Int)))))>>=λt239=>(if !t239 then nQ (s,a.Key,v.ay,plain)else some false)>>=λQ=>some (bif t239 then true else(!Q))>>=λt249=>(if !t249 then nQ (s,a.aF,v.aj,plain)else some false)>>=λR=>if(bif t249 then true else(!R)) then some false else hX (1,I.eta v)>>=λM=>match M with
 |.inl N=>
 some N
 |.inr Z=>
 some true else some (decide ((v.aj.length:Int)<=1))>>=λt283=>(if t283 then nQ (s,a.aF,v.aj,plain)else some false)>>=λS=>some (bif t283 then S else false)else none
  partial_fixpoint
def kE:Int×List I×Bool×Int×List ai->Option ((Bool) ⊕ (Unit))
 |(y,j,e,i,b)=>
 if (i<(j.length:Int):Bool) then if aG i j.length then iC ((⟨b⟩:aT),y,I.eta (j.getD i.toNat av),e)>>=λr=>if !r then some (.inl false)else kE (y,j,e,aM .i64 i 1,b)else none else some (.inr ())
  partial_fixpoint
def iX:Bool×Int×List ai×I×Int×ak×Int×Int×Int×List c3×List aU×Int×Int×Bool->Option ((Bool) ⊕ (Unit))
 |(e,i,b,f,D,E,F,G,H,J,q,K,A,B)=>
 if (i<(f.aj.length:Int):Bool) then if aG i q.length then if aG i f.aj.length then iC ((⟨b⟩:aT),(q.getD i.toNat aC).aw,I.eta (f.aj.getD i.toNat av),e)>>=λU=>if !U then some (.inl false)else iX (e,aM .i64 i 1,b,I.eta f,D,E,F,G,H,J,q,K,A,B)else none else none else some (.inr ())
  partial_fixpoint
end
theorem Wn:ee Fq nQ/\eC 127 0 [0] AD kE/\ee u9 iC/\eC 91 0 [0] x3 iX:=nQ.mutual_partial_correctness (ec Fq) (eB 127 0 [0] AD) (ec u9) (eB 91 0 [0] x3)
 (λ_ h1 _ _ h=>ei h .n (.k (eM AD h1) .n))
 (λ_ _ h1 a _ _ h=>eL AD h1 h (.k (cd u9 a) .n))
 (λ_ _ _ h0 a b _ _ h=>ei h (.k Xx (.k C2 (.k TO (.k Xy (.k mH (.k (cd u9 a) (.k (cd Fq h0) .n))))))) (.k (eM x3 b) (.k Wz .n)))
 (λ_ _ a b _ _ h=>eL x3 b h (.k (cd u9 a) .n))
theorem Up:a6 u9 iC:=cd _ Wn.2.2.1
def GN:aT×Int×I->Option Bool
 |(s,t,v)=>
 iC (s,t,I.eta v,false)>>=λr=>some r
theorem Xz:a6 agO GN:= .bj (.k Up .n)
def tS:aT×Int×I->Option Int
 |(s,t,v)=>
 vz s>>=λr=>if !(r=0:Bool) then some r else if(bif (t<0:Bool)then true else ((s.Types.length:Int)<=t:Bool)) then some 4 else GN (s,t,I.eta v)>>=λa=>if !a then some 1 else some 0
theorem Uc:a6 agr tS:= .bj (.k Ua (.k Xz .n))
def CD(v:I):Option (Int×Bool×Int×ak×Int×List I×List I×List bW):=
 if room 120 ([]++v.ay).length then if room 120 ([]++v.aj).length then if room 24 ([]++v.Rest).length then some (v.Kind,v.bN,v.bc,v.bl,v.ad,[]++v.ay,[]++v.aj,[]++v.Rest)else none else none else none
theorem WA:a6 agV CD:= .bj
mutual
def px(v:I):Option I:=
 CD (I.eta v)>>=λr=>if (r.1=5:Bool) then rv (0,r.1,r.2.1,r.2.2.1,r.2.2.2.1,r.2.2.2.2.1,[],0,false,0,[],0,r.2.2.2.2.2.1,r.2.2.2.2.2.2.1)>>=λo=>some (⟨o.1,o.2.1,o.2.2.1,o.2.2.2.1,o.2.2.2.2.1,o.2.2.2.2.2.2.2.2.2.2.2.1,o.2.2.2.2.2.2.2.2.2.2.2.2,o.2.2.2.2.2.1⟩:I)else rv (0,r.1,r.2.1,r.2.2.1,r.2.2.2.1,r.2.2.2.2.1,r.2.2.2.2.2.2.2,0,false,0,[],0,r.2.2.2.2.2.1,r.2.2.2.2.2.2.1)>>=λc=>some (⟨c.1,c.2.1,c.2.2.1,c.2.2.2.1,c.2.2.2.2.1,c.2.2.2.2.2.2.2.2.2.2.2.1,c.2.2.2.2.2.2.2.2.2.2.2.2,c.2.2.2.2.2.1⟩:I)
  partial_fixpoint
def rv:Int×Int×Bool×Int×ak×Int×List bW×Int×Bool×Int×ak×Int×List I×List I->Option (Int×Bool×Int×ak×Int×List bW×Int×Bool×Int×ak×Int×List I×List I)
 |(i,e,f,j,p,q,t,w,x,y,A,B,D,a)=>
 if (i<(a.length:Int):Bool) then if aG i a.length then if (i.toNat<a.length:Bool) then px (I.eta (a.getD i.toNat av))>>=λE=>if aG i a.length then if (i.toNat<a.length:Bool) then rv (aM .i64 i 1,e,f,j,p,q,t,w,x,y,A,B,D,a.set i.toNat (I.eta E))else none else none else none else none else some (e,f,j,p,q,t,w,x,y,A,B,D,a)
  partial_fixpoint
end
theorem Ux:ee BJ px/\eC 56 0 [0] xW rv:=px.mutual_partial_correctness (ec BJ) (eB 56 0 [0] xW)
 (λ_ h1 _ _ h=>ei h (.k WA .n) (.k (eM xW h1) .n))
 (λ_ _ h0 h1 _ _ h=>eL xW h1 h (.k (cd BJ h0) .n))
theorem V6:a6 BJ px:=cd _ Ux.1
def vB:aT×Int×I->Option Bool
 |(s,t,v)=>
 iC (s,t,I.eta v,true)>>=λr=>some r
theorem Ud:a6 agA vB:= .bj (.k Up .n)
def vC:aT×Int×I->Option (I×Int)
 |(s,t,v)=>
 tS (s,t,I.eta v)>>=λr=>if !(r=0:Bool) then some ((⟨0,false,0,[],0,[],[],[]⟩:I),r)else px (I.eta v)>>=λa=>vB (s,t,I.eta a)>>=λb=>if !b then some ((⟨0,false,0,[],0,[],[],[]⟩:I),12)else some (I.eta a,0)
theorem Wo:a6 agi vC:= .bj (.k Uc (.k V6 (.k Ud .n)))
def CI:aT×Int×I×aT×Int->Option Int
 |(w,wt,v,r,rt)=>
 jJ (w,wt)>>=λa=>if !(a=0:Bool) then some a else jJ (r,rt)>>=λb=>if !(b=0:Bool) then some b else vB (w,wt,I.eta v)>>=λc=>if !c then some 1 else some 0
theorem Wp:a6 ags CI:= .bj (.k C8 (.k Ud .n))
def kD(path:ar):Option dJ:=
 if room 8 ([]++path).length then some (⟨(⟨0,false,0,[],0,[],[],[]⟩:I),[]++path,false⟩:dJ)else none
theorem Cr:a6 agP kD:= .bj
def nM(v:I):Option dJ:=
 some (⟨I.eta v,[],true⟩:dJ)
theorem GD:a6 agS nM:= .bj
def q6:ar×Int->Option ar
 |(path,step)=>
 if room 8 ([]++path).length then some ([]++path)>>=λl=>some [step]>>=λt9=>if room 8 (l++t9).length then some (l++t9)else none else none
theorem yU:a6 agR q6:= .bj
def CJ:I×I->Option Bool
 |(a,b)=>
 jH (I.eta a,I.eta b)>>=λr=>some r
theorem Wq:a6 aga CJ:= .bj (.k yp .n)
def vo:aU×I->Option Bool
 |(m,v)=>
 (if m.bU then CJ (I.eta m.bA,I.eta v)else some false)>>=λr=>some (bif m.bU then r else false)
theorem Ty:a6 afC vo:= .bj (.k Wq .n)
def ob:ar×Int×List ai×ai×I×ai×Int×Bool×Int×ak×Int×Bool×Int×Bool×Int×ak×Int×List I×List bW->Option ((dJ) ⊕ (Int×Bool×Int×ak×Int×Bool×Int×Bool×Int×ak×Int×List I×List bW))
 |(u,i,e,c,b,f,g,j,k,l,m,n,o,p,q,r,s,t,d)=>
 if (i<(c.ah.length:Int):Bool) then if aG i c.ah.length then some (c.ah.getD i.toNat aC)>>=λa=>hC (f,a.ad)>>=λw=>if w.2 then ob (u,aM .i64 i 1,e,c,I.eta b,f,g,j,k,l,m,n,o,p,q,r,s,t,d)else if a.ch then q6 (u,a.ad)>>=λx=>kD x>>=λv=>some (.inl (⟨I.eta v.Value,v.Path,v.ck⟩:dJ))else if aG i b.aj.length then vo ((⟨a.ad,a.Name,a.aw,a.ch,a.bU,I.eta a.bA⟩:aU),I.eta (b.aj.getD i.toNat av))>>=λy=>if !y then if aG i b.aj.length then iV ((⟨e⟩:aT),a.aw,I.eta (b.aj.getD i.toNat av))>>=λz=>some [(⟨a.ad,z⟩:bW)]>>=λt170=>if room 24 (d++t170).length then ob (u,aM .i64 i 1,e,c,I.eta b,f,g,j,k,l,m,n,o,p,q,r,s,t,d++t170)else none else none else ob (u,aM .i64 i 1,e,c,I.eta b,f,g,j,k,l,m,n,o,p,q,r,s,t,d)else none else none else some (.inr (g,j,k,l,m,n,o,p,q,r,s,t,d))
  partial_fixpoint
theorem VX:cL 84 0 [1] Sm ob:= .rx ob.partial_correctness (.k mH (.k yU (.k Cr (.k Ty (.k Cq .n)))))
mutual
def mM(x:aT×Int×I×aT×Int×ar):Option dJ:=
 match x with
 |(w,wt,v,r,rt,path)=>
 if aG wt w.Types.length then some (w.Types.getD wt.toNat aK)>>=λc=>if aG rt r.Types.length then some (r.Types.getD rt.toNat aK)>>=λe=>if !(c.Kind=e.Kind:Bool) then kD path>>=λt=>some (⟨I.eta t.Value,t.Path,t.ck⟩:dJ)else if(bif (c.Kind=2:Bool)then bif (v.bc<e.bE:Bool)then true else (e.bH<v.bc:Bool)else false) then kD path>>=λM=>some (⟨I.eta M.Value,M.Path,M.ck⟩:dJ)else if(bif (c.Kind=3:Bool)then (e.Max<(v.bl.length:Int):Bool)else false) then kD path>>=λq=>some (⟨I.eta q.Value,q.Path,q.ck⟩:dJ)else if (c.Kind=4:Bool) then s3 (e,v.ad)>>=λO=>if(bif (!O.2)then(!e.Open)else false) then kD path>>=λp=>some (⟨I.eta p.Value,p.Path,p.ck⟩:dJ)else if(bif bif (c.Kind=7:Bool)then true else (c.Kind=8:Bool)then (e.Max<(v.aj.length:Int):Bool)else false) then kD path>>=λG=>some (⟨I.eta G.Value,G.Path,G.ck⟩:dJ)else if (c.Kind=6:Bool) then zo (w,c,I.eta v,r,e,path)>>=λD=>some (⟨I.eta D.Value,D.Path,D.ck⟩:dJ)else if (c.Kind=5:Bool) then zg (w,c,I.eta v,r,e,path)>>=λA=>some (⟨I.eta A.Value,A.Path,A.ck⟩:dJ)else og (path,0,w.Types,I.eta v,r.Types,0,false,0,[],0,false,c,e,v.Kind,v.bN,v.bc,v.bl,v.ad,v.Rest,[])>>=λo=>match o with
 |.inl J=>
 some (⟨I.eta J.Value,J.Path,J.ck⟩:dJ)
 |.inr a=>
 nE (a.1,0,a.2.1,I.eta a.2.2.1,a.2.2.2.1,a.2.2.2.2.1,a.2.2.2.2.2.1,a.2.2.2.2.2.2.1,a.2.2.2.2.2.2.2.1,a.2.2.2.2.2.2.2.2.1,a.2.2.2.2.2.2.2.2.2.1,a.2.2.2.2.2.2.2.2.2.2.1,a.2.2.2.2.2.2.2.2.2.2.2.1,a.2.2.2.2.2.2.2.2.2.2.2.2.1,a.2.2.2.2.2.2.2.2.2.2.2.2.2.1,a.2.2.2.2.2.2.2.2.2.2.2.2.2.2.1,a.2.2.2.2.2.2.2.2.2.2.2.2.2.2.2.1,a.2.2.2.2.2.2.2.2.2.2.2.2.2.2.2.2.1,a.2.2.2.2.2.2.2.2.2.2.2.2.2.2.2.2.2.1,a.2.2.2.2.2.2.2.2.2.2.2.2.2.2.2.2.2.2,[])>>=λbi=>match bi with
 |.inl K=>
 some (⟨I.eta K.Value,K.Path,K.ck⟩:dJ)
 |.inr j=>
 nM (⟨j.2.2.2.2.2.2.1,j.2.2.2.2.2.2.2.1,j.2.2.2.2.2.2.2.2.1,j.2.2.2.2.2.2.2.2.2.1,j.2.2.2.2.2.2.2.2.2.2.1,j.2.2.2.2.2.2.2.2.2.2.2.2.1,j.2.2.2.2.2.2.2.2.2.2.2.2.2,j.2.2.2.2.2.2.2.2.2.2.2.1⟩:I)>>=λB=>some (⟨I.eta B.Value,B.Path,B.ck⟩:dJ)else if(bif bif (c.Kind=7:Bool)then true else (c.Kind=8:Bool)then (e.Max<(v.aj.length:Int):Bool)else false) then kD path>>=λL=>some (⟨I.eta L.Value,L.Path,L.ck⟩:dJ)else if (c.Kind=6:Bool) then zo (w,c,I.eta v,r,e,path)>>=λbv=>some (⟨I.eta bv.Value,bv.Path,bv.ck⟩:dJ)else if (c.Kind=5:Bool) then zg (w,c,I.eta v,r,e,path)>>=λbD=>some (⟨I.eta bD.Value,bD.Path,bD.ck⟩:dJ)else og (path,0,w.Types,I.eta v,r.Types,0,false,0,[],0,false,c,e,v.Kind,v.bN,v.bc,v.bl,v.ad,v.Rest,[])>>=λg3=>match g3 with
 |.inl bq=>
 some (⟨I.eta bq.Value,bq.Path,bq.ck⟩:dJ)
 |.inr f=>
 nE (f.1,0,f.2.1,I.eta f.2.2.1,f.2.2.2.1,f.2.2.2.2.1,f.2.2.2.2.2.1,f.2.2.2.2.2.2.1,f.2.2.2.2.2.2.2.1,f.2.2.2.2.2.2.2.2.1,f.2.2.2.2.2.2.2.2.2.1,f.2.2.2.2.2.2.2.2.2.2.1,f.2.2.2.2.2.2.2.2.2.2.2.1,f.2.2.2.2.2.2.2.2.2.2.2.2.1,f.2.2.2.2.2.2.2.2.2.2.2.2.2.1,f.2.2.2.2.2.2.2.2.2.2.2.2.2.2.1,f.2.2.2.2.2.2.2.2.2.2.2.2.2.2.2.1,f.2.2.2.2.2.2.2.2.2.2.2.2.2.2.2.2.1,f.2.2.2.2.2.2.2.2.2.2.2.2.2.2.2.2.2.1,f.2.2.2.2.2.2.2.2.2.2.2.2.2.2.2.2.2.2,[])>>=λg4=>match g4 with
 |.inl bf=>
 some (⟨I.eta bf.Value,bf.Path,bf.ck⟩:dJ)
 |.inr F=>
 nM (⟨F.2.2.2.2.2.2.1,F.2.2.2.2.2.2.2.1,F.2.2.2.2.2.2.2.2.1,F.2.2.2.2.2.2.2.2.2.1,F.2.2.2.2.2.2.2.2.2.2.1,F.2.2.2.2.2.2.2.2.2.2.2.2.1,F.2.2.2.2.2.2.2.2.2.2.2.2.2,F.2.2.2.2.2.2.2.2.2.2.2.1⟩:I)>>=λbP=>some (⟨I.eta bP.Value,bP.Path,bP.ck⟩:dJ)else none else none
  partial_fixpoint
def zg(x:aT×ai×I×aT×ai×ar):Option dJ:=
 match x with
 |(w,c,v,r,y,path)=>
 pr (path,0,w.Types,c,I.eta v,r.Types,y,0,false,0,[],0,false,v.Kind,false,0,[],0,[])>>=λo=>match o with
 |.inl J=>
 some (⟨I.eta J.Value,J.Path,J.ck⟩:dJ)
 |.inr a=>
 ob (a.1,0,a.2.1,a.2.2.1,I.eta a.2.2.2.1,a.2.2.2.2.1,a.2.2.2.2.2.1,a.2.2.2.2.2.2.1,a.2.2.2.2.2.2.2.1,a.2.2.2.2.2.2.2.2.1,a.2.2.2.2.2.2.2.2.2.1,a.2.2.2.2.2.2.2.2.2.2.1,a.2.2.2.2.2.2.2.2.2.2.2.1,a.2.2.2.2.2.2.2.2.2.2.2.2.1,a.2.2.2.2.2.2.2.2.2.2.2.2.2.1,a.2.2.2.2.2.2.2.2.2.2.2.2.2.2.1,a.2.2.2.2.2.2.2.2.2.2.2.2.2.2.2.1,a.2.2.2.2.2.2.2.2.2.2.2.2.2.2.2.2,[])>>=λbi=>match bi with
 |.inl K=>
 some (⟨I.eta K.Value,K.Path,K.ck⟩:dJ)
 |.inr j=>
 nM (⟨j.2.2.2.2.2.2.1,j.2.2.2.2.2.2.2.1,j.2.2.2.2.2.2.2.2.1,j.2.2.2.2.2.2.2.2.2.1,j.2.2.2.2.2.2.2.2.2.2.1,[],j.2.2.2.2.2.2.2.2.2.2.2.1,j.2.2.2.2.2.2.2.2.2.2.2.2⟩:I)>>=λt=>some (⟨I.eta t.Value,t.Path,t.ck⟩:dJ)
  partial_fixpoint
def zo:aT×ai×I×aT×ai×ar->Option dJ
 |(w,c,v,r,y,path)=>
 hC (c,v.ad)>>=λt=>hC (y,v.ad)>>=λO=>if(bif (!O.2)then(!y.Open)else false) then kD path>>=λp=>some (⟨I.eta p.Value,p.Path,p.ck⟩:dJ)else if !O.2 then if aG t.1 c.ah.length then if aG 0 v.aj.length then iV (w,(c.ah.getD t.1.toNat aC).aw,I.eta (v.aj.getD (0:Int).toNat av))>>=λG=>nM (⟨v.Kind,false,0,[],v.ad,[],[],[(⟨v.ad,G⟩:bW)]⟩:I)>>=λD=>some (⟨I.eta D.Value,D.Path,D.ck⟩:dJ)else none else none else if aG t.1 c.ah.length then if aG 0 v.aj.length then if aG O.1 y.ah.length then q6 (path,v.ad)>>=λA=>mM (w,(c.ah.getD t.1.toNat aC).aw,I.eta (v.aj.getD (0:Int).toNat av),r,(y.ah.getD O.1.toNat aC).aw,A)>>=λB=>if !B.ck then some (⟨I.eta B.Value,B.Path,B.ck⟩:dJ)else nM (⟨v.Kind,false,0,[],v.ad,[],[I.eta B.Value],[]⟩:I)>>=λL=>some (⟨I.eta L.Value,L.Path,L.ck⟩:dJ)else none else none else none
  partial_fixpoint
def og:ar×Int×List ai×I×List ai×Int×Bool×Int×ak×Int×Bool×ai×ai×Int×Bool×Int×ak×Int×List bW×List I->Option ((dJ) ⊕ (ar×List ai×I×List ai×Int×Bool×Int×ak×Int×Bool×ai×ai×Int×Bool×Int×ak×Int×List bW×List I))
 |(bs,i,a4,R,a5,b4,ce,ci,cs,cE,cN,a9,bb,cX,db,dn,dt,eq,es,be)=>
 if (i<(R.ay.length:Int):Bool) then if aG i R.ay.length then q6 (bs,i)>>=λg5=>mM ((⟨a4⟩:aT),a9.Key,I.eta (R.ay.getD i.toNat av),(⟨a5⟩:aT),bb.Key,g5)>>=λU=>if !U.ck then some (.inl (⟨I.eta U.Value,U.Path,U.ck⟩:dJ))else some [I.eta U.Value]>>=λt161=>if room 120 (be++t161).length then og (bs,aM .i64 i 1,a4,I.eta R,a5,b4,ce,ci,cs,cE,cN,a9,bb,cX,db,dn,dt,eq,es,be++t161)else none else none else some (.inr (bs,a4,I.eta R,a5,b4,ce,ci,cs,cE,cN,a9,bb,cX,db,dn,dt,eq,es,be))
  partial_fixpoint
def nE:ar×Int×List ai×I×List ai×Int×Bool×Int×ak×Int×Bool×ai×ai×Int×Bool×Int×ak×Int×List bW×List I×List I->Option ((dJ) ⊕ (Int×Bool×Int×ak×Int×Bool×Int×Bool×Int×ak×Int×List bW×List I×List I))
 |(g2,S,ex,Y,fd,ff,fo,fs,gc,gd,ge,gl,gs,gt,g0,g1,b0,b1,b2,b3,af)=>
 if (S<(Y.aj.length:Int):Bool) then if aG S Y.aj.length then q6 (g2,S)>>=λg6=>mM ((⟨ex⟩:aT),gl.aF,I.eta (Y.aj.getD S.toNat av),(⟨fd⟩:aT),gs.aF,g6)>>=λW=>if !W.ck then some (.inl (⟨I.eta W.Value,W.Path,W.ck⟩:dJ))else some [I.eta W.Value]>>=λt194=>if room 120 (af++t194).length then nE (g2,aM .i64 S 1,ex,I.eta Y,fd,ff,fo,fs,gc,gd,ge,gl,gs,gt,g0,g1,b0,b1,b2,b3,af++t194)else none else none else some (.inr (ff,fo,fs,gc,gd,ge,gt,g0,g1,b0,b1,b2,b3,af))
  partial_fixpoint
def pr:ar×Int×List ai×ai×I×List ai×ai×Int×Bool×Int×ak×Int×Bool×Int×Bool×Int×ak×Int×List I->Option ((dJ) ⊕ (ar×List ai×ai×I×ai×Int×Bool×Int×ak×Int×Bool×Int×Bool×Int×ak×Int×List I))
 |(Z,k,X,E,H,ag,N,am,an,ap,ax,aB,aD,aJ,a0,a1,a2,a3,Q)=>
 if (k<(N.ah.length:Int):Bool) then if aG k N.ah.length then some (N.ah.getD k.toNat aC)>>=λe=>q6 (Z,e.ad)>>=λM=>hC (E,e.ad)>>=λq=>if(bif (!q.2)then(!e.bU)else false) then kD M>>=λbZ=>some (.inl (⟨I.eta bZ.Value,bZ.Path,bZ.ck⟩:dJ))else if !q.2 then some [I.eta e.bA]>>=λt65=>if room 120 (Q++t65).length then pr (Z,aM .i64 k 1,X,E,I.eta H,ag,N,am,an,ap,ax,aB,aD,aJ,a0,a1,a2,a3,Q++t65)else none else if aG q.1 E.ah.length then if aG q.1 H.aj.length then mM ((⟨X⟩:aT),(E.ah.getD q.1.toNat aC).aw,I.eta (H.aj.getD q.1.toNat av),(⟨ag⟩:aT),e.aw,M)>>=λp=>if aG q.1 E.ah.length then some (E.ah.getD q.1.toNat aC)>>=λP=>if aG q.1 H.aj.length then vo ((⟨P.ad,P.Name,P.aw,P.ch,P.bU,I.eta P.bA⟩:aU),I.eta (H.aj.getD q.1.toNat av))>>=λG=>some (!p.ck)>>=λt99=>(if(G&&(!t99)) then vo ((⟨e.ad,e.Name,e.aw,e.ch,e.bU,I.eta e.bA⟩:aU),I.eta p.Value)else some false)>>=λD=>if(bif G then bif t99 then true else(!D)else false) then kD M>>=λA=>some (.inl (⟨I.eta A.Value,A.Path,A.ck⟩:dJ))else if !p.ck then some (.inl (⟨I.eta p.Value,p.Path,p.ck⟩:dJ))else some [I.eta p.Value]>>=λt118=>if room 120 (Q++t118).length then pr (Z,aM .i64 k 1,X,E,I.eta H,ag,N,am,an,ap,ax,aB,aD,aJ,a0,a1,a2,a3,Q++t118)else none else none else none else none else none else none else some (.inr (Z,X,E,I.eta H,N,am,an,ap,ax,aB,aD,aJ,a0,a1,a2,a3,Q))
  partial_fixpoint
end
theorem WB:ee sK mM/\eC 47 0 [1] xV nE/\eC 47 0 [0] xU og/\ee Fy zg/\eC 84 0 [0] x1 pr/\ee Fx zo:=mM.mutual_partial_correctness (ec sK) (eB 47 0 [1] xV) (eB 47 0 [0] xU) (ec Fy) (eB 84 0 [0] x1) (ec Fx)
 (λ_ _ _ _ h1 a c bf _ _ h=>ei h (.k Cr (.k C2 (.k (cd Fx bf) (.k (cd Fy c) (.k GD .n))))) (.k (eM xU a) (.k (eM xV h1) .n)))
 (λ_ _ h0 h1 _ _ h=>eL xV h1 h (.k yU (.k (cd sK h0) .n)))
 (λ_ _ h0 a _ _ h=>eL xU a h (.k yU (.k (cd sK h0) .n)))
 (λ_ b _ _ h=>ei h (.k GD .n) (.k (eM x1 b) (.k VX .n)))
 (λ_ _ h0 b _ _ h=>eL x1 b h (.k yU (.k mH (.k Cr (.k (cd sK h0) (.k Ty .n))))))
 (λ_ h0 _ _ h=>ei h (.k mH (.k Cr (.k Cq (.k GD (.k yU (.k (cd sK h0) .n)))))))
theorem XA:a6 sK mM:=cd _ WB.1
def ye:aT×Int×I×aT×Int->Option (I×Int)
 |(w,wt,v,r,rt)=>
 CI (w,wt,I.eta v,r,rt)>>=λa=>if !(a=0:Bool) then some ((⟨0,false,0,[],0,[],[],[]⟩:I),a)else mM (w,wt,I.eta v,r,rt,[])>>=λb=>if !b.ck then some ((⟨0,false,0,[],0,[],[],[]⟩:I),12)else some (I.eta b.Value,0)
theorem VD:a6 af4 ye:= .bj (.k Wp (.k XA .n))
mutual
def mJ:aT×Int×I->Option Int
 |(s,t,v)=>
 if aG t s.Types.length then hW (0,0,s.Types,I.eta v,s.Types.getD t.toNat aK)>>=λo=>if (0<(o.2.ay.length:Int):Bool) then some (aM .i64 1 (iq o.1 1))else some (aM .i64 1 o.1)else none
  partial_fixpoint
def hW:Int×Int×List ai×I×ai->Option (Int×I)
 |(f,i,e,a,c)=>
 if (i<(a.aj.length:Int):Bool) then if (c.Kind=5:Bool) then if aG i c.ah.length then some (c.ah.getD i.toNat aC)>>=λj=>if(aG i a.aj.length||(!j.bU)) then (if j.bU then jH (I.eta (a.aj.getD i.toNat av),I.eta j.bA)else some false)>>=λr=>if(bif j.bU then r else false) then hW (f,aM .i64 i 1,e,I.eta a,c)else if (c.Kind=6:Bool) then hC (c,a.ad)>>=λq=>if aG q.1 c.ah.length then if aG i a.aj.length then mJ ((⟨e⟩:aT),(c.ah.getD q.1.toNat aC).aw,I.eta (a.aj.getD i.toNat av))>>=λy=>hW (iq f y,aM .i64 i 1,e,I.eta a,c)else none else none else if aG i a.aj.length then mJ ((⟨e⟩:aT),j.aw,I.eta (a.aj.getD i.toNat av))>>=λA=>hW (iq f A,aM .i64 i 1,e,I.eta a,c)else none else none else none else if (c.Kind=6:Bool) then hC (c,a.ad)>>=λw=>if aG w.1 c.ah.length then if aG i a.aj.length then mJ ((⟨e⟩:aT),(c.ah.getD w.1.toNat aC).aw,I.eta (a.aj.getD i.toNat av))>>=λB=>hW (iq f B,aM .i64 i 1,e,I.eta a,c)else none else none else if aG i a.aj.length then mJ ((⟨e⟩:aT),c.aF,I.eta (a.aj.getD i.toNat av))>>=λx=>hW (iq f x,aM .i64 i 1,e,I.eta a,c)else none else some (f,I.eta a)
  partial_fixpoint
end
theorem V7:ee BH mJ/\eC 45 0 [0] xT hW:=mJ.mutual_partial_correctness (ec BH) (eB 45 0 [0] xT)
 (λ_ h1 _ _ h=>ei h .n (.k (eM xT h1) .n))
 (λ_ _ h0 h1 _ _ h=>eL xT h1 h (.k yp (.k mH (.k (cd BH h0) .n))))
theorem WC:a6 BH mJ:=cd _ V7.1
def rK:aT×Int×I->Option (ak×Int)
 |(s,t,v)=>
 tS (s,t,I.eta v)>>=λr=>if !(r=0:Bool) then some ([],r)else iV (s,t,I.eta v)>>=λa=>some (decide (4096<(a.length:Int)))>>=λt23=>(if !t23 then mJ (s,t,I.eta v)else some 0)>>=λb=>if(bif t23 then true else (200<b:Bool)) then some ([],3)else some (a,0)
theorem WD:a6 afT rK:= .bj (.k Uc (.k Cq (.k WC .n)))
def nF:cD×cD×ak->Option (kF×Int)
 |(w,r,m)=>
 CG (w,r)>>=λf=>if !(f=0:Bool) then some ((⟨(⟨0,false,0,[],0,[],[],[]⟩:I),(⟨0,false,0,[],0,[],[],[]⟩:I),[]⟩:kF),f)else s6 (w.cW,w.aw,m)>>=λa=>if !(a.2=0:Bool) then some ((⟨(⟨0,false,0,[],0,[],[],[]⟩:I),(⟨0,false,0,[],0,[],[],[]⟩:I),[]⟩:kF),a.2)else vC (w.cW,w.aw,I.eta a.1)>>=λe=>if !(e.2=0:Bool) then some ((⟨(⟨0,false,0,[],0,[],[],[]⟩:I),(⟨0,false,0,[],0,[],[],[]⟩:I),[]⟩:kF),e.2)else ye (w.cW,w.aw,I.eta e.1,r.cW,r.aw)>>=λg=>if !(g.2=0:Bool) then some ((⟨(⟨0,false,0,[],0,[],[],[]⟩:I),(⟨0,false,0,[],0,[],[],[]⟩:I),[]⟩:kF),g.2)else rK (w.cW,w.aw,I.eta a.1)>>=λc=>if !(c.2=0:Bool) then some ((⟨(⟨0,false,0,[],0,[],[],[]⟩:I),(⟨0,false,0,[],0,[],[],[]⟩:I),[]⟩:kF),c.2)else s6 (r.cW,r.aw,c.1)>>=λb=>if !(b.2=0:Bool) then some ((⟨(⟨0,false,0,[],0,[],[],[]⟩:I),(⟨0,false,0,[],0,[],[],[]⟩:I),[]⟩:kF),b.2)else rK (r.cW,r.aw,I.eta b.1)>>=λd=>if !(d.2=0:Bool) then some ((⟨(⟨0,false,0,[],0,[],[],[]⟩:I),(⟨0,false,0,[],0,[],[],[]⟩:I),[]⟩:kF),d.2)else some ((⟨I.eta a.1,I.eta b.1,d.1⟩:kF),0)
theorem VE:a6 agq nF:= .bj (.k Wl (.k Wy (.k Wo (.k VD (.k WD .n)))))
def C':cD×cD×ak->Option (ak×Int)
 |(w,r,m)=>
 nF (w,r,m)>>=λa=>some (a.1.Message,a.2)
theorem VF:a6 afL C':= .bj (.k VE .n)
end
section
open Go Go.Proofs.YtdjagncoefjfeaaGreat.Shv
open Tryz
set_option maxRecDepth 100000
def vk:List ak×List ak×Int×Int->Option ((Bool) ⊕ (Unit))
 |(a,b,c,t13)=>
 if (t13<c:Bool) then if aG t13 a.length then if aG t13 b.length then if !(a.getD t13.toNat []=b.getD t13.toNat []:Bool) then some (.inl false)else vk (a,b,c,aM .i64 t13 1)else none else none else some (.inr ())
  partial_fixpoint
def TH(c:List ak×List ak):Option Bool:=
 match c with
 |(s1,a)=>
 if !((s1.length:Int)=(a.length:Int):Bool) then some false else vk (s1,a,(s1.length:Int),0)>>=λo=>match o with
 |.inl b=>
 some b
 |.inr d=>
 some true
def yo:List ak×Int×Int×cD×cD×List ak->Option ((Bool) ⊕ (cD×cD×List ak))
 |(t39,d,t41,b,c,a)=>
 if (t41<d:Bool) then if aG t41 t39.length then some (t39.getD t41.toNat [])>>=λe=>if (400<(e.length:Int):Bool) then some (.inl true)else some [e]>>=λt50=>if room 16 (a++t50).length then yo (t39,d,aM .i64 t41 1,b,c,a++t50)else none else none else some (.inr (b,c,a))
  partial_fixpoint
def rL:List cD×ak×Int×Int->Option ((ak×Int×Int) ⊕ (List cD×ak))
 |(a,c,d,t22)=>
 if (t22<d:Bool) then if aG t22 a.length then some (aM .i64 t22 1)>>=λt32=>if aG t32 a.length then mO (a.getD t22.toNat lv,a.getD t32.toNat lv,c)>>=λb=>if !(b.2=0:Bool) then some (.inl ([],t22,b.2))else rL (a,b.1.message,d,aM .i64 t22 1)else none else none else some (.inr (a,c))
  partial_fixpoint
theorem WE:cL 35 0 [0] R4 rL:= .rx rL.partial_correctness (.k W' .n)
def CQ(c:List cD×ak):Option (ak×Int×Int):=
 match c with
 |(l,m)=>
 if ((l.length:Int)<2:Bool) then some ([],0,6)else wo l>>=λr=>if !(r=0:Bool) then some ([],0,r)else rL (l,m,c9 .i64 (l.length:Int) 1,0)>>=λo=>match o with
 |.inl a=>
 some (a.1,a.2.1,a.2.2)
 |.inr b=>
 some (b.2,c9 .i64 (b.1.length:Int) 1,0)
theorem Xc:a6 agm CQ:= .bj (.k Yk .n) (.k WE .n)
def rA:List cD×ak×Int->Option ((ak×Int×Int) ⊕ (List cD×ak))
 |(a,b,i)=>
 if (i<(a.length:Int):Bool) then if aG i a.length then if aG i a.length then jJ ((a.getD i.toNat lv).cW,(a.getD i.toNat lv).aw)>>=λr=>if !(r=0:Bool) then some (.inl ([],0,r))else rA (a,b,aM .i64 i 1)else none else none else some (.inr (a,b))
  partial_fixpoint
theorem Uy:cL 37 0 [0] R5 rA:= .rx rA.partial_correctness (.k C8 .n)
def rB:List cD×ak×Int->Option ((ak×Int×Int) ⊕ (List cD×ak))
 |(a,d,b)=>
 if (b<(a.length:Int):Bool) then some (c9 .i64 b 1)>>=λt43=>if aG t43 a.length then if aG b a.length then C' (a.getD t43.toNat lv,a.getD b.toNat lv,d)>>=λc=>if !(c.2=0:Bool) then some (.inl ([],c9 .i64 b 1,c.2))else rB (a,c.1,aM .i64 b 1)else none else none else some (.inr (a,d))
  partial_fixpoint
theorem Uz:cL 37 0 [1] R6 rB:= .rx rB.partial_correctness (.k VF .n)
def Da(f:List cD×ak):Option (ak×Int×Int):=
 match f with
 |(l,m)=>
 if ((l.length:Int)<2:Bool) then some ([],0,6)else rA (l,m,0)>>=λo=>match o with
 |.inl a=>
 some (a.1,a.2.1,a.2.2)
 |.inr c=>
 rB (c.1,c.2,1)>>=λe=>match e with
 |.inl b=>
 some (b.1,b.2.1,b.2.2)
 |.inr d=>
 some (d.2,c9 .i64 (d.1.length:Int) 1,0)
theorem VG:a6 agn Da:= .bj .n (.k Uy (.k Uz .n))
def n1:ak×List iY×List iY×Int×cD×List cD×List du->Option ((Bool) ⊕ (ak×List cD))
 |(c,t59,f,t60,b,a,g)=>
 if (t60<2:Bool) then if aG t60 2 then vp ((⟨g⟩:ej),[t59,f].getD t60.toNat [])>>=λd=>qb d>>=λe=>if !e.2 then some (.inl true)else some [(⟨e.1,b.aw⟩:cD)]>>=λt78=>if room 32 (a++t78).length then n1 (c,t59,f,aM .i64 t60 1,b,a++t78,d.dI)else none else none else some (.inr (c,a))
  partial_fixpoint
theorem Vb:cL 9 0 [0] Sr n1:= .rx n1.partial_correctness (.k Gx (.k GL .n))
def qL:ak×List cD×Int×Int->Option ((Bool) ⊕ (Unit))
 |(b,a,e,t84)=>
 if (t84<e:Bool) then if dN 0 t84 a.length then fj 32 (dZ a 0 t84)>>=λf=>CQ (f,b)>>=λc=>if dN 0 t84 a.length then Da (dZ a 0 t84,b)>>=λd=>if(bif bif (!(c.1=d.1:Bool))then true else(!(c.2.1=d.2.1:Bool))then true else(!(c.2.2=d.2.2:Bool))) then some (.inl false)else qL (b,a,e,aM .i64 t84 1)else none else none else some (.inr ())
  partial_fixpoint
theorem Vc:cL 9 0 [1] Ss qL:= .rx qL.partial_correctness (.k XF (.k Xc (.k VG .n)))
def Aj(j:nN×tf):Option Bool:=
 match j with
 |(c,l)=>
 y3 c>>=λr=>zl ()>>=λf=>if(bif bif bif (!f)then true else(!r.2.2.2)then true else (3<(l.qx.length:Int):Bool)then true else (3<(l.ft.length:Int):Bool)) then zl ()>>=λg=>some g else vp (c.C.D.S,c.C.L)>>=λi=>n1 (r.2.2.1,l.qx,l.ft,0,r.1,[r.1,r.2.1],i.dI)>>=λo=>match o with
 |.inl b=>
 some b
 |.inr a=>
 qL (a.1,a.2,aM .i64 (a.2.length:Int) 1,0)>>=λd=>match d with
 |.inl e=>
 some e
 |.inr k=>
 some true
theorem aeY:a6 lW Aj:= .bj (.k Xl (.k WN (.k Gx .n))) (.k Vb (.k Vc .n))
end
section
open Go Go.Proofs.YtdjagncoefjfeaaGreat.Shv
set_option maxRecDepth 100000
def hx(s:ak):Nat->Nat->Nat->Int×Int×Int
 |0,_,_=>(0,0,10)
 |f+1,i,n=>
  if i<s.length then if i=9/\1<(s.getD i 0).toNat then(0,0,7)else if 128<=(s.getD i 0).toNat then hx s f (i+1) (n+((s.getD i 0).toNat%128)*2^(7*i))else if(s.getD i 0).toNat=0/\0<i then(0,0,2)else(((n+(s.getD i 0).toNat*2^(7*i):Nat):Int),((i+1:Nat):Int),0)else(0,0,10)
theorem S3{i:Nat}(h:i<=9):2^(7*i)<=9223372036854775808:=by
 have:2^(7*i)<=2^63:=wP (by omega) (by omega);omega
theorem S4(i:Nat):2^(7*(i+1))=2^(7*i)*128:=by rw[Nat.mul_add,Nat.pow_add]
theorem Gs{n i b:Nat}(aH:n<2^(7*i)):n+(b%128)*2^(7*i)<2^(7*(i+1)):=by
 rw[S4];have:b%128*2^(7*i)<=127*2^(7*i):=eX _ (by omega);omega
theorem x9{n i b:Nat}(d:i<=9)(aH:n<2^(7*i))(c:b<128)(a:i=9->b<=1):b*2^(7*i)<18446744073709551616/\n+b*2^(7*i)<18446744073709551616:=by
 rcases Nat.lt_or_ge i 9 with h|h
 . have:2^(7*i)<=2^56:=wP (by omega) (by omega);have e:(2:Nat)^56=72057594037927936:=(by decide);have:b*2^(7*i)<=127*2^(7*i):=eX _ (by omega);omega
 grind
theorem Qt(s:ak):∀(f i n:Nat),i+f=10->n<2^(7*i)->∃o,tp (s,(n:Int),((min 10 s.length:Nat):Int),(i:Int))=some o/\(match o with|.inl x=>x|.inr _=>(0,0,10))=hx s f i n
 |0,i,n,h,aH=>by
  refine⟨.inr (),?_,rfl⟩;rw[tp];grind
 |f+1,i,n,h,aH=>by
  rw[tp];simp only[hx,aS,ao,rj];by_cases d:i<s.length
  . have e:=Ae s i;generalize (s.getD i 0).toNat=b at e⊢;rw[br,ae (aP d),ae d];have l:gz .i64 7 (i:Int)=((7*i:Nat):Int):=by rw[PK (by omega) (by omega)];norm_cast
    rw[l];have j:decide ((0:Int)<=((7*i:Nat):Int))=true:=by simp;omega
    by_cases c:i=9/\1<b
    . rw[ae c,ae (by obtain⟨h1,m⟩:=c;subst h1;simp;omega)];grind
    . rw[al c,al (by grind)];by_cases g:128<=b
      . rw[ae g,br,ae j];have k:i=9->False:=λh1=>c ⟨h1,by omega⟩;have aB:b%128<128:=yL _ (by omega);have a:=x9 (i:=i) (n:=n) (b:=b%128) (by omega) aH aB (λh1=>(k h1).elim);rw[aca e,hy,MH (by omega) a.1,OO (by have:=S3 (i:=i) (by omega);omega) a.1,PJ aH,bC];exact Qt s f (i+1) (n+b%128*2^(7*i)) (by omega) (Gs aH)
      . rw[al g,b'];by_cases h0:b=0/\0<i
        . simp_all
        . rw[al h0,al (by grind),ae j];have a:=x9 (i:=i) (n:=n) (b:=b) (by omega) aH (by omega) (λh1=>by omega);rw[hy,MH (by omega) a.1,OO (by have:=S3 (i:=i) (by omega);omega) a.1,PJ aH,bC];grind
  . rw[b',al d];grind
theorem Qu(s:ak):Dp s=some (hx s 10 0 0):=by
 obtain⟨o,h1,a⟩:=Qt s 10 0 0 rfl (by decide);rw[Dp];have:ja 10 (s.length:Int)=((min 10 s.length:Nat):Int):=Ih 10 s.length;grind
theorem LJ(s:ak):∀(f i n:Nat),i<=s.length->i+f=10->n<2^(7*i)->∃o,s5 (s,(n:Int),(if i<10 then((2^(7*i):Nat):Int)else gz .u64 ((2^(7*9):Nat):Int) 128),(i:Int))=some o/\(i<10->(match o with|.inl x=>x|.inr _=>(0,0,7))=hx s f i n)
 |0,i,n,p,h,aH=>by
  refine⟨.inr (),?_,λr=>by omega⟩;rw[s5];grind
 |f+1,i,n,p,h,aH=>by
  rw[s5];simp only[hx,aS,ao,rj];rw[ae (show decide ((i:Int)<10)=true by simp;omega),ae (show i<10 by omega)];by_cases e:i<s.length
  . have m:=Ae s i;generalize (s.getD i 0).toNat=b at m⊢;rw[b',ae (aP e),ae e,hy];by_cases d:i=9/\1<b
    . rw[ae d,ae (by obtain⟨h1,k⟩:=d;subst h1;simp;omega)];grind
    . rw[al d,al (by grind)];have j:b7 (b:Int) 128=((b%128:Nat):Int):=AO (b:=128);have aB:b%128<128:=yL _ (by omega);by_cases g:128<=b
      . rw[ae g,b'];have l:i=9->False:=λh1=>d ⟨h1,by omega⟩;have c:=x9 (i:=i) (n:=n) (b:=b%128) (by omega) aH aB (λh1=>(l h1).elim);rw[j,uo c.1,sw c.2,bC];obtain⟨o,h1,k⟩:=LJ s f (i+1) (n+b%128*2^(7*i)) (by omega) (by omega) (Gs aH);have t:gz .u64 ((2^(7*i):Nat):Int) 128=((2^(7*(i+1)):Nat):Int):=by
         have:=uo (a:=2^(7*i)) (b:=128) (by
          have:2^(7*i)<=2^56:=wP (by omega) (by omega)
          omega)
         grind
        grind
      . rw[al g,br];have q:b%128=b:=oE (by omega);have c:=x9 (i:=i) (n:=n) (b:=b) (by omega) aH (by omega) (λh1=>by omega);by_cases h0:b=0/\0<i
        . simp_all
        . rw[al h0,al (by grind)];rw[j,q,uo c.1,sw c.2,bC];grind
  . rw[br,al e];grind
theorem HU(s:ak):wi s=some (hx s 10 0 0):=by
 obtain⟨o,h1,a⟩:=LJ s 10 0 0 (by omega) rfl (by decide);rw[wi];grind
theorem Mf(s:ak):∀(f i n:Nat),i<=s.length->i+f=10->n<2^(7*i)->(∃e:Int,e≠0/\hx s f i n=(0,0,e))\/∃m k:Nat,hx s f i n=((m:Int),(k:Int),0)/\i<k/\k<=s.length/\m<18446744073709551616
 |0,i,n,l,h,aH=>.inl ⟨10,by decide,rfl⟩
 |f+1,i,n,l,h,aH=>by
  simp only[hx];have g:=Ae s i;generalize (s.getD i 0).toNat=b at g⊢;by_cases c:i<s.length
  . rw[ae c];by_cases d:i=9/\1<b
    . simp_all
    . rw[al d];by_cases a:128<=b
      . rw[ae a];rcases Mf s f (i+1) (n+b%128*2^(7*i)) (by omega) (by omega) (Gs aH)with h|⟨m,k,h1,o,p,q⟩
        . exact .inl h
        grind
      . rw[al a];by_cases h0:b=0/\0<i
        . simp_all
        . rw[al h0];have j:=x9 (i:=i) (n:=n) (b:=b) (by omega) aH (by omega) (λh1=>by omega);exact .inr ⟨_,i+1,rfl,by omega,by omega,j.2⟩
  . rw[al c];exact .inl ⟨10,by decide,rfl⟩
theorem lG(s:ak):(∃e:Int,e≠0/\hx s 10 0 0=(0,0,e))\/∃m k:Nat,hx s 10 0 0=((m:Int),(k:Int),0)/\0<k/\k<=s.length/\m<18446744073709551616:=
 Mf s 10 0 0 (by omega) rfl (by decide)
theorem oi{s:ak}{e:Int}(he:e≠0)(h:hx s 10 0 0=(0,0,e)):ra s=some (0,[],false):=by
 rw[ra,Qu,h];grind
theorem l0{s:ak}{m k:Nat}(h:hx s 10 0 0=((m:Int),(k:Int),0))(a:k<=s.length):ra s=some ((m:Int),s.drop k,true):=by
 rw[ra,Qu,h];simp only[aS,ao];rw[bw,ae (jO a (d' _)),oh]
def dR:Option (ak×ak)->ak×ak×Bool
 |none=>([],[],false)
 |some (a,b)=>(a,b,true)
def iy(s:ak):Option (ak×ak):=
 match hx s 10 0 0 with
 |(m,k,e)=>if e=0/\m.toNat+k.toNat<=s.length then some ((s.drop k.toNat).take m.toNat,(s.drop k.toNat).drop m.toNat)else none
theorem nY{s a b:ak}(h:iy s=some (a,b)):a.length+b.length<s.length:=by
 unfold iy at h;rcases lG s with⟨e,he,c⟩|⟨m,k,c,f,d,g⟩
 . grind
 grind
theorem l3{s:ak}(hs:s.length<=1000000:=by omega):zR s=some (dR (iy s)):=by
 rw[zR];unfold iy;rcases lG s with⟨e,he,b⟩|⟨m,k,b,f,d,g⟩
 . rw[oi he b,b];simp[he,dR]
 . rw[l0 b d,b];simp only[aS,ao,mb,rZ,mc];rw[hy];by_cases c:m+k<=s.length
   . rw[b',ae (show dN 0 (m:Int) (s.length-k)=true from jO (a:=0) (by omega) (by omega)),ae (jO (by omega) (d' _)),ae c];have:((s.length-k:Nat):Int)=((s.drop k).length:Int):=by simp
     rw[this,oh,tF];rfl
   . rw[br,al c];rfl
theorem Qv{s:ak}(hs:s.length<=1000000):y0 s=some (dR (iy s)):=by
 rw[y0,HU];unfold iy;rcases lG s with⟨e,he,a⟩|⟨m,k,a,g,f,i⟩
 . rw[a];simp[he,dR]
 . rw[a];simp only[aS,ao,mb,rZ];have c:c9 .i64 (s.length:Int) (k:Int)=((s.length-k:Nat):Int):=by rw[gS];omega
   rw[c,hy];by_cases b:m+k<=s.length
   . rw[b',ae b];have d:bT .i64 (m:Int)=(m:Int):=jC;rw[d,wU (by omega),ae (jO (by omega) (by omega)),ae (jO (by omega) (d' _)),oh];have:dZ s (k:Int) ((k+m:Nat):Int)=(s.drop k).take m:=by
      unfold dZ;rw[mb,mb,List.drop_take];grind
     rw[this,uB];rfl
   . rw[br,al b];rfl
theorem HK:∀(n:Nat) (s:ak) (b:List ak),s.length<=n->s.length+b.length<=100000->∃o,hE (s,b)=some o/\∀l,o= .inr l->l.length<=s.length+b.length:=by
 intro n;induction n with
 |zero=>
  intro s b h1 a;have:s=[]:=ju (by omega);subst this;refine⟨.inr b,?_,λl af=>by cases af;omega⟩;rw[hE];rw[bw]
 |succ n ih=>
  intro s b h1 a;rw[hE,l3];simp only[aS,ao];by_cases hs:s=[]
  . grind
  . have d:(!(decide (s=[])))=true:=(by simp[hs]);rw[ae d];cases f:iy s with
    |none=>exact⟨.inl 12,rfl,λl af=>by cases af⟩
    |some p=>
     obtain⟨x,y⟩:=p;have af:=nY f;have ag:room 16 (b++[(dR (some (x,y))).1]).length=true:=cO;have aH:¬((!(dR (some (x,y))).2.2)=true):=(by simp[dR]);rw[al aH,ae ag];obtain⟨o,c,bf⟩:=ih y (b++[x]) (by omega) (by simp;omega);exact⟨o,c,λl e=>by have:=bf l e;simp at this;omega⟩
theorem acg{s:ak}(h:s.length<=90000):∃o,lk s=some o/\o.1.length<=s.length:=by
 obtain⟨o,h1,a⟩:=HK s.length s [] (d' _) (by simp;omega);rw[lk,h1];cases o with
 |inl e=>exact⟨_,rfl,by simp⟩
 |inr l=>exact⟨_,rfl,by have:=a l rfl;simpa using this⟩
theorem acJ:∀(n:Nat) (s:ak) (b:List ak),s.length<=n->s.length+b.length<=100000->sU (s,b)=hE (s,b):=by
 intro n;induction n with
 |zero=>
  intro s b h1 c;have:s=[]:=ju (by omega);subst this;rw[hE,sU,bw,bw]
 |succ n ih=>
  intro s b h1 c;rw[hE,sU,l3,Qv (by omega)];simp only[aS,ao];by_cases hs:s=[]
  . grind
  . have a:(!(decide (s=[])))=true:=(by simp[hs]);rw[ae a,ae a];cases d:iy s with
    |none=>rfl
    |some p=>
     obtain⟨x,y⟩:=p;have af:=nY d;have ag:room 16 (b++[(dR (some (x,y))).1]).length=true:=cO;have aH:¬((!(dR (some (x,y))).2.2)=true):=(by simp[dR]);rw[al aH,ae ag,al aH,ae ag];exact ih y (b++[x]) (by omega) (by simp;omega)
theorem ach{s:ak}(h:s.length<=90000):vA s=lk s:=by
 rw[lk,vA,acJ s.length s [] (d' _) (by simp;omega)]<;>rfl
theorem LK:∀(n:Nat) (s:ak) (last:Nat) (b:List cT),s.length<=n->s.length+b.length<=100000->∃o,ga ((last:Int),s,b)=some o/\∀l,o= .inr l->l.length<=s.length+b.length:=by
 intro n;induction n with
 |zero=>
  intro s last b h1 c;have:s=[]:=ju (by omega);subst this;refine⟨.inr b,?_,λl af=>by cases af;omega⟩;rw[ga];rw[bw]
 |succ n ih=>
  intro s last b h1 c;rw[ga];by_cases hs:s=[]
  . subst hs;exact⟨.inr b,by rw[bw],λl af=>by cases af;omega⟩
  . have f:(!(decide (s=[])))=true:=(by simp[hs]);rw[ae f];rcases lG s with⟨e,he,a⟩|⟨m,k,a,u,g,j⟩
    . rw[oi he a];exact⟨.inl 12,rfl,λl af=>by cases af⟩
    . rw[l0 a g];simp only[aS,ao];rw[uD j];by_cases t:m/2<=last\/1000<m/2
      . exact⟨.inl 12,by rw[br],λl af=>by cases af⟩
      . have r:bT .i64 ((m/2:Nat):Int)=((m/2:Nat):Int):=jC;rw[b',r,l3 (by simp;omega)];simp only[ao];cases q:iy (s.drop k)with
        |none=>exact⟨.inl 12,rfl,λl af=>by cases af⟩
        |some p=>
         obtain⟨x,y⟩:=p;have af:=nY q;rw[mc]at af;have ag:room 32 (b++[(⟨((m/2:Nat):Int),decide (b7 (m:Int) 2=1),(dR (some (x,y))).1⟩:cT)]).length=true:=cO;have aH:¬((!(dR (some (x,y))).2.2)=true):=(by simp[dR]);rw[al aH,ae ag];obtain⟨o,d,bf⟩:=ih y (m/2) (b++[(⟨((m/2:Nat):Int),decide (b7 (m:Int) 2=1),x⟩:cT)]) (by omega) (by simp;omega);exact⟨o,d,λl i=>by have:=bf l i;simp at this;omega⟩
theorem abL{s:ak}(h:s.length<=90000):∃o,lT s=some o/\o.1.length<=s.length:=by
 obtain⟨o,h1,b⟩:=LK s.length s 0 [] (d' _) (by simp;omega);have a:ga (0,s,[])=some o:=h1;rw[lT,a];cases o with
 |inl e=>exact⟨_,rfl,by simp⟩
 |inr l=>exact⟨_,rfl,by have:=b l rfl;simpa using this⟩
theorem aci:∀(n:Nat) (s:ak) (last:Nat) (b:List cT),s.length<=n->s.length+b.length<=100000->rC (s,(last:Int),b)=ga ((last:Int),s,b):=by
 intro n;induction n with
 |zero=>
  intro s last b h1 i;have:s=[]:=ju (by omega);subst this;rw[ga,rC,bw,bw]
 |succ n ih=>
  intro s last b h1 i;rw[ga,rC,HU];by_cases hs:s=[]
  . simp_all
  . have c:(!(decide (s=[])))=true:=(by simp[hs]);rw[ae c,ae c];rcases lG s with⟨e,he,a⟩|⟨m,k,a,r,d,j⟩
    . rw[oi he a,a];simp_all
    . rw[l0 a d,a];simp only[aS,ao];rw[uD j];by_cases q:m/2<=last\/1000<m/2
      . have aN:(bif bif (!true)then true else decide (((m/2:Nat):Int)<=(last:Int))then true else decide (1000<((m/2:Nat):Int)))=true:=by simp;omega
        rw[ae aN];rw[ae];by_cases o:2001<m
        . simp;omega
        . have f:bT .i64 ((m/2:Nat):Int)=((m/2:Nat):Int):=jC;grind
      . have f:bT .i64 ((m/2:Nat):Int)=((m/2:Nat):Int):=jC;have g:¬(bif bif (!true)then true else decide (((m/2:Nat):Int)<=(last:Int))then true else decide (1000<((m/2:Nat):Int)))=true:=by simp;omega
        rw[f,b',ae (jO d (d' _)),oh,Qv (by simp;omega),al g,l3 (by simp;omega)];simp only[ao];cases l:iy (s.drop k)with
        |none=>rfl
        |some p=>
         obtain⟨x,y⟩:=p;have af:=nY l;rw[mc]at af;have ag:room 32 (b++[(⟨((m/2:Nat):Int),decide (b7 (m:Int) 2=1),(dR (some (x,y))).1⟩:cT)]).length=true:=cO;have aH:¬((!(dR (some (x,y))).2.2)=true):=(by simp[dR]);rw[al aH,ae ag,al aH,ae ag];exact ih y (m/2) (b++[(⟨((m/2:Nat):Int),decide (b7 (m:Int) 2=1),x⟩:cT)]) (by omega) (by simp;omega)
theorem abM{s:ak}(h:s.length<=90000):zf s=lT s:=by
 have h1:rC (s,0,[])=ga (0,s,[]):=aci s.length s 0 [] (d' _) (by simp;omega);rw[lT,zf,h1]<;>rfl
theorem adL(s:ak):∃o,lY s=some o:=by
 rw[lY];rcases lG s with⟨e,he,a⟩|⟨m,k,a,d,b,f⟩
 . rw[oi he a];exact⟨_,rfl⟩
 . rw[l0 a b];simp only[aS,ao];by_cases c:m<1\/1000<m
   . exact⟨(0,[],12),by rw[br]⟩
   . rw[b'];exact⟨_,rfl⟩
theorem adM(s:ak):∃o,lY s=some o/\yZ s=some o:=by
 rw[lY,yZ,HU];rcases lG s with⟨e,he,a⟩|⟨m,k,a,d,b,f⟩
 . rw[oi he a,a];simp_all
 . rw[l0 a b,a];simp only[aS,ao];by_cases c:m<1\/1000<m
   . exact⟨(0,[],12),by rw[br],by rw[br]⟩
   . rw[b',b',ae (jO b (d' _)),oh];grind
def dP(n:Nat):ak:=if n<128 then[UInt8.ofNat n]else UInt8.ofNat (n%128+128)::dP (n/128)
termination_by n
decreasing_by omega
theorem pO{n:Nat}(h:n<128):dP n=[UInt8.ofNat n]:=by rw[dP,ae h]
theorem oj{n:Nat}(h:¬n<128):dP n=UInt8.ofNat (n%128+128)::dP (n/128):=by rw[dP,al h]
theorem acK{a:Nat}(h:a<256):r7 .u8 (a:Int) 128=((a%128+128:Nat):Int):=by
 have key:∀a:Nat,a<256->r7 .u8 (a:Int) 128=((a%128+128:Nat):Int):=by decide+kernel
 grind
theorem xo(n:Nat):bT .u8 (n:Int)=((n%256:Nat):Int):=by rfl
theorem ah7(n:Nat):lE .u64 (n:Int) 7=((n/128:Nat):Int):=by
 unfold lE;have:((2:Int)^min (7:Int).toNat IntKind.u64.bits)=128:=by decide
 grind
theorem aaT(m:Nat)(l:ar):strOf ((m:Int)::l)=UInt8.ofNat m::strOf l:=rfl
theorem DI(a b:ar):strOf (a++b)=strOf a++strOf b:=r3
variable{α:Type}{p N:ak}{c q:Bool}{x:Option Bool}{names:List ak}{f:aU×aU->Option Bool}{v:I}{t:ai}{Ms:List aU}{S:List c3}{E H K M id:Int}{ts:List ai}{L':Nat->Option (Int ⊕ Unit)}{o:Option (Int×Bool)}{L:Option (Bool ⊕ Unit)}{a:List α}
theorem HD:∀(l:List α) (i:Nat) (x:α),i<l.length->(l.set i x).take (i+1)=l.take i++[x]
 |[],i,x,h=>by simp at h
 |a::l,0,x,h=>by simp
 |a::l,i+1,x,h=>by simp[HD l i x (by simpa using h)]
theorem Qw:∀(f n i:Nat) (b:ar),i+f=9->n<128*128^f->b.length=10->∃(d c:Nat) (a:ar),tu ((n:Int),(i:Int),b)=some ((d:Int),(c:Int),a)/\d<128/\c<=9/\a.length=10/\strOf (a.take c)++[UInt8.ofNat d]=strOf (b.take i)++dP n
 |f,n,i,b,g,aH,e=>by
  rw[tu];by_cases hs:n<128
  . rw[b'];exact⟨n,i,b,rfl,hs,by omega,e,by rw[pO hs]⟩
  . rw[br,ae (aP (by
     omega)),ae (by
     cases f with
     |zero=>simp at aH;omega
     |succ f=>simp[e];omega)]
    match f,g,aH with
    |0,g,aH=>simp at aH;omega
    |f+1,g,aH=>
     rw[ah7,bC,xo,acK (yL _ (by omega)),aZ];have aB:n/128<128*128^f:=(by omega);obtain⟨d,c,a,h1,j,k,l,bf⟩:=Qw f (n/128) (i+1) (b.set i ((n%256%128+128:Nat):Int)) (by omega) aB (by simp[e]);refine⟨d,c,a,h1,j,k,l,?_⟩;rw[bf,HD _ _ _ (by omega),DI,oj hs];have:n%256%128=n%128:=(by omega);rw[this];have m:strOf [((n%128+128:Nat):Int)]=[UInt8.ofNat (n%128+128)]:=rfl;grind
theorem IY:(128:Nat)*128^9=1180591620717411303424:=by decide
theorem ui{n:Nat}(aH:n<18446744073709551616:=by omega):pN (n:Int)=some (dP n):=by
 obtain⟨b,d,e,h1,j,k,c,bf⟩:=Qw 9 n 0 [0,0,0,0,0,0,0,0,0,0] rfl (by rw[IY];omega) rfl;rw[pN];have f:tu ((n:Int),0,[0,0,0,0,0,0,0,0,0,0])=some ((b:Int),(d:Int),e):=h1;rw[f];simp only[aS,ao];have i:dN 0 ((d+1:Nat):Int) 10=true:=jO (a:=0) (by omega) (by omega);rw[ae (aP (by omega)),ae (by simp[c];omega),bC,ae i,ae (by simp[xd,c];omega),aZ,aZ,xo];have:b%256=b:=oE (by omega);rw[this];simp only[r4,fT];rw[HD _ _ _ (by omega),DI];have g:strOf [(b:Int)]=[UInt8.ofNat b]:=rfl;rw[g,bf];rfl
theorem Li:∀(f n:Nat) (b:ar),n<128^f->n<18446744073709551616->b.length+f<=1000->∃(c:Nat) (a:ar),vv ((n:Int),b)=some ((c:Int),a)/\c<128/\a.length<=1000/\strOf a++[UInt8.ofNat c]=strOf b++dP n
 |f,n,b,aH,m,o=>by
  rw[vv];by_cases hs:n<128
  . rw[b'];exact⟨n,b,rfl,hs,by omega,by rw[pO hs]⟩
  . rw[br]
    match f,aH with
    |0,aH=>simp at aH;omega
    |f+1,aH=>
     have l:b7 (n:Int) 128=((n%128:Nat):Int):=AO (b:=128);have j:aM .u64 ((n%128:Nat):Int) 128=((n%128+128:Nat):Int):=sw (b:=128) (by omega);have k:fC .u64 (n:Int) 128=((n/128:Nat):Int):=by
      unfold fC;have e:(n:Int).tdiv 128=((n/128:Nat):Int):=by rw[Cg (by omega)];omega
      rw[e];exact kX (by omega) (by omega)
     simp only[aS,ao];rw[l,j,k,xo,ae (cO)];have aB:n/128<128^f:=(by omega);obtain⟨c,a,h1,d,g,i⟩:=Li f (n/128) (b++[(((n%128+128)%256:Nat):Int)]) aB (by omega) (by simp;omega);refine⟨c,a,h1,d,g,?_⟩;rw[i,DI,oj hs];have:(n%128+128)%256=n%128+128:=(by omega);rw[this];have p:strOf [((n%128+128:Nat):Int)]=[UInt8.ofNat (n%128+128)]:=rfl;grind
theorem Af{n:Nat}(aH:n<18446744073709551616:=by omega):q0 (n:Int)=some (dP n):=by
 obtain⟨a,d,h1,e,f,b⟩:=Li 10 n [] (by have:=IY;rw[yK,yI];omega) aH (by simp);rw[q0,h1];simp only[aS,ao];rw[ae (cO),xo,DI];have:a%256=a:=oE (by omega);rw[this];have c:strOf [(a:Int)]=[UInt8.ofNat a]:=rfl;rw[c,b];rfl
theorem HL:∀(f n:Nat),n<128^(f+1)->(dP n).length<=f+1
 |f,n,aH=>by
  by_cases hs:n<128
  . rw[pO hs];simp
  . rw[oj hs]
    match f,aH with
    |0,aH=>simp at aH;omega
    |f+1,aH=>
     have:=HL f (n/128) (by omega);simp;omega
theorem kd{n:Nat}(aH:n<18446744073709551616):(dP n).length<=10:=HL 9 n (by have:=IY;rw[yK,yI];omega)
theorem om(n:Nat):0<(dP n).length:=by
 rw[dP];split<;>simp
theorem ll{n:Nat}(h:n<256:=by omega):(UInt8.ofNat n).toNat=n:=by simp_all
theorem Qx:∀(f i acc n:Nat) (pre a:ak),i+f=10->pre.length=i->n*2^(7*i)<18446744073709551616->(n=0->i=0)->hx (pre++(dP n++a)) f i acc=(((acc+n*2^(7*i):Nat):Int),((i+(dP n).length:Nat):Int),0)
 |0,i,acc,n,pre,a,e,c,aH,h0=>by grind
 |f+1,i,acc,n,pre,a,e,c,aH,h0=>by
  have g:i<(pre++(dP n++a)).length:=by
   have:=om n;simp;omega
  have b:∀(x:UInt8) (r:ak),dP n=x::r->(pre++(dP n++a)).getD i 0=x:=by grind
  simp only[hx];rw[ae g];by_cases hs:n<128
  . rw[b _ _ (pO hs),ll,al (by
     grind),bB,al (by
     rintro ⟨h1,k⟩
     have:=h0 h1;omega),pO hs]
    simp
  . have l:i<9:=(by grind);rw[b _ _ (oj hs),ll,bB,fz];have j:(n%128+128)%128=n%128:=(by omega);have m:n%128*2^(7*i)+n/128*2^(7*(i+1))=n*2^(7*i):=by
     rw[S4];have h1:n/128*(2^(7*i)*128)=(n/128*128)*2^(7*i):=(by grind);rw[h1,<-iv];grind
    have d:n/128*2^(7*(i+1))<18446744073709551616:=(by omega);have:=Qx f (i+1) (acc+n%128*2^(7*i)) (n/128) (pre++[UInt8.ofNat (n%128+128)]) a (by omega) (by simp[c]) d (by omega);rw[j];have es:pre++(dP n++a)=pre++[UInt8.ofNat (n%128+128)]++(dP (n/128)++a):=by rw[oj hs];simp
    grind
theorem Jl{n:Nat}(aH:n<18446744073709551616)(a:ak):hx (dP n++a) 10 0 0=((n:Int),((dP n).length:Int),0):=by
 have:=Qx 10 0 0 n [] a rfl rfl (by simpa using aH) (λ_=>rfl);grind
def da(p:ak):ak:=dP p.length++p
theorem gb{n:Nat}(h:n<=9223372036854775807:=by omega):decide (n<=eF)=true:=by
 unfold eF;simp;omega
theorem EF(h:p.length<=1152921504606846976:=by omega):q9 p=some (da p):=by
 rw[q9,hy,ui];simp only[aS,ao];have:=kd (n:=p.length) (by omega);rw[ae (gb)];rfl
theorem Dg(h:p.length<=1152921504606846976:=by omega):qX p=some (da p):=by
 rw[qX,hy,Af];simp only[aS,ao];have:=kd (n:=p.length) (by omega);rw[ae (gb)];rfl
def eW(id:Nat)(c:Bool)(p:ak):ak:=dP (2*id+(if c then 1 else 0))++da p
theorem KN(h:p.length<=1152921504606846976):(da p).length<=p.length+10:=by
 have:=kd (n:=p.length) (by omega);unfold da;simp;omega
theorem HM{id:Nat}{c:Bool}(f:id<=4611686018427387903)(h:p.length<=1152921504606846900:=by omega):wy ((id:Int),c,p)=some (eW id c p):=by
 rw[wy];have e:gz .u64 2 (bT .u64 (id:Int))=((2*id:Nat):Int):=by rw[hy];exact uo (a:=2) (by omega)
 simp only[aS,ao];rw[e,EF];have af:=KN (p:=p) (by omega);cases c with
 |true=>
  have d:aM .u64 ((2*id:Nat):Int) 1=((2*id+1:Nat):Int):=sw (b:=1) (by omega);rw[ae rfl,d,ui];have:=kd (n:=2*id+1) (by omega);simp only[ao];rw[ae (gb)];rfl
 |false=>
  rw[bw,ui];have:=kd (n:=2*id) (by omega);simp only[ao];rw[ae (gb)];rfl
theorem KY{id:Nat}(e:id<=4611686018427387903)(h:p.length<=1152921504606846900):zm ((id:Int),c,p)=some (eW id c p):=by
 rw[zm];have d:bT .u64 (gz .i64 2 (id:Int))=((2*id:Nat):Int):=by
  rw[PK (by omega) (by omega)];have:(2:Int)*(id:Int)=((2*id:Nat):Int):=by omega
  rw[this];exact hy
 simp only[aS,ao];rw[d,Dg];have af:=KN (p:=p) (by omega);cases c with
 |true=>
  have a:aM .u64 ((2*id:Nat):Int) 1=((2*id+1:Nat):Int):=sw (b:=1) (by omega);rw[ae rfl,a,Af];have:=kd (n:=2*id+1) (by omega);simp only[ao];rw[ae (gb)];rfl
 |false=>
  rw[bw,Af];have:=kd (n:=2*id) (by omega);simp only[ao];rw[ae (gb)];rfl
theorem KZ{a:ak}(h:p.length<=100000):iy (da p++a)=some (p,a):=by
 unfold iy da;rw[ir,Jl (by omega)];simp only[mb,rZ];grind
theorem Zb{id:Nat}{a:ak}{last:Nat}{b:List cT}(h1:last<id)(o:id<=1000)(h:(eW id c p++a).length<=100000)(n:b.length<=90000):
 ga ((last:Int),eW id c p++a,b)=ga ((id:Int),a,b++[⟨(id:Int),c,p⟩]):=by
 have k:p.length<=100000:=by
  have d:=h;simp only[eW,da,cq]at d;omega
 have i:eW id c p++a≠[]:=by
  intro e;have d:=eu List.length e;have:=om (2*id+(if c then 1 else 0));simp only[eW,cq,jw]at d;omega
 have aa:2*id+(if c then 1 else 0)<=2001:=by split<;>omega
 have aq:hx (eW id c p++a) 10 0 0=(((2*id+(if c then 1 else 0):Nat):Int),((dP (2*id+(if c then 1 else 0))).length:Int),0):=by
  unfold eW;rw[ir];exact Jl (by omega) _
 have aH:=l0 aq (by unfold eW;simp);have f:(eW id c p++a).drop (dP (2*id+(if c then 1 else 0))).length=da p++a:=by
  unfold eW;grind
 rw[f]at aH;have g:(2*id+(if c then 1 else 0))/2=id:=by split<;>omega
 have l:decide (b7 ((2*id+(if c then 1 else 0):Nat):Int) 2=1)=c:=by
  have:b7 ((2*id+(if c then 1 else 0):Nat):Int) 2=(((2*id+(if c then 1 else 0))%2:Nat):Int):=AO (b:=2);grind
 rw[ga,ae (by simp only[uy,FW];exact i),aH];simp only[aS,ao];rw[uD (by omega),g,b',l,l3 (by grind),KZ k];simp only[ao];have m:bT .i64 (id:Int)=(id:Int):=jC;have j:¬((!(dR (some (p,a))).2.2)=true):=by simp[dR]
 rw[al j,m];have ag:room 32 (b++[(⟨(id:Int),c,(dR (some (p,a))).1⟩:cT)]).length=true:=cO;rw[ae ag];rfl
inductive bK:I->Prop
 |mk (v:I) (hs:v.bl.length<=reachBytes) (h1:v.ay.length<=reachBytes) (ahq:v.aj.length<=reachBytes) (aiF:v.Rest.length<=reachBytes)
  (hk:∀x,x∈v.ay->bK x) (BQ:∀x,x∈v.aj->bK x) (ag:∀x,x∈v.Rest->x.Data.length<=reachBytes)
  (dc: -9223372036854775808<=v.Kind/\v.Kind<=9223372036854775807) (aiS: -9223372036854775808<=v.bc/\v.bc<=9223372036854775807) (aiT: -9223372036854775808<=v.ad/\v.ad<=9223372036854775807)
  (aiU:∀x,x∈v.Rest->-9223372036854775808<=x.ad/\x.ad<=9223372036854775807):bK v
theorem dA{n:Nat}(h:n<=reachBytes):n<9223372036854775807:=Nat.lt_of_le_of_lt h (by decide)
theorem scan{d:Type}(L:Nat->Option d)(n:Nat)(p:Nat->Bool)(a b:d)(l:∀i,i<n->L i=if p i then L (i+1)else some a)(e:L n=some b):
 (L 0=some b/\∀j,j<n->p j=true)\/(L 0=some a/\∃j,j<n/\p j=false):=by
 have key:∀k i,i+k=n->(L i=some b/\∀j,i<=j->j<n->p j=true)\/(L i=some a/\∃j,j<n/\p j=false):=by
  intro k;induction k with
  |zero=> intro i g; have:i = n:= by omega
          subst this;exact .inl ⟨e,λj h1 c=>by omega⟩
  |succ k ih=>grind
 rcases key n 0 (by omega)with⟨h1,c⟩|h
 . exact .inl ⟨h1,λj f=>c j (hR _) f⟩
 . exact .inr h
theorem dv{l:List α}{i:Nat}(h:i<l.length)(d:α):l.getD i d=l[i]:=by grind
theorem vM{b:List α}{p:Nat->Bool}(af:a.length=b.length)(e:∀(i:Nat) (h1:i<a.length) (c:i<b.length),p i=true↔a[i]=b[i]):
 (∀j,j<a.length->p j=true)↔a=b:=by
 constructor
 . intro h;exact B7 af λi h1 c=>(e i h1 c).1 (h i h1)
 . rintro rfl j d
   exact(e j d d).2 rfl
def eV{α:Type}(o:Option Bool)(a b:α):Prop:=∃r,o=some r/\(r=true↔a=b)
theorem eV.F8{b:List α}{p:Nat->Bool}(af:a.length=b.length)(e:∀(i:Nat) (h1:i<a.length) (c:i<b.length),p i=true↔a[i]=b[i]){o:Option Bool}
 (h:(o=some true/\∀j,j<a.length->p j=true)\/(o=some false/\∃j,j<a.length/\p j=false)):eV o a b:=by
 rcases h with⟨h1,c⟩|⟨h1,j,c,f⟩
 . exact⟨true,h1,by simp[(vM af e).1 c]⟩
 . refine⟨false,h1,?_⟩;constructor
   . intro h;cases h
   . intro h;have:=(vM af e).2 h j c;rw[f]at this;cases this
theorem Qy{a b:bW}:(hK a.ad b.ad&&(i' a.Data b.Data&&true))=true↔a=b:=by cases a;cases b;simp[hK,i']
theorem Qz{a b:c3}:(hK a.ad b.ad&&(i' a.Name b.Name&&true))=true↔a=b:=by
 cases a;cases b;simp[hK,i']
theorem aeA{b:List α}(h:¬a.length=b.length):a≠b:=λe=>h (eu List.length e)
theorem v7{b:List α}(h:¬a.length=b.length):eV (some false) a b:=⟨false,rfl,by simp[aeA h]⟩
theorem QA{a b:List bW}(d:a.length<=reachBytes):eV (yn (a,b)) a b:=by
 rw[yn];by_cases af:a.length=b.length
 . rw[b'];have ag:=dA d;have:=scan (λi=>o' (a,b,(a.length:Int),(i:Int))) a.length (λi=>hK (a.getD i bV).ad (b.getD i bV).ad&&(i' (a.getD i bV).Data (b.getD i bV).Data&&true)) (.inl false) (.inr ())
    (λi e=>by
     rw[o',br,ae (aP e)];simp only[aS,ao,aZ];rw[ae (aP (by omega)),bC]
     grind)
    (by rw[o',bw])
   have h0:o' (a,b,(a.length:Int),((0:Nat):Int))=o' (a,b,(a.length:Int),0):=rfl;simp only[h0]at this;refine eV.F8 (p:=λi=>hK (a.getD i bV).ad (b.getD i bV).ad&&(i' (a.getD i bV).Data (b.getD i bV).Data&&true)) af (λi h1 c=>by simp only[dv h1,dv c];exact Qy) ?_;grind
 . rw[br];exact v7 af
theorem aeB{a b:List c3}(d:a.length<=reachBytes):eV (Cu (a,b)) a b:=by
 rw[Cu];by_cases af:a.length=b.length
 . rw[b'];have ag:=dA d;have:=scan (λi=>pG (a,b,(a.length:Int),(i:Int))) a.length (λi=>hK (a.getD i dK).ad (b.getD i dK).ad&&(i' (a.getD i dK).Name (b.getD i dK).Name&&true)) (.inl false) (.inr ())
    (λi e=>by
     rw[pG,br,ae (aP e)];simp only[aS,ao,aZ];rw[ae (aP (by omega)),bC]
     grind)
    (by rw[pG,bw])
   have h0:pG (a,b,(a.length:Int),((0:Nat):Int))=pG (a,b,(a.length:Int),0):=rfl;simp only[h0]at this;refine eV.F8 (p:=λi=>hK (a.getD i dK).ad (b.getD i dK).ad&&(i' (a.getD i dK).Name (b.getD i dK).Name&&true)) af (λi h1 c=>by simp only[dv h1,dv c];exact Qz) ?_;grind
 . rw[br];exact v7 af
theorem Eo(v:I):(⟨v.Kind,v.bN,v.bc,v.bl,v.ad,v.ay,v.aj,v.Rest⟩:I)=v:=by cases v;rfl
theorem Lj{a b:I}:a=b↔a.Kind=b.Kind/\a.bN=b.bN/\a.bc=b.bc/\a.bl=b.bl/\a.ad=b.ad/\a.Rest=b.Rest/\a.ay=b.ay/\a.aj=b.aj:=by
 constructor
 . grind
 . cases a;cases b;grind
section
variable {f:I×I->Option Bool}
theorem Iu {a b:List I}(af:a.length=b.length)(ih:∀x,x∈a->∀y,eV (f (x,y)) x y)(L:Nat->Option (Bool ⊕ Unit))
 (l:∀i,i<a.length->L i=(f (I.eta (a.getD i av),I.eta (b.getD i av))>>=λr=>if !r then some (.inl false)else L (i+1)))
 (j:L a.length=some (.inr ())):eV (L 0>>=λo=>match o with|.inl x=>some x|.inr _=>some true) a b:=by
 have d:∀(i:Nat) (h1:i<a.length) (c:i<b.length),eV (f (I.eta (a.getD i av),I.eta (b.getD i av))) a[i] b[i]:=by
  intro i h1 c;rw[dv h1,dv c,I.aV,I.aV];grind
 have:=scan L a.length (λi=>(f (I.eta (a.getD i av),I.eta (b.getD i av))).getD false) (.inl false) (.inr ())
  (λi k=>by
   obtain⟨r,h1,c⟩:=d i k (by omega)
   grind) j
 refine eV.F8 af (λi h1 c=>?_) ?_ (p:=λi=>(f (I.eta (a.getD i av),I.eta (b.getD i av))).getD false)
 . obtain⟨r,e,g⟩:=d i h1 c;rw[e];exact g
 . rcases this with⟨h1,c⟩|⟨h1,c⟩
   . exact .inl ⟨by rw[h1];rfl,c⟩
   . exact .inr ⟨by rw[h1];rfl,c⟩
end
theorem Oe{a b:List I}(c:a.length<=reachBytes)(ih:∀x,x∈a->∀y,eV (pK (x,y)) x y):eV (vK (a,b)) a b:=by
 rw[vK];by_cases af:a.length=b.length
 . rw[b'];have ag:=dA c;exact Iu af ih (λi=>vI (b,a,(a.length:Int),(i:Int)))
    (λi d=>by
     rw[vI,br,ae (aP d),ae (aP (by omega)),bC]
     rfl)
    (by rw[vI,bw])
 . rw[br];exact v7 af
theorem Of{a b:List I}(c:a.length<=reachBytes)(ih:∀x,x∈a->∀y,eV (lV (x,y)) x y):eV (yl (a,b)) a b:=by
 rw[yl];by_cases af:a.length=b.length
 . rw[b'];have ag:=dA c;exact Iu af ih (λi=>vJ (b,a,(a.length:Int),(i:Int)))
    (λi d=>by
     rw[vJ,br,ae (aP d),ae (aP (by omega)),bC]
     rfl)
    (by rw[vJ,bw])
 . rw[br];exact v7 af
theorem Og{a b:List I}(c:a.length<=reachBytes)(ih:∀x,x∈a->∀y,eV (jH (x,y)) x y):eV (yq (a,b)) a b:=by
 rw[yq];by_cases af:a.length=b.length
 . rw[b'];have ag:=dA c;exact Iu af ih (λi=>vl (a,b,(i:Int)))
    (λi d=>by
     rw[vl,br,ae (aP d),ae (aP (by omega)),bC]
     rfl)
    (by rw[vl,bw])
 . rw[br];exact v7 af
theorem three{a b:I}{bf:Bool}(jT:bf=true↔a.Kind=b.Kind/\a.bN=b.bN/\a.bc=b.bc/\a.bl=b.bl/\a.ad=b.ad){y z:Option Bool}(l:eV x a.Rest b.Rest)(o:eV y a.ay b.ay)(s:eV z a.aj b.aj):
 eV (some bf>>=λt37=>(if t37 then x else some false)>>=λr=>some (bif t37 then r else false)>>=λt44=>(if t44 then y else some false)>>=λv=>some (bif t44 then v else false)>>=λt51=>(if t51 then z else some false)>>=λw=>some (bif t51 then w else false)) a b:=by
 obtain⟨j,m,n⟩:=l;obtain⟨k,p,q⟩:=o;obtain⟨A,t,u⟩:=s;subst m;subst p;subst t;refine⟨bf&&j&&k&&A,?_,?_⟩
 . cases bf<;>cases j<;>cases k<;>rfl
 . rw[Lj];simp only[c5];rw[jT,n,q,u];constructor
   . rintro ⟨⟨⟨⟨h1,c,d,e,bf⟩,f⟩,g⟩,i⟩;exact⟨h1,c,d,e,bf,f,g,i⟩
   . rintro ⟨h1,c,d,e,bf,f,g,i⟩;exact⟨⟨⟨⟨h1,c,d,e,bf⟩,f⟩,g⟩,i⟩
theorem SB{a b:I}:(bif bif bif bif decide (a.Kind=b.Kind)then fy a.bN b.bN else false then decide (a.bc=b.bc)else false then decide (a.bl=b.bl)else false then decide (a.ad=b.ad)else false)=true↔a.Kind=b.Kind/\a.bN=b.bN/\a.bc=b.bc/\a.bl=b.bl/\a.ad=b.ad:=by
 simp only[yG,fy];grind
theorem KO{a:I}(h:bK a):∀b,eV (pK (a,b)) a b:=by
 induction h with
 |mk a hs h1 c d i g ag dc j k l f e=>
  intro b;rw[pK];exact three SB (QA d) (Oe h1 f) (Oe c e)
theorem Ds{a:I}(h:bK a):∀b,eV (lV (a,b)) a b:=by
 induction h with
 |mk a hs h1 c d i g ag dc j k l f e=>
  intro b;rw[lV];exact three SB (QA d) (Of h1 f) (Of c e)
theorem D7{a:I}(h:bK a):∀b,eV (jH (a,b)) a b:=by
 induction h with
 |mk a hs h1 c k u t ag dc x y z q p=>
  intro b;rw[jH];by_cases bf:a.Kind=b.Kind/\a.bN=b.bN/\a.bc=b.bc/\a.bl=b.bl/\a.ad=b.ad/\a.Rest.length=b.Rest.length
  . obtain⟨aN,g,dx,hI,jT,o7⟩:=bf;rw[al (by simp[aN,g,dx,hI,jT,o7,fy])];have v:=dA k;have f:=scan (λi=>pa ((i:Int),a,b)) a.Rest.length (λi=>hK (a.Rest.getD i bV).ad (b.Rest.getD i bV).ad&&(i' (a.Rest.getD i bV).Data (b.Rest.getD i bV).Data&&true)) (.inl false) (.inr (a,b))
     (λi l=>by
      rw[pa,br,ae (aP l)];simp only[aS,ao,aZ,I.aV];rw[ae (aP (by omega)),bC]
      grind)
     (by rw[pa,bw,I.aV,I.aV])
    have h0:pa (((0:Nat):Int),a,b)=pa (0,a,b):=rfl;simp only[h0]at f;rw[Eo,Eo];have m:∀(i:Nat) (h1:i<a.Rest.length) (c:i<b.Rest.length),(hK (a.Rest.getD i bV).ad (b.Rest.getD i bV).ad&&(i' (a.Rest.getD i bV).Data (b.Rest.getD i bV).Data&&true))=true↔a.Rest[i]=b.Rest[i]:=λi h1 c=>by rw[dv h1,dv c];exact Qy
    rcases f with⟨d,e⟩|⟨d,j,e,s⟩
    . have w:=(vM o7 m).1 e;rw[d];obtain⟨ko,k1,k2⟩:=Og (a:=a.ay) (b:=b.ay) h1 q;obtain⟨r,n,o⟩:=Og (a:=a.aj) (b:=b.aj) c p;simp only[aS,ao];rw[k1,n];refine⟨ko&&r,by cases ko<;>rfl,?_⟩;rw[Lj,c5,k2,o];grind
    . rw[d];refine⟨false,rfl,?_⟩;grind
  . rw[ae]
    . refine⟨false,rfl,?_⟩;grind
    . simp only[yG,fy];grind
def mX(c:Int):Bool:=decide (c=95\/(97<=c/\c<=122)\/(65<=c/\c<=90))
def AE(c:Int):Bool:=decide (48<=c/\c<=57)
theorem Ep(c:Int):y5 c=some (mX c):=by
 rw[y5];unfold mX;grind
theorem Lk(c:Int):yj c=some (mX c):=by
 rw[yj];unfold mX;grind
theorem abS(c:Int):CX c=some (AE c):=by
 rw[CX];unfold AE;grind
theorem abT(c:Int):CF c=some (AE c):=by
 rw[CF];unfold AE;grind
theorem Mg{f:Type}(A B cw:Bool)(a b:Option f)(c:cw=true):
 (some A>>=λd=>some (!d)>>=λt26=>if(cw||(!t26)) then(if t26 then some B else some false)>>=λe=>if(bif t26 then(!e)else false) then a else b else none)=if(A||B) then b else a:=by
 subst c;cases A<;>cases B<;>rfl
theorem Oh(s:ak):∃r,kJ s=some r/\s4 s=some r:=by
 rw[kJ,s4];simp only[aS,ao];by_cases d:s=[]\/24<s.length
 . have ht:(bif decide (s=[])then true else decide (24<(s.length:Int)))=true:=(by grind);rw[ht];simp_all
 . have f:s≠[]:=λh=>d (.inl h);have l:s.length<=24:=(by omega);have ht:(bif decide (s=[])then true else decide (24<(s.length:Int)))=false:=(by grind);have g:0<s.length:=ux.2 f;have e:aG 0 s.length=true:=aP (k:=0) g;simp only[ht,e,Cc,b5,eU,ao,Ep,Lk,dW];cases af:mX (fI s 0)with
   |false=>exact⟨false,rfl,rfl⟩
   |true=>
    rw[bw,bw];let p:Nat->Bool:=λi=>mX (fI s i)||AE (fI s i);have s1:=scan (λi=>lg (s,(s.length:Int),(i:Int))) s.length p (.inl false) (.inr ())
     (λi a=>by
      rw[lg,br,ae (aP a),Ep,abS,bC]
      exact Mg _ _ _ _ _ (aP a))
     (by rw[lg,bw])
    have b:=scan (λi=>po (s,(i:Int))) s.length p (.inl false) (.inr ())
     (λi a=>by
      rw[po,br,ae (aP a),Lk,abT,bC]
      exact Mg _ _ _ _ _ (aP a))
     (by rw[po,bw])
    have aN:lg (s,(s.length:Int),((0:Nat):Int))=lg (s,(s.length:Int),0):=rfl;have c:po (s,((0:Nat):Int))=po (s,0):=rfl;simp only[aN,c]at s1 b;rcases s1 with⟨a1,a2⟩|⟨a1,j,a2,a3⟩<;>rcases b with⟨b1,b2⟩|⟨b1,k,b2,b3⟩
    . simp_all
    . grind
    . grind
    simp_all
def nm(s:ak):Bool:=(kJ s).getD false
theorem tO(s:ak):kJ s=some (nm s):=by
 obtain⟨r,h1,_⟩:=Oh s;unfold nm;rw[h1];rfl
theorem AN(s:ak):s4 s=some (nm s):=by
 obtain⟨r,h1,a⟩:=Oh s;unfold nm;rw[h1,a];rfl
theorem FQ{s:ak}(h:nm s=true):s≠[]:=by
 rintro rfl
 unfold nm at h;rw[kJ]at h;simp at h
def kj(l:ar)(names:List ak)(i:Nat):Bool:=
 decide (1<=l.getD i 0)&&decide (l.getD i 0<=1000)&&(decide (i=0)||decide (l.getD (i-1) 0<l.getD i 0))&&nm (names.getD i []) && !((names.take i).contains (names.getD i []))
def kU(l:List ak):List ak:=l.foldl iN []
theorem abU(ks:List ak)(a s:ak):js (iN ks a) s=(js ks s||decide (a=s)):=by
 unfold iN;split
 . grind
 . simp[js,List.any_append]
theorem KP(l:List ak)(s:ak):js (kU l) s=l.contains s:=by
 have key:∀(l:List ak) (ks:List ak),js (l.foldl iN ks) s=(js ks s||l.contains s):=by
  intro l;induction l with
  |nil=>intro ks;simp
  |cons a r ih=>
   intro ks;rw[List.foldl_cons,ih,abU,Bool.or_assoc];grind
 have:=key l [];simpa[kU,js]using this
theorem KQ{l:List ak}{i:Nat}(h:i<l.length):iN (kU (l.take i)) (l.getD i [])=kU (l.take (i+1)):=by
 unfold kU;rw[F4,List.foldl_append,e9 h,dv h];rfl
theorem acL{g:Type}(A a b C cw H N:Bool)(c d:Option g)(e:cw=true)(f:a=true->b=true):
 (if(b||(!((!A)&&a))) then
  some (bif A then true else bif a then C else false)>>=λt34=>
  if(cw||(!(!t34))) then
   some (bif t34 then true else H)>>=λt42=>
   if(cw||(!(!t42))) then
    (if !t42 then some N else some false)>>=λr=>
    if(bif t42 then true else(!r)) then c else(if cw then d else none)
   else none
  else none
 else none)=if !A&&(!a || !C)&&N && !H then d else c:=by
 subst e;cases a with
 |true=>have:=f rfl;subst this;cases A<;>cases C<;>cases H<;>cases N<;>rfl
 |false=>cases A<;>cases b<;>cases C<;>cases H<;>cases N<;>rfl
theorem QB{l:ar}(af:l.length<=reachBytes)(aH:names.length=l.length):∃r,zX (l,names)=some r/\(r=true↔(∀i,i<l.length->kj l names i=true)/\l.length<=16):=by
 rw[zX];have ag:=dA af;have b:=scan (λi=>qd (l,names,l,(l.length:Int),(i:Int),kU (names.take i))) l.length (kj l names) (.inl false) (.inr l)
  (λi d=>by
   have a:i<names.length:=(by omega);rw[qd,br,ae (aP d)];simp only[aZ];rw[tO,bC,KQ a,KP];have f:0<i->c9 .i64 (i:Int) 1=((i-1:Nat):Int):=by intro h;rw[gS];omega
   refine(acL (bif decide (l.getD i 0<1)then true else decide (1000<l.getD i 0)) (decide ((0:Int)<(i:Int))) (aG (c9 .i64 (i:Int) 1) l.length) (decide (l.getD i 0<=l.getD (c9 .i64 (i:Int) 1).toNat 0)) (aG (i:Int) names.length) ((names.take i).contains (names.getD i [])) (nm (names.getD i [])) _ _ (aP a) (λg=>?_)).trans ?_
   . have e:0<i:=by simp at g;omega
     rw[f e];exact aP (by omega)
   . have:(!(bif decide (l.getD i 0<1)then true else decide (1000<l.getD i 0))&&(!(decide ((0:Int)<(i:Int))) || !(decide (l.getD i 0<=l.getD (c9 .i64 (i:Int) 1).toNat 0)))&&nm (names.getD i []) && !((names.take i).contains (names.getD i [])))=kj l names i:=by
      unfold kj;grind
     rw[this])
  (by rw[qd,bw])
 have c4:qd (l,names,l,(l.length:Int),((0:Nat):Int),kU (names.take 0))=qd (l,names,l,(l.length:Int),0,[]):=rfl;simp only[c4]at b;rcases b with⟨h1,c⟩|⟨h1,j,c,k⟩
 . rw[h1];refine⟨decide ((l.length:Int)<=16),rfl,?_⟩;grind
 . rw[h1];refine⟨false,rfl,?_⟩;grind
theorem Cw{k n:Nat}(a:k<=16)(h:n*24<=reachBytes:=by simp;omega):room k n=true:=by
 unfold room hZ dY;unfold reachBytes at h;simp only[c5,eT];have:(2*n+192)*k<=(2*n+192)*16:=Nat.mul_le_mul_left _ a;omega
theorem vS(l:List α)(i:Nat)(d:α)(h:i<l.length):l.take i++[l.getD i d]=l.take (i+1):=by simp_all
theorem h2{a:Type}(f:α->a)(l:List α)(i:Nat)(d:α)(e:a)(h:i<l.length):(l.map f).getD i e=f (l.getD i d):=by grind
theorem qf{l:List ak}{i:Nat}{s:ak}(b:i<=l.length:=by simp;omega):(l.take i).contains s=true↔∃k,k<i/\l.getD k []=s:=by
 rw[List.contains_iff_mem];constructor
 . intro h;obtain⟨k,a,he⟩:=e1 h;rw[oF]at a;refine⟨k,by omega,?_⟩;grind
 . rintro ⟨k,a,he⟩
   rw[<-he,dv (by omega)];have:(l.take i)[k]'(by rw[oF];omega)=l[k]:=List.getElem_take;grind
def lO(l:ar)(i:Nat):Int:=if i=0 then 0 else l.getD (i-1) 0
theorem Oi{l:ar}{i:Nat}(e:i<l.length)(aH:names.length=l.length):
 kj l names i=(decide (lO l i<l.getD i 0)&&decide (1<=l.getD i 0)&&decide (l.getD i 0<=1000)&&nm (names.getD i []) && !((names.take i).contains (names.getD i []))):=by
 unfold kj lO;generalize l.getD i 0=x;generalize l.getD (i-1) 0=y;generalize nm (names.getD i [])=a;generalize (names.take i).contains (names.getD i [])=b;by_cases h0:i=0
 . subst h0;by_cases h1:1<=x
   . have:decide ((0:Int)<x)=true:=by simp;omega
     simp[h1,this]
   . simp[h1]
 . simp only[h0,b6,dk,Bool.false_or];by_cases h1:1<=x<;>by_cases c:x<=1000<;>by_cases d:y<x<;>simp[h1,c,d]
theorem Kl(l:List c3)(af:l.length*24<=reachBytes):∀(k i:Nat),i+k=l.length->qT (l,l,(l.length:Int),(i:Int),(l.map (·.ad)).take i,(l.map (·.Name)).take i)=some (l,l.map (·.ad),l.map (·.Name))
 |0,i,h=>by
  have:i=l.length:=by omega
  subst this;rw[qT,bw];rw[qk (by simp),qk (by simp)]
 |k+1,i,h=>by
  have ag:l.length<9223372036854775807:=by unfold reachBytes at af;omega
  have a:i<l.length:=by omega
  rw[qT,br,ae (aP a)];simp only[aS,ao,aZ];rw[<-h2 (·.ad) l i dK 0 a,<-h2 (·.Name) l i dK [] a,vS _ _ _ (by simpa using a),vS _ _ _ (by simpa using a)];rw[ae (Cw (by omega)),ae (Cw (by omega)),bC];exact Kl l af k (i+1) (by omega)
theorem Oj{l:List c3}(af:l.length*24<=reachBytes):∃r,wj l=some r/\(r=true↔0<l.length/\(∀i,i<l.length->kj (l.map (·.ad)) (l.map (·.Name)) i=true)/\l.length<=16):=by
 have h:=Kl l af l.length 0 (by omega);have a:qT (l,l,(l.length:Int),0,[],[])=some (l,l.map (·.ad),l.map (·.Name)):=h;rw[wj,a];simp only[aS,ao];obtain⟨r,h1,b⟩:=QB (l:=l.map (·.ad)) (names:=l.map (·.Name)) (by simp;unfold reachBytes at*;omega) (by simp);rw[km]at b;grind
theorem Tf(a b:Int):y8 (a,b)=some (decide (a<b)&&decide (1<=b)&&decide (b<=1000)):=by
 rw[y8];grind
theorem aaU(l:List c3)(af:l.length<=reachBytes)(i:Nat)(b:i<l.length):
 n2 (l,(i:Int),0)=some (if((l.map (·.Name)).take i).contains ((l.map (·.Name)).getD i []) then .inl false else .inr (l,(i:Int))):=by
 have ag:=dA af;have d:=scan (λk=>n2 (l,(i:Int),(k:Int))) i (λk=>!(decide ((l.getD k dK).Name=(l.getD i dK).Name))) (.inl false) (.inr (l,(i:Int)))
  (λk c=>by
   rw[n2,br,ae (aP (by omega)),ae (aP b),bC]
   grind)
  (by rw[n2,bw])
 have c4:n2 (l,(i:Int),((0:Nat):Int))=n2 (l,(i:Int),0):=rfl;simp only[c4]at d;rw[h2 (·.Name) l i dK [] b];rcases d with⟨h1,a⟩|⟨h1,j,a,e⟩
 . rw[h1,al];rw[qf]
   rintro ⟨k,c,he⟩
   rw[h2 (·.Name) l k dK [] (by omega)]at he;have:=a k c;rw[he]at this;simp at this
 . rw[h1,ae];rw[qf];refine⟨j,a,?_⟩;rw[h2 (·.Name) l j dK [] (by omega)];simpa using e
theorem acM{l:List c3}(af:l.length<=reachBytes):∃r,yO l=some r/\(r=true↔0<l.length/\(∀i,i<l.length->kj (l.map (·.ad)) (l.map (·.Name)) i=true)/\l.length<=16):=by
 have ag:=dA af;have b:=scan (λi=>pg (l,lO (l.map (·.ad)) i,(i:Int))) l.length (kj (l.map (·.ad)) (l.map (·.Name))) (.inl false) (.inr l)
  (λi a=>by
   rw[pg,br,ae (aP a),Tf,aaU l af i a,Oi (by simpa using a) (by simp)];simp only[aS,ao,aZ];rw[<-h2 (·.ad) l i dK 0 a,<-h2 (·.Name) l i dK [] a,AN];generalize (decide (lO (l.map (·.ad)) i<(l.map (·.ad)).getD i 0)&&decide (1<=(l.map (·.ad)).getD i 0)&&decide ((l.map (·.ad)).getD i 0<=1000))=q;rw[ae (by rw[aP a];rfl)];cases q with
   |false=>rfl
   |true=>
    simp only[c8,eU,b5,ao,nd];cases nm ((l.map (·.Name)).getD i [])with
    |false=>rfl
    |true=>
     simp only[c8,dW,bY,b6,nd];cases e:((l.map (·.Name)).take i).contains ((l.map (·.Name)).getD i [])with
     |true=>simp
     |false=>
      simp only[bY,b6,eU,b5];rw[ae (aP a),bC];have:lO (l.map (·.ad)) (i+1)=(l.getD i dK).ad:=by
       unfold lO;grind
      grind)
  (by rw[pg,bw])
 have c4:pg (l,lO (l.map (·.ad)) 0,((0:Nat):Int))=pg (l,0,0):=rfl;simp only[c4]at b;rw[yO];rcases b with⟨h1,c⟩|⟨h1,j,c,d⟩
 . rw[h1];refine⟨_,rfl,?_⟩;grind
 . rw[h1];refine⟨false,rfl,?_⟩;grind
theorem abN{l:List c3}(af:l.length*24<=reachBytes):∃r,wj l=some r/\yO l=some r:=by
 obtain⟨r,h1,a⟩:=Oj af;obtain⟨q,b,c⟩:=acM (l:=l) (by unfold reachBytes at*;omega);grind
structure eZ (t:ai):Prop where
 syms:t.bh.length*24<=reachBytes
 gY:t.ah.length*24<=reachBytes
 iG:∀m,m∈t.ah->bK m.bA
theorem ig{n:Nat}(h:n*24<=reachBytes):n<=reachBytes:=by unfold reachBytes at*;omega
theorem aaV{a b:aU}:a=b↔a.ad=b.ad/\a.Name=b.Name/\a.aw=b.aw/\a.ch=b.ch/\a.bU=b.bU/\a.bA=b.bA:=by cases a;cases b;simp
theorem jo(x:aU):(⟨x.ad,x.Name,x.aw,x.ch,x.bU,I.eta x.bA⟩:aU)=x:=by cases x;simp[I.aV]
theorem SC{a b:aU}:(bif bif bif bif decide (a.ad=b.ad)then decide (a.Name=b.Name)else false then decide (a.aw=b.aw)else false then fy a.ch b.ch else false then fy a.bU b.bU else false)=true↔a.ad=b.ad/\a.Name=b.Name/\a.aw=b.aw/\a.ch=b.ch/\a.bU=b.bU:=by
 simp only[yG,fy];grind
theorem Tm{a b:aU}(f:q=true↔a.ad=b.ad/\a.Name=b.Name/\a.aw=b.aw/\a.ch=b.ch/\a.bU=b.bU)(g:eV x a.bA b.bA):
 eV (some q>>=λt37=>(if t37 then x else some false)>>=λr=>some (bif t37 then r else false)) a b:=by
 obtain⟨d,h1,e⟩:=g;subst h1;refine⟨q&&d,by cases q<;>cases d<;>rfl,?_⟩;rw[aaV,c5,f,e];constructor
 . rintro ⟨⟨a1,a2,a3,a4,a5⟩,c⟩;exact⟨a1,a2,a3,a4,a5,c⟩
 . rintro ⟨a1,a2,a3,a4,a5,c⟩;exact⟨⟨a1,a2,a3,a4,a5⟩,c⟩
theorem abO{a:aU}(h:bK a.bA)(b:aU):eV (y4 (a,b)) a b:=by
 rw[y4];simp only[Eo,I.aV];exact Tm SC (Ds h _)
theorem abP{a:aU}(h:bK a.bA)(b:aU):eV (ys (a,b)) a b:=by
 rw[ys];simp only[Eo,I.aV];exact Tm SC (D7 h _)
theorem K0{m:Type}{g:m}{a b:List aU}(af:a.length=b.length)(ih:∀x,x∈a->∀y,eV (f (x,y)) x y)(L:Nat->Option (Bool ⊕ m))
 (q:∀i,i<a.length->L i=(f (a.getD i aC,b.getD i aC)>>=λr=>if !r then some (.inl false)else L (i+1)))
 (n:L a.length=some (.inr g)):(L 0=some (.inr g)/\a=b)\/(L 0=some (.inl false)/\a≠b):=by
 have k:∀(i:Nat) (h1:i<a.length) (c:i<b.length),eV (f (a.getD i aC,b.getD i aC)) a[i] b[i]:=by grind
 have l:∀(i:Nat) (h1:i<a.length) (c:i<b.length),(f (a.getD i aC,b.getD i aC)).getD false=true↔a[i]=b[i]:=by
  intro i h1 c;obtain⟨r,d,p⟩:=k i h1 c;grind
 have:=scan L a.length (λi=>(f (a.getD i aC,b.getD i aC)).getD false) (.inl false) (.inr g)
  (λi o=>by
   obtain⟨r,h1,c⟩:=k i o (by omega)
   grind) n
 rcases this with⟨h1,c⟩|⟨h1,j,c,d⟩
 . exact .inl ⟨h1,(vM af l).1 c⟩
 . refine .inr ⟨h1,λe=>?_⟩;have:=(vM af l).2 e j c;rw[d]at this;cases this
theorem Zw{a b:List aU}(d:a.length<=reachBytes)(e:∀m,m∈a->bK m.bA):eV (Cs (a,b)) a b:=by
 rw[Cs];by_cases af:a.length=b.length
 . rw[b'];have ag:=dA d;have hs:=K0 (g:=()) af (f:=y4) (λx k y=>abO (e x k) y) (λi=>pC (b,a,(a.length:Int),(i:Int)))
    (λi j=>by
     rw[pC,br,ae (aP j)];simp only[aS,ao,aZ,jo]
     rw[ae (aP (by omega)),bC])
    (by rw[pC,bw])
   have c4:pC (b,a,(a.length:Int),((0:Nat):Int))=pC (b,a,(a.length:Int),0):=rfl;simp only[c4]at hs;rcases hs with⟨h1,c⟩|⟨h1,c⟩
   . rw[h1];exact⟨true,rfl,by simp[c]⟩
   . rw[h1];exact⟨false,rfl,by simp[c]⟩
 . rw[br];exact v7 af
theorem Mh{a b:ai}:a=b↔a.Kind=b.Kind/\a.Name=b.Name/\a.bE=b.bE/\a.bH=b.bH/\a.Max=b.Max/\a.Key=b.Key/\a.aF=b.aF/\a.Open=b.Open/\a.bh=b.bh/\a.ah=b.ah:=by
 cases a;cases b;grind
theorem aeC{a b:ai}:(bif bif bif bif bif bif bif decide (a.Kind=b.Kind)then decide (a.Name=b.Name)else false then decide (a.bE=b.bE)else false then decide (a.bH=b.bH)else false then decide (a.Max=b.Max)else false then decide (a.Key=b.Key)else false then decide (a.aF=b.aF)else false then fy a.Open b.Open else false)=true↔
 a.Kind=b.Kind/\a.Name=b.Name/\a.bE=b.bE/\a.bH=b.bH/\a.Max=b.Max/\a.Key=b.Key/\a.aF=b.aF/\a.Open=b.Open:=by
 simp only[yG,fy];by_cases h1:a.Kind=b.Kind<;>by_cases c:a.Name=b.Name<;>by_cases d:a.bE=b.bE<;>by_cases e:a.bH=b.bH<;>simp[h1,c,d,e];by_cases bf:a.Max=b.Max<;>by_cases f:a.Key=b.Key<;>by_cases g:a.aF=b.aF<;>simp[bf,f,g]
theorem iR{a:ai}(h:eZ a)(b:ai):eV (hY (a,b)) a b:=by
 rw[hY];obtain⟨d,s1,g⟩:=aeB (a:=a.bh) (b:=b.bh) (ig h.syms);obtain⟨c,e,f⟩:=Zw (a:=a.ah) (b:=b.ah) (ig h.gY) h.iG;have e8:=aeC (a:=a) (b:=b);generalize (bif bif bif bif bif bif bif decide (a.Kind=b.Kind)then decide (a.Name=b.Name)else false then decide (a.bE=b.bE)else false then decide (a.bH=b.bH)else false then decide (a.Max=b.Max)else false then decide (a.Key=b.Key)else false then decide (a.aF=b.aF)else false then fy a.Open b.Open else false)=q at e8⊢;simp only[aS,ao];rw[s1,e];refine⟨q&&d&&c,by cases q<;>cases d<;>cases c<;>rfl,?_⟩;rw[Mh,c5,c5,e8,g,f];grind
theorem EG(a:ai):(⟨a.Kind,a.Name,a.bE,a.bH,a.Max,a.bh,a.ah,a.Key,a.aF,a.Open⟩:ai)=a:=by cases a;rfl
theorem pV{a:ai}(h:eZ a)(b:ai):eV (C4 (a,b)) a b:=by
 rw[C4];simp only[EG];by_cases bf:(a.Kind=b.Kind/\a.Name=b.Name/\a.bE=b.bE/\a.bH=b.bH/\a.Max=b.Max/\a.Key=b.Key/\a.aF=b.aF/\a.Open=b.Open)/\a.bh.length=b.bh.length/\a.ah.length=b.ah.length
 . obtain⟨⟨aN,l,dx,hI,jT,o7,BL,e8⟩,lW,Br⟩:=bf;rw[al (by simp[aN,l,dx,hI,jT,o7,BL,e8,lW,Br,fy])];have ag:=dA (ig h.syms);have v:=dA (ig h.gY);have k:=scan (λi=>pc ((i:Int),a,b)) a.bh.length (λi=>hK (a.bh.getD i dK).ad (b.bh.getD i dK).ad&&(i' (a.bh.getD i dK).Name (b.bh.getD i dK).Name&&true)) (.inl false) (.inr (a,b))
    (λi n=>by
     rw[pc,br,ae (aP n)];simp only[aS,ao,aZ];rw[ae (aP (by omega)),bC]
     grind)
    (by rw[pc,bw])
   have h0:pc (((0:Nat):Int),a,b)=pc (0,a,b):=rfl;simp only[h0]at k;have o:∀(i:Nat) (h1:i<a.bh.length) (e:i<b.bh.length),(hK (a.bh.getD i dK).ad (b.bh.getD i dK).ad&&(i' (a.bh.getD i dK).Name (b.bh.getD i dK).Name&&true))=true↔a.bh[i]=b.bh[i]:=λi h1 e=>by rw[dv h1,dv e];exact Qz
   rcases k with⟨c,d⟩|⟨c,j,d,u⟩
   . have w:=(vM lW o).1 d;rw[c];simp only[aS,ao];have hs:=K0 (g:=()) Br (f:=ys) (λx p y=>abP (h.iG x p) y) (λi=>pd ((i:Int),a,b))
      (λi m=>by
       rw[pd,br,ae (aP m)];simp only[aS,ao,aZ,jo]
       rw[ae (aP (by omega)),bC])
      (by rw[pd,bw])
     have c4:pd (((0:Nat):Int),a,b)=pd (0,a,b):=rfl;simp only[c4]at hs;rcases hs with⟨k1,k2⟩|⟨k1,k2⟩
     . rw[k1];refine⟨true,rfl,?_⟩;rw[Mh];grind
     . rw[k1];refine⟨false,rfl,?_⟩;grind
   . rw[c];refine⟨false,rfl,?_⟩;grind
 . rw[ae]
   . refine⟨false,rfl,?_⟩;grind
   . simp only[yG,fy];by_cases q:a.Kind=b.Kind<;>by_cases r:a.Name=b.Name<;>by_cases s:a.bE=b.bE<;>by_cases t:a.bH=b.bH<;>simp[q,r,s,t];grind
def p2(v:I):Bool:=(lV (v,av)).getD false
theorem acN(h:bK v):lV (v,av)=some (p2 v):=by
 obtain⟨r,h1,a⟩:=Ds h av;unfold p2;rw[h1];rfl
theorem acO(h:bK v):jH (v,av)=some (p2 v):=by
 obtain⟨r,h1,b⟩:=Ds h av;obtain⟨q,a,c⟩:=D7 h av;unfold p2;rw[h1,a];grind
theorem abV(h:bK v):DE v=some (p2 v):=by
 rw[DE,I.aV];have:=acN h;unfold av at this;grind
def mA(a:Bool)(m:aU):Bool:=(a&&(m.ch||m.bU))||(m.ch&&m.bU)||(!m.bU && !p2 m.bA)
theorem bd{l:List α}{i:Nat}(h:i<l.length)(d:α):l.getD i d∈l:=by grind
theorem Km(h:eZ t):∃r,tk t=some r/\(r=true↔(∀i,i<t.ah.length->mA (decide (t.Kind=6)) (t.ah.getD i aC)=false)/\(t.Kind=5\/0<t.ah.length)/\(∀i,i<t.ah.length->kj (t.ah.map (·.ad)) (t.ah.map (·.Name)) i=true)/\t.ah.length<=16):=by
 have ag:t.ah.length<9223372036854775807:=dA (ig h.gY);have c:=scan (λi=>p8 (t.ah,(t.ah.length:Int),(i:Int),t,(t.ah.map (·.ad)).take i,(t.ah.map (·.Name)).take i)) t.ah.length (λi=>!(mA (decide (t.Kind=6)) (t.ah.getD i aC))) (.inl false) (.inr (t,t.ah.map (·.ad),t.ah.map (·.Name)))
  (λi a=>by
   have k:=abV (h.iG _ (bd a aC));rw[p8,br,ae (aP a)];simp only[aS,ao,aZ,I.aV];rw[<-h2 (·.ad) t.ah i aC 0 a,<-h2 (·.Name) t.ah i aC [] a,vS _ _ _ (by simpa using a),vS _ _ _ (by simpa using a)];have f:((t.ah.map (·.ad)).take (i+1)).length*24<=reachBytes:=by
    refine gp (eX _ ?_) h.gY;simp;omega
   have g:((t.ah.map (·.Name)).take (i+1)).length*24<=reachBytes:=(by grind);rw[ae (Cw (by omega) f),ae (Cw (by omega) g),bC,k];unfold mA
   grind)
  (by
   rw[p8,bw]
   rw[qk (by simp),qk (by simp)])
 have c4:p8 (t.ah,(t.ah.length:Int),((0:Nat):Int),t,(t.ah.map (·.ad)).take 0,(t.ah.map (·.Name)).take 0)=p8 (t.ah,(t.ah.length:Int),0,t,[],[]):=rfl;simp only[c4]at c;rw[tk];obtain⟨r,h1,e⟩:=QB (l:=t.ah.map (·.ad)) (names:=t.ah.map (·.Name)) (by simpa using ig h.gY) (by simp);rw[km]at e;rcases c with⟨b,d⟩|⟨b,j,d,m⟩
 . rw[b];simp only[aS,ao];rw[h1];refine⟨(bif decide (t.Kind=5)then true else decide (0<((t.ah.map (·.ad)).length:Int)))&&r,?_,?_⟩
   . grind
   grind
 grind
theorem aaW(l:List aU)(record:Bool)(af:l.length<=reachBytes)(i:Nat)(e:i<l.length):
 n3 (l,record,(i:Int),0,l.getD i aC)=some (if((l.map (·.Name)).take i).contains ((l.map (·.Name)).getD i []) then .inl false else .inr (l,record,(i:Int),l.getD i aC)):=by
 have ag:=dA af;have c:=scan (λk=>n3 (l,record,(i:Int),(k:Int),l.getD i aC)) i (λk=>!(decide ((l.getD k aC).Name=(l.getD i aC).Name))) (.inl false) (.inr (l,record,(i:Int),l.getD i aC))
  (λk b=>by
   rw[n3,br,ae (aP (by omega)),bC];simp only[aZ,jo]
   grind)
  (by rw[n3,bw,jo])
 have c4:n3 (l,record,(i:Int),((0:Nat):Int),l.getD i aC)=n3 (l,record,(i:Int),0,l.getD i aC):=rfl;simp only[c4]at c;rw[h2 (·.Name) l i aC [] e];rcases c with⟨h1,a⟩|⟨h1,j,a,d⟩
 . rw[h1,al];rw[qf]
   rintro ⟨k,b,he⟩
   rw[h2 (·.Name) l k aC [] (by omega)]at he;have:=a k b;rw[he]at this;simp at this
 . rw[h1,ae];rw[qf];refine⟨j,a,?_⟩;rw[h2 (·.Name) l j aC [] (by omega)];simpa using d
theorem aaX{l:List aU}{record:Bool}(af:l.length<=reachBytes)(f:∀m,m∈l->bK m.bA):∃r,vr (l,record)=some r/\(r=true↔(∀i,i<l.length->mA (!record) (l.getD i aC)=false)/\(record=true\/0<l.length)/\(∀i,i<l.length->kj (l.map (·.ad)) (l.map (·.Name)) i=true)/\l.length<=16):=by
 have ag:=dA af;have b:=scan (λi=>ph (l,record,lO (l.map (·.ad)) i,(i:Int))) l.length (λi=>kj (l.map (·.ad)) (l.map (·.Name)) i && !(mA (!record) (l.getD i aC))) (.inl false) (.inr (l,record))
  (λi a=>by
   have c:=acO (f _ (bd a aC));unfold av at c;rw[ph,br,ae (aP a)];simp only[aS,ao,aZ,I.aV,jo,Oi (l:=l.map (·.ad)) (names:=l.map (·.Name)) (i:=i) (by simpa using a) (by simp)];rw[aaW l record af i a,c];have e:lO (l.map (·.ad)) (i+1)=(l.getD i aC).ad:=by
    unfold lO;grind
   rw[<-h2 (·.ad) l i aC 0 a,<-h2 (·.Name) l i aC [] a,Tf,AN];simp only[ao];generalize (decide (lO (l.map (·.ad)) i<(l.map (·.ad)).getD i 0)&&decide (1<=(l.map (·.ad)).getD i 0)&&decide ((l.map (·.ad)).getD i 0<=1000))=q;cases q with
   |false=>simp
   |true=>
    simp only[c8,eU,b5,ao,nd];cases nm ((l.map (·.Name)).getD i [])with
    |false=>simp
    |true=>
     simp only[c8,nd,jb,dW];unfold mA;cases record<;>cases (l.getD i aC).ch<;>cases (l.getD i aC).bU<;>cases p2 (l.getD i aC).bA <;>
      simp only[c8,eU,Bool.or_self,Bool.and_self,Bool.or_true,Cc,B',Bool.and_false,Bool.false_and,nd,Bool.false_or,jb,et,dW,b5,b6,bY,ao] <;>
      first
       |rfl
       |(cases k:((l.map (·.Name)).take i).contains ((l.map (·.Name)).getD i [])with
        |true=>simp
        |false=>
         simp only[bY,b6,eU,b5];rw[bC,e]
         try rfl))
  (by rw[ph,bw])
 have c4:ph (l,record,lO (l.map (·.ad)) 0,((0:Nat):Int))=ph (l,record,0,0):=rfl;simp only[c4]at b;rw[vr];rcases b with⟨h1,d⟩|⟨h1,j,d,g⟩
 . rw[h1];refine⟨_,rfl,?_⟩;grind
 . rw[h1];refine⟨false,rfl,?_⟩;grind
theorem Ll(h:eZ t)(d:t.Kind=5\/t.Kind=6):∃r,tk t=some r/\vr (t.ah,decide (t.Kind=5))=some r:=by
 obtain⟨r,h1,a⟩:=Km h;obtain⟨q,b,c⟩:=aaX (l:=t.ah) (record:=decide (t.Kind=5)) (ig h.gY) h.iG;have e:(!(decide (t.Kind=5)))=decide (t.Kind=6):=by grind
 grind
theorem eZ.plain{k l h m kk e:Int}{n:ak}{o:Bool}(aI:S.length*24<=reachBytes)(a:Ms.length*24<=reachBytes)(c:∀x,x∈Ms->bK x.bA):eZ ⟨k,n,l,h,m,S,Ms,kk,e,o⟩:=⟨aI,a,c⟩
theorem ahh{L:Int}(h:eZ (⟨1,N,L,H,M,S,Ms,K,E,c⟩:ai)):∃r,gw (⟨1,N,L,H,M,S,Ms,K,E,c⟩:ai)=some r/\hF (⟨1,N,L,H,M,S,Ms,K,E,c⟩:ai)=some r/\(r=true->N=[]):=by
 obtain⟨a,a1,a2⟩:=iR (a:=(⟨0,N,L,H,M,S,Ms,K,E,c⟩:ai)) ⟨h.syms,h.gY,h.iG⟩ (⟨0,[],0,0,0,[],[],0,0,false⟩:ai);obtain⟨b,b1,b2⟩:=pV h (⟨1,[],0,0,0,[],[],0,0,false⟩:ai);have d:a=b:=by grind
 subst d;refine⟨a,by simp[gw,a1],by simp[hF,mL,j',b1];try (cases a<;>rfl),λag=>?_⟩;grind
theorem ahi{L:Int}(h:eZ (⟨2,N,L,H,M,S,Ms,K,E,c⟩:ai)):∃r,gw (⟨2,N,L,H,M,S,Ms,K,E,c⟩:ai)=some r/\hF (⟨2,N,L,H,M,S,Ms,K,E,c⟩:ai)=some r/\(r=true->N=[]):=by
 obtain⟨a,a1,a2⟩:=iR (a:=(⟨0,N,0,0,M,S,Ms,K,E,c⟩:ai)) ⟨h.syms,h.gY,h.iG⟩ (⟨0,[],0,0,0,[],[],0,0,false⟩:ai);obtain⟨b,b1,b2⟩:=pV h (⟨2,[],L,H,0,[],[],0,0,false⟩:ai);have d:a=b:=by grind
 subst d;refine⟨decide (L<=H)&&a,?_,?_,λag=>?_⟩
 . simp only[gw];grind
 . simp only[hF];generalize decide (L<=H)=q;simp[mL,j',b1];grind
 grind
theorem ahj{L:Int}(h:eZ (⟨3,N,L,H,M,S,Ms,K,E,c⟩:ai)):∃r,gw (⟨3,N,L,H,M,S,Ms,K,E,c⟩:ai)=some r/\hF (⟨3,N,L,H,M,S,Ms,K,E,c⟩:ai)=some r/\(r=true->N=[]):=by
 obtain⟨a,a1,a2⟩:=iR (a:=(⟨0,N,L,H,0,S,Ms,K,E,c⟩:ai)) ⟨h.syms,h.gY,h.iG⟩ (⟨0,[],0,0,0,[],[],0,0,false⟩:ai);obtain⟨b,b1,b2⟩:=pV h (⟨3,[],0,0,M,[],[],0,0,false⟩:ai);have d:a=b:=by grind
 subst d;refine⟨(bif decide (0<=M)then decide (M<=200)else false)&&a,?_,?_,λag=>?_⟩
 . simp only[gw];grind
 . simp only[hF];generalize (bif decide (0<=M)then decide (M<=200)else false)=q;simp[mL,j',b1];grind
 grind
theorem ahk{L:Int}(h:eZ (⟨4,N,L,H,M,S,Ms,K,E,c⟩:ai)):∃r,gw (⟨4,N,L,H,M,S,Ms,K,E,c⟩:ai)=some r/\hF (⟨4,N,L,H,M,S,Ms,K,E,c⟩:ai)=some r/\(r=true->N≠[]):=by
 obtain⟨a,a1,a2⟩:=iR (a:=(⟨0,[],L,H,M,[],Ms,K,E,false⟩:ai)) ⟨(by simp),h.gY,h.iG⟩ (⟨0,[],0,0,0,[],[],0,0,false⟩:ai);obtain⟨b,b1,b2⟩:=pV h (⟨4,N,0,0,0,S,[],0,0,c⟩:ai);have e:a=b:=by grind
 subst e;obtain⟨q,f,d⟩:=abN (l:=S) h.syms;refine⟨nm N&&q&&a,?_,?_,λag=>?_⟩
 . simp only[gw];simp[a1,f,tO];grind
 . simp only[hF]
   try simp at d
   simp[mL,j',b1,d,AN];grind
 . simp only[c5]at ag;exact FQ ag.1.1
theorem ahl{L:Int}(h:eZ (⟨5,N,L,H,M,S,Ms,K,E,c⟩:ai)):∃r,gw (⟨5,N,L,H,M,S,Ms,K,E,c⟩:ai)=some r/\hF (⟨5,N,L,H,M,S,Ms,K,E,c⟩:ai)=some r/\(r=true->N≠[]):=by
 obtain⟨a,a1,a2⟩:=iR (a:=(⟨0,[],L,H,M,S,[],K,E,(bif c then decide ((5:Int)=5)else false)⟩:ai)) ⟨h.syms,(by simp),(by simp)⟩ (⟨0,[],0,0,0,[],[],0,0,false⟩:ai);obtain⟨b,b1,b2⟩:=pV h (⟨5,N,0,0,0,[],Ms,0,0,false⟩:ai);have f:a=b:=by grind
 subst f;obtain⟨q,d,e⟩:=Ll h (by simp);refine⟨nm N&&q&&a,?_,?_,λag=>?_⟩
 . simp only[gw]
   try simp at a1
   try simp at d
   simp[a1,d,tO];grind
 . simp only[hF]
   try simp at e
   simp[mL,j',b1,e,AN];grind
 . simp only[c5]at ag;exact FQ ag.1.1
theorem ahm{L:Int}(h:eZ (⟨6,N,L,H,M,S,Ms,K,E,c⟩:ai)):∃r,gw (⟨6,N,L,H,M,S,Ms,K,E,c⟩:ai)=some r/\hF (⟨6,N,L,H,M,S,Ms,K,E,c⟩:ai)=some r/\(r=true->N≠[]):=by
 obtain⟨a,a1,a2⟩:=iR (a:=(⟨0,[],L,H,M,S,[],K,E,(bif c then decide ((6:Int)=5)else false)⟩:ai)) ⟨h.syms,(by simp),(by simp)⟩ (⟨0,[],0,0,0,[],[],0,0,false⟩:ai);obtain⟨b,b1,b2⟩:=pV h (⟨6,N,0,0,0,[],Ms,0,0,c⟩:ai);have f:a=b:=by grind
 subst f;obtain⟨q,d,e⟩:=Ll h (by simp);refine⟨nm N&&q&&a,?_,?_,λag=>?_⟩
 . simp only[gw]
   try simp at a1
   try simp at d
   simp[a1,d,tO];grind
 . simp only[hF]
   try simp at e
   simp[mL,j',b1,e,AN];grind
 . simp only[c5]at ag;exact FQ ag.1.1
theorem ahn{L:Int}(h:eZ (⟨7,N,L,H,M,S,Ms,K,E,c⟩:ai)):∃r,gw (⟨7,N,L,H,M,S,Ms,K,E,c⟩:ai)=some r/\hF (⟨7,N,L,H,M,S,Ms,K,E,c⟩:ai)=some r/\(r=true->N=[]):=by
 obtain⟨a,a1,a2⟩:=iR (a:=(⟨0,N,L,H,0,S,Ms,K,0,c⟩:ai)) ⟨h.syms,h.gY,h.iG⟩ (⟨0,[],0,0,0,[],[],0,0,false⟩:ai);obtain⟨b,b1,b2⟩:=pV h (⟨7,[],0,0,M,[],[],0,E,false⟩:ai);have d:a=b:=by grind
 subst d;refine⟨(bif decide (0<=M)then decide (M<=50)else false)&&a,?_,?_,λag=>?_⟩
 . simp only[gw];grind
 . simp only[hF];generalize (bif decide (0<=M)then decide (M<=50)else false)=q;simp[mL,j',b1];grind
 grind
theorem aho{L:Int}(h:eZ (⟨8,N,L,H,M,S,Ms,K,E,c⟩:ai)):∃r,gw (⟨8,N,L,H,M,S,Ms,K,E,c⟩:ai)=some r/\hF (⟨8,N,L,H,M,S,Ms,K,E,c⟩:ai)=some r/\(r=true->N=[]):=by
 obtain⟨a,a1,a2⟩:=iR (a:=(⟨0,N,L,H,0,S,Ms,0,0,c⟩:ai)) ⟨h.syms,h.gY,h.iG⟩ (⟨0,[],0,0,0,[],[],0,0,false⟩:ai);obtain⟨b,b1,b2⟩:=pV h (⟨8,[],0,0,M,[],[],K,E,false⟩:ai);have d:a=b:=by grind
 subst d;refine⟨(bif decide (0<=M)then decide (M<=50)else false)&&a,?_,?_,λag=>?_⟩
 . simp only[gw];grind
 . simp only[hF];generalize (bif decide (0<=M)then decide (M<=50)else false)=q;simp[mL,j',b1];grind
 grind
theorem ahp{L:Int}(h:eZ (⟨9,N,L,H,M,S,Ms,K,E,c⟩:ai)):∃r,gw (⟨9,N,L,H,M,S,Ms,K,E,c⟩:ai)=some r/\hF (⟨9,N,L,H,M,S,Ms,K,E,c⟩:ai)=some r/\(r=true->N=[]):=by
 obtain⟨a,a1,a2⟩:=iR (a:=(⟨0,N,L,H,M,S,Ms,K,0,c⟩:ai)) ⟨h.syms,h.gY,h.iG⟩ (⟨0,[],0,0,0,[],[],0,0,false⟩:ai);obtain⟨b,b1,b2⟩:=pV h (⟨9,[],0,0,0,[],[],0,E,false⟩:ai);have d:a=b:=by grind
 subst d;refine⟨a,by simp[gw,a1],by simp[hF,mL,j',b1];try (cases a<;>rfl),λag=>?_⟩;grind
def kC(k:Int):Bool:=bif bif decide (k=4)then true else decide (k=5)then true else decide (k=6)
theorem Lm(h:eZ t):∃r,gw t=some r/\hF t=some r/\(r=true->1<=t.Kind/\t.Kind<=9/\kC t.Kind=!(decide (t.Name=[]))):=by
 by_cases a:1<=t.Kind/\t.Kind<=9
 . obtain⟨d,N,L,H,M,S,Ms,K,E,f⟩:=t;simp only at a;have:d=1\/d=2\/d=3\/d=4\/d=5\/d=6\/d=7\/d=8\/d=9:=(by omega);rcases this with rfl|rfl|rfl|rfl|rfl|rfl|rfl|rfl|rfl
   . obtain⟨r,h1,b,c⟩:=ahh h;exact⟨r,h1,b,λag=>⟨a.1,a.2,by simp[kC,c ag]⟩⟩
   . obtain⟨r,h1,b,c⟩:=ahi h;exact⟨r,h1,b,λag=>⟨a.1,a.2,by simp[kC,c ag]⟩⟩
   . obtain⟨r,h1,b,c⟩:=ahj h;exact⟨r,h1,b,λag=>⟨a.1,a.2,by simp[kC,c ag]⟩⟩
   . obtain⟨r,h1,b,c⟩:=ahk h;exact⟨r,h1,b,λag=>⟨a.1,a.2,by simp[kC,c ag]⟩⟩
   . obtain⟨r,h1,b,c⟩:=ahl h;exact⟨r,h1,b,λag=>⟨a.1,a.2,by simp[kC,c ag]⟩⟩
   . obtain⟨r,h1,b,c⟩:=ahm h;exact⟨r,h1,b,λag=>⟨a.1,a.2,by simp[kC,c ag]⟩⟩
   . obtain⟨r,h1,b,c⟩:=ahn h;exact⟨r,h1,b,λag=>⟨a.1,a.2,by simp[kC,c ag]⟩⟩
   . obtain⟨r,h1,b,c⟩:=aho h;exact⟨r,h1,b,λag=>⟨a.1,a.2,by simp[kC,c ag]⟩⟩
   . obtain⟨r,h1,b,c⟩:=ahp h;exact⟨r,h1,b,λag=>⟨a.1,a.2,by simp[kC,c ag]⟩⟩
 . refine⟨false,?_,?_,λh=>by cases h⟩
   . have e:∀k:Int,1<=k->k<=9->¬t.Kind=k:=λk h1 b e=>a (by omega);simp[gw,e 1,e 2,e 3,e 4,e 5,e 6,e 7,e 8,e 9]
   . have e:(bif decide (t.Kind<1)then true else decide (9<t.Kind))=true:=(by grind);rw[hF,e];rfl
def fi(t:ai):ar:=t.ah.map (·.aw)++(if t.Kind=8 then[t.Key]else[])++(if 7<=t.Kind then[t.aF]else[])
theorem wE{k n:Nat}(a:k<=16){m:Nat}(h:m*24<=reachBytes)(aH:n<=m+2):room k n=true:=by
 unfold room hZ dY;unfold reachBytes at h;simp only[c5,eT];have:(2*n+192)*k<=(2*n+192)*16:=Nat.mul_le_mul_left _ a;omega
theorem Kn(t:ai)(h:t.ah.length*24<=reachBytes):∀(k i:Nat),i+k=t.ah.length->q4 (t.ah,(t.ah.length:Int),(i:Int),t,(t.ah.map (·.aw)).take i)=some (t,t.ah.map (·.aw))
 |0,i,a=>by rw[q4,b',qk (by simp;omega)]
 |k+1,i,a=>by
  have ag:=dA (ig h);have aB:i<t.ah.length:=by omega
  rw[q4,br,ae (aP aB)];simp only[aS,ao,aZ];rw[<-h2 (·.aw) t.ah i aC 0 aB,vS _ _ _ (by simpa using aB),bC,ae (wE (m:=t.ah.length) (by omega) h (by simp;omega))];exact Kn t h k (i+1) (by omega)
theorem acP(h:t.ah.length*24<=reachBytes):DQ t=some (fi t):=by
 have h0:=Kn t h t.ah.length 0 (by omega);have a:q4 (t.ah,(t.ah.length:Int),0,t,[])=some (t,t.ah.map (·.aw)):=h0;rw[DQ,a];unfold fi;simp only[aS,ao];have b:room 8 (t.ah.map (·.aw)++[t.Key]).length=true:=wE (m:=t.ah.length) (by omega) h (by simp);have c:room 8 (t.ah.map (·.aw)++[t.Key]++[t.aF]).length=true:=wE (m:=t.ah.length) (by omega) h (by simp);grind
theorem Ko(t:ai)(h:t.ah.length*24<=reachBytes):∀(k i:Nat),i+k=t.ah.length->rH ((i:Int),t,(t.ah.map (·.aw)).take i)=some (t,t.ah.map (·.aw))
 |0,i,a=>by rw[rH,b',qk (by simp;omega)]
 |k+1,i,a=>by
  have ag:=dA (ig h);have aB:i<t.ah.length:=by omega
  rw[rH,br,ae (aP aB)];simp only[aS,ao,aZ];rw[<-h2 (·.aw) t.ah i aC 0 aB,vS _ _ _ (by simpa using aB),bC,ae (wE (m:=t.ah.length) (by omega) h (by simp;omega))];exact Ko t h k (i+1) (by omega)
theorem aea(h:t.ah.length*24<=reachBytes)(b:t.Kind<=9):CL t=some (fi t):=by
 have h0:=Ko t h t.ah.length 0 (by omega);have a:rH (0,t,[])=some (t,t.ah.map (·.aw)):=h0;rw[CL,a];unfold fi;simp only[aS,ao];have c:room 8 (t.ah.map (·.aw)++[t.Key]).length=true:=wE (m:=t.ah.length) (by omega) h (by simp);have d:room 8 (t.ah.map (·.aw)++[t.Key]++[t.aF]).length=true:=wE (m:=t.ah.length) (by omega) h (by simp);grind
theorem aeb(k:Int):j' k=some (kC k):=rfl
def s9(k:Int):Bool:=bif decide (1<=k)then decide (k<=4)else false
def lD(n:Nat)(u:Int):Bool:=bif decide (u<0)then true else decide ((n:Int)<=u)
def sb(ts:List ai)(i:Nat):Option Int:=
 let t:=ts.getD i aK
 if !((gw t).getD false)then some 1 else if !(decide (t.Name=[]))&&((ts.map (·.Name)).take i).contains t.Name then some 1 else if(fi t).any (lD ts.length)then some 4 else if decide (t.Kind=8) && !(s9 (ts.getD t.Key.toNat aK).Kind)then some 1 else none
theorem HN{i:Nat}{r:Bool}(db:ts.getD i aK=t)(f1:gw t=some r):
 sb ts i=if !r then some 1 else if !(t.Name=[]:Bool)&&((ts.map (·.Name)).take i).contains t.Name then some 1 else if(fi t).any (lD ts.length) then some 4 else if((t.Kind=8:Bool) && !(s9 (ts.getD t.Key.toNat aK).Kind)) then some 1 else none:=by
 subst db;unfold sb;simp only[f1,wI]
theorem Mi{e:Type}(L:Nat->Option e)(l:ar)(q:Int->Bool)(a b:e)(o:∀i,i<l.length->L i=if q (l.getD i 0)then some a else L (i+1))(g:L l.length=some b):
 L 0=some (if l.any q then a else b):=by
 have:=scan L l.length (λi=>!(q (l.getD i 0))) a b (λi n=>by grind) g;rcases this with⟨h1,c⟩|⟨h1,j,c,f⟩
 . rw[h1,al];intro h;rw[F6]at h;obtain⟨x,m,k⟩:=h;obtain⟨j,d,he⟩:=e1 m;have:=c j d;rw[dv d,he,k]at this;cases this
 . rw[h1,ae];rw[F6];refine⟨l.getD j 0,bd c 0,by simpa using f⟩
theorem MJ(h:t.ah.length*24<=reachBytes):(fi t).length<9223372036854775807:=by
 unfold fi reachBytes at*;grind
theorem aeD{L:Nat->Option (Int ⊕ Unit)}{n:Nat}{step:Nat->Option Int}
 (h:∀i,i<n->L i=match step i with|some e=>some (.inl e)|none=>L (i+1))(he:L n=some (.inr ()))
 (j:∀i,i<n->L' i=match step i with|some e=>some (.inl e)|none=>L' (i+1))(l:L' n=some (.inr ())):∃o,L 0=some o/\L' 0=some o/\((o= .inr ()/\∀i,i<n->step i=none)\/∃i e,i<n/\step i=some e/\o= .inl e):=by
 have key:∀k i,i+k=n->∃o,L i=some o/\L' i=some o/\((o= .inr ()/\∀m,i<=m->m<n->step m=none)\/∃m e,m<n/\step m=some e/\o= .inl e):=by
  intro k;induction k with
  |zero=> intro i c; have:i = n:= by omega
          subst this;exact⟨_,he,l,.inl ⟨rfl,λm h1 q=>by omega⟩⟩
  |succ k ih=>
   intro i c;rw[h i (by omega),j i (by omega)];cases p:step i with
   |some e=>exact⟨_,rfl,rfl,.inr ⟨i,e,by omega,p,rfl⟩⟩
   |none=>
    obtain⟨o,d,f,g⟩:=ih (i+1) (by omega);grind
 obtain⟨o,d,f,g⟩:=key n 0 (by omega);refine⟨o,d,f,?_⟩;rcases g with⟨a,b⟩|h
 . exact .inl ⟨a,λi c=>b i (hR _) c⟩
 . exact .inr h
theorem PV(a:(fi t).any (lD ts.length)=false)(b:t.Kind=8):aG t.Key ts.length=true:=by
 have c:t.Key∈fi t:=by unfold fi;simp[b]
 rw[List.any_eq_false]at a;have:=a _ c;unfold lD at this;unfold aG;grind
theorem aeE(ts:List ai)(t:ai)(i:Nat)(e:i<ts.length)(ag:ts.length<9223372036854775807):
 n5 ((i:Int),0,ts,t.Kind,t.Name,t.bE,t.bH,t.Max,t.bh,t.ah,t.Key,t.aF,t.Open)=some (if(kC t.Kind&&((ts.map (·.Name)).take i).contains t.Name) then .inl 1 else .inr ((i:Int),ts,t.Kind,t.Name,t.bE,t.bH,t.Max,t.bh,t.ah,t.Key,t.aF,t.Open)):=by
 have d:=scan (λk=>n5 ((i:Int),(k:Int),ts,t.Kind,t.Name,t.bE,t.bH,t.Max,t.bh,t.ah,t.Key,t.aF,t.Open)) i (λk=>!(bif kC t.Kind then decide ((ts.getD k aK).Name=t.Name)else false)) (.inl 1) (.inr ((i:Int),ts,t.Kind,t.Name,t.bE,t.bH,t.Max,t.bh,t.ah,t.Key,t.aF,t.Open))
  (λk c=>by
   rw[n5,br,aeb];simp only[aS,ao];rw[ae (by rw[aP (show k<ts.length by omega)];rfl),bC,aZ]
   grind)
  (by rw[n5,bw])
 have c4:n5 ((i:Int),((0:Nat):Int),ts,t.Kind,t.Name,t.bE,t.bH,t.Max,t.bh,t.ah,t.Key,t.aF,t.Open)=n5 ((i:Int),0,ts,t.Kind,t.Name,t.bE,t.bH,t.Max,t.bh,t.ah,t.Key,t.aF,t.Open):=rfl;simp only[c4]at d;rcases d with⟨h1,b⟩|⟨h1,j,b,a⟩
 . rw[h1,al];rw[c5,qf]
   rintro ⟨aH,k,c,he⟩
   rw[h2 (·.Name) ts k aK [] (by omega)]at he;have:=b k c;rw[aH,he]at this;simp at this
 . rw[h1,ae];rw[c5,qf];cases aH:kC t.Kind with
   |false=>rw[aH]at a;cases a
   |true=>
    refine⟨rfl,j,b,?_⟩;rw[h2 (·.Name) ts j aK [] (by omega)];rw[aH]at a;simpa using a
theorem aeF(ts:List ai)(t:ai)(i:Nat)(l:ar)(af:l.length<9223372036854775807):
 rz ((i:Int),l,0,ts,t.Kind,t.Name,t.bE,t.bH,t.Max,t.bh,t.ah,t.Key,t.aF,t.Open)=some (if l.any (lD ts.length) then .inl 4 else .inr ((i:Int),ts,t.Kind,t.Name,t.bE,t.bH,t.Max,t.bh,t.ah,t.Key,t.aF,t.Open)):=
 Mi (λj=>rz ((i:Int),l,(j:Int),ts,t.Kind,t.Name,t.bE,t.bH,t.Max,t.bh,t.ah,t.Key,t.aF,t.Open)) l (lD ts.length) (.inl 4) (.inr ((i:Int),ts,t.Kind,t.Name,t.bE,t.bH,t.Max,t.bh,t.ah,t.Key,t.aF,t.Open))
  (λj a=>by
   rw[rz,br,ae (aP a)];simp only[aS,ao];rw[ae (by rw[aP a];rfl),bC]
   rfl)
  (by rw[rz,bw])
theorem aaY{s:aT}(hs:s.Types.length<=reachBytes)(ht:∀t,t∈s.Types->eZ t):∃e,pJ s=some e/\vz s=some e/\(e=0->s.Types.length<=32/\∀i,i<s.Types.length->sb s.Types i=none)/\((s.Types.length<=32/\∀i,i<s.Types.length->sb s.Types i=none)->e=0)/\e≠12:=by
 rw[pJ,vz];by_cases z:32<s.Types.length
 . exact⟨3,by rw[br],by rw[br],λh=>(by cases h),λh=>absurd h.1 (by omega),by decide⟩
 . rw[b',b'];have ag:s.Types.length<9223372036854775807:=(by omega);have:=aeD (L:=λi=>q1 (s.Types,(s.Types.length:Int),(i:Int),s.Types,kU ((s.Types.map (·.Name)).take i))) (L':=λi=>pt ((i:Int),s.Types)) (n:=s.Types.length) (step:=sb s.Types)
    (λi a=>by
     have b:=ht _ (bd a aK);obtain⟨r,f1,f2,f3⟩:=Lm b;rw[q1,br,ae (aP a)];simp only[aS,ao,aZ];generalize db:s.Types.getD i aK=t at*;rw[HN db f1,f1];simp only[ao,KP];cases r with
     |false=>rw[ae (show(bif (!false)then true else bif (!(decide (t.Name=[])))then((s.Types.map (·.Name)).take i).contains t.Name else false)=true from rfl),ae (show(!false)=true from rfl)]
     |true=>
      rw[al (show ¬((!true)=true) by simp)];by_cases k:(!(decide (t.Name=[]))&&((s.Types.map (·.Name)).take i).contains t.Name)=true
      . grind
      . have v:¬((bif (!(decide (t.Name=[])))then((s.Types.map (·.Name)).take i).contains t.Name else false)=true):=(by grind);rw[al (show ¬((bif (!true)then true else bif (!(decide (t.Name=[])))then((s.Types.map (·.Name)).take i).contains t.Name else false)=true)from v),al k,acP b.gY];simp only[ao];have A:=MJ b.gY;have w:=Mi (λj=>p9 (s.Types,(s.Types.length:Int),(i:Int),fi t,((fi t).length:Int),(j:Int),s.Types,iN (kU ((s.Types.map (·.Name)).take i)) t.Name,t.Kind,t.Name,t.bE,t.bH,t.Max,t.bh,t.ah,t.Key,t.aF,t.Open)) (fi t) (lD s.Types.length) (.inl 4)
         (.inr (s.Types,(s.Types.length:Int),(i:Int),s.Types,iN (kU ((s.Types.map (·.Name)).take i)) t.Name,t.Kind,t.Name,t.bE,t.bH,t.Max,t.bh,t.ah,t.Key,t.aF,t.Open))
         (λj x=>by
          rw[p9,br,ae (aP x),bC]
          rfl)
         (by rw[p9,bw])
        have c4:p9 (s.Types,(s.Types.length:Int),(i:Int),fi t,((fi t).length:Int),((0:Nat):Int),s.Types,iN (kU ((s.Types.map (·.Name)).take i)) t.Name,t.Kind,t.Name,t.bE,t.bH,t.Max,t.bh,t.ah,t.Key,t.aF,t.Open)=p9 (s.Types,(s.Types.length:Int),(i:Int),fi t,((fi t).length:Int),0,s.Types,iN (kU ((s.Types.map (·.Name)).take i)) t.Name,t.Kind,t.Name,t.bE,t.bH,t.Max,t.bh,t.ah,t.Key,t.aF,t.Open):=rfl;rw[<-c4,w];cases f:(fi t).any (lD s.Types.length)with
        |true=>rfl
        |false=>
         simp only[bY,b6,ao];have y:iN (kU ((s.Types.map (·.Name)).take i)) t.Name=kU ((s.Types.map (·.Name)).take (i+1)):=by
          have h1:=KQ (l:=s.Types.map (·.Name)) (i:=i) (by simpa using a);grind
         rw[y,bC];by_cases c:t.Kind=8
         . have d:=PV f c;rw[ae (by rw[d];rfl),ae (by rw[d];rfl)];simp only[c,dd,et,nd,s9];grind
         grind)
    (by rw[q1,bw])
    (λi a=>by
     have b:=ht _ (bd a aK);obtain⟨r,f1,f2,f3⟩:=Lm b;rw[pt,br,ae (aP a)];simp only[aS,ao,aZ];generalize db:s.Types.getD i aK=t at*;rw[HN db f1,f2,aeE s.Types t i a ag];simp only[ao];cases r with
     |false=>rfl
     |true=>
      obtain⟨k1,k2,k3⟩:=f3 rfl;rw[al (show ¬((!true)=true) by simp),al (show ¬((!true)=true) by simp),k3];cases k:(!(decide (t.Name=[]))&&((s.Types.map (·.Name)).take i).contains t.Name)with
      |true=>rfl
      |false=>
       simp only[bY,b6,EG];rw[aea b.gY k2];simp only[ao];rw[aeF s.Types t i (fi t) (MJ b.gY)];cases f:(fi t).any (lD s.Types.length)with
       |true=>rfl
       |false=>
        simp only[bY,b6,ao];rw[bC];by_cases c:t.Kind=8
        . have d:=PV f c;rw[ae (by rw[d];rfl)];simp only[c,dd,b5,yv,ao,et,nd];show(if !(s9 (s.Types.getD t.Key.toNat aK).Kind) then some (.inl 1)else pt (((i+1:Nat):Int),s.Types))=_;grind
        grind)
    (by rw[pt,bw])
   obtain⟨o,h1,p,u⟩:=this;have m:q1 (s.Types,(s.Types.length:Int),0,s.Types,[])=some o:=h1;have q:pt (0,s.Types)=some o:=p;rw[m,q];rcases u with⟨rfl,g⟩|⟨i,e,g,bf,rfl⟩
   . simp_all
   . refine⟨_,rfl,rfl,λh0=>?_,λh=>(by have:=h.2 i g;rw[bf]at this;cases this),λh=>?_⟩
     . exfalso;subst h0;unfold sb at bf;grind
     . subst h;unfold sb at bf;grind
theorem qQ{d:Type}(L:Nat->Option d)(n:Nat)(q:Nat->Bool)(a:Nat->d)(c:d)(g:∀i,i<n->L i=if q i then some (a i)else L (i+1))(e:L n=some c):
 (∃j,j<n/\q j=true/\(∀k,k<j->q k=false)/\L 0=some (a j))\/((∀k,k<n->q k=false)/\L 0=some c):=by
 have key:∀k i,i+k=n->(∀m,m<i->q m=false)->L 0=L i->(∃j,j<n/\q j=true/\(∀k,k<j->q k=false)/\L 0=some (a j))\/((∀k,k<n->q k=false)/\L 0=some c):=by
  intro k;induction k with
  |zero=> intro i f b h0; have:i = n:= by omega
          subst this;exact .inr ⟨b,by rw[h0,e]⟩
  |succ k ih=>
   intro i f b h0;rw[g i (by omega)]at h0;grind
 exact key n 0 (by omega) (λm b=>by omega) rfl
def uj(l:List aU)(id:Int)(r:Int×Bool):Prop:=(∃j:Nat,j<l.length/\(l.getD j aC).ad=id/\(∀k,k<j->(l.getD k aC).ad≠id)/\r=((j:Int),true))\/((∀k,k<l.length->(l.getD k aC).ad≠id)/\r=(0,false))
theorem Ht{l:List aU}{r q:Int×Bool}(h1:uj l id r)(a:uj l id q):r=q:=by
 rcases h1 with⟨j,a1,a2,a3,rfl⟩|⟨a1,rfl⟩<;>rcases a with⟨k,b1,b2,b3,rfl⟩|⟨b1,rfl⟩
 . grind
 . grind
 . grind
 . rfl
theorem wk(af:t.ah.length<9223372036854775807):∃r,hg (t,id)=some r/\uj t.ah id r:=by
 rw[hg,G0];have h:=qQ (λi=>pD (t.ah,(t.ah.length:Int),(i:Int),id)) t.ah.length (λi=>decide ((t.ah.getD i aC).ad=id)) (λi=>.inl ((i:Int),id)) (.inr id)
  (λi e=>by
   rw[pD,br,ae (aP e)];simp only[aS,ao,aZ,jo,GQ]
   rw[bC])
  (by rw[pD,bw])
 have c4:pD (t.ah,(t.ah.length:Int),((0:Nat):Int),id)=pD (t.ah,(t.ah.length:Int),0,id):=rfl;simp only[c4]at h;rcases h with⟨j,h1,c,d,a⟩|⟨h1,a⟩
 . rw[a];refine⟨((j:Int),true),?_,.inl ⟨j,h1,by simpa using c,λk b=>by simpa using d k b,rfl⟩⟩;have aN:iq (j:Int) 0=(j:Int):=by unfold iq;omega
   simp_all
 . rw[a];exact⟨(0,false),rfl,.inr ⟨λk b=>by simpa using h1 k b,rfl⟩⟩
theorem CS(af:t.ah.length<9223372036854775807):∃r,hC (t,id)=some r/\uj t.ah id r:=by
 rw[hC];have h:=qQ (λi=>pk (id,(i:Int),t)) t.ah.length (λi=>decide ((t.ah.getD i aC).ad=id)) (λi=>.inl ((i:Int),true)) (.inr ())
  (λi e=>by
   rw[pk,br,ae (aP e),bC]
   grind)
  (by rw[pk,bw])
 have c4:pk (id,((0:Nat):Int),t)=pk (id,0,t):=rfl;simp only[c4]at h;rcases h with⟨j,h1,c,d,a⟩|⟨h1,a⟩
 . rw[a];exact⟨((j:Int),true),rfl,.inl ⟨j,h1,by simpa using c,λk b=>by simpa using d k b,rfl⟩⟩
 . rw[a];exact⟨(0,false),rfl,.inr ⟨λk b=>by simpa using h1 k b,rfl⟩⟩
theorem mS(id:Int)(af:t.ah.length<9223372036854775807):∃r,hg (t,id)=some r/\hC (t,id)=some r/\uj t.ah id r:=by
 obtain⟨r,h1,a⟩:=wk (id:=id) af;obtain⟨q,c,b⟩:=CS (id:=id) af;have:=Ht a b;grind
def wF(l:List c3)(id:Int)(r:Int×Bool):Prop:=(∃j:Nat,j<l.length/\(l.getD j dK).ad=id/\(∀k,k<j->(l.getD k dK).ad≠id)/\r=((j:Int),true))\/((∀k,k<l.length->(l.getD k dK).ad≠id)/\r=(0,false))
theorem YF{l:List c3}{r q:Int×Bool}(h1:wF l id r)(a:wF l id q):r=q:=by
 rcases h1 with⟨j,a1,a2,a3,rfl⟩|⟨a1,rfl⟩<;>rcases a with⟨k,b1,b2,b3,rfl⟩|⟨b1,rfl⟩
 . grind
 . grind
 . grind
 . rfl
theorem rb(id:Int)(af:t.bh.length<9223372036854775807):∃r,tn (t,id)=some r/\s3 (t,id)=some r/\wF t.bh id r:=by
 rw[tn,GZ,s3];have h:=qQ (λi=>nD (t.bh,(t.bh.length:Int),(i:Int),id)) t.bh.length (λi=>decide ((t.bh.getD i dK).ad=id)) (λi=>.inl ((i:Int),id)) (.inr id)
  (λi f=>by
   rw[nD,br,ae (aP f)];simp only[aS,ao,aZ,GP]
   rw[bC])
  (by rw[nD,bw])
 have c4:nD (t.bh,(t.bh.length:Int),((0:Nat):Int),id)=nD (t.bh,(t.bh.length:Int),0,id):=rfl;have g:=qQ (λi=>n' (id,(i:Int),t)) t.bh.length (λi=>decide ((t.bh.getD i dK).ad=id)) (λi=>.inl ((i:Int),true)) (.inr ())
  (λi f=>by
   rw[n',br,ae (aP f),bC]
   grind)
  (by rw[n',bw])
 have m:n' (id,((0:Nat):Int),t)=n' (id,0,t):=rfl;simp only[c4]at h;simp only[m]at g;have n:∃r,(nD (t.bh,(t.bh.length:Int),0,id)>>=λo=>match o with|.inl c=>some (c.1,c.2)|.inr l=>some ((-1),l))>>=(λr=>some (iq r.1 0,decide (0<=r.1)))=some r/\wF t.bh id r:=by
  rcases h with⟨j,h1,d,e,a⟩|⟨h1,a⟩
  . rw[a];refine⟨((j:Int),true),?_,.inl ⟨j,h1,by simpa using d,λk b=>by simpa using e k b,rfl⟩⟩;have aN:iq (j:Int) 0=(j:Int):=by unfold iq;omega
    simp_all
  . rw[a];exact⟨(0,false),rfl,.inr ⟨λk b=>by simpa using h1 k b,rfl⟩⟩
 have dj:∃r,(n' (id,0,t)>>=λo=>match o with|.inl c=>some (c.1,c.2)|.inr l=>some (0,false))=some r/\wF t.bh id r:=by
  rcases g with⟨j,h1,d,e,a⟩|⟨h1,a⟩
  . rw[a];exact⟨((j:Int),true),rfl,.inl ⟨j,h1,by simpa using d,λk b=>by simpa using e k b,rfl⟩⟩
  . rw[a];exact⟨(0,false),rfl,.inr ⟨λk b=>by simpa using h1 k b,rfl⟩⟩
 obtain⟨r,a1,a2⟩:=n;obtain⟨q,b1,b2⟩:=dj;have:=YF a2 b2;grind
def fE(n:Int):Int:=if 0<=n then 2*n else -2*n-1
theorem Ol{a b:Int}(h:fE a=fE b):a=b:=by
 unfold fE at h;split at h<;>split at h<;>omega
def cx(n:Int):Prop:= -9223372036854775808<=n/\n<=9223372036854775807
theorem uk{n:Int}(h:cx n):vt n=some (fE n):=by
 obtain⟨h1,f⟩:=h;rw[vt];unfold fE;by_cases h0:0<=n
 . rw[ae (by simp[h0]),ae h0];obtain⟨k,rfl⟩:∃k:Nat,n=(k:Int):=⟨n.toNat,by omega⟩
   rw[hy];have:=uo (a:=2) (b:=k) (by omega);grind
 . rw[al (by simp[h0]),al h0];rw[kh (by omega) (by omega),gS];obtain⟨k,e⟩:∃k:Nat,0-(n+1)=(k:Int):=⟨(0-(n+1)).toNat,by omega⟩
   rw[e,hy];have c:=uo (a:=2) (b:=k) (by omega);have d:gz .u64 2 (k:Int)=((2*k:Nat):Int):=c;rw[d];have g:=sw (a:=2*k) (b:=1) (by omega);grind
theorem abW(a:Nat)(h:a<18446744073709551616):uM .u64 (a:Int) 0=(a:Int):=by
 have e:(BitVec.ofInt 64 (a:Int) ^^^ BitVec.ofInt 64 (0:Int)).toNat=a:=by grind
 show IntKind.u64.wrap (((BitVec.ofInt 64 (a:Int) ^^^ BitVec.ofInt 64 (0:Int)).toNat:Nat):Int)=_;rw[e];exact kX (by omega) (by omega)
theorem abX(a:Nat)(h:a<18446744073709551616):uM .u64 (a:Int) 18446744073709551615=((18446744073709551615-a:Nat):Int):=by
 have e:(BitVec.ofInt 64 (a:Int) ^^^ BitVec.ofInt 64 (18446744073709551615:Int)).toNat=18446744073709551615-a:=by
  have h1:BitVec.ofInt 64 (18446744073709551615:Int)=BitVec.allOnes 64:=by decide
  rw[h1,wO,BitVec.xor_allOnes,BitVec.toNat_not,yC,Gu,oE h]
 all_goals (try omega)
 show IntKind.u64.wrap (((BitVec.ofInt 64 (a:Int) ^^^ BitVec.ofInt 64 (18446744073709551615:Int)).toNat:Nat):Int)=_;rw[e];exact kX (by omega) (by omega)
theorem ah6{n:Int}(h:cx n):lE .i64 n 63=if 0<=n then 0 else -1:=by
 obtain⟨h1,a⟩:=h;unfold lE;have e:((2:Int)^min (63:Int).toNat IntKind.i64.bits)=9223372036854775808:=by decide
 grind
theorem EI{n:Int}(h:cx n):nl n=some (fE n):=by
 rw[nl,ah6 h];obtain⟨h1,a⟩:=h;unfold fE;have hs:∀m:Int,nj .u64 m 1=IntKind.u64.wrap (m*2):=by
  intro m;unfold nj;rfl
 rw[hs]
 congr 1
 by_cases h0:0<=n
 . rw[ae h0,ae h0];obtain⟨k,rfl⟩:∃k:Nat,n=(k:Int):=⟨n.toNat,by omega⟩
   rw[hy,kX (by omega) (by omega)];have:bT .u64 0=0:=(by decide);rw[this];have:=abW (2*k) (by omega);grind
 . rw[al h0,al h0];have:bT .u64 (-1)=18446744073709551615:=(by decide);rw[this];obtain⟨k,b⟩:∃k:Nat,n+9223372036854775808=(k:Int):=⟨(n+9223372036854775808).toNat,by omega⟩
   have e:IntKind.u64.wrap (bT .u64 n*2)=((2*k:Nat):Int):=by
    unfold bT;rw[IntKind.wrap_u64,IntKind.wrap_u64];omega
   rw[e,abX _ (by omega)];omega
theorem afr(a b:Int):DR (a,b)=some (if a<b then -1 else if b<a then 1 else 0):=by
 rw[DR];simp only[En,aS,ao,dd,c8,bY,b6];grind
theorem QR(a b:Int):y' (a,b)=some (if a<b then -1 else if b<a then 1 else 0):=by
 rw[y'];simp only[DS,aS,ao,dd,c8,bY,b6];grind
theorem afs(a b:ak):CY (a,b)=some (if Op.bytesLess a b then -1 else if(Op.bytesLess a b||(a=b:Bool))then 0 else 1):=by
 rw[CY];simp only[DU,aS,ao,dd,c8,bY,b6];grind
theorem ahQ(a b:Int):EH [a,b]=some (if a≠0 then a else b):=by
 rw[EH];have h0:qP (0,[a,b],((2:Nat):Int),((0:Nat):Int))=if a≠0 then some (.inl a)else(if b≠0 then some (.inl b)else some (.inr 0)):=by
  rw[qP,ae (by decide),ae (show aG ((0:Nat):Int) ([a,b]:ar).length=true from aP (k:=0) (n:=2) (by omega))];simp only[aS,ao,aZ,jv];by_cases c:a=0
  . rw[al (by simp[c]),al (by simp[c])];have aN:aM .i64 ((0:Nat):Int) 1=((1:Nat):Int):=bC;rw[aN,qP,ae (by decide),ae (show aG ((1:Nat):Int) ([a,b]:ar).length=true from aP (k:=1) (n:=2) (by omega))];simp only[aS,ao,aZ,wQ,jv];by_cases d:b=0
    . rw[al (by simp[d]),al (by simp[d])];have e:aM .i64 ((1:Nat):Int) 1=((2:Nat):Int):=bC;rw[e,qP,al (by decide)]
    grind
  grind
 grind
theorem J8:∀a:ak,Op.bytesLess a a=false
 |[]=>rfl
 |x::r=>by
  simp[Op.bytesLess,J8 r]
theorem DJ{a b:I}(c:cx a.bc)(d:cx b.bc):∃r,qe (a,b)=some r/\oe (a,b)=some r:=by
 rw[qe,oe];by_cases e:a.Kind=b.Kind
 . rw[al (show ¬((!(decide (a.Kind=b.Kind)))=true) by simp[e]),al (show ¬((!(decide (a.Kind=b.Kind)))=true) by simp[e])];by_cases k1:a.Kind=1
   . rw[ae (show decide (a.Kind=1)=true by simp[k1]),ae (show decide (a.Kind=1)=true by simp[k1])];simp only[kG];cases fy a.bN b.bN<;>cases b.bN<;>exact⟨_,rfl,rfl⟩
   . rw[al (show ¬(decide (a.Kind=1)=true) by simp[k1]),al (show ¬(decide (a.Kind=1)=true) by simp[k1])];by_cases k2:a.Kind=2
     . rw[ae (show decide (a.Kind=2)=true by simp[k2]),ae (show decide (a.Kind=2)=true by simp[k2]),EI c,EI d,uk c,uk d];simp only[aS,ao,afr,kG];by_cases he:a.bc=b.bc
       . grind
       . have g:fE a.bc≠fE b.bc:=λh=>he (Ol h);grind
     . rw[al (show ¬(decide (a.Kind=2)=true) by simp[k2]),al (show ¬(decide (a.Kind=2)=true) by simp[k2])];by_cases k3:a.Kind=3
       . rw[ae (show decide (a.Kind=3)=true by simp[k3]),ae (show decide (a.Kind=3)=true by simp[k3])];simp only[aS,ao,QR,afs,ahQ,kG];by_cases af:a.bl.length=b.bl.length
         . have f:¬((!(decide ((a.bl.length:Int)=(b.bl.length:Int))))=true):=by simp;omega
           rw[al f,af];have aN:¬((b.bl.length:Int)<(b.bl.length:Int)):=(by omega);simp only[aN,b6,ne_eq,not_true_eq_false];by_cases he:a.bl=b.bl
           . rw[he,J8];grind
           grind
         grind
       . rw[al (show ¬(decide (a.Kind=3)=true) by simp[k3]),al (show ¬(decide (a.Kind=3)=true) by simp[k3])];by_cases k4:a.Kind=4
         . rw[ae (show decide (a.Kind=4)=true by simp[k4]),ae (show decide (a.Kind=4)=true by simp[k4])];simp only[aS,ao,QR,kG];grind
         simp_all
 simp_all
def K7(a b:Option Bool):Prop:=∃r,a=some r/\b=some r
theorem HV {b c:Type}(L:Nat->Option (Bool ⊕ b))(L':Nat->Option (Bool ⊕ c))(n:Nat)(p:Nat->Bool)(g:b)(a:c)
 (h:∀i,i<n->L i=if p i then L (i+1)else some (.inl false))(he:L n=some (.inr g))
 (d:∀i,i<n->L' i=if p i then L' (i+1)else some (.inl false))(e:L' n=some (.inr a)):
 (L 0=some (.inr g)/\L' 0=some (.inr a)/\∀j,j<n->p j=true)\/(L 0=some (.inl false)/\L' 0=some (.inl false)/\∃j,j<n/\p j=false):=by
 rcases scan L n p (.inl false) (.inr g) h he with⟨a1,a2⟩|⟨a1,j,a2,a3⟩<;>rcases scan L' n p (.inl false) (.inr a) d e with⟨b1,b2⟩|⟨b1,k,b2,b3⟩
 . exact .inl ⟨a1,b1,a2⟩
 . have:=a2 k b2;rw[b3]at this;cases this
 . have:=b2 j a2;rw[a3]at this;cases this
 . exact .inr ⟨a1,b1,j,a2,a3⟩
def ox(k:Int):Prop:=1<=k/\k<=9
theorem YG(a:ox v.Kind):∃p,DF v=some p/\tX v=some p/\(p=true->v.Kind≠5->v.Kind≠6->v.Rest=[]):=by
 obtain⟨K,B,cw,S,ad,c,b,R⟩:=v;simp only at a;rw[DF,I.aV,tX];have:K=1\/K=2\/K=3\/K=4\/K=5\/K=6\/K=7\/K=8\/K=9:=by unfold ox at a;omega
 have d:∀(x:Int),decide (x=x)=true:=λx=>by simp
 rcases this with rfl|rfl|rfl|rfl|rfl|rfl|rfl|rfl|rfl
 all_goals
  refine⟨_,rfl,?_,?_⟩
  . simp[Dq,fy]
    try (cases B<;>simp)
  . simp[Dq,fy]
section
variable {ts:List ai}(aH:ts.length<9223372036854775807)(db:∀t,t∈ts->eZ t)(bD:∀t,t∈ts->ox t.Kind)
def Fit(ts:List ai)(x:I):Prop:=∀t plain,K7 (kc ((⟨ts⟩:aT),t,x,plain)) (iC ((⟨ts⟩:aT),t,x,plain))
theorem MK{l:List I}(af:l.length<=reachBytes)(ih:∀x,x∈l->Fit ts x)(t:Int)(plain:Bool):
 K7 (qN ((⟨ts⟩:aT),t,l,plain)) (nQ ((⟨ts⟩:aT),t,l,plain)):=by
 have ag:=dA af;let p:Nat->Bool:=λi=>(kc ((⟨ts⟩:aT),t,l.getD i av,plain)).getD false;have c:∀i,i<l.length->kc ((⟨ts⟩:aT),t,l.getD i av,plain)=some (p i)/\iC ((⟨ts⟩:aT),t,l.getD i av,plain)=some (p i):=by
  intro i a;obtain⟨r,h1,f⟩:=ih _ (bd a av) t plain;grind
 have b:=qQ (λi=>qK (l,(l.length:Int),(i:Int),ts,t,plain)) l.length (λi=>!(p i)) (λi=>.inl ((i:Int),ts,t,plain)) (.inr (ts,t,plain))
  (λi a=>by
   rw[qK,br,ae (aP a),Hb];simp only[I.aV,aZ];rw[(c i a).1,bC]
   rfl)
  (by rw[qK,bw])
 have hs:=scan (λi=>kE (t,l,plain,(i:Int),ts)) l.length p (.inl false) (.inr ())
  (λi a=>by
   rw[kE,br,ae (aP a)];simp only[I.aV,aZ];rw[(c i a).2,bC]
   grind)
  (by rw[kE,bw])
 have aN:qK (l,(l.length:Int),((0:Nat):Int),ts,t,plain)=qK (l,(l.length:Int),0,ts,t,plain):=rfl;have d:kE (t,l,plain,((0:Nat):Int),ts)=kE (t,l,plain,0,ts):=rfl;simp only[aN]at b;simp only[d]at hs;rw[qN,Ct,G2,nQ];rcases b with⟨j,a1,a2,a3,a4⟩|⟨a1,a4⟩<;>rcases hs with⟨b1,b2⟩|⟨b1,k,b2,b3⟩
 . have:=b2 j a1;simp[this]at a2
 . rw[a4,b1];refine⟨false,?_,rfl⟩;have e:decide ((0:Int)<=(j:Int))=true:=(by simp);simp only[aS,ao,e,c8]
 . rw[a4,b1];exact⟨true,rfl,rfl⟩
 . have:=a1 k b2;simp[b3]at this
def Ge(t:ai)(l:List bW)(i:Nat):Bool:=
 !((hg (t,(l.getD i bV).ad)).getD (0,false)).2&&(decide (1<=(l.getD i bV).ad)&&decide ((l.getD i bV).ad<=1000))&&(decide (i=0)||decide ((l.getD (i-1) bV).ad<(l.getD i bV).ad))
theorem abY{l:Type}(fR f b:Bool)(a:Int)(e C:Int->Bool)(g i:Option l)(j:b=true->e a=true):
 ((if !fR then some f else some false)>>=λk=>some (bif fR then true else(!k))>>=λt131=>some b>>=λt134=>some a>>=λt141=>
  if(e t141||(!((!t131)&&t134))) then if(bif t131 then true else bif t134 then C t141 else false) then g else i else none)=if !fR&&f&&(!b || !(C a)) then i else g:=by
 simp only[aS,ao];generalize C a=c;cases b with
 |true=>rw[j rfl];cases fR<;>cases f<;>cases c<;>rfl
 |false=>generalize e a=d;cases fR<;>cases f<;>cases d<;>cases c<;>rfl
theorem K1{n:Type}(b g e:Bool)(a:Int)(f C:Int->Bool)(i j:Option n)(k:g=true)(l:e=true->f a=true):
 (some b>>=λm=>some (!m)>>=λt31=>some e>>=λt34=>
  if(g||(!((!t31)&&t34))) then some a>>=λt43=>if(f t43||(!((!t31)&&t34))) then if(bif t31 then true else bif t34 then C t43 else false) then i else j else none else none)=if(b&&(!e || !(C a))) then j else i:=by
 subst k;simp only[aS,ao];generalize C a=c;cases e with
 |true=>rw[l rfl];cases b<;>cases c<;>rfl
 |false=>generalize f a=d;cases b<;>cases d<;>cases c<;>rfl
theorem qR{i:Nat}(h:0<i)(a:i<9223372036854775807):c9 .i64 (i:Int) 1=((i-1:Nat):Int):=by
 rw[gS];omega
theorem ahY(ht:t.ah.length<9223372036854775807)(v:I)(af:v.Rest.length<=reachBytes)(plain:Bool)(ts:List ai):
 let inr:=(plain,ts,v.Kind,v.bN,v.bc,v.bl,v.ad,v.ay,v.aj,v.Rest,t.Kind,t.Name,t.bE,t.bH,t.Max,t.bh,t.ah,t.Key,t.aF,t.Open)
 ((lj (plain,v.Rest,(v.Rest.length:Int),0,ts,v,t.Kind,t.Name,t.bE,t.bH,t.Max,t.bh,t.ah,t.Key,t.aF,t.Open)=some (.inr inr)/\qY (t,v.Rest)=some true)\/
  (lj (plain,v.Rest,(v.Rest.length:Int),0,ts,v,t.Kind,t.Name,t.bE,t.bH,t.Max,t.bh,t.ah,t.Key,t.aF,t.Open)=some (.inl false)/\qY (t,v.Rest)=some false)):=by
 intro inr;have ag:=dA af;have d:∀i,i<v.Rest.length->∀r,hg (t,(v.Rest.getD i bV).ad)=some r->Ge t v.Rest i=(!r.2&&(bif decide (1<=(v.Rest.getD i bV).ad)then decide ((v.Rest.getD i bV).ad<=1000)else false)&&(!(decide ((0:Int)<(i:Int))) || !(decide ((v.Rest.getD i bV).ad<=(v.Rest.getD (c9 .i64 (i:Int) 1).toNat bV).ad)))):=by
  intro i a r g;unfold Ge;rw[g,wI];generalize (v.Rest.getD i bV).ad=x;by_cases h0:i=0
  . grind
  . have c:decide ((0:Int)<(i:Int))=true:=by simp;omega
    rw[c,qR (by omega) (by omega),aZ];grind
 have h:=HV (λi=>lj (plain,v.Rest,(v.Rest.length:Int),(i:Int),ts,v,t.Kind,t.Name,t.bE,t.bH,t.Max,t.bh,t.ah,t.Key,t.aF,t.Open)) (λi=>j9 (v.Rest,(i:Int),t)) v.Rest.length (Ge t v.Rest) inr ()
  (λi a=>by
   obtain⟨r,h1,_,_⟩:=mS (t:=t) (v.Rest.getD i bV).ad ht;rw[lj,br,ae (aP a),d i a r h1];simp only[aZ,EG,I.aV,zY,aS,ao];rw[h1,bC]
   exact abY r.2 (bif decide (1<=(v.Rest.getD i bV).ad)then decide ((v.Rest.getD i bV).ad<=1000)else false) (decide ((0:Int)<(i:Int))) (c9 .i64 (i:Int) 1) (λj=>aG j v.Rest.length) (λj=>decide ((v.Rest.getD i bV).ad<=(v.Rest.getD j.toNat bV).ad)) _ _ (λc=>by
    have:0<i:=by simp at c;omega
    show aG _ _=true
    rw[qR this (by omega)];exact aP (by omega)))
  (by rw[lj,bw])
  (λi a=>by
   obtain⟨r,h1,b,_⟩:=mS (t:=t) (v.Rest.getD i bV).ad ht;rw[j9,br,ae (aP a),d i a r h1];simp only[aZ];rw[b,bC];have f:jl ((v.Rest.getD i bV).ad,r.2)=some ((!r.2)&&(bif decide (1<=(v.Rest.getD i bV).ad)then decide ((v.Rest.getD i bV).ad<=1000)else false)):=by
    rw[jl];grind
   show(if aG (i:Int) v.Rest.length then jl ((v.Rest.getD i bV).ad,r.2)>>=_ else none)=_;rw[ae (aP a),f]
   exact K1 ((!r.2)&&(bif decide (1<=(v.Rest.getD i bV).ad)then decide ((v.Rest.getD i bV).ad<=1000)else false)) (aG (i:Int) v.Rest.length) (decide ((0:Int)<(i:Int))) (c9 .i64 (i:Int) 1) (λj=>aG j v.Rest.length) (λj=>decide ((v.Rest.getD i bV).ad<=(v.Rest.getD j.toNat bV).ad)) _ _ (aP a) (λc=>by
    have:0<i:=by simp at c;omega
    show aG _ _=true
    rw[qR this (by omega)];exact aP (by omega)))
  (by rw[j9,bw])
 have aN:lj (plain,v.Rest,(v.Rest.length:Int),((0:Nat):Int),ts,v,t.Kind,t.Name,t.bE,t.bH,t.Max,t.bh,t.ah,t.Key,t.aF,t.Open)=lj (plain,v.Rest,(v.Rest.length:Int),0,ts,v,t.Kind,t.Name,t.bE,t.bH,t.Max,t.bh,t.ah,t.Key,t.aF,t.Open):=rfl;have e:j9 (v.Rest,((0:Nat):Int),t)=j9 (v.Rest,0,t):=rfl;simp only[aN,e]at h;rw[qY];rcases h with⟨h1,b,_⟩|⟨h1,b,_⟩
 . exact .inl ⟨h1,by rw[b];rfl⟩
 . exact .inr ⟨h1,by rw[b];rfl⟩
end
theorem aaZ(af:v.aj.length=t.ah.length)(ag:t.ah.length<9223372036854775807)(ih:∀x,x∈v.aj->Fit ts x)(plain:Bool):
 (mP (plain,t.ah,(t.ah.length:Int),0,ts,v.Kind,v.bN,v.bc,v.bl,v.ad,v.ay,v.aj,v.Rest)=some (.inr ())/\iX (plain,0,ts,v,t.Kind,t.Name,t.bE,t.bH,t.Max,t.bh,t.ah,t.Key,t.aF,t.Open)=some (.inr ()))\/
 (mP (plain,t.ah,(t.ah.length:Int),0,ts,v.Kind,v.bN,v.bc,v.bl,v.ad,v.ay,v.aj,v.Rest)=some (.inl false)/\iX (plain,0,ts,v,t.Kind,t.Name,t.bE,t.bH,t.Max,t.bh,t.ah,t.Key,t.aF,t.Open)=some (.inl false)):=by
 let p:Nat->Bool:=λi=>(kc ((⟨ts⟩:aT),(t.ah.getD i aC).aw,v.aj.getD i av,plain)).getD false;have c:∀i,i<t.ah.length->kc ((⟨ts⟩:aT),(t.ah.getD i aC).aw,v.aj.getD i av,plain)=some (p i)/\iC ((⟨ts⟩:aT),(t.ah.getD i aC).aw,v.aj.getD i av,plain)=some (p i):=by
  intro i a;obtain⟨r,h1,b⟩:=ih _ (bd (by omega:i<v.aj.length) av) (t.ah.getD i aC).aw plain;grind
 have h:=HV (λi=>mP (plain,t.ah,(t.ah.length:Int),(i:Int),ts,v.Kind,v.bN,v.bc,v.bl,v.ad,v.ay,v.aj,v.Rest)) (λi=>iX (plain,(i:Int),ts,v,t.Kind,t.Name,t.bE,t.bH,t.Max,t.bh,t.ah,t.Key,t.aF,t.Open)) t.ah.length p () ()
  (λi a=>by
   rw[mP,br,ae (aP a),ae (aP (by omega))];simp only[aZ,I.aV];rw[(c i a).1,bC]
   grind)
  (by rw[mP,bw])
  (λi a=>by
   rw[iX,br,ae (aP a),ae (aP (by omega))];simp only[aZ,I.aV];rw[(c i a).2,bC]
   grind)
  (by rw[iX,b'])
 have aN:mP (plain,t.ah,(t.ah.length:Int),((0:Nat):Int),ts,v.Kind,v.bN,v.bc,v.bl,v.ad,v.ay,v.aj,v.Rest)=mP (plain,t.ah,(t.ah.length:Int),0,ts,v.Kind,v.bN,v.bc,v.bl,v.ad,v.ay,v.aj,v.Rest):=rfl;have d:iX (plain,((0:Nat):Int),ts,v,t.Kind,t.Name,t.bE,t.bH,t.Max,t.bh,t.ah,t.Key,t.aF,t.Open)=iX (plain,0,ts,v,t.Kind,t.Name,t.bE,t.bH,t.Max,t.bh,t.ah,t.Key,t.aF,t.Open):=rfl;simp only[aN,d]at h;rcases h with⟨h1,b,_⟩|⟨h1,b,_⟩
 . exact .inl ⟨h1,b⟩
 . exact .inr ⟨h1,b⟩
theorem wV(h:bK v):cx v.bc:=by cases h with|mk _ _ _ _ _ _ _ _ dc a=>exact a
theorem abQ{ts:List ai}{t:ai}(ag:v.ay.length<9223372036854775807)(g:∀x,x∈v.ay->bK x)(plain:Bool):
 let inr:=(plain,ts,v,t.Kind,t.Name,t.bE,t.bH,t.Max,t.bh,t.ah,t.Key,t.aF,t.Open)
 (kH (plain,1,ts,v,t.Kind,t.Name,t.bE,t.bH,t.Max,t.bh,t.ah,t.Key,t.aF,t.Open)=some (.inr inr)/\hX (1,v)=some (.inr ()))\/
 (kH (plain,1,ts,v,t.Kind,t.Name,t.bE,t.bH,t.Max,t.bh,t.ah,t.Key,t.aF,t.Open)=some (.inl false)/\hX (1,v)=some (.inl false)):=by
 intro inr;by_cases h0:v.ay.length=0
 . left;refine⟨?_,?_⟩
   . rw[kH,al (by simp[h0]),I.aV]
   . rw[hX,al (by simp[h0])]
 let c:Nat->Int:=λi=>(qe (v.ay.getD i av,v.ay.getD (i+1) av)).getD 0;have f:∀i,i+1<v.ay.length->qe (v.ay.getD i av,v.ay.getD (i+1) av)=some (c i)/\oe (v.ay.getD i av,v.ay.getD (i+1) av)=some (c i):=by
  intro i b;obtain⟨r,h1,a⟩:=DJ (wV (g _ (bd (by omega:i<v.ay.length) av))) (wV (g _ (bd b av)));grind
 have h:=HV (λi=>kH (plain,((i+1:Nat):Int),ts,v,t.Kind,t.Name,t.bE,t.bH,t.Max,t.bh,t.ah,t.Key,t.aF,t.Open)) (λi=>hX (((i+1:Nat):Int),v)) (v.ay.length-1) (λi=>!(decide (0<=c i))) inr ()
  (λi b=>by
   have hs:=qR (i:=i+1) (by omega) (by omega);have d:c9 .i64 ((i+1:Nat):Int) 1=(i:Int):=by rw[hs];simp
   rw[kH,br];simp only[aS,ao];rw[d,ae (aP (by omega)),ae (aP (by omega))];simp only[aZ,I.aV];rw[(f i (by omega)).1,bC]
   grind)
  (by
   have e:v.ay.length-1+1=v.ay.length:=by omega
   rw[e,kH,bw,I.aV])
  (λi b=>by
   have hs:=qR (i:=i+1) (by omega) (by omega);have d:c9 .i64 ((i+1:Nat):Int) 1=(i:Int):=by rw[hs];simp
   rw[hX,br];simp only[aS,ao];rw[d,ae (aP (by omega)),ae (aP (by omega))];simp only[aZ,I.aV];rw[(f i (by omega)).2,bC]
   grind)
  (by
   have e:v.ay.length-1+1=v.ay.length:=by omega
   rw[e,hX,bw])
 have aN:kH (plain,((0+1:Nat):Int),ts,v,t.Kind,t.Name,t.bE,t.bH,t.Max,t.bh,t.ah,t.Key,t.aF,t.Open)=kH (plain,1,ts,v,t.Kind,t.Name,t.bE,t.bH,t.Max,t.bh,t.ah,t.Key,t.aF,t.Open):=rfl;have j:hX (((0+1:Nat):Int),v)=hX (1,v):=rfl;simp only[aN,j]at h;rcases h with⟨h1,a,_⟩|⟨h1,a,_⟩
 . exact .inl ⟨h1,a⟩
 . exact .inr ⟨h1,a⟩
theorem Kp{c:Type}{b:List c}(h:decide ((a.length:Int)=(b.length:Int))=true):a.length=b.length:=by grind
theorem SG{r:Int×Bool}(c:o=some r)(a plain f:Bool):
 (o>>=λb=>some (bif a then(!plain)else false)>>=λt85=>(if((!b.2)&&t85) then some f else some false)>>=λd=>some (bif b.2 then true else bif t85 then d else false))=some (r.2||(a && !plain&&f)):=by
 subst c;obtain⟨k,fR⟩:=r;cases fR<;>cases a<;>cases plain<;>cases f<;>rfl
theorem FG{r:Int×Bool}(c:o=some r)(a plain f:Bool)(F:Bool->Option Bool)(bx:F false=some f):
 (o>>=λb=>some (bif a then(!plain)else false)>>=λt85=>(if((!b.2)&&t85) then F b.2 else some false)>>=λd=>some (bif b.2 then true else bif t85 then d else false))=some (r.2||(a && !plain&&f)):=by
 subst c;obtain⟨k,fR⟩:=r;cases fR<;>cases a<;>cases plain<;>simp[bx]
theorem k7{o:Option Bool}{r:Bool}(b:o=some r)(q:Bool):(some q>>=λt244=>(if t244 then o else some false)>>=λa=>some (bif t244 then a else false))=some (q&&r):=by grind
theorem FH(c a b f:Bool){d:Option Bool}(g:c=true->d=some f)(h1:c=true->a=true/\b=true):(some c>>=λt188=>if(a||(!t188))then if(b||(!t188))then(if t188 then d else some false)>>=λe=>some (bif t188 then e else false)else none else none)=some (c&&f):=by grind
theorem ahv(A b q m:Bool){a:Option Bool}(ag:a=some q)(cX:A=true->L=some (if m then .inr ()else .inl false)):
 (if(bif (bif false then true else(!true))then true else b) then some false else some (!A)>>=λt107=>(if !t107 then a else some false)>>=λc=>if(bif t107 then true else(!c)) then some false else L>>=λo=>match o with|.inl x=>some x|.inr _=>some true)=some (A && !b&&q&&m):=by
 subst ag;cases A with
 |false=>cases b<;>rfl
 |true=>
  rw[cX rfl];cases b<;>cases q<;>cases m<;>rfl
theorem FI(g f b a cw E:Bool)(h1:a=true->cw=true):(some g>>=λt209=>(if t209 then some f else some false)>>=λc=>some (bif bif bif t209 then c else false then b else false then a else false)>>=λt226=>if(cw||(!t226))then some (bif t226 then E else false)else none)=some (g&&f&&b&&a&&E):=by grind
theorem SH(c:Bool){b a:Option Bool}{k i:Bool}(e:b=some k)(d:a=some i)(cX:L=some (if q then .inr ()else .inl false)):
 (some c>>=λt239=>(if !t239 then b else some false)>>=λj=>some (bif t239 then true else(!j))>>=λt249=>(if !t249 then a else some false)>>=λl=>if(bif t249 then true else(!l)) then some false else L>>=λf=>match f with|.inl g=>some g|.inr _=>some true)=some (!c&&k&&q&&i):=by
 subst e;subst d;subst cX;cases c<;>cases k<;>cases q<;>cases i<;>rfl
theorem ML(aH:ts.length<9223372036854775807)(db:∀t,t∈ts->eZ t)(bD:∀t,t∈ts->ox t.Kind)(au:bK v):Fit ts v:=by
 induction au with
 |mk v hs h1 P Q aj aJ aN dc aR aS aU ax O=>
  intro t plain;rw[kc,iC];by_cases D:(bif decide (t<0)then true else decide (((⟨ts⟩:aT).Types.length:Int)<=t))=true
  . rw[ae D,ae D];exact⟨false,rfl,rfl⟩
  . rw[al D,al D];have aM:0<=t/\t<ts.length:=(by grind);obtain⟨j,rfl⟩:∃j:Nat,t=(j:Int):=⟨t.toNat,by omega⟩
    have A:j<ts.length:=(by omega);rw[ae (aP A),ae (aP A)];simp only[aZ,I.aV];have J:=db _ (bd A aK);have F:=bD _ (bd A aK);generalize ts.getD j aK=x at J F⊢;have C:=dA (ig J.gY);have W:=dA (ig J.syms);by_cases w:v.Kind=x.Kind
    . obtain⟨p,ay,az,aA⟩:=YG (v:=v) (by rw[w];exact F);rw[ay,az];cases p with
      |false=>exact⟨false,by simp[w],by simp[w]⟩
      |true=>
       have G:=MK (ts:=ts) P O;have ak:=MK (ts:=ts) h1 ax;obtain⟨K,N,L,H,M,S,Ms,g,E,d⟩:=x;obtain⟨s,B,cw,l,ad,e,c,R⟩:=v;simp only at w;subst w;have u:=aA rfl;simp only at u F C W h1 P Q;have ah:s=1\/s=2\/s=3\/s=4\/s=5\/s=6\/s=7\/s=8\/s=9:=by unfold ox at F;omega
       rcases ah with rfl|rfl|rfl|rfl|rfl|rfl|rfl|rfl|rfl
       . obtain rfl:R=[]:=u (by decide) (by decide);cases plain<;>exact⟨true,rfl,rfl⟩
       . obtain rfl:R=[]:=u (by decide) (by decide);cases plain<;>exact⟨_,rfl,rfl⟩
       . obtain rfl:R=[]:=u (by decide) (by decide);cases plain<;>exact⟨_,rfl,rfl⟩
       . obtain rfl:R=[]:=u (by decide) (by decide);obtain⟨r,n,o,_⟩:=rb (t:=⟨4,N,L,H,M,S,Ms,g,E,d⟩) ad W;have z:jl (ad,false)=some (bif decide (1<=ad)then decide (ad<=1000)else false):=(by rfl);cases plain
         . exact⟨_,SG n d false _,FG o d false _ (λb=>jl (ad,b)) z⟩
         . exact⟨_,SG n d true _,FG o d true _ (λb=>jl (ad,b)) z⟩
       ·
        have aO:=ahY (t:=⟨5,N,L,H,M,S,Ms,g,E,d⟩) C ⟨5,B,cw,l,ad,e,c,R⟩ Q plain ts;have aq:decide ((c.length:Int)=(Ms.length:Int))=true->_:=λy=>aaZ (ts:=ts) (t:=⟨5,N,L,H,M,S,Ms,g,E,d⟩) (v:=⟨5,B,cw,l,ad,e,c,R⟩) (Kp y) C O plain;have ar:∃q:Bool,lj (plain,R,(R.length:Int),0,ts,⟨5,B,cw,l,ad,e,c,R⟩,5,N,L,H,M,S,Ms,g,E,d)=some (if q then .inr (plain,ts,5,B,cw,l,ad,e,c,R,5,N,L,H,M,S,Ms,g,E,d)else .inl false)/\qY (⟨5,N,L,H,M,S,Ms,g,E,d⟩,R)=some q:=(by grind);obtain⟨q,aV,aB⟩:=ar;have ao:∃m:Bool,decide ((c.length:Int)=(Ms.length:Int))=true->(mP (plain,Ms,(Ms.length:Int),0,ts,5,B,cw,l,ad,e,c,R)=some (if m then .inr ()else .inl false)/\iX (plain,0,ts,⟨5,B,cw,l,ad,e,c,R⟩,5,N,L,H,M,S,Ms,g,E,d)=some (if m then .inr ()else .inl false)):=by
         cases y:decide ((c.length:Int)=(Ms.length:Int))with
         |false=>exact⟨true,λh=>by cases h⟩
         |true=>
          rcases aq y with⟨a,b⟩|⟨a,b⟩
          . simp_all
          simp_all
        obtain⟨m,an⟩:=ao;refine⟨(decide ((c.length:Int)=(Ms.length:Int))) && !(bif plain then decide (0<(R.length:Int))else false)&&q&&m,?_,?_⟩
        . show(if(bif (!((c.length:Int)=(Ms.length:Int):Bool))then true else bif plain then (0<(R.length:Int):Bool)else false) then some false else lj (plain,R,(R.length:Int),0,ts,⟨5,B,cw,l,ad,e,c,R⟩,5,N,L,H,M,S,Ms,g,E,d)>>=_)=_;grind
        . exact ahv (decide ((c.length:Int)=(Ms.length:Int))) (bif plain then decide (0<(R.length:Int))else false) q m aB (λy=>(an y).2)
       ·
        obtain⟨r,n,o,z⟩:=mS (t:=⟨6,N,L,H,M,S,Ms,g,E,d⟩) ad C;have aL:∀b,b=false->jl (ad,b)=some (bif decide (1<=ad)then decide (ad<=1000)else false):=by
         intro b ag;subst ag;rfl
        have af:∃f:Bool,(bif decide ((c.length:Int)=1)then decide ((R.length:Int)=0)else false)=true->(kc ((⟨ts⟩:aT),(Ms.getD r.1.toNat aC).aw,c.getD (0:Int).toNat av,plain)=some f/\iC ((⟨ts⟩:aT),(Ms.getD r.1.toNat aC).aw,c.getD (0:Int).toNat av,plain)=some f):=by
         by_cases aa:c.length=1
         . obtain⟨f,f1,f2⟩:=O (c.getD 0 av) (bd (by omega:0<c.length) av) (Ms.getD r.1.toNat aC).aw plain;grind
         grind
        obtain⟨f,U⟩:=af;have V:r.2=true->(bif decide ((c.length:Int)=1)then decide ((R.length:Int)=0)else false)=true->aG r.1 Ms.length=true/\aG 0 c.length=true:=by
         intro ab aI;constructor
         . rcases z with⟨k,k1,_,_,rfl⟩|⟨_,rfl⟩
           . exact aP k1
           . cases ab
         . by_cases aa:c.length=1
           . exact aP (k:=0) (by omega)
           grind
        have T:decide ((R.length:Int)=1)=true->aG 0 R.length=true:=by
         intro h;have:=gM h;exact aP (k:=0) (by omega)
        obtain⟨Z,ko⟩:=r;refine⟨if ko then(bif decide ((c.length:Int)=1)then decide ((R.length:Int)=0)else false)&&f else(bif d then(!plain)else false)&&(bif decide (1<=ad)then decide (ad<=1000)else false)&&decide ((c.length:Int)=0)&&decide ((R.length:Int)=1)&&decide ((R.getD (0:Int).toNat bV).ad=ad),?_,?_⟩
        . show(hg (⟨6,N,L,H,M,S,Ms,g,E,d⟩,ad)>>=_)=_;rw[n];cases ko with
          |true=>exact FH _ (aG Z Ms.length) (aG 0 c.length) f (λh=>(U h).1) (V rfl)
          |false=>exact FI (bif d then(!plain)else false) (bif decide (1<=ad)then decide (ad<=1000)else false) (decide ((c.length:Int)=0)) (decide ((R.length:Int)=1)) (aG 0 R.length) (decide ((R.getD (0:Int).toNat bV).ad=ad)) T
        . show(if(bif (bif false then true else(!true))then true else(bif plain then (0<(R.length:Int):Bool)else false)) then some false else hC (⟨6,N,L,H,M,S,Ms,g,E,d⟩,ad)>>=_)=_;rw[o];cases aF:(bif plain then decide (0<(R.length:Int))else false)with
          |true=>
           have ap:plain=true:=(by grind);subst ap;have aE:decide ((R.length:Int)=0)=false:=(by grind);grind
          |false=>
           cases ko with
           |true=>exact FH _ (aG Z Ms.length) (aG 0 c.length) f (λh=>(U h).2) (V rfl)
           |false=>exact FI (bif d then(!plain)else false) (bif decide (1<=ad)then decide (ad<=1000)else false) (decide ((c.length:Int)=0)) (decide ((R.length:Int)=1)) (aG 0 R.length) (decide ((R.getD (0:Int).toNat bV).ad=ad)) T
       . obtain rfl:R=[]:=u (by decide) (by decide);obtain⟨r,n,o⟩:=G E plain;cases plain
         . exact⟨_,k7 n _,k7 o _⟩
         . exact⟨_,k7 n _,k7 o _⟩
       . obtain rfl:R=[]:=u (by decide) (by decide);obtain⟨k,k1,k2⟩:=ak g plain;obtain⟨i,aQ,X⟩:=G E plain;have am:=abQ (ts:=ts) (t:=⟨8,N,L,H,M,S,Ms,g,E,d⟩) (v:=⟨8,B,cw,l,ad,e,c,[]⟩) (dA h1) aj plain;obtain⟨q,aW,Y⟩:∃q:Bool,kH (plain,1,ts,⟨8,B,cw,l,ad,e,c,[]⟩,8,N,L,H,M,S,Ms,g,E,d)=some (if q then .inr (plain,ts,⟨8,B,cw,l,ad,e,c,[]⟩,8,N,L,H,M,S,Ms,g,E,d)else .inl false)/\hX (1,⟨8,B,cw,l,ad,e,c,[]⟩)=some (if q then .inr ()else .inl false):=by
          rcases am with⟨a,b⟩|⟨a,b⟩
          . simp_all
          simp_all
         refine⟨!(bif decide (M<(e.length:Int))then true else(!(decide ((c.length:Int)=(e.length:Int)))))&&k&&q&&i,?_,?_⟩
         . show(some (bif decide (M<(e.length:Int))then true else(!(decide ((c.length:Int)=(e.length:Int)))))>>=λt270=>(if !t270 then qN ((⟨ts⟩:aT),g,e,plain)else some false)>>=λaD=>if(bif t270 then true else(!aD)) then some false else kH (plain,1,ts,⟨8,B,cw,l,ad,e,c,[]⟩,8,N,L,H,M,S,Ms,g,E,d)>>=_)=_;grind
         . cases plain
           . exact SH (bif decide (M<(e.length:Int))then true else(!(decide ((c.length:Int)=(e.length:Int))))) k2 X Y
           . exact SH (bif decide (M<(e.length:Int))then true else(!(decide ((c.length:Int)=(e.length:Int))))) k2 X Y
       . obtain rfl:R=[]:=u (by decide) (by decide);obtain⟨r,n,o⟩:=G E plain;cases plain
         . exact⟨_,k7 n _,k7 o _⟩
         . exact⟨_,k7 n _,k7 o _⟩
    . exact⟨false,by simp[w],by simp[w]⟩
theorem tg{U:cM}{t:aL}{l:List (t.den U.D)}(h:WF U ⟨.slice t,l⟩):l.length<=reachBytes/\l.length*t.bytes U<=reachBytes/\∀x,x∈l->∀c,c∈t.row U x->WF U c:=by cases h with|slice t l h1 a b=>exact⟨h1,a,b⟩
theorem Kq(s:aT):(⟨s.Types⟩:aT)=s:=by cases s;rfl
def fb(n:Nat):ak:=if n=0 then[]else fb (n/256)++[UInt8.ofNat (n%256)]
termination_by n
decreasing_by omega
theorem Mj:∀(l:List α) (k:Nat) (x:α),k<l.length->(l.set k x).drop k=x::l.drop (k+1)
 |[],k,x,h=>by simp at h
 |a::l,0,x,h=>by simp
 |a::l,k+1,x,h=>by simp[Mj l k x (by simpa using h)]
theorem ah8(n:Nat):lE .u64 (n:Int) 8=((n/256:Nat):Int):=by
 unfold lE;have:((2:Int)^min (8:Int).toNat IntKind.u64.bits)=256:=by decide
 grind
theorem PW:∀(i n:Nat) (b:ar),n<256^i->i<=8->b.length=8->∃(c:Nat) (a:ar),tv ((n:Int),(i:Int),b)=some ((c:Int),a)/\c<=8/\a.length=8/\strOf (a.drop c)=fb n++strOf (b.drop i)
 |i,n,b,aH,d,e=>by
  rw[tv];by_cases h0:n=0
  . subst h0;rw[bw];refine⟨i,b,rfl,d,e,?_⟩;rw[fb,ae rfl];rfl
  . rw[br]
    match i,aH,d with
    |0,aH,d=>simp at aH;omega
    |i+1,aH,d=>
     have hs:c9 .i64 ((i+1:Nat):Int) 1=(i:Int):=by rw[gS];omega
     simp only[aS,ao];rw[hs,ae (aP (by omega)),ae (by simp[e];omega),ah8,xo,aZ];have aB:n/256<256^i:=(by omega);obtain⟨c,a,h1,f,g,j⟩:=PW i (n/256) (b.set i ((n%256:Nat):Int)) aB (by omega) (by simp[e]);refine⟨c,a,h1,f,g,?_⟩;rw[j,Mj _ _ _ (by omega),aaT]
     conv=>rhs;rw[fb,al h0]
     grind
theorem EJ{n:Nat}(aH:n<18446744073709551616):zZ (n:Int)=some (fb n):=by
 have e:(256:Nat)^8=18446744073709551616:=by decide
 obtain⟨c,d,h1,k,a,g⟩:=PW 8 n [0,0,0,0,0,0,0,0] (by rw[e];exact aH) (by omega) rfl;have f:tv ((n:Int),8,[0,0,0,0,0,0,0,0])=some ((c:Int),d):=h1;rw[zZ,f];simp only[aS,ao,aZ];have j:dN (c:Int) 8 8=true:=jO (b:=8) (by omega) (by omega);have i:(8:Int).toNat=8:=rfl;rw[ae j,i,ae (by simp[xd,a];omega)];rw[qk (by simp[a]),g];simp[strOf]
theorem v8:∀(f n:Nat),n<256^f->(fb n).length<=f
 |0,n,h=>by
  have:n=0:=by simpa using h
  subst this;rw[fb,ae rfl];simp
 |f+1,n,h=>by
  rw[fb];split
  . simp
  . have:=v8 f (n/256) (by omega);simp;omega
theorem MM:∀(f n:Nat) (a:ak),n<256^f->n<18446744073709551616->a.length+f<=1000->vu ((n:Int),a)=some (fb n++a)
 |f,n,a,aH,j,c=>by
  rw[vu];by_cases h0:n=0
  . subst h0;rw[bw,fb,ae rfl];rfl
  . rw[br]
    match f,aH,c with
    |0,aH,c=>simp at aH;omega
    |f+1,aH,c=>
     have i:b7 (n:Int) 256=((n%256:Nat):Int):=AO (b:=256);have g:fC .u64 (n:Int) 256=((n/256:Nat):Int):=by
      unfold fC;have e:(n:Int).tdiv 256=((n/256:Nat):Int):=by rw[Cg (by omega)];omega
      rw[e];exact kX (by omega) (by omega)
     have d:strOf [((n%256%256:Nat):Int)]=[UInt8.ofNat (n%256)]:=by
      have:n%256%256=n%256:=(by omega);rw[this];rfl
     simp only[aS,ao];rw[i,g,xo,d,ae (gb (by simp;omega))];have aB:n/256<256^f:=(by omega);rw[MM f (n/256) _ aB (by omega) (by simp;omega)]
     conv=>rhs;rw[fb,al h0]
     grind
theorem MN{n:Nat}(aH:n<18446744073709551616):yX (n:Int)=some (fb n):=by
 have e:(256:Nat)^8=18446744073709551616:=by decide
 rw[yX,MM 8 n [] (by rw[e];exact aH) aH (by simp)];simp
end
section
open Go Go.Proofs.YtdjagncoefjfeaaGreat.Shv Go.Sort
set_option maxRecDepth 100000
variable{c α:Type}{ms:List aU}
section
variable {α:Type}
theorem ND{a:Type}{f g:a->List c}:∀{l:List a},(∀x,x∈l->f x=g x)->l.flatMap f=l.flatMap g
 |[],_=>rfl
 |x::l,h=>by
  simp only[eY];rw[h x (.head _),ND λy b=>h y (.tail _ b)]
theorem Kr(x:α)(n:Nat)(f:Nat->List α):∀(ks:a7),ks.Nodup->n∈ks->(ks.flatMap λi=>if n=i then x::f i else f i).Perm (x::ks.flatMap f)
 |[],_,h=>by cases h
 |k::ks,aH,h=>by
  rw[List.nodup_cons]at aH;simp only[eY];by_cases e:n=k
  . rw[ae e];have:(ks.flatMap λi=>if n=i then x::f i else f i)=ks.flatMap f:=ND λy b=>by grind
    simp_all
  . rw[al e];have a:n∈ks:=(eJ.1 h).resolve_left e;refine((Kr x n f ks aH.2 a).append_left (f k)).trans ?_;simp_all
theorem Ks(key:α->Nat)(ks:a7)(aH:ks.Nodup):∀l:List α,(∀x,x∈l->key x∈ks)->(ks.flatMap λi=>l.filter λx=>decide (key x=i)).Perm l
 |[],_=>by simp
 |x::l,h=>by
  have e:(λi=>(x::l).filter λy=>decide (key y=i))=λi=>if key x=i then x::(l.filter λy=>decide (key y=i))else l.filter λy=>decide (key y=i):=by grind
  rw[e];exact(Kr x (key x) _ ks aH (h x (.head _))).trans ((Ks key ks aH l λy a=>h y (.tail _ a)).cons x)
theorem Zx(key:α->Nat)(a n:Nat)(l:List α):((List.range' a n).flatMap λi=>l.filter λx=>decide (key x=i)).Pairwise (λx y=>decide (key y<key x)=false):=by
 rw[List.pairwise_flatMap];constructor
 . intro i b;rw[List.pairwise_iff_forall_sublist];grind
 . refine(List.pairwise_lt_range' (s:=a) (n:=n)).imp ?_;grind
theorem NF[Inhabited α][Inhabited c]{lt:α->α->Bool}{d:c->c->Bool}(g:α->c)(h:∀a b,d (g a) (g b)=lt a b):∀l,gX d (l.map g)=(gX lt l).map g
 |[]=>rfl
 |x::l=>by
  have key:∀r,oy d (g x) (r.map g)=(oy lt x r).map g:=by
   intro r;induction r with
   |nil=>rfl
   |cons y r ih=>
    simp only[oy,List.map];grind
  simp only[gX,List.map];rw[NF g h l,key]
theorem MO[Inhabited α]{lt:α->α->Bool}:∀{l:List α},l.Pairwise (λx y=>lt x y=true\/lt y x=true)->ki lt l=true
 |[],_=>rfl
 |x::l,h=>by
  rw[h6]at h;simp only[ki,c5,fK,me];exact⟨h.1,MO h.2⟩
end
mutual
def wt:I->Nat
 |⟨_,_,_,s,_,ks,a,r⟩=>10+s.length+(r.map λx=>x.Data.length+1).sum+cK ks+cK a
def cK:List I->Nat
 |[]=>0
 |v::l=>wt v+cK l
end
structure Fd where
 id:Nat
 c:Bool
 p:ak
instance:Inhabited Fd:=⟨⟨0,false,[]⟩⟩
def fm(a b:Fd):Bool:=decide (a.id<b.id)
def Fd.text(f:Fd):ak:=eW f.id f.c f.p
def fg:List ak->List ak->ak
 |k::ks,v::vs=>da k++(da v++fg ks vs)
 |_,_=>[]
def cB(l:List aU)(id:Int):Option aU:=l.find? λm=>decide (m.ad=id)
open Classical in
noncomputable def di (m:aU)(v:I):Bool:=m.bU&&decide (m.bA=v)
def jY(r:bW):Fd:=⟨r.ad.toNat,false,r.Data⟩
mutual
noncomputable def bo (ts:List ai)(t:Int):I->ak
 |⟨_,b,i,s,id,ks,a,r⟩=>
  let x:=ts.getD t.toNat aK
  if x.Kind=1 then(if b then[1]else[])
  else if x.Kind=2 then fb (fE i).toNat
  else if x.Kind=3 then s
  else if x.Kind=4 then fb id.toNat
  else if x.Kind=5 then(gX fm (dm ts x.ah a++r.map jY)).flatMap Fd.text
  else if x.Kind=6 then dP id.toNat++(match cB x.ah id with
   |some m=>(bt ts m.aw a).headD []
   |none=>(r.map bW.Data).headD [])
  else if x.Kind=7 then(bt ts x.aF a).flatMap da
  else if x.Kind=8 then fg (bt ts x.Key ks) (bt ts x.aF a)
  else match bt ts x.aF a with
   |[]=>[]
   |p::_=>1::p
noncomputable def bt (ts:List ai)(t:Int):List I->List ak
 |[]=>[]
 |v::l=>bo ts t v::bt ts t l
noncomputable def dm (ts:List ai):List aU->List I->List Fd
 |m::ms,v::l=>if di m v then dm ts ms l else⟨m.ad.toNat,m.ch,bo ts m.aw v⟩::dm ts ms l
 |_,_=>[]
end
mutual
noncomputable def dH (ts:List ai)(t:Int):I->Nat
 |⟨_,_,_,_,id,ks,a,_⟩=>
  let x:=ts.getD t.toNat aK
  1+max (if ks=[]then 0 else 1) (if x.Kind=5 then fc ts x.ah a
   else if x.Kind=6 then(match cB x.ah id with
    |some m=>dC ts m.aw a
    |none=>0)
   else dC ts x.aF a)
noncomputable def dC (ts:List ai)(t:Int):List I->Nat
 |[]=>0
 |v::l=>max (dH ts t v) (dC ts t l)
noncomputable def fc (ts:List ai):List aU->List I->Nat
 |m::ms,v::l=>if di m v then fc ts ms l else max (dH ts m.aw v) (fc ts ms l)
 |_,_=>0
end
def cm(n:Int):Prop:=1<=n/\n<=1000
def jR(ms:List aU)(r:List bW):Prop:=r.Pairwise (λa b=>a.ad<b.ad)/\∀x,x∈r->cm x.ad/\cB ms x.ad=none
def g'(a b:I):Int:=(qe (a,b)).getD 0
def jP(ks:List I):Prop:=∀i,i+1<ks.length->g' (ks.getD i av) (ks.getD (i+1) av)<0
mutual
def bX(ts:List ai)(pl:Bool)(t:Int):I->Prop
 |⟨k,b,i,s,id,ks,a,r⟩=>
  let x:=ts.getD t.toNat aK
  (0<=t/\t<ts.length/\k=x.Kind/\(pl=true->r=[]))/\
  (k=1/\i=0/\s=[]/\id=0/\ks=[]/\a=[]/\r=[]\/
  k=2/\b=false/\s=[]/\id=0/\ks=[]/\a=[]/\r=[]/\x.bE<=i/\i<=x.bH\/
  k=3/\b=false/\i=0/\id=0/\ks=[]/\a=[]/\r=[]/\(s.length:Int)<=x.Max\/
  k=4/\b=false/\i=0/\s=[]/\ks=[]/\a=[]/\r=[]/\((∃y,y∈x.bh/\y.ad=id)\/x.Open=true/\pl=false/\cm id)\/
  k=5/\b=false/\i=0/\s=[]/\id=0/\ks=[]/\jR x.ah r/\hv ts pl x.ah a\/
  k=6/\b=false/\i=0/\s=[]/\ks=[]/\(match cB x.ah id with
   |some m=>r=[]/\a.length=1/\e3 ts pl m.aw a
   |none=>x.Open=true/\pl=false/\cm id/\a=[]/\∃d,r=[⟨id,d⟩])\/
  k=7/\b=false/\i=0/\s=[]/\id=0/\ks=[]/\r=[]/\(a.length:Int)<=x.Max/\e3 ts pl x.aF a\/
  k=8/\b=false/\i=0/\s=[]/\id=0/\r=[]/\(ks.length:Int)<=x.Max/\a.length=ks.length/\e3 ts pl x.Key ks/\e3 ts pl x.aF a/\jP ks\/
  k=9/\b=false/\i=0/\s=[]/\id=0/\ks=[]/\r=[]/\a.length<=1/\e3 ts pl x.aF a)
def e3(ts:List ai)(pl:Bool)(t:Int):List I->Prop
 |[]=>True
 |v::l=>bX ts pl t v/\e3 ts pl t l
def hv(ts:List ai)(pl:Bool):List aU->List I->Prop
 |m::ms,v::l=>bX ts pl m.aw v/\hv ts pl ms l
 |[],[]=>True
 |_,_=>False
end
theorem fD(v:I):wt v=10+v.bl.length+(v.Rest.map λx=>x.Data.length+1).sum+cK v.ay+cK v.aj:=by cases v;rw[wt]
theorem hh(v:I)(l:List I):cK (v::l)=wt v+cK l:=by rw[cK]
theorem gH:cK []=0:=by rw[cK]
theorem fx:∀{l:List I} {x:I},x∈l->wt x<=cK l
 |y::l,x,h=>by
  rw[hh];rcases eJ.1 h with rfl|h
  . omega
  . have:=fx h;omega
theorem LL{p:ak}(h:p.length<1152921504606846976):(da p).length<=p.length+10:=by
 have:=kd (n:=p.length) (by omega);unfold da;simp;omega
theorem NG{f:Fd}(h:f.p.length<1152921504606846976)(a:f.id<=9223372036854775807):f.text.length<=f.p.length+20:=by
 have:=LL h;have:=kd (n:=2*f.id+(if f.c then 1 else 0)) (by split<;>omega);unfold Fd.text eW;simp only[cq];omega
theorem za{f:α->List c}{a b:List α}(h:a.Perm b):(a.flatMap f).length=(b.flatMap f).length:=(h.flatMap_right f).length_eq
theorem AF{n:Int}(h:cx n):(fE n).toNat<18446744073709551616:=by
 unfold fE cx at*;split<;>omega
section
variable {ts:List ai}
def xA(ts:List ai)(v:I):Prop:=∀t,(bo ts t v).length+20<=21*wt v
theorem HW:∀{l:List I} {t:Int},cK l<=1099511627776->(∀x,x∈l->xA ts x)->((bt ts t l).flatMap da).length<=21*cK l
 |[],t,_,_=>by rw[bt];simp
 |v::l,t,a,h=>by
  rw[bt,eY,cq];rw[hh]at a⊢;have h1:=h v (.head _) t;have c:=HW (t:=t) (by omega) λx b=>h x (.tail _ b);have d:=LL (p:=bo ts t v) (by omega);omega
theorem kK:∀{l:List I} {t:Int},(bt ts t l).length=l.length
 |[],t=>by rw[bt];rfl
 |v::l,t=>by rw[bt,gA,gA,kK]
theorem Er:∀{l:List I} {t:Int},bt ts t l=l.map (bo ts t)
 |[],t=>by rw[bt];rfl
 |v::l,t=>by rw[bt,List.map,Er]
theorem D8:∀(a b:List ak),(fg a b).length<=(a.flatMap da).length+(b.flatMap da).length
 |[],b=>by simp[fg]
 |k::ks,[]=>by simp[fg]
 |k::ks,v::vs=>by
  have:=D8 ks vs;simp only[fg,eY,cq];omega
theorem MP:∀{ms:List aU} {l:List I},cK l<=1099511627776->(∀m,m∈ms->m.ad<=1000)->(∀x,x∈l->xA ts x)->((dm ts ms l).flatMap Fd.text).length<=21*cK l
 |[],l,_,_,_=>by rw[dm]<;>simp
 |m::ms,[],_,_,_=>by rw[dm]<;>simp
 |m::ms,v::l,c,b,h=>by
  rw[hh]at c⊢;rw[dm];have h1:=h v (.head _) m.aw;have d:=MP (ms:=ms) (l:=l) (by omega) (λx a=>b x (.tail _ a)) λx a=>h x (.tail _ a);have g:=b m (.head _);split
  . omega
  . rw[eY,cq];have e:=NG (f:=⟨m.ad.toNat,m.ch,bo ts m.aw v⟩) (by show(bo ts m.aw v).length<_;omega) (by show m.ad.toNat<=_;omega);grind
theorem NH:∀{l:List bW},(∀x,x∈l->x.Data.length<=reachBytes/\x.ad<=9223372036854775807)->True->((l.map jY).flatMap Fd.text).length<=21*(l.map λx=>x.Data.length+1).sum
 |[],_,_=>by simp
 |r::l,h,_=>by
  have h1:=h r (.head _);have c:=NH (l:=l) (λx b=>h x (.tail _ b)) trivial;unfold reachBytes at h1;have a:=NG (f:=jY r) (by show r.Data.length<_;omega) (by show r.ad.toNat<=_;omega);have d:(jY r).text.length<=r.Data.length+20:=a;grind
def QE(ts:List ai):Prop:=∀x,x∈ts->∀m,m∈x.ah->m.ad<=1000
theorem YH(l:List α)(i:Nat)(d:α):l.getD i d∈l\/l.getD i d=d:=by grind
theorem MQ{l:List ak}{n:Nat}(h:∀x,x∈l->x.length<=n):(l.headD []).length<=n:=by
 cases l with
 |nil=>simp
 |cons x l=>exact h x (.head _)
theorem Om:∀{l:a7} {n:Nat},n∈l->n<=l.sum
 |a::l,n,h=>by
  rw[oG];rcases eJ.1 h with rfl|h
  . omega
  . have:=Om h;omega
theorem abZ(g:QE ts){v:I}(h:bK v):wt v<=1099511627776->xA ts v:=by
 induction h with
 |mk v hs h1 B C F E ag dc q L u n k=>
  intro G t;have H:=fD v;have f:∀x,x∈v.ay->xA ts x:=λx a=>n x a (by have:=fx a;omega);have d:∀x,x∈v.aj->xA ts x:=λx a=>k x a (by have:=fx a;omega);have z:=λt=>HW (t:=t) (l:=v.ay) (by omega) f;have oW:=λt=>HW (t:=t) (l:=v.aj) (by omega) d;have a:∀m,m∈(ts.getD t.toNat aK).ah->m.ad<=1000:=by
   rcases YH ts t.toNat aK with h|h
   . exact g _ h
   . rw[h];intro m j;cases j
  have A:∀t,((bt ts t v.aj).headD []).length+20<=21*cK v.aj+20:=λt=>by
   have:((bt ts t v.aj).headD []).length<=21*cK v.aj:=MQ λp c=>by
    rw[Er]at c;obtain⟨x,a,rfl⟩:=e'.1 c;have:=d x a t;have:=fx a;omega
   omega
  have fF:((v.Rest.map jY).flatMap Fd.text).length<=21*(v.Rest.map λx=>x.Data.length+1).sum:=NH (λx a=>⟨ag x a,(u x a).2⟩) trivial;have y:=MP (ts:=ts) (ms:=(ts.getD t.toNat aK).ah) (l:=v.aj) (by omega) a d;have w:((v.Rest.map bW.Data).headD []).length<=(v.Rest.map λx=>x.Data.length+1).sum:=MQ λp c=>by
   obtain⟨x,a,rfl⟩:=e'.1 c;have:x.Data.length+1<=(v.Rest.map λx=>x.Data.length+1).sum:=Om (e'.2 ⟨x,a,rfl⟩);omega
  obtain⟨K,b,i,s,id,ks,o,r⟩:=v;simp only at*;rw[bo];have J:=v8 8 _ (AF q);have e:id.toNat<18446744073709551616:=by omega
  have D:=v8 8 _ e;have c:=kd e;generalize ts.getD t.toNat aK=x at*;split
  . grind
  . split
    . omega
    . split
      . omega
      . split
        . omega
        . split
          . rw[za (kL _ _),B3,cq];omega
          . split
            . grind
            . split
              . grind
              . split
                . have:=D8 (bt ts x.Key ks) (bt ts x.aF o);grind
                grind
end
section
variable (ts:List ai)
mutual
theorem Tq:∀(v:I) (t:Int),dH ts t v<=wt v
 |⟨_,_,_,_,id,ks,a,_⟩,t=>by
  rw[dH,wt];have h1:=GX a;have c:=GW a;grind
theorem GX:∀(l:List I) (t:Int),dC ts t l<=cK l
 |[],t=>by rw[dC];omega
 |v::l,t=>by
  rw[dC,cK];have:=Tq v t;have:=GX l t;omega
theorem GW:∀(l:List I) (ms:List aU),fc ts ms l<=cK l
 |[],ms=>by rw [fc]; · omega
            . intros;simp_all
 |v::l,[]=>by rw [fc]; · omega
              . intros;simp_all
 |v::l,m::ms=>by
  rw[fc,cK];have:=Tq v m.aw;have:=GW l ms;grind
end
end
theorem aeG(v:I):10<=wt v:=by rw[fD];omega
section
variable {ts:List ai}
theorem vT:∀{ms:List aU} {l:List I} {x:Fd},x∈dm ts ms l->∃m,m∈ms/\x.id=m.ad.toNat
 |[],l,x,h=>by
  rw[dm]at h
  . cases h
  grind
 |m::ms,[],x,h=>by
  rw[dm]at h
  . cases h
  grind
 |m::ms,v::l,x,h=>by
  rw[dm]at h;split at h
  . obtain⟨b,h1,a⟩:=vT h;grind
  . rcases eJ.1 h with rfl|h
    . grind
    . obtain⟨b,h1,a⟩:=vT h;grind
theorem LM{l:List I}{n:Nat}(h:∀m,m∈ms->m.ad.toNat≠n):((dm ts ms l).filter λx=>decide (x.id=n))=[]:=by
 rw[List.filter_eq_nil_iff];intro x a;obtain⟨m,h1,b⟩:=vT a;grind
theorem K3:∀{ms:List aU} {l:List I} {n j:Nat},ms.Pairwise (λa b=>a.ad.toNat≠b.ad.toNat)->l.length=ms.length->j<ms.length->(ms.getD j aC).ad.toNat=n->
 ((dm ts ms l).filter λx=>decide (x.id=n))=if di (ms.getD j aC) (l.getD j av) then[]else[⟨n,(ms.getD j aC).ch,bo ts (ms.getD j aC).aw (l.getD j av)⟩]
 |[],l,n,j,_,_,d,_=>by cases d
 |m::ms,[],n,j,_,af,_,_=>by cases af
 |m::ms,v::l,n,0,c,af,d,he=>by
  rw[h6]at c;simp only[jv]at he⊢;have aH:=LM (ts:=ts) (l:=l) (ms:=ms) (n:=n) λx g=>by have:=c.1 x g;omega
  rw[dm];grind
 |m::ms,v::l,n,j+1,c,af,d,he=>by
  rw[h6]at c;simp only[wQ]at he⊢;have e:j<ms.length:=by simpa using d
  have f:ms.getD j aC∈ms:=by grind
  have i:=c.1 _ f;have ih:=K3 (l:=l) c.2 (by simpa using af) e he;rw[dm];grind
theorem YI(l:List bW)(n:Nat)(h:∀x,x∈l->0<=x.ad):((l.map jY).filter λx=>decide (x.id=n))=(l.filter λx=>decide (x.ad=(n:Int))).map jY:=by
 rw[List.filter_map]
 congr 1
 apply List.filter_congr;intro x a;have:=h x a;show decide (x.ad.toNat=n)=_;grind
noncomputable def fe (ts:List ai)(ms:List aU)(l:List I)(r:List bW):List Fd:=dm ts ms l++r.map jY
def gQ(ms:List aU):Prop:=ms.Pairwise (λa b=>a.ad<b.ad)/\∀m,m∈ms->cm m.ad
theorem On(h:gQ ms):ms.Pairwise (λa b=>a.ad.toNat≠b.ad.toNat):=by
 refine h.1.imp_of_mem λ{a b} c d aB=>?_;have:=h.2 a c;have:=h.2 b d;unfold cm at*;omega
theorem HX:∀{ms:List aU} {l:List I},ms.Pairwise (λa b=>a.ad.toNat≠b.ad.toNat)->(dm ts ms l).Pairwise (λa b=>a.id≠b.id)
 |[],l,_=>by
  rw[dm]
  . exact .nil
  grind
 |m::ms,[],_=>by
  rw[dm]
  . exact .nil
  grind
 |m::ms,v::l,h=>by
  rw[h6]at h;rw[dm];split
  . exact HX h.2
  . rw[h6];refine⟨λx c=>?_,HX h.2⟩;obtain⟨e,h1,d⟩:=vT c;grind
theorem nW{id:Int}(h:cB ms id=none):∀m,m∈ms->m.ad≠id:=by
 unfold cB at h;grind
theorem wu{l:List I}{r:List bW}(h:gQ ms)(ag:jR ms r):ki fm (fe ts ms l r)=true:=by
 apply MO;have key:(fe ts ms l r).Pairwise (λa b=>a.id≠b.id):=by
  unfold fe;rw[F3];refine⟨HX (On h),?_,?_⟩
  . rw[oD];refine ag.1.imp_of_mem λ{a b} d e aB=>?_;have:=(ag.2 a d).1;have:=(ag.2 b e).1;show a.ad.toNat≠b.ad.toNat;unfold cm at*;omega
  . intro x f y g;obtain⟨m,h1,i⟩:=vT f;obtain⟨q,c,rfl⟩:=e'.1 g;have j:=nW (ag.2 q c).2 m h1;have:=h.2 m h1;have:=(ag.2 q c).1;show x.id≠q.ad.toNat;unfold cm at*;omega
 refine key.imp λ{a b} k=>?_;simp only[fm,eT];omega
theorem JG{l:List I}{r:List bW}(h:gQ ms)(ag:jR ms r){x:Fd}(a:x∈fe ts ms l r):1<=x.id/\x.id<=1000:=by
 rcases hQ.1 a with a|a
 . obtain⟨m,h1,c⟩:=vT a;have:=h.2 m h1;unfold cm at*;omega
 . obtain⟨q,b,rfl⟩:=e'.1 a;have:=(ag.2 q b).1;unfold cm at*;show 1<=q.ad.toNat/\q.ad.toNat<=1000;omega
theorem Oo:SWO fm:=by refine⟨λx=>?_,λx y z h1 a=>?_,λx y z h1 a=>?_⟩<;>simp[fm]at*<;>omega
theorem Ye{l:List Fd}(a:ki fm l=true)(ag:∀x,x∈l->1<=x.id/\x.id<=1000):
 gX fm l=(List.range' 1 1000).flatMap λn=>l.filter λx=>decide (x.id=n):=by
 refine KX a (kL _ _) (Ks Fd.id _ List.nodup_range' l λx b=>?_) (DP Oo l) (Zx Fd.id 1 1000 l);have:=ag x b;rw[List.mem_range'_1];omega
end
section
variable {ts:List ai}{pl:Bool}
theorem cI:∀{l:List I} {t:Int},e3 ts pl t l↔∀x,x∈l->bX ts pl t x
 |[],t=>by rw[e3];simp
 |v::l,t=>by
  rw[e3,cI];grind
theorem hG:∀{ms:List aU} {l:List I},hv ts pl ms l↔l.length=ms.length/\∀i,i<ms.length->bX ts pl (ms.getD i aC).aw (l.getD i av)
 |[],[]=>by
  have:hv ts pl [] []=True:=by rw[hv]
  grind
 |[],v::l=>by
  have:hv ts pl [] (v::l)=False:=by rw[hv]<;>(intros;simp_all)
  grind
 |m::ms,[]=>by
  have:hv ts pl (m::ms) []=False:=by rw[hv]<;>(intros;simp_all)
  grind
 |m::ms,v::l=>by
  rw[hv,hG];constructor
  . grind
  . rintro ⟨h1,a⟩
    exact⟨a 0 (by simp),by simpa using h1,λi b=>a (i+1) (by simpa using b)⟩
end
end
end Go.Proofs.YtdjagncoefjfeaaGreat
