/- The functions of the program as functions of Lean, that its code does what they say, and what they answer; part B. -/
import Derived.Test.YtdjagncoefjfeaaGreatCaA

namespace Go.Proofs.YtdjagncoefjfeaaGreat
set_option linter.all false
section
open Go Go.Proofs.YtdjagncoefjfeaaGreat.Shv
open Tryz
set_option maxRecDepth 100000
def lW:aT×Int×I->Option (ak×Int)
 |(s,t,v)=>
 ub ((⟨s.Types⟩:aT),t,I.eta v)>>=λr=>if !(r=0:Bool) then some ([],r)else j3 (t,I.eta v,1,s.Types,0)>>=λa=>if(bif (4096<(a.1.length:Int):Bool)then true else (200<a.2.2:Bool)) then some ([],3)else some (a.1,0)
theorem TA:aZ Bt lW:= .bk (.k Xi (.k UY .n))
def CB:Int×Bool×ak->Option (ak×Int)
 |(id,b,a)=>
 if(bif (id<1:Bool)then true else (1000<id:Bool)) then some ([],7)else if (4096<(a.length:Int):Bool) then some ([],3)else wk (id,b,a)>>=λr=>some (r,0)
theorem Yv:aZ RA CB:= .bk (.k GQ .n)
def vB(p:ak):Option ak:=
 pG (bU .u64 (p.length:Int))>>=λr=>if (r.length+p.length<=eG:Bool) then some (r++p)else none
theorem Yn:aZ RB vB:= .bk (.k y7 .n)
mutual
def lj:aT×Int×I->Option ak
 |(s,t,v)=>
 if aH t s.Types.length then some (s.Types.getD t.toNat aJ)>>=λa=>if (a.Kind=5:Bool) then rF ([],a.ah,(a.ah.length:Int),0,s.Types,I.eta v)>>=λo=>some o else if (a.Kind=6:Bool) then hh (a,v.ad)>>=λr=>pG (bU .u64 v.ad)>>=λK=>if aH r.1 a.ah.length then if aH 0 v.aj.length then lj (s,(a.ah.getD r.1.toNat aB).aw,I.eta (v.aj.getD (0:Int).toNat av))>>=λL=>if (K.length+L.length<=eG:Bool) then some (K++L)else none else none else none else if (a.Kind=9:Bool) then vk ([],v.aj,(v.aj.length:Int),0,s.Types,a)>>=λO=>some O else some (decide (a.Kind=7))>>=λt115=>if t115 then if t115 then lf ([],v.aj,(v.aj.length:Int),0,s.Types,I.eta v,a)>>=λP=>some P else lW (s,t,I.eta v)>>=λZ=>some Z.1 else if (a.Kind=8:Bool) then lf ([],v.aj,(v.aj.length:Int),0,s.Types,I.eta v,a)>>=λQ=>some Q else lW (s,t,I.eta v)>>=λaf=>some af.1 else none
  partial_fixpoint
def rF:ak×List aS×Int×Int×List ai×I->Option ak
 |(x,t36,A,t38,b,f)=>
 if (t38<A:Bool) then if aH t38 t36.length then some (t36.getD t38.toNat aB)>>=λc=>if aH t38 f.aj.length then s9 ((⟨c.ad,c.Name,c.aw,c.cg,c.bV,I.eta c.bB⟩:aS),I.eta (f.aj.getD t38.toNat av))>>=λS=>if !S then if aH t38 f.aj.length then lj ((⟨b⟩:aT),c.aw,I.eta (f.aj.getD t38.toNat av))>>=λU=>CB (c.ad,c.cg,U)>>=λE=>if (x.length+E.1.length<=eG:Bool) then rF (x++E.1,t36,A,aN .i64 t38 1,b,I.eta f)else none else none else rF (x,t36,A,aN .i64 t38 1,b,I.eta f)else none else none else some x
  partial_fixpoint
def vk:ak×List I×Int×Int×List ai×ai->Option ak
 |(R,t101,M,t103,B,D)=>
 if (t103<M:Bool) then if aH t103 t101.length then lj ((⟨B⟩:aT),D.aF,I.eta (t101.getD t103.toNat av))>>=λF=>if ([1].length+F.length<=eG:Bool) then vk ([1]++F,t101,M,aN .i64 t103 1,B,D)else none else none else some R
  partial_fixpoint
def lf:ak×List I×Int×Int×List ai×I×ai->Option ak
 |(q,t118,y,t120,p,w,j)=>
 if (t120<y:Bool) then if aH t120 t118.length then some (t118.getD t120.toNat av)>>=λN=>if (j.Kind=8:Bool) then if aH t120 w.ay.length then lj ((⟨p⟩:aT),j.Key,I.eta (w.ay.getD t120.toNat av))>>=λW=>vB W>>=λG=>if (q.length+G.length<=eG:Bool) then some (q++G)>>=λt139=>lj ((⟨p⟩:aT),j.aF,I.eta N)>>=λX=>vB X>>=λH=>if (t139.length+H.length<=eG:Bool) then lf (t139++H,t118,y,aN .i64 t120 1,p,I.eta w,j)else none else none else none else lj ((⟨p⟩:aT),j.aF,I.eta N)>>=λY=>vB Y>>=λJ=>if (q.length+J.length<=eG:Bool) then lf (q++J,t118,y,aN .i64 t120 1,p,I.eta w,j)else none else none else some q
  partial_fixpoint
end
theorem WJ:ec qC lj/\eD 222 0 [2] Ap lf/\eD 222 0 [1] Ao vk/\eD 222 0 [0] An rF:=lj.mutual_partial_correctness (d' qC) (eC 222 0 [2] Ap) (eC 222 0 [1] Ao) (eC 222 0 [0] An)
 (λ_ _ _ _ h0 h1 a b _ _ h=>eh h (.k nK (.k y7 (.k (cc qC h0) (.k TA .n)))) (.k (eO An b) (.k (eO Ao a) (.k (eO Ap h1) .n))))
 (λ_ _ h0 h1 _ _ h=>eN Ap h1 h (.k (cc qC h0) (.k Yn .n)))
 (λ_ _ h0 a _ _ h=>eN Ao a h (.k (cc qC h0) .n))
 (λ_ _ h0 b _ _ h=>eN An b h (.k G4 (.k (cc qC h0) (.k Yv .n))))
theorem T4:aZ qC lj:=cc _ WJ.1
def nZ:List aS×Int×Int×List ai×List ai×ar×I×ai×Int×Bool×Int×ak×Int×Int×Bool×Int×ak×Int×ar×List I×List bX->Option ((Bool×List ai×List ai×I×ar×ar) ⊕ (List ai×List ai×ar×Int×Bool×Int×ak×Int×Int×Bool×Int×ak×Int×ar×List I×List bX))
 |(t115,v,t117,c,e,f,b,j,k,l,m,n,o,p,q,r,s,t,g,u,i)=>
 if (t117<v:Bool) then if aH t117 t115.length then some (t115.getD t117.toNat aB)>>=λa=>hh (j,a.ad)>>=λw=>if w.2 then nZ (t115,v,aN .i64 t117 1,c,e,f,I.eta b,j,k,l,m,n,o,p,q,r,s,t,g,u,i)else if a.cg then vf (a.ad,c,e,f,g)>>=λd=>some (.inl (d.2.1,d.2.2.1,d.2.2.2.1,I.eta d.1,d.2.2.2.2.1,d.2.2.2.2.2))else if aH t117 b.aj.length then s9 ((⟨a.ad,a.Name,a.aw,a.cg,a.bV,I.eta a.bB⟩:aS),I.eta (b.aj.getD t117.toNat av))>>=λx=>if !x then if aH t117 b.aj.length then lj ((⟨c⟩:aT),a.aw,I.eta (b.aj.getD t117.toNat av))>>=λy=>some [(⟨a.ad,y⟩:bX)]>>=λt163=>if room 24 (i++t163).length then nZ (t115,v,aN .i64 t117 1,c,e,f,I.eta b,j,k,l,m,n,o,p,q,r,s,t,g,u,i++t163)else none else none else nZ (t115,v,aN .i64 t117 1,c,e,f,I.eta b,j,k,l,m,n,o,p,q,r,s,t,g,u,i)else none else none else some (.inr (c,e,f,k,l,m,n,o,p,q,r,s,t,g,u,i))
  partial_fixpoint
theorem UI:cK 183 2 [1] Pd nZ:= .rx nZ.partial_correctness (.k nK (.k Tp (.k G4 (.k T4 .n))))
mutual
def rJ:Int×Int×I×Int×List ai×List ai×ar×ar->Option (I×Bool×List ai×List ai×ar×ar)
 |(step,wt,v,rt,b,f,p,j)=>
 some [step]>>=λt20=>if room 8 (j++t20).length then tQ (wt,I.eta v,rt,b,f,p,j++t20)>>=λr=>some (dq .i64 (r.2.2.2.2.2.length:Int) 1)>>=λt42=>if dY 0 t42 r.2.2.2.2.2.length then if (t42.toNat<=r.2.2.2.2.2.length:Bool) then some (I.eta r.1,r.2.1,r.2.2.1,r.2.2.2.1,r.2.2.2.2.1,r.2.2.2.2.2.take t42.toNat)else none else none else none
  partial_fixpoint
def nE(t:Int×List I×Int×List ai×List ai×ar×ar):Option (List I×Bool×List ai×List ai×ar×ar):=
 match t with
 |(wt,l,rt,b,f,p,j)=>
 sQ (wt,rt,l,(l.length:Int),0,b,f,p,[],j)>>=λo=>match o with
 |.inl w=>
 some ([],w.1,w.2.1,w.2.2.1,w.2.2.2.1,w.2.2.2.2)
 |.inr e=>
 some (e.2.2.2.1,true,e.1,e.2.1,e.2.2.1,e.2.2.2.2)
  partial_fixpoint
def tQ:Int×I×Int×List ai×List ai×ar×ar->Option (I×Bool×List ai×List ai×ar×ar)
 |(wt,v,rt,b,f,p,j)=>
 if aH wt b.length then some (b.getD wt.toNat aJ)>>=λc=>if aH rt f.length then some (f.getD rt.toNat aJ)>>=λa=>if !(c.Kind=a.Kind:Bool) then s6 (b,f,p,j)>>=λr=>some (I.eta r.1,r.2.1,r.2.2.1,r.2.2.2.1,r.2.2.2.2.2,r.2.2.2.2.1)else
 let bC:=λcz=>
 if !cz then s6 (b,f,p,j)>>=λW=>some (I.eta W.1,W.2.1,W.2.2.1,W.2.2.2.1,W.2.2.2.2.2,W.2.2.2.2.1)else if (c.Kind=5:Bool) then yo (c,I.eta v,a,b,f,p,j)>>=λP=>some (I.eta P.1,P.2.1,P.2.2.1,P.2.2.2.1,P.2.2.2.2.1,P.2.2.2.2.2)else if (c.Kind=6:Bool) then yu (c,I.eta v,a,b,f,p,j)>>=λQ=>some (I.eta Q.1,Q.2.1,Q.2.2.1,Q.2.2.2.1,Q.2.2.2.2.1,Q.2.2.2.2.2)else if (c.Kind=8:Bool) then nE (c.Key,v.ay,a.Key,b,f,p,j)>>=λD=>if !D.2.1 then some ((⟨0,false,0,[],0,[],[],[]⟩:I),false,D.2.2.1,D.2.2.2.1,D.2.2.2.2.1,D.2.2.2.2.2)else nE (c.aF,v.aj,a.aF,D.2.2.1,D.2.2.2.1,D.2.2.2.2.1,D.2.2.2.2.2)>>=λG=>if !G.2.1 then some ((⟨0,false,0,[],0,[],[],[]⟩:I),false,G.2.2.1,G.2.2.2.1,G.2.2.2.2.1,G.2.2.2.2.2)else some ((⟨v.Kind,v.bN,v.bd,v.bl,v.ad,D.1,G.1,[]⟩:I),true,G.2.2.1,G.2.2.2.1,G.2.2.2.2.1,G.2.2.2.2.2)else nE (c.aF,v.aj,a.aF,b,f,p,j)>>=λH=>if !H.2.1 then some ((⟨0,false,0,[],0,[],[],[]⟩:I),false,H.2.2.1,H.2.2.2.1,H.2.2.2.2.1,H.2.2.2.2.2)else some ((⟨v.Kind,v.bN,v.bd,v.bl,v.ad,[],H.1,[]⟩:I),true,H.2.2.1,H.2.2.2.1,H.2.2.2.2.1,H.2.2.2.2.2)
 if (c.Kind=2:Bool) then bC (bif decide (a.bF<=v.bd)then decide (v.bd<=a.bH)else false)else
 let bv:=λcs=>
 bC cs
 if (c.Kind=3:Bool) then bv (decide ((v.bl.length:Int)<=a.Max))else if (c.Kind=4:Bool) then tn (a,v.ad)>>=λce=>bv (bif ce.2 then true else a.Open)else some (decide (c.Kind=7))>>=λt91=>
 let bs:=λci=>
 let bq:=λ(_:Unit)=>
 if (c.Kind=5:Bool) then yo (c,I.eta v,a,b,f,p,j)>>=λS=>some (I.eta S.1,S.2.1,S.2.2.1,S.2.2.2.1,S.2.2.2.2.1,S.2.2.2.2.2)else if (c.Kind=6:Bool) then yu (c,I.eta v,a,b,f,p,j)>>=λU=>some (I.eta U.1,U.2.1,U.2.2.1,U.2.2.2.1,U.2.2.2.2.1,U.2.2.2.2.2)else if (c.Kind=8:Bool) then nE (c.Key,v.ay,a.Key,b,f,p,j)>>=λA=>if !A.2.1 then some ((⟨0,false,0,[],0,[],[],[]⟩:I),false,A.2.2.1,A.2.2.2.1,A.2.2.2.2.1,A.2.2.2.2.2)else nE (c.aF,v.aj,a.aF,A.2.2.1,A.2.2.2.1,A.2.2.2.2.1,A.2.2.2.2.2)>>=λB=>if !B.2.1 then some ((⟨0,false,0,[],0,[],[],[]⟩:I),false,B.2.2.1,B.2.2.2.1,B.2.2.2.2.1,B.2.2.2.2.2)else some ((⟨v.Kind,v.bN,v.bd,v.bl,v.ad,A.1,B.1,[]⟩:I),true,B.2.2.1,B.2.2.2.1,B.2.2.2.2.1,B.2.2.2.2.2)else nE (c.aF,v.aj,a.aF,b,f,p,j)>>=λE=>if !E.2.1 then some ((⟨0,false,0,[],0,[],[],[]⟩:I),false,E.2.2.1,E.2.2.2.1,E.2.2.2.2.1,E.2.2.2.2.2)else some ((⟨v.Kind,v.bN,v.bd,v.bl,v.ad,[],E.1,[]⟩:I),true,E.2.2.1,E.2.2.2.1,E.2.2.2.2.1,E.2.2.2.2.2)
 if ci then if !((v.aj.length:Int)<=a.Max:Bool) then s6 (b,f,p,j)>>=λR=>some (I.eta R.1,R.2.1,R.2.2.1,R.2.2.2.1,R.2.2.2.2.2,R.2.2.2.2.1)else bq ()else bq ()
 if t91 then bs t91 else bs (decide (c.Kind=8))else none else none
  partial_fixpoint
def yo(t:ai×I×ai×List ai×List ai×ar×ar):Option (I×Bool×List ai×List ai×ar×ar):=
 match t with
 |(c,v,y,b,f,p,j)=>
 o8 (y.ah,(y.ah.length:Int),0,b,f,p,c,I.eta v,y,0,false,0,[],0,v.Kind,false,0,[],0,j,[])>>=λo=>match o with
 |.inl w=>
 some (I.eta w.2.2.2.2.1,w.1,w.2.1,w.2.2.1,w.2.2.2.1,w.2.2.2.2.2)
 |.inr e=>
 nZ (e.2.2.2.1.ah,(e.2.2.2.1.ah.length:Int),0,e.1,e.2.1,e.2.2.1,I.eta e.2.2.2.2.1,e.2.2.2.2.2.1,e.2.2.2.2.2.2.1,e.2.2.2.2.2.2.2.1,e.2.2.2.2.2.2.2.2.1,e.2.2.2.2.2.2.2.2.2.1,e.2.2.2.2.2.2.2.2.2.2.1,e.2.2.2.2.2.2.2.2.2.2.2.1,e.2.2.2.2.2.2.2.2.2.2.2.2.1,e.2.2.2.2.2.2.2.2.2.2.2.2.2.1,e.2.2.2.2.2.2.2.2.2.2.2.2.2.2.1,e.2.2.2.2.2.2.2.2.2.2.2.2.2.2.2.1,e.2.2.2.2.2.2.2.2.2.2.2.2.2.2.2.2.1,e.2.2.2.2.2.2.2.2.2.2.2.2.2.2.2.2.2,[])>>=λb2=>match b2 with
 |.inl N=>
 some (I.eta N.2.2.2.1,N.1,N.2.1,N.2.2.1,N.2.2.2.2.2,N.2.2.2.2.1)
 |.inr x=>
 some ((⟨x.2.2.2.2.2.2.2.2.1,x.2.2.2.2.2.2.2.2.2.1,x.2.2.2.2.2.2.2.2.2.2.1,x.2.2.2.2.2.2.2.2.2.2.2.1,x.2.2.2.2.2.2.2.2.2.2.2.2.1,[],x.2.2.2.2.2.2.2.2.2.2.2.2.2.2.1,x.2.2.2.2.2.2.2.2.2.2.2.2.2.2.2⟩:I),true,x.1,x.2.1,x.2.2.1,x.2.2.2.2.2.2.2.2.2.2.2.2.2.1)
  partial_fixpoint
def yu:ai×I×ai×List ai×List ai×ar×ar->Option (I×Bool×List ai×List ai×ar×ar)
 |(c,v,y,b,f,p,j)=>
 hh (c,v.ad)>>=λr=>hh (y,v.ad)>>=λF=>if F.2 then if aH r.1 c.ah.length then if aH 0 v.aj.length then if aH F.1 y.ah.length then rJ (v.ad,(c.ah.getD r.1.toNat aB).aw,I.eta (v.aj.getD (0:Int).toNat av),(y.ah.getD F.1.toNat aB).aw,b,f,p,j)>>=λJ=>if !J.2.1 then some ((⟨0,false,0,[],0,[],[],[]⟩:I),false,J.2.2.1,J.2.2.2.1,J.2.2.2.2.1,J.2.2.2.2.2)else some ((⟨v.Kind,false,0,[],v.ad,[],[I.eta J.1],[]⟩:I),true,J.2.2.1,J.2.2.2.1,J.2.2.2.2.1,J.2.2.2.2.2)else none else none else none else if !y.Open then s6 (b,f,p,j)>>=λO=>some (I.eta O.1,O.2.1,O.2.2.1,O.2.2.2.1,O.2.2.2.2.2,O.2.2.2.2.1)else if aH r.1 c.ah.length then if aH 0 v.aj.length then lj ((⟨b⟩:aT),(c.ah.getD r.1.toNat aB).aw,I.eta (v.aj.getD (0:Int).toNat av))>>=λL=>some ((⟨v.Kind,false,0,[],v.ad,[],[],[(⟨v.ad,L⟩:bX)]⟩:I),true,b,f,p,j)else none else none
  partial_fixpoint
def sQ:Int×Int×List I×Int×Int×List ai×List ai×ar×List I×ar->Option ((Bool×List ai×List ai×ar×ar) ⊕ (List ai×List ai×ar×List I×ar))
 |(b1,bS,t15,b0,t17,bb,bc,be,an,bi)=>
 if (t17<b0:Bool) then if aH t17 t15.length then rJ (t17,b1,I.eta (t15.getD t17.toNat av),bS,bb,bc,be,bi)>>=λr=>if !r.2.1 then some (.inl (false,r.2.2.1,r.2.2.2.1,r.2.2.2.2.1,r.2.2.2.2.2))else some [I.eta r.1]>>=λt35=>if room 120 (an++t35).length then sQ (b1,bS,t15,b0,aN .i64 t17 1,r.2.2.1,r.2.2.2.1,r.2.2.2.2.1,an++t35,r.2.2.2.2.2)else none else none else some (.inr (bb,bc,be,an,bi))
  partial_fixpoint
def o8:List aS×Int×Int×List ai×List ai×ar×ai×I×ai×Int×Bool×Int×ak×Int×Int×Bool×Int×ak×Int×ar×List I->Option ((Bool×List ai×List ai×ar×I×ar) ⊕ (List ai×List ai×ar×ai×I×ai×Int×Bool×Int×ak×Int×Int×Bool×Int×ak×Int×ar×List I))
 |(t25,a9,t27,Z,af,ag,K,M,ap,ax,aC,aE,aK,a0,a1,a2,a3,a4,a5,am,Y)=>
 if (t27<a9:Bool) then if aH t27 t25.length then some (t25.getD t27.toNat aB)>>=λa=>hh (K,a.ad)>>=λr=>if !r.2 then if !a.bV then vf (a.ad,Z,af,ag,am)>>=λF=>some (.inl (F.2.1,F.2.2.1,F.2.2.2.1,F.2.2.2.2.2,I.eta F.1,F.2.2.2.2.1))else j6 (I.eta a.bB)>>=λb3=>some [I.eta b3]>>=λt54=>if room 120 (Y++t54).length then o8 (t25,a9,aN .i64 t27 1,Z,af,ag,K,I.eta M,ap,ax,aC,aE,aK,a0,a1,a2,a3,a4,a5,am,Y++t54)else none else if aH r.1 K.ah.length then if aH r.1 M.aj.length then rJ (a.ad,(K.ah.getD r.1.toNat aB).aw,I.eta (M.aj.getD r.1.toNat av),a.aw,Z,af,ag,am)>>=λq=>if aH r.1 K.ah.length then some (K.ah.getD r.1.toNat aB)>>=λX=>if aH r.1 M.aj.length then s9 ((⟨X.ad,X.Name,X.aw,X.cg,X.bV,I.eta X.bB⟩:aS),I.eta (M.aj.getD r.1.toNat av))>>=λbR=>some (!q.2.1)>>=λt90=>(if(bR&&(!t90)) then s9 ((⟨a.ad,a.Name,a.aw,a.cg,a.bV,I.eta a.bB⟩:aS),I.eta q.1)else some false)>>=λb4=>if(bif bR then bif t90 then true else(!b4)else false) then vf (a.ad,q.2.2.1,q.2.2.2.1,q.2.2.2.2.1,q.2.2.2.2.2)>>=λL=>some (.inl (L.2.1,L.2.2.1,L.2.2.2.1,L.2.2.2.2.2,I.eta L.1,L.2.2.2.2.1))else if !q.2.1 then some (.inl (false,q.2.2.1,q.2.2.2.1,q.2.2.2.2.1,(⟨0,false,0,[],0,[],[],[]⟩:I),q.2.2.2.2.2))else some [I.eta q.1]>>=λt110=>if room 120 (Y++t110).length then o8 (t25,a9,aN .i64 t27 1,q.2.2.1,q.2.2.2.1,q.2.2.2.2.1,K,I.eta M,ap,ax,aC,aE,aK,a0,a1,a2,a3,a4,a5,q.2.2.2.2.2,Y++t110)else none else none else none else none else none else none else some (.inr (Z,af,ag,K,I.eta M,ap,ax,aC,aE,aK,a0,a1,a2,a3,a4,a5,am,Y))
  partial_fixpoint
end
theorem V4:ec u6 rJ/\ec xD tQ/\ec BB nE/\eD 185 2 [0] Ar sQ/\ec BA yu/\ec Bz yo/\eD 183 2 [0] Aq o8:=rJ.mutual_partial_correctness (d' u6) (d' xD) (d' BB) (eC 185 2 [0] Ar) (d' BA) (d' Bz) (eC 183 2 [0] Aq)
 (λ_ h1 _ _ h=>eh h (.k (cc xD h1) .n))
 (λ_ _ _ c d bc _ _ h=>eh h (.k Tb (.k (cc Bz bc) (.k (cc BA d) (.k (cc BB c) (.k CJ .n))))))
 (λ_ a _ _ h=>eh h .n (.k (eO Ar a) .n))
 (λ_ _ h0 a _ _ h=>eN Ar a h (.k (cc u6 h0) .n))
 (λ_ h0 _ _ h=>eh h (.k nK (.k (cc u6 h0) (.k Tb (.k T4 .n)))))
 (λ_ b _ _ h=>eh h .n (.k (eO Aq b) (.k UI .n)))
 (λ_ _ h0 b _ _ h=>eN Aq b h (.k nK (.k Tp (.k Xg (.k (cc u6 h0) (.k G4 .n))))))
theorem WK:aZ xD tQ:=cc _ V4.2.1
def zn:aT×Int×I×aT×Int->Option (I×Int)
 |(w,wt,v,r,rt)=>
 CV (w,wt,I.eta v,r,rt)>>=λa=>if !(a=0:Bool) then some ((⟨0,false,0,[],0,[],[],[]⟩:I),a)else tQ (wt,I.eta v,rt,w.Types,r.Types,[],[])>>=λb=>if !b.2.1 then some ((⟨0,false,0,[],0,[],[],[]⟩:I),12)else some (I.eta b.1,0)
theorem XH:aZ Bs zn:= .bk (.k Yk (.k WK .n))
def mK:cY×cY×ak->Option (eR×Int)
 |(w,r,m)=>
 tq (w.cW,w.aw,m)>>=λa=>if !(a.2=0:Bool) then some ((⟨(⟨0,false,0,[],0,[],[],[]⟩:I),(⟨0,false,0,[],0,[],[],[]⟩:I),[]⟩:eR),12)else nl (w.cW,w.aw,I.eta a.1)>>=λe=>if !(e.2=0:Bool) then some ((⟨(⟨0,false,0,[],0,[],[],[]⟩:I),(⟨0,false,0,[],0,[],[],[]⟩:I),[]⟩:eR),12)else zn (w.cW,w.aw,I.eta e.1,r.cW,r.aw)>>=λf=>if !(f.2=0:Bool) then some ((⟨(⟨0,false,0,[],0,[],[],[]⟩:I),(⟨0,false,0,[],0,[],[],[]⟩:I),[]⟩:eR),12)else lW (w.cW,w.aw,I.eta a.1)>>=λc=>if !(c.2=0:Bool) then some ((⟨(⟨0,false,0,[],0,[],[],[]⟩:I),(⟨0,false,0,[],0,[],[],[]⟩:I),[]⟩:eR),3)else tq (r.cW,r.aw,c.1)>>=λb=>if !(b.2=0:Bool) then some ((⟨(⟨0,false,0,[],0,[],[],[]⟩:I),(⟨0,false,0,[],0,[],[],[]⟩:I),[]⟩:eR),12)else lW (r.cW,r.aw,I.eta b.1)>>=λd=>if !(d.2=0:Bool) then some ((⟨(⟨0,false,0,[],0,[],[],[]⟩:I),(⟨0,false,0,[],0,[],[],[]⟩:I),[]⟩:eR),3)else some ((⟨I.eta a.1,I.eta b.1,d.1⟩:eR),0)
theorem XI:aZ Fq mK:= .bk (.k W1 (.k X0 (.k XH (.k TA .n))))
def pE:cY×cY×ak->Option (eR×Int)
 |(w,r,m)=>
 y2 [w,r]>>=λb=>if !(b=0:Bool) then some ((⟨(⟨0,false,0,[],0,[],[],[]⟩:I),(⟨0,false,0,[],0,[],[],[]⟩:I),[]⟩:eR),b)else mK (w,r,m)>>=λa=>some ((⟨I.eta a.1.v,I.eta a.1.u,a.1.message⟩:eR),a.2)
def mG(t:ai):Option ai:=
 if (t.Kind=1:Bool) then some (⟨t.Kind,[],0,0,0,[],[],0,0,false⟩:ai)else if (t.Kind=2:Bool) then some (⟨t.Kind,[],t.bF,t.bH,0,[],[],0,0,false⟩:ai)else if (t.Kind=3:Bool) then some (⟨t.Kind,[],0,0,t.Max,[],[],0,0,false⟩:ai)else if (t.Kind=4:Bool) then some (⟨t.Kind,t.Name,0,0,0,t.bh,[],0,0,t.Open⟩:ai)else if (t.Kind=5:Bool) then some (⟨t.Kind,t.Name,0,0,0,[],t.ah,0,0,false⟩:ai)else if (t.Kind=6:Bool) then some (⟨t.Kind,t.Name,0,0,0,[],t.ah,0,0,t.Open⟩:ai)else if (t.Kind=7:Bool) then some (⟨t.Kind,[],0,0,t.Max,[],[],0,t.aF,false⟩:ai)else if (t.Kind=8:Bool) then some (⟨t.Kind,[],0,0,t.Max,[],[],t.Key,t.aF,false⟩:ai)else some (⟨t.Kind,[],0,0,0,[],[],0,t.aF,false⟩:ai)
theorem WL:aZ afH mG:= .bk
def yh:aS×aS->Option Bool
 |(a,b)=>
 some (bif bif bif bif decide (a.ad=b.ad)then decide (a.Name=b.Name)else false then decide (a.aw=b.aw)else false then fy a.cg b.cg else false then fy a.bV b.bV else false)>>=λt37=>(if t37 then jI ((⟨a.bB.Kind,a.bB.bN,a.bB.bd,a.bB.bl,a.bB.ad,a.bB.ay,a.bB.aj,a.bB.Rest⟩:I),(⟨b.bB.Kind,b.bB.bN,b.bB.bd,b.bB.bl,b.bB.ad,b.bB.ay,b.bB.aj,b.bB.Rest⟩:I))else some false)>>=λr=>some (bif t37 then r else false)
theorem UJ:aZ afW yh:= .bk (.k ye .n)
def o5:Int×ai×ai->Option ((Bool) ⊕ (ai×ai))
 |(i,a,b)=>
 if (i<(a.bh.length:Int):Bool) then if aH i a.bh.length then some (a.bh.getD i.toNat dL)>>=λc=>if aH i b.bh.length then some (b.bh.getD i.toNat dL)>>=λd=>if !(hN c.ad d.ad&&(iL c.Name d.Name&&true)) then some (.inl false)else o5 (aN .i64 i 1,a,b)else none else none else some (.inr (a,b))
  partial_fixpoint
theorem Vj:cK 153 0 [0] Pe o5:= .rx o5.partial_correctness
def o6:Int×ai×ai->Option ((Bool) ⊕ (Unit))
 |(a,d,e)=>
 if (a<(d.ah.length:Int):Bool) then if aH a d.ah.length then some (d.ah.getD a.toNat aB)>>=λb=>if aH a e.ah.length then some (e.ah.getD a.toNat aB)>>=λc=>yh ((⟨b.ad,b.Name,b.aw,b.cg,b.bV,I.eta b.bB⟩:aS),(⟨c.ad,c.Name,c.aw,c.cg,c.bV,I.eta c.bB⟩:aS))>>=λr=>if !r then some (.inl false)else o6 (aN .i64 a 1,d,e)else none else none else some (.inr ())
  partial_fixpoint
theorem Vk:cK 153 0 [1] Pf o6:= .rx o6.partial_correctness (.k UJ .n)
def Cp(g:ai×ai):Option Bool:=
 match g with
 |(a,b)=>
 if(bif bif bif bif bif bif bif bif bif (!(a.Kind=b.Kind:Bool))then true else(!(a.Name=b.Name:Bool))then true else(!(a.bF=b.bF:Bool))then true else(!(a.bH=b.bH:Bool))then true else(!(a.Max=b.Max:Bool))then true else(!(a.Key=b.Key:Bool))then true else(!(a.aF=b.aF:Bool))then true else(!(fy a.Open b.Open))then true else(!((a.bh.length:Int)=(b.bh.length:Int):Bool))then true else(!((a.ah.length:Int)=(b.ah.length:Int):Bool))) then some false else o5 (0,(⟨a.Kind,a.Name,a.bF,a.bH,a.Max,a.bh,a.ah,a.Key,a.aF,a.Open⟩:ai),(⟨b.Kind,b.Name,b.bF,b.bH,b.Max,b.bh,b.ah,b.Key,b.aF,b.Open⟩:ai))>>=λo=>match o with
 |.inl d=>
 some d
 |.inr c=>
 o6 (0,c.1,c.2)>>=λe=>match e with
 |.inl f=>
 some f
 |.inr i=>
 some true
theorem UE:aZ afG Cp:= .bk .n (.k Vj (.k Vk .n))
def yv(b:Int):Option Bool:=
 some (bif bif bif decide (97<=b)then decide (b<=122)else false then true else bif decide (65<=b)then decide (b<=90)else false then true else decide (b=95))
theorem Tt:aZ afX yv:= .bk
def Db(b:Int):Option Bool:=
 some (bif decide (48<=b)then decide (b<=57)else false)
theorem WM:aZ afY Db:= .bk
def pd:ak×Int->Option ((Bool) ⊕ (Unit))
 |(a,i)=>
 if (i<(a.length:Int):Bool) then if aH i a.length then yv (fw a i)>>=λb=>some (!b)>>=λt27=>if(aH i a.length||(!t27)) then (if t27 then Db (fw a i)else some false)>>=λc=>if(bif t27 then(!c)else false) then some (.inl false)else pd (a,aN .i64 i 1)else none else none else some (.inr ())
  partial_fixpoint
theorem UZ:cK 155 0 [0] Pg pd:= .rx pd.partial_correctness (.k Tt (.k WM .n))
def sZ(s:ak):Option Bool:=
 some (bif decide (s=[])then true else decide (24<(s.length:Int)))>>=λt10=>if(aH 0 s.length||(!(!t10))) then (if !t10 then yv (fw s 0)else some false)>>=λr=>if(bif t10 then true else(!r)) then some false else pd (s,0)>>=λo=>match o with
 |.inl a=>
 some a
 |.inr b=>
 some true else none
theorem G2:aZ afI sZ:= .bk (.k Tt .n) (.k UZ .n)
def y0:Int×Int->Option Bool
 |(a,n)=>
 some (bif bif decide (a<n)then decide (1<=n)else false then decide (n<=1000)else false)
theorem Ue:aZ afZ y0:= .bk
def nX:List c3×Int×Int->Option ((Bool) ⊕ (List c3×Int))
 |(a,b,k)=>
 if (k<b:Bool) then if aH k a.length then if aH b a.length then if ((a.getD k.toNat dL).Name=(a.getD b.toNat dL).Name:Bool) then some (.inl false)else nX (a,b,aN .i64 k 1)else none else none else some (.inr (a,b))
  partial_fixpoint
theorem Vb:cK 156 0 [0,0] Mu nX:= .rx nX.partial_correctness
def o9(g:List c3×Int×Int):Option ((Bool) ⊕ (List c3)):=
 match g with
 |(a,c,i)=>
 if (i<(a.length:Int):Bool) then if aH i a.length then y0 (c,(a.getD i.toNat dL).ad)>>=λr=>some (!r)>>=λt19=>if(aH i a.length||(!(!t19))) then (if !t19 then sZ (a.getD i.toNat dL).Name else some false)>>=λf=>if(bif t19 then true else(!f)) then some (.inl false)else nX (a,i,0)>>=λd=>match d with
 |.inl e=>
 some (.inl e)
 |.inr b=>
 if aH b.2 b.1.length then o9 (b.1,(b.1.getD b.2.toNat dL).ad,aN .i64 b.2 1)else none else none else none else some (.inr a)
  partial_fixpoint
theorem UK:cK 156 0 [0] ON o9:= .rx o9.partial_correctness (.k Ue (.k G2 .n)) (.k Vb .n)
def yp(l:List c3):Option Bool:=
 o9 (l,0,0)>>=λo=>match o with
 |.inl b=>
 some b
 |.inr a=>
 some (bif decide (1<=(a.length:Int))then decide ((a.length:Int)<=16)else false)
theorem V5:aZ afJ yp:= .bk .n (.k UK .n)
def nY:List aS×Bool×Int×Int×aS->Option ((Bool) ⊕ (List aS×Bool×Int×aS))
 |(b,d,c,k,a)=>
 if (k<c:Bool) then if aH k b.length then if ((b.getD k.toNat aB).Name=a.Name:Bool) then some (.inl false)else nY (b,d,c,aN .i64 k 1,(⟨a.ad,a.Name,a.aw,a.cg,a.bV,I.eta a.bB⟩:aS))else none else some (.inr (b,d,c,(⟨a.ad,a.Name,a.aw,a.cg,a.bV,I.eta a.bB⟩:aS)))
  partial_fixpoint
theorem Vc:cK 157 0 [0,0] Mv nY:= .rx nY.partial_correctness
def o'(l:List aS×Bool×Int×Int):Option ((Bool) ⊕ (List aS×Bool)):=
 match l with
 |(b,d,e,i)=>
 if (i<(b.length:Int):Bool) then if aH i b.length then some (b.getD i.toNat aB)>>=λa=>y0 (e,a.ad)>>=λr=>some (!r)>>=λt23=>(if !t23 then sZ a.Name else some false)>>=λj=>if(bif bif bif t23 then true else(!j)then true else bif a.cg then a.bV else false then true else bif (!d)then bif a.cg then true else a.bV else false) then some (.inl false)else some (!a.bV)>>=λt52=>(if t52 then jI (I.eta a.bB,(⟨0,false,0,[],0,[],[],[]⟩:I))else some false)>>=λk=>if(bif t52 then(!k)else false) then some (.inl false)else nY (b,d,i,0,(⟨a.ad,a.Name,a.aw,a.cg,a.bV,I.eta a.bB⟩:aS))>>=λf=>match f with
 |.inl g=>
 some (.inl g)
 |.inr c=>
 o' (c.1,c.2.1,c.2.2.2.ad,aN .i64 c.2.2.1 1)else none else some (.inr (b,d))
  partial_fixpoint
theorem UL:cK 157 0 [0] OO o':= .rx o'.partial_correctness (.k Ue (.k G2 (.k ye .n))) (.k Vc .n)
def vg(c:List aS×Bool):Option Bool:=
 match c with
 |(l,record)=>
 o' (l,record,0,0)>>=λo=>match o with
 |.inl b=>
 some b
 |.inr a=>
 some (bif decide ((a.1.length:Int)<=16)then bif a.2 then true else decide (1<=(a.1.length:Int))else false)
theorem V6:aZ afK vg:= .bk .n (.k UL .n)
def hI(t:ai):Option Bool:=
 some (bif decide (t.Kind<1)then true else decide (9<t.Kind))>>=λt10=>(if !t10 then mG t else some aJ)>>=λr=>(if !t10 then Cp (t,r)else some false)>>=λc=>some (bif t10 then true else(!c))>>=λt17=>(if !t17 then j5 t.Kind else some false)>>=λa=>(if((!t17)&&a) then sZ t.Name else some false)>>=λd=>if(bif t17 then true else bif a then(!d)else false) then some false else if (t.Kind=2:Bool) then some (decide (t.bF<=t.bH))else if (t.Kind=3:Bool) then some (bif decide (0<=t.Max)then decide (t.Max<=200)else false)else if (t.Kind=4:Bool) then yp t.bh>>=λe=>some e else some (decide (t.Kind=5))>>=λt54=>if t54 then if t54 then vg (t.ah,decide (t.Kind=5))>>=λf=>some f else some (decide (t.Kind=7))>>=λt63=>if t63 then if t63 then some (bif decide (0<=t.Max)then decide (t.Max<=50)else false)else some true else if (t.Kind=8:Bool) then some (bif decide (0<=t.Max)then decide (t.Max<=50)else false)else some true else if (t.Kind=6:Bool) then vg (t.ah,decide (t.Kind=5))>>=λg=>some g else some (decide (t.Kind=7))>>=λb=>if b then if b then some (bif decide (0<=t.Max)then decide (t.Max<=50)else false)else some true else if (t.Kind=8:Bool) then some (bif decide (0<=t.Max)then decide (t.Max<=50)else false)else some true
theorem XJ:aZ afj hI:= .bk (.k WL (.k UE (.k G3 (.k G2 (.k V5 (.k V6 .n))))))
def rD:Int×ai×ar->Option (ai×ar)
 |(i,a,b)=>
 if (i<(a.ah.length:Int):Bool) then if aH i a.ah.length then some [(a.ah.getD i.toNat aB).aw]>>=λt19=>if room 8 (b++t19).length then rD (aN .i64 i 1,a,b++t19)else none else none else some (a,b)
  partial_fixpoint
theorem V7:cK 114 0 [0] OP rD:= .rx rD.partial_correctness
def CF(t:ai):Option ar:=
 rD (0,t,[])>>=λo=>if (o.1.Kind=8:Bool) then some [o.1.Key]>>=λt27=>if room 8 (o.2++t27).length then some (o.2++t27)>>=λl=>if(bif bif (o.1.Kind=7:Bool)then true else (o.1.Kind=8:Bool)then true else (o.1.Kind=9:Bool)) then some [o.1.aF]>>=λt45=>if room 8 (l++t45).length then some (l++t45)else none else some l else none else if(bif bif (o.1.Kind=7:Bool)then true else (o.1.Kind=8:Bool)then true else (o.1.Kind=9:Bool)) then some [o.1.aF]>>=λa=>if room 8 (o.2++a).length then some (o.2++a)else none else some o.2
theorem Wv:aZ afk CF:= .bk .n (.k V7 .n)
def n0:Int×Int×List ai×Int×ak×Int×Int×Int×List c3×List aS×Int×Int×Bool->Option ((Int) ⊕ (Int×List ai×Int×ak×Int×Int×Int×List c3×List aS×Int×Int×Bool))
 |(d,k,a,b,c,e,f,g,i,j,l,m,n)=>
 if (k<d:Bool) then j5 b>>=λo=>if(aH k a.length||(!o)) then if(bif o then ((a.getD k.toNat aJ).Name=c:Bool)else false) then some (.inl 1)else n0 (d,aN .i64 k 1,a,b,c,e,f,g,i,j,l,m,n)else none else some (.inr (d,a,b,c,e,f,g,i,j,l,m,n))
  partial_fixpoint
theorem UM:cK 79 0 [0,0] OA n0:= .rx n0.partial_correctness (.k G3 .n)
def rv:Int×ar×Int×List ai×Int×ak×Int×Int×Int×List c3×List aS×Int×Int×Bool->Option ((Int) ⊕ (Int×List ai×Int×ak×Int×Int×Int×List c3×List aS×Int×Int×Bool))
 |(o,l,a,b,c,d,e,f,g,i,j,k,m,n)=>
 if (a<(l.length:Int):Bool) then if aH a l.length then some (decide (l.getD a.toNat 0<0))>>=λt58=>if(aH a l.length||(!(!t58))) then if(bif t58 then true else ((b.length:Int)<=l.getD a.toNat 0:Bool)) then some (.inl 4)else rv (o,l,aN .i64 a 1,b,c,d,e,f,g,i,j,k,m,n)else none else none else some (.inr (o,b,c,d,e,f,g,i,j,k,m,n))
  partial_fixpoint
theorem UN:cK 79 0 [1,0] OB rv:= .rx rv.partial_correctness
def pg(m:Int×List ai):Option ((Int) ⊕ (Unit)):=
 match m with
 |(i,b)=>
 if (i<(b.length:Int):Bool) then if aH i b.length then some (b.getD i.toNat aJ)>>=λc=>hI c>>=λr=>if !r then some (.inl 1)else n0 (i,0,b,c.Kind,c.Name,c.bF,c.bH,c.Max,c.bh,c.ah,c.Key,c.aF,c.Open)>>=λe=>match e with
 |.inl f=>
 some (.inl f)
 |.inr a=>
 CF (⟨a.2.2.1,a.2.2.2.1,a.2.2.2.2.1,a.2.2.2.2.2.1,a.2.2.2.2.2.2.1,a.2.2.2.2.2.2.2.1,a.2.2.2.2.2.2.2.2.1,a.2.2.2.2.2.2.2.2.2.1,a.2.2.2.2.2.2.2.2.2.2.1,a.2.2.2.2.2.2.2.2.2.2.2⟩:ai)>>=λk=>rv (a.1,k,0,a.2.1,a.2.2.1,a.2.2.2.1,a.2.2.2.2.1,a.2.2.2.2.2.1,a.2.2.2.2.2.2.1,a.2.2.2.2.2.2.2.1,a.2.2.2.2.2.2.2.2.1,a.2.2.2.2.2.2.2.2.2.1,a.2.2.2.2.2.2.2.2.2.2.1,a.2.2.2.2.2.2.2.2.2.2.2)>>=λg=>match g with
 |.inl j=>
 some (.inl j)
 |.inr d=>
 some (decide (d.2.2.1=8))>>=λt71=>if(aH d.2.2.2.2.2.2.2.2.2.1 d.2.1.length||(!t71)) then (if t71 then yk (d.2.1.getD d.2.2.2.2.2.2.2.2.2.1.toNat aJ).Kind else some false)>>=λl=>if(bif t71 then(!l)else false) then some (.inl 1)else pg (aN .i64 d.1 1,d.2.1)else none else none else some (.inr ())
  partial_fixpoint
theorem VQ:cK 79 0 [0] R0 pg:= .rx pg.partial_correctness (.k XJ (.k Wv (.k To .n))) (.k UM (.k UN .n))
def vn(s:aT):Option Int:=
 if (32<(s.Types.length:Int):Bool) then some 3 else pg (0,s.Types)>>=λo=>match o with
 |.inl a=>
 some a
 |.inr b=>
 some 0
theorem Tc:aZ agx vn:= .bk .n (.k VQ .n)
def kF:aT×Int->Option Int
 |(s,t)=>
 vn s>>=λr=>if !(r=0:Bool) then some r else if(bif (t<0:Bool)then true else ((s.Types.length:Int)<=t:Bool)) then some 4 else some 0
theorem G5:aZ agu kF:= .bk (.k Tc .n)
def yc:cY×cY->Option Int
 |(w,r)=>
 kF (w.cW,w.aw)>>=λa=>if !(a=0:Bool) then some a else kF (r.cW,r.aw)>>=λb=>some b
theorem Td:aZ agm yc:= .bk (.k G5 .n)
def hg:ar×Int->Option cV
 |(path,a)=>
 if room 8 ([]++path).length then some (⟨(⟨0,false,0,[],0,[],[],[]⟩:I),(⟨[]++path,a⟩:iV),false⟩:cV)else none
theorem ph:aZ agD hg:= .bk
def pa:ak×Int×Int->Option Int
 |(a,b,i)=>
 if (i<(a.length:Int):Bool) then if aH i a.length then pa (a,aN .u64 (gB .u64 b 256) (bU .u64 (fw a i)),aN .i64 i 1)else none else some b
  partial_fixpoint
theorem UO:cK 158 0 [0] OQ pa:= .rx pa.partial_correctness
def C5(s:ak):Option (Int×Int):=
 some (decide (0<(s.length:Int)))>>=λt8=>if(aH 0 s.length||(!t8)) then if(bif t8 then (fw s 0=0:Bool)else false) then some (0,2)else if (8<(s.length:Int):Bool) then some (0,7)else pa (s,0,0)>>=λo=>some (o,0)else none
theorem V8:aZ afL C5:= .bk .n (.k UO .n)
def yw(p:ak):Option (Int×Bool):=
 C5 p>>=λr=>some (r.1,decide (r.2=0))
theorem VJ:aZ afm yw:= .bk (.k V8 .n)
def C2(n:Int):Option Int:=
 if (b6 n 2=0:Bool) then some (bU .i64 (fC .u64 n 2))else some (dq .i64 (dq .i64 0 (bU .i64 (fC .u64 n 2))) 1)
theorem VR:aZ afn C2:= .bk
def lU:ar×Int->Option ar
 |(path,step)=>
 if room 8 ([]++path).length then some ([]++path)>>=λl=>some [step]>>=λt9=>if room 8 (l++t9).length then some (l++t9)else none else none
theorem tW:aZ afo lU:= .bk
def s0:ak×Int×Int×Int->Option ((Int×Int×Int) ⊕ (Unit))
 |(a,n,b,i)=>
 if (i<10:Bool) then if (i=(a.length:Int):Bool) then some (.inl (0,0,10))else if aH i a.length then some (bU .u64 (fw a i))>>=λt20=>if(bif (i=9:Bool)then (1<t20:Bool)else false) then some (.inl (0,0,7))else some (aN .u64 n (gB .u64 (b6 t20 128) b))>>=λt32=>if (t20<128:Bool) then if(bif (t20=0:Bool)then (0<i:Bool)else false) then some (.inl (0,0,2))else some (.inl (t32,aN .i64 i 1,0))else s0 (a,t32,gB .u64 b 128,aN .i64 i 1)else none else some (.inr ())
  partial_fixpoint
theorem VK:cK 199 0 [0] OR s0:= .rx s0.partial_correctness
def vw(s:ak):Option (Int×Int×Int):=
 s0 (s,0,1,0)>>=λo=>match o with
 |.inl a=>
 some (a.1,a.2.1,a.2.2)
 |.inr b=>
 some (0,0,7)
theorem GA:aZ af0 vw:= .bk .n (.k VK .n)
def zo(a:ak):Option (Int×ak×Int):=
 vw a>>=λr=>if(bif bif (!(r.2.2=0:Bool))then true else (r.1<1:Bool)then true else (1000<r.1:Bool)) then some (0,[],12)else if dY r.2.1 (a.length:Int) a.length then some (bU .i64 r.1,ej a r.2.1 (a.length:Int),0)else none
theorem XK:aZ afM zo:= .bk (.k GA .n)
def nG(v:I):Option cV:=
 some (⟨I.eta v,(⟨[],0⟩:iV),true⟩:cV)
theorem yx:aZ afp nG:= .bk
def yS(s:ak):Option (ak×ak×Bool):=
 vw s>>=λr=>if(bif (!(r.2.2=0:Bool))then true else (bU .u64 (dq .i64 (s.length:Int) r.2.1)<r.1:Bool)) then some ([],[],false)else some (aN .i64 r.2.1 (bU .i64 r.1))>>=λt30=>if dY r.2.1 t30 s.length then some (aN .i64 r.2.1 (bU .i64 r.1))>>=λt36=>if dY t36 (s.length:Int) s.length then some (ej s r.2.1 t30,ej s t36 (s.length:Int),true)else none else none
theorem T5:aZ af2 yS:= .bk (.k GA .n)
def sR:ak×List ak->Option ((Int) ⊕ (List ak))
 |(b,a)=>
 if !(b=[]:Bool) then yS b>>=λr=>if !r.2.2 then some (.inl 12)else some [r.1]>>=λt20=>if room 16 (a++t20).length then sR (r.2.1,a++t20)else none else some (.inr a)
  partial_fixpoint
theorem VS:cK 160 0 [0] OS sR:= .rx sR.partial_correctness (.k T5 .n)
def vo(c:ak):Option (List ak×Int):=
 sR (c,[])>>=λo=>match o with
 |.inl a=>
 some ([],a)
 |.inr b=>
 some (b,0)
theorem Te:aZ afO vo:= .bk .n (.k VS .n)
def rl:Int×ar×List ak×Int×List ai×ai×Int×Bool×Int×ak×Int×Int×Bool×Int×Bool×Int×ak×Int×List I->Option ((cV) ⊕ (Int×ar×List ak×List ai×ai×Int×Bool×Int×ak×Int×Int×Bool×Int×Bool×Int×ak×Int×List I))
 |(u,c,t,b,e,f,g,i,j,k,l,m,n,o,p,q,r,s,a)=>
 if (b<(a.length:Int):Bool) then some (dq .i64 b 1)>>=λt87=>if aH t87 a.length then if (t87.toNat<a.length:Bool) then if aH b a.length then if (b.toNat<a.length:Bool) then n9 (I.eta (a.getD t87.toNat av),I.eta (a.getD b.toNat av))>>=λv=>if (0<=v:Bool) then hg (c,1)>>=λd=>some (.inl (⟨I.eta d.Value,d.dR,d.ck⟩:cV))else rl (u,c,t,aN .i64 b 1,e,f,g,i,j,k,l,m,n,o,p,q,r,s,a)else none else none else none else none else some (.inr (u,c,t,e,f,g,i,j,k,l,m,n,o,p,q,r,s,a))
  partial_fixpoint
theorem U6:cK 121 0 [1] OT rl:= .rx rl.partial_correctness (.k Ck (.k ph .n))
def ry:ak×Int×List cS->Option ((Int) ⊕ (List cS))
 |(a,d,b)=>
 if !(a=[]:Bool) then vw a>>=λr=>if(bif bif (!(r.2.2=0:Bool))then true else (2001<r.1:Bool)then true else (bU .i64 (fC .u64 r.1 2)<=d:Bool)) then some (.inl 12)else if dY r.2.1 (a.length:Int) a.length then yS (ej a r.2.1 (a.length:Int))>>=λc=>if !c.2.2 then some (.inl 12)else some (bU .i64 (fC .u64 r.1 2))>>=λt45=>some [(⟨t45,decide (b6 r.1 2=1),c.1⟩:cS)]>>=λt54=>if room 32 (b++t54).length then ry (c.2.1,t45,b++t54)else none else none else some (.inr b)
  partial_fixpoint
theorem U0:cK 161 0 [0] OU ry:= .rx ry.partial_correctness (.k GA (.k T5 .n))
def yM(c:ak):Option (List cS×Int):=
 ry (c,0,[])>>=λo=>match o with
 |.inl a=>
 some ([],a)
 |.inr b=>
 some (b,0)
theorem VL:aZ afP yM:= .bk .n (.k U0 .n)
def pj:List cS×Int×Int->Option ((Int) ⊕ (Unit))
 |(a,b,i)=>
 if (i<(a.length:Int):Bool) then if aH i a.length then if ((a.getD i.toNat gn).ad=b:Bool) then some (.inl i)else pj (a,b,aN .i64 i 1)else none else some (.inr ())
  partial_fixpoint
theorem VT:cK 162 0 [0] OV pj:= .rx pj.partial_correctness
def ze(b:List cS×Int):Option Int:=
 match b with
 |(l,id)=>
 pj (l,id,0)>>=λo=>match o with
 |.inl a=>
 some a
 |.inr c=>
 some (-1)
theorem WN:aZ afQ ze:= .bk .n (.k VT .n)
def pe:ar×List cS×Int×ai×Int×Bool×Int×ak×Int×Int×Bool×Int×Bool×Int×ak×Int×List I×List bX->Option ((cV) ⊕ (Int×Bool×Int×ak×Int×Int×Bool×Int×Bool×Int×ak×Int×List I×List bX))
 |(s,a,k,c,d,e,f,g,i,j,l,m,n,o,p,q,r,b)=>
 if (k<(a.length:Int):Bool) then if aH k a.length then hE (c,(a.getD k.toNat gn).ad)>>=λu=>if u.2 then pe (s,a,aN .i64 k 1,c,d,e,f,g,i,j,l,m,n,o,p,q,r,b)else if aH k a.length then if(a.getD k.toNat gn).cg then if aH k a.length then lU (s,(a.getD k.toNat gn).ad)>>=λv=>hg (v,6)>>=λt=>some (.inl (⟨I.eta t.Value,t.dR,t.ck⟩:cV))else none else if aH k a.length then if aH k a.length then some [(⟨(a.getD k.toNat gn).ad,(a.getD k.toNat gn).Data⟩:bX)]>>=λt135=>if room 24 (b++t135).length then pe (s,a,aN .i64 k 1,c,d,e,f,g,i,j,l,m,n,o,p,q,r,b++t135)else none else none else none else none else none else some (.inr (d,e,f,g,i,j,l,m,n,o,p,q,r,b))
  partial_fixpoint
theorem Uy:cK 122 0 [1] PW pe:= .rx pe.partial_correctness (.k mC (.k tW (.k ph .n)))
mutual
def jJ:aT×Int×ak×Int×ar->Option cV
 |(s,t,p,w,path)=>
 if aH t s.Types.length then some (s.Types.getD t.toNat aJ)>>=λc=>if (200<w:Bool) then hg (path,8)>>=λr=>some (⟨I.eta r.Value,r.dR,r.ck⟩:cV)else
 let i2:=λld=>
 let i1:=λlc=>
 let i0:=λkw=>
 let ip:=λks=>
 let io:=λkk=>
 if (c.Kind=6:Bool) then Dc (s,c,p,w,path)>>=λb1=>some (⟨I.eta b1.Value,b1.dR,b1.ck⟩:cV)else if (c.Kind=7:Bool) then CG (s,c,p,w,path)>>=λb2=>some (⟨I.eta b2.Value,b2.dR,b2.ck⟩:cV)else if (c.Kind=8:Bool) then Cv (s,c,p,w,path)>>=λb3=>some (⟨I.eta b3.Value,b3.dR,b3.ck⟩:cV)else if (c.Kind=5:Bool) then C9 (s,c,p,w,path)>>=λb4=>some (⟨I.eta b4.Value,b4.dR,b4.ck⟩:cV)else nG (⟨c.Kind,ld,lc,kw,ks,[],kk,[]⟩:I)>>=λce=>some (⟨I.eta ce.Value,ce.dR,ce.ck⟩:cV)
 if(bif (c.Kind=9:Bool)then(!(p=[]:Bool))else false) then if aH 0 p.length then if !(fw p 0=1:Bool) then hg (path,1)>>=λb0=>some (⟨I.eta b0.Value,b0.dR,b0.ck⟩:cV)else if dY 1 (p.length:Int) p.length then lU (path,0)>>=λjp=>jJ (s,c.aF,ej p 1 (p.length:Int),aN .i64 w 1,jp)>>=λN=>if !N.ck then some (⟨I.eta N.Value,N.dR,N.ck⟩:cV)else io [I.eta N.Value]else none else none else io []
 if (c.Kind=4:Bool) then yw p>>=λS=>if(bif bif (!S.2)then true else (S.1<1:Bool)then true else (1000<S.1:Bool)) then hg (path,1)>>=λbR=>some (⟨I.eta bR.Value,bR.dR,bR.ck⟩:cV)else some (bU .i64 S.1)>>=λi7=>sY (c,i7)>>=λi9=>if(bif (!i9.2)then(!c.Open)else false) then hg (path,4)>>=λbS=>some (⟨I.eta bS.Value,bS.dR,bS.ck⟩:cV)else ip i7 else ip 0
 if (c.Kind=3:Bool) then if (c.Max<(p.length:Int):Bool) then hg (path,3)>>=λbC=>some (⟨I.eta bC.Value,bC.dR,bC.ck⟩:cV)else i0 p else i0 []
 if (c.Kind=2:Bool) then yw p>>=λi6=>if !i6.2 then hg (path,1)>>=λbq=>some (⟨I.eta bq.Value,bq.dR,bq.ck⟩:cV)else C2 i6.1>>=λbs=>if(bif (bs<c.bF:Bool)then true else (c.bH<bs:Bool)) then hg (path,2)>>=λbv=>some (⟨I.eta bv.Value,bv.dR,bv.ck⟩:cV)else i1 bs else i1 0
 if (c.Kind=1:Bool) then if(bif (!(p=[]:Bool))then(!(p=[1]:Bool))else false) then hg (path,1)>>=λbc=>some (⟨I.eta bc.Value,bc.dR,bc.ck⟩:cV)else some (!(decide (p=[])))>>=λt44=>i2 t44 else i2 false else none
  partial_fixpoint
def Cv(f:aT×ai×ak×Int×ar):Option cV:=
 match f with
 |(s,c,p,w,path)=>
 vo p>>=λr=>if(bif (!(r.2=0:Bool))then true else (b6 (r.1.length:Int) 2=1:Bool)) then hg (path,1)>>=λA=>some (⟨I.eta A.Value,A.dR,A.ck⟩:cV)else if (c.Max<fC .i64 (r.1.length:Int) 2:Bool) then hg (path,3)>>=λq=>some (⟨I.eta q.Value,q.dR,q.ck⟩:cV)else tc (w,path,r.1,0,s.Types,c,0,false,0,[],0,0,false,c.Kind,false,0,[],0,[])>>=λo=>match o with
 |.inl x=>
 some (⟨I.eta x.Value,x.dR,x.ck⟩:cV)
 |.inr a=>
 rl (a.1,a.2.1,a.2.2.1,1,a.2.2.2.1,a.2.2.2.2.1,a.2.2.2.2.2.1,a.2.2.2.2.2.2.1,a.2.2.2.2.2.2.2.1,a.2.2.2.2.2.2.2.2.1,a.2.2.2.2.2.2.2.2.2.1,a.2.2.2.2.2.2.2.2.2.2.1,a.2.2.2.2.2.2.2.2.2.2.2.1,a.2.2.2.2.2.2.2.2.2.2.2.2.1,a.2.2.2.2.2.2.2.2.2.2.2.2.2.1,a.2.2.2.2.2.2.2.2.2.2.2.2.2.2.1,a.2.2.2.2.2.2.2.2.2.2.2.2.2.2.2.1,a.2.2.2.2.2.2.2.2.2.2.2.2.2.2.2.2.1,a.2.2.2.2.2.2.2.2.2.2.2.2.2.2.2.2.2)>>=λa5=>match a5 with
 |.inl D=>
 some (⟨I.eta D.Value,D.dR,D.ck⟩:cV)
 |.inr e=>
 td (e.1,e.2.1,e.2.2.1,0,e.2.2.2.1,e.2.2.2.2.1,e.2.2.2.2.2.1,e.2.2.2.2.2.2.1,e.2.2.2.2.2.2.2.1,e.2.2.2.2.2.2.2.2.1,e.2.2.2.2.2.2.2.2.2.1,e.2.2.2.2.2.2.2.2.2.2.1,e.2.2.2.2.2.2.2.2.2.2.2.1,e.2.2.2.2.2.2.2.2.2.2.2.2.1,e.2.2.2.2.2.2.2.2.2.2.2.2.2.1,e.2.2.2.2.2.2.2.2.2.2.2.2.2.2.1,e.2.2.2.2.2.2.2.2.2.2.2.2.2.2.2.1,e.2.2.2.2.2.2.2.2.2.2.2.2.2.2.2.2.1,e.2.2.2.2.2.2.2.2.2.2.2.2.2.2.2.2.2,[])>>=λi8=>match i8 with
 |.inl a9=>
 some (⟨I.eta a9.Value,a9.dR,a9.ck⟩:cV)
 |.inr E=>
 nG (⟨E.2.2.2.2.2.2.2.1,E.2.2.2.2.2.2.2.2.1,E.2.2.2.2.2.2.2.2.2.1,E.2.2.2.2.2.2.2.2.2.2.1,E.2.2.2.2.2.2.2.2.2.2.2.1,E.2.2.2.2.2.2.2.2.2.2.2.2.1,E.2.2.2.2.2.2.2.2.2.2.2.2.2,[]⟩:I)>>=λj=>some (⟨I.eta j.Value,j.dR,j.ck⟩:cV)
  partial_fixpoint
def CG(f:aT×ai×ak×Int×ar):Option cV:=
 match f with
 |(s,c,p,w,path)=>
 vo p>>=λr=>if !(r.2=0:Bool) then hg (path,1)>>=λA=>some (⟨I.eta A.Value,A.dR,A.ck⟩:cV)else if (c.Max<(r.1.length:Int):Bool) then hg (path,3)>>=λq=>some (⟨I.eta q.Value,q.dR,q.ck⟩:cV)else sV (w,path,r.1,0,s.Types,c,0,false,0,[],0,0,false,c.Kind,false,0,[],0,[])>>=λo=>match o with
 |.inl x=>
 some (⟨I.eta x.Value,x.dR,x.ck⟩:cV)
 |.inr a=>
 nG (⟨a.2.2.2.2.2.2.2.1,a.2.2.2.2.2.2.2.2.1,a.2.2.2.2.2.2.2.2.2.1,a.2.2.2.2.2.2.2.2.2.2.1,a.2.2.2.2.2.2.2.2.2.2.2.1,[],a.2.2.2.2.2.2.2.2.2.2.2.2,[]⟩:I)>>=λj=>some (⟨I.eta j.Value,j.dR,j.ck⟩:cV)
  partial_fixpoint
def C9(f:aT×ai×ak×Int×ar):Option cV:=
 match f with
 |(s,c,p,w,path)=>
 yM p>>=λr=>if !(r.2=0:Bool) then hg (path,1)>>=λA=>some (⟨I.eta A.Value,A.dR,A.ck⟩:cV)else mB (w,path,r.1,0,s.Types,c,0,false,0,[],0,0,false,c.Kind,false,0,[],0,[])>>=λo=>match o with
 |.inl x=>
 some (⟨I.eta x.Value,x.dR,x.ck⟩:cV)
 |.inr a=>
 pe (a.1,a.2.1,0,a.2.2.1,a.2.2.2.1,a.2.2.2.2.1,a.2.2.2.2.2.1,a.2.2.2.2.2.2.1,a.2.2.2.2.2.2.2.1,a.2.2.2.2.2.2.2.2.1,a.2.2.2.2.2.2.2.2.2.1,a.2.2.2.2.2.2.2.2.2.2.1,a.2.2.2.2.2.2.2.2.2.2.2.1,a.2.2.2.2.2.2.2.2.2.2.2.2.1,a.2.2.2.2.2.2.2.2.2.2.2.2.2.1,a.2.2.2.2.2.2.2.2.2.2.2.2.2.2.1,a.2.2.2.2.2.2.2.2.2.2.2.2.2.2.2,[])>>=λa5=>match a5 with
 |.inl D=>
 some (⟨I.eta D.Value,D.dR,D.ck⟩:cV)
 |.inr e=>
 nG (⟨e.2.2.2.2.2.2.2.1,e.2.2.2.2.2.2.2.2.1,e.2.2.2.2.2.2.2.2.2.1,e.2.2.2.2.2.2.2.2.2.2.1,e.2.2.2.2.2.2.2.2.2.2.2.1,[],e.2.2.2.2.2.2.2.2.2.2.2.2.1,e.2.2.2.2.2.2.2.2.2.2.2.2.2⟩:I)>>=λq=>some (⟨I.eta q.Value,q.dR,q.ck⟩:cV)
  partial_fixpoint
def Dc:aT×ai×ak×Int×ar->Option cV
 |(s,c,p,w,path)=>
 zo p>>=λr=>if !(r.2.2=0:Bool) then hg (path,1)>>=λq=>some (⟨I.eta q.Value,q.dR,q.ck⟩:cV)else hE (c,r.1)>>=λj=>if(bif (!j.2)then(!c.Open)else false) then hg (path,5)>>=λP=>some (⟨I.eta P.Value,P.dR,P.ck⟩:cV)else if !j.2 then nG (⟨c.Kind,false,0,[],r.1,[],[],[(⟨r.1,r.2.1⟩:bX)]⟩:I)>>=λB=>some (⟨I.eta B.Value,B.dR,B.ck⟩:cV)else if aH j.1 c.ah.length then lU (path,r.1)>>=λbe=>jJ (s,(c.ah.getD j.1.toNat aB).aw,r.2.1,aN .i64 w 1,be)>>=λy=>if !y.ck then some (⟨I.eta y.Value,y.dR,y.ck⟩:cV)else nG (⟨c.Kind,false,0,[],r.1,[],[I.eta y.Value],[]⟩:I)>>=λbi=>some (⟨I.eta bi.Value,bi.dR,bi.ck⟩:cV)else none
  partial_fixpoint
def tc:Int×ar×List ak×Int×List ai×ai×Int×Bool×Int×ak×Int×Int×Bool×Int×Bool×Int×ak×Int×List I->Option ((cV) ⊕ (Int×ar×List ak×List ai×ai×Int×Bool×Int×ak×Int×Int×Bool×Int×Bool×Int×ak×Int×List I))
 |(a4,bb,L,i,a0,a1,gc,gd,ge,gl,gs,gt,g0,g1,g2,g3,g4,g5,a2)=>
 if (gB .i64 2 i<(L.length:Int):Bool) then some (gB .i64 2 i)>>=λt57=>if aH t57 L.length then lU (bb,i)>>=λO=>jJ ((⟨a0⟩:aT),a1.Key,L.getD t57.toNat [],aN .i64 a4 1,O)>>=λv=>if !v.ck then some (.inl (⟨I.eta v.Value,v.dR,v.ck⟩:cV))else some [I.eta v.Value]>>=λt74=>if room 120 (a2++t74).length then tc (a4,bb,L,aN .i64 i 1,a0,a1,gc,gd,ge,gl,gs,gt,g0,g1,g2,g3,g4,g5,a2++t74)else none else none else some (.inr (a4,bb,L,a0,a1,gc,gd,ge,gl,gs,gt,g0,g1,g2,g3,g4,g5,a2))
  partial_fixpoint
def td:Int×ar×List ak×Int×List ai×ai×Int×Bool×Int×ak×Int×Int×Bool×Int×Bool×Int×ak×Int×List I×List I->Option ((cV) ⊕ (Int×Bool×Int×ak×Int×Int×Bool×Int×Bool×Int×ak×Int×List I×List I))
 |(i3,i5,R,Q,g6,g7,g8,g9,he,hk,hm,hs,ht,hu,hw,hH,h0,h1,ii,a3)=>
 if (gB .i64 2 Q<(R.length:Int):Bool) then some (aN .i64 (gB .i64 2 Q) 1)>>=λt112=>if aH t112 R.length then lU (i5,Q)>>=λbe=>jJ ((⟨g6⟩:aT),g7.aF,R.getD t112.toNat [],aN .i64 i3 1,be)>>=λy=>if !y.ck then some (.inl (⟨I.eta y.Value,y.dR,y.ck⟩:cV))else some [I.eta y.Value]>>=λt129=>if room 120 (a3++t129).length then td (i3,i5,R,aN .i64 Q 1,g6,g7,g8,g9,he,hk,hm,hs,ht,hu,hw,hH,h0,h1,ii,a3++t129)else none else none else some (.inr (g8,g9,he,hk,hm,hs,ht,hu,hw,hH,h0,h1,ii,a3))
  partial_fixpoint
def sV:Int×ar×List ak×Int×List ai×ai×Int×Bool×Int×ak×Int×Int×Bool×Int×Bool×Int×ak×Int×List I->Option ((cV) ⊕ (Int×Bool×Int×ak×Int×Int×Bool×Int×Bool×Int×ak×Int×List I))
 |(H,i4,l,i,ci,cs,cz,cQ,c9,dh,dt,eq,es,ex,fd,ff,fo,fs,U)=>
 if (i<(l.length:Int):Bool) then if aH i l.length then lU (i4,i)>>=λO=>jJ ((⟨ci⟩:aT),cs.aF,l.getD i.toNat [],aN .i64 H 1,O)>>=λv=>if !v.ck then some (.inl (⟨I.eta v.Value,v.dR,v.ck⟩:cV))else some [I.eta v.Value]>>=λt62=>if room 120 (U++t62).length then sV (H,i4,l,aN .i64 i 1,ci,cs,cz,cQ,c9,dh,dt,eq,es,ex,fd,ff,fo,fs,U++t62)else none else none else some (.inr (cz,cQ,c9,dh,dt,eq,es,ex,fd,ff,fo,fs,U))
  partial_fixpoint
def mB:Int×ar×List cS×Int×List ai×ai×Int×Bool×Int×ak×Int×Int×Bool×Int×Bool×Int×ak×Int×List I->Option ((cV) ⊕ (ar×List cS×ai×Int×Bool×Int×ak×Int×Int×Bool×Int×Bool×Int×ak×Int×List I))
 |(H,M,G,i,W,F,X,Y,Z,af,ag,am,an,ap,ax,aC,aE,aK,K)=>
 if (i<(F.ah.length:Int):Bool) then if aH i F.ah.length then some (F.ah.getD i.toNat aB)>>=λJ=>ze (G,J.ad)>>=λj=>if (j<0:Bool) then if !J.bV then lU (M,J.ad)>>=λO=>hg (O,7)>>=λv=>some (.inl (⟨I.eta v.Value,v.dR,v.ck⟩:cV))else some [I.eta J.bB]>>=λt63=>if room 120 (K++t63).length then mB (H,M,G,aN .i64 i 1,W,F,X,Y,Z,af,ag,am,an,ap,ax,aC,aE,aK,K++t63)else none else if aH j G.length then lU (M,J.ad)>>=λP=>jJ ((⟨W⟩:aT),J.aw,(G.getD j.toNat gn).Data,aN .i64 H 1,P)>>=λB=>if !B.ck then some (.inl (⟨I.eta B.Value,B.dR,B.ck⟩:cV))else some [I.eta B.Value]>>=λt89=>if room 120 (K++t89).length then mB (H,M,G,aN .i64 i 1,W,F,X,Y,Z,af,ag,am,an,ap,ax,aC,aE,aK,K++t89)else none else none else none else some (.inr (M,G,F,X,Y,Z,af,ag,am,an,ap,ax,aC,aE,aK,K))
  partial_fixpoint
end
theorem Uz:ec o0 jJ/\ec Fj C9/\eD 122 0 [0] Aw mB/\ec Fi Cv/\eD 121 0 [2] Av td/\eD 121 0 [0] Au tc/\ec Fh CG/\eD 120 0 [0] As sV/\ec Fg Dc:=jJ.mutual_partial_correctness (d' o0) (d' Fj) (eC 122 0 [0] Aw) (d' Fi) (eC 121 0 [2] Av) (eC 121 0 [0] Au) (d' Fh) (eC 120 0 [0] As) (d' Fg)
 (λ_ _ _ _ _ h0 h1 d e f _ _ h=>eh h (.k ph (.k VJ (.k VR (.k Cn (.k tW (.k (cc o0 h0) (.k (cc Fg f) (.k (cc Fh e) (.k (cc Fi d) (.k (cc Fj h1) (.k yx .n))))))))))))
 (λ_ a _ _ h=>eh h (.k VL (.k ph (.k yx .n))) (.k (eO Aw a) (.k Uy .n)))
 (λ_ _ h0 a _ _ h=>eN Aw a h (.k WN (.k tW (.k ph (.k (cc o0 h0) .n)))))
 (λ_ _ b bc _ _ h=>eh h (.k Te (.k ph (.k yx .n))) (.k (eO Au bc) (.k U6 (.k (eO Av b) .n))))
 (λ_ _ h0 b _ _ h=>eN Av b h (.k tW (.k (cc o0 h0) .n)))
 (λ_ _ h0 bc _ _ h=>eN Au bc h (.k tW (.k (cc o0 h0) .n)))
 (λ_ c _ _ h=>eh h (.k Te (.k ph (.k yx .n))) (.k (eO As c) .n))
 (λ_ _ h0 c _ _ h=>eN As c h (.k tW (.k (cc o0 h0) .n)))
 (λ_ h0 _ _ h=>eh h (.k XK (.k ph (.k mC (.k yx (.k tW (.k (cc o0 h0) .n)))))))
theorem V9:aZ o0 jJ:=cc _ Uz.1
def GC:aT×Int×ak->Option (cV×Int)
 |(s,t,m)=>
 kF (s,t)>>=λr=>if !(r=0:Bool) then some ((⟨(⟨0,false,0,[],0,[],[],[]⟩:I),(⟨[],0⟩:iV),false⟩:cV),r)else if (4096<(m.length:Int):Bool) then hg ([],3)>>=λa=>some ((⟨I.eta a.Value,a.dR,a.ck⟩:cV),0)else jJ (s,t,m,1,[])>>=λb=>some ((⟨I.eta b.Value,b.dR,b.ck⟩:cV),0)
theorem Ww:aZ agc GC:= .bk (.k G5 (.k ph (.k V9 .n)))
def s3:aT×Int×ak->Option (I×Int)
 |(s,t,m)=>
 GC (s,t,m)>>=λr=>if(bif (r.2=0:Bool)then(!r.1.ck)else false) then some (I.eta r.1.Value,12)else some (I.eta r.1.Value,r.2)
theorem VM:aZ afT s3:= .bk (.k Ww .n)
def tX(v:I):Option Bool:=
 some (bif bif bif bif bif bif bif decide (v.Kind=1)then true else(!v.bN)then bif decide (v.Kind=2)then true else decide (v.bd=0)else false then bif decide (v.Kind=3)then true else decide (v.bl=[])else false then bif bif decide (v.Kind=4)then true else decide (v.Kind=6)then true else decide (v.ad=0)else false then bif decide (v.Kind=8)then true else decide ((v.ay.length:Int)=0)else false then bif decide (5<=v.Kind)then true else decide ((v.aj.length:Int)=0)else false then bif bif decide (v.Kind=5)then true else decide (v.Kind=6)then true else decide ((v.Rest.length:Int)=0)else false)
theorem Wx:aZ afq tX:= .bk
def jr:Int×Bool->Option Bool
 |(n,a)=>
 some (bif bif (!a)then decide (1<=n)else false then decide (n<=1000)else false)
theorem Uf:aZ afr jr:= .bk
def j4:List bX×Int×ai->Option ((Bool) ⊕ (Unit))
 |(a,i,b)=>
 if (i<(a.length:Int):Bool) then if aH i a.length then hE (b,(a.getD i.toNat bW).ad)>>=λr=>if aH i a.length then jr ((a.getD i.toNat bW).ad,r.2)>>=λc=>some (!c)>>=λt31=>some (decide (0<i))>>=λt34=>if(aH i a.length||(!((!t31)&&t34))) then some (dq .i64 i 1)>>=λt43=>if(aH t43 a.length||(!((!t31)&&t34))) then if(bif t31 then true else bif t34 then ((a.getD i.toNat bW).ad<=(a.getD t43.toNat bW).ad:Bool)else false) then some (.inl false)else j4 (a,aN .i64 i 1,b)else none else none else none else none else some (.inr ())
  partial_fixpoint
theorem V':cK 126 0 [0] PX j4:= .rx j4.partial_correctness (.k mC (.k Uf .n))
def qU(b:ai×List bX):Option Bool:=
 match b with
 |(t,l)=>
 j4 (l,0,t)>>=λo=>match o with
 |.inl a=>
 some a
 |.inr c=>
 some true
theorem Wb:aZ afs qU:= .bk .n (.k V' .n)
def hW:Int×I->Option ((Bool) ⊕ (Unit))
 |(b,a)=>
 if (b<(a.ay.length:Int):Bool) then some (dq .i64 b 1)>>=λt270=>if aH t270 a.ay.length then if aH b a.ay.length then n9 (I.eta (a.ay.getD t270.toNat av),I.eta (a.ay.getD b.toNat av))>>=λc=>if (0<=c:Bool) then some (.inl false)else hW (aN .i64 b 1,I.eta a)else none else none else some (.inr ())
  partial_fixpoint
theorem VN:cK 91 0 [1] R4 hW:= .rx hW.partial_correctness (.k Ck .n)
mutual
def nL(c:aT×Int×List I×Bool):Option Bool:=
 match c with
 |(s,t,l,plain)=>
 kB (t,l,plain,0,s.Types)>>=λo=>match o with
 |.inl w=>
 some w
 |.inr L=>
 some true
  partial_fixpoint
def iF(c:aT×Int×I×Bool):Option Bool:=
 match c with
 |(s,t,v,plain)=>
 if(bif (t<0:Bool)then true else ((s.Types.length:Int)<=t:Bool)) then some false else if aH t s.Types.length then some (s.Types.getD t.toNat aJ)>>=λa=>some (!(decide (v.Kind=a.Kind)))>>=λt34=>(if !t34 then tX (I.eta v)else some false)>>=λr=>if(bif bif t34 then true else(!r)then true else bif plain then (0<(v.Rest.length:Int):Bool)else false) then some false else if (a.Kind=1:Bool) then some true else if (a.Kind=2:Bool) then some (bif decide (a.bF<=v.bd)then decide (v.bd<=a.bH)else false)else if (a.Kind=3:Bool) then some (decide ((v.bl.length:Int)<=a.Max))else if (a.Kind=4:Bool) then sY (a,v.ad)>>=λx=>some (bif a.Open then(!plain)else false)>>=λt91=>(if((!x.2)&&t91) then jr (v.ad,x.2)else some false)>>=λW=>some (bif x.2 then true else bif t91 then W else false)else if (a.Kind=5:Bool) then some (!(decide ((v.aj.length:Int)=(a.ah.length:Int))))>>=λt107=>(if !t107 then qU (a,v.Rest)else some false)>>=λX=>if(bif t107 then true else(!X)) then some false else jb (plain,0,s.Types,I.eta v,a.Kind,a.Name,a.bF,a.bH,a.Max,a.bh,a.ah,a.Key,a.aF,a.Open)>>=λo=>match o with
 |.inl w=>
 some w
 |.inr L=>
 some true else if (a.Kind=6:Bool) then hE (a,v.ad)>>=λp=>if p.2 then some (bif decide ((v.aj.length:Int)=1)then decide ((v.Rest.length:Int)=0)else false)>>=λt156=>if(aH p.1 a.ah.length||(!t156)) then if(aH 0 v.aj.length||(!t156)) then (if t156 then iF (s,(a.ah.getD p.1.toNat aB).aw,I.eta (v.aj.getD (0:Int).toNat av),plain)else some false)>>=λY=>some (bif t156 then Y else false)else none else none else some (bif a.Open then(!plain)else false)>>=λt177=>(if t177 then jr (v.ad,p.2)else some false)>>=λO=>some (bif bif bif t177 then O else false then decide ((v.aj.length:Int)=0)else false then decide ((v.Rest.length:Int)=1)else false)>>=λt195=>if(aH 0 v.Rest.length||(!t195)) then some (bif t195 then decide ((v.Rest.getD (0:Int).toNat bW).ad=v.ad)else false)else none else if (a.Kind=7:Bool) then some (decide ((v.aj.length:Int)<=a.Max))>>=λt213=>(if t213 then nL (s,a.aF,v.aj,plain)else some false)>>=λP=>some (bif t213 then P else false)else if (a.Kind=8:Bool) then some (bif decide (a.Max<(v.ay.length:Int))then true else(!(decide ((v.aj.length:Int)=(v.ay.length:Int)))))>>=λt239=>(if !t239 then nL (s,a.Key,v.ay,plain)else some false)>>=λQ=>some (bif t239 then true else(!Q))>>=λt249=>(if !t249 then nL (s,a.aF,v.aj,plain)else some false)>>=λR=>if(bif t249 then true else(!R)) then some false else hW (1,I.eta v)>>=λM=>match M with
 |.inl N=>
 some N
 |.inr Z=>
 some true else some (decide ((v.aj.length:Int)<=1))>>=λt283=>(if t283 then nL (s,a.aF,v.aj,plain)else some false)>>=λS=>some (bif t283 then S else false)else none
  partial_fixpoint
def kB:Int×List I×Bool×Int×List ai->Option ((Bool) ⊕ (Unit))
 |(y,j,e,i,b)=>
 if (i<(j.length:Int):Bool) then if aH i j.length then iF ((⟨b⟩:aT),y,I.eta (j.getD i.toNat av),e)>>=λr=>if !r then some (.inl false)else kB (y,j,e,aN .i64 i 1,b)else none else some (.inr ())
  partial_fixpoint
def jb:Bool×Int×List ai×I×Int×ak×Int×Int×Int×List c3×List aS×Int×Int×Bool->Option ((Bool) ⊕ (Unit))
 |(e,i,b,f,D,E,F,G,H,J,q,K,A,B)=>
 if (i<(f.aj.length:Int):Bool) then if aH i q.length then if aH i f.aj.length then iF ((⟨b⟩:aT),(q.getD i.toNat aB).aw,I.eta (f.aj.getD i.toNat av),e)>>=λU=>if !U then some (.inl false)else jb (e,aN .i64 i 1,b,I.eta f,D,E,F,G,H,J,q,K,A,B)else none else none else some (.inr ())
  partial_fixpoint
end
theorem WO:ec Fk nL/\eD 127 0 [0] Ax kB/\ec u7 iF/\eD 91 0 [0] xS jb:=nL.mutual_partial_correctness (d' Fk) (eC 127 0 [0] Ax) (d' u7) (eC 91 0 [0] xS)
 (λ_ h1 _ _ h=>eh h .n (.k (eO Ax h1) .n))
 (λ_ _ h1 a _ _ h=>eN Ax h1 h (.k (cc u7 a) .n))
 (λ_ _ _ h0 a b _ _ h=>eh h (.k Wx (.k Cn (.k Uf (.k Wb (.k mC (.k (cc u7 a) (.k (cc Fk h0) .n))))))) (.k (eO xS b) (.k VN .n)))
 (λ_ _ a b _ _ h=>eN xS b h (.k (cc u7 a) .n))
theorem T6:aZ u7 iF:=cc _ WO.2.2.1
def GD:aT×Int×I->Option Bool
 |(s,t,v)=>
 iF (s,t,I.eta v,false)>>=λr=>some r
theorem Wc:aZ agy GD:= .bk (.k T6 .n)
def tR:aT×Int×I->Option Int
 |(s,t,v)=>
 vn s>>=λr=>if !(r=0:Bool) then some r else if(bif (t<0:Bool)then true else ((s.Types.length:Int)<=t:Bool)) then some 4 else GD (s,t,I.eta v)>>=λa=>if !a then some 1 else some 0
theorem Tf:aZ aga tR:= .bk (.k Tc (.k Wc .n))
def C'(v:I):Option (Int×Bool×Int×ak×Int×List I×List I×List bX):=
 if room 120 ([]++v.ay).length then if room 120 ([]++v.aj).length then if room 24 ([]++v.Rest).length then some (v.Kind,v.bN,v.bd,v.bl,v.ad,[]++v.ay,[]++v.aj,[]++v.Rest)else none else none else none
theorem VO:aZ agE C':= .bk
mutual
def pk(v:I):Option I:=
 C' (I.eta v)>>=λr=>if (r.1=5:Bool) then rr (0,r.1,r.2.1,r.2.2.1,r.2.2.2.1,r.2.2.2.2.1,[],0,false,0,[],0,r.2.2.2.2.2.1,r.2.2.2.2.2.2.1)>>=λo=>some (⟨o.1,o.2.1,o.2.2.1,o.2.2.2.1,o.2.2.2.2.1,o.2.2.2.2.2.2.2.2.2.2.2.1,o.2.2.2.2.2.2.2.2.2.2.2.2,o.2.2.2.2.2.1⟩:I)else rr (0,r.1,r.2.1,r.2.2.1,r.2.2.2.1,r.2.2.2.2.1,r.2.2.2.2.2.2.2,0,false,0,[],0,r.2.2.2.2.2.1,r.2.2.2.2.2.2.1)>>=λc=>some (⟨c.1,c.2.1,c.2.2.1,c.2.2.2.1,c.2.2.2.2.1,c.2.2.2.2.2.2.2.2.2.2.2.1,c.2.2.2.2.2.2.2.2.2.2.2.2,c.2.2.2.2.2.1⟩:I)
  partial_fixpoint
def rr:Int×Int×Bool×Int×ak×Int×List bX×Int×Bool×Int×ak×Int×List I×List I->Option (Int×Bool×Int×ak×Int×List bX×Int×Bool×Int×ak×Int×List I×List I)
 |(i,e,f,j,p,q,t,w,x,y,A,B,D,a)=>
 if (i<(a.length:Int):Bool) then if aH i a.length then if (i.toNat<a.length:Bool) then pk (I.eta (a.getD i.toNat av))>>=λE=>if aH i a.length then if (i.toNat<a.length:Bool) then rr (aN .i64 i 1,e,f,j,p,q,t,w,x,y,A,B,D,a.set i.toNat (I.eta E))else none else none else none else none else some (e,f,j,p,q,t,w,x,y,A,B,D,a)
  partial_fixpoint
end
theorem UP:ec BI pk/\eD 56 0 [0] xL rr:=pk.mutual_partial_correctness (d' BI) (eC 56 0 [0] xL)
 (λ_ h1 _ _ h=>eh h (.k VO .n) (.k (eO xL h1) .n))
 (λ_ _ h0 h1 _ _ h=>eN xL h1 h (.k (cc BI h0) .n))
theorem VU:aZ BI pk:=cc _ UP.1
def vp:aT×Int×I->Option Bool
 |(s,t,v)=>
 iF (s,t,I.eta v,true)>>=λr=>some r
theorem Tg:aZ agk vp:= .bk (.k T6 .n)
def vq:aT×Int×I->Option (I×Int)
 |(s,t,v)=>
 tR (s,t,I.eta v)>>=λr=>if !(r=0:Bool) then some ((⟨0,false,0,[],0,[],[],[]⟩:I),r)else pk (I.eta v)>>=λa=>vp (s,t,I.eta a)>>=λb=>if !b then some ((⟨0,false,0,[],0,[],[],[]⟩:I),12)else some (I.eta a,0)
theorem WQ:aZ af1 vq:= .bk (.k Tf (.k VU (.k Tg .n)))
def Dd:aT×Int×I×aT×Int->Option Int
 |(w,wt,v,r,rt)=>
 kF (w,wt)>>=λa=>if !(a=0:Bool) then some a else kF (r,rt)>>=λb=>if !(b=0:Bool) then some b else vp (w,wt,I.eta v)>>=λc=>if !c then some 1 else some 0
theorem WR:aZ agb Dd:= .bk (.k G5 (.k Tg .n))
def kz(path:ar):Option dK:=
 if room 8 ([]++path).length then some (⟨(⟨0,false,0,[],0,[],[],[]⟩:I),[]++path,false⟩:dK)else none
theorem Cm:aZ agz kz:= .bk
def nH(v:I):Option dK:=
 some (⟨I.eta v,[],true⟩:dK)
theorem Gv:aZ agC nH:= .bk
def q3:ar×Int->Option ar
 |(path,step)=>
 if room 8 ([]++path).length then some ([]++path)>>=λl=>some [step]>>=λt9=>if room 8 (l++t9).length then some (l++t9)else none else none
theorem zi:aZ agB q3:= .bk
def CD:I×I->Option Bool
 |(a,b)=>
 jI (I.eta a,I.eta b)>>=λr=>some r
theorem WS:aZ afU CD:= .bk (.k ye .n)
def vK:aS×I->Option Bool
 |(m,v)=>
 (if m.bV then CD (I.eta m.bB,I.eta v)else some false)>>=λr=>some (bif m.bV then r else false)
theorem Tm:aZ afl vK:= .bk (.k WS .n)
def n3:ar×Int×List ai×ai×I×ai×Int×Bool×Int×ak×Int×Bool×Int×Bool×Int×ak×Int×List I×List bX->Option ((dK) ⊕ (Int×Bool×Int×ak×Int×Bool×Int×Bool×Int×ak×Int×List I×List bX))
 |(u,i,e,c,b,f,g,j,k,l,m,n,o,p,q,r,s,t,d)=>
 if (i<(c.ah.length:Int):Bool) then if aH i c.ah.length then some (c.ah.getD i.toNat aB)>>=λa=>hE (f,a.ad)>>=λw=>if w.2 then n3 (u,aN .i64 i 1,e,c,I.eta b,f,g,j,k,l,m,n,o,p,q,r,s,t,d)else if a.cg then q3 (u,a.ad)>>=λx=>kz x>>=λv=>some (.inl (⟨I.eta v.Value,v.Path,v.ck⟩:dK))else if aH i b.aj.length then vK ((⟨a.ad,a.Name,a.aw,a.cg,a.bV,I.eta a.bB⟩:aS),I.eta (b.aj.getD i.toNat av))>>=λy=>if !y then if aH i b.aj.length then i' ((⟨e⟩:aT),a.aw,I.eta (b.aj.getD i.toNat av))>>=λz=>some [(⟨a.ad,z⟩:bX)]>>=λt170=>if room 24 (d++t170).length then n3 (u,aN .i64 i 1,e,c,I.eta b,f,g,j,k,l,m,n,o,p,q,r,s,t,d++t170)else none else none else n3 (u,aN .i64 i 1,e,c,I.eta b,f,g,j,k,l,m,n,o,p,q,r,s,t,d)else none else none else some (.inr (g,j,k,l,m,n,o,p,q,r,s,t,d))
  partial_fixpoint
theorem UA:cK 84 0 [1] R2 n3:= .rx n3.partial_correctness (.k mC (.k zi (.k Cm (.k Tm (.k Cl .n)))))
mutual
def mI(x:aT×Int×I×aT×Int×ar):Option dK:=
 match x with
 |(w,wt,v,r,rt,path)=>
 if aH wt w.Types.length then some (w.Types.getD wt.toNat aJ)>>=λc=>if aH rt r.Types.length then some (r.Types.getD rt.toNat aJ)>>=λe=>if !(c.Kind=e.Kind:Bool) then kz path>>=λt=>some (⟨I.eta t.Value,t.Path,t.ck⟩:dK)else if(bif (c.Kind=2:Bool)then bif (v.bd<e.bF:Bool)then true else (e.bH<v.bd:Bool)else false) then kz path>>=λM=>some (⟨I.eta M.Value,M.Path,M.ck⟩:dK)else if(bif (c.Kind=3:Bool)then (e.Max<(v.bl.length:Int):Bool)else false) then kz path>>=λq=>some (⟨I.eta q.Value,q.Path,q.ck⟩:dK)else if (c.Kind=4:Bool) then sY (e,v.ad)>>=λO=>if(bif (!O.2)then(!e.Open)else false) then kz path>>=λp=>some (⟨I.eta p.Value,p.Path,p.ck⟩:dK)else if(bif bif (c.Kind=7:Bool)then true else (c.Kind=8:Bool)then (e.Max<(v.aj.length:Int):Bool)else false) then kz path>>=λG=>some (⟨I.eta G.Value,G.Path,G.ck⟩:dK)else if (c.Kind=6:Bool) then zf (w,c,I.eta v,r,e,path)>>=λD=>some (⟨I.eta D.Value,D.Path,D.ck⟩:dK)else if (c.Kind=5:Bool) then x7 (w,c,I.eta v,r,e,path)>>=λA=>some (⟨I.eta A.Value,A.Path,A.ck⟩:dK)else n' (path,0,w.Types,I.eta v,r.Types,0,false,0,[],0,false,c,e,v.Kind,v.bN,v.bd,v.bl,v.ad,v.Rest,[])>>=λo=>match o with
 |.inl J=>
 some (⟨I.eta J.Value,J.Path,J.ck⟩:dK)
 |.inr a=>
 nz (a.1,0,a.2.1,I.eta a.2.2.1,a.2.2.2.1,a.2.2.2.2.1,a.2.2.2.2.2.1,a.2.2.2.2.2.2.1,a.2.2.2.2.2.2.2.1,a.2.2.2.2.2.2.2.2.1,a.2.2.2.2.2.2.2.2.2.1,a.2.2.2.2.2.2.2.2.2.2.1,a.2.2.2.2.2.2.2.2.2.2.2.1,a.2.2.2.2.2.2.2.2.2.2.2.2.1,a.2.2.2.2.2.2.2.2.2.2.2.2.2.1,a.2.2.2.2.2.2.2.2.2.2.2.2.2.2.1,a.2.2.2.2.2.2.2.2.2.2.2.2.2.2.2.1,a.2.2.2.2.2.2.2.2.2.2.2.2.2.2.2.2.1,a.2.2.2.2.2.2.2.2.2.2.2.2.2.2.2.2.2.1,a.2.2.2.2.2.2.2.2.2.2.2.2.2.2.2.2.2.2,[])>>=λbi=>match bi with
 |.inl K=>
 some (⟨I.eta K.Value,K.Path,K.ck⟩:dK)
 |.inr j=>
 nH (⟨j.2.2.2.2.2.2.1,j.2.2.2.2.2.2.2.1,j.2.2.2.2.2.2.2.2.1,j.2.2.2.2.2.2.2.2.2.1,j.2.2.2.2.2.2.2.2.2.2.1,j.2.2.2.2.2.2.2.2.2.2.2.2.1,j.2.2.2.2.2.2.2.2.2.2.2.2.2,j.2.2.2.2.2.2.2.2.2.2.2.1⟩:I)>>=λB=>some (⟨I.eta B.Value,B.Path,B.ck⟩:dK)else if(bif bif (c.Kind=7:Bool)then true else (c.Kind=8:Bool)then (e.Max<(v.aj.length:Int):Bool)else false) then kz path>>=λL=>some (⟨I.eta L.Value,L.Path,L.ck⟩:dK)else if (c.Kind=6:Bool) then zf (w,c,I.eta v,r,e,path)>>=λbv=>some (⟨I.eta bv.Value,bv.Path,bv.ck⟩:dK)else if (c.Kind=5:Bool) then x7 (w,c,I.eta v,r,e,path)>>=λbC=>some (⟨I.eta bC.Value,bC.Path,bC.ck⟩:dK)else n' (path,0,w.Types,I.eta v,r.Types,0,false,0,[],0,false,c,e,v.Kind,v.bN,v.bd,v.bl,v.ad,v.Rest,[])>>=λg4=>match g4 with
 |.inl bq=>
 some (⟨I.eta bq.Value,bq.Path,bq.ck⟩:dK)
 |.inr f=>
 nz (f.1,0,f.2.1,I.eta f.2.2.1,f.2.2.2.1,f.2.2.2.2.1,f.2.2.2.2.2.1,f.2.2.2.2.2.2.1,f.2.2.2.2.2.2.2.1,f.2.2.2.2.2.2.2.2.1,f.2.2.2.2.2.2.2.2.2.1,f.2.2.2.2.2.2.2.2.2.2.1,f.2.2.2.2.2.2.2.2.2.2.2.1,f.2.2.2.2.2.2.2.2.2.2.2.2.1,f.2.2.2.2.2.2.2.2.2.2.2.2.2.1,f.2.2.2.2.2.2.2.2.2.2.2.2.2.2.1,f.2.2.2.2.2.2.2.2.2.2.2.2.2.2.2.1,f.2.2.2.2.2.2.2.2.2.2.2.2.2.2.2.2.1,f.2.2.2.2.2.2.2.2.2.2.2.2.2.2.2.2.2.1,f.2.2.2.2.2.2.2.2.2.2.2.2.2.2.2.2.2.2,[])>>=λg5=>match g5 with
 |.inl be=>
 some (⟨I.eta be.Value,be.Path,be.ck⟩:dK)
 |.inr F=>
 nH (⟨F.2.2.2.2.2.2.1,F.2.2.2.2.2.2.2.1,F.2.2.2.2.2.2.2.2.1,F.2.2.2.2.2.2.2.2.2.1,F.2.2.2.2.2.2.2.2.2.2.1,F.2.2.2.2.2.2.2.2.2.2.2.2.1,F.2.2.2.2.2.2.2.2.2.2.2.2.2,F.2.2.2.2.2.2.2.2.2.2.2.1⟩:I)>>=λbR=>some (⟨I.eta bR.Value,bR.Path,bR.ck⟩:dK)else none else none
  partial_fixpoint
def x7(x:aT×ai×I×aT×ai×ar):Option dK:=
 match x with
 |(w,c,v,r,y,path)=>
 pf (path,0,w.Types,c,I.eta v,r.Types,y,0,false,0,[],0,false,v.Kind,false,0,[],0,[])>>=λo=>match o with
 |.inl J=>
 some (⟨I.eta J.Value,J.Path,J.ck⟩:dK)
 |.inr a=>
 n3 (a.1,0,a.2.1,a.2.2.1,I.eta a.2.2.2.1,a.2.2.2.2.1,a.2.2.2.2.2.1,a.2.2.2.2.2.2.1,a.2.2.2.2.2.2.2.1,a.2.2.2.2.2.2.2.2.1,a.2.2.2.2.2.2.2.2.2.1,a.2.2.2.2.2.2.2.2.2.2.1,a.2.2.2.2.2.2.2.2.2.2.2.1,a.2.2.2.2.2.2.2.2.2.2.2.2.1,a.2.2.2.2.2.2.2.2.2.2.2.2.2.1,a.2.2.2.2.2.2.2.2.2.2.2.2.2.2.1,a.2.2.2.2.2.2.2.2.2.2.2.2.2.2.2.1,a.2.2.2.2.2.2.2.2.2.2.2.2.2.2.2.2,[])>>=λbi=>match bi with
 |.inl K=>
 some (⟨I.eta K.Value,K.Path,K.ck⟩:dK)
 |.inr j=>
 nH (⟨j.2.2.2.2.2.2.1,j.2.2.2.2.2.2.2.1,j.2.2.2.2.2.2.2.2.1,j.2.2.2.2.2.2.2.2.2.1,j.2.2.2.2.2.2.2.2.2.2.1,[],j.2.2.2.2.2.2.2.2.2.2.2.1,j.2.2.2.2.2.2.2.2.2.2.2.2⟩:I)>>=λt=>some (⟨I.eta t.Value,t.Path,t.ck⟩:dK)
  partial_fixpoint
def zf:aT×ai×I×aT×ai×ar->Option dK
 |(w,c,v,r,y,path)=>
 hE (c,v.ad)>>=λt=>hE (y,v.ad)>>=λO=>if(bif (!O.2)then(!y.Open)else false) then kz path>>=λp=>some (⟨I.eta p.Value,p.Path,p.ck⟩:dK)else if !O.2 then if aH t.1 c.ah.length then if aH 0 v.aj.length then i' (w,(c.ah.getD t.1.toNat aB).aw,I.eta (v.aj.getD (0:Int).toNat av))>>=λG=>nH (⟨v.Kind,false,0,[],v.ad,[],[],[(⟨v.ad,G⟩:bX)]⟩:I)>>=λD=>some (⟨I.eta D.Value,D.Path,D.ck⟩:dK)else none else none else if aH t.1 c.ah.length then if aH 0 v.aj.length then if aH O.1 y.ah.length then q3 (path,v.ad)>>=λA=>mI (w,(c.ah.getD t.1.toNat aB).aw,I.eta (v.aj.getD (0:Int).toNat av),r,(y.ah.getD O.1.toNat aB).aw,A)>>=λB=>if !B.ck then some (⟨I.eta B.Value,B.Path,B.ck⟩:dK)else nH (⟨v.Kind,false,0,[],v.ad,[],[I.eta B.Value],[]⟩:I)>>=λL=>some (⟨I.eta L.Value,L.Path,L.ck⟩:dK)else none else none else none
  partial_fixpoint
def n':ar×Int×List ai×I×List ai×Int×Bool×Int×ak×Int×Bool×ai×ai×Int×Bool×Int×ak×Int×List bX×List I->Option ((dK) ⊕ (ar×List ai×I×List ai×Int×Bool×Int×ak×Int×Bool×ai×ai×Int×Bool×Int×ak×Int×List bX×List I))
 |(bs,i,a4,R,a5,b4,ce,ci,cs,cz,cQ,a9,bb,c9,dh,dt,eq,es,ex,bc)=>
 if (i<(R.ay.length:Int):Bool) then if aH i R.ay.length then q3 (bs,i)>>=λg6=>mI ((⟨a4⟩:aT),a9.Key,I.eta (R.ay.getD i.toNat av),(⟨a5⟩:aT),bb.Key,g6)>>=λU=>if !U.ck then some (.inl (⟨I.eta U.Value,U.Path,U.ck⟩:dK))else some [I.eta U.Value]>>=λt161=>if room 120 (bc++t161).length then n' (bs,aN .i64 i 1,a4,I.eta R,a5,b4,ce,ci,cs,cz,cQ,a9,bb,c9,dh,dt,eq,es,ex,bc++t161)else none else none else some (.inr (bs,a4,I.eta R,a5,b4,ce,ci,cs,cz,cQ,a9,bb,c9,dh,dt,eq,es,ex,bc))
  partial_fixpoint
def nz:ar×Int×List ai×I×List ai×Int×Bool×Int×ak×Int×Bool×ai×ai×Int×Bool×Int×ak×Int×List bX×List I×List I->Option ((dK) ⊕ (Int×Bool×Int×ak×Int×Bool×Int×Bool×Int×ak×Int×List bX×List I×List I))
 |(g3,S,fd,Y,ff,fo,fs,gc,gd,ge,gl,gs,gt,g0,g1,g2,b0,b1,b2,b3,af)=>
 if (S<(Y.aj.length:Int):Bool) then if aH S Y.aj.length then q3 (g3,S)>>=λg7=>mI ((⟨fd⟩:aT),gs.aF,I.eta (Y.aj.getD S.toNat av),(⟨ff⟩:aT),gt.aF,g7)>>=λW=>if !W.ck then some (.inl (⟨I.eta W.Value,W.Path,W.ck⟩:dK))else some [I.eta W.Value]>>=λt194=>if room 120 (af++t194).length then nz (g3,aN .i64 S 1,fd,I.eta Y,ff,fo,fs,gc,gd,ge,gl,gs,gt,g0,g1,g2,b0,b1,b2,b3,af++t194)else none else none else some (.inr (fo,fs,gc,gd,ge,gl,g0,g1,g2,b0,b1,b2,b3,af))
  partial_fixpoint
def pf:ar×Int×List ai×ai×I×List ai×ai×Int×Bool×Int×ak×Int×Bool×Int×Bool×Int×ak×Int×List I->Option ((dK) ⊕ (ar×List ai×ai×I×ai×Int×Bool×Int×ak×Int×Bool×Int×Bool×Int×ak×Int×List I))
 |(Z,k,X,E,H,ag,N,am,an,ap,ax,aC,aE,aK,a0,a1,a2,a3,Q)=>
 if (k<(N.ah.length:Int):Bool) then if aH k N.ah.length then some (N.ah.getD k.toNat aB)>>=λe=>q3 (Z,e.ad)>>=λM=>hE (E,e.ad)>>=λq=>if(bif (!q.2)then(!e.bV)else false) then kz M>>=λbS=>some (.inl (⟨I.eta bS.Value,bS.Path,bS.ck⟩:dK))else if !q.2 then some [I.eta e.bB]>>=λt65=>if room 120 (Q++t65).length then pf (Z,aN .i64 k 1,X,E,I.eta H,ag,N,am,an,ap,ax,aC,aE,aK,a0,a1,a2,a3,Q++t65)else none else if aH q.1 E.ah.length then if aH q.1 H.aj.length then mI ((⟨X⟩:aT),(E.ah.getD q.1.toNat aB).aw,I.eta (H.aj.getD q.1.toNat av),(⟨ag⟩:aT),e.aw,M)>>=λp=>if aH q.1 E.ah.length then some (E.ah.getD q.1.toNat aB)>>=λP=>if aH q.1 H.aj.length then vK ((⟨P.ad,P.Name,P.aw,P.cg,P.bV,I.eta P.bB⟩:aS),I.eta (H.aj.getD q.1.toNat av))>>=λG=>some (!p.ck)>>=λt99=>(if(G&&(!t99)) then vK ((⟨e.ad,e.Name,e.aw,e.cg,e.bV,I.eta e.bB⟩:aS),I.eta p.Value)else some false)>>=λD=>if(bif G then bif t99 then true else(!D)else false) then kz M>>=λA=>some (.inl (⟨I.eta A.Value,A.Path,A.ck⟩:dK))else if !p.ck then some (.inl (⟨I.eta p.Value,p.Path,p.ck⟩:dK))else some [I.eta p.Value]>>=λt118=>if room 120 (Q++t118).length then pf (Z,aN .i64 k 1,X,E,I.eta H,ag,N,am,an,ap,ax,aC,aE,aK,a0,a1,a2,a3,Q++t118)else none else none else none else none else none else none else some (.inr (Z,X,E,I.eta H,N,am,an,ap,ax,aC,aE,aK,a0,a1,a2,a3,Q))
  partial_fixpoint
end
theorem VP:ec sK mI/\eD 47 0 [1] xK nz/\eD 47 0 [0] xJ n'/\ec Ft x7/\eD 84 0 [0] xQ pf/\ec Fs zf:=mI.mutual_partial_correctness (d' sK) (eC 47 0 [1] xK) (eC 47 0 [0] xJ) (d' Ft) (eC 84 0 [0] xQ) (d' Fs)
 (λ_ _ _ _ h1 a c bc _ _ h=>eh h (.k Cm (.k Cn (.k (cc Fs bc) (.k (cc Ft c) (.k Gv .n))))) (.k (eO xJ a) (.k (eO xK h1) .n)))
 (λ_ _ h0 h1 _ _ h=>eN xK h1 h (.k zi (.k (cc sK h0) .n)))
 (λ_ _ h0 a _ _ h=>eN xJ a h (.k zi (.k (cc sK h0) .n)))
 (λ_ b _ _ h=>eh h (.k Gv .n) (.k (eO xQ b) (.k UA .n)))
 (λ_ _ h0 b _ _ h=>eN xQ b h (.k zi (.k mC (.k Cm (.k (cc sK h0) (.k Tm .n))))))
 (λ_ h0 _ _ h=>eh h (.k mC (.k Cm (.k Cl (.k Gv (.k zi (.k (cc sK h0) .n)))))))
theorem Wd:aZ sK mI:=cc _ VP.1
def yq:aT×Int×I×aT×Int->Option (I×Int)
 |(w,wt,v,r,rt)=>
 Dd (w,wt,I.eta v,r,rt)>>=λa=>if !(a=0:Bool) then some ((⟨0,false,0,[],0,[],[],[]⟩:I),a)else mI (w,wt,I.eta v,r,rt,[])>>=λb=>if !b.ck then some ((⟨0,false,0,[],0,[],[],[]⟩:I),12)else some (I.eta b.Value,0)
theorem Wa:aZ afN yq:= .bk (.k WR (.k Wd .n))
mutual
def mE:aT×Int×I->Option Int
 |(s,t,v)=>
 if aH t s.Types.length then hV (0,0,s.Types,I.eta v,s.Types.getD t.toNat aJ)>>=λo=>if (0<(o.2.ay.length:Int):Bool) then some (aN .i64 1 (iq o.1 1))else some (aN .i64 1 o.1)else none
  partial_fixpoint
def hV:Int×Int×List ai×I×ai->Option (Int×I)
 |(f,i,e,a,c)=>
 if (i<(a.aj.length:Int):Bool) then if (c.Kind=5:Bool) then if aH i c.ah.length then some (c.ah.getD i.toNat aB)>>=λj=>if(aH i a.aj.length||(!j.bV)) then (if j.bV then jI (I.eta (a.aj.getD i.toNat av),I.eta j.bB)else some false)>>=λr=>if(bif j.bV then r else false) then hV (f,aN .i64 i 1,e,I.eta a,c)else if (c.Kind=6:Bool) then hE (c,a.ad)>>=λq=>if aH q.1 c.ah.length then if aH i a.aj.length then mE ((⟨e⟩:aT),(c.ah.getD q.1.toNat aB).aw,I.eta (a.aj.getD i.toNat av))>>=λy=>hV (iq f y,aN .i64 i 1,e,I.eta a,c)else none else none else if aH i a.aj.length then mE ((⟨e⟩:aT),j.aw,I.eta (a.aj.getD i.toNat av))>>=λA=>hV (iq f A,aN .i64 i 1,e,I.eta a,c)else none else none else none else if (c.Kind=6:Bool) then hE (c,a.ad)>>=λw=>if aH w.1 c.ah.length then if aH i a.aj.length then mE ((⟨e⟩:aT),(c.ah.getD w.1.toNat aB).aw,I.eta (a.aj.getD i.toNat av))>>=λB=>hV (iq f B,aN .i64 i 1,e,I.eta a,c)else none else none else if aH i a.aj.length then mE ((⟨e⟩:aT),c.aF,I.eta (a.aj.getD i.toNat av))>>=λx=>hV (iq f x,aN .i64 i 1,e,I.eta a,c)else none else some (f,I.eta a)
  partial_fixpoint
end
theorem VV:ec BG mE/\eD 45 0 [0] xI hV:=mE.mutual_partial_correctness (d' BG) (eC 45 0 [0] xI)
 (λ_ h1 _ _ h=>eh h .n (.k (eO xI h1) .n))
 (λ_ _ h0 h1 _ _ h=>eN xI h1 h (.k ye (.k mC (.k (cc BG h0) .n))))
theorem Vm:aZ BG mE:=cc _ VV.1
def rG:aT×Int×I->Option (ak×Int)
 |(s,t,v)=>
 tR (s,t,I.eta v)>>=λr=>if !(r=0:Bool) then some ([],r)else i' (s,t,I.eta v)>>=λa=>some (decide (4096<(a.length:Int)))>>=λt23=>(if !t23 then mE (s,t,I.eta v)else some 0)>>=λb=>if(bif t23 then true else (200<b:Bool)) then some ([],3)else some (a,0)
theorem Vn:aZ afC rG:= .bk (.k Tf (.k Cl (.k Vm .n)))
def nA:cY×cY×ak->Option (kD×Int)
 |(w,r,m)=>
 yc (w,r)>>=λf=>if !(f=0:Bool) then some ((⟨(⟨0,false,0,[],0,[],[],[]⟩:I),(⟨0,false,0,[],0,[],[],[]⟩:I),[]⟩:kD),f)else s3 (w.cW,w.aw,m)>>=λa=>if !(a.2=0:Bool) then some ((⟨(⟨0,false,0,[],0,[],[],[]⟩:I),(⟨0,false,0,[],0,[],[],[]⟩:I),[]⟩:kD),a.2)else vq (w.cW,w.aw,I.eta a.1)>>=λe=>if !(e.2=0:Bool) then some ((⟨(⟨0,false,0,[],0,[],[],[]⟩:I),(⟨0,false,0,[],0,[],[],[]⟩:I),[]⟩:kD),e.2)else yq (w.cW,w.aw,I.eta e.1,r.cW,r.aw)>>=λg=>if !(g.2=0:Bool) then some ((⟨(⟨0,false,0,[],0,[],[],[]⟩:I),(⟨0,false,0,[],0,[],[],[]⟩:I),[]⟩:kD),g.2)else rG (w.cW,w.aw,I.eta a.1)>>=λc=>if !(c.2=0:Bool) then some ((⟨(⟨0,false,0,[],0,[],[],[]⟩:I),(⟨0,false,0,[],0,[],[],[]⟩:I),[]⟩:kD),c.2)else s3 (r.cW,r.aw,c.1)>>=λb=>if !(b.2=0:Bool) then some ((⟨(⟨0,false,0,[],0,[],[],[]⟩:I),(⟨0,false,0,[],0,[],[],[]⟩:I),[]⟩:kD),b.2)else rG (r.cW,r.aw,I.eta b.1)>>=λd=>if !(d.2=0:Bool) then some ((⟨(⟨0,false,0,[],0,[],[],[]⟩:I),(⟨0,false,0,[],0,[],[],[]⟩:I),[]⟩:kD),d.2)else some ((⟨I.eta a.1,I.eta b.1,d.1⟩:kD),0)
theorem Vt:aZ af' nA:= .bk (.k Td (.k VM (.k WQ (.k Wa (.k Vn .n)))))
def C6:cY×cY×ak->Option (ak×Int)
 |(w,r,m)=>
 nA (w,r,m)>>=λa=>some (a.1.Message,a.2)
theorem Vu:aZ afu C6:= .bk (.k Vt .n)
end
section
open Go Go.Proofs.YtdjagncoefjfeaaGreat.Shv
open Tryz
set_option maxRecDepth 100000
def q4:Int×Int×List ak×cY×cY×List ak->Option ((Int×Int×List ak) ⊕ (List ak×List ak))
 |(f,t24,a,d,e,b)=>
 if (t24<f:Bool) then if aH t24 a.length then if (t24.toNat<a.length:Bool) then mK (d,e,a.getD t24.toNat [])>>=λc=>if !(c.2=0:Bool) then some (.inl (t24,c.2,a))else some [c.1.message]>>=λt43=>if room 16 (b++t43).length then q4 (f,aN .i64 t24 1,a,d,e,b++t43)else none else none else none else some (.inr (a,b))
  partial_fixpoint
theorem Xk:cK 29 1 [0] RI q4:= .rx q4.partial_correctness (.k XI .n)
def DP(e:cY×cY×List ak):Option (List ak×Int×Int×List ak):=
 match e with
 |(w,r,b)=>
 y2 [w,r]>>=λd=>if !(d=0:Bool) then some ([],0,d,b)else q4 ((b.length:Int),0,b,w,r,[])>>=λo=>match o with
 |.inl a=>
 some ([],a.1,a.2.1,a.2.2)
 |.inr c=>
 some (c.2,(c.1.length:Int),0,c.1)
theorem X2:aZ af3 DP:= .bk (.k Xt .n) (.k Xk .n)
def rH:Int×List ak×cY×cY×List ak->Option ((Int×Int×List ak) ⊕ (List ak×List ak))
 |(i,a,d,e,b)=>
 if (i<(a.length:Int):Bool) then if aH i a.length then if (i.toNat<a.length:Bool) then C6 (d,e,a.getD i.toNat [])>>=λc=>if !(c.2=0:Bool) then some (.inl (i,c.2,a))else some [c.1]>>=λt42=>if room 16 (b++t42).length then rH (aN .i64 i 1,a,d,e,b++t42)else none else none else none else some (.inr (a,b))
  partial_fixpoint
theorem Vo:cK 31 1 [0] RJ rH:= .rx rH.partial_correctness (.k Vu .n)
def CK(e:cY×cY×List ak):Option (List ak×Int×Int×List ak):=
 match e with
 |(w,r,b)=>
 yc (w,r)>>=λd=>if !(d=0:Bool) then some ([],0,d,b)else rH (0,b,w,r,[])>>=λo=>match o with
 |.inl a=>
 some ([],a.1,a.2.1,a.2.2)
 |.inr c=>
 some (c.2,(c.1.length:Int),0,c.1)
theorem XL:aZ af4 CK:= .bk (.k Td .n) (.k Vo .n)
def qJ:List ak×List ak×Int×Int->Option ((Bool) ⊕ (Unit))
 |(a,b,c,t13)=>
 if (t13<c:Bool) then if aH t13 a.length then if aH t13 b.length then if !(a.getD t13.toNat []=b.getD t13.toNat []:Bool) then some (.inl false)else qJ (a,b,c,aN .i64 t13 1)else none else none else some (.inr ())
  partial_fixpoint
theorem U3:cK 32 0 [0] RK qJ:= .rx qJ.partial_correctness
def Ct(c:List ak×List ak):Option Bool:=
 match c with
 |(s1,a)=>
 if !((s1.length:Int)=(a.length:Int):Bool) then some false else qJ (s1,a,(s1.length:Int),0)>>=λo=>match o with
 |.inl b=>
 some b
 |.inr d=>
 some true
theorem U7:aZ af5 Ct:= .bk .n (.k U3 .n)
def nW:List ak×Int×Int×cY×cY×List ak->Option ((Bool) ⊕ (cY×cY×List ak))
 |(t39,d,t41,b,c,a)=>
 if (t41<d:Bool) then if aH t41 t39.length then some (t39.getD t41.toNat [])>>=λe=>if (400<(e.length:Int):Bool) then some (.inl true)else some [e]>>=λt50=>if room 16 (a++t50).length then nW (t39,d,aN .i64 t41 1,b,c,a++t50)else none else none else some (.inr (b,c,a))
  partial_fixpoint
theorem U8:cK 8 0 [0] R3 nW:= .rx nW.partial_correctness
def AB(k:nI×List ak):Option Bool:=
 match k with
 |(c,l)=>
 yV c>>=λr=>ya ()>>=λi=>if(bif bif (!i)then true else(!r.2.2.2)then true else (4<(l.length:Int):Bool)) then ya ()>>=λj=>some j else nW (l,(l.length:Int),0,r.1,r.2.1,[r.2.2.1])>>=λo=>match o with
 |.inl f=>
 some f
 |.inr a=>
 oj 16 a.2.2>>=λb=>if((b.1.length=a.2.2.length:Bool)&&true) then DP (a.1,a.2.1,b.2)>>=λd=>if((d.2.2.2.length=b.2.length:Bool)&&true) then CK (a.1,a.2.1,b.1)>>=λe=>if((e.2.2.2.length=b.1.length:Bool)&&true) then some (bif decide (d.2.1=e.2.1)then decide (d.2.2.1=e.2.2.1)else false)>>=λt77=>(if t77 then Ct (d.1,e.1)else some false)>>=λg=>some (bif t77 then g else false)else none else none else none
theorem aeG:aZ e8 AB:= .bk (.k W9 (.k WA (.k Wn (.k X2 (.k XL (.k U7 .n)))))) (.k U8 .n)
end
section
open Go Go.Proofs.YtdjagncoefjfeaaGreat.Shv
set_option maxRecDepth 100000
def hz(s:ak):Nat->Nat->Nat->Int×Int×Int
 |0,_,_=>(0,0,10)
 |f+1,i,n=>
  if i<s.length then if i=9/\1<(s.getD i 0).toNat then(0,0,7)else if 128<=(s.getD i 0).toNat then hz s f (i+1) (n+((s.getD i 0).toNat%128)*2^(7*i))else if(s.getD i 0).toNat=0/\0<i then(0,0,2)else(((n+(s.getD i 0).toNat*2^(7*i):Nat):Int),((i+1:Nat):Int),0)else(0,0,10)
theorem SG{i:Nat}(h:i<=9):2^(7*i)<=9223372036854775808:=by
 have:2^(7*i)<=2^63:=wH (by omega) (by omega);omega
theorem SH(i:Nat):2^(7*(i+1))=2^(7*i)*128:=by rw[Nat.mul_add,Nat.pow_add]
theorem Gq{n i b:Nat}(aG:n<2^(7*i)):n+(b%128)*2^(7*i)<2^(7*(i+1)):=by
 rw[SH];have:b%128*2^(7*i)<=127*2^(7*i):=eY _ (by omega);omega
theorem xY{n i b:Nat}(d:i<=9)(aG:n<2^(7*i))(c:b<128)(a:i=9->b<=1):b*2^(7*i)<18446744073709551616/\n+b*2^(7*i)<18446744073709551616:=by
 rcases Nat.lt_or_ge i 9 with h|h
 . have:2^(7*i)<=2^56:=wH (by omega) (by omega);have e:(2:Nat)^56=72057594037927936:=(by decide);have:b*2^(7*i)<=127*2^(7*i):=eY _ (by omega);omega
 grind
theorem PY(s:ak):∀(f i n:Nat),i+f=10->n<2^(7*i)->∃o,tp (s,(n:Int),((min 10 s.length:Nat):Int),(i:Int))=some o/\(match o with|.inl x=>x|.inr _=>(0,0,10))=hz s f i n
 |0,i,n,h,aG=>by
  refine⟨.inr (),?_,rfl⟩;rw[tp];grind
 |f+1,i,n,h,aG=>by
  rw[tp];simp only[hz,aU,ao,re];by_cases d:i<s.length
  . have e:=zZ s i;generalize (s.getD i 0).toNat=b at e⊢;rw[bA,ae (aP d),ae d];have l:gB .i64 7 (i:Int)=((7*i:Nat):Int):=by rw[Pr (by omega) (by omega)];norm_cast
    rw[l];have j:decide ((0:Int)<=((7*i:Nat):Int))=true:=by simp;omega
    by_cases c:i=9/\1<b
    . rw[ae c,ae (by obtain⟨h1,m⟩:=c;subst h1;simp;omega)];grind
    . rw[al c,al (by grind)];by_cases g:128<=b
      . rw[ae g,bA,ae j];have k:i=9->False:=λh1=>c ⟨h1,by omega⟩;have aC:b%128<128:=yI _ (by omega);have a:=xY (i:=i) (n:=n) (b:=b%128) (by omega) aG aC (λh1=>(k h1).elim);rw[acB e,hA,Mo (by omega) a.1,Ov (by have:=SG (i:=i) (by omega);omega) a.1,Pq aG,bE];exact PY s f (i+1) (n+b%128*2^(7*i)) (by omega) (Gq aG)
      . rw[al g,ch];by_cases h0:b=0/\0<i
        . simp_all
        . rw[al h0,al (by grind),ae j];have a:=xY (i:=i) (n:=n) (b:=b) (by omega) aG (by omega) (λh1=>by omega);rw[hA,Mo (by omega) a.1,Ov (by have:=SG (i:=i) (by omega);omega) a.1,Pq aG,bE];grind
  . rw[ch,al d];grind
theorem PZ(s:ak):Dj s=some (hz s 10 0 0):=by
 obtain⟨o,h1,a⟩:=PY s 10 0 0 rfl (by decide);rw[Dj];have:jf 10 (s.length:Int)=((min 10 s.length:Nat):Int):=H' 10 s.length;grind
theorem Lq(s:ak):∀(f i n:Nat),i<=s.length->i+f=10->n<2^(7*i)->∃o,s0 (s,(n:Int),(if i<10 then((2^(7*i):Nat):Int)else gB .u64 ((2^(7*9):Nat):Int) 128),(i:Int))=some o/\(i<10->(match o with|.inl x=>x|.inr _=>(0,0,7))=hz s f i n)
 |0,i,n,p,h,aG=>by
  refine⟨.inr (),?_,λr=>by omega⟩;rw[s0];grind
 |f+1,i,n,p,h,aG=>by
  rw[s0];simp only[hz,aU,ao,re];rw[ae (show decide ((i:Int)<10)=true by simp;omega),ae (show i<10 by omega)];by_cases e:i<s.length
  . have m:=zZ s i;generalize (s.getD i 0).toNat=b at m⊢;rw[ch,ae (aP e),ae e,hA];by_cases d:i=9/\1<b
    . rw[ae d,ae (by obtain⟨h1,k⟩:=d;subst h1;simp;omega)];grind
    . rw[al d,al (by grind)];have j:b6 (b:Int) 128=((b%128:Nat):Int):=AK (b:=128);have aC:b%128<128:=yI _ (by omega);by_cases g:128<=b
      . rw[ae g,ch];have l:i=9->False:=λh1=>d ⟨h1,by omega⟩;have c:=xY (i:=i) (n:=n) (b:=b%128) (by omega) aG aC (λh1=>(l h1).elim);rw[j,uo c.1,su c.2,bE];obtain⟨o,h1,k⟩:=Lq s f (i+1) (n+b%128*2^(7*i)) (by omega) (by omega) (Gq aG);have t:gB .u64 ((2^(7*i):Nat):Int) 128=((2^(7*(i+1)):Nat):Int):=by
         have:=uo (a:=2^(7*i)) (b:=128) (by
          have:2^(7*i)<=2^56:=wH (by omega) (by omega)
          omega)
         grind
        grind
      . rw[al g,bA];have q:b%128=b:=ow (by omega);have c:=xY (i:=i) (n:=n) (b:=b) (by omega) aG (by omega) (λh1=>by omega);by_cases h0:b=0/\0<i
        . simp_all
        . rw[al h0,al (by grind)];rw[j,q,uo c.1,su c.2,bE];grind
  . rw[bA,al e];grind
theorem IH(s:ak):vw s=some (hz s 10 0 0):=by
 obtain⟨o,h1,a⟩:=Lq s 10 0 0 (by omega) rfl (by decide);rw[vw];grind
theorem Mw(s:ak):∀(f i n:Nat),i<=s.length->i+f=10->n<2^(7*i)->(∃e:Int,e≠0/\hz s f i n=(0,0,e))\/∃m k:Nat,hz s f i n=((m:Int),(k:Int),0)/\i<k/\k<=s.length/\m<18446744073709551616
 |0,i,n,l,h,aG=>.inl ⟨10,by decide,rfl⟩
 |f+1,i,n,l,h,aG=>by
  simp only[hz];have g:=zZ s i;generalize (s.getD i 0).toNat=b at g⊢;by_cases c:i<s.length
  . rw[ae c];by_cases d:i=9/\1<b
    . simp_all
    . rw[al d];by_cases a:128<=b
      . rw[ae a];rcases Mw s f (i+1) (n+b%128*2^(7*i)) (by omega) (by omega) (Gq aG)with h|⟨m,k,h1,o,p,q⟩
        . exact .inl h
        grind
      . rw[al a];by_cases h0:b=0/\0<i
        . simp_all
        . rw[al h0];have j:=xY (i:=i) (n:=n) (b:=b) (by omega) aG (by omega) (λh1=>by omega);exact .inr ⟨_,i+1,rfl,by omega,by omega,j.2⟩
  . rw[al c];exact .inl ⟨10,by decide,rfl⟩
theorem lI(s:ak):(∃e:Int,e≠0/\hz s 10 0 0=(0,0,e))\/∃m k:Nat,hz s 10 0 0=((m:Int),(k:Int),0)/\0<k/\k<=s.length/\m<18446744073709551616:=
 Mw s 10 0 0 (by omega) rfl (by decide)
theorem oa{s:ak}{e:Int}(he:e≠0)(h:hz s 10 0 0=(0,0,e)):q8 s=some (0,[],false):=by
 rw[q8,PZ,h];grind
theorem l4{s:ak}{m k:Nat}(h:hz s 10 0 0=((m:Int),(k:Int),0))(a:k<=s.length):q8 s=some ((m:Int),s.drop k,true):=by
 rw[q8,PZ,h];simp only[aU,ao];rw[bz,ae (jM a (dV _)),nV]
def dS:Option (ak×ak)->ak×ak×Bool
 |none=>([],[],false)
 |some (a,b)=>(a,b,true)
def iA(s:ak):Option (ak×ak):=
 match hz s 10 0 0 with
 |(m,k,e)=>if e=0/\m.toNat+k.toNat<=s.length then some ((s.drop k.toNat).take m.toNat,(s.drop k.toNat).drop m.toNat)else none
theorem nS{s a b:ak}(h:iA s=some (a,b)):a.length+b.length<s.length:=by
 unfold iA at h;rcases lI s with⟨e,he,c⟩|⟨m,k,c,f,d,g⟩
 . grind
 grind
theorem l5{s:ak}(hs:s.length<=1000000:=by omega):za s=some (dS (iA s)):=by
 rw[za];unfold iA;rcases lI s with⟨e,he,b⟩|⟨m,k,b,f,d,g⟩
 . rw[oa he b,b];simp[he,dS]
 . rw[l4 b d,b];simp only[aU,ao,ou,rV,mb];rw[hA];by_cases c:m+k<=s.length
   . rw[ch,ae (show dY 0 (m:Int) (s.length-k)=true from jM (a:=0) (by omega) (by omega)),ae (jM (by omega) (dV _)),ae c];have:((s.length-k:Nat):Int)=((s.drop k).length:Int):=by simp
     rw[this,nV,tF];rfl
   . rw[bA,al c];rfl
theorem P0{s:ak}(hs:s.length<=1000000):yS s=some (dS (iA s)):=by
 rw[yS,IH];unfold iA;rcases lI s with⟨e,he,a⟩|⟨m,k,a,g,f,i⟩
 . rw[a];simp[he,dS]
 . rw[a];simp only[aU,ao,ou,rV];have c:dq .i64 (s.length:Int) (k:Int)=((s.length-k:Nat):Int):=by rw[hK];omega
   rw[c,hA];by_cases b:m+k<=s.length
   . rw[ch,ae b];have d:bU .i64 (m:Int)=(m:Int):=jD;rw[d,wc (by omega),ae (jM (by omega) (by omega)),ae (jM (by omega) (dV _)),nV];have:ej s (k:Int) ((k+m:Nat):Int)=(s.drop k).take m:=by
      unfold ej;rw[ou,ou,List.drop_take];grind
     rw[this,yF];rfl
   . rw[bA,al b];rfl
theorem Ia:∀(n:Nat) (s:ak) (b:List ak),s.length<=n->s.length+b.length<=100000->∃o,hG (s,b)=some o/\∀l,o= .inr l->l.length<=s.length+b.length:=by
 intro n;induction n with
 |zero=>
  intro s b h1 a;have:s=[]:=jx (by omega);subst this;refine⟨.inr b,?_,λl af=>by cases af;omega⟩;rw[hG];rw[bz]
 |succ n ih=>
  intro s b h1 a;rw[hG,l5];simp only[aU,ao];by_cases hs:s=[]
  . grind
  . have d:(!(decide (s=[])))=true:=(by simp[hs]);rw[ae d];cases f:iA s with
    |none=>exact⟨.inl 12,rfl,λl af=>by cases af⟩
    |some p=>
     obtain⟨x,y⟩:=p;have af:=nS f;have ag:room 16 (b++[(dS (some (x,y))).1]).length=true:=cN;have aG:¬((!(dS (some (x,y))).2.2)=true):=(by simp[dS]);rw[al aG,ae ag];obtain⟨o,c,bc⟩:=ih y (b++[x]) (by omega) (by simp;omega);exact⟨o,c,λl e=>by have:=bc l e;simp at this;omega⟩
theorem acG{s:ak}(h:s.length<=90000):∃o,ll s=some o/\o.1.length<=s.length:=by
 obtain⟨o,h1,a⟩:=Ia s.length s [] (dV _) (by simp;omega);rw[ll,h1];cases o with
 |inl e=>exact⟨_,rfl,by simp⟩
 |inr l=>exact⟨_,rfl,by have:=a l rfl;simpa using this⟩
theorem ac1:∀(n:Nat) (s:ak) (b:List ak),s.length<=n->s.length+b.length<=100000->sR (s,b)=hG (s,b):=by
 intro n;induction n with
 |zero=>
  intro s b h1 c;have:s=[]:=jx (by omega);subst this;rw[hG,sR,bz,bz]
 |succ n ih=>
  intro s b h1 c;rw[hG,sR,l5,P0 (by omega)];simp only[aU,ao];by_cases hs:s=[]
  . grind
  . have a:(!(decide (s=[])))=true:=(by simp[hs]);rw[ae a,ae a];cases d:iA s with
    |none=>rfl
    |some p=>
     obtain⟨x,y⟩:=p;have af:=nS d;have ag:room 16 (b++[(dS (some (x,y))).1]).length=true:=cN;have aG:¬((!(dS (some (x,y))).2.2)=true):=(by simp[dS]);rw[al aG,ae ag,al aG,ae ag];exact ih y (b++[x]) (by omega) (by simp;omega)
theorem acH{s:ak}(h:s.length<=90000):vo s=ll s:=by
 rw[ll,vo,ac1 s.length s [] (dV _) (by simp;omega)]<;>rfl
theorem Lr:∀(n:Nat) (s:ak) (last:Nat) (b:List cS),s.length<=n->s.length+b.length<=100000->∃o,gb ((last:Int),s,b)=some o/\∀l,o= .inr l->l.length<=s.length+b.length:=by
 intro n;induction n with
 |zero=>
  intro s last b h1 c;have:s=[]:=jx (by omega);subst this;refine⟨.inr b,?_,λl af=>by cases af;omega⟩;rw[gb];rw[bz]
 |succ n ih=>
  intro s last b h1 c;rw[gb];by_cases hs:s=[]
  . subst hs;exact⟨.inr b,by rw[bz],λl af=>by cases af;omega⟩
  . have f:(!(decide (s=[])))=true:=(by simp[hs]);rw[ae f];rcases lI s with⟨e,he,a⟩|⟨m,k,a,u,g,j⟩
    . rw[oa he a];exact⟨.inl 12,rfl,λl af=>by cases af⟩
    . rw[l4 a g];simp only[aU,ao];rw[uD j];by_cases t:m/2<=last\/1000<m/2
      . exact⟨.inl 12,by rw[bA],λl af=>by cases af⟩
      . have r:bU .i64 ((m/2:Nat):Int)=((m/2:Nat):Int):=jD;rw[ch,r,l5 (by simp;omega)];simp only[ao];cases q:iA (s.drop k)with
        |none=>exact⟨.inl 12,rfl,λl af=>by cases af⟩
        |some p=>
         obtain⟨x,y⟩:=p;have af:=nS q;rw[mb]at af;have ag:room 32 (b++[(⟨((m/2:Nat):Int),decide (b6 (m:Int) 2=1),(dS (some (x,y))).1⟩:cS)]).length=true:=cN;have aG:¬((!(dS (some (x,y))).2.2)=true):=(by simp[dS]);rw[al aG,ae ag];obtain⟨o,d,bc⟩:=ih y (m/2) (b++[(⟨((m/2:Nat):Int),decide (b6 (m:Int) 2=1),x⟩:cS)]) (by omega) (by simp;omega);exact⟨o,d,λl i=>by have:=bc l i;simp at this;omega⟩
theorem aan{s:ak}(h:s.length<=90000):∃o,lV s=some o/\o.1.length<=s.length:=by
 obtain⟨o,h1,b⟩:=Lr s.length s 0 [] (dV _) (by simp;omega);have a:gb (0,s,[])=some o:=h1;rw[lV,a];cases o with
 |inl e=>exact⟨_,rfl,by simp⟩
 |inr l=>exact⟨_,rfl,by have:=b l rfl;simpa using this⟩
theorem ab2:∀(n:Nat) (s:ak) (last:Nat) (b:List cS),s.length<=n->s.length+b.length<=100000->ry (s,(last:Int),b)=gb ((last:Int),s,b):=by
 intro n;induction n with
 |zero=>
  intro s last b h1 i;have:s=[]:=jx (by omega);subst this;rw[gb,ry,bz,bz]
 |succ n ih=>
  intro s last b h1 i;rw[gb,ry,IH];by_cases hs:s=[]
  . simp_all
  . have c:(!(decide (s=[])))=true:=(by simp[hs]);rw[ae c,ae c];rcases lI s with⟨e,he,a⟩|⟨m,k,a,r,d,j⟩
    . rw[oa he a,a];simp_all
    . rw[l4 a d,a];simp only[aU,ao];rw[uD j];by_cases q:m/2<=last\/1000<m/2
      . have aM:(bif bif (!true)then true else decide (((m/2:Nat):Int)<=(last:Int))then true else decide (1000<((m/2:Nat):Int)))=true:=by simp;omega
        rw[ae aM];rw[ae];by_cases o:2001<m
        . simp;omega
        . have f:bU .i64 ((m/2:Nat):Int)=((m/2:Nat):Int):=jD;grind
      . have f:bU .i64 ((m/2:Nat):Int)=((m/2:Nat):Int):=jD;have g:¬(bif bif (!true)then true else decide (((m/2:Nat):Int)<=(last:Int))then true else decide (1000<((m/2:Nat):Int)))=true:=by simp;omega
        rw[f,ch,ae (jM d (dV _)),nV,P0 (by simp;omega),al g,l5 (by simp;omega)];simp only[ao];cases l:iA (s.drop k)with
        |none=>rfl
        |some p=>
         obtain⟨x,y⟩:=p;have af:=nS l;rw[mb]at af;have ag:room 32 (b++[(⟨((m/2:Nat):Int),decide (b6 (m:Int) 2=1),(dS (some (x,y))).1⟩:cS)]).length=true:=cN;have aG:¬((!(dS (some (x,y))).2.2)=true):=(by simp[dS]);rw[al aG,ae ag,al aG,ae ag];exact ih y (m/2) (b++[(⟨((m/2:Nat):Int),decide (b6 (m:Int) 2=1),x⟩:cS)]) (by omega) (by simp;omega)
theorem abx{s:ak}(h:s.length<=90000):yM s=lV s:=by
 have h1:ry (s,0,[])=gb (0,s,[]):=ab2 s.length s 0 [] (dV _) (by simp;omega);rw[lV,yM,h1]<;>rfl
theorem ad1(s:ak):∃o,l0 s=some o:=by
 rw[l0];rcases lI s with⟨e,he,a⟩|⟨m,k,a,d,b,f⟩
 . rw[oa he a];exact⟨_,rfl⟩
 . rw[l4 a b];simp only[aU,ao];by_cases c:m<1\/1000<m
   . exact⟨(0,[],12),by rw[bA]⟩
   . rw[ch];exact⟨_,rfl⟩
theorem ad2(s:ak):∃o,l0 s=some o/\zo s=some o:=by
 rw[l0,zo,IH];rcases lI s with⟨e,he,a⟩|⟨m,k,a,d,b,f⟩
 . rw[oa he a,a];simp_all
 . rw[l4 a b,a];simp only[aU,ao];by_cases c:m<1\/1000<m
   . exact⟨(0,[],12),by rw[bA],by rw[bA]⟩
   . rw[ch,ch,ae (jM b (dV _)),nV];grind
def dQ(n:Nat):ak:=if n<128 then[UInt8.ofNat n]else UInt8.ofNat (n%128+128)::dQ (n/128)
termination_by n
decreasing_by omega
theorem pH{n:Nat}(h:n<128):dQ n=[UInt8.ofNat n]:=by rw[dQ,ae h]
theorem ob{n:Nat}(h:¬n<128):dQ n=UInt8.ofNat (n%128+128)::dQ (n/128):=by rw[dQ,al h]
theorem ac2{a:Nat}(h:a<256):r5 .u8 (a:Int) 128=((a%128+128:Nat):Int):=by
 have key:∀a:Nat,a<256->r5 .u8 (a:Int) 128=((a%128+128:Nat):Int):=by decide+kernel
 grind
theorem xf(n:Nat):bU .u8 (n:Int)=((n%256:Nat):Int):=by rfl
theorem ahP(n:Nat):lG .u64 (n:Int) 7=((n/128:Nat):Int):=by
 unfold lG;have:((2:Int)^min (7:Int).toNat IntKind.u64.bits)=128:=by decide
 grind
theorem ZK(m:Nat)(l:ar):strOf ((m:Int)::l)=UInt8.ofNat m::strOf l:=rfl
theorem CC(a b:ar):strOf (a++b)=strOf a++strOf b:=r2
variable{α:Type}{p N:ak}{c q:Bool}{x:Option Bool}{names:List ak}{f:aS×aS->Option Bool}{v:I}{t:ai}{Ms:List aS}{S:List c3}{H K M E id:Int}{ts:List ai}{L':Nat->Option (Int ⊕ Unit)}{o:Option (Int×Bool)}{L:Option (Bool ⊕ Unit)}{a:List α}
theorem Hz:∀(l:List α) (i:Nat) (x:α),i<l.length->(l.set i x).take (i+1)=l.take i++[x]
 |[],i,x,h=>by simp at h
 |a::l,0,x,h=>by simp
 |a::l,i+1,x,h=>by simp[Hz l i x (by simpa using h)]
theorem P1:∀(f n i:Nat) (b:ar),i+f=9->n<128*128^f->b.length=10->∃(d c:Nat) (a:ar),tu ((n:Int),(i:Int),b)=some ((d:Int),(c:Int),a)/\d<128/\c<=9/\a.length=10/\strOf (a.take c)++[UInt8.ofNat d]=strOf (b.take i)++dQ n
 |f,n,i,b,g,aG,e=>by
  rw[tu];by_cases hs:n<128
  . rw[ch];exact⟨n,i,b,rfl,hs,by omega,e,by rw[pH hs]⟩
  . rw[bA,ae (aP (by
     omega)),ae (by
     cases f with
     |zero=>simp at aG;omega
     |succ f=>simp[e];omega)]
    match f,g,aG with
    |0,g,aG=>simp at aG;omega
    |f+1,g,aG=>
     rw[ahP,bE,xf,ac2 (yI _ (by omega)),a7];have aC:n/128<128*128^f:=(by omega);obtain⟨d,c,a,h1,j,k,l,bc⟩:=P1 f (n/128) (i+1) (b.set i ((n%256%128+128:Nat):Int)) (by omega) aC (by simp[e]);refine⟨d,c,a,h1,j,k,l,?_⟩;rw[bc,Hz _ _ _ (by omega),CC,ob hs];have:n%256%128=n%128:=(by omega);rw[this];have m:strOf [((n%128+128:Nat):Int)]=[UInt8.ofNat (n%128+128)]:=rfl;grind
theorem IP:(128:Nat)*128^9=1180591620717411303424:=by decide
theorem uh{n:Nat}(aG:n<18446744073709551616:=by omega):pG (n:Int)=some (dQ n):=by
 obtain⟨b,d,e,h1,j,k,c,bc⟩:=P1 9 n 0 [0,0,0,0,0,0,0,0,0,0] rfl (by rw[IP];omega) rfl;rw[pG];have f:tu ((n:Int),0,[0,0,0,0,0,0,0,0,0,0])=some ((b:Int),(d:Int),e):=h1;rw[f];simp only[aU,ao];have i:dY 0 ((d+1:Nat):Int) 10=true:=jM (a:=0) (by omega) (by omega);rw[ae (aP (by omega)),ae (by simp[c];omega),bE,ae i,ae (by simp[w3,c];omega),a7,a7,xf];have:b%256=b:=ow (by omega);rw[this];simp only[r3,fU];rw[Hz _ _ _ (by omega),CC];have g:strOf [(b:Int)]=[UInt8.ofNat b]:=rfl;rw[g,bc];rfl
theorem Ls:∀(f n:Nat) (b:ar),n<128^f->n<18446744073709551616->b.length+f<=1000->∃(c:Nat) (a:ar),vj ((n:Int),b)=some ((c:Int),a)/\c<128/\a.length<=1000/\strOf a++[UInt8.ofNat c]=strOf b++dQ n
 |f,n,b,aG,m,o=>by
  rw[vj];by_cases hs:n<128
  . rw[ch];exact⟨n,b,rfl,hs,by omega,by rw[pH hs]⟩
  . rw[bA]
    match f,aG with
    |0,aG=>simp at aG;omega
    |f+1,aG=>
     have l:b6 (n:Int) 128=((n%128:Nat):Int):=AK (b:=128);have j:aN .u64 ((n%128:Nat):Int) 128=((n%128+128:Nat):Int):=su (b:=128) (by omega);have k:fC .u64 (n:Int) 128=((n/128:Nat):Int):=by
      unfold fC;have e:(n:Int).tdiv 128=((n/128:Nat):Int):=by rw[yJ (by omega)];omega
      rw[e];exact kV
     simp only[aU,ao];rw[l,j,k,xf,ae (cN)];have aC:n/128<128^f:=(by omega);obtain⟨c,a,h1,d,g,i⟩:=Ls f (n/128) (b++[(((n%128+128)%256:Nat):Int)]) aC (by omega) (by simp;omega);refine⟨c,a,h1,d,g,?_⟩;rw[i,CC,ob hs];have:(n%128+128)%256=n%128+128:=(by omega);rw[this];have p:strOf [((n%128+128:Nat):Int)]=[UInt8.ofNat (n%128+128)]:=rfl;grind
theorem z'{n:Nat}(aG:n<18446744073709551616:=by omega):qW (n:Int)=some (dQ n):=by
 obtain⟨a,d,h1,e,f,b⟩:=Ls 10 n [] (by have:=IP;rw[yH,Cf];omega) aG (by simp);rw[qW,h1];simp only[aU,ao];rw[ae (cN),xf,CC];have:a%256=a:=ow (by omega);rw[this];have c:strOf [(a:Int)]=[UInt8.ofNat a]:=rfl;rw[c,b];rfl
theorem Ib:∀(f n:Nat),n<128^(f+1)->(dQ n).length<=f+1
 |f,n,aG=>by
  by_cases hs:n<128
  . rw[pH hs];simp
  . rw[ob hs]
    match f,aG with
    |0,aG=>simp at aG;omega
    |f+1,aG=>
     have:=Ib f (n/128) (by omega);simp;omega
theorem j8{n:Nat}(aG:n<18446744073709551616):(dQ n).length<=10:=Ib 9 n (by have:=IP;rw[yH,Cf];omega)
theorem oc(n:Nat):0<(dQ n).length:=by
 rw[dQ];split<;>simp
theorem ln{n:Nat}(h:n<256:=by omega):(UInt8.ofNat n).toNat=n:=by simp_all
theorem P2:∀(f i acc n:Nat) (pre a:ak),i+f=10->pre.length=i->n*2^(7*i)<18446744073709551616->(n=0->i=0)->hz (pre++(dQ n++a)) f i acc=(((acc+n*2^(7*i):Nat):Int),((i+(dQ n).length:Nat):Int),0)
 |0,i,acc,n,pre,a,e,c,aG,h0=>by grind
 |f+1,i,acc,n,pre,a,e,c,aG,h0=>by
  have g:i<(pre++(dQ n++a)).length:=by
   have:=oc n;simp;omega
  have b:∀(x:UInt8) (r:ak),dQ n=x::r->(pre++(dQ n++a)).getD i 0=x:=by grind
  simp only[hz];rw[ae g];by_cases hs:n<128
  . rw[b _ _ (pH hs),ln,al (by
     grind),bx,al (by
     rintro ⟨h1,k⟩
     have:=h0 h1;omega),pH hs]
    simp
  . have l:i<9:=(by grind);rw[b _ _ (ob hs),ln,bx,fz];have j:(n%128+128)%128=n%128:=(by omega);have m:n%128*2^(7*i)+n/128*2^(7*(i+1))=n*2^(7*i):=by
     rw[SH];have h1:n/128*(2^(7*i)*128)=(n/128*128)*2^(7*i):=(by grind);rw[h1,<-ix];grind
    have d:n/128*2^(7*(i+1))<18446744073709551616:=(by omega);have:=P2 f (i+1) (acc+n%128*2^(7*i)) (n/128) (pre++[UInt8.ofNat (n%128+128)]) a (by omega) (by simp[c]) d (by omega);rw[j];have es:pre++(dQ n++a)=pre++[UInt8.ofNat (n%128+128)]++(dQ (n/128)++a):=by rw[ob hs];simp
    grind
theorem I4{n:Nat}(aG:n<18446744073709551616)(a:ak):hz (dQ n++a) 10 0 0=((n:Int),((dQ n).length:Int),0):=by
 have:=P2 10 0 0 n [] a rfl rfl (by simpa using aG) (λ_=>rfl);grind
def c7(p:ak):ak:=dQ p.length++p
theorem gf{n:Nat}(h:n<=9223372036854775807:=by omega):decide (n<=eG)=true:=by
 unfold eG;simp;omega
theorem Ez(h:p.length<=1152921504606846976:=by omega):q7 p=some (c7 p):=by
 rw[q7,hA,uh];simp only[aU,ao];have:=j8 (n:=p.length) (by omega);rw[ae (gf)];rfl
theorem DQ(h:p.length<=1152921504606846976:=by omega):qT p=some (c7 p):=by
 rw[qT,hA,z'];simp only[aU,ao];have:=j8 (n:=p.length) (by omega);rw[ae (gf)];rfl
def eX(id:Nat)(c:Bool)(p:ak):ak:=dQ (2*id+(if c then 1 else 0))++c7 p
theorem Ky(h:p.length<=1152921504606846976):(c7 p).length<=p.length+10:=by
 have:=j8 (n:=p.length) (by omega);unfold c7;simp;omega
theorem Ic{id:Nat}{c:Bool}(f:id<=4611686018427387903)(h:p.length<=1152921504606846900:=by omega):wk ((id:Int),c,p)=some (eX id c p):=by
 rw[wk];have e:gB .u64 2 (bU .u64 (id:Int))=((2*id:Nat):Int):=by rw[hA];exact uo (a:=2) (by omega)
 simp only[aU,ao];rw[e,Ez];have af:=Ky (p:=p) (by omega);cases c with
 |true=>
  have d:aN .u64 ((2*id:Nat):Int) 1=((2*id+1:Nat):Int):=su (b:=1) (by omega);rw[ae rfl,d,uh];have:=j8 (n:=2*id+1) (by omega);simp only[ao];rw[ae (gf)];rfl
 |false=>
  rw[bz,uh];have:=j8 (n:=2*id) (by omega);simp only[ao];rw[ae (gf)];rfl
theorem Jq{id:Nat}(e:id<=4611686018427387903)(h:p.length<=1152921504606846900):yb ((id:Int),c,p)=some (eX id c p):=by
 rw[yb];have d:bU .u64 (gB .i64 2 (id:Int))=((2*id:Nat):Int):=by
  rw[Pr (by omega) (by omega)];have:(2:Int)*(id:Int)=((2*id:Nat):Int):=by omega
  rw[this];exact hA
 simp only[aU,ao];rw[d,DQ];have af:=Ky (p:=p) (by omega);cases c with
 |true=>
  have a:aN .u64 ((2*id:Nat):Int) 1=((2*id+1:Nat):Int):=su (b:=1) (by omega);rw[ae rfl,a,z'];have:=j8 (n:=2*id+1) (by omega);simp only[ao];rw[ae (gf)];rfl
 |false=>
  rw[bz,z'];have:=j8 (n:=2*id) (by omega);simp only[ao];rw[ae (gf)];rfl
theorem Js{a:ak}(h:p.length<=100000):iA (c7 p++a)=some (p,a):=by
 unfold iA c7;rw[ir,I4 (by omega)];simp only[ou,rV];grind
theorem YY{id:Nat}{a:ak}{last:Nat}{b:List cS}(h1:last<id)(o:id<=1000)(h:(eX id c p++a).length<=100000)(n:b.length<=90000):
 gb ((last:Int),eX id c p++a,b)=gb ((id:Int),a,b++[⟨(id:Int),c,p⟩]):=by
 have k:p.length<=100000:=by
  have d:=h;simp only[eX,c7,cm]at d;omega
 have i:eX id c p++a≠[]:=by
  intro e;have d:=ee List.length e;have:=oc (2*id+(if c then 1 else 0));simp only[eX,cm,h6]at d;omega
 have aa:2*id+(if c then 1 else 0)<=2001:=by split<;>omega
 have aq:hz (eX id c p++a) 10 0 0=(((2*id+(if c then 1 else 0):Nat):Int),((dQ (2*id+(if c then 1 else 0))).length:Int),0):=by
  unfold eX;rw[ir];exact I4 (by omega) _
 have aG:=l4 aq (by unfold eX;simp);have f:(eX id c p++a).drop (dQ (2*id+(if c then 1 else 0))).length=c7 p++a:=by
  unfold eX;grind
 rw[f]at aG;have g:(2*id+(if c then 1 else 0))/2=id:=by split<;>omega
 have l:decide (b6 ((2*id+(if c then 1 else 0):Nat):Int) 2=1)=c:=by
  have:b6 ((2*id+(if c then 1 else 0):Nat):Int) 2=(((2*id+(if c then 1 else 0))%2:Nat):Int):=AK (b:=2);grind
 rw[gb,ae (by simp only[r0,FO];exact i),aG];simp only[aU,ao];rw[uD (by omega),g,ch,l,l5 (by grind),Js k];simp only[ao];have m:bU .i64 (id:Int)=(id:Int):=jD;have j:¬((!(dS (some (p,a))).2.2)=true):=by simp[dS]
 rw[al j,m];have ag:room 32 (b++[(⟨(id:Int),c,(dS (some (p,a))).1⟩:cS)]).length=true:=cN;rw[ae ag];rfl
inductive bJ:I->Prop
 |mk (v:I) (hs:v.bl.length<=reachBytes) (h1:v.ay.length<=reachBytes) (ag':v.aj.length<=reachBytes) (aio:v.Rest.length<=reachBytes)
  (hk:∀x,x∈v.ay->bJ x) (BP:∀x,x∈v.aj->bJ x) (ag:∀x,x∈v.Rest->x.Data.length<=reachBytes)
  (c': -9223372036854775808<=v.Kind/\v.Kind<=9223372036854775807) (aiB: -9223372036854775808<=v.bd/\v.bd<=9223372036854775807) (aiC: -9223372036854775808<=v.ad/\v.ad<=9223372036854775807)
  (aiD:∀x,x∈v.Rest->-9223372036854775808<=x.ad/\x.ad<=9223372036854775807):bJ v
theorem dB{n:Nat}(h:n<=reachBytes):n<9223372036854775807:=Nat.lt_of_le_of_lt h (by decide)
theorem scan{d:Type}(L:Nat->Option d)(n:Nat)(p:Nat->Bool)(a b:d)(l:∀i,i<n->L i=if p i then L (i+1)else some a)(e:L n=some b):
 (L 0=some b/\∀j,j<n->p j=true)\/(L 0=some a/\∃j,j<n/\p j=false):=by
 have key:∀k i,i+k=n->(L i=some b/\∀j,i<=j->j<n->p j=true)\/(L i=some a/\∃j,j<n/\p j=false):=by
  intro k;induction k with
  |zero=> intro i g; have:i = n:= by omega
          subst this;exact .inl ⟨e,λj h1 c=>by omega⟩
  |succ k ih=>grind
 rcases key n 0 (by omega)with⟨h1,c⟩|h
 . exact .inl ⟨h1,λj f=>c j (hv _) f⟩
 . exact .inr h
theorem du{l:List α}{i:Nat}(h:i<l.length)(d:α):l.getD i d=l[i]:=by grind
theorem wq{b:List α}{p:Nat->Bool}(af:a.length=b.length)(e:∀(i:Nat) (h1:i<a.length) (c:i<b.length),p i=true↔a[i]=b[i]):
 (∀j,j<a.length->p j=true)↔a=b:=by
 constructor
 . intro h;exact B8 af λi h1 c=>(e i h1 c).1 (h i h1)
 . rintro rfl j d
   exact(e j d d).2 rfl
def eW{α:Type}(o:Option Bool)(a b:α):Prop:=∃r,o=some r/\(r=true↔a=b)
theorem eW.F6{b:List α}{p:Nat->Bool}(af:a.length=b.length)(e:∀(i:Nat) (h1:i<a.length) (c:i<b.length),p i=true↔a[i]=b[i]){o:Option Bool}
 (h:(o=some true/\∀j,j<a.length->p j=true)\/(o=some false/\∃j,j<a.length/\p j=false)):eW o a b:=by
 rcases h with⟨h1,c⟩|⟨h1,j,c,f⟩
 . exact⟨true,h1,by simp[(wq af e).1 c]⟩
 . refine⟨false,h1,?_⟩;constructor
   . intro h;cases h
   . intro h;have:=(wq af e).2 h j c;rw[f]at this;cases this
theorem P3{a b:bX}:(hN a.ad b.ad&&(iL a.Data b.Data&&true))=true↔a=b:=by cases a;cases b;simp[hN,iL]
theorem P4{a b:c3}:(hN a.ad b.ad&&(iL a.Name b.Name&&true))=true↔a=b:=by
 cases a;cases b;simp[hN,iL]
theorem ad3{b:List α}(h:¬a.length=b.length):a≠b:=λe=>h (ee List.length e)
theorem vS{b:List α}(h:¬a.length=b.length):eW (some false) a b:=⟨false,rfl,by simp[ad3 h]⟩
theorem P5{a b:List bX}(d:a.length<=reachBytes):eW (yd (a,b)) a b:=by
 rw[yd];by_cases af:a.length=b.length
 . rw[ch];have ag:=dB d;have:=scan (λi=>pA (a,b,(a.length:Int),(i:Int))) a.length (λi=>hN (a.getD i bW).ad (b.getD i bW).ad&&(iL (a.getD i bW).Data (b.getD i bW).Data&&true)) (.inl false) (.inr ())
    (λi e=>by
     rw[pA,bA,ae (aP e)];simp only[aU,ao,a7];rw[ae (aP (by omega)),bE]
     grind)
    (by rw[pA,bz])
   have h0:pA (a,b,(a.length:Int),((0:Nat):Int))=pA (a,b,(a.length:Int),0):=rfl;simp only[h0]at this;refine eW.F6 (p:=λi=>hN (a.getD i bW).ad (b.getD i bW).ad&&(iL (a.getD i bW).Data (b.getD i bW).Data&&true)) af (λi h1 c=>by simp only[du h1,du c];exact P3) ?_;grind
 . rw[bA];exact vS af
theorem ad4{a b:List c3}(d:a.length<=reachBytes):eW (Cs (a,b)) a b:=by
 rw[Cs];by_cases af:a.length=b.length
 . rw[ch];have ag:=dB d;have:=scan (λi=>pz (a,b,(a.length:Int),(i:Int))) a.length (λi=>hN (a.getD i dL).ad (b.getD i dL).ad&&(iL (a.getD i dL).Name (b.getD i dL).Name&&true)) (.inl false) (.inr ())
    (λi e=>by
     rw[pz,bA,ae (aP e)];simp only[aU,ao,a7];rw[ae (aP (by omega)),bE]
     grind)
    (by rw[pz,bz])
   have h0:pz (a,b,(a.length:Int),((0:Nat):Int))=pz (a,b,(a.length:Int),0):=rfl;simp only[h0]at this;refine eW.F6 (p:=λi=>hN (a.getD i dL).ad (b.getD i dL).ad&&(iL (a.getD i dL).Name (b.getD i dL).Name&&true)) af (λi h1 c=>by simp only[du h1,du c];exact P4) ?_;grind
 . rw[bA];exact vS af
theorem Dz(v:I):(⟨v.Kind,v.bN,v.bd,v.bl,v.ad,v.ay,v.aj,v.Rest⟩:I)=v:=by cases v;rfl
theorem Lt{a b:I}:a=b↔a.Kind=b.Kind/\a.bN=b.bN/\a.bd=b.bd/\a.bl=b.bl/\a.ad=b.ad/\a.Rest=b.Rest/\a.ay=b.ay/\a.aj=b.aj:=by
 constructor
 . grind
 . cases a;cases b;grind
section
variable {f:I×I->Option Bool}
theorem Ik {a b:List I}(af:a.length=b.length)(ih:∀x,x∈a->∀y,eW (f (x,y)) x y)(L:Nat->Option (Bool ⊕ Unit))
 (l:∀i,i<a.length->L i=(f (I.eta (a.getD i av),I.eta (b.getD i av))>>=λr=>if !r then some (.inl false)else L (i+1)))
 (j:L a.length=some (.inr ())):eW (L 0>>=λo=>match o with|.inl x=>some x|.inr _=>some true) a b:=by
 have d:∀(i:Nat) (h1:i<a.length) (c:i<b.length),eW (f (I.eta (a.getD i av),I.eta (b.getD i av))) a[i] b[i]:=by
  intro i h1 c;rw[du h1,du c,I.aV,I.aV];grind
 have:=scan L a.length (λi=>(f (I.eta (a.getD i av),I.eta (b.getD i av))).getD false) (.inl false) (.inr ())
  (λi k=>by
   obtain⟨r,h1,c⟩:=d i k (by omega)
   grind) j
 refine eW.F6 af (λi h1 c=>?_) ?_ (p:=λi=>(f (I.eta (a.getD i av),I.eta (b.getD i av))).getD false)
 . obtain⟨r,e,g⟩:=d i h1 c;rw[e];exact g
 . rcases this with⟨h1,c⟩|⟨h1,c⟩
   . exact .inl ⟨by rw[h1];rfl,c⟩
   . exact .inr ⟨by rw[h1];rfl,c⟩
end
theorem OC{a b:List I}(c:a.length<=reachBytes)(ih:∀x,x∈a->∀y,eW (pD (x,y)) x y):eW (vF (a,b)) a b:=by
 rw[vF];by_cases af:a.length=b.length
 . rw[ch];have ag:=dB c;exact Ik af ih (λi=>vD (b,a,(a.length:Int),(i:Int)))
    (λi d=>by
     rw[vD,bA,ae (aP d),ae (aP (by omega)),bE]
     rfl)
    (by rw[vD,bz])
 . rw[bA];exact vS af
theorem OD{a b:List I}(c:a.length<=reachBytes)(ih:∀x,x∈a->∀y,eW (lX (x,y)) x y):eW (yO (a,b)) a b:=by
 rw[yO];by_cases af:a.length=b.length
 . rw[ch];have ag:=dB c;exact Ik af ih (λi=>vE (b,a,(a.length:Int),(i:Int)))
    (λi d=>by
     rw[vE,bA,ae (aP d),ae (aP (by omega)),bE]
     rfl)
    (by rw[vE,bz])
 . rw[bA];exact vS af
theorem OE{a b:List I}(c:a.length<=reachBytes)(ih:∀x,x∈a->∀y,eW (jI (x,y)) x y):eW (yf (a,b)) a b:=by
 rw[yf];by_cases af:a.length=b.length
 . rw[ch];have ag:=dB c;exact Ik af ih (λi=>vH (a,b,(i:Int)))
    (λi d=>by
     rw[vH,bA,ae (aP d),ae (aP (by omega)),bE]
     rfl)
    (by rw[vH,bz])
 . rw[bA];exact vS af
theorem three{a b:I}{bc:Bool}(jR:bc=true↔a.Kind=b.Kind/\a.bN=b.bN/\a.bd=b.bd/\a.bl=b.bl/\a.ad=b.ad){y z:Option Bool}(l:eW x a.Rest b.Rest)(o:eW y a.ay b.ay)(s:eW z a.aj b.aj):
 eW (some bc>>=λt37=>(if t37 then x else some false)>>=λr=>some (bif t37 then r else false)>>=λt44=>(if t44 then y else some false)>>=λv=>some (bif t44 then v else false)>>=λt51=>(if t51 then z else some false)>>=λw=>some (bif t51 then w else false)) a b:=by
 obtain⟨j,m,n⟩:=l;obtain⟨k,p,q⟩:=o;obtain⟨A,t,u⟩:=s;subst m;subst p;subst t;refine⟨bc&&j&&k&&A,?_,?_⟩
 . cases bc<;>cases j<;>cases k<;>rfl
 . rw[Lt];simp only[cC];rw[jR,n,q,u];constructor
   . rintro ⟨⟨⟨⟨h1,c,d,e,bc⟩,f⟩,g⟩,i⟩;exact⟨h1,c,d,e,bc,f,g,i⟩
   . rintro ⟨h1,c,d,e,bc,f,g,i⟩;exact⟨⟨⟨⟨h1,c,d,e,bc⟩,f⟩,g⟩,i⟩
theorem Sf{a b:I}:(bif bif bif bif decide (a.Kind=b.Kind)then fy a.bN b.bN else false then decide (a.bd=b.bd)else false then decide (a.bl=b.bl)else false then decide (a.ad=b.ad)else false)=true↔a.Kind=b.Kind/\a.bN=b.bN/\a.bd=b.bd/\a.bl=b.bl/\a.ad=b.ad:=by
 simp only[yD,fy];grind
theorem Kz{a:I}(h:bJ a):∀b,eW (pD (a,b)) a b:=by
 induction h with
 |mk a hs h1 c d i g ag c' j k l f e=>
  intro b;rw[pD];exact three Sf (P5 d) (OC h1 f) (OC c e)
theorem Dm{a:I}(h:bJ a):∀b,eW (lX (a,b)) a b:=by
 induction h with
 |mk a hs h1 c d i g ag c' j k l f e=>
  intro b;rw[lX];exact three Sf (P5 d) (OD h1 f) (OD c e)
theorem D3{a:I}(h:bJ a):∀b,eW (jI (a,b)) a b:=by
 induction h with
 |mk a hs h1 c k u t ag c' x y z q p=>
  intro b;rw[jI];by_cases bc:a.Kind=b.Kind/\a.bN=b.bN/\a.bd=b.bd/\a.bl=b.bl/\a.ad=b.ad/\a.Rest.length=b.Rest.length
  . obtain⟨aM,g,di,hL,jR,oZ⟩:=bc;rw[al (by simp[aM,g,di,hL,jR,oZ,fy])];have v:=dB k;have f:=scan (λi=>o3 ((i:Int),a,b)) a.Rest.length (λi=>hN (a.Rest.getD i bW).ad (b.Rest.getD i bW).ad&&(iL (a.Rest.getD i bW).Data (b.Rest.getD i bW).Data&&true)) (.inl false) (.inr (a,b))
     (λi l=>by
      rw[o3,bA,ae (aP l)];simp only[aU,ao,a7,I.aV];rw[ae (aP (by omega)),bE]
      grind)
     (by rw[o3,bz,I.aV,I.aV])
    have h0:o3 (((0:Nat):Int),a,b)=o3 (0,a,b):=rfl;simp only[h0]at f;rw[Dz,Dz];have m:∀(i:Nat) (h1:i<a.Rest.length) (c:i<b.Rest.length),(hN (a.Rest.getD i bW).ad (b.Rest.getD i bW).ad&&(iL (a.Rest.getD i bW).Data (b.Rest.getD i bW).Data&&true))=true↔a.Rest[i]=b.Rest[i]:=λi h1 c=>by rw[du h1,du c];exact P3
    rcases f with⟨d,e⟩|⟨d,j,e,s⟩
    . have w:=(wq oZ m).1 e;rw[d];obtain⟨kl,k1,k2⟩:=OE (a:=a.ay) (b:=b.ay) h1 q;obtain⟨r,n,o⟩:=OE (a:=a.aj) (b:=b.aj) c p;simp only[aU,ao];rw[k1,n];refine⟨kl&&r,by cases kl<;>rfl,?_⟩;rw[Lt,cC,k2,o];grind
    . rw[d];refine⟨false,rfl,?_⟩;grind
  . rw[ae]
    . refine⟨false,rfl,?_⟩;grind
    . simp only[yD,fy];grind
def mT(c:Int):Bool:=decide (c=95\/(97<=c/\c<=122)\/(65<=c/\c<=90))
def Ay(c:Int):Bool:=decide (48<=c/\c<=57)
theorem DA(c:Int):yX c=some (mT c):=by
 rw[yX];unfold mT;grind
theorem Lu(c:Int):yv c=some (mT c):=by
 rw[yv];unfold mT;grind
theorem ab3(c:Int):CR c=some (Ay c):=by
 rw[CR];unfold Ay;grind
theorem ab4(c:Int):Db c=some (Ay c):=by
 rw[Db];unfold Ay;grind
theorem Mx{f:Type}(A B cv:Bool)(a b:Option f)(c:cv=true):
 (some A>>=λd=>some (!d)>>=λt26=>if(cv||(!t26)) then(if t26 then some B else some false)>>=λe=>if(bif t26 then(!e)else false) then a else b else none)=if(A||B) then b else a:=by
 subst c;cases A<;>cases B<;>rfl
theorem OF(s:ak):∃r,kH s=some r/\sZ s=some r:=by
 rw[kH,sZ];simp only[aU,ao];by_cases d:s=[]\/24<s.length
 . have ht:(bif decide (s=[])then true else decide (24<(s.length:Int)))=true:=(by grind);rw[ht];simp_all
 . have f:s≠[]:=λh=>d (.inl h);have l:s.length<=24:=(by omega);have ht:(bif decide (s=[])then true else decide (24<(s.length:Int)))=false:=(by grind);have g:0<s.length:=uz.2 f;have e:aH 0 s.length=true:=aP (k:=0) g;simp only[ht,e,Cg,b5,eV,ao,DA,Lu,dW];cases af:mT (fw s 0)with
   |false=>exact⟨false,rfl,rfl⟩
   |true=>
    rw[bz,bz];let p:Nat->Bool:=λi=>mT (fw s i)||Ay (fw s i);have s1:=scan (λi=>lh (s,(s.length:Int),(i:Int))) s.length p (.inl false) (.inr ())
     (λi a=>by
      rw[lh,bA,ae (aP a),DA,ab3,bE]
      exact Mx _ _ _ _ _ (aP a))
     (by rw[lh,bz])
    have b:=scan (λi=>pd (s,(i:Int))) s.length p (.inl false) (.inr ())
     (λi a=>by
      rw[pd,bA,ae (aP a),Lu,ab4,bE]
      exact Mx _ _ _ _ _ (aP a))
     (by rw[pd,bz])
    have aM:lh (s,(s.length:Int),((0:Nat):Int))=lh (s,(s.length:Int),0):=rfl;have c:pd (s,((0:Nat):Int))=pd (s,0):=rfl;simp only[aM,c]at s1 b;rcases s1 with⟨a1,a2⟩|⟨a1,j,a2,a3⟩<;>rcases b with⟨b1,b2⟩|⟨b1,k,b2,b3⟩
    . simp_all
    . grind
    . grind
    simp_all
def nm(s:ak):Bool:=(kH s).getD false
theorem tS(s:ak):kH s=some (nm s):=by
 obtain⟨r,h1,_⟩:=OF s;unfold nm;rw[h1];rfl
theorem AJ(s:ak):sZ s=some (nm s):=by
 obtain⟨r,h1,a⟩:=OF s;unfold nm;rw[h1,a];rfl
theorem FK{s:ak}(h:nm s=true):s≠[]:=by
 rintro rfl
 unfold nm at h;rw[kH]at h;simp at h
def kf(l:ar)(names:List ak)(i:Nat):Bool:=
 decide (1<=l.getD i 0)&&decide (l.getD i 0<=1000)&&(decide (i=0)||decide (l.getD (i-1) 0<l.getD i 0))&&nm (names.getD i []) && !((names.take i).contains (names.getD i []))
def kT(l:List ak):List ak:=l.foldl iT []
theorem ab5(ks:List ak)(a s:ak):jw (iT ks a) s=(jw ks s||decide (a=s)):=by
 unfold iT;split
 . grind
 . simp[jw,List.any_append]
theorem KA(l:List ak)(s:ak):jw (kT l) s=l.contains s:=by
 have key:∀(l:List ak) (ks:List ak),jw (l.foldl iT ks) s=(jw ks s||l.contains s):=by
  intro l;induction l with
  |nil=>intro ks;simp
  |cons a r ih=>
   intro ks;rw[List.foldl_cons,ih,ab5,Bool.or_assoc];grind
 have:=key l [];simpa[kT,jw]using this
theorem KB{l:List ak}{i:Nat}(h:i<l.length):iT (kT (l.take i)) (l.getD i [])=kT (l.take (i+1)):=by
 unfold kT;rw[F0,List.foldl_append,e' h,du h];rfl
theorem ac3{g:Type}(A a b C cv H N:Bool)(c d:Option g)(e:cv=true)(f:a=true->b=true):
 (if(b||(!((!A)&&a))) then
  some (bif A then true else bif a then C else false)>>=λt34=>
  if(cv||(!(!t34))) then
   some (bif t34 then true else H)>>=λt42=>
   if(cv||(!(!t42))) then
    (if !t42 then some N else some false)>>=λr=>
    if(bif t42 then true else(!r)) then c else(if cv then d else none)
   else none
  else none
 else none)=if !A&&(!a || !C)&&N && !H then d else c:=by
 subst e;cases a with
 |true=>have:=f rfl;subst this;cases A<;>cases C<;>cases H<;>cases N<;>rfl
 |false=>cases A<;>cases b<;>cases C<;>cases H<;>cases N<;>rfl
theorem P6{l:ar}(af:l.length<=reachBytes)(aG:names.length=l.length):∃r,zS (l,names)=some r/\(r=true↔(∀i,i<l.length->kf l names i=true)/\l.length<=16):=by
 rw[zS];have ag:=dB af;have b:=scan (λi=>p6 (l,names,l,(l.length:Int),(i:Int),kT (names.take i))) l.length (kf l names) (.inl false) (.inr l)
  (λi d=>by
   have a:i<names.length:=(by omega);rw[p6,bA,ae (aP d)];simp only[a7];rw[tS,bE,KB a,KA];have f:0<i->dq .i64 (i:Int) 1=((i-1:Nat):Int):=by intro h;rw[hK];omega
   refine(ac3 (bif decide (l.getD i 0<1)then true else decide (1000<l.getD i 0)) (decide ((0:Int)<(i:Int))) (aH (dq .i64 (i:Int) 1) l.length) (decide (l.getD i 0<=l.getD (dq .i64 (i:Int) 1).toNat 0)) (aH (i:Int) names.length) ((names.take i).contains (names.getD i [])) (nm (names.getD i [])) _ _ (aP a) (λg=>?_)).trans ?_
   . have e:0<i:=by simp at g;omega
     rw[f e];exact aP (by omega)
   . have:(!(bif decide (l.getD i 0<1)then true else decide (1000<l.getD i 0))&&(!(decide ((0:Int)<(i:Int))) || !(decide (l.getD i 0<=l.getD (dq .i64 (i:Int) 1).toNat 0)))&&nm (names.getD i []) && !((names.take i).contains (names.getD i [])))=kf l names i:=by
      unfold kf;grind
     rw[this])
  (by rw[p6,bz])
 have cZ:p6 (l,names,l,(l.length:Int),((0:Nat):Int),kT (names.take 0))=p6 (l,names,l,(l.length:Int),0,[]):=rfl;simp only[cZ]at b;rcases b with⟨h1,c⟩|⟨h1,j,c,k⟩
 . rw[h1];refine⟨decide ((l.length:Int)<=16),rfl,?_⟩;grind
 . rw[h1];refine⟨false,rfl,?_⟩;grind
theorem Cx{k n:Nat}(a:k<=16)(h:n*24<=reachBytes:=by simp;omega):room k n=true:=by
 unfold room ka eI;unfold reachBytes at h;simp only[cC,dO];have:(2*n+192)*k<=(2*n+192)*16:=Nat.mul_le_mul_left _ a;omega
theorem wA(l:List α)(i:Nat)(d:α)(h:i<l.length):l.take i++[l.getD i d]=l.take (i+1):=by simp_all
theorem hY{a:Type}(f:α->a)(l:List α)(i:Nat)(d:α)(e:a)(h:i<l.length):(l.map f).getD i e=f (l.getD i d):=by grind
theorem p8{l:List ak}{i:Nat}{s:ak}(b:i<=l.length:=by simp;omega):(l.take i).contains s=true↔∃k,k<i/\l.getD k []=s:=by
 rw[List.contains_iff_mem];constructor
 . intro h;obtain⟨k,a,he⟩:=e3 h;rw[qg]at a;refine⟨k,by omega,?_⟩;grind
 . rintro ⟨k,a,he⟩
   rw[<-he,du (by omega)];have:(l.take i)[k]'(by rw[qg];omega)=l[k]:=List.getElem_take;grind
def lQ(l:ar)(i:Nat):Int:=if i=0 then 0 else l.getD (i-1) 0
theorem OG{l:ar}{i:Nat}(e:i<l.length)(aG:names.length=l.length):
 kf l names i=(decide (lQ l i<l.getD i 0)&&decide (1<=l.getD i 0)&&decide (l.getD i 0<=1000)&&nm (names.getD i []) && !((names.take i).contains (names.getD i []))):=by
 unfold kf lQ;generalize l.getD i 0=x;generalize l.getD (i-1) 0=y;generalize nm (names.getD i [])=a;generalize (names.take i).contains (names.getD i [])=b;by_cases h0:i=0
 . subst h0;by_cases h1:1<=x
   . have:decide ((0:Int)<x)=true:=by simp;omega
     simp[h1,this]
   . simp[h1]
 . simp only[h0,b9,dk,Bool.false_or];by_cases h1:1<=x<;>by_cases c:x<=1000<;>by_cases d:y<x<;>simp[h1,c,d]
theorem KC(l:List c3)(af:l.length*24<=reachBytes):∀(k i:Nat),i+k=l.length->rI (l,l,(l.length:Int),(i:Int),(l.map (·.ad)).take i,(l.map (·.Name)).take i)=some (l,l.map (·.ad),l.map (·.Name))
 |0,i,h=>by
  have:i=l.length:=by omega
  subst this;rw[rI,bz];rw[qd (by simp),qd (by simp)]
 |k+1,i,h=>by
  have ag:l.length<9223372036854775807:=by unfold reachBytes at af;omega
  have a:i<l.length:=by omega
  rw[rI,bA,ae (aP a)];simp only[aU,ao,a7];rw[<-hY (·.ad) l i dL 0 a,<-hY (·.Name) l i dL [] a,wA _ _ _ (by simpa using a),wA _ _ _ (by simpa using a)];rw[ae (Cx (by omega)),ae (Cx (by omega)),bE];exact KC l af k (i+1) (by omega)
theorem OH{l:List c3}(af:l.length*24<=reachBytes):∃r,vx l=some r/\(r=true↔0<l.length/\(∀i,i<l.length->kf (l.map (·.ad)) (l.map (·.Name)) i=true)/\l.length<=16):=by
 have h:=KC l af l.length 0 (by omega);have a:rI (l,l,(l.length:Int),0,[],[])=some (l,l.map (·.ad),l.map (·.Name)):=h;rw[vx,a];simp only[aU,ao];obtain⟨r,h1,b⟩:=P6 (l:=l.map (·.ad)) (names:=l.map (·.Name)) (by simp;unfold reachBytes at*;omega) (by simp);rw[iu]at b;grind
theorem SU(a b:Int):y0 (a,b)=some (decide (a<b)&&decide (1<=b)&&decide (b<=1000)):=by
 rw[y0];grind
theorem ZL(l:List c3)(af:l.length<=reachBytes)(i:Nat)(b:i<l.length):
 nX (l,(i:Int),0)=some (if((l.map (·.Name)).take i).contains ((l.map (·.Name)).getD i []) then .inl false else .inr (l,(i:Int))):=by
 have ag:=dB af;have d:=scan (λk=>nX (l,(i:Int),(k:Int))) i (λk=>!(decide ((l.getD k dL).Name=(l.getD i dL).Name))) (.inl false) (.inr (l,(i:Int)))
  (λk c=>by
   rw[nX,bA,ae (aP (by omega)),ae (aP b),bE]
   grind)
  (by rw[nX,bz])
 have cZ:nX (l,(i:Int),((0:Nat):Int))=nX (l,(i:Int),0):=rfl;simp only[cZ]at d;rw[hY (·.Name) l i dL [] b];rcases d with⟨h1,a⟩|⟨h1,j,a,e⟩
 . rw[h1,al];rw[p8]
   rintro ⟨k,c,he⟩
   rw[hY (·.Name) l k dL [] (by omega)]at he;have:=a k c;rw[he]at this;simp at this
 . rw[h1,ae];rw[p8];refine⟨j,a,?_⟩;rw[hY (·.Name) l j dL [] (by omega)];simpa using e
theorem ac4{l:List c3}(af:l.length<=reachBytes):∃r,yp l=some r/\(r=true↔0<l.length/\(∀i,i<l.length->kf (l.map (·.ad)) (l.map (·.Name)) i=true)/\l.length<=16):=by
 have ag:=dB af;have b:=scan (λi=>o9 (l,lQ (l.map (·.ad)) i,(i:Int))) l.length (kf (l.map (·.ad)) (l.map (·.Name))) (.inl false) (.inr l)
  (λi a=>by
   rw[o9,bA,ae (aP a),SU,ZL l af i a,OG (by simpa using a) (by simp)];simp only[aU,ao,a7];rw[<-hY (·.ad) l i dL 0 a,<-hY (·.Name) l i dL [] a,AJ];generalize (decide (lQ (l.map (·.ad)) i<(l.map (·.ad)).getD i 0)&&decide (1<=(l.map (·.ad)).getD i 0)&&decide ((l.map (·.ad)).getD i 0<=1000))=q;rw[ae (by rw[aP a];rfl)];cases q with
   |false=>rfl
   |true=>
    simp only[db,eV,b5,ao,na];cases nm ((l.map (·.Name)).getD i [])with
    |false=>rfl
    |true=>
     simp only[db,dW,bZ,b9,na];cases e:((l.map (·.Name)).take i).contains ((l.map (·.Name)).getD i [])with
     |true=>simp
     |false=>
      simp only[bZ,b9,eV,b5];rw[ae (aP a),bE];have:lQ (l.map (·.ad)) (i+1)=(l.getD i dL).ad:=by
       unfold lQ;grind
      grind)
  (by rw[o9,bz])
 have cZ:o9 (l,lQ (l.map (·.ad)) 0,((0:Nat):Int))=o9 (l,0,0):=rfl;simp only[cZ]at b;rw[yp];rcases b with⟨h1,c⟩|⟨h1,j,c,d⟩
 . rw[h1];refine⟨_,rfl,?_⟩;grind
 . rw[h1];refine⟨false,rfl,?_⟩;grind
theorem aby{l:List c3}(af:l.length*24<=reachBytes):∃r,vx l=some r/\yp l=some r:=by
 obtain⟨r,h1,a⟩:=OH af;obtain⟨q,b,c⟩:=ac4 (l:=l) (by unfold reachBytes at*;omega);grind
structure e1 (t:ai):Prop where
 syms:t.bh.length*24<=reachBytes
 gX:t.ah.length*24<=reachBytes
 iK:∀m,m∈t.ah->bJ m.bB
theorem ij{n:Nat}(h:n*24<=reachBytes):n<=reachBytes:=by unfold reachBytes at*;omega
theorem ZM{a b:aS}:a=b↔a.ad=b.ad/\a.Name=b.Name/\a.aw=b.aw/\a.cg=b.cg/\a.bV=b.bV/\a.bB=b.bB:=by cases a;cases b;simp
theorem ju(x:aS):(⟨x.ad,x.Name,x.aw,x.cg,x.bV,I.eta x.bB⟩:aS)=x:=by cases x;simp[I.aV]
theorem Sg{a b:aS}:(bif bif bif bif decide (a.ad=b.ad)then decide (a.Name=b.Name)else false then decide (a.aw=b.aw)else false then fy a.cg b.cg else false then fy a.bV b.bV else false)=true↔a.ad=b.ad/\a.Name=b.Name/\a.aw=b.aw/\a.cg=b.cg/\a.bV=b.bV:=by
 simp only[yD,fy];grind
theorem S2{a b:aS}(f:q=true↔a.ad=b.ad/\a.Name=b.Name/\a.aw=b.aw/\a.cg=b.cg/\a.bV=b.bV)(g:eW x a.bB b.bB):
 eW (some q>>=λt37=>(if t37 then x else some false)>>=λr=>some (bif t37 then r else false)) a b:=by
 obtain⟨d,h1,e⟩:=g;subst h1;refine⟨q&&d,by cases q<;>cases d<;>rfl,?_⟩;rw[ZM,cC,f,e];constructor
 . rintro ⟨⟨a1,a2,a3,a4,a5⟩,c⟩;exact⟨a1,a2,a3,a4,a5,c⟩
 . rintro ⟨a1,a2,a3,a4,a5,c⟩;exact⟨⟨a1,a2,a3,a4,a5⟩,c⟩
theorem abz{a:aS}(h:bJ a.bB)(b:aS):eW (yW (a,b)) a b:=by
 rw[yW];simp only[Dz,I.aV];exact S2 Sg (Dm h _)
theorem abA{a:aS}(h:bJ a.bB)(b:aS):eW (yh (a,b)) a b:=by
 rw[yh];simp only[Dz,I.aV];exact S2 Sg (D3 h _)
theorem KK{m:Type}{g:m}{a b:List aS}(af:a.length=b.length)(ih:∀x,x∈a->∀y,eW (f (x,y)) x y)(L:Nat->Option (Bool ⊕ m))
 (q:∀i,i<a.length->L i=(f (a.getD i aB,b.getD i aB)>>=λr=>if !r then some (.inl false)else L (i+1)))
 (n:L a.length=some (.inr g)):(L 0=some (.inr g)/\a=b)\/(L 0=some (.inl false)/\a≠b):=by
 have k:∀(i:Nat) (h1:i<a.length) (c:i<b.length),eW (f (a.getD i aB,b.getD i aB)) a[i] b[i]:=by grind
 have l:∀(i:Nat) (h1:i<a.length) (c:i<b.length),(f (a.getD i aB,b.getD i aB)).getD false=true↔a[i]=b[i]:=by
  intro i h1 c;obtain⟨r,d,p⟩:=k i h1 c;grind
 have:=scan L a.length (λi=>(f (a.getD i aB,b.getD i aB)).getD false) (.inl false) (.inr g)
  (λi o=>by
   obtain⟨r,h1,c⟩:=k i o (by omega)
   grind) n
 rcases this with⟨h1,c⟩|⟨h1,j,c,d⟩
 . exact .inl ⟨h1,(wq af l).1 c⟩
 . refine .inr ⟨h1,λe=>?_⟩;have:=(wq af l).2 e j c;rw[d]at this;cases this
theorem Zj{a b:List aS}(d:a.length<=reachBytes)(e:∀m,m∈a->bJ m.bB):eW (Cq (a,b)) a b:=by
 rw[Cq];by_cases af:a.length=b.length
 . rw[ch];have ag:=dB d;have hs:=KK (g:=()) af (f:=yW) (λx k y=>abz (e x k) y) (λi=>pv (b,a,(a.length:Int),(i:Int)))
    (λi j=>by
     rw[pv,bA,ae (aP j)];simp only[aU,ao,a7,ju]
     rw[ae (aP (by omega)),bE])
    (by rw[pv,bz])
   have cZ:pv (b,a,(a.length:Int),((0:Nat):Int))=pv (b,a,(a.length:Int),0):=rfl;simp only[cZ]at hs;rcases hs with⟨h1,c⟩|⟨h1,c⟩
   . rw[h1];exact⟨true,rfl,by simp[c]⟩
   . rw[h1];exact⟨false,rfl,by simp[c]⟩
 . rw[bA];exact vS af
theorem My{a b:ai}:a=b↔a.Kind=b.Kind/\a.Name=b.Name/\a.bF=b.bF/\a.bH=b.bH/\a.Max=b.Max/\a.Key=b.Key/\a.aF=b.aF/\a.Open=b.Open/\a.bh=b.bh/\a.ah=b.ah:=by
 cases a;cases b;grind
theorem ad5{a b:ai}:(bif bif bif bif bif bif bif decide (a.Kind=b.Kind)then decide (a.Name=b.Name)else false then decide (a.bF=b.bF)else false then decide (a.bH=b.bH)else false then decide (a.Max=b.Max)else false then decide (a.Key=b.Key)else false then decide (a.aF=b.aF)else false then fy a.Open b.Open else false)=true↔
 a.Kind=b.Kind/\a.Name=b.Name/\a.bF=b.bF/\a.bH=b.bH/\a.Max=b.Max/\a.Key=b.Key/\a.aF=b.aF/\a.Open=b.Open:=by
 simp only[yD,fy];by_cases h1:a.Kind=b.Kind<;>by_cases c:a.Name=b.Name<;>by_cases d:a.bF=b.bF<;>by_cases e:a.bH=b.bH<;>simp[h1,c,d,e];by_cases bc:a.Max=b.Max<;>by_cases f:a.Key=b.Key<;>by_cases g:a.aF=b.aF<;>simp[bc,f,g]
theorem iW{a:ai}(h:e1 a)(b:ai):eW (hX (a,b)) a b:=by
 rw[hX];obtain⟨d,s1,g⟩:=ad4 (a:=a.bh) (b:=b.bh) (ij h.syms);obtain⟨c,e,f⟩:=Zj (a:=a.ah) (b:=b.ah) (ij h.gX) h.iK;have e8:=ad5 (a:=a) (b:=b);generalize (bif bif bif bif bif bif bif decide (a.Kind=b.Kind)then decide (a.Name=b.Name)else false then decide (a.bF=b.bF)else false then decide (a.bH=b.bH)else false then decide (a.Max=b.Max)else false then decide (a.Key=b.Key)else false then decide (a.aF=b.aF)else false then fy a.Open b.Open else false)=q at e8⊢;simp only[aU,ao];rw[s1,e];refine⟨q&&d&&c,by cases q<;>cases d<;>cases c<;>rfl,?_⟩;rw[My,cC,cC,e8,g,f];grind
theorem EA(a:ai):(⟨a.Kind,a.Name,a.bF,a.bH,a.Max,a.bh,a.ah,a.Key,a.aF,a.Open⟩:ai)=a:=by cases a;rfl
theorem pO{a:ai}(h:e1 a)(b:ai):eW (Cp (a,b)) a b:=by
 rw[Cp];simp only[EA];by_cases bc:(a.Kind=b.Kind/\a.Name=b.Name/\a.bF=b.bF/\a.bH=b.bH/\a.Max=b.Max/\a.Key=b.Key/\a.aF=b.aF/\a.Open=b.Open)/\a.bh.length=b.bh.length/\a.ah.length=b.ah.length
 . obtain⟨⟨aM,m,di,hL,jR,oZ,BK,e8⟩,d,Bq⟩:=bc;rw[al (by simp[aM,m,di,hL,jR,oZ,BK,e8,d,Bq,fy])];have ag:=dB (ij h.syms);have w:=dB (ij h.gX);have l:=scan (λi=>o5 ((i:Int),a,b)) a.bh.length (λi=>hN (a.bh.getD i dL).ad (b.bh.getD i dL).ad&&(iL (a.bh.getD i dL).Name (b.bh.getD i dL).Name&&true)) (.inl false) (.inr (a,b))
    (λi o=>by
     rw[o5,bA,ae (aP o)];simp only[aU,ao,a7];rw[ae (aP (by omega)),bE]
     grind)
    (by rw[o5,bz])
   have h0:o5 (((0:Nat):Int),a,b)=o5 (0,a,b):=rfl;simp only[h0]at l;have p:∀(i:Nat) (h1:i<a.bh.length) (k:i<b.bh.length),(hN (a.bh.getD i dL).ad (b.bh.getD i dL).ad&&(iL (a.bh.getD i dL).Name (b.bh.getD i dL).Name&&true))=true↔a.bh[i]=b.bh[i]:=λi h1 k=>by rw[du h1,du k];exact P4
   rcases l with⟨c,e⟩|⟨c,j,e,v⟩
   . have z:=(wq d p).1 e;rw[c];simp only[aU,ao];have hs:=KK (g:=()) Bq (f:=yh) (λx q y=>abA (h.iK x q) y) (λi=>o6 ((i:Int),a,b))
      (λi n=>by
       rw[o6,bA,ae (aP n)];simp only[aU,ao,a7,ju]
       rw[ae (aP (by omega)),bE])
      (by rw[o6,bz])
     have cZ:o6 (((0:Nat):Int),a,b)=o6 (0,a,b):=rfl;simp only[cZ]at hs;rcases hs with⟨k1,k2⟩|⟨k1,k2⟩
     . rw[k1];refine⟨true,rfl,?_⟩;rw[My];grind
     . rw[k1];refine⟨false,rfl,?_⟩;grind
   . rw[c];refine⟨false,rfl,?_⟩;grind
 . rw[ae]
   . refine⟨false,rfl,?_⟩;grind
   . simp only[yD,fy];by_cases r:a.Kind=b.Kind<;>by_cases s:a.Name=b.Name<;>by_cases t:a.bF=b.bF<;>by_cases u:a.bH=b.bH<;>simp[r,s,t,u];grind
def pV(v:I):Bool:=(lX (v,av)).getD false
theorem ac5(h:bJ v):lX (v,av)=some (pV v):=by
 obtain⟨r,h1,a⟩:=Dm h av;unfold pV;rw[h1];rfl
theorem ac6(h:bJ v):jI (v,av)=some (pV v):=by
 obtain⟨r,h1,b⟩:=Dm h av;obtain⟨q,a,c⟩:=D3 h av;unfold pV;rw[h1,a];grind
theorem ab6(h:bJ v):Cy v=some (pV v):=by
 rw[Cy,I.aV];have:=ac5 h;unfold av at this;grind
def mw(a:Bool)(m:aS):Bool:=(a&&(m.cg||m.bV))||(m.cg&&m.bV)||(!m.bV && !pV m.bB)
theorem bg{l:List α}{i:Nat}(h:i<l.length)(d:α):l.getD i d∈l:=by grind
theorem KD(h:e1 t):∃r,t' t=some r/\(r=true↔(∀i,i<t.ah.length->mw (decide (t.Kind=6)) (t.ah.getD i aB)=false)/\(t.Kind=5\/0<t.ah.length)/\(∀i,i<t.ah.length->kf (t.ah.map (·.ad)) (t.ah.map (·.Name)) i=true)/\t.ah.length<=16):=by
 have ag:t.ah.length<9223372036854775807:=dB (ij h.gX);have c:=scan (λi=>p0 (t.ah,(t.ah.length:Int),(i:Int),t,(t.ah.map (·.ad)).take i,(t.ah.map (·.Name)).take i)) t.ah.length (λi=>!(mw (decide (t.Kind=6)) (t.ah.getD i aB))) (.inl false) (.inr (t,t.ah.map (·.ad),t.ah.map (·.Name)))
  (λi a=>by
   have k:=ab6 (h.iK _ (bg a aB));rw[p0,bA,ae (aP a)];simp only[aU,ao,a7,I.aV];rw[<-hY (·.ad) t.ah i aB 0 a,<-hY (·.Name) t.ah i aB [] a,wA _ _ _ (by simpa using a),wA _ _ _ (by simpa using a)];have f:((t.ah.map (·.ad)).take (i+1)).length*24<=reachBytes:=by
    refine gv (eY _ ?_) h.gX;simp;omega
   have g:((t.ah.map (·.Name)).take (i+1)).length*24<=reachBytes:=(by grind);rw[ae (Cx (by omega) f),ae (Cx (by omega) g),bE,k];unfold mw
   grind)
  (by
   rw[p0,bz]
   rw[qd (by simp),qd (by simp)])
 have cZ:p0 (t.ah,(t.ah.length:Int),((0:Nat):Int),t,(t.ah.map (·.ad)).take 0,(t.ah.map (·.Name)).take 0)=p0 (t.ah,(t.ah.length:Int),0,t,[],[]):=rfl;simp only[cZ]at c;rw[t'];obtain⟨r,h1,e⟩:=P6 (l:=t.ah.map (·.ad)) (names:=t.ah.map (·.Name)) (by simpa using ij h.gX) (by simp);rw[iu]at e;rcases c with⟨b,d⟩|⟨b,j,d,m⟩
 . rw[b];simp only[aU,ao];rw[h1];refine⟨(bif decide (t.Kind=5)then true else decide (0<((t.ah.map (·.ad)).length:Int)))&&r,?_,?_⟩
   . grind
   grind
 grind
theorem ZN(l:List aS)(record:Bool)(af:l.length<=reachBytes)(i:Nat)(e:i<l.length):
 nY (l,record,(i:Int),0,l.getD i aB)=some (if((l.map (·.Name)).take i).contains ((l.map (·.Name)).getD i []) then .inl false else .inr (l,record,(i:Int),l.getD i aB)):=by
 have ag:=dB af;have c:=scan (λk=>nY (l,record,(i:Int),(k:Int),l.getD i aB)) i (λk=>!(decide ((l.getD k aB).Name=(l.getD i aB).Name))) (.inl false) (.inr (l,record,(i:Int),l.getD i aB))
  (λk b=>by
   rw[nY,bA,ae (aP (by omega)),bE];simp only[a7,ju]
   grind)
  (by rw[nY,bz,ju])
 have cZ:nY (l,record,(i:Int),((0:Nat):Int),l.getD i aB)=nY (l,record,(i:Int),0,l.getD i aB):=rfl;simp only[cZ]at c;rw[hY (·.Name) l i aB [] e];rcases c with⟨h1,a⟩|⟨h1,j,a,d⟩
 . rw[h1,al];rw[p8]
   rintro ⟨k,b,he⟩
   rw[hY (·.Name) l k aB [] (by omega)]at he;have:=a k b;rw[he]at this;simp at this
 . rw[h1,ae];rw[p8];refine⟨j,a,?_⟩;rw[hY (·.Name) l j aB [] (by omega)];simpa using d
theorem ZO{l:List aS}{record:Bool}(af:l.length<=reachBytes)(f:∀m,m∈l->bJ m.bB):∃r,vg (l,record)=some r/\(r=true↔(∀i,i<l.length->mw (!record) (l.getD i aB)=false)/\(record=true\/0<l.length)/\(∀i,i<l.length->kf (l.map (·.ad)) (l.map (·.Name)) i=true)/\l.length<=16):=by
 have ag:=dB af;have b:=scan (λi=>o' (l,record,lQ (l.map (·.ad)) i,(i:Int))) l.length (λi=>kf (l.map (·.ad)) (l.map (·.Name)) i && !(mw (!record) (l.getD i aB))) (.inl false) (.inr (l,record))
  (λi a=>by
   have c:=ac6 (f _ (bg a aB));unfold av at c;rw[o',bA,ae (aP a)];simp only[aU,ao,a7,I.aV,ju,OG (l:=l.map (·.ad)) (names:=l.map (·.Name)) (i:=i) (by simpa using a) (by simp)];rw[ZN l record af i a,c];have e:lQ (l.map (·.ad)) (i+1)=(l.getD i aB).ad:=by
    unfold lQ;grind
   rw[<-hY (·.ad) l i aB 0 a,<-hY (·.Name) l i aB [] a,SU,AJ];simp only[ao];generalize (decide (lQ (l.map (·.ad)) i<(l.map (·.ad)).getD i 0)&&decide (1<=(l.map (·.ad)).getD i 0)&&decide ((l.map (·.ad)).getD i 0<=1000))=q;cases q with
   |false=>simp
   |true=>
    simp only[db,eV,b5,ao,na];cases nm ((l.map (·.Name)).getD i [])with
    |false=>simp
    |true=>
     simp only[db,na,jg,dW];unfold mw;cases record<;>cases (l.getD i aB).cg<;>cases (l.getD i aB).bV<;>cases pV (l.getD i aB).bB <;>
      simp only[db,eV,Bool.or_self,Bool.and_self,Bool.or_true,Cg,Ca,Bool.and_false,Bool.false_and,na,Bool.false_or,jg,ev,dW,b5,b9,bZ,ao] <;>
      first
       |rfl
       |(cases k:((l.map (·.Name)).take i).contains ((l.map (·.Name)).getD i [])with
        |true=>simp
        |false=>
         simp only[bZ,b9,eV,b5];rw[bE,e]
         try rfl))
  (by rw[o',bz])
 have cZ:o' (l,record,lQ (l.map (·.ad)) 0,((0:Nat):Int))=o' (l,record,0,0):=rfl;simp only[cZ]at b;rw[vg];rcases b with⟨h1,d⟩|⟨h1,j,d,g⟩
 . rw[h1];refine⟨_,rfl,?_⟩;grind
 . rw[h1];refine⟨false,rfl,?_⟩;grind
theorem Lv(h:e1 t)(d:t.Kind=5\/t.Kind=6):∃r,t' t=some r/\vg (t.ah,decide (t.Kind=5))=some r:=by
 obtain⟨r,h1,a⟩:=KD h;obtain⟨q,b,c⟩:=ZO (l:=t.ah) (record:=decide (t.Kind=5)) (ij h.gX) h.iK;have e:(!(decide (t.Kind=5)))=decide (t.Kind=6):=by grind
 grind
theorem e1.plain{k l h m kk e:Int}{n:ak}{o:Bool}(aI:S.length*24<=reachBytes)(a:Ms.length*24<=reachBytes)(c:∀x,x∈Ms->bJ x.bB):e1 ⟨k,n,l,h,m,S,Ms,kk,e,o⟩:=⟨aI,a,c⟩
theorem ag1{L:Int}(h:e1 (⟨1,N,L,H,M,S,Ms,K,E,c⟩:ai)):∃r,gA (⟨1,N,L,H,M,S,Ms,K,E,c⟩:ai)=some r/\hI (⟨1,N,L,H,M,S,Ms,K,E,c⟩:ai)=some r/\(r=true->N=[]):=by
 obtain⟨a,a1,a2⟩:=iW (a:=(⟨0,N,L,H,M,S,Ms,K,E,c⟩:ai)) ⟨h.syms,h.gX,h.iK⟩ (⟨0,[],0,0,0,[],[],0,0,false⟩:ai);obtain⟨b,b1,b2⟩:=pO h (⟨1,[],0,0,0,[],[],0,0,false⟩:ai);have d:a=b:=by grind
 subst d;refine⟨a,by simp[gA,a1],by simp[hI,mG,j5,b1];try (cases a<;>rfl),λag=>?_⟩;grind
theorem ag2{L:Int}(h:e1 (⟨2,N,L,H,M,S,Ms,K,E,c⟩:ai)):∃r,gA (⟨2,N,L,H,M,S,Ms,K,E,c⟩:ai)=some r/\hI (⟨2,N,L,H,M,S,Ms,K,E,c⟩:ai)=some r/\(r=true->N=[]):=by
 obtain⟨a,a1,a2⟩:=iW (a:=(⟨0,N,0,0,M,S,Ms,K,E,c⟩:ai)) ⟨h.syms,h.gX,h.iK⟩ (⟨0,[],0,0,0,[],[],0,0,false⟩:ai);obtain⟨b,b1,b2⟩:=pO h (⟨2,[],L,H,0,[],[],0,0,false⟩:ai);have d:a=b:=by grind
 subst d;refine⟨decide (L<=H)&&a,?_,?_,λag=>?_⟩
 . simp only[gA];grind
 . simp only[hI];generalize decide (L<=H)=q;simp[mG,j5,b1];grind
 grind
theorem ag3{L:Int}(h:e1 (⟨3,N,L,H,M,S,Ms,K,E,c⟩:ai)):∃r,gA (⟨3,N,L,H,M,S,Ms,K,E,c⟩:ai)=some r/\hI (⟨3,N,L,H,M,S,Ms,K,E,c⟩:ai)=some r/\(r=true->N=[]):=by
 obtain⟨a,a1,a2⟩:=iW (a:=(⟨0,N,L,H,0,S,Ms,K,E,c⟩:ai)) ⟨h.syms,h.gX,h.iK⟩ (⟨0,[],0,0,0,[],[],0,0,false⟩:ai);obtain⟨b,b1,b2⟩:=pO h (⟨3,[],0,0,M,[],[],0,0,false⟩:ai);have d:a=b:=by grind
 subst d;refine⟨(bif decide (0<=M)then decide (M<=200)else false)&&a,?_,?_,λag=>?_⟩
 . simp only[gA];grind
 . simp only[hI];generalize (bif decide (0<=M)then decide (M<=200)else false)=q;simp[mG,j5,b1];grind
 grind
theorem ag4{L:Int}(h:e1 (⟨4,N,L,H,M,S,Ms,K,E,c⟩:ai)):∃r,gA (⟨4,N,L,H,M,S,Ms,K,E,c⟩:ai)=some r/\hI (⟨4,N,L,H,M,S,Ms,K,E,c⟩:ai)=some r/\(r=true->N≠[]):=by
 obtain⟨a,a1,a2⟩:=iW (a:=(⟨0,[],L,H,M,[],Ms,K,E,false⟩:ai)) ⟨(by simp),h.gX,h.iK⟩ (⟨0,[],0,0,0,[],[],0,0,false⟩:ai);obtain⟨b,b1,b2⟩:=pO h (⟨4,N,0,0,0,S,[],0,0,c⟩:ai);have e:a=b:=by grind
 subst e;obtain⟨q,f,d⟩:=aby (l:=S) h.syms;refine⟨nm N&&q&&a,?_,?_,λag=>?_⟩
 . simp only[gA];simp[a1,f,tS];grind
 . simp only[hI]
   try simp at d
   simp[mG,j5,b1,d,AJ];grind
 . simp only[cC]at ag;exact FK ag.1.1
theorem ag5{L:Int}(h:e1 (⟨5,N,L,H,M,S,Ms,K,E,c⟩:ai)):∃r,gA (⟨5,N,L,H,M,S,Ms,K,E,c⟩:ai)=some r/\hI (⟨5,N,L,H,M,S,Ms,K,E,c⟩:ai)=some r/\(r=true->N≠[]):=by
 obtain⟨a,a1,a2⟩:=iW (a:=(⟨0,[],L,H,M,S,[],K,E,(bif c then decide ((5:Int)=5)else false)⟩:ai)) ⟨h.syms,(by simp),(by simp)⟩ (⟨0,[],0,0,0,[],[],0,0,false⟩:ai);obtain⟨b,b1,b2⟩:=pO h (⟨5,N,0,0,0,[],Ms,0,0,false⟩:ai);have f:a=b:=by grind
 subst f;obtain⟨q,d,e⟩:=Lv h (by simp);refine⟨nm N&&q&&a,?_,?_,λag=>?_⟩
 . simp only[gA]
   try simp at a1
   try simp at d
   simp[a1,d,tS];grind
 . simp only[hI]
   try simp at e
   simp[mG,j5,b1,e,AJ];grind
 . simp only[cC]at ag;exact FK ag.1.1
theorem ag6{L:Int}(h:e1 (⟨6,N,L,H,M,S,Ms,K,E,c⟩:ai)):∃r,gA (⟨6,N,L,H,M,S,Ms,K,E,c⟩:ai)=some r/\hI (⟨6,N,L,H,M,S,Ms,K,E,c⟩:ai)=some r/\(r=true->N≠[]):=by
 obtain⟨a,a1,a2⟩:=iW (a:=(⟨0,[],L,H,M,S,[],K,E,(bif c then decide ((6:Int)=5)else false)⟩:ai)) ⟨h.syms,(by simp),(by simp)⟩ (⟨0,[],0,0,0,[],[],0,0,false⟩:ai);obtain⟨b,b1,b2⟩:=pO h (⟨6,N,0,0,0,[],Ms,0,0,c⟩:ai);have f:a=b:=by grind
 subst f;obtain⟨q,d,e⟩:=Lv h (by simp);refine⟨nm N&&q&&a,?_,?_,λag=>?_⟩
 . simp only[gA]
   try simp at a1
   try simp at d
   simp[a1,d,tS];grind
 . simp only[hI]
   try simp at e
   simp[mG,j5,b1,e,AJ];grind
 . simp only[cC]at ag;exact FK ag.1.1
theorem ag7{L:Int}(h:e1 (⟨7,N,L,H,M,S,Ms,K,E,c⟩:ai)):∃r,gA (⟨7,N,L,H,M,S,Ms,K,E,c⟩:ai)=some r/\hI (⟨7,N,L,H,M,S,Ms,K,E,c⟩:ai)=some r/\(r=true->N=[]):=by
 obtain⟨a,a1,a2⟩:=iW (a:=(⟨0,N,L,H,0,S,Ms,K,0,c⟩:ai)) ⟨h.syms,h.gX,h.iK⟩ (⟨0,[],0,0,0,[],[],0,0,false⟩:ai);obtain⟨b,b1,b2⟩:=pO h (⟨7,[],0,0,M,[],[],0,E,false⟩:ai);have d:a=b:=by grind
 subst d;refine⟨(bif decide (0<=M)then decide (M<=50)else false)&&a,?_,?_,λag=>?_⟩
 . simp only[gA];grind
 . simp only[hI];generalize (bif decide (0<=M)then decide (M<=50)else false)=q;simp[mG,j5,b1];grind
 grind
theorem ag8{L:Int}(h:e1 (⟨8,N,L,H,M,S,Ms,K,E,c⟩:ai)):∃r,gA (⟨8,N,L,H,M,S,Ms,K,E,c⟩:ai)=some r/\hI (⟨8,N,L,H,M,S,Ms,K,E,c⟩:ai)=some r/\(r=true->N=[]):=by
 obtain⟨a,a1,a2⟩:=iW (a:=(⟨0,N,L,H,0,S,Ms,0,0,c⟩:ai)) ⟨h.syms,h.gX,h.iK⟩ (⟨0,[],0,0,0,[],[],0,0,false⟩:ai);obtain⟨b,b1,b2⟩:=pO h (⟨8,[],0,0,M,[],[],K,E,false⟩:ai);have d:a=b:=by grind
 subst d;refine⟨(bif decide (0<=M)then decide (M<=50)else false)&&a,?_,?_,λag=>?_⟩
 . simp only[gA];grind
 . simp only[hI];generalize (bif decide (0<=M)then decide (M<=50)else false)=q;simp[mG,j5,b1];grind
 grind
theorem ag9{L:Int}(h:e1 (⟨9,N,L,H,M,S,Ms,K,E,c⟩:ai)):∃r,gA (⟨9,N,L,H,M,S,Ms,K,E,c⟩:ai)=some r/\hI (⟨9,N,L,H,M,S,Ms,K,E,c⟩:ai)=some r/\(r=true->N=[]):=by
 obtain⟨a,a1,a2⟩:=iW (a:=(⟨0,N,L,H,M,S,Ms,K,0,c⟩:ai)) ⟨h.syms,h.gX,h.iK⟩ (⟨0,[],0,0,0,[],[],0,0,false⟩:ai);obtain⟨b,b1,b2⟩:=pO h (⟨9,[],0,0,0,[],[],0,E,false⟩:ai);have d:a=b:=by grind
 subst d;refine⟨a,by simp[gA,a1],by simp[hI,mG,j5,b1];try (cases a<;>rfl),λag=>?_⟩;grind
def ky(k:Int):Bool:=bif bif decide (k=4)then true else decide (k=5)then true else decide (k=6)
theorem Lw(h:e1 t):∃r,gA t=some r/\hI t=some r/\(r=true->1<=t.Kind/\t.Kind<=9/\ky t.Kind=!(decide (t.Name=[]))):=by
 by_cases a:1<=t.Kind/\t.Kind<=9
 . obtain⟨d,N,L,H,M,S,Ms,K,E,f⟩:=t;simp only at a;have:d=1\/d=2\/d=3\/d=4\/d=5\/d=6\/d=7\/d=8\/d=9:=(by omega);rcases this with rfl|rfl|rfl|rfl|rfl|rfl|rfl|rfl|rfl
   . obtain⟨r,h1,b,c⟩:=ag1 h;exact⟨r,h1,b,λag=>⟨a.1,a.2,by simp[ky,c ag]⟩⟩
   . obtain⟨r,h1,b,c⟩:=ag2 h;exact⟨r,h1,b,λag=>⟨a.1,a.2,by simp[ky,c ag]⟩⟩
   . obtain⟨r,h1,b,c⟩:=ag3 h;exact⟨r,h1,b,λag=>⟨a.1,a.2,by simp[ky,c ag]⟩⟩
   . obtain⟨r,h1,b,c⟩:=ag4 h;exact⟨r,h1,b,λag=>⟨a.1,a.2,by simp[ky,c ag]⟩⟩
   . obtain⟨r,h1,b,c⟩:=ag5 h;exact⟨r,h1,b,λag=>⟨a.1,a.2,by simp[ky,c ag]⟩⟩
   . obtain⟨r,h1,b,c⟩:=ag6 h;exact⟨r,h1,b,λag=>⟨a.1,a.2,by simp[ky,c ag]⟩⟩
   . obtain⟨r,h1,b,c⟩:=ag7 h;exact⟨r,h1,b,λag=>⟨a.1,a.2,by simp[ky,c ag]⟩⟩
   . obtain⟨r,h1,b,c⟩:=ag8 h;exact⟨r,h1,b,λag=>⟨a.1,a.2,by simp[ky,c ag]⟩⟩
   . obtain⟨r,h1,b,c⟩:=ag9 h;exact⟨r,h1,b,λag=>⟨a.1,a.2,by simp[ky,c ag]⟩⟩
 . refine⟨false,?_,?_,λh=>by cases h⟩
   . have e:∀k:Int,1<=k->k<=9->¬t.Kind=k:=λk h1 b e=>a (by omega);simp[gA,e 1,e 2,e 3,e 4,e 5,e 6,e 7,e 8,e 9]
   . have e:(bif decide (t.Kind<1)then true else decide (9<t.Kind))=true:=(by grind);rw[hI,e];rfl
def fl(t:ai):ar:=t.ah.map (·.aw)++(if t.Kind=8 then[t.Key]else[])++(if 7<=t.Kind then[t.aF]else[])
theorem wS{k n:Nat}(a:k<=16){m:Nat}(h:m*24<=reachBytes)(aG:n<=m+2):room k n=true:=by
 unfold room ka eI;unfold reachBytes at h;simp only[cC,dO];have:(2*n+192)*k<=(2*n+192)*16:=Nat.mul_le_mul_left _ a;omega
theorem KE(t:ai)(h:t.ah.length*24<=reachBytes):∀(k i:Nat),i+k=t.ah.length->q1 (t.ah,(t.ah.length:Int),(i:Int),t,(t.ah.map (·.aw)).take i)=some (t,t.ah.map (·.aw))
 |0,i,a=>by rw[q1,ch,qd (by simp;omega)]
 |k+1,i,a=>by
  have ag:=dB (ij h);have aC:i<t.ah.length:=by omega
  rw[q1,bA,ae (aP aC)];simp only[aU,ao,a7];rw[<-hY (·.aw) t.ah i aB 0 aC,wA _ _ _ (by simpa using aC),bE,ae (wS (m:=t.ah.length) (by omega) h (by simp;omega))];exact KE t h k (i+1) (by omega)
theorem ac7(h:t.ah.length*24<=reachBytes):DK t=some (fl t):=by
 have h0:=KE t h t.ah.length 0 (by omega);have a:q1 (t.ah,(t.ah.length:Int),0,t,[])=some (t,t.ah.map (·.aw)):=h0;rw[DK,a];unfold fl;simp only[aU,ao];have b:room 8 (t.ah.map (·.aw)++[t.Key]).length=true:=wS (m:=t.ah.length) (by omega) h (by simp);have c:room 8 (t.ah.map (·.aw)++[t.Key]++[t.aF]).length=true:=wS (m:=t.ah.length) (by omega) h (by simp);grind
theorem KF(t:ai)(h:t.ah.length*24<=reachBytes):∀(k i:Nat),i+k=t.ah.length->rD ((i:Int),t,(t.ah.map (·.aw)).take i)=some (t,t.ah.map (·.aw))
 |0,i,a=>by rw[rD,ch,qd (by simp;omega)]
 |k+1,i,a=>by
  have ag:=dB (ij h);have aC:i<t.ah.length:=by omega
  rw[rD,bA,ae (aP aC)];simp only[aU,ao,a7];rw[<-hY (·.aw) t.ah i aB 0 aC,wA _ _ _ (by simpa using aC),bE,ae (wS (m:=t.ah.length) (by omega) h (by simp;omega))];exact KF t h k (i+1) (by omega)
theorem ac8(h:t.ah.length*24<=reachBytes)(b:t.Kind<=9):CF t=some (fl t):=by
 have h0:=KF t h t.ah.length 0 (by omega);have a:rD (0,t,[])=some (t,t.ah.map (·.aw)):=h0;rw[CF,a];unfold fl;simp only[aU,ao];have c:room 8 (t.ah.map (·.aw)++[t.Key]).length=true:=wS (m:=t.ah.length) (by omega) h (by simp);have d:room 8 (t.ah.map (·.aw)++[t.Key]++[t.aF]).length=true:=wS (m:=t.ah.length) (by omega) h (by simp);grind
theorem ac9(k:Int):j5 k=some (ky k):=rfl
def s'(k:Int):Bool:=bif decide (1<=k)then decide (k<=4)else false
def lF(n:Nat)(u:Int):Bool:=bif decide (u<0)then true else decide ((n:Int)<=u)
def r9(ts:List ai)(i:Nat):Option Int:=
 let t:=ts.getD i aJ
 if !((gA t).getD false)then some 1 else if !(decide (t.Name=[]))&&((ts.map (·.Name)).take i).contains t.Name then some 1 else if(fl t).any (lF ts.length)then some 4 else if decide (t.Kind=8) && !(s' (ts.getD t.Key.toNat aJ).Kind)then some 1 else none
theorem Ie{i:Nat}{r:Bool}(c9:ts.getD i aJ=t)(f1:gA t=some r):
 r9 ts i=if !r then some 1 else if !(t.Name=[]:Bool)&&((ts.map (·.Name)).take i).contains t.Name then some 1 else if(fl t).any (lF ts.length) then some 4 else if((t.Kind=8:Bool) && !(s' (ts.getD t.Key.toNat aJ).Kind)) then some 1 else none:=by
 subst c9;unfold r9;simp only[f1,qf]
theorem Mz{e:Type}(L:Nat->Option e)(l:ar)(q:Int->Bool)(a b:e)(o:∀i,i<l.length->L i=if q (l.getD i 0)then some a else L (i+1))(g:L l.length=some b):
 L 0=some (if l.any q then a else b):=by
 have:=scan L l.length (λi=>!(q (l.getD i 0))) a b (λi n=>by grind) g;rcases this with⟨h1,c⟩|⟨h1,j,c,f⟩
 . rw[h1,al];intro h;rw[F3]at h;obtain⟨x,m,k⟩:=h;obtain⟨j,d,he⟩:=e3 m;have:=c j d;rw[du d,he,k]at this;cases this
 . rw[h1,ae];rw[F3];refine⟨l.getD j 0,bg c 0,by simpa using f⟩
theorem Lx(h:t.ah.length*24<=reachBytes):(fl t).length<9223372036854775807:=by
 unfold fl reachBytes at*;grind
theorem ad6{L:Nat->Option (Int ⊕ Unit)}{n:Nat}{step:Nat->Option Int}
 (h:∀i,i<n->L i=match step i with|some e=>some (.inl e)|none=>L (i+1))(he:L n=some (.inr ()))
 (j:∀i,i<n->L' i=match step i with|some e=>some (.inl e)|none=>L' (i+1))(l:L' n=some (.inr ())):∃o,L 0=some o/\L' 0=some o/\((o= .inr ()/\∀i,i<n->step i=none)\/∃i e,i<n/\step i=some e/\o= .inl e):=by
 have key:∀k i,i+k=n->∃o,L i=some o/\L' i=some o/\((o= .inr ()/\∀m,i<=m->m<n->step m=none)\/∃m e,m<n/\step m=some e/\o= .inl e):=by
  intro k;induction k with
  |zero=> intro i c; have:i = n:= by omega
          subst this;exact⟨_,he,l,.inl ⟨rfl,λm h1 q=>by omega⟩⟩
  |succ k ih=>
   intro i c;rw[h i (by omega),j i (by omega)];cases p:step i with
   |some e=>exact⟨_,rfl,rfl,.inr ⟨i,e,by omega,p,rfl⟩⟩
   |none=>
    obtain⟨o,d,f,g⟩:=ih (i+1) (by omega);grind
 obtain⟨o,d,f,g⟩:=key n 0 (by omega);refine⟨o,d,f,?_⟩;rcases g with⟨a,b⟩|h
 . exact .inl ⟨a,λi c=>b i (hv _) c⟩
 . exact .inr h
theorem P7(a:(fl t).any (lF ts.length)=false)(b:t.Kind=8):aH t.Key ts.length=true:=by
 have c:t.Key∈fl t:=by unfold fl;simp[b]
 rw[List.any_eq_false]at a;have:=a _ c;unfold lF at this;unfold aH;grind
theorem ad7(ts:List ai)(t:ai)(i:Nat)(e:i<ts.length)(ag:ts.length<9223372036854775807):
 n0 ((i:Int),0,ts,t.Kind,t.Name,t.bF,t.bH,t.Max,t.bh,t.ah,t.Key,t.aF,t.Open)=some (if(ky t.Kind&&((ts.map (·.Name)).take i).contains t.Name) then .inl 1 else .inr ((i:Int),ts,t.Kind,t.Name,t.bF,t.bH,t.Max,t.bh,t.ah,t.Key,t.aF,t.Open)):=by
 have d:=scan (λk=>n0 ((i:Int),(k:Int),ts,t.Kind,t.Name,t.bF,t.bH,t.Max,t.bh,t.ah,t.Key,t.aF,t.Open)) i (λk=>!(bif ky t.Kind then decide ((ts.getD k aJ).Name=t.Name)else false)) (.inl 1) (.inr ((i:Int),ts,t.Kind,t.Name,t.bF,t.bH,t.Max,t.bh,t.ah,t.Key,t.aF,t.Open))
  (λk c=>by
   rw[n0,bA,ac9];simp only[aU,ao];rw[ae (by rw[aP (show k<ts.length by omega)];rfl),bE,a7]
   grind)
  (by rw[n0,bz])
 have cZ:n0 ((i:Int),((0:Nat):Int),ts,t.Kind,t.Name,t.bF,t.bH,t.Max,t.bh,t.ah,t.Key,t.aF,t.Open)=n0 ((i:Int),0,ts,t.Kind,t.Name,t.bF,t.bH,t.Max,t.bh,t.ah,t.Key,t.aF,t.Open):=rfl;simp only[cZ]at d;rcases d with⟨h1,b⟩|⟨h1,j,b,a⟩
 . rw[h1,al];rw[cC,p8]
   rintro ⟨aG,k,c,he⟩
   rw[hY (·.Name) ts k aJ [] (by omega)]at he;have:=b k c;rw[aG,he]at this;simp at this
 . rw[h1,ae];rw[cC,p8];cases aG:ky t.Kind with
   |false=>rw[aG]at a;cases a
   |true=>
    refine⟨rfl,j,b,?_⟩;rw[hY (·.Name) ts j aJ [] (by omega)];rw[aG]at a;simpa using a
theorem ad8(ts:List ai)(t:ai)(i:Nat)(l:ar)(af:l.length<9223372036854775807):
 rv ((i:Int),l,0,ts,t.Kind,t.Name,t.bF,t.bH,t.Max,t.bh,t.ah,t.Key,t.aF,t.Open)=some (if l.any (lF ts.length) then .inl 4 else .inr ((i:Int),ts,t.Kind,t.Name,t.bF,t.bH,t.Max,t.bh,t.ah,t.Key,t.aF,t.Open)):=
 Mz (λj=>rv ((i:Int),l,(j:Int),ts,t.Kind,t.Name,t.bF,t.bH,t.Max,t.bh,t.ah,t.Key,t.aF,t.Open)) l (lF ts.length) (.inl 4) (.inr ((i:Int),ts,t.Kind,t.Name,t.bF,t.bH,t.Max,t.bh,t.ah,t.Key,t.aF,t.Open))
  (λj a=>by
   rw[rv,bA,ae (aP a)];simp only[aU,ao];rw[ae (by rw[aP a];rfl),bE]
   rfl)
  (by rw[rv,bz])
theorem ZP{s:aT}(hs:s.Types.length<=reachBytes)(ht:∀t,t∈s.Types->e1 t):∃e,pC s=some e/\vn s=some e/\(e=0->s.Types.length<=32/\∀i,i<s.Types.length->r9 s.Types i=none)/\((s.Types.length<=32/\∀i,i<s.Types.length->r9 s.Types i=none)->e=0)/\e≠12:=by
 rw[pC,vn];by_cases z:32<s.Types.length
 . exact⟨3,by rw[bA],by rw[bA],λh=>(by cases h),λh=>absurd h.1 (by omega),by decide⟩
 . rw[ch,ch];have ag:s.Types.length<9223372036854775807:=(by omega);have:=ad6 (L:=λi=>qX (s.Types,(s.Types.length:Int),(i:Int),s.Types,kT ((s.Types.map (·.Name)).take i))) (L':=λi=>pg ((i:Int),s.Types)) (n:=s.Types.length) (step:=r9 s.Types)
    (λi a=>by
     have b:=ht _ (bg a aJ);obtain⟨r,f1,f2,f3⟩:=Lw b;rw[qX,bA,ae (aP a)];simp only[aU,ao,a7];generalize c9:s.Types.getD i aJ=t at*;rw[Ie c9 f1,f1];simp only[ao,KA];cases r with
     |false=>rw[ae (show(bif (!false)then true else bif (!(decide (t.Name=[])))then((s.Types.map (·.Name)).take i).contains t.Name else false)=true from rfl),ae (show(!false)=true from rfl)]
     |true=>
      rw[al (show ¬((!true)=true) by simp)];by_cases k:(!(decide (t.Name=[]))&&((s.Types.map (·.Name)).take i).contains t.Name)=true
      . grind
      . have v:¬((bif (!(decide (t.Name=[])))then((s.Types.map (·.Name)).take i).contains t.Name else false)=true):=(by grind);rw[al (show ¬((bif (!true)then true else bif (!(decide (t.Name=[])))then((s.Types.map (·.Name)).take i).contains t.Name else false)=true)from v),al k,ac7 b.gX];simp only[ao];have A:=Lx b.gX;have w:=Mz (λj=>p1 (s.Types,(s.Types.length:Int),(i:Int),fl t,((fl t).length:Int),(j:Int),s.Types,iT (kT ((s.Types.map (·.Name)).take i)) t.Name,t.Kind,t.Name,t.bF,t.bH,t.Max,t.bh,t.ah,t.Key,t.aF,t.Open)) (fl t) (lF s.Types.length) (.inl 4)
         (.inr (s.Types,(s.Types.length:Int),(i:Int),s.Types,iT (kT ((s.Types.map (·.Name)).take i)) t.Name,t.Kind,t.Name,t.bF,t.bH,t.Max,t.bh,t.ah,t.Key,t.aF,t.Open))
         (λj x=>by
          rw[p1,bA,ae (aP x),bE]
          rfl)
         (by rw[p1,bz])
        have cZ:p1 (s.Types,(s.Types.length:Int),(i:Int),fl t,((fl t).length:Int),((0:Nat):Int),s.Types,iT (kT ((s.Types.map (·.Name)).take i)) t.Name,t.Kind,t.Name,t.bF,t.bH,t.Max,t.bh,t.ah,t.Key,t.aF,t.Open)=p1 (s.Types,(s.Types.length:Int),(i:Int),fl t,((fl t).length:Int),0,s.Types,iT (kT ((s.Types.map (·.Name)).take i)) t.Name,t.Kind,t.Name,t.bF,t.bH,t.Max,t.bh,t.ah,t.Key,t.aF,t.Open):=rfl;rw[<-cZ,w];cases f:(fl t).any (lF s.Types.length)with
        |true=>rfl
        |false=>
         simp only[bZ,b9,ao];have y:iT (kT ((s.Types.map (·.Name)).take i)) t.Name=kT ((s.Types.map (·.Name)).take (i+1)):=by
          have h1:=KB (l:=s.Types.map (·.Name)) (i:=i) (by simpa using a);grind
         rw[y,bE];by_cases c:t.Kind=8
         . have d:=P7 f c;rw[ae (by rw[d];rfl),ae (by rw[d];rfl)];simp only[c,de,ev,na,s'];grind
         grind)
    (by rw[qX,bz])
    (λi a=>by
     have b:=ht _ (bg a aJ);obtain⟨r,f1,f2,f3⟩:=Lw b;rw[pg,bA,ae (aP a)];simp only[aU,ao,a7];generalize c9:s.Types.getD i aJ=t at*;rw[Ie c9 f1,f2,ad7 s.Types t i a ag];simp only[ao];cases r with
     |false=>rfl
     |true=>
      obtain⟨k1,k2,k3⟩:=f3 rfl;rw[al (show ¬((!true)=true) by simp),al (show ¬((!true)=true) by simp),k3];cases k:(!(decide (t.Name=[]))&&((s.Types.map (·.Name)).take i).contains t.Name)with
      |true=>rfl
      |false=>
       simp only[bZ,b9,EA];rw[ac8 b.gX k2];simp only[ao];rw[ad8 s.Types t i (fl t) (Lx b.gX)];cases f:(fl t).any (lF s.Types.length)with
       |true=>rfl
       |false=>
        simp only[bZ,b9,ao];rw[bE];by_cases c:t.Kind=8
        . have d:=P7 f c;rw[ae (by rw[d];rfl)];simp only[c,de,b5,yk,ao,ev,na];show(if !(s' (s.Types.getD t.Key.toNat aJ).Kind) then some (.inl 1)else pg (((i+1:Nat):Int),s.Types))=_;grind
        grind)
    (by rw[pg,bz])
   obtain⟨o,h1,p,u⟩:=this;have m:qX (s.Types,(s.Types.length:Int),0,s.Types,[])=some o:=h1;have q:pg (0,s.Types)=some o:=p;rw[m,q];rcases u with⟨rfl,g⟩|⟨i,e,g,bc,rfl⟩
   . simp_all
   . refine⟨_,rfl,rfl,λh0=>?_,λh=>(by have:=h.2 i g;rw[bc]at this;cases this),λh=>?_⟩
     . exfalso;subst h0;unfold r9 at bc;grind
     . subst h;unfold r9 at bc;grind
theorem qM{d:Type}(L:Nat->Option d)(n:Nat)(q:Nat->Bool)(a:Nat->d)(c:d)(g:∀i,i<n->L i=if q i then some (a i)else L (i+1))(e:L n=some c):
 (∃j,j<n/\q j=true/\(∀k,k<j->q k=false)/\L 0=some (a j))\/((∀k,k<n->q k=false)/\L 0=some c):=by
 have key:∀k i,i+k=n->(∀m,m<i->q m=false)->L 0=L i->(∃j,j<n/\q j=true/\(∀k,k<j->q k=false)/\L 0=some (a j))\/((∀k,k<n->q k=false)/\L 0=some c):=by
  intro k;induction k with
  |zero=> intro i f b h0; have:i = n:= by omega
          subst this;exact .inr ⟨b,by rw[h0,e]⟩
  |succ k ih=>
   intro i f b h0;rw[g i (by omega)]at h0;grind
 exact key n 0 (by omega) (λm b=>by omega) rfl
def ui(l:List aS)(id:Int)(r:Int×Bool):Prop:=(∃j:Nat,j<l.length/\(l.getD j aB).ad=id/\(∀k,k<j->(l.getD k aB).ad≠id)/\r=((j:Int),true))\/((∀k,k<l.length->(l.getD k aB).ad≠id)/\r=(0,false))
theorem Ho{l:List aS}{r q:Int×Bool}(h1:ui l id r)(a:ui l id q):r=q:=by
 rcases h1 with⟨j,a1,a2,a3,rfl⟩|⟨a1,rfl⟩<;>rcases a with⟨k,b1,b2,b3,rfl⟩|⟨b1,rfl⟩
 . grind
 . grind
 . grind
 . rfl
theorem vy(af:t.ah.length<9223372036854775807):∃r,hh (t,id)=some r/\ui t.ah id r:=by
 rw[hh,GV];have h:=qM (λi=>pw (t.ah,(t.ah.length:Int),(i:Int),id)) t.ah.length (λi=>decide ((t.ah.getD i aB).ad=id)) (λi=>.inl ((i:Int),id)) (.inr id)
  (λi e=>by
   rw[pw,bA,ae (aP e)];simp only[aU,ao,a7,ju,GH]
   rw[bE])
  (by rw[pw,bz])
 have cZ:pw (t.ah,(t.ah.length:Int),((0:Nat):Int),id)=pw (t.ah,(t.ah.length:Int),0,id):=rfl;simp only[cZ]at h;rcases h with⟨j,h1,c,d,a⟩|⟨h1,a⟩
 . rw[a];refine⟨((j:Int),true),?_,.inl ⟨j,h1,by simpa using c,λk b=>by simpa using d k b,rfl⟩⟩;have aM:iq (j:Int) 0=(j:Int):=by unfold iq;omega
   simp_all
 . rw[a];exact⟨(0,false),rfl,.inr ⟨λk b=>by simpa using h1 k b,rfl⟩⟩
theorem CM(af:t.ah.length<9223372036854775807):∃r,hE (t,id)=some r/\ui t.ah id r:=by
 rw[hE];have h:=qM (λi=>pb (id,(i:Int),t)) t.ah.length (λi=>decide ((t.ah.getD i aB).ad=id)) (λi=>.inl ((i:Int),true)) (.inr ())
  (λi e=>by
   rw[pb,bA,ae (aP e),bE]
   grind)
  (by rw[pb,bz])
 have cZ:pb (id,((0:Nat):Int),t)=pb (id,0,t):=rfl;simp only[cZ]at h;rcases h with⟨j,h1,c,d,a⟩|⟨h1,a⟩
 . rw[a];exact⟨((j:Int),true),rfl,.inl ⟨j,h1,by simpa using c,λk b=>by simpa using d k b,rfl⟩⟩
 . rw[a];exact⟨(0,false),rfl,.inr ⟨λk b=>by simpa using h1 k b,rfl⟩⟩
theorem mO(id:Int)(af:t.ah.length<9223372036854775807):∃r,hh (t,id)=some r/\hE (t,id)=some r/\ui t.ah id r:=by
 obtain⟨r,h1,a⟩:=vy (id:=id) af;obtain⟨q,c,b⟩:=CM (id:=id) af;have:=Ho a b;grind
def wT(l:List c3)(id:Int)(r:Int×Bool):Prop:=(∃j:Nat,j<l.length/\(l.getD j dL).ad=id/\(∀k,k<j->(l.getD k dL).ad≠id)/\r=((j:Int),true))\/((∀k,k<l.length->(l.getD k dL).ad≠id)/\r=(0,false))
theorem YZ{l:List c3}{r q:Int×Bool}(h1:wT l id r)(a:wT l id q):r=q:=by
 rcases h1 with⟨j,a1,a2,a3,rfl⟩|⟨a1,rfl⟩<;>rcases a with⟨k,b1,b2,b3,rfl⟩|⟨b1,rfl⟩
 . grind
 . grind
 . grind
 . rfl
theorem q9(id:Int)(af:t.bh.length<9223372036854775807):∃r,tn (t,id)=some r/\sY (t,id)=some r/\wT t.bh id r:=by
 rw[tn,GU,sY];have h:=qM (λi=>ny (t.bh,(t.bh.length:Int),(i:Int),id)) t.bh.length (λi=>decide ((t.bh.getD i dL).ad=id)) (λi=>.inl ((i:Int),id)) (.inr id)
  (λi f=>by
   rw[ny,bA,ae (aP f)];simp only[aU,ao,a7,GG]
   rw[bE])
  (by rw[ny,bz])
 have cZ:ny (t.bh,(t.bh.length:Int),((0:Nat):Int),id)=ny (t.bh,(t.bh.length:Int),0,id):=rfl;have g:=qM (λi=>n2 (id,(i:Int),t)) t.bh.length (λi=>decide ((t.bh.getD i dL).ad=id)) (λi=>.inl ((i:Int),true)) (.inr ())
  (λi f=>by
   rw[n2,bA,ae (aP f),bE]
   grind)
  (by rw[n2,bz])
 have m:n2 (id,((0:Nat):Int),t)=n2 (id,0,t):=rfl;simp only[cZ]at h;simp only[m]at g;have n:∃r,(ny (t.bh,(t.bh.length:Int),0,id)>>=λo=>match o with|.inl c=>some (c.1,c.2)|.inr l=>some ((-1),l))>>=(λr=>some (iq r.1 0,decide (0<=r.1)))=some r/\wT t.bh id r:=by
  rcases h with⟨j,h1,d,e,a⟩|⟨h1,a⟩
  . rw[a];refine⟨((j:Int),true),?_,.inl ⟨j,h1,by simpa using d,λk b=>by simpa using e k b,rfl⟩⟩;have aM:iq (j:Int) 0=(j:Int):=by unfold iq;omega
    simp_all
  . rw[a];exact⟨(0,false),rfl,.inr ⟨λk b=>by simpa using h1 k b,rfl⟩⟩
 have dy:∃r,(n2 (id,0,t)>>=λo=>match o with|.inl c=>some (c.1,c.2)|.inr l=>some (0,false))=some r/\wT t.bh id r:=by
  rcases g with⟨j,h1,d,e,a⟩|⟨h1,a⟩
  . rw[a];exact⟨((j:Int),true),rfl,.inl ⟨j,h1,by simpa using d,λk b=>by simpa using e k b,rfl⟩⟩
  . rw[a];exact⟨(0,false),rfl,.inr ⟨λk b=>by simpa using h1 k b,rfl⟩⟩
 obtain⟨r,a1,a2⟩:=n;obtain⟨q,b1,b2⟩:=dy;have:=YZ a2 b2;grind
def fE(n:Int):Int:=if 0<=n then 2*n else -2*n-1
theorem OI{a b:Int}(h:fE a=fE b):a=b:=by
 unfold fE at h;split at h<;>split at h<;>omega
def cw(n:Int):Prop:= -9223372036854775808<=n/\n<=9223372036854775807
theorem uj{n:Int}(h:cw n):vh n=some (fE n):=by
 obtain⟨h1,f⟩:=h;rw[vh];unfold fE;by_cases h0:0<=n
 . rw[ae (by simp[h0]),ae h0];obtain⟨k,rfl⟩:∃k:Nat,n=(k:Int):=⟨n.toNat,by omega⟩
   rw[hA];have:=uo (a:=2) (b:=k) (by omega);grind
 . rw[al (by simp[h0]),al h0];rw[kc,hK];obtain⟨k,e⟩:∃k:Nat,0-(n+1)=(k:Int):=⟨(0-(n+1)).toNat,by omega⟩
   rw[e,hA];have c:=uo (a:=2) (b:=k) (by omega);have d:gB .u64 2 (k:Int)=((2*k:Nat):Int):=c;rw[d];have g:=su (a:=2*k) (b:=1) (by omega);grind
theorem ab7(a:Nat)(h:a<18446744073709551616):uM .u64 (a:Int) 0=(a:Int):=by
 have e:(BitVec.ofInt 64 (a:Int) ^^^ BitVec.ofInt 64 (0:Int)).toNat=a:=by grind
 show IntKind.u64.wrap (((BitVec.ofInt 64 (a:Int) ^^^ BitVec.ofInt 64 (0:Int)).toNat:Nat):Int)=_;rw[e];exact kV
theorem ab8(a:Nat)(h:a<18446744073709551616):uM .u64 (a:Int) 18446744073709551615=((18446744073709551615-a:Nat):Int):=by
 have e:(BitVec.ofInt 64 (a:Int) ^^^ BitVec.ofInt 64 (18446744073709551615:Int)).toNat=18446744073709551615-a:=by
  have h1:BitVec.ofInt 64 (18446744073709551615:Int)=BitVec.allOnes 64:=by decide
  rw[h1,wG,BitVec.xor_allOnes,BitVec.toNat_not,wJ,w5,ow h]
 all_goals (try omega)
 show IntKind.u64.wrap (((BitVec.ofInt 64 (a:Int) ^^^ BitVec.ofInt 64 (18446744073709551615:Int)).toNat:Nat):Int)=_;rw[e];exact kV
theorem ahO{n:Int}(h:cw n):lG .i64 n 63=if 0<=n then 0 else -1:=by
 obtain⟨h1,a⟩:=h;unfold lG;have e:((2:Int)^min (63:Int).toNat IntKind.i64.bits)=9223372036854775808:=by decide
 grind
theorem DV{n:Int}(h:cw n):vA n=some (fE n):=by
 rw[vA,ahO h];obtain⟨h1,a⟩:=h;unfold fE;have hs:∀m:Int,nd .u64 m 1=IntKind.u64.wrap (m*2):=by
  intro m;unfold nd;rfl
 rw[hs]
 congr 1
 by_cases h0:0<=n
 . rw[ae h0,ae h0];obtain⟨k,rfl⟩:∃k:Nat,n=(k:Int):=⟨n.toNat,by omega⟩
   rw[hA,kV];have:bU .u64 0=0:=(by decide);rw[this];have:=ab7 (2*k) (by omega);grind
 . rw[al h0,al h0];have:bU .u64 (-1)=18446744073709551615:=(by decide);rw[this];obtain⟨k,b⟩:∃k:Nat,n+9223372036854775808=(k:Int):=⟨(n+9223372036854775808).toNat,by omega⟩
   have e:IntKind.u64.wrap (bU .u64 n*2)=((2*k:Nat):Int):=by
    unfold bU;rw[IntKind.wrap_u64,IntKind.wrap_u64];omega
   rw[e,ab8 _ (by omega)];omega
theorem afa(a b:Int):DL (a,b)=some (if a<b then -1 else if b<a then 1 else 0):=by
 rw[DL];simp only[Dy,aU,ao,de,db,bZ,b9];grind
theorem Qx(a b:Int):y3 (a,b)=some (if a<b then -1 else if b<a then 1 else 0):=by
 rw[y3];simp only[DM,aU,ao,de,db,bZ,b9];grind
theorem afb(a b:ak):CS (a,b)=some (if Op.bytesLess a b then -1 else if(Op.bytesLess a b||(a=b:Bool))then 0 else 1):=by
 rw[CS];simp only[DN,aU,ao,de,db,bZ,b9];grind
theorem ahy(a b:Int):El [a,b]=some (if a≠0 then a else b):=by
 rw[El];have h0:ri (0,[a,b],((2:Nat):Int),((0:Nat):Int))=if a≠0 then some (.inl a)else(if b≠0 then some (.inl b)else some (.inr 0)):=by
  rw[ri,ae (by decide),ae (show aH ((0:Nat):Int) ([a,b]:ar).length=true from aP (k:=0) (n:=2) (by omega))];simp only[aU,ao,a7,jy];by_cases c:a=0
  . rw[al (by simp[c]),al (by simp[c])];have aM:aN .i64 ((0:Nat):Int) 1=((1:Nat):Int):=bE;rw[aM,ri,ae (by decide),ae (show aH ((1:Nat):Int) ([a,b]:ar).length=true from aP (k:=1) (n:=2) (by omega))];simp only[aU,ao,a7,wI,jy];by_cases d:b=0
    . rw[al (by simp[d]),al (by simp[d])];have e:aN .i64 ((1:Nat):Int) 1=((2:Nat):Int):=bE;rw[e,ri,al (by decide)]
    grind
  grind
 grind
theorem JQ:∀a:ak,Op.bytesLess a a=false
 |[]=>rfl
 |x::r=>by
  simp[Op.bytesLess,JQ r]
theorem DD{a b:I}(c:cw a.bd)(d:cw b.bd):∃r,p7 (a,b)=some r/\n9 (a,b)=some r:=by
 rw[p7,n9];by_cases e:a.Kind=b.Kind
 . rw[al (show ¬((!(decide (a.Kind=b.Kind)))=true) by simp[e]),al (show ¬((!(decide (a.Kind=b.Kind)))=true) by simp[e])];by_cases k1:a.Kind=1
   . rw[ae (show decide (a.Kind=1)=true by simp[k1]),ae (show decide (a.Kind=1)=true by simp[k1])];simp only[kE];cases fy a.bN b.bN<;>cases b.bN<;>exact⟨_,rfl,rfl⟩
   . rw[al (show ¬(decide (a.Kind=1)=true) by simp[k1]),al (show ¬(decide (a.Kind=1)=true) by simp[k1])];by_cases k2:a.Kind=2
     . rw[ae (show decide (a.Kind=2)=true by simp[k2]),ae (show decide (a.Kind=2)=true by simp[k2]),DV c,DV d,uj c,uj d];simp only[aU,ao,afa,kE];by_cases he:a.bd=b.bd
       . grind
       . have g:fE a.bd≠fE b.bd:=λh=>he (OI h);grind
     . rw[al (show ¬(decide (a.Kind=2)=true) by simp[k2]),al (show ¬(decide (a.Kind=2)=true) by simp[k2])];by_cases k3:a.Kind=3
       . rw[ae (show decide (a.Kind=3)=true by simp[k3]),ae (show decide (a.Kind=3)=true by simp[k3])];simp only[aU,ao,Qx,afb,ahy,kE];by_cases af:a.bl.length=b.bl.length
         . have f:¬((!(decide ((a.bl.length:Int)=(b.bl.length:Int))))=true):=by simp;omega
           rw[al f,af];have aM:¬((b.bl.length:Int)<(b.bl.length:Int)):=(by omega);simp only[aM,b9,ne_eq,not_true_eq_false];by_cases he:a.bl=b.bl
           . rw[he,JQ];grind
           grind
         grind
       . rw[al (show ¬(decide (a.Kind=3)=true) by simp[k3]),al (show ¬(decide (a.Kind=3)=true) by simp[k3])];by_cases k4:a.Kind=4
         . rw[ae (show decide (a.Kind=4)=true by simp[k4]),ae (show decide (a.Kind=4)=true by simp[k4])];simp only[aU,ao,Qx,kE];grind
         simp_all
 simp_all
def KZ(a b:Option Bool):Prop:=∃r,a=some r/\b=some r
theorem II {b c:Type}(L:Nat->Option (Bool ⊕ b))(L':Nat->Option (Bool ⊕ c))(n:Nat)(p:Nat->Bool)(g:b)(a:c)
 (h:∀i,i<n->L i=if p i then L (i+1)else some (.inl false))(he:L n=some (.inr g))
 (d:∀i,i<n->L' i=if p i then L' (i+1)else some (.inl false))(e:L' n=some (.inr a)):
 (L 0=some (.inr g)/\L' 0=some (.inr a)/\∀j,j<n->p j=true)\/(L 0=some (.inl false)/\L' 0=some (.inl false)/\∃j,j<n/\p j=false):=by
 rcases scan L n p (.inl false) (.inr g) h he with⟨a1,a2⟩|⟨a1,j,a2,a3⟩<;>rcases scan L' n p (.inl false) (.inr a) d e with⟨b1,b2⟩|⟨b1,k,b2,b3⟩
 . exact .inl ⟨a1,b1,a2⟩
 . have:=a2 k b2;rw[b3]at this;cases this
 . have:=b2 j a2;rw[a3]at this;cases this
 . exact .inr ⟨a1,b1,j,a2,a3⟩
def om(k:Int):Prop:=1<=k/\k<=9
theorem Y0(a:om v.Kind):∃p,Cz v=some p/\tX v=some p/\(p=true->v.Kind≠5->v.Kind≠6->v.Rest=[]):=by
 obtain⟨K,B,cv,S,ad,c,b,R⟩:=v;simp only at a;rw[Cz,I.aV,tX];have:K=1\/K=2\/K=3\/K=4\/K=5\/K=6\/K=7\/K=8\/K=9:=by unfold om at a;omega
 have d:∀(x:Int),decide (x=x)=true:=λx=>by simp
 rcases this with rfl|rfl|rfl|rfl|rfl|rfl|rfl|rfl|rfl
 all_goals
  refine⟨_,rfl,?_,?_⟩
  . simp[Dk,fy]
    try (cases B<;>simp)
  . simp[Dk,fy]
section
variable {ts:List ai}(aG:ts.length<9223372036854775807)(c9:∀t,t∈ts->e1 t)(bC:∀t,t∈ts->om t.Kind)
def Fit(ts:List ai)(x:I):Prop:=∀t plain,KZ (j7 ((⟨ts⟩:aT),t,x,plain)) (iF ((⟨ts⟩:aT),t,x,plain))
theorem Ly{l:List I}(af:l.length<=reachBytes)(ih:∀x,x∈l->Fit ts x)(t:Int)(plain:Bool):
 KZ (rf ((⟨ts⟩:aT),t,l,plain)) (nL ((⟨ts⟩:aT),t,l,plain)):=by
 have ag:=dB af;let p:Nat->Bool:=λi=>(j7 ((⟨ts⟩:aT),t,l.getD i av,plain)).getD false;have c:∀i,i<l.length->j7 ((⟨ts⟩:aT),t,l.getD i av,plain)=some (p i)/\iF ((⟨ts⟩:aT),t,l.getD i av,plain)=some (p i):=by
  intro i a;obtain⟨r,h1,f⟩:=ih _ (bg a av) t plain;grind
 have b:=qM (λi=>qI (l,(l.length:Int),(i:Int),ts,t,plain)) l.length (λi=>!(p i)) (λi=>.inl ((i:Int),ts,t,plain)) (.inr (ts,t,plain))
  (λi a=>by
   rw[qI,bA,ae (aP a),HI];simp only[I.aV,a7];rw[(c i a).1,bE]
   rfl)
  (by rw[qI,bz])
 have hs:=scan (λi=>kB (t,l,plain,(i:Int),ts)) l.length p (.inl false) (.inr ())
  (λi a=>by
   rw[kB,bA,ae (aP a)];simp only[I.aV,a7];rw[(c i a).2,bE]
   grind)
  (by rw[kB,bz])
 have aM:qI (l,(l.length:Int),((0:Nat):Int),ts,t,plain)=qI (l,(l.length:Int),0,ts,t,plain):=rfl;have d:kB (t,l,plain,((0:Nat):Int),ts)=kB (t,l,plain,0,ts):=rfl;simp only[aM]at b;simp only[d]at hs;rw[rf,Cr,GZ,nL];rcases b with⟨j,a1,a2,a3,a4⟩|⟨a1,a4⟩<;>rcases hs with⟨b1,b2⟩|⟨b1,k,b2,b3⟩
 . have:=b2 j a1;simp[this]at a2
 . rw[a4,b1];refine⟨false,?_,rfl⟩;have e:decide ((0:Int)<=(j:Int))=true:=(by simp);simp only[aU,ao,e,db]
 . rw[a4,b1];exact⟨true,rfl,rfl⟩
 . have:=a1 k b2;simp[b3]at this
def Gd(t:ai)(l:List bX)(i:Nat):Bool:=
 !((hh (t,(l.getD i bW).ad)).getD (0,false)).2&&(decide (1<=(l.getD i bW).ad)&&decide ((l.getD i bW).ad<=1000))&&(decide (i=0)||decide ((l.getD (i-1) bW).ad<(l.getD i bW).ad))
theorem ab9{l:Type}(fS f b:Bool)(a:Int)(e C:Int->Bool)(g i:Option l)(j:b=true->e a=true):
 ((if !fS then some f else some false)>>=λk=>some (bif fS then true else(!k))>>=λt131=>some b>>=λt134=>some a>>=λt141=>
  if(e t141||(!((!t131)&&t134))) then if(bif t131 then true else bif t134 then C t141 else false) then g else i else none)=if !fS&&f&&(!b || !(C a)) then i else g:=by
 simp only[aU,ao];generalize C a=c;cases b with
 |true=>rw[j rfl];cases fS<;>cases f<;>cases c<;>rfl
 |false=>generalize e a=d;cases fS<;>cases f<;>cases d<;>cases c<;>rfl
theorem KL{n:Type}(b g e:Bool)(a:Int)(f C:Int->Bool)(i j:Option n)(k:g=true)(l:e=true->f a=true):
 (some b>>=λm=>some (!m)>>=λt31=>some e>>=λt34=>
  if(g||(!((!t31)&&t34))) then some a>>=λt43=>if(f t43||(!((!t31)&&t34))) then if(bif t31 then true else bif t34 then C t43 else false) then i else j else none else none)=if(b&&(!e || !(C a))) then j else i:=by
 subst k;simp only[aU,ao];generalize C a=c;cases e with
 |true=>rw[l rfl];cases b<;>cases c<;>rfl
 |false=>generalize f a=d;cases b<;>cases d<;>cases c<;>rfl
theorem qN{i:Nat}(h:0<i)(a:i<9223372036854775807):dq .i64 (i:Int) 1=((i-1:Nat):Int):=by
 rw[hK];omega
theorem ahG(ht:t.ah.length<9223372036854775807)(v:I)(af:v.Rest.length<=reachBytes)(plain:Bool)(ts:List ai):
 let inr:=(plain,ts,v.Kind,v.bN,v.bd,v.bl,v.ad,v.ay,v.aj,v.Rest,t.Kind,t.Name,t.bF,t.bH,t.Max,t.bh,t.ah,t.Key,t.aF,t.Open)
 ((lk (plain,v.Rest,(v.Rest.length:Int),0,ts,v,t.Kind,t.Name,t.bF,t.bH,t.Max,t.bh,t.ah,t.Key,t.aF,t.Open)=some (.inr inr)/\qU (t,v.Rest)=some true)\/
  (lk (plain,v.Rest,(v.Rest.length:Int),0,ts,v,t.Kind,t.Name,t.bF,t.bH,t.Max,t.bh,t.ah,t.Key,t.aF,t.Open)=some (.inl false)/\qU (t,v.Rest)=some false)):=by
 intro inr;have ag:=dB af;have d:∀i,i<v.Rest.length->∀r,hh (t,(v.Rest.getD i bW).ad)=some r->Gd t v.Rest i=(!r.2&&(bif decide (1<=(v.Rest.getD i bW).ad)then decide ((v.Rest.getD i bW).ad<=1000)else false)&&(!(decide ((0:Int)<(i:Int))) || !(decide ((v.Rest.getD i bW).ad<=(v.Rest.getD (dq .i64 (i:Int) 1).toNat bW).ad)))):=by
  intro i a r g;unfold Gd;rw[g,qf];generalize (v.Rest.getD i bW).ad=x;by_cases h0:i=0
  . grind
  . have c:decide ((0:Int)<(i:Int))=true:=by simp;omega
    rw[c,qN (by omega) (by omega),a7];grind
 have h:=II (λi=>lk (plain,v.Rest,(v.Rest.length:Int),(i:Int),ts,v,t.Kind,t.Name,t.bF,t.bH,t.Max,t.bh,t.ah,t.Key,t.aF,t.Open)) (λi=>j4 (v.Rest,(i:Int),t)) v.Rest.length (Gd t v.Rest) inr ()
  (λi a=>by
   obtain⟨r,h1,_,_⟩:=mO (t:=t) (v.Rest.getD i bW).ad ht;rw[lk,bA,ae (aP a),d i a r h1];simp only[a7,EA,I.aV,zT,aU,ao];rw[h1,bE]
   exact ab9 r.2 (bif decide (1<=(v.Rest.getD i bW).ad)then decide ((v.Rest.getD i bW).ad<=1000)else false) (decide ((0:Int)<(i:Int))) (dq .i64 (i:Int) 1) (λj=>aH j v.Rest.length) (λj=>decide ((v.Rest.getD i bW).ad<=(v.Rest.getD j.toNat bW).ad)) _ _ (λc=>by
    have:0<i:=by simp at c;omega
    show aH _ _=true
    rw[qN this (by omega)];exact aP (by omega)))
  (by rw[lk,bz])
  (λi a=>by
   obtain⟨r,h1,b,_⟩:=mO (t:=t) (v.Rest.getD i bW).ad ht;rw[j4,bA,ae (aP a),d i a r h1];simp only[a7];rw[b,bE];have f:jr ((v.Rest.getD i bW).ad,r.2)=some ((!r.2)&&(bif decide (1<=(v.Rest.getD i bW).ad)then decide ((v.Rest.getD i bW).ad<=1000)else false)):=by
    rw[jr];grind
   show(if aH (i:Int) v.Rest.length then jr ((v.Rest.getD i bW).ad,r.2)>>=_ else none)=_;rw[ae (aP a),f]
   exact KL ((!r.2)&&(bif decide (1<=(v.Rest.getD i bW).ad)then decide ((v.Rest.getD i bW).ad<=1000)else false)) (aH (i:Int) v.Rest.length) (decide ((0:Int)<(i:Int))) (dq .i64 (i:Int) 1) (λj=>aH j v.Rest.length) (λj=>decide ((v.Rest.getD i bW).ad<=(v.Rest.getD j.toNat bW).ad)) _ _ (aP a) (λc=>by
    have:0<i:=by simp at c;omega
    show aH _ _=true
    rw[qN this (by omega)];exact aP (by omega)))
  (by rw[j4,bz])
 have aM:lk (plain,v.Rest,(v.Rest.length:Int),((0:Nat):Int),ts,v,t.Kind,t.Name,t.bF,t.bH,t.Max,t.bh,t.ah,t.Key,t.aF,t.Open)=lk (plain,v.Rest,(v.Rest.length:Int),0,ts,v,t.Kind,t.Name,t.bF,t.bH,t.Max,t.bh,t.ah,t.Key,t.aF,t.Open):=rfl;have e:j4 (v.Rest,((0:Nat):Int),t)=j4 (v.Rest,0,t):=rfl;simp only[aM,e]at h;rw[qU];rcases h with⟨h1,b,_⟩|⟨h1,b,_⟩
 . exact .inl ⟨h1,by rw[b];rfl⟩
 . exact .inr ⟨h1,by rw[b];rfl⟩
end
theorem ZQ(af:v.aj.length=t.ah.length)(ag:t.ah.length<9223372036854775807)(ih:∀x,x∈v.aj->Fit ts x)(plain:Bool):
 (mL (plain,t.ah,(t.ah.length:Int),0,ts,v.Kind,v.bN,v.bd,v.bl,v.ad,v.ay,v.aj,v.Rest)=some (.inr ())/\jb (plain,0,ts,v,t.Kind,t.Name,t.bF,t.bH,t.Max,t.bh,t.ah,t.Key,t.aF,t.Open)=some (.inr ()))\/
 (mL (plain,t.ah,(t.ah.length:Int),0,ts,v.Kind,v.bN,v.bd,v.bl,v.ad,v.ay,v.aj,v.Rest)=some (.inl false)/\jb (plain,0,ts,v,t.Kind,t.Name,t.bF,t.bH,t.Max,t.bh,t.ah,t.Key,t.aF,t.Open)=some (.inl false)):=by
 let p:Nat->Bool:=λi=>(j7 ((⟨ts⟩:aT),(t.ah.getD i aB).aw,v.aj.getD i av,plain)).getD false;have c:∀i,i<t.ah.length->j7 ((⟨ts⟩:aT),(t.ah.getD i aB).aw,v.aj.getD i av,plain)=some (p i)/\iF ((⟨ts⟩:aT),(t.ah.getD i aB).aw,v.aj.getD i av,plain)=some (p i):=by
  intro i a;obtain⟨r,h1,b⟩:=ih _ (bg (by omega:i<v.aj.length) av) (t.ah.getD i aB).aw plain;grind
 have h:=II (λi=>mL (plain,t.ah,(t.ah.length:Int),(i:Int),ts,v.Kind,v.bN,v.bd,v.bl,v.ad,v.ay,v.aj,v.Rest)) (λi=>jb (plain,(i:Int),ts,v,t.Kind,t.Name,t.bF,t.bH,t.Max,t.bh,t.ah,t.Key,t.aF,t.Open)) t.ah.length p () ()
  (λi a=>by
   rw[mL,bA,ae (aP a),ae (aP (by omega))];simp only[a7,I.aV];rw[(c i a).1,bE]
   grind)
  (by rw[mL,bz])
  (λi a=>by
   rw[jb,bA,ae (aP a),ae (aP (by omega))];simp only[a7,I.aV];rw[(c i a).2,bE]
   grind)
  (by rw[jb,ch])
 have aM:mL (plain,t.ah,(t.ah.length:Int),((0:Nat):Int),ts,v.Kind,v.bN,v.bd,v.bl,v.ad,v.ay,v.aj,v.Rest)=mL (plain,t.ah,(t.ah.length:Int),0,ts,v.Kind,v.bN,v.bd,v.bl,v.ad,v.ay,v.aj,v.Rest):=rfl;have d:jb (plain,((0:Nat):Int),ts,v,t.Kind,t.Name,t.bF,t.bH,t.Max,t.bh,t.ah,t.Key,t.aF,t.Open)=jb (plain,0,ts,v,t.Kind,t.Name,t.bF,t.bH,t.Max,t.bh,t.ah,t.Key,t.aF,t.Open):=rfl;simp only[aM,d]at h;rcases h with⟨h1,b,_⟩|⟨h1,b,_⟩
 . exact .inl ⟨h1,b⟩
 . exact .inr ⟨h1,b⟩
theorem we(h:bJ v):cw v.bd:=by cases h with|mk _ _ _ _ _ _ _ _ c' a=>exact a
theorem abB{ts:List ai}{t:ai}(ag:v.ay.length<9223372036854775807)(g:∀x,x∈v.ay->bJ x)(plain:Bool):
 let inr:=(plain,ts,v,t.Kind,t.Name,t.bF,t.bH,t.Max,t.bh,t.ah,t.Key,t.aF,t.Open)
 (kG (plain,1,ts,v,t.Kind,t.Name,t.bF,t.bH,t.Max,t.bh,t.ah,t.Key,t.aF,t.Open)=some (.inr inr)/\hW (1,v)=some (.inr ()))\/
 (kG (plain,1,ts,v,t.Kind,t.Name,t.bF,t.bH,t.Max,t.bh,t.ah,t.Key,t.aF,t.Open)=some (.inl false)/\hW (1,v)=some (.inl false)):=by
 intro inr;by_cases h0:v.ay.length=0
 . left;refine⟨?_,?_⟩
   . rw[kG,al (by simp[h0]),I.aV]
   . rw[hW,al (by simp[h0])]
 let c:Nat->Int:=λi=>(p7 (v.ay.getD i av,v.ay.getD (i+1) av)).getD 0;have f:∀i,i+1<v.ay.length->p7 (v.ay.getD i av,v.ay.getD (i+1) av)=some (c i)/\n9 (v.ay.getD i av,v.ay.getD (i+1) av)=some (c i):=by
  intro i b;obtain⟨r,h1,a⟩:=DD (we (g _ (bg (by omega:i<v.ay.length) av))) (we (g _ (bg b av)));grind
 have h:=II (λi=>kG (plain,((i+1:Nat):Int),ts,v,t.Kind,t.Name,t.bF,t.bH,t.Max,t.bh,t.ah,t.Key,t.aF,t.Open)) (λi=>hW (((i+1:Nat):Int),v)) (v.ay.length-1) (λi=>!(decide (0<=c i))) inr ()
  (λi b=>by
   have hs:=qN (i:=i+1) (by omega) (by omega);have d:dq .i64 ((i+1:Nat):Int) 1=(i:Int):=by rw[hs];simp
   rw[kG,bA];simp only[aU,ao];rw[d,ae (aP (by omega)),ae (aP (by omega))];simp only[a7,I.aV];rw[(f i (by omega)).1,bE]
   grind)
  (by
   have e:v.ay.length-1+1=v.ay.length:=by omega
   rw[e,kG,bz,I.aV])
  (λi b=>by
   have hs:=qN (i:=i+1) (by omega) (by omega);have d:dq .i64 ((i+1:Nat):Int) 1=(i:Int):=by rw[hs];simp
   rw[hW,bA];simp only[aU,ao];rw[d,ae (aP (by omega)),ae (aP (by omega))];simp only[a7,I.aV];rw[(f i (by omega)).2,bE]
   grind)
  (by
   have e:v.ay.length-1+1=v.ay.length:=by omega
   rw[e,hW,bz])
 have aM:kG (plain,((0+1:Nat):Int),ts,v,t.Kind,t.Name,t.bF,t.bH,t.Max,t.bh,t.ah,t.Key,t.aF,t.Open)=kG (plain,1,ts,v,t.Kind,t.Name,t.bF,t.bH,t.Max,t.bh,t.ah,t.Key,t.aF,t.Open):=rfl;have j:hW (((0+1:Nat):Int),v)=hW (1,v):=rfl;simp only[aM,j]at h;rcases h with⟨h1,a,_⟩|⟨h1,a,_⟩
 . exact .inl ⟨h1,a⟩
 . exact .inr ⟨h1,a⟩
theorem KG{c:Type}{b:List c}(h:decide ((a.length:Int)=(b.length:Int))=true):a.length=b.length:=by grind
theorem Sk{r:Int×Bool}(c:o=some r)(a plain f:Bool):
 (o>>=λb=>some (bif a then(!plain)else false)>>=λt85=>(if((!b.2)&&t85) then some f else some false)>>=λd=>some (bif b.2 then true else bif t85 then d else false))=some (r.2||(a && !plain&&f)):=by
 subst c;obtain⟨k,fS⟩:=r;cases fS<;>cases a<;>cases plain<;>cases f<;>rfl
theorem FB{r:Int×Bool}(c:o=some r)(a plain f:Bool)(F:Bool->Option Bool)(bw:F false=some f):
 (o>>=λb=>some (bif a then(!plain)else false)>>=λt85=>(if((!b.2)&&t85) then F b.2 else some false)>>=λd=>some (bif b.2 then true else bif t85 then d else false))=some (r.2||(a && !plain&&f)):=by
 subst c;obtain⟨k,fS⟩:=r;cases fS<;>cases a<;>cases plain<;>simp[bw]
theorem k7{o:Option Bool}{r:Bool}(b:o=some r)(q:Bool):(some q>>=λt244=>(if t244 then o else some false)>>=λa=>some (bif t244 then a else false))=some (q&&r):=by grind
theorem FC(c a b f:Bool){d:Option Bool}(g:c=true->d=some f)(h1:c=true->a=true/\b=true):(some c>>=λt188=>if(a||(!t188))then if(b||(!t188))then(if t188 then d else some false)>>=λe=>some (bif t188 then e else false)else none else none)=some (c&&f):=by grind
theorem ahe(A b q m:Bool){a:Option Bool}(ag:a=some q)(c:A=true->L=some (if m then .inr ()else .inl false)):
 (if(bif (bif false then true else(!true))then true else b) then some false else some (!A)>>=λt107=>(if !t107 then a else some false)>>=λd=>if(bif t107 then true else(!d)) then some false else L>>=λo=>match o with|.inl x=>some x|.inr _=>some true)=some (A && !b&&q&&m):=by
 subst ag;cases A with
 |false=>cases b<;>rfl
 |true=>
  rw[c rfl];cases b<;>cases q<;>cases m<;>rfl
theorem FD(g f b a cv E:Bool)(h1:a=true->cv=true):(some g>>=λt209=>(if t209 then some f else some false)>>=λc=>some (bif bif bif t209 then c else false then b else false then a else false)>>=λt226=>if(cv||(!t226))then some (bif t226 then E else false)else none)=some (g&&f&&b&&a&&E):=by grind
theorem Sl(c:Bool){b a:Option Bool}{k i:Bool}(f:b=some k)(e:a=some i)(d:L=some (if q then .inr ()else .inl false)):
 (some c>>=λt239=>(if !t239 then b else some false)>>=λl=>some (bif t239 then true else(!l))>>=λt249=>(if !t249 then a else some false)>>=λm=>if(bif t249 then true else(!m)) then some false else L>>=λg=>match g with|.inl j=>some j|.inr _=>some true)=some (!c&&k&&q&&i):=by
 subst f;subst e;subst d;cases c<;>cases k<;>cases q<;>cases i<;>rfl
theorem Lz(aG:ts.length<9223372036854775807)(c9:∀t,t∈ts->e1 t)(bC:∀t,t∈ts->om t.Kind)(au:bJ v):Fit ts v:=by
 induction au with
 |mk v hs h1 P Q aj aK aN c' aR aS aU ax O=>
  intro t plain;rw[j7,iF];by_cases D:(bif decide (t<0)then true else decide (((⟨ts⟩:aT).Types.length:Int)<=t))=true
  . rw[ae D,ae D];exact⟨false,rfl,rfl⟩
  . rw[al D,al D];have aM:0<=t/\t<ts.length:=(by grind);obtain⟨j,rfl⟩:∃j:Nat,t=(j:Int):=⟨t.toNat,by omega⟩
    have A:j<ts.length:=(by omega);rw[ae (aP A),ae (aP A)];simp only[a7,I.aV];have J:=c9 _ (bg A aJ);have F:=bC _ (bg A aJ);generalize ts.getD j aJ=x at J F⊢;have C:=dB (ij J.gX);have W:=dB (ij J.syms);by_cases w:v.Kind=x.Kind
    . obtain⟨p,ay,az,aA⟩:=Y0 (v:=v) (by rw[w];exact F);rw[ay,az];cases p with
      |false=>exact⟨false,by simp[w],by simp[w]⟩
      |true=>
       have G:=Ly (ts:=ts) P O;have ak:=Ly (ts:=ts) h1 ax;obtain⟨K,N,L,H,M,S,Ms,g,E,d⟩:=x;obtain⟨s,B,cv,l,ad,e,c,R⟩:=v;simp only at w;subst w;have u:=aA rfl;simp only at u F C W h1 P Q;have ah:s=1\/s=2\/s=3\/s=4\/s=5\/s=6\/s=7\/s=8\/s=9:=by unfold om at F;omega
       rcases ah with rfl|rfl|rfl|rfl|rfl|rfl|rfl|rfl|rfl
       . obtain rfl:R=[]:=u (by decide) (by decide);cases plain<;>exact⟨true,rfl,rfl⟩
       . obtain rfl:R=[]:=u (by decide) (by decide);cases plain<;>exact⟨_,rfl,rfl⟩
       . obtain rfl:R=[]:=u (by decide) (by decide);cases plain<;>exact⟨_,rfl,rfl⟩
       . obtain rfl:R=[]:=u (by decide) (by decide);obtain⟨r,n,o,_⟩:=q9 (t:=⟨4,N,L,H,M,S,Ms,g,E,d⟩) ad W;have z:jr (ad,false)=some (bif decide (1<=ad)then decide (ad<=1000)else false):=(by rfl);cases plain
         . exact⟨_,Sk n d false _,FB o d false _ (λb=>jr (ad,b)) z⟩
         . exact⟨_,Sk n d true _,FB o d true _ (λb=>jr (ad,b)) z⟩
       ·
        have aO:=ahG (t:=⟨5,N,L,H,M,S,Ms,g,E,d⟩) C ⟨5,B,cv,l,ad,e,c,R⟩ Q plain ts;have aq:decide ((c.length:Int)=(Ms.length:Int))=true->_:=λy=>ZQ (ts:=ts) (t:=⟨5,N,L,H,M,S,Ms,g,E,d⟩) (v:=⟨5,B,cv,l,ad,e,c,R⟩) (KG y) C O plain;have ar:∃q:Bool,lk (plain,R,(R.length:Int),0,ts,⟨5,B,cv,l,ad,e,c,R⟩,5,N,L,H,M,S,Ms,g,E,d)=some (if q then .inr (plain,ts,5,B,cv,l,ad,e,c,R,5,N,L,H,M,S,Ms,g,E,d)else .inl false)/\qU (⟨5,N,L,H,M,S,Ms,g,E,d⟩,R)=some q:=(by grind);obtain⟨q,aV,aC⟩:=ar;have ao:∃m:Bool,decide ((c.length:Int)=(Ms.length:Int))=true->(mL (plain,Ms,(Ms.length:Int),0,ts,5,B,cv,l,ad,e,c,R)=some (if m then .inr ()else .inl false)/\jb (plain,0,ts,⟨5,B,cv,l,ad,e,c,R⟩,5,N,L,H,M,S,Ms,g,E,d)=some (if m then .inr ()else .inl false)):=by
         cases y:decide ((c.length:Int)=(Ms.length:Int))with
         |false=>exact⟨true,λh=>by cases h⟩
         |true=>
          rcases aq y with⟨a,b⟩|⟨a,b⟩
          . simp_all
          simp_all
        obtain⟨m,an⟩:=ao;refine⟨(decide ((c.length:Int)=(Ms.length:Int))) && !(bif plain then decide (0<(R.length:Int))else false)&&q&&m,?_,?_⟩
        . show(if(bif (!((c.length:Int)=(Ms.length:Int):Bool))then true else bif plain then (0<(R.length:Int):Bool)else false) then some false else lk (plain,R,(R.length:Int),0,ts,⟨5,B,cv,l,ad,e,c,R⟩,5,N,L,H,M,S,Ms,g,E,d)>>=_)=_;grind
        . exact ahe (decide ((c.length:Int)=(Ms.length:Int))) (bif plain then decide (0<(R.length:Int))else false) q m aC (λy=>(an y).2)
       ·
        obtain⟨r,n,o,z⟩:=mO (t:=⟨6,N,L,H,M,S,Ms,g,E,d⟩) ad C;have aL:∀b,b=false->jr (ad,b)=some (bif decide (1<=ad)then decide (ad<=1000)else false):=by
         intro b ag;subst ag;rfl
        have af:∃f:Bool,(bif decide ((c.length:Int)=1)then decide ((R.length:Int)=0)else false)=true->(j7 ((⟨ts⟩:aT),(Ms.getD r.1.toNat aB).aw,c.getD (0:Int).toNat av,plain)=some f/\iF ((⟨ts⟩:aT),(Ms.getD r.1.toNat aB).aw,c.getD (0:Int).toNat av,plain)=some f):=by
         by_cases aa:c.length=1
         . obtain⟨f,f1,f2⟩:=O (c.getD 0 av) (bg (by omega:0<c.length) av) (Ms.getD r.1.toNat aB).aw plain;grind
         grind
        obtain⟨f,U⟩:=af;have V:r.2=true->(bif decide ((c.length:Int)=1)then decide ((R.length:Int)=0)else false)=true->aH r.1 Ms.length=true/\aH 0 c.length=true:=by
         intro ab aI;constructor
         . rcases z with⟨k,k1,_,_,rfl⟩|⟨_,rfl⟩
           . exact aP k1
           . cases ab
         . by_cases aa:c.length=1
           . exact aP (k:=0) (by omega)
           grind
        have T:decide ((R.length:Int)=1)=true->aH 0 R.length=true:=by
         intro h;have:=gY h;exact aP (k:=0) (by omega)
        obtain⟨Z,kl⟩:=r;refine⟨if kl then(bif decide ((c.length:Int)=1)then decide ((R.length:Int)=0)else false)&&f else(bif d then(!plain)else false)&&(bif decide (1<=ad)then decide (ad<=1000)else false)&&decide ((c.length:Int)=0)&&decide ((R.length:Int)=1)&&decide ((R.getD (0:Int).toNat bW).ad=ad),?_,?_⟩
        . show(hh (⟨6,N,L,H,M,S,Ms,g,E,d⟩,ad)>>=_)=_;rw[n];cases kl with
          |true=>exact FC _ (aH Z Ms.length) (aH 0 c.length) f (λh=>(U h).1) (V rfl)
          |false=>exact FD (bif d then(!plain)else false) (bif decide (1<=ad)then decide (ad<=1000)else false) (decide ((c.length:Int)=0)) (decide ((R.length:Int)=1)) (aH 0 R.length) (decide ((R.getD (0:Int).toNat bW).ad=ad)) T
        . show(if(bif (bif false then true else(!true))then true else(bif plain then (0<(R.length:Int):Bool)else false)) then some false else hE (⟨6,N,L,H,M,S,Ms,g,E,d⟩,ad)>>=_)=_;rw[o];cases aF:(bif plain then decide (0<(R.length:Int))else false)with
          |true=>
           have ap:plain=true:=(by grind);subst ap;have aE:decide ((R.length:Int)=0)=false:=(by grind);grind
          |false=>
           cases kl with
           |true=>exact FC _ (aH Z Ms.length) (aH 0 c.length) f (λh=>(U h).2) (V rfl)
           |false=>exact FD (bif d then(!plain)else false) (bif decide (1<=ad)then decide (ad<=1000)else false) (decide ((c.length:Int)=0)) (decide ((R.length:Int)=1)) (aH 0 R.length) (decide ((R.getD (0:Int).toNat bW).ad=ad)) T
       . obtain rfl:R=[]:=u (by decide) (by decide);obtain⟨r,n,o⟩:=G E plain;cases plain
         . exact⟨_,k7 n _,k7 o _⟩
         . exact⟨_,k7 n _,k7 o _⟩
       . obtain rfl:R=[]:=u (by decide) (by decide);obtain⟨k,k1,k2⟩:=ak g plain;obtain⟨i,aQ,X⟩:=G E plain;have am:=abB (ts:=ts) (t:=⟨8,N,L,H,M,S,Ms,g,E,d⟩) (v:=⟨8,B,cv,l,ad,e,c,[]⟩) (dB h1) aj plain;obtain⟨q,aW,Y⟩:∃q:Bool,kG (plain,1,ts,⟨8,B,cv,l,ad,e,c,[]⟩,8,N,L,H,M,S,Ms,g,E,d)=some (if q then .inr (plain,ts,⟨8,B,cv,l,ad,e,c,[]⟩,8,N,L,H,M,S,Ms,g,E,d)else .inl false)/\hW (1,⟨8,B,cv,l,ad,e,c,[]⟩)=some (if q then .inr ()else .inl false):=by
          rcases am with⟨a,b⟩|⟨a,b⟩
          . simp_all
          simp_all
         refine⟨!(bif decide (M<(e.length:Int))then true else(!(decide ((c.length:Int)=(e.length:Int)))))&&k&&q&&i,?_,?_⟩
         . show(some (bif decide (M<(e.length:Int))then true else(!(decide ((c.length:Int)=(e.length:Int)))))>>=λt270=>(if !t270 then rf ((⟨ts⟩:aT),g,e,plain)else some false)>>=λaD=>if(bif t270 then true else(!aD)) then some false else kG (plain,1,ts,⟨8,B,cv,l,ad,e,c,[]⟩,8,N,L,H,M,S,Ms,g,E,d)>>=_)=_;grind
         . cases plain
           . exact Sl (bif decide (M<(e.length:Int))then true else(!(decide ((c.length:Int)=(e.length:Int))))) k2 X Y
           . exact Sl (bif decide (M<(e.length:Int))then true else(!(decide ((c.length:Int)=(e.length:Int))))) k2 X Y
       . obtain rfl:R=[]:=u (by decide) (by decide);obtain⟨r,n,o⟩:=G E plain;cases plain
         . exact⟨_,k7 n _,k7 o _⟩
         . exact⟨_,k7 n _,k7 o _⟩
    . exact⟨false,by simp[w],by simp[w]⟩
theorem vT{U:cL}{t:aL}{l:List (t.den U.D)}(h:WF U ⟨.slice t,l⟩):l.length<=reachBytes/\l.length*t.bytes U<=reachBytes/\∀x,x∈l->∀c,c∈t.row U x->WF U c:=by cases h with|slice t l h1 a b=>exact⟨h1,a,b⟩
theorem KH(s:aT):(⟨s.Types⟩:aT)=s:=by cases s;rfl
def fb(n:Nat):ak:=if n=0 then[]else fb (n/256)++[UInt8.ofNat (n%256)]
termination_by n
decreasing_by omega
theorem MA:∀(l:List α) (k:Nat) (x:α),k<l.length->(l.set k x).drop k=x::l.drop (k+1)
 |[],k,x,h=>by simp at h
 |a::l,0,x,h=>by simp
 |a::l,k+1,x,h=>by simp[MA l k x (by simpa using h)]
theorem ahQ(n:Nat):lG .u64 (n:Int) 8=((n/256:Nat):Int):=by
 unfold lG;have:((2:Int)^min (8:Int).toNat IntKind.u64.bits)=256:=by decide
 grind
theorem P8:∀(i n:Nat) (b:ar),n<256^i->i<=8->b.length=8->∃(c:Nat) (a:ar),tv ((n:Int),(i:Int),b)=some ((c:Int),a)/\c<=8/\a.length=8/\strOf (a.drop c)=fb n++strOf (b.drop i)
 |i,n,b,aG,d,e=>by
  rw[tv];by_cases h0:n=0
  . subst h0;rw[bz];refine⟨i,b,rfl,d,e,?_⟩;rw[fb,ae rfl];rfl
  . rw[bA]
    match i,aG,d with
    |0,aG,d=>simp at aG;omega
    |i+1,aG,d=>
     have hs:dq .i64 ((i+1:Nat):Int) 1=(i:Int):=by rw[hK];omega
     simp only[aU,ao];rw[hs,ae (aP (by omega)),ae (by simp[e];omega),ahQ,xf,a7];have aC:n/256<256^i:=(by omega);obtain⟨c,a,h1,f,g,j⟩:=P8 i (n/256) (b.set i ((n%256:Nat):Int)) aC (by omega) (by simp[e]);refine⟨c,a,h1,f,g,?_⟩;rw[j,MA _ _ _ (by omega),ZK]
     conv=>rhs;rw[fb,al h0]
     grind
theorem DW{n:Nat}(aG:n<18446744073709551616):zU (n:Int)=some (fb n):=by
 have e:(256:Nat)^8=18446744073709551616:=by decide
 obtain⟨c,d,h1,k,a,g⟩:=P8 8 n [0,0,0,0,0,0,0,0] (by rw[e];exact aG) (by omega) rfl;have f:tv ((n:Int),8,[0,0,0,0,0,0,0,0])=some ((c:Int),d):=h1;rw[zU,f];simp only[aU,ao,a7];have j:dY (c:Int) 8 8=true:=jM (b:=8) (by omega) (by omega);have i:(8:Int).toNat=8:=rfl;rw[ae j,i,ae (by simp[w3,a];omega)];rw[qd (by simp[a]),g];simp[strOf]
theorem vU:∀(f n:Nat),n<256^f->(fb n).length<=f
 |0,n,h=>by
  have:n=0:=by simpa using h
  subst this;rw[fb,ae rfl];simp
 |f+1,n,h=>by
  rw[fb];split
  . simp
  . have:=vU f (n/256) (by omega);simp;omega
theorem LA:∀(f n:Nat) (a:ak),n<256^f->n<18446744073709551616->a.length+f<=1000->vi ((n:Int),a)=some (fb n++a)
 |f,n,a,aG,j,c=>by
  rw[vi];by_cases h0:n=0
  . subst h0;rw[bz,fb,ae rfl];rfl
  . rw[bA]
    match f,aG,c with
    |0,aG,c=>simp at aG;omega
    |f+1,aG,c=>
     have i:b6 (n:Int) 256=((n%256:Nat):Int):=AK (b:=256);have g:fC .u64 (n:Int) 256=((n/256:Nat):Int):=by
      unfold fC;have e:(n:Int).tdiv 256=((n/256:Nat):Int):=by rw[yJ (by omega)];omega
      rw[e];exact kV
     have d:strOf [((n%256%256:Nat):Int)]=[UInt8.ofNat (n%256)]:=by
      have:n%256%256=n%256:=(by omega);rw[this];rfl
     simp only[aU,ao];rw[i,g,xf,d,ae (gf (by simp;omega))];have aC:n/256<256^f:=(by omega);rw[LA f (n/256) _ aC (by omega) (by simp;omega)]
     conv=>rhs;rw[fb,al h0]
     grind
theorem LB{n:Nat}(aG:n<18446744073709551616):zm (n:Int)=some (fb n):=by
 have e:(256:Nat)^8=18446744073709551616:=by decide
 rw[zm,LA 8 n [] (by rw[e];exact aG) aG (by simp)];simp
end
section
open Go Go.Proofs.YtdjagncoefjfeaaGreat.Shv Go.Sort
set_option maxRecDepth 100000
variable{c α:Type}{ms:List aS}
section
variable {α:Type}
theorem MB{a:Type}{f g:a->List c}:∀{l:List a},(∀x,x∈l->f x=g x)->l.flatMap f=l.flatMap g
 |[],_=>rfl
 |x::l,h=>by
  simp only[eZ];rw[h x (.head _),MB λy b=>h y (.tail _ b)]
theorem KI(x:α)(n:Nat)(f:Nat->List α):∀(ks:a8),ks.Nodup->n∈ks->(ks.flatMap λi=>if n=i then x::f i else f i).Perm (x::ks.flatMap f)
 |[],_,h=>by cases h
 |k::ks,aG,h=>by
  rw[List.nodup_cons]at aG;simp only[eZ];by_cases e:n=k
  . rw[ae e];have:(ks.flatMap λi=>if n=i then x::f i else f i)=ks.flatMap f:=MB λy b=>by grind
    simp_all
  . rw[al e];have a:n∈ks:=(eK.1 h).resolve_left e;refine((KI x n f ks aG.2 a).append_left (f k)).trans ?_;simp_all
theorem KJ(key:α->Nat)(ks:a8)(aG:ks.Nodup):∀l:List α,(∀x,x∈l->key x∈ks)->(ks.flatMap λi=>l.filter λx=>decide (key x=i)).Perm l
 |[],_=>by simp
 |x::l,h=>by
  have e:(λi=>(x::l).filter λy=>decide (key y=i))=λi=>if key x=i then x::(l.filter λy=>decide (key y=i))else l.filter λy=>decide (key y=i):=by grind
  rw[e];exact(KI x (key x) _ ks aG (h x (.head _))).trans ((KJ key ks aG l λy a=>h y (.tail _ a)).cons x)
theorem Zk(key:α->Nat)(a n:Nat)(l:List α):((List.range' a n).flatMap λi=>l.filter λx=>decide (key x=i)).Pairwise (λx y=>decide (key y<key x)=false):=by
 rw[List.pairwise_flatMap];constructor
 . intro i b;rw[List.pairwise_iff_forall_sublist];grind
 . refine(List.pairwise_lt_range' (s:=a) (n:=n)).imp ?_;grind
theorem L3[Inhabited α][Inhabited c]{lt:α->α->Bool}{d:c->c->Bool}(g:α->c)(h:∀a b,d (g a) (g b)=lt a b):∀l,gW d (l.map g)=(gW lt l).map g
 |[]=>rfl
 |x::l=>by
  have key:∀r,oo d (g x) (r.map g)=(oo lt x r).map g:=by
   intro r;induction r with
   |nil=>rfl
   |cons y r ih=>
    simp only[oo,List.map];grind
  simp only[gW,List.map];rw[L3 g h l,key]
theorem LC[Inhabited α]{lt:α->α->Bool}:∀{l:List α},l.Pairwise (λx y=>lt x y=true\/lt y x=true)->ke lt l=true
 |[],_=>rfl
 |x::l,h=>by
  rw[h5]at h;simp only[ke,cC,dH,iv];exact⟨h.1,LC h.2⟩
end
mutual
def wt:I->Nat
 |⟨_,_,_,s,_,ks,a,r⟩=>10+s.length+(r.map λx=>x.Data.length+1).sum+cH ks+cH a
def cH:List I->Nat
 |[]=>0
 |v::l=>wt v+cH l
end
structure Fd where
 id:Nat
 c:Bool
 p:ak
instance:Inhabited Fd:=⟨⟨0,false,[]⟩⟩
def fq(a b:Fd):Bool:=decide (a.id<b.id)
def Fd.text(f:Fd):ak:=eX f.id f.c f.p
def fi:List ak->List ak->ak
 |k::ks,v::vs=>c7 k++(c7 v++fi ks vs)
 |_,_=>[]
def cB(l:List aS)(id:Int):Option aS:=l.find? λm=>decide (m.ad=id)
open Classical in
noncomputable def dc (m:aS)(v:I):Bool:=m.bV&&decide (m.bB=v)
def jX(r:bX):Fd:=⟨r.ad.toNat,false,r.Data⟩
mutual
noncomputable def bp (ts:List ai)(t:Int):I->ak
 |⟨_,b,i,s,id,ks,a,r⟩=>
  let x:=ts.getD t.toNat aJ
  if x.Kind=1 then(if b then[1]else[])
  else if x.Kind=2 then fb (fE i).toNat
  else if x.Kind=3 then s
  else if x.Kind=4 then fb id.toNat
  else if x.Kind=5 then(gW fq (dm ts x.ah a++r.map jX)).flatMap Fd.text
  else if x.Kind=6 then dQ id.toNat++(match cB x.ah id with
   |some m=>(bt ts m.aw a).headD []
   |none=>(r.map bX.Data).headD [])
  else if x.Kind=7 then(bt ts x.aF a).flatMap c7
  else if x.Kind=8 then fi (bt ts x.Key ks) (bt ts x.aF a)
  else match bt ts x.aF a with
   |[]=>[]
   |p::_=>1::p
noncomputable def bt (ts:List ai)(t:Int):List I->List ak
 |[]=>[]
 |v::l=>bp ts t v::bt ts t l
noncomputable def dm (ts:List ai):List aS->List I->List Fd
 |m::ms,v::l=>if dc m v then dm ts ms l else⟨m.ad.toNat,m.cg,bp ts m.aw v⟩::dm ts ms l
 |_,_=>[]
end
mutual
noncomputable def dJ (ts:List ai)(t:Int):I->Nat
 |⟨_,_,_,_,id,ks,a,_⟩=>
  let x:=ts.getD t.toNat aJ
  1+max (if ks=[]then 0 else 1) (if x.Kind=5 then fc ts x.ah a
   else if x.Kind=6 then(match cB x.ah id with
    |some m=>dD ts m.aw a
    |none=>0)
   else dD ts x.aF a)
noncomputable def dD (ts:List ai)(t:Int):List I->Nat
 |[]=>0
 |v::l=>max (dJ ts t v) (dD ts t l)
noncomputable def fc (ts:List ai):List aS->List I->Nat
 |m::ms,v::l=>if dc m v then fc ts ms l else max (dJ ts m.aw v) (fc ts ms l)
 |_,_=>0
end
def cn(n:Int):Prop:=1<=n/\n<=1000
def jP(ms:List aS)(r:List bX):Prop:=r.Pairwise (λa b=>a.ad<b.ad)/\∀x,x∈r->cn x.ad/\cB ms x.ad=none
def ha(a b:I):Int:=(p7 (a,b)).getD 0
def jN(ks:List I):Prop:=∀i,i+1<ks.length->ha (ks.getD i av) (ks.getD (i+1) av)<0
mutual
def bY(ts:List ai)(pl:Bool)(t:Int):I->Prop
 |⟨k,b,i,s,id,ks,a,r⟩=>
  let x:=ts.getD t.toNat aJ
  (0<=t/\t<ts.length/\k=x.Kind/\(pl=true->r=[]))/\
  (k=1/\i=0/\s=[]/\id=0/\ks=[]/\a=[]/\r=[]\/
  k=2/\b=false/\s=[]/\id=0/\ks=[]/\a=[]/\r=[]/\x.bF<=i/\i<=x.bH\/
  k=3/\b=false/\i=0/\id=0/\ks=[]/\a=[]/\r=[]/\(s.length:Int)<=x.Max\/
  k=4/\b=false/\i=0/\s=[]/\ks=[]/\a=[]/\r=[]/\((∃y,y∈x.bh/\y.ad=id)\/x.Open=true/\pl=false/\cn id)\/
  k=5/\b=false/\i=0/\s=[]/\id=0/\ks=[]/\jP x.ah r/\hy ts pl x.ah a\/
  k=6/\b=false/\i=0/\s=[]/\ks=[]/\(match cB x.ah id with
   |some m=>r=[]/\a.length=1/\e4 ts pl m.aw a
   |none=>x.Open=true/\pl=false/\cn id/\a=[]/\∃d,r=[⟨id,d⟩])\/
  k=7/\b=false/\i=0/\s=[]/\id=0/\ks=[]/\r=[]/\(a.length:Int)<=x.Max/\e4 ts pl x.aF a\/
  k=8/\b=false/\i=0/\s=[]/\id=0/\r=[]/\(ks.length:Int)<=x.Max/\a.length=ks.length/\e4 ts pl x.Key ks/\e4 ts pl x.aF a/\jN ks\/
  k=9/\b=false/\i=0/\s=[]/\id=0/\ks=[]/\r=[]/\a.length<=1/\e4 ts pl x.aF a)
def e4(ts:List ai)(pl:Bool)(t:Int):List I->Prop
 |[]=>True
 |v::l=>bY ts pl t v/\e4 ts pl t l
def hy(ts:List ai)(pl:Bool):List aS->List I->Prop
 |m::ms,v::l=>bY ts pl m.aw v/\hy ts pl ms l
 |[],[]=>True
 |_,_=>False
end
theorem fD(v:I):wt v=10+v.bl.length+(v.Rest.map λx=>x.Data.length+1).sum+cH v.ay+cH v.aj:=by cases v;rw[wt]
theorem hi(v:I)(l:List I):cH (v::l)=wt v+cH l:=by rw[cH]
theorem gH:cH []=0:=by rw[cH]
theorem fv:∀{l:List I} {x:I},x∈l->wt x<=cH l
 |y::l,x,h=>by
  rw[hi];rcases eK.1 h with rfl|h
  . omega
  . have:=fv h;omega
theorem Ke{p:ak}(h:p.length<1152921504606846976):(c7 p).length<=p.length+10:=by
 have:=j8 (n:=p.length) (by omega);unfold c7;simp;omega
theorem L4{f:Fd}(h:f.p.length<1152921504606846976)(a:f.id<=9223372036854775807):f.text.length<=f.p.length+20:=by
 have:=Ke h;have:=j8 (n:=2*f.id+(if f.c then 1 else 0)) (by split<;>omega);unfold Fd.text eX;simp only[cm];omega
theorem y4{f:α->List c}{a b:List α}(h:a.Perm b):(a.flatMap f).length=(b.flatMap f).length:=(h.flatMap_right f).length_eq
theorem Az{n:Int}(h:cw n):(fE n).toNat<18446744073709551616:=by
 unfold fE cw at*;split<;>omega
section
variable {ts:List ai}
def xq(ts:List ai)(v:I):Prop:=∀t,(bp ts t v).length+20<=21*wt v
theorem IJ:∀{l:List I} {t:Int},cH l<=1099511627776->(∀x,x∈l->xq ts x)->((bt ts t l).flatMap c7).length<=21*cH l
 |[],t,_,_=>by rw[bt];simp
 |v::l,t,a,h=>by
  rw[bt,eZ,cm];rw[hi]at a⊢;have h1:=h v (.head _) t;have c:=IJ (t:=t) (by omega) λx b=>h x (.tail _ b);have d:=Ke (p:=bp ts t v) (by omega);omega
theorem kJ:∀{l:List I} {t:Int},(bt ts t l).length=l.length
 |[],t=>by rw[bt];rfl
 |v::l,t=>by rw[bt,gi,gi,kJ]
theorem DB:∀{l:List I} {t:Int},bt ts t l=l.map (bp ts t)
 |[],t=>by rw[bt];rfl
 |v::l,t=>by rw[bt,List.map,DB]
theorem D4:∀(a b:List ak),(fi a b).length<=(a.flatMap c7).length+(b.flatMap c7).length
 |[],b=>by simp[fi]
 |k::ks,[]=>by simp[fi]
 |k::ks,v::vs=>by
  have:=D4 ks vs;simp only[fi,eZ,cm];omega
theorem Lb:∀{ms:List aS} {l:List I},cH l<=1099511627776->(∀m,m∈ms->m.ad<=1000)->(∀x,x∈l->xq ts x)->((dm ts ms l).flatMap Fd.text).length<=21*cH l
 |[],l,_,_,_=>by rw[dm]<;>simp
 |m::ms,[],_,_,_=>by rw[dm]<;>simp
 |m::ms,v::l,c,b,h=>by
  rw[hi]at c⊢;rw[dm];have h1:=h v (.head _) m.aw;have d:=Lb (ms:=ms) (l:=l) (by omega) (λx a=>b x (.tail _ a)) λx a=>h x (.tail _ a);have g:=b m (.head _);split
  . omega
  . rw[eZ,cm];have e:=L4 (f:=⟨m.ad.toNat,m.cg,bp ts m.aw v⟩) (by show(bp ts m.aw v).length<_;omega) (by show m.ad.toNat<=_;omega);grind
theorem L5:∀{l:List bX},(∀x,x∈l->x.Data.length<=reachBytes/\x.ad<=9223372036854775807)->True->((l.map jX).flatMap Fd.text).length<=21*(l.map λx=>x.Data.length+1).sum
 |[],_,_=>by simp
 |r::l,h,_=>by
  have h1:=h r (.head _);have c:=L5 (l:=l) (λx b=>h x (.tail _ b)) trivial;unfold reachBytes at h1;have a:=L4 (f:=jX r) (by show r.Data.length<_;omega) (by show r.ad.toNat<=_;omega);have d:(jX r).text.length<=r.Data.length+20:=a;grind
def Qk(ts:List ai):Prop:=∀x,x∈ts->∀m,m∈x.ah->m.ad<=1000
theorem Y1(l:List α)(i:Nat)(d:α):l.getD i d∈l\/l.getD i d=d:=by grind
theorem Lc{l:List ak}{n:Nat}(h:∀x,x∈l->x.length<=n):(l.headD []).length<=n:=by
 cases l with
 |nil=>simp
 |cons x l=>exact h x (.head _)
theorem OJ:∀{l:a8} {n:Nat},n∈l->n<=l.sum
 |a::l,n,h=>by
  rw[ox];rcases eK.1 h with rfl|h
  . omega
  . have:=OJ h;omega
theorem ab'(g:Qk ts){v:I}(h:bJ v):wt v<=1099511627776->xq ts v:=by
 induction h with
 |mk v hs h1 B C F E ag c' q L u n k=>
  intro G t;have H:=fD v;have f:∀x,x∈v.ay->xq ts x:=λx a=>n x a (by have:=fv a;omega);have d:∀x,x∈v.aj->xq ts x:=λx a=>k x a (by have:=fv a;omega);have z:=λt=>IJ (t:=t) (l:=v.ay) (by omega) f;have oP:=λt=>IJ (t:=t) (l:=v.aj) (by omega) d;have a:∀m,m∈(ts.getD t.toNat aJ).ah->m.ad<=1000:=by
   rcases Y1 ts t.toNat aJ with h|h
   . exact g _ h
   . rw[h];intro m j;cases j
  have A:∀t,((bt ts t v.aj).headD []).length+20<=21*cH v.aj+20:=λt=>by
   have:((bt ts t v.aj).headD []).length<=21*cH v.aj:=Lc λp c=>by
    rw[DB]at c;obtain⟨x,a,rfl⟩:=e0.1 c;have:=d x a t;have:=fv a;omega
   omega
  have fG:((v.Rest.map jX).flatMap Fd.text).length<=21*(v.Rest.map λx=>x.Data.length+1).sum:=L5 (λx a=>⟨ag x a,(u x a).2⟩) trivial;have y:=Lb (ts:=ts) (ms:=(ts.getD t.toNat aJ).ah) (l:=v.aj) (by omega) a d;have w:((v.Rest.map bX.Data).headD []).length<=(v.Rest.map λx=>x.Data.length+1).sum:=Lc λp c=>by
   obtain⟨x,a,rfl⟩:=e0.1 c;have:x.Data.length+1<=(v.Rest.map λx=>x.Data.length+1).sum:=OJ (e0.2 ⟨x,a,rfl⟩);omega
  obtain⟨K,b,i,s,id,ks,o,r⟩:=v;simp only at*;rw[bp];have J:=vU 8 _ (Az q);have e:id.toNat<18446744073709551616:=by omega
  have D:=vU 8 _ e;have c:=j8 e;generalize ts.getD t.toNat aJ=x at*;split
  . grind
  . split
    . omega
    . split
      . omega
      . split
        . omega
        . split
          . rw[y4 (kK _ _),B5,cm];omega
          . split
            . grind
            . split
              . grind
              . split
                . have:=D4 (bt ts x.Key ks) (bt ts x.aF o);grind
                grind
end
section
variable (ts:List ai)
mutual
theorem S6:∀(v:I) (t:Int),dJ ts t v<=wt v
 |⟨_,_,_,_,id,ks,a,_⟩,t=>by
  rw[dJ,wt];have h1:=GY a;have c:=GX a;grind
theorem GY:∀(l:List I) (t:Int),dD ts t l<=cH l
 |[],t=>by rw[dD];omega
 |v::l,t=>by
  rw[dD,cH];have:=S6 v t;have:=GY l t;omega
theorem GX:∀(l:List I) (ms:List aS),fc ts ms l<=cH l
 |[],ms=>by rw [fc]; · omega
            . intros;simp_all
 |v::l,[]=>by rw [fc]; · omega
              . intros;simp_all
 |v::l,m::ms=>by
  rw[fc,cH];have:=S6 v m.aw;have:=GX l ms;grind
end
end
theorem ad9(v:I):10<=wt v:=by rw[fD];omega
section
variable {ts:List ai}
theorem wB:∀{ms:List aS} {l:List I} {x:Fd},x∈dm ts ms l->∃m,m∈ms/\x.id=m.ad.toNat
 |[],l,x,h=>by
  rw[dm]at h
  . cases h
  grind
 |m::ms,[],x,h=>by
  rw[dm]at h
  . cases h
  grind
 |m::ms,v::l,x,h=>by
  rw[dm]at h;split at h
  . obtain⟨b,h1,a⟩:=wB h;grind
  . rcases eK.1 h with rfl|h
    . grind
    . obtain⟨b,h1,a⟩:=wB h;grind
theorem Kf{l:List I}{n:Nat}(h:∀m,m∈ms->m.ad.toNat≠n):((dm ts ms l).filter λx=>decide (x.id=n))=[]:=by
 rw[List.filter_eq_nil_iff];intro x a;obtain⟨m,h1,b⟩:=wB a;grind
theorem KM:∀{ms:List aS} {l:List I} {n j:Nat},ms.Pairwise (λa b=>a.ad.toNat≠b.ad.toNat)->l.length=ms.length->j<ms.length->(ms.getD j aB).ad.toNat=n->
 ((dm ts ms l).filter λx=>decide (x.id=n))=if dc (ms.getD j aB) (l.getD j av) then[]else[⟨n,(ms.getD j aB).cg,bp ts (ms.getD j aB).aw (l.getD j av)⟩]
 |[],l,n,j,_,_,d,_=>by cases d
 |m::ms,[],n,j,_,af,_,_=>by cases af
 |m::ms,v::l,n,0,c,af,d,he=>by
  rw[h5]at c;simp only[jy]at he⊢;have aG:=Kf (ts:=ts) (l:=l) (ms:=ms) (n:=n) λx g=>by have:=c.1 x g;omega
  rw[dm];grind
 |m::ms,v::l,n,j+1,c,af,d,he=>by
  rw[h5]at c;simp only[wI]at he⊢;have e:j<ms.length:=by simpa using d
  have f:ms.getD j aB∈ms:=by grind
  have i:=c.1 _ f;have ih:=KM (l:=l) c.2 (by simpa using af) e he;rw[dm];grind
theorem Y2(l:List bX)(n:Nat)(h:∀x,x∈l->0<=x.ad):((l.map jX).filter λx=>decide (x.id=n))=(l.filter λx=>decide (x.ad=(n:Int))).map jX:=by
 rw[List.filter_map]
 congr 1
 apply List.filter_congr;intro x a;have:=h x a;show decide (x.ad.toNat=n)=_;grind
noncomputable def fg (ts:List ai)(ms:List aS)(l:List I)(r:List bX):List Fd:=dm ts ms l++r.map jX
def gQ(ms:List aS):Prop:=ms.Pairwise (λa b=>a.ad<b.ad)/\∀m,m∈ms->cn m.ad
theorem OK(h:gQ ms):ms.Pairwise (λa b=>a.ad.toNat≠b.ad.toNat):=by
 refine h.1.imp_of_mem λ{a b} c d aC=>?_;have:=h.2 a c;have:=h.2 b d;unfold cn at*;omega
theorem IK:∀{ms:List aS} {l:List I},ms.Pairwise (λa b=>a.ad.toNat≠b.ad.toNat)->(dm ts ms l).Pairwise (λa b=>a.id≠b.id)
 |[],l,_=>by
  rw[dm]
  . exact .nil
  grind
 |m::ms,[],_=>by
  rw[dm]
  . exact .nil
  grind
 |m::ms,v::l,h=>by
  rw[h5]at h;rw[dm];split
  . exact IK h.2
  . rw[h5];refine⟨λx c=>?_,IK h.2⟩;obtain⟨e,h1,d⟩:=wB c;grind
theorem nQ{id:Int}(h:cB ms id=none):∀m,m∈ms->m.ad≠id:=by
 unfold cB at h;grind
theorem vC{l:List I}{r:List bX}(h:gQ ms)(ag:jP ms r):ke fq (fg ts ms l r)=true:=by
 apply LC;have key:(fg ts ms l r).Pairwise (λa b=>a.id≠b.id):=by
  unfold fg;rw[FX];refine⟨IK (OK h),?_,?_⟩
  . rw[ov];refine ag.1.imp_of_mem λ{a b} d e aC=>?_;have:=(ag.2 a d).1;have:=(ag.2 b e).1;show a.ad.toNat≠b.ad.toNat;unfold cn at*;omega
  . intro x f y g;obtain⟨m,h1,i⟩:=wB f;obtain⟨q,c,rfl⟩:=e0.1 g;have j:=nQ (ag.2 q c).2 m h1;have:=h.2 m h1;have:=(ag.2 q c).1;show x.id≠q.ad.toNat;unfold cn at*;omega
 refine key.imp λ{a b} k=>?_;simp only[fq,dO];omega
theorem Kb{l:List I}{r:List bX}(h:gQ ms)(ag:jP ms r){x:Fd}(a:x∈fg ts ms l r):1<=x.id/\x.id<=1000:=by
 rcases hQ.1 a with a|a
 . obtain⟨m,h1,c⟩:=wB a;have:=h.2 m h1;unfold cn at*;omega
 . obtain⟨q,b,rfl⟩:=e0.1 a;have:=(ag.2 q b).1;unfold cn at*;show 1<=q.ad.toNat/\q.ad.toNat<=1000;omega
theorem OL:SWO fq:=by refine⟨λx=>?_,λx y z h1 a=>?_,λx y z h1 a=>?_⟩<;>simp[fq]at*<;>omega
theorem X3{l:List Fd}(a:ke fq l=true)(ag:∀x,x∈l->1<=x.id/\x.id<=1000):
 gW fq l=(List.range' 1 1000).flatMap λn=>l.filter λx=>decide (x.id=n):=by
 refine Jp a (kK _ _) (KJ Fd.id _ List.nodup_range' l λx b=>?_) (DJ OL l) (Zk Fd.id 1 1000 l);have:=ag x b;rw[List.mem_range'_1];omega
end
section
variable {ts:List ai}{pl:Bool}
theorem cF:∀{l:List I} {t:Int},e4 ts pl t l↔∀x,x∈l->bY ts pl t x
 |[],t=>by rw[e4];simp
 |v::l,t=>by
  rw[e4,cF];grind
theorem hJ:∀{ms:List aS} {l:List I},hy ts pl ms l↔l.length=ms.length/\∀i,i<ms.length->bY ts pl (ms.getD i aB).aw (l.getD i av)
 |[],[]=>by
  have:hy ts pl [] []=True:=by rw[hy]
  grind
 |[],v::l=>by
  have:hy ts pl [] (v::l)=False:=by rw[hy]<;>(intros;simp_all)
  grind
 |m::ms,[]=>by
  have:hy ts pl (m::ms) []=False:=by rw[hy]<;>(intros;simp_all)
  grind
 |m::ms,v::l=>by
  rw[hy,hJ];constructor
  . grind
  . rintro ⟨h1,a⟩
    exact⟨a 0 (by simp),by simpa using h1,λi b=>a (i+1) (by simpa using b)⟩
end
end
end Go.Proofs.YtdjagncoefjfeaaGreat
