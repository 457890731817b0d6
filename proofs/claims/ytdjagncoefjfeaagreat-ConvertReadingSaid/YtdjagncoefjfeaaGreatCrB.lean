/- The functions of the program as functions of Lean, that its code does what they say, and what they answer; part B. -/
import Derived.Test.YtdjagncoefjfeaaGreatCrA

namespace Go.Proofs.YtdjagncoefjfeaaGreat
set_option linter.all false
section
open Go Go.Proofs.YtdjagncoefjfeaaGreat.Shv
open Tryz
set_option maxRecDepth 100000
def lM:aS×Int×I->Option (aj×Int)
 |(s,t,v)=>
 tQ ((⟨s.Types⟩:aS),t,I.eta v)>>=λr=>if !(r=0:Bool) then some ([],r)else j8 (t,I.eta v,1,s.Types,0)>>=λa=>if(bif (4096<(a.1.length:Int):Bool)then true else (200<a.2.2:Bool)) then some ([],3)else some (a.1,0)
theorem TF:ba Bh lM:= .bo (.k Xw (.k Vc .n))
def CH:Int×Bool×aj->Option (aj×Int)
 |(id,b,a)=>
 if(bif (id<1:Bool)then true else (1000<id:Bool)) then some ([],7)else if (4096<(a.length:Int):Bool) then some ([],3)else vw (id,b,a)>>=λr=>some (r,0)
theorem Xh:ba Ra CH:= .bo (.k GB .n)
def vr(p:aj):Option aj:=
 pA (bY .u64 (p.length:Int))>>=λr=>if (r.length+p.length<=eC:Bool) then some (r++p)else none
theorem W':ba Rb vr:= .bo (.k y0 .n)
mutual
def la:aS×Int×I->Option aj
 |(s,t,v)=>
 if aH t s.Types.length then some (s.Types.getD t.toNat aN)>>=λa=>if (a.Kind=5:Bool) then rq ([],a.ag,(a.ag.length:Int),0,s.Types,I.eta v)>>=λo=>some o else if (a.Kind=6:Bool) then hl (a,v.ad)>>=λr=>pA (bY .u64 v.ad)>>=λH=>if aH r.1 a.ag.length then if aH 0 v.ai.length then la (s,(a.ag.getD r.1.toNat ay).av,I.eta (v.ai.getD (0:Int).toNat au))>>=λJ=>if (H.length+J.length<=eC:Bool) then some (H++J)else none else none else none else if (a.Kind=9:Bool) then vd ([],v.ai,(v.ai.length:Int),0,s.Types,a)>>=λM=>some M else some (decide (a.Kind=7))>>=λt115=>if t115 then if t115 then k8 ([],v.ai,(v.ai.length:Int),0,s.Types,I.eta v,a)>>=λN=>some N else lM (s,t,I.eta v)>>=λX=>some X.1 else if (a.Kind=8:Bool) then k8 ([],v.ai,(v.ai.length:Int),0,s.Types,I.eta v,a)>>=λO=>some O else lM (s,t,I.eta v)>>=λY=>some Y.1 else none
  partial_fixpoint
def rq:aj×List aR×Int×Int×List ah×I->Option aj
 |(w,t36,y,t38,b,f)=>
 if (t38<y:Bool) then if aH t38 t36.length then some (t36.getD t38.toNat ay)>>=λc=>if aH t38 f.ai.length then sS ((⟨c.ad,c.Name,c.av,c.cf,c.bZ,I.eta c.bu⟩:aR),I.eta (f.ai.getD t38.toNat au))>>=λQ=>if !Q then if aH t38 f.ai.length then la ((⟨b⟩:aS),c.av,I.eta (f.ai.getD t38.toNat au))>>=λR=>CH (c.ad,c.cf,R)>>=λB=>if (w.length+B.1.length<=eC:Bool) then rq (w++B.1,t36,y,aM .i64 t38 1,b,I.eta f)else none else none else rq (w,t36,y,aM .i64 t38 1,b,I.eta f)else none else none else some w
  partial_fixpoint
def vd:aj×List I×Int×Int×List ah×ah->Option aj
 |(P,t101,K,t103,z,A)=>
 if (t103<K:Bool) then if aH t103 t101.length then la ((⟨z⟩:aS),A.aG,I.eta (t101.getD t103.toNat au))>>=λD=>if ([1].length+D.length<=eC:Bool) then vd ([1]++D,t101,K,aM .i64 t103 1,z,A)else none else none else some P
  partial_fixpoint
def k8:aj×List I×Int×Int×List ah×I×ah->Option aj
 |(q,t118,x,t120,p,u,j)=>
 if (t120<x:Bool) then if aH t120 t118.length then some (t118.getD t120.toNat au)>>=λL=>if (j.Kind=8:Bool) then if aH t120 u.aw.length then la ((⟨p⟩:aS),j.Key,I.eta (u.aw.getD t120.toNat au))>>=λS=>vr S>>=λE=>if (q.length+E.length<=eC:Bool) then some (q++E)>>=λt139=>la ((⟨p⟩:aS),j.aG,I.eta L)>>=λU=>vr U>>=λF=>if (t139.length+F.length<=eC:Bool) then k8 (t139++F,t118,x,aM .i64 t120 1,p,I.eta u,j)else none else none else none else la ((⟨p⟩:aS),j.aG,I.eta L)>>=λW=>vr W>>=λG=>if (q.length+G.length<=eC:Bool) then k8 (q++G,t118,x,aM .i64 t120 1,p,I.eta u,j)else none else none else some q
  partial_fixpoint
end
theorem VB:ei qu la/\eF 222 0 [2] AF k8/\eF 222 0 [1] AE vd/\eF 222 0 [0] AD rq:=la.mutual_partial_correctness (ed qu) (eE 222 0 [2] AF) (eE 222 0 [1] AE) (eE 222 0 [0] AD)
 (λ_ _ _ _ h0 h1 a b _ _ h=>er h (.k nD (.k y0 (.k (cm qu h0) (.k TF .n)))) (.k (eR AD b) (.k (eR AE a) (.k (eR AF h1) .n))))
 (λ_ _ h0 h1 _ _ h=>eQ AF h1 h (.k (cm qu h0) (.k W' .n)))
 (λ_ _ h0 a _ _ h=>eQ AE a h (.k (cm qu h0) .n))
 (λ_ _ h0 b _ _ h=>eQ AD b h (.k Gf (.k (cm qu h0) (.k Xh .n))))
theorem S6:ba qu la:=cm _ VB.1
def nT:List aR×Int×Int×List ah×List ah×aq×I×ah×Int×Bool×Int×aj×Int×Int×Bool×Int×aj×Int×aq×List I×List bX->Option ((Bool×List ah×List ah×I×aq×aq) ⊕ (List ah×List ah×aq×Int×Bool×Int×aj×Int×Int×Bool×Int×aj×Int×aq×List I×List bX))
 |(t115,v,t117,c,e,f,b,j,k,l,m,n,o,p,q,r,s,t,g,u,i)=>
 if (t117<v:Bool) then if aH t117 t115.length then some (t115.getD t117.toNat ay)>>=λa=>hl (j,a.ad)>>=λw=>if w.2 then nT (t115,v,aM .i64 t117 1,c,e,f,I.eta b,j,k,l,m,n,o,p,q,r,s,t,g,u,i)else if a.cf then vJ (a.ad,c,e,f,g)>>=λd=>some (.inl (d.2.1,d.2.2.1,d.2.2.2.1,I.eta d.1,d.2.2.2.2.1,d.2.2.2.2.2))else if aH t117 b.ai.length then sS ((⟨a.ad,a.Name,a.av,a.cf,a.bZ,I.eta a.bu⟩:aR),I.eta (b.ai.getD t117.toNat au))>>=λx=>if !x then if aH t117 b.ai.length then la ((⟨c⟩:aS),a.av,I.eta (b.ai.getD t117.toNat au))>>=λy=>some [(⟨a.ad,y⟩:bX)]>>=λt163=>if room 24 (i++t163).length then nT (t115,v,aM .i64 t117 1,c,e,f,I.eta b,j,k,l,m,n,o,p,q,r,s,t,g,u,i++t163)else none else none else nT (t115,v,aM .i64 t117 1,c,e,f,I.eta b,j,k,l,m,n,o,p,q,r,s,t,g,u,i)else none else none else some (.inr (c,e,f,k,l,m,n,o,p,q,r,s,t,g,u,i))
  partial_fixpoint
theorem U0:cQ 183 2 [1] PC nT:= .rx nT.partial_correctness (.k nD (.k SM (.k Gf (.k S6 .n))))
mutual
def ru:Int×Int×I×Int×List ah×List ah×aq×aq->Option (I×Bool×List ah×List ah×aq×aq)
 |(step,wt,v,rt,b,f,p,j)=>
 some [step]>>=λt20=>if room 8 (j++t20).length then sT (wt,I.eta v,rt,b,f,p,j++t20)>>=λr=>some (dj .i64 (r.2.2.2.2.2.length:Int) 1)>>=λt42=>if dY 0 t42 r.2.2.2.2.2.length then if (t42.toNat<=r.2.2.2.2.2.length:Bool) then some (I.eta r.1,r.2.1,r.2.2.1,r.2.2.2.1,r.2.2.2.2.1,r.2.2.2.2.2.take t42.toNat)else none else none else none
  partial_fixpoint
def nx(t:Int×List I×Int×List ah×List ah×aq×aq):Option (List I×Bool×List ah×List ah×aq×aq):=
 match t with
 |(wt,l,rt,b,f,p,j)=>
 sB (wt,rt,l,(l.length:Int),0,b,f,p,[],j)>>=λo=>match o with
 |.inl u=>
 some ([],u.1,u.2.1,u.2.2.1,u.2.2.2.1,u.2.2.2.2)
 |.inr e=>
 some (e.2.2.2.1,true,e.1,e.2.1,e.2.2.1,e.2.2.2.2)
  partial_fixpoint
def sT:Int×I×Int×List ah×List ah×aq×aq->Option (I×Bool×List ah×List ah×aq×aq)
 |(wt,v,rt,b,f,p,j)=>
 if aH wt b.length then some (b.getD wt.toNat aN)>>=λc=>if aH rt f.length then some (f.getD rt.toNat aN)>>=λa=>if !(c.Kind=a.Kind:Bool) then sP (b,f,p,j)>>=λr=>some (I.eta r.1,r.2.1,r.2.2.1,r.2.2.2.1,r.2.2.2.2.2,r.2.2.2.2.1)else
 let bv:=λcr=>
 if !cr then sP (b,f,p,j)>>=λS=>some (I.eta S.1,S.2.1,S.2.2.1,S.2.2.2.1,S.2.2.2.2.2,S.2.2.2.2.1)else if (c.Kind=5:Bool) then x6 (c,I.eta v,a,b,f,p,j)>>=λN=>some (I.eta N.1,N.2.1,N.2.2.1,N.2.2.2.1,N.2.2.2.2.1,N.2.2.2.2.2)else if (c.Kind=6:Bool) then ya (c,I.eta v,a,b,f,p,j)>>=λO=>some (I.eta O.1,O.2.1,O.2.2.1,O.2.2.2.1,O.2.2.2.2.1,O.2.2.2.2.2)else if (c.Kind=8:Bool) then nx (c.Key,v.aw,a.Key,b,f,p,j)>>=λA=>if !A.2.1 then some ((⟨0,false,0,[],0,[],[],[]⟩:I),false,A.2.2.1,A.2.2.2.1,A.2.2.2.2.1,A.2.2.2.2.2)else nx (c.aG,v.ai,a.aG,A.2.2.1,A.2.2.2.1,A.2.2.2.2.1,A.2.2.2.2.2)>>=λE=>if !E.2.1 then some ((⟨0,false,0,[],0,[],[],[]⟩:I),false,E.2.2.1,E.2.2.2.1,E.2.2.2.2.1,E.2.2.2.2.2)else some ((⟨v.Kind,v.bL,v.bf,v.bn,v.ad,A.1,E.1,[]⟩:I),true,E.2.2.1,E.2.2.2.1,E.2.2.2.2.1,E.2.2.2.2.2)else nx (c.aG,v.ai,a.aG,b,f,p,j)>>=λF=>if !F.2.1 then some ((⟨0,false,0,[],0,[],[],[]⟩:I),false,F.2.2.1,F.2.2.2.1,F.2.2.2.2.1,F.2.2.2.2.2)else some ((⟨v.Kind,v.bL,v.bf,v.bn,v.ad,[],F.1,[]⟩:I),true,F.2.2.1,F.2.2.2.1,F.2.2.2.2.1,F.2.2.2.2.2)
 if (c.Kind=2:Bool) then bv (bif decide (a.bC<=v.bf)then decide (v.bf<=a.bG)else false)else
 let bs:=λci=>
 bv ci
 if (c.Kind=3:Bool) then bs (decide ((v.bn.length:Int)<=a.Max))else if (c.Kind=4:Bool) then tR (a,v.ad)>>=λb4=>bs (bif b4.2 then true else a.Open)else some (decide (c.Kind=7))>>=λt91=>
 let bp:=λce=>
 let bi:=λ(_:Unit)=>
 if (c.Kind=5:Bool) then x6 (c,I.eta v,a,b,f,p,j)>>=λQ=>some (I.eta Q.1,Q.2.1,Q.2.2.1,Q.2.2.2.1,Q.2.2.2.2.1,Q.2.2.2.2.2)else if (c.Kind=6:Bool) then ya (c,I.eta v,a,b,f,p,j)>>=λR=>some (I.eta R.1,R.2.1,R.2.2.1,R.2.2.2.1,R.2.2.2.2.1,R.2.2.2.2.2)else if (c.Kind=8:Bool) then nx (c.Key,v.aw,a.Key,b,f,p,j)>>=λx=>if !x.2.1 then some ((⟨0,false,0,[],0,[],[],[]⟩:I),false,x.2.2.1,x.2.2.2.1,x.2.2.2.2.1,x.2.2.2.2.2)else nx (c.aG,v.ai,a.aG,x.2.2.1,x.2.2.2.1,x.2.2.2.2.1,x.2.2.2.2.2)>>=λz=>if !z.2.1 then some ((⟨0,false,0,[],0,[],[],[]⟩:I),false,z.2.2.1,z.2.2.2.1,z.2.2.2.2.1,z.2.2.2.2.2)else some ((⟨v.Kind,v.bL,v.bf,v.bn,v.ad,x.1,z.1,[]⟩:I),true,z.2.2.1,z.2.2.2.1,z.2.2.2.2.1,z.2.2.2.2.2)else nx (c.aG,v.ai,a.aG,b,f,p,j)>>=λB=>if !B.2.1 then some ((⟨0,false,0,[],0,[],[],[]⟩:I),false,B.2.2.1,B.2.2.2.1,B.2.2.2.2.1,B.2.2.2.2.2)else some ((⟨v.Kind,v.bL,v.bf,v.bn,v.ad,[],B.1,[]⟩:I),true,B.2.2.1,B.2.2.2.1,B.2.2.2.2.1,B.2.2.2.2.2)
 if ce then if !((v.ai.length:Int)<=a.Max:Bool) then sP (b,f,p,j)>>=λP=>some (I.eta P.1,P.2.1,P.2.2.1,P.2.2.2.1,P.2.2.2.2.2,P.2.2.2.2.1)else bi ()else bi ()
 if t91 then bp t91 else bp (decide (c.Kind=8))else none else none
  partial_fixpoint
def x6(t:ah×I×ah×List ah×List ah×aq×aq):Option (I×Bool×List ah×List ah×aq×aq):=
 match t with
 |(c,v,y,b,f,p,j)=>
 o2 (y.ag,(y.ag.length:Int),0,b,f,p,c,I.eta v,y,0,false,0,[],0,v.Kind,false,0,[],0,j,[])>>=λo=>match o with
 |.inl u=>
 some (I.eta u.2.2.2.2.1,u.1,u.2.1,u.2.2.1,u.2.2.2.1,u.2.2.2.2.2)
 |.inr e=>
 nT (e.2.2.2.1.ag,(e.2.2.2.1.ag.length:Int),0,e.1,e.2.1,e.2.2.1,I.eta e.2.2.2.2.1,e.2.2.2.2.2.1,e.2.2.2.2.2.2.1,e.2.2.2.2.2.2.2.1,e.2.2.2.2.2.2.2.2.1,e.2.2.2.2.2.2.2.2.2.1,e.2.2.2.2.2.2.2.2.2.2.1,e.2.2.2.2.2.2.2.2.2.2.2.1,e.2.2.2.2.2.2.2.2.2.2.2.2.1,e.2.2.2.2.2.2.2.2.2.2.2.2.2.1,e.2.2.2.2.2.2.2.2.2.2.2.2.2.2.1,e.2.2.2.2.2.2.2.2.2.2.2.2.2.2.2.1,e.2.2.2.2.2.2.2.2.2.2.2.2.2.2.2.2.1,e.2.2.2.2.2.2.2.2.2.2.2.2.2.2.2.2.2,[])>>=λb1=>match b1 with
 |.inl L=>
 some (I.eta L.2.2.2.1,L.1,L.2.1,L.2.2.1,L.2.2.2.2.2,L.2.2.2.2.1)
 |.inr w=>
 some ((⟨w.2.2.2.2.2.2.2.2.1,w.2.2.2.2.2.2.2.2.2.1,w.2.2.2.2.2.2.2.2.2.2.1,w.2.2.2.2.2.2.2.2.2.2.2.1,w.2.2.2.2.2.2.2.2.2.2.2.2.1,[],w.2.2.2.2.2.2.2.2.2.2.2.2.2.2.1,w.2.2.2.2.2.2.2.2.2.2.2.2.2.2.2⟩:I),true,w.1,w.2.1,w.2.2.1,w.2.2.2.2.2.2.2.2.2.2.2.2.2.1)
  partial_fixpoint
def ya:ah×I×ah×List ah×List ah×aq×aq->Option (I×Bool×List ah×List ah×aq×aq)
 |(c,v,y,b,f,p,j)=>
 hl (c,v.ad)>>=λr=>hl (y,v.ad)>>=λD=>if D.2 then if aH r.1 c.ag.length then if aH 0 v.ai.length then if aH D.1 y.ag.length then ru (v.ad,(c.ag.getD r.1.toNat ay).av,I.eta (v.ai.getD (0:Int).toNat au),(y.ag.getD D.1.toNat ay).av,b,f,p,j)>>=λG=>if !G.2.1 then some ((⟨0,false,0,[],0,[],[],[]⟩:I),false,G.2.2.1,G.2.2.2.1,G.2.2.2.2.1,G.2.2.2.2.2)else some ((⟨v.Kind,false,0,[],v.ad,[],[I.eta G.1],[]⟩:I),true,G.2.2.1,G.2.2.2.1,G.2.2.2.2.1,G.2.2.2.2.2)else none else none else none else if !y.Open then sP (b,f,p,j)>>=λM=>some (I.eta M.1,M.2.1,M.2.2.1,M.2.2.2.1,M.2.2.2.2.2,M.2.2.2.2.1)else if aH r.1 c.ag.length then if aH 0 v.ai.length then la ((⟨b⟩:aS),(c.ag.getD r.1.toNat ay).av,I.eta (v.ai.getD (0:Int).toNat au))>>=λJ=>some ((⟨v.Kind,false,0,[],v.ad,[],[],[(⟨v.ad,J⟩:bX)]⟩:I),true,b,f,p,j)else none else none
  partial_fixpoint
def sB:Int×Int×List I×Int×Int×List ah×List ah×aq×List I×aq->Option ((Bool×List ah×List ah×aq×aq) ⊕ (List ah×List ah×aq×List I×aq))
 |(b0,bR,t15,bT,t17,a5,a9,bb,am,be)=>
 if (t17<bT:Bool) then if aH t17 t15.length then ru (t17,b0,I.eta (t15.getD t17.toNat au),bR,a5,a9,bb,be)>>=λr=>if !r.2.1 then some (.inl (false,r.2.2.1,r.2.2.2.1,r.2.2.2.2.1,r.2.2.2.2.2))else some [I.eta r.1]>>=λt35=>if room 120 (am++t35).length then sB (b0,bR,t15,bT,aM .i64 t17 1,r.2.2.1,r.2.2.2.1,r.2.2.2.2.1,am++t35,r.2.2.2.2.2)else none else none else some (.inr (a5,a9,bb,am,be))
  partial_fixpoint
def o2:List aR×Int×Int×List ah×List ah×aq×ah×I×ah×Int×Bool×Int×aj×Int×Int×Bool×Int×aj×Int×aq×List I->Option ((Bool×List ah×List ah×aq×I×aq) ⊕ (List ah×List ah×aq×ah×I×ah×Int×Bool×Int×aj×Int×Int×Bool×Int×aj×Int×aq×List I))
 |(t25,a4,t27,X,Y,Z,H,K,an,ap,ax,aC,aD,aJ,aZ,a0,a1,a2,a3,af,W)=>
 if (t27<a4:Bool) then if aH t27 t25.length then some (t25.getD t27.toNat ay)>>=λa=>hl (H,a.ad)>>=λr=>if !r.2 then if !a.bZ then vJ (a.ad,X,Y,Z,af)>>=λD=>some (.inl (D.2.1,D.2.2.1,D.2.2.2.1,D.2.2.2.2.2,I.eta D.1,D.2.2.2.2.1))else ka (I.eta a.bu)>>=λb2=>some [I.eta b2]>>=λt54=>if room 120 (W++t54).length then o2 (t25,a4,aM .i64 t27 1,X,Y,Z,H,I.eta K,an,ap,ax,aC,aD,aJ,aZ,a0,a1,a2,a3,af,W++t54)else none else if aH r.1 H.ag.length then if aH r.1 K.ai.length then ru (a.ad,(H.ag.getD r.1.toNat ay).av,I.eta (K.ai.getD r.1.toNat au),a.av,X,Y,Z,af)>>=λq=>if aH r.1 H.ag.length then some (H.ag.getD r.1.toNat ay)>>=λU=>if aH r.1 K.ai.length then sS ((⟨U.ad,U.Name,U.av,U.cf,U.bZ,I.eta U.bu⟩:aR),I.eta (K.ai.getD r.1.toNat au))>>=λbD=>some (!q.2.1)>>=λt90=>(if(bD&&(!t90)) then sS ((⟨a.ad,a.Name,a.av,a.cf,a.bZ,I.eta a.bu⟩:aR),I.eta q.1)else some false)>>=λb3=>if(bif bD then bif t90 then true else(!b3)else false) then vJ (a.ad,q.2.2.1,q.2.2.2.1,q.2.2.2.2.1,q.2.2.2.2.2)>>=λJ=>some (.inl (J.2.1,J.2.2.1,J.2.2.2.1,J.2.2.2.2.2,I.eta J.1,J.2.2.2.2.1))else if !q.2.1 then some (.inl (false,q.2.2.1,q.2.2.2.1,q.2.2.2.2.1,(⟨0,false,0,[],0,[],[],[]⟩:I),q.2.2.2.2.2))else some [I.eta q.1]>>=λt110=>if room 120 (W++t110).length then o2 (t25,a4,aM .i64 t27 1,q.2.2.1,q.2.2.2.1,q.2.2.2.2.1,H,I.eta K,an,ap,ax,aC,aD,aJ,aZ,a0,a1,a2,a3,q.2.2.2.2.2,W++t110)else none else none else none else none else none else none else some (.inr (X,Y,Z,H,I.eta K,an,ap,ax,aC,aD,aJ,aZ,a0,a1,a2,a3,af,W))
  partial_fixpoint
end
theorem UT:ei u1 ru/\ei xr sT/\ei Bp nx/\eF 185 2 [0] AI sB/\ei Bo ya/\ei Bn x6/\eF 183 2 [0] AH o2:=ru.mutual_partial_correctness (ed u1) (ed xr) (ed Bp) (eE 185 2 [0] AI) (ed Bo) (ed Bn) (eE 183 2 [0] AH)
 (λ_ h1 _ _ h=>er h (.k (cm xr h1) .n))
 (λ_ _ _ c d bb _ _ h=>er h (.k SS (.k (cm Bn bb) (.k (cm Bo d) (.k (cm Bp c) (.k C0 .n))))))
 (λ_ a _ _ h=>er h .n (.k (eR AI a) .n))
 (λ_ _ h0 a _ _ h=>eQ AI a h (.k (cm u1 h0) .n))
 (λ_ h0 _ _ h=>er h (.k nD (.k (cm u1 h0) (.k SS (.k S6 .n)))))
 (λ_ b _ _ h=>er h .n (.k (eR AH b) (.k U0 .n)))
 (λ_ _ h0 b _ _ h=>eQ AH b h (.k nD (.k SM (.k Xu (.k (cm u1 h0) (.k Gf .n))))))
theorem VC:ba xr sT:=cm _ UT.2.1
def zj:aS×Int×I×aS×Int->Option (I×Int)
 |(w,wt,v,r,rt)=>
 Cz (w,wt,I.eta v,r,rt)>>=λa=>if !(a=0:Bool) then some ((⟨0,false,0,[],0,[],[],[]⟩:I),a)else sT (wt,I.eta v,rt,w.Types,r.Types,[],[])>>=λb=>if !b.2.1 then some ((⟨0,false,0,[],0,[],[],[]⟩:I),12)else some (I.eta b.1,0)
theorem Wk:ba Bg zj:= .bo (.k W7 (.k VC .n))
def p0:dO×dO×aj->Option (eW×Int)
 |(w,r,m)=>
 tT (w.cX,w.av,m)>>=λa=>if !(a.2=0:Bool) then some ((⟨(⟨0,false,0,[],0,[],[],[]⟩:I),(⟨0,false,0,[],0,[],[],[]⟩:I),[]⟩:eW),12)else vz (w.cX,w.av,I.eta a.1)>>=λe=>if !(e.2=0:Bool) then some ((⟨(⟨0,false,0,[],0,[],[],[]⟩:I),(⟨0,false,0,[],0,[],[],[]⟩:I),[]⟩:eW),12)else zj (w.cX,w.av,I.eta e.1,r.cX,r.av)>>=λf=>if !(f.2=0:Bool) then some ((⟨(⟨0,false,0,[],0,[],[],[]⟩:I),(⟨0,false,0,[],0,[],[],[]⟩:I),[]⟩:eW),12)else lM (w.cX,w.av,I.eta a.1)>>=λc=>if !(c.2=0:Bool) then some ((⟨(⟨0,false,0,[],0,[],[],[]⟩:I),(⟨0,false,0,[],0,[],[],[]⟩:I),[]⟩:eW),3)else tT (r.cX,r.av,c.1)>>=λb=>if !(b.2=0:Bool) then some ((⟨(⟨0,false,0,[],0,[],[],[]⟩:I),(⟨0,false,0,[],0,[],[],[]⟩:I),[]⟩:eW),12)else lM (r.cX,r.av,I.eta b.1)>>=λd=>if !(d.2=0:Bool) then some ((⟨(⟨0,false,0,[],0,[],[],[]⟩:I),(⟨0,false,0,[],0,[],[],[]⟩:I),[]⟩:eW),3)else some ((⟨I.eta a.1,I.eta b.1,d.1⟩:eW),0)
theorem Wl:ba E5 p0:= .bo (.k XM (.k WY (.k Wk (.k TF .n))))
def lP:dO×dO×aj->Option (eW×Int)
 |(w,r,m)=>
 C8 [w,r]>>=λb=>if !(b=0:Bool) then some ((⟨(⟨0,false,0,[],0,[],[],[]⟩:I),(⟨0,false,0,[],0,[],[],[]⟩:I),[]⟩:eW),b)else p0 (w,r,m)>>=λa=>some ((⟨I.eta a.1.v,I.eta a.1.u,a.1.message⟩:eW),a.2)
theorem W0:ba E0 lP:= .bo (.k XG (.k Wl .n))
def G8:dO×dO×aj->Option (aj×Int)
 |(w,r,m)=>
 lP (w,r,m)>>=λa=>some (a.1.message,a.2)
theorem Wm:ba nq G8:= .bo (.k W0 .n)
def mC(t:ah):Option ah:=
 if (t.Kind=1:Bool) then some (⟨t.Kind,[],0,0,0,[],[],0,0,false⟩:ah)else if (t.Kind=2:Bool) then some (⟨t.Kind,[],t.bC,t.bG,0,[],[],0,0,false⟩:ah)else if (t.Kind=3:Bool) then some (⟨t.Kind,[],0,0,t.Max,[],[],0,0,false⟩:ah)else if (t.Kind=4:Bool) then some (⟨t.Kind,t.Name,0,0,0,t.bj,[],0,0,t.Open⟩:ah)else if (t.Kind=5:Bool) then some (⟨t.Kind,t.Name,0,0,0,[],t.ag,0,0,false⟩:ah)else if (t.Kind=6:Bool) then some (⟨t.Kind,t.Name,0,0,0,[],t.ag,0,0,t.Open⟩:ah)else if (t.Kind=7:Bool) then some (⟨t.Kind,[],0,0,t.Max,[],[],0,t.aG,false⟩:ah)else if (t.Kind=8:Bool) then some (⟨t.Kind,[],0,0,t.Max,[],[],t.Key,t.aG,false⟩:ah)else some (⟨t.Kind,[],0,0,0,[],[],0,t.aG,false⟩:ah)
theorem VD:ba aeX mC:= .bo
def yP:aR×aR->Option Bool
 |(a,b)=>
 some (bif bif bif bif decide (a.ad=b.ad)then decide (a.Name=b.Name)else false then decide (a.av=b.av)else false then fB a.cf b.cf else false then fB a.bZ b.bZ else false)>>=λt37=>(if t37 then jM ((⟨a.bu.Kind,a.bu.bL,a.bu.bf,a.bu.bn,a.bu.ad,a.bu.aw,a.bu.ai,a.bu.Rest⟩:I),(⟨b.bu.Kind,b.bu.bL,b.bu.bf,b.bu.bn,b.bu.ad,b.bu.aw,b.bu.ai,b.bu.Rest⟩:I))else some false)>>=λr=>some (bif t37 then r else false)
theorem U1:ba afb yP:= .bo (.k yM .n)
def oZ:Int×ah×ah->Option ((Bool) ⊕ (ah×ah))
 |(i,a,b)=>
 if (i<(a.bj.length:Int):Bool) then if aH i a.bj.length then some (a.bj.getD i.toNat dN)>>=λc=>if aH i b.bj.length then some (b.bj.getD i.toNat dN)>>=λd=>if !(hR c.ad d.ad&&(jC c.Name d.Name&&true)) then some (.inl false)else oZ (aM .i64 i 1,a,b)else none else none else some (.inr (a,b))
  partial_fixpoint
theorem T0:cQ 153 0 [0] OT oZ:= .rx oZ.partial_correctness
def o0:Int×ah×ah->Option ((Bool) ⊕ (Unit))
 |(a,d,e)=>
 if (a<(d.ag.length:Int):Bool) then if aH a d.ag.length then some (d.ag.getD a.toNat ay)>>=λb=>if aH a e.ag.length then some (e.ag.getD a.toNat ay)>>=λc=>yP ((⟨b.ad,b.Name,b.av,b.cf,b.bZ,I.eta b.bu⟩:aR),(⟨c.ad,c.Name,c.av,c.cf,c.bZ,I.eta c.bu⟩:aR))>>=λr=>if !r then some (.inl false)else o0 (aM .i64 a 1,d,e)else none else none else some (.inr ())
  partial_fixpoint
theorem T1:cQ 153 0 [1] OU o0:= .rx o0.partial_correctness (.k U1 .n)
def Ci(g:ah×ah):Option Bool:=
 match g with
 |(a,b)=>
 if(bif bif bif bif bif bif bif bif bif (!(a.Kind=b.Kind:Bool))then true else(!(a.Name=b.Name:Bool))then true else(!(a.bC=b.bC:Bool))then true else(!(a.bG=b.bG:Bool))then true else(!(a.Max=b.Max:Bool))then true else(!(a.Key=b.Key:Bool))then true else(!(a.aG=b.aG:Bool))then true else(!(fB a.Open b.Open))then true else(!((a.bj.length:Int)=(b.bj.length:Int):Bool))then true else(!((a.ag.length:Int)=(b.ag.length:Int):Bool))) then some false else oZ (0,(⟨a.Kind,a.Name,a.bC,a.bG,a.Max,a.bj,a.ag,a.Key,a.aG,a.Open⟩:ah),(⟨b.Kind,b.Name,b.bC,b.bG,b.Max,b.bj,b.ag,b.Key,b.aG,b.Open⟩:ah))>>=λo=>match o with
 |.inl d=>
 some d
 |.inr c=>
 o0 (0,c.1,c.2)>>=λe=>match e with
 |.inl f=>
 some f
 |.inr i=>
 some true
theorem UE:ba aeW Ci:= .bo .n (.k T0 (.k T1 .n))
def yb(b:Int):Option Bool:=
 some (bif bif bif decide (97<=b)then decide (b<=122)else false then true else bif decide (65<=b)then decide (b<=90)else false then true else decide (b=95))
theorem SP:ba afc yb:= .bo
def B5(b:Int):Option Bool:=
 some (bif decide (48<=b)then decide (b<=57)else false)
theorem VE:ba afd B5:= .bo
def o8:aj×Int->Option ((Bool) ⊕ (Unit))
 |(a,i)=>
 if (i<(a.length:Int):Bool) then if aH i a.length then yb (fz a i)>>=λb=>some (!b)>>=λt27=>if(aH i a.length||(!t27)) then (if t27 then B5 (fz a i)else some false)>>=λc=>if(bif t27 then(!c)else false) then some (.inl false)else o8 (a,aM .i64 i 1)else none else none else some (.inr ())
  partial_fixpoint
theorem Vd:cQ 155 0 [0] OV o8:= .rx o8.partial_correctness (.k SP (.k VE .n))
def sL(s:aj):Option Bool:=
 some (bif decide (s=[])then true else decide (24<(s.length:Int)))>>=λt10=>if(aH 0 s.length||(!(!t10))) then (if !t10 then yb (fz s 0)else some false)>>=λr=>if(bif t10 then true else(!r)) then some false else o8 (s,0)>>=λo=>match o with
 |.inl a=>
 some a
 |.inr b=>
 some true else none
theorem Gr:ba aeY sL:= .bo (.k SP .n) (.k Vd .n)
def zs:Int×Int->Option Bool
 |(a,n)=>
 some (bif bif decide (a<n)then decide (1<=n)else false then decide (n<=1000)else false)
theorem Tz:ba afe zs:= .bo
def nu:List c4×Int×Int->Option ((Bool) ⊕ (List c4×Int))
 |(a,b,k)=>
 if (k<b:Bool) then if aH k a.length then if aH b a.length then if ((a.getD k.toNat dN).Name=(a.getD b.toNat dN).Name:Bool) then some (.inl false)else nu (a,b,aM .i64 k 1)else none else none else some (.inr (a,b))
  partial_fixpoint
theorem Ul:cQ 156 0 [0,0] L9 nu:= .rx nu.partial_correctness
def o3(g:List c4×Int×Int):Option ((Bool) ⊕ (List c4)):=
 match g with
 |(a,c,i)=>
 if (i<(a.length:Int):Bool) then if aH i a.length then zs (c,(a.getD i.toNat dN).ad)>>=λr=>some (!r)>>=λt19=>if(aH i a.length||(!(!t19))) then (if !t19 then sL (a.getD i.toNat dN).Name else some false)>>=λf=>if(bif t19 then true else(!f)) then some (.inl false)else nu (a,i,0)>>=λd=>match d with
 |.inl e=>
 some (.inl e)
 |.inr b=>
 if aH b.2 b.1.length then o3 (b.1,(b.1.getD b.2.toNat dN).ad,aM .i64 b.2 1)else none else none else none else some (.inr a)
  partial_fixpoint
theorem U2:cQ 156 0 [0] OW o3:= .rx o3.partial_correctness (.k Tz (.k Gr .n)) (.k Ul .n)
def x7(l:List c4):Option Bool:=
 o3 (l,0,0)>>=λo=>match o with
 |.inl b=>
 some b
 |.inr a=>
 some (bif decide (1<=(a.length:Int))then decide ((a.length:Int)<=16)else false)
theorem UU:ba aeZ x7:= .bo .n (.k U2 .n)
def nS:List aR×Bool×Int×Int×aR->Option ((Bool) ⊕ (List aR×Bool×Int×aR))
 |(b,d,c,k,a)=>
 if (k<c:Bool) then if aH k b.length then if ((b.getD k.toNat ay).Name=a.Name:Bool) then some (.inl false)else nS (b,d,c,aM .i64 k 1,(⟨a.ad,a.Name,a.av,a.cf,a.bZ,I.eta a.bu⟩:aR))else none else some (.inr (b,d,c,(⟨a.ad,a.Name,a.av,a.cf,a.bZ,I.eta a.bu⟩:aR)))
  partial_fixpoint
theorem Um:cQ 157 0 [0,0] Ma nS:= .rx nS.partial_correctness
def o4(l:List aR×Bool×Int×Int):Option ((Bool) ⊕ (List aR×Bool)):=
 match l with
 |(b,d,e,i)=>
 if (i<(b.length:Int):Bool) then if aH i b.length then some (b.getD i.toNat ay)>>=λa=>zs (e,a.ad)>>=λr=>some (!r)>>=λt23=>(if !t23 then sL a.Name else some false)>>=λj=>if(bif bif bif t23 then true else(!j)then true else bif a.cf then a.bZ else false then true else bif (!d)then bif a.cf then true else a.bZ else false) then some (.inl false)else some (!a.bZ)>>=λt52=>(if t52 then jM (I.eta a.bu,(⟨0,false,0,[],0,[],[],[]⟩:I))else some false)>>=λk=>if(bif t52 then(!k)else false) then some (.inl false)else nS (b,d,i,0,(⟨a.ad,a.Name,a.av,a.cf,a.bZ,I.eta a.bu⟩:aR))>>=λf=>match f with
 |.inl g=>
 some (.inl g)
 |.inr c=>
 o4 (c.1,c.2.1,c.2.2.2.ad,aM .i64 c.2.2.1 1)else none else some (.inr (b,d))
  partial_fixpoint
theorem If:cQ 157 0 [0] OX o4:= .rx o4.partial_correctness (.k Tz (.k Gr (.k yM .n))) (.k Um .n)
def vK(c:List aR×Bool):Option Bool:=
 match c with
 |(l,record)=>
 o4 (l,record,0,0)>>=λo=>match o with
 |.inl b=>
 some b
 |.inr a=>
 some (bif decide ((a.1.length:Int)<=16)then bif a.2 then true else decide (1<=(a.1.length:Int))else false)
theorem UW:ba ae0 vK:= .bo .n (.k If .n)
def hM(t:ah):Option Bool:=
 some (bif decide (t.Kind<1)then true else decide (9<t.Kind))>>=λt10=>(if !t10 then mC t else some aN)>>=λr=>(if !t10 then Ci (t,r)else some false)>>=λc=>some (bif t10 then true else(!c))>>=λt17=>(if !t17 then j' t.Kind else some false)>>=λa=>(if((!t17)&&a) then sL t.Name else some false)>>=λd=>if(bif t17 then true else bif a then(!d)else false) then some false else if (t.Kind=2:Bool) then some (decide (t.bC<=t.bG))else if (t.Kind=3:Bool) then some (bif decide (0<=t.Max)then decide (t.Max<=200)else false)else if (t.Kind=4:Bool) then x7 t.bj>>=λe=>some e else some (decide (t.Kind=5))>>=λt54=>if t54 then if t54 then vK (t.ag,decide (t.Kind=5))>>=λf=>some f else some (decide (t.Kind=7))>>=λt63=>if t63 then if t63 then some (bif decide (0<=t.Max)then decide (t.Max<=50)else false)else some true else if (t.Kind=8:Bool) then some (bif decide (0<=t.Max)then decide (t.Max<=50)else false)else some true else if (t.Kind=6:Bool) then vK (t.ag,decide (t.Kind=5))>>=λg=>some g else some (decide (t.Kind=7))>>=λb=>if b then if b then some (bif decide (0<=t.Max)then decide (t.Max<=50)else false)else some true else if (t.Kind=8:Bool) then some (bif decide (0<=t.Max)then decide (t.Max<=50)else false)else some true
theorem Wn:ba aeA hM:= .bo (.k VD (.k UE (.k Gs (.k Gr (.k UU (.k UW .n))))))
def rm:Int×ah×aq->Option (ah×aq)
 |(i,a,b)=>
 if (i<(a.ag.length:Int):Bool) then if aH i a.ag.length then some [(a.ag.getD i.toNat ay).av]>>=λt19=>if room 8 (b++t19).length then rm (aM .i64 i 1,a,b++t19)else none else none else some (a,b)
  partial_fixpoint
theorem UX:cQ 114 0 [0] OY rm:= .rx rm.partial_correctness
def CW(t:ah):Option aq:=
 rm (0,t,[])>>=λo=>if (o.1.Kind=8:Bool) then some [o.1.Key]>>=λt27=>if room 8 (o.2++t27).length then some (o.2++t27)>>=λl=>if(bif bif (o.1.Kind=7:Bool)then true else (o.1.Kind=8:Bool)then true else (o.1.Kind=9:Bool)) then some [o.1.aG]>>=λt45=>if room 8 (l++t45).length then some (l++t45)else none else some l else none else if(bif bif (o.1.Kind=7:Bool)then true else (o.1.Kind=8:Bool)then true else (o.1.Kind=9:Bool)) then some [o.1.aG]>>=λa=>if room 8 (o.2++a).length then some (o.2++a)else none else some o.2
theorem WA:ba aeB CW:= .bo .n (.k UX .n)
def nU:Int×Int×List ah×Int×aj×Int×Int×Int×List c4×List aR×Int×Int×Bool->Option ((Int) ⊕ (Int×List ah×Int×aj×Int×Int×Int×List c4×List aR×Int×Int×Bool))
 |(d,k,a,b,c,e,f,g,i,j,l,m,n)=>
 if (k<d:Bool) then j' b>>=λo=>if(aH k a.length||(!o)) then if(bif o then ((a.getD k.toNat aN).Name=c:Bool)else false) then some (.inl 1)else nU (d,aM .i64 k 1,a,b,c,e,f,g,i,j,l,m,n)else none else some (.inr (d,a,b,c,e,f,g,i,j,l,m,n))
  partial_fixpoint
theorem U3:cQ 79 0 [0,0] Nr nU:= .rx nU.partial_correctness (.k Gs .n)
def rf:Int×aq×Int×List ah×Int×aj×Int×Int×Int×List c4×List aR×Int×Int×Bool->Option ((Int) ⊕ (Int×List ah×Int×aj×Int×Int×Int×List c4×List aR×Int×Int×Bool))
 |(o,l,a,b,c,d,e,f,g,i,j,k,m,n)=>
 if (a<(l.length:Int):Bool) then if aH a l.length then some (decide (l.getD a.toNat 0<0))>>=λt58=>if(aH a l.length||(!(!t58))) then if(bif t58 then true else ((b.length:Int)<=l.getD a.toNat 0:Bool)) then some (.inl 4)else rf (o,l,aM .i64 a 1,b,c,d,e,f,g,i,j,k,m,n)else none else none else some (.inr (o,b,c,d,e,f,g,i,j,k,m,n))
  partial_fixpoint
theorem U4:cQ 79 0 [1,0] MX rf:= .rx rf.partial_correctness
def pa(m:Int×List ah):Option ((Int) ⊕ (Unit)):=
 match m with
 |(i,b)=>
 if (i<(b.length:Int):Bool) then if aH i b.length then some (b.getD i.toNat aN)>>=λc=>hM c>>=λr=>if !r then some (.inl 1)else nU (i,0,b,c.Kind,c.Name,c.bC,c.bG,c.Max,c.bj,c.ag,c.Key,c.aG,c.Open)>>=λe=>match e with
 |.inl f=>
 some (.inl f)
 |.inr a=>
 CW (⟨a.2.2.1,a.2.2.2.1,a.2.2.2.2.1,a.2.2.2.2.2.1,a.2.2.2.2.2.2.1,a.2.2.2.2.2.2.2.1,a.2.2.2.2.2.2.2.2.1,a.2.2.2.2.2.2.2.2.2.1,a.2.2.2.2.2.2.2.2.2.2.1,a.2.2.2.2.2.2.2.2.2.2.2⟩:ah)>>=λk=>rf (a.1,k,0,a.2.1,a.2.2.1,a.2.2.2.1,a.2.2.2.2.1,a.2.2.2.2.2.1,a.2.2.2.2.2.2.1,a.2.2.2.2.2.2.2.1,a.2.2.2.2.2.2.2.2.1,a.2.2.2.2.2.2.2.2.2.1,a.2.2.2.2.2.2.2.2.2.2.1,a.2.2.2.2.2.2.2.2.2.2.2)>>=λg=>match g with
 |.inl j=>
 some (.inl j)
 |.inr d=>
 some (decide (d.2.2.1=8))>>=λt71=>if(aH d.2.2.2.2.2.2.2.2.2.1 d.2.1.length||(!t71)) then (if t71 then yT (d.2.1.getD d.2.2.2.2.2.2.2.2.2.1.toNat aN).Kind else some false)>>=λl=>if(bif t71 then(!l)else false) then some (.inl 1)else pa (aM .i64 d.1 1,d.2.1)else none else none else some (.inr ())
  partial_fixpoint
theorem UF:cQ 79 0 [0] Rx pa:= .rx pa.partial_correctness (.k Wn (.k WA (.k SL .n))) (.k U3 (.k U4 .n))
def vf(s:aS):Option Int:=
 if (32<(s.Types.length:Int):Bool) then some 3 else pa (0,s.Types)>>=λo=>match o with
 |.inl a=>
 some a
 |.inr b=>
 some 0
theorem SU:ba afG vf:= .bo .n (.k UF .n)
def kN:aS×Int->Option Int
 |(s,t)=>
 vf s>>=λr=>if !(r=0:Bool) then some r else if(bif (t<0:Bool)then true else ((s.Types.length:Int)<=t:Bool)) then some 4 else some 0
theorem SV:ba afD kN:= .bo (.k SU .n)
def GX:dO×dO->Option Int
 |(w,r)=>
 kN (w.cX,w.av)>>=λa=>if !(a=0:Bool) then some a else kN (r.cX,r.av)>>=λb=>some b
def hj:aq×Int->Option cU
 |(path,a)=>
 if room 8 ([]++path).length then some (⟨(⟨0,false,0,[],0,[],[],[]⟩:I),(⟨[]++path,a⟩:iY),false⟩:cU)else none
theorem pb:ba afM hj:= .bo
def o5:aj×Int×Int->Option Int
 |(a,b,i)=>
 if (i<(a.length:Int):Bool) then if aH i a.length then o5 (a,aM .u64 (gF .u64 b 256) (bY .u64 (fz a i)),aM .i64 i 1)else none else some b
  partial_fixpoint
theorem U5:cQ 158 0 [0] OZ o5:= .rx o5.partial_correctness
def Cm(s:aj):Option (Int×Int):=
 some (decide (0<(s.length:Int)))>>=λt8=>if(aH 0 s.length||(!t8)) then if(bif t8 then (fz s 0=0:Bool)else false) then some (0,2)else if (8<(s.length:Int):Bool) then some (0,7)else o5 (s,0,0)>>=λo=>some (o,0)else none
theorem UY:ba ae1 Cm:= .bo .n (.k U5 .n)
def yc(p:aj):Option (Int×Bool):=
 Cm p>>=λr=>some (r.1,decide (r.2=0))
theorem VX:ba aeD yc:= .bo (.k UY .n)
def Cj(n:Int):Option Int:=
 if (b' n 2=0:Bool) then some (bY .i64 (fC .u64 n 2))else some (dj .i64 (dj .i64 0 (bY .i64 (fC .u64 n 2))) 1)
theorem UG:ba aeE Cj:= .bo
def lK:aq×Int->Option aq
 |(path,step)=>
 if room 8 ([]++path).length then some ([]++path)>>=λl=>some [step]>>=λt9=>if room 8 (l++t9).length then some (l++t9)else none else none
theorem tI:ba aeF lK:= .bo
def sM:aj×Int×Int×Int->Option ((Int×Int×Int) ⊕ (Unit))
 |(a,n,b,i)=>
 if (i<10:Bool) then if (i=(a.length:Int):Bool) then some (.inl (0,0,10))else if aH i a.length then some (bY .u64 (fz a i))>>=λt20=>if(bif (i=9:Bool)then (1<t20:Bool)else false) then some (.inl (0,0,7))else some (aM .u64 n (gF .u64 (b' t20 128) b))>>=λt32=>if (t20<128:Bool) then if(bif (t20=0:Bool)then (0<i:Bool)else false) then some (.inl (0,0,2))else some (.inl (t32,aM .i64 i 1,0))else sM (a,t32,gF .u64 b 128,aM .i64 i 1)else none else some (.inr ())
  partial_fixpoint
theorem VY:cQ 199 0 [0] O0 sM:= .rx sM.partial_correctness
def vm(s:aj):Option (Int×Int×Int):=
 sM (s,0,1,0)>>=λo=>match o with
 |.inl a=>
 some (a.1,a.2.1,a.2.2)
 |.inr b=>
 some (0,0,7)
theorem GZ:ba aff vm:= .bo .n (.k VY .n)
def zk(a:aj):Option (Int×aj×Int):=
 vm a>>=λr=>if(bif bif (!(r.2.2=0:Bool))then true else (r.1<1:Bool)then true else (1000<r.1:Bool)) then some (0,[],12)else if dY r.2.1 (a.length:Int) a.length then some (bY .i64 r.1,ef a r.2.1 (a.length:Int),0)else none
theorem Wo:ba ae2 zk:= .bo (.k GZ .n)
def nA(v:I):Option cU:=
 some (⟨I.eta v,(⟨[],0⟩:iY),true⟩:cU)
theorem yd:ba aeG nA:= .bo
def zl(s:aj):Option (aj×aj×Bool):=
 vm s>>=λr=>if(bif (!(r.2.2=0:Bool))then true else (bY .u64 (dj .i64 (s.length:Int) r.2.1)<r.1:Bool)) then some ([],[],false)else some (aM .i64 r.2.1 (bY .i64 r.1))>>=λt30=>if dY r.2.1 t30 s.length then some (aM .i64 r.2.1 (bY .i64 r.1))>>=λt36=>if dY t36 (s.length:Int) s.length then some (ef s r.2.1 t30,ef s t36 (s.length:Int),true)else none else none
theorem S7:ba afg zl:= .bo (.k GZ .n)
def sC:aj×List aj->Option ((Int) ⊕ (List aj))
 |(b,a)=>
 if !(b=[]:Bool) then zl b>>=λr=>if !r.2.2 then some (.inl 12)else some [r.1]>>=λt20=>if room 16 (a++t20).length then sC (r.2.1,a++t20)else none else some (.inr a)
  partial_fixpoint
theorem UH:cQ 160 0 [0] O1 sC:= .rx sC.partial_correctness (.k S7 .n)
def vg(c:aj):Option (List aj×Int):=
 sC (c,[])>>=λo=>match o with
 |.inl a=>
 some ([],a)
 |.inr b=>
 some (b,0)
theorem SX:ba ae4 vg:= .bo .n (.k UH .n)
def q8:Int×aq×List aj×Int×List ah×ah×Int×Bool×Int×aj×Int×Int×Bool×Int×Bool×Int×aj×Int×List I->Option ((cU) ⊕ (Int×aq×List aj×List ah×ah×Int×Bool×Int×aj×Int×Int×Bool×Int×Bool×Int×aj×Int×List I))
 |(u,c,t,b,e,f,g,i,j,k,l,m,n,o,p,q,r,s,a)=>
 if (b<(a.length:Int):Bool) then some (dj .i64 b 1)>>=λt87=>if aH t87 a.length then if (t87.toNat<a.length:Bool) then if aH b a.length then if (b.toNat<a.length:Bool) then n0 (I.eta (a.getD t87.toNat au),I.eta (a.getD b.toNat au))>>=λv=>if (0<=v:Bool) then hj (c,1)>>=λd=>some (.inl (⟨I.eta d.Value,d.dS,d.cn⟩:cU))else q8 (u,c,t,aM .i64 b 1,e,f,g,i,j,k,l,m,n,o,p,q,r,s,a)else none else none else none else none else some (.inr (u,c,t,e,f,g,i,j,k,l,m,n,o,p,q,r,s,a))
  partial_fixpoint
theorem Uh:cQ 121 0 [1] O2 q8:= .rx q8.partial_correctness (.k Cd (.k pb .n))
def rh:aj×Int×List cO->Option ((Int) ⊕ (List cO))
 |(a,d,b)=>
 if !(a=[]:Bool) then vm a>>=λr=>if(bif bif (!(r.2.2=0:Bool))then true else (2001<r.1:Bool)then true else (bY .i64 (fC .u64 r.1 2)<=d:Bool)) then some (.inl 12)else if dY r.2.1 (a.length:Int) a.length then zl (ef a r.2.1 (a.length:Int))>>=λc=>if !c.2.2 then some (.inl 12)else some (bY .i64 (fC .u64 r.1 2))>>=λt45=>some [(⟨t45,decide (b' r.1 2=1),c.1⟩:cO)]>>=λt54=>if room 32 (b++t54).length then rh (c.2.1,t45,b++t54)else none else none else some (.inr b)
  partial_fixpoint
theorem Ve:cQ 161 0 [0] O3 rh:= .rx rh.partial_correctness (.k GZ (.k S7 .n))
def ye(c:aj):Option (List cO×Int):=
 rh (c,0,[])>>=λo=>match o with
 |.inl a=>
 some ([],a)
 |.inr b=>
 some (b,0)
theorem VZ:ba ae5 ye:= .bo .n (.k Ve .n)
def pc:List cO×Int×Int->Option ((Int) ⊕ (Unit))
 |(a,b,i)=>
 if (i<(a.length:Int):Bool) then if aH i a.length then if ((a.getD i.toNat gu).ad=b:Bool) then some (.inl i)else pc (a,b,aM .i64 i 1)else none else some (.inr ())
  partial_fixpoint
theorem UI:cQ 162 0 [0] O4 pc:= .rx pc.partial_correctness
def yl(b:List cO×Int):Option Int:=
 match b with
 |(l,id)=>
 pc (l,id,0)>>=λo=>match o with
 |.inl a=>
 some a
 |.inr c=>
 some (-1)
theorem VF:ba ae6 yl:= .bo .n (.k UI .n)
def o9:aq×List cO×Int×ah×Int×Bool×Int×aj×Int×Int×Bool×Int×Bool×Int×aj×Int×List I×List bX->Option ((cU) ⊕ (Int×Bool×Int×aj×Int×Int×Bool×Int×Bool×Int×aj×Int×List I×List bX))
 |(s,a,k,c,d,e,f,g,i,j,l,m,n,o,p,q,r,b)=>
 if (k<(a.length:Int):Bool) then if aH k a.length then hJ (c,(a.getD k.toNat gu).ad)>>=λu=>if u.2 then o9 (s,a,aM .i64 k 1,c,d,e,f,g,i,j,l,m,n,o,p,q,r,b)else if aH k a.length then if(a.getD k.toNat gu).cf then if aH k a.length then lK (s,(a.getD k.toNat gu).ad)>>=λv=>hj (v,6)>>=λt=>some (.inl (⟨I.eta t.Value,t.dS,t.cn⟩:cU))else none else if aH k a.length then if aH k a.length then some [(⟨(a.getD k.toNat gu).ad,(a.getD k.toNat gu).Data⟩:bX)]>>=λt135=>if room 24 (b++t135).length then o9 (s,a,aM .i64 k 1,c,d,e,f,g,i,j,l,m,n,o,p,q,r,b++t135)else none else none else none else none else none else some (.inr (d,e,f,g,i,j,l,m,n,o,p,q,r,b))
  partial_fixpoint
theorem Vf:cQ 122 0 [1] O5 o9:= .rx o9.partial_correctness (.k my (.k tI (.k pb .n)))
mutual
def jN:aS×Int×aj×Int×aq->Option cU
 |(s,t,p,v,path)=>
 if aH t s.Types.length then some (s.Types.getD t.toNat aN)>>=λc=>if (200<v:Bool) then hj (path,8)>>=λr=>some (⟨I.eta r.Value,r.dS,r.cn⟩:cU)else
 let i2:=λld=>
 let i1:=λlc=>
 let i0:=λkw=>
 let ip:=λks=>
 let io:=λkk=>
 if (c.Kind=6:Bool) then B6 (s,c,p,v,path)>>=λb0=>some (⟨I.eta b0.Value,b0.dS,b0.cn⟩:cU)else if (c.Kind=7:Bool) then CX (s,c,p,v,path)>>=λb1=>some (⟨I.eta b1.Value,b1.dS,b1.cn⟩:cU)else if (c.Kind=8:Bool) then Cc (s,c,p,v,path)>>=λb2=>some (⟨I.eta b2.Value,b2.dS,b2.cn⟩:cU)else if (c.Kind=5:Bool) then Cp (s,c,p,v,path)>>=λb3=>some (⟨I.eta b3.Value,b3.dS,b3.cn⟩:cU)else nA (⟨c.Kind,ld,lc,kw,ks,[],kk,[]⟩:I)>>=λb4=>some (⟨I.eta b4.Value,b4.dS,b4.cn⟩:cU)
 if(bif (c.Kind=9:Bool)then(!(p=[]:Bool))else false) then if aH 0 p.length then if !(fz p 0=1:Bool) then hj (path,1)>>=λbT=>some (⟨I.eta bT.Value,bT.dS,bT.cn⟩:cU)else if dY 1 (p.length:Int) p.length then lK (path,0)>>=λjp=>jN (s,c.aG,ef p 1 (p.length:Int),aM .i64 v 1,jp)>>=λL=>if !L.cn then some (⟨I.eta L.Value,L.dS,L.cn⟩:cU)else io [I.eta L.Value]else none else none else io []
 if (c.Kind=4:Bool) then yc p>>=λQ=>if(bif bif (!Q.2)then true else (Q.1<1:Bool)then true else (1000<Q.1:Bool)) then hj (path,1)>>=λbD=>some (⟨I.eta bD.Value,bD.dS,bD.cn⟩:cU)else some (bY .i64 Q.1)>>=λi7=>sK (c,i7)>>=λi9=>if(bif (!i9.2)then(!c.Open)else false) then hj (path,4)>>=λbR=>some (⟨I.eta bR.Value,bR.dS,bR.cn⟩:cU)else ip i7 else ip 0
 if (c.Kind=3:Bool) then if (c.Max<(p.length:Int):Bool) then hj (path,3)>>=λbv=>some (⟨I.eta bv.Value,bv.dS,bv.cn⟩:cU)else i0 p else i0 []
 if (c.Kind=2:Bool) then yc p>>=λi6=>if !i6.2 then hj (path,1)>>=λbi=>some (⟨I.eta bi.Value,bi.dS,bi.cn⟩:cU)else Cj i6.1>>=λbp=>if(bif (bp<c.bC:Bool)then true else (c.bG<bp:Bool)) then hj (path,2)>>=λbs=>some (⟨I.eta bs.Value,bs.dS,bs.cn⟩:cU)else i1 bp else i1 0
 if (c.Kind=1:Bool) then if(bif (!(p=[]:Bool))then(!(p=[1]:Bool))else false) then hj (path,1)>>=λa9=>some (⟨I.eta a9.Value,a9.dS,a9.cn⟩:cU)else some (!(decide (p=[])))>>=λt44=>i2 t44 else i2 false else none
  partial_fixpoint
def Cc(f:aS×ah×aj×Int×aq):Option cU:=
 match f with
 |(s,c,p,v,path)=>
 vg p>>=λr=>if(bif (!(r.2=0:Bool))then true else (b' (r.1.length:Int) 2=1:Bool)) then hj (path,1)>>=λy=>some (⟨I.eta y.Value,y.dS,y.cn⟩:cU)else if (c.Max<fC .i64 (r.1.length:Int) 2:Bool) then hj (path,3)>>=λq=>some (⟨I.eta q.Value,q.dS,q.cn⟩:cU)else s0 (v,path,r.1,0,s.Types,c,0,false,0,[],0,0,false,c.Kind,false,0,[],0,[])>>=λo=>match o with
 |.inl w=>
 some (⟨I.eta w.Value,w.dS,w.cn⟩:cU)
 |.inr a=>
 q8 (a.1,a.2.1,a.2.2.1,1,a.2.2.2.1,a.2.2.2.2.1,a.2.2.2.2.2.1,a.2.2.2.2.2.2.1,a.2.2.2.2.2.2.2.1,a.2.2.2.2.2.2.2.2.1,a.2.2.2.2.2.2.2.2.2.1,a.2.2.2.2.2.2.2.2.2.2.1,a.2.2.2.2.2.2.2.2.2.2.2.1,a.2.2.2.2.2.2.2.2.2.2.2.2.1,a.2.2.2.2.2.2.2.2.2.2.2.2.2.1,a.2.2.2.2.2.2.2.2.2.2.2.2.2.2.1,a.2.2.2.2.2.2.2.2.2.2.2.2.2.2.2.1,a.2.2.2.2.2.2.2.2.2.2.2.2.2.2.2.2.1,a.2.2.2.2.2.2.2.2.2.2.2.2.2.2.2.2.2)>>=λa3=>match a3 with
 |.inl A=>
 some (⟨I.eta A.Value,A.dS,A.cn⟩:cU)
 |.inr e=>
 s3 (e.1,e.2.1,e.2.2.1,0,e.2.2.2.1,e.2.2.2.2.1,e.2.2.2.2.2.1,e.2.2.2.2.2.2.1,e.2.2.2.2.2.2.2.1,e.2.2.2.2.2.2.2.2.1,e.2.2.2.2.2.2.2.2.2.1,e.2.2.2.2.2.2.2.2.2.2.1,e.2.2.2.2.2.2.2.2.2.2.2.1,e.2.2.2.2.2.2.2.2.2.2.2.2.1,e.2.2.2.2.2.2.2.2.2.2.2.2.2.1,e.2.2.2.2.2.2.2.2.2.2.2.2.2.2.1,e.2.2.2.2.2.2.2.2.2.2.2.2.2.2.2.1,e.2.2.2.2.2.2.2.2.2.2.2.2.2.2.2.2.1,e.2.2.2.2.2.2.2.2.2.2.2.2.2.2.2.2.2,[])>>=λi8=>match i8 with
 |.inl a4=>
 some (⟨I.eta a4.Value,a4.dS,a4.cn⟩:cU)
 |.inr B=>
 nA (⟨B.2.2.2.2.2.2.2.1,B.2.2.2.2.2.2.2.2.1,B.2.2.2.2.2.2.2.2.2.1,B.2.2.2.2.2.2.2.2.2.2.1,B.2.2.2.2.2.2.2.2.2.2.2.1,B.2.2.2.2.2.2.2.2.2.2.2.2.1,B.2.2.2.2.2.2.2.2.2.2.2.2.2,[]⟩:I)>>=λj=>some (⟨I.eta j.Value,j.dS,j.cn⟩:cU)
  partial_fixpoint
def CX(f:aS×ah×aj×Int×aq):Option cU:=
 match f with
 |(s,c,p,v,path)=>
 vg p>>=λr=>if !(r.2=0:Bool) then hj (path,1)>>=λy=>some (⟨I.eta y.Value,y.dS,y.cn⟩:cU)else if (c.Max<(r.1.length:Int):Bool) then hj (path,3)>>=λq=>some (⟨I.eta q.Value,q.dS,q.cn⟩:cU)else sG (v,path,r.1,0,s.Types,c,0,false,0,[],0,0,false,c.Kind,false,0,[],0,[])>>=λo=>match o with
 |.inl w=>
 some (⟨I.eta w.Value,w.dS,w.cn⟩:cU)
 |.inr a=>
 nA (⟨a.2.2.2.2.2.2.2.1,a.2.2.2.2.2.2.2.2.1,a.2.2.2.2.2.2.2.2.2.1,a.2.2.2.2.2.2.2.2.2.2.1,a.2.2.2.2.2.2.2.2.2.2.2.1,[],a.2.2.2.2.2.2.2.2.2.2.2.2,[]⟩:I)>>=λj=>some (⟨I.eta j.Value,j.dS,j.cn⟩:cU)
  partial_fixpoint
def Cp(f:aS×ah×aj×Int×aq):Option cU:=
 match f with
 |(s,c,p,v,path)=>
 ye p>>=λr=>if !(r.2=0:Bool) then hj (path,1)>>=λy=>some (⟨I.eta y.Value,y.dS,y.cn⟩:cU)else mx (v,path,r.1,0,s.Types,c,0,false,0,[],0,0,false,c.Kind,false,0,[],0,[])>>=λo=>match o with
 |.inl w=>
 some (⟨I.eta w.Value,w.dS,w.cn⟩:cU)
 |.inr a=>
 o9 (a.1,a.2.1,0,a.2.2.1,a.2.2.2.1,a.2.2.2.2.1,a.2.2.2.2.2.1,a.2.2.2.2.2.2.1,a.2.2.2.2.2.2.2.1,a.2.2.2.2.2.2.2.2.1,a.2.2.2.2.2.2.2.2.2.1,a.2.2.2.2.2.2.2.2.2.2.1,a.2.2.2.2.2.2.2.2.2.2.2.1,a.2.2.2.2.2.2.2.2.2.2.2.2.1,a.2.2.2.2.2.2.2.2.2.2.2.2.2.1,a.2.2.2.2.2.2.2.2.2.2.2.2.2.2.1,a.2.2.2.2.2.2.2.2.2.2.2.2.2.2.2,[])>>=λa3=>match a3 with
 |.inl A=>
 some (⟨I.eta A.Value,A.dS,A.cn⟩:cU)
 |.inr e=>
 nA (⟨e.2.2.2.2.2.2.2.1,e.2.2.2.2.2.2.2.2.1,e.2.2.2.2.2.2.2.2.2.1,e.2.2.2.2.2.2.2.2.2.2.1,e.2.2.2.2.2.2.2.2.2.2.2.1,[],e.2.2.2.2.2.2.2.2.2.2.2.2.1,e.2.2.2.2.2.2.2.2.2.2.2.2.2⟩:I)>>=λq=>some (⟨I.eta q.Value,q.dS,q.cn⟩:cU)
  partial_fixpoint
def B6:aS×ah×aj×Int×aq->Option cU
 |(s,c,p,v,path)=>
 zk p>>=λr=>if !(r.2.2=0:Bool) then hj (path,1)>>=λq=>some (⟨I.eta q.Value,q.dS,q.cn⟩:cU)else hJ (c,r.1)>>=λj=>if(bif (!j.2)then(!c.Open)else false) then hj (path,5)>>=λN=>some (⟨I.eta N.Value,N.dS,N.cn⟩:cU)else if !j.2 then nA (⟨c.Kind,false,0,[],r.1,[],[],[(⟨r.1,r.2.1⟩:bX)]⟩:I)>>=λz=>some (⟨I.eta z.Value,z.dS,z.cn⟩:cU)else if aH j.1 c.ag.length then lK (path,r.1)>>=λbb=>jN (s,(c.ag.getD j.1.toNat ay).av,r.2.1,aM .i64 v 1,bb)>>=λx=>if !x.cn then some (⟨I.eta x.Value,x.dS,x.cn⟩:cU)else nA (⟨c.Kind,false,0,[],r.1,[],[I.eta x.Value],[]⟩:I)>>=λbe=>some (⟨I.eta be.Value,be.dS,be.cn⟩:cU)else none
  partial_fixpoint
def s0:Int×aq×List aj×Int×List ah×ah×Int×Bool×Int×aj×Int×Int×Bool×Int×Bool×Int×aj×Int×List I->Option ((cU) ⊕ (Int×aq×List aj×List ah×ah×Int×Bool×Int×aj×Int×Int×Bool×Int×Bool×Int×aj×Int×List I))
 |(a2,a5,J,i,aJ,aZ,gc,gd,ge,gl,gs,gt,g0,g1,g2,g3,g4,g5,a0)=>
 if (gF .i64 2 i<(J.length:Int):Bool) then some (gF .i64 2 i)>>=λt57=>if aH t57 J.length then lK (a5,i)>>=λM=>jN ((⟨aJ⟩:aS),aZ.Key,J.getD t57.toNat [],aM .i64 a2 1,M)>>=λu=>if !u.cn then some (.inl (⟨I.eta u.Value,u.dS,u.cn⟩:cU))else some [I.eta u.Value]>>=λt74=>if room 120 (a0++t74).length then s0 (a2,a5,J,aM .i64 i 1,aJ,aZ,gc,gd,ge,gl,gs,gt,g0,g1,g2,g3,g4,g5,a0++t74)else none else none else some (.inr (a2,a5,J,aJ,aZ,gc,gd,ge,gl,gs,gt,g0,g1,g2,g3,g4,g5,a0))
  partial_fixpoint
def s3:Int×aq×List aj×Int×List ah×ah×Int×Bool×Int×aj×Int×Int×Bool×Int×Bool×Int×aj×Int×List I×List I->Option ((cU) ⊕ (Int×Bool×Int×aj×Int×Int×Bool×Int×Bool×Int×aj×Int×List I×List I))
 |(i3,i5,P,O,g6,g7,g8,g9,he,hk,hm,hs,ht,hu,hw,hH,h0,h1,ii,a1)=>
 if (gF .i64 2 O<(P.length:Int):Bool) then some (aM .i64 (gF .i64 2 O) 1)>>=λt112=>if aH t112 P.length then lK (i5,O)>>=λbb=>jN ((⟨g6⟩:aS),g7.aG,P.getD t112.toNat [],aM .i64 i3 1,bb)>>=λx=>if !x.cn then some (.inl (⟨I.eta x.Value,x.dS,x.cn⟩:cU))else some [I.eta x.Value]>>=λt129=>if room 120 (a1++t129).length then s3 (i3,i5,P,aM .i64 O 1,g6,g7,g8,g9,he,hk,hm,hs,ht,hu,hw,hH,h0,h1,ii,a1++t129)else none else none else some (.inr (g8,g9,he,hk,hm,hs,ht,hu,hw,hH,h0,h1,ii,a1))
  partial_fixpoint
def sG:Int×aq×List aj×Int×List ah×ah×Int×Bool×Int×aj×Int×Int×Bool×Int×Bool×Int×aj×Int×List I->Option ((cU) ⊕ (Int×Bool×Int×aj×Int×Int×Bool×Int×Bool×Int×aj×Int×List I))
 |(F,i4,l,i,ce,ci,cr,cs,c8,ds,dt,eq,es,ex,fd,ff,fo,fs,R)=>
 if (i<(l.length:Int):Bool) then if aH i l.length then lK (i4,i)>>=λM=>jN ((⟨ce⟩:aS),ci.aG,l.getD i.toNat [],aM .i64 F 1,M)>>=λu=>if !u.cn then some (.inl (⟨I.eta u.Value,u.dS,u.cn⟩:cU))else some [I.eta u.Value]>>=λt62=>if room 120 (R++t62).length then sG (F,i4,l,aM .i64 i 1,ce,ci,cr,cs,c8,ds,dt,eq,es,ex,fd,ff,fo,fs,R++t62)else none else none else some (.inr (cr,cs,c8,ds,dt,eq,es,ex,fd,ff,fo,fs,R))
  partial_fixpoint
def mx:Int×aq×List cO×Int×List ah×ah×Int×Bool×Int×aj×Int×Int×Bool×Int×Bool×Int×aj×Int×List I->Option ((cU) ⊕ (aq×List cO×ah×Int×Bool×Int×aj×Int×Int×Bool×Int×Bool×Int×aj×Int×List I))
 |(F,K,E,i,S,D,U,W,X,Y,Z,af,am,an,ap,ax,aC,aD,H)=>
 if (i<(D.ag.length:Int):Bool) then if aH i D.ag.length then some (D.ag.getD i.toNat ay)>>=λG=>yl (E,G.ad)>>=λj=>if (j<0:Bool) then if !G.bZ then lK (K,G.ad)>>=λM=>hj (M,7)>>=λu=>some (.inl (⟨I.eta u.Value,u.dS,u.cn⟩:cU))else some [I.eta G.bu]>>=λt63=>if room 120 (H++t63).length then mx (F,K,E,aM .i64 i 1,S,D,U,W,X,Y,Z,af,am,an,ap,ax,aC,aD,H++t63)else none else if aH j E.length then lK (K,G.ad)>>=λN=>jN ((⟨S⟩:aS),G.av,(E.getD j.toNat gu).Data,aM .i64 F 1,N)>>=λz=>if !z.cn then some (.inl (⟨I.eta z.Value,z.dS,z.cn⟩:cU))else some [I.eta z.Value]>>=λt89=>if room 120 (H++t89).length then mx (F,K,E,aM .i64 i 1,S,D,U,W,X,Y,Z,af,am,an,ap,ax,aC,aD,H++t89)else none else none else none else some (.inr (K,E,D,U,W,X,Y,Z,af,am,an,ap,ax,aC,aD,H))
  partial_fixpoint
end
theorem Vg:ei oV jN/\ei EY Cp/\eF 122 0 [0] Ao mx/\ei EX Cc/\eF 121 0 [2] An s3/\eF 121 0 [0] AK s0/\ei EW CX/\eF 120 0 [0] AJ sG/\ei EV B6:=jN.mutual_partial_correctness (ed oV) (ed EY) (eE 122 0 [0] Ao) (ed EX) (eE 121 0 [2] An) (eE 121 0 [0] AK) (ed EW) (eE 120 0 [0] AJ) (ed EV)
 (λ_ _ _ _ _ h0 h1 d e f _ _ h=>er h (.k pb (.k VX (.k UG (.k Cg (.k tI (.k (cm oV h0) (.k (cm EV f) (.k (cm EW e) (.k (cm EX d) (.k (cm EY h1) (.k yd .n))))))))))))
 (λ_ a _ _ h=>er h (.k VZ (.k pb (.k yd .n))) (.k (eR Ao a) (.k Vf .n)))
 (λ_ _ h0 a _ _ h=>eQ Ao a h (.k VF (.k tI (.k pb (.k (cm oV h0) .n)))))
 (λ_ _ b bb _ _ h=>er h (.k SX (.k pb (.k yd .n))) (.k (eR AK bb) (.k Uh (.k (eR An b) .n))))
 (λ_ _ h0 b _ _ h=>eQ An b h (.k tI (.k (cm oV h0) .n)))
 (λ_ _ h0 bb _ _ h=>eQ AK bb h (.k tI (.k (cm oV h0) .n)))
 (λ_ c _ _ h=>er h (.k SX (.k pb (.k yd .n))) (.k (eR AJ c) .n))
 (λ_ _ h0 c _ _ h=>eQ AJ c h (.k tI (.k (cm oV h0) .n)))
 (λ_ h0 _ _ h=>er h (.k Wo (.k pb (.k my (.k yd (.k tI (.k (cm oV h0) .n)))))))
theorem Uw:ba oV jN:=cm _ Vg.1
def G1:aS×Int×aj->Option (cU×Int)
 |(s,t,m)=>
 kN (s,t)>>=λr=>if !(r=0:Bool) then some ((⟨(⟨0,false,0,[],0,[],[],[]⟩:I),(⟨[],0⟩:iY),false⟩:cU),r)else if (4096<(m.length:Int):Bool) then hj ([],3)>>=λa=>some ((⟨I.eta a.Value,a.dS,a.cn⟩:cU),0)else jN (s,t,m,1,[])>>=λb=>some ((⟨I.eta b.Value,b.dS,b.cn⟩:cU),0)
theorem WB:ba afn G1:= .bo (.k SV (.k pb (.k Uw .n)))
def pU:aS×Int×aj->Option (I×Int)
 |(s,t,m)=>
 G1 (s,t,m)>>=λr=>if(bif (r.2=0:Bool)then(!r.1.cn)else false) then some (I.eta r.1.Value,12)else some (I.eta r.1.Value,r.2)
theorem V0:ba ae9 pU:= .bo (.k WB .n)
def tK(v:I):Option Bool:=
 some (bif bif bif bif bif bif bif decide (v.Kind=1)then true else(!v.bL)then bif decide (v.Kind=2)then true else decide (v.bf=0)else false then bif decide (v.Kind=3)then true else decide (v.bn=[])else false then bif bif decide (v.Kind=4)then true else decide (v.Kind=6)then true else decide (v.ad=0)else false then bif decide (v.Kind=8)then true else decide ((v.aw.length:Int)=0)else false then bif decide (5<=v.Kind)then true else decide ((v.ai.length:Int)=0)else false then bif bif decide (v.Kind=5)then true else decide (v.Kind=6)then true else decide ((v.Rest.length:Int)=0)else false)
theorem WC:ba aeH tK:= .bo
def jv:Int×Bool->Option Bool
 |(n,a)=>
 some (bif bif (!a)then decide (1<=n)else false then decide (n<=1000)else false)
theorem TA:ba aeI jv:= .bo
def j9:List bX×Int×ah->Option ((Bool) ⊕ (Unit))
 |(a,i,b)=>
 if (i<(a.length:Int):Bool) then if aH i a.length then hJ (b,(a.getD i.toNat b5).ad)>>=λr=>if aH i a.length then jv ((a.getD i.toNat b5).ad,r.2)>>=λc=>some (!c)>>=λt31=>some (decide (0<i))>>=λt34=>if(aH i a.length||(!((!t31)&&t34))) then some (dj .i64 i 1)>>=λt43=>if(aH t43 a.length||(!((!t31)&&t34))) then if(bif t31 then true else bif t34 then ((a.getD i.toNat b5).ad<=(a.getD t43.toNat b5).ad:Bool)else false) then some (.inl false)else j9 (a,aM .i64 i 1,b)else none else none else none else none else some (.inr ())
  partial_fixpoint
theorem Ux:cQ 126 0 [0] O6 j9:= .rx j9.partial_correctness (.k my (.k TA .n))
def qH(b:ah×List bX):Option Bool:=
 match b with
 |(t,l)=>
 j9 (l,0,t)>>=λo=>match o with
 |.inl a=>
 some a
 |.inr c=>
 some true
theorem WD:ba aeJ qH:= .bo .n (.k Ux .n)
def h6:Int×I->Option ((Bool) ⊕ (Unit))
 |(b,a)=>
 if (b<(a.aw.length:Int):Bool) then some (dj .i64 b 1)>>=λt270=>if aH t270 a.aw.length then if aH b a.aw.length then n0 (I.eta (a.aw.getD t270.toNat au),I.eta (a.aw.getD b.toNat au))>>=λc=>if (0<=c:Bool) then some (.inl false)else h6 (aM .i64 b 1,I.eta a)else none else none else some (.inr ())
  partial_fixpoint
theorem V1:cQ 91 0 [1] RA h6:= .rx h6.partial_correctness (.k Cd .n)
mutual
def nE(c:aS×Int×List I×Bool):Option Bool:=
 match c with
 |(s,t,l,plain)=>
 kJ (t,l,plain,0,s.Types)>>=λo=>match o with
 |.inl u=>
 some u
 |.inr J=>
 some true
  partial_fixpoint
def iK(c:aS×Int×I×Bool):Option Bool:=
 match c with
 |(s,t,v,plain)=>
 if(bif (t<0:Bool)then true else ((s.Types.length:Int)<=t:Bool)) then some false else if aH t s.Types.length then some (s.Types.getD t.toNat aN)>>=λa=>some (!(decide (v.Kind=a.Kind)))>>=λt34=>(if !t34 then tK (I.eta v)else some false)>>=λr=>if(bif bif t34 then true else(!r)then true else bif plain then (0<(v.Rest.length:Int):Bool)else false) then some false else if (a.Kind=1:Bool) then some true else if (a.Kind=2:Bool) then some (bif decide (a.bC<=v.bf)then decide (v.bf<=a.bG)else false)else if (a.Kind=3:Bool) then some (decide ((v.bn.length:Int)<=a.Max))else if (a.Kind=4:Bool) then sK (a,v.ad)>>=λw=>some (bif a.Open then(!plain)else false)>>=λt91=>(if((!w.2)&&t91) then jv (v.ad,w.2)else some false)>>=λS=>some (bif w.2 then true else bif t91 then S else false)else if (a.Kind=5:Bool) then some (!(decide ((v.ai.length:Int)=(a.ag.length:Int))))>>=λt107=>(if !t107 then qH (a,v.Rest)else some false)>>=λU=>if(bif t107 then true else(!U)) then some false else jd (plain,0,s.Types,I.eta v,a.Kind,a.Name,a.bC,a.bG,a.Max,a.bj,a.ag,a.Key,a.aG,a.Open)>>=λo=>match o with
 |.inl u=>
 some u
 |.inr J=>
 some true else if (a.Kind=6:Bool) then hJ (a,v.ad)>>=λp=>if p.2 then some (bif decide ((v.ai.length:Int)=1)then decide ((v.Rest.length:Int)=0)else false)>>=λt156=>if(aH p.1 a.ag.length||(!t156)) then if(aH 0 v.ai.length||(!t156)) then (if t156 then iK (s,(a.ag.getD p.1.toNat ay).av,I.eta (v.ai.getD (0:Int).toNat au),plain)else some false)>>=λW=>some (bif t156 then W else false)else none else none else some (bif a.Open then(!plain)else false)>>=λt177=>(if t177 then jv (v.ad,p.2)else some false)>>=λM=>some (bif bif bif t177 then M else false then decide ((v.ai.length:Int)=0)else false then decide ((v.Rest.length:Int)=1)else false)>>=λt195=>if(aH 0 v.Rest.length||(!t195)) then some (bif t195 then decide ((v.Rest.getD (0:Int).toNat b5).ad=v.ad)else false)else none else if (a.Kind=7:Bool) then some (decide ((v.ai.length:Int)<=a.Max))>>=λt213=>(if t213 then nE (s,a.aG,v.ai,plain)else some false)>>=λN=>some (bif t213 then N else false)else if (a.Kind=8:Bool) then some (bif decide (a.Max<(v.aw.length:Int))then true else(!(decide ((v.ai.length:Int)=(v.aw.length:Int)))))>>=λt239=>(if !t239 then nE (s,a.Key,v.aw,plain)else some false)>>=λO=>some (bif t239 then true else(!O))>>=λt249=>(if !t249 then nE (s,a.aG,v.ai,plain)else some false)>>=λP=>if(bif t249 then true else(!P)) then some false else h6 (1,I.eta v)>>=λK=>match K with
 |.inl L=>
 some L
 |.inr X=>
 some true else some (decide ((v.ai.length:Int)<=1))>>=λt283=>(if t283 then nE (s,a.aG,v.ai,plain)else some false)>>=λQ=>some (bif t283 then Q else false)else none
  partial_fixpoint
def kJ:Int×List I×Bool×Int×List ah->Option ((Bool) ⊕ (Unit))
 |(x,j,e,i,b)=>
 if (i<(j.length:Int):Bool) then if aH i j.length then iK ((⟨b⟩:aS),x,I.eta (j.getD i.toNat au),e)>>=λr=>if !r then some (.inl false)else kJ (x,j,e,aM .i64 i 1,b)else none else some (.inr ())
  partial_fixpoint
def jd:Bool×Int×List ah×I×Int×aj×Int×Int×Int×List c4×List aR×Int×Int×Bool->Option ((Bool) ⊕ (Unit))
 |(e,i,b,f,A,B,D,E,F,G,q,H,y,z)=>
 if (i<(f.ai.length:Int):Bool) then if aH i q.length then if aH i f.ai.length then iK ((⟨b⟩:aS),(q.getD i.toNat ay).av,I.eta (f.ai.getD i.toNat au),e)>>=λR=>if !R then some (.inl false)else jd (e,aM .i64 i 1,b,I.eta f,A,B,D,E,F,G,q,H,y,z)else none else none else some (.inr ())
  partial_fixpoint
end
theorem VG:ei EZ nE/\eF 127 0 [0] Ap kJ/\ei u2 iK/\eF 91 0 [0] xG jd:=nE.mutual_partial_correctness (ed EZ) (eE 127 0 [0] Ap) (ed u2) (eE 91 0 [0] xG)
 (λ_ h1 _ _ h=>er h .n (.k (eR Ap h1) .n))
 (λ_ _ h1 a _ _ h=>eQ Ap h1 h (.k (cm u2 a) .n))
 (λ_ _ _ h0 a b _ _ h=>er h (.k WC (.k Cg (.k TA (.k WD (.k my (.k (cm u2 a) (.k (cm EZ h0) .n))))))) (.k (eR xG b) (.k V1 .n)))
 (λ_ _ a b _ _ h=>eQ xG b h (.k (cm u2 a) .n))
theorem SA:ba u2 iK:=cm _ VG.2.2.1
def G4:aS×Int×I->Option Bool
 |(s,t,v)=>
 iK (s,t,I.eta v,false)>>=λr=>some r
theorem WE:ba afH G4:= .bo (.k SA .n)
def sU:aS×Int×I->Option Int
 |(s,t,v)=>
 vf s>>=λr=>if !(r=0:Bool) then some r else if(bif (t<0:Bool)then true else ((s.Types.length:Int)<=t:Bool)) then some 4 else G4 (s,t,I.eta v)>>=λa=>if !a then some 1 else some 0
theorem VH:ba afl sU:= .bo (.k SU (.k WE .n))
def Gh(v:I):Option (Int×Bool×Int×aj×Int×List I×List I×List bX):=
 if room 120 ([]++v.aw).length then if room 120 ([]++v.ai).length then if room 24 ([]++v.Rest).length then some (v.Kind,v.bL,v.bf,v.bn,v.ad,[]++v.aw,[]++v.ai,[]++v.Rest)else none else none else none
mutual
def vI(v:I):Option I:=
 Gh (I.eta v)>>=λr=>if (r.1=5:Bool) then s7 (0,r.1,r.2.1,r.2.2.1,r.2.2.2.1,r.2.2.2.2.1,[],0,false,0,[],0,r.2.2.2.2.2.1,r.2.2.2.2.2.2.1)>>=λo=>some (⟨o.1,o.2.1,o.2.2.1,o.2.2.2.1,o.2.2.2.2.1,o.2.2.2.2.2.2.2.2.2.2.2.1,o.2.2.2.2.2.2.2.2.2.2.2.2,o.2.2.2.2.2.1⟩:I)else s7 (0,r.1,r.2.1,r.2.2.1,r.2.2.2.1,r.2.2.2.2.1,r.2.2.2.2.2.2.2,0,false,0,[],0,r.2.2.2.2.2.1,r.2.2.2.2.2.2.1)>>=λc=>some (⟨c.1,c.2.1,c.2.2.1,c.2.2.2.1,c.2.2.2.2.1,c.2.2.2.2.2.2.2.2.2.2.2.1,c.2.2.2.2.2.2.2.2.2.2.2.2,c.2.2.2.2.2.1⟩:I)
  partial_fixpoint
def s7:Int×Int×Bool×Int×aj×Int×List bX×Int×Bool×Int×aj×Int×List I×List I->Option (Int×Bool×Int×aj×Int×List bX×Int×Bool×Int×aj×Int×List I×List I)
 |(i,e,f,j,p,q,t,u,w,x,y,z,A,a)=>
 if (i<(a.length:Int):Bool) then if aH i a.length then if (i.toNat<a.length:Bool) then vI (I.eta (a.getD i.toNat au))>>=λB=>if aH i a.length then if (i.toNat<a.length:Bool) then s7 (aM .i64 i 1,e,f,j,p,q,t,u,w,x,y,z,A,a.set i.toNat (I.eta B))else none else none else none else none else some (e,f,j,p,q,t,u,w,x,y,z,A,a)
  partial_fixpoint
end
def vh:aS×Int×I->Option Bool
 |(s,t,v)=>
 iK (s,t,I.eta v,true)>>=λr=>some r
theorem VI:ba afu vh:= .bo (.k SA .n)
def ym:aS×Int×I->Option (I×Int)
 |(s,t,v)=>
 sU (s,t,I.eta v)>>=λr=>if !(r=0:Bool) then some ((⟨0,false,0,[],0,[],[],[]⟩:I),r)else vI (I.eta v)>>=λa=>vh (s,t,I.eta a)>>=λb=>if !b then some ((⟨0,false,0,[],0,[],[],[]⟩:I),12)else some (I.eta a,0)
def B7:aS×Int×I×aS×Int->Option Int
 |(w,wt,v,r,rt)=>
 kN (w,wt)>>=λa=>if !(a=0:Bool) then some a else kN (r,rt)>>=λb=>if !(b=0:Bool) then some b else vh (w,wt,I.eta v)>>=λc=>if !c then some 1 else some 0
theorem VJ:ba afm B7:= .bo (.k SV (.k VI .n))
def kI(path:aq):Option dJ:=
 if room 8 ([]++path).length then some (⟨(⟨0,false,0,[],0,[],[],[]⟩:I),[]++path,false⟩:dJ)else none
theorem Cf:ba afI kI:= .bo
def nB(v:I):Option dJ:=
 some (⟨I.eta v,[],true⟩:dJ)
theorem Gi:ba afL nB:= .bo
def qR:aq×Int->Option aq
 |(path,step)=>
 if room 8 ([]++path).length then some ([]++path)>>=λl=>some [step]>>=λt9=>if room 8 (l++t9).length then some (l++t9)else none else none
theorem xZ:ba afK qR:= .bo
def yI:I×I->Option Bool
 |(a,b)=>
 jM (I.eta a,I.eta b)>>=λr=>some r
theorem SY:ba ae' yI:= .bo (.k yM .n)
def vH:aR×I->Option Bool
 |(m,v)=>
 (if m.bZ then yI (I.eta m.bu,I.eta v)else some false)>>=λr=>some (bif m.bZ then r else false)
theorem SK:ba aeC vH:= .bo (.k SY .n)
def nX:aq×Int×List ah×ah×I×ah×Int×Bool×Int×aj×Int×Bool×Int×Bool×Int×aj×Int×List I×List bX->Option ((dJ) ⊕ (Int×Bool×Int×aj×Int×Bool×Int×Bool×Int×aj×Int×List I×List bX))
 |(u,i,e,c,b,f,g,j,k,l,m,n,o,p,q,r,s,t,d)=>
 if (i<(c.ag.length:Int):Bool) then if aH i c.ag.length then some (c.ag.getD i.toNat ay)>>=λa=>hJ (f,a.ad)>>=λw=>if w.2 then nX (u,aM .i64 i 1,e,c,I.eta b,f,g,j,k,l,m,n,o,p,q,r,s,t,d)else if a.cf then qR (u,a.ad)>>=λx=>kI x>>=λv=>some (.inl (⟨I.eta v.Value,v.Path,v.cn⟩:dJ))else if aH i b.ai.length then vH ((⟨a.ad,a.Name,a.av,a.cf,a.bZ,I.eta a.bu⟩:aR),I.eta (b.ai.getD i.toNat au))>>=λy=>if !y then if aH i b.ai.length then ju ((⟨e⟩:aS),a.av,I.eta (b.ai.getD i.toNat au))>>=λz=>some [(⟨a.ad,z⟩:bX)]>>=λt170=>if room 24 (d++t170).length then nX (u,aM .i64 i 1,e,c,I.eta b,f,g,j,k,l,m,n,o,p,q,r,s,t,d++t170)else none else none else nX (u,aM .i64 i 1,e,c,I.eta b,f,g,j,k,l,m,n,o,p,q,r,s,t,d)else none else none else some (.inr (g,j,k,l,m,n,o,p,q,r,s,t,d))
  partial_fixpoint
theorem Vh:cQ 84 0 [1] Rz nX:= .rx nX.partial_correctness (.k my (.k xZ (.k Cf (.k SK (.k Ce .n)))))
mutual
def mE(u:aS×Int×I×aS×Int×aq):Option dJ:=
 match u with
 |(w,wt,v,r,rt,path)=>
 if aH wt w.Types.length then some (w.Types.getD wt.toNat aN)>>=λc=>if aH rt r.Types.length then some (r.Types.getD rt.toNat aN)>>=λe=>if !(c.Kind=e.Kind:Bool) then kI path>>=λt=>some (⟨I.eta t.Value,t.Path,t.cn⟩:dJ)else if(bif (c.Kind=2:Bool)then bif (v.bf<e.bC:Bool)then true else (e.bG<v.bf:Bool)else false) then kI path>>=λK=>some (⟨I.eta K.Value,K.Path,K.cn⟩:dJ)else if(bif (c.Kind=3:Bool)then (e.Max<(v.bn.length:Int):Bool)else false) then kI path>>=λq=>some (⟨I.eta q.Value,q.Path,q.cn⟩:dJ)else if (c.Kind=4:Bool) then sK (e,v.ad)>>=λM=>if(bif (!M.2)then(!e.Open)else false) then kI path>>=λp=>some (⟨I.eta p.Value,p.Path,p.cn⟩:dJ)else if(bif bif (c.Kind=7:Bool)then true else (c.Kind=8:Bool)then (e.Max<(v.ai.length:Int):Bool)else false) then kI path>>=λE=>some (⟨I.eta E.Value,E.Path,E.cn⟩:dJ)else if (c.Kind=6:Bool) then xW (w,c,I.eta v,r,e,path)>>=λA=>some (⟨I.eta A.Value,A.Path,A.cn⟩:dJ)else if (c.Kind=5:Bool) then yf (w,c,I.eta v,r,e,path)>>=λx=>some (⟨I.eta x.Value,x.Path,x.cn⟩:dJ)else n1 (path,0,w.Types,I.eta v,r.Types,0,false,0,[],0,false,c,e,v.Kind,v.bL,v.bf,v.bn,v.ad,v.Rest,[])>>=λo=>match o with
 |.inl G=>
 some (⟨I.eta G.Value,G.Path,G.cn⟩:dJ)
 |.inr a=>
 n2 (a.1,0,a.2.1,I.eta a.2.2.1,a.2.2.2.1,a.2.2.2.2.1,a.2.2.2.2.2.1,a.2.2.2.2.2.2.1,a.2.2.2.2.2.2.2.1,a.2.2.2.2.2.2.2.2.1,a.2.2.2.2.2.2.2.2.2.1,a.2.2.2.2.2.2.2.2.2.2.1,a.2.2.2.2.2.2.2.2.2.2.2.1,a.2.2.2.2.2.2.2.2.2.2.2.2.1,a.2.2.2.2.2.2.2.2.2.2.2.2.2.1,a.2.2.2.2.2.2.2.2.2.2.2.2.2.2.1,a.2.2.2.2.2.2.2.2.2.2.2.2.2.2.2.1,a.2.2.2.2.2.2.2.2.2.2.2.2.2.2.2.2.1,a.2.2.2.2.2.2.2.2.2.2.2.2.2.2.2.2.2.1,a.2.2.2.2.2.2.2.2.2.2.2.2.2.2.2.2.2.2,[])>>=λbe=>match be with
 |.inl H=>
 some (⟨I.eta H.Value,H.Path,H.cn⟩:dJ)
 |.inr j=>
 nB (⟨j.2.2.2.2.2.2.1,j.2.2.2.2.2.2.2.1,j.2.2.2.2.2.2.2.2.1,j.2.2.2.2.2.2.2.2.2.1,j.2.2.2.2.2.2.2.2.2.2.1,j.2.2.2.2.2.2.2.2.2.2.2.2.1,j.2.2.2.2.2.2.2.2.2.2.2.2.2,j.2.2.2.2.2.2.2.2.2.2.2.1⟩:I)>>=λz=>some (⟨I.eta z.Value,z.Path,z.cn⟩:dJ)else if(bif bif (c.Kind=7:Bool)then true else (c.Kind=8:Bool)then (e.Max<(v.ai.length:Int):Bool)else false) then kI path>>=λJ=>some (⟨I.eta J.Value,J.Path,J.cn⟩:dJ)else if (c.Kind=6:Bool) then xW (w,c,I.eta v,r,e,path)>>=λbs=>some (⟨I.eta bs.Value,bs.Path,bs.cn⟩:dJ)else if (c.Kind=5:Bool) then yf (w,c,I.eta v,r,e,path)>>=λbv=>some (⟨I.eta bv.Value,bv.Path,bv.cn⟩:dJ)else n1 (path,0,w.Types,I.eta v,r.Types,0,false,0,[],0,false,c,e,v.Kind,v.bL,v.bf,v.bn,v.ad,v.Rest,[])>>=λg4=>match g4 with
 |.inl bi=>
 some (⟨I.eta bi.Value,bi.Path,bi.cn⟩:dJ)
 |.inr f=>
 n2 (f.1,0,f.2.1,I.eta f.2.2.1,f.2.2.2.1,f.2.2.2.2.1,f.2.2.2.2.2.1,f.2.2.2.2.2.2.1,f.2.2.2.2.2.2.2.1,f.2.2.2.2.2.2.2.2.1,f.2.2.2.2.2.2.2.2.2.1,f.2.2.2.2.2.2.2.2.2.2.1,f.2.2.2.2.2.2.2.2.2.2.2.1,f.2.2.2.2.2.2.2.2.2.2.2.2.1,f.2.2.2.2.2.2.2.2.2.2.2.2.2.1,f.2.2.2.2.2.2.2.2.2.2.2.2.2.2.1,f.2.2.2.2.2.2.2.2.2.2.2.2.2.2.2.1,f.2.2.2.2.2.2.2.2.2.2.2.2.2.2.2.2.1,f.2.2.2.2.2.2.2.2.2.2.2.2.2.2.2.2.2.1,f.2.2.2.2.2.2.2.2.2.2.2.2.2.2.2.2.2.2,[])>>=λg5=>match g5 with
 |.inl bb=>
 some (⟨I.eta bb.Value,bb.Path,bb.cn⟩:dJ)
 |.inr D=>
 nB (⟨D.2.2.2.2.2.2.1,D.2.2.2.2.2.2.2.1,D.2.2.2.2.2.2.2.2.1,D.2.2.2.2.2.2.2.2.2.1,D.2.2.2.2.2.2.2.2.2.2.1,D.2.2.2.2.2.2.2.2.2.2.2.2.1,D.2.2.2.2.2.2.2.2.2.2.2.2.2,D.2.2.2.2.2.2.2.2.2.2.2.1⟩:I)>>=λbD=>some (⟨I.eta bD.Value,bD.Path,bD.cn⟩:dJ)else none else none
  partial_fixpoint
def yf(u:aS×ah×I×aS×ah×aq):Option dJ:=
 match u with
 |(w,c,v,r,y,path)=>
 o' (path,0,w.Types,c,I.eta v,r.Types,y,0,false,0,[],0,false,v.Kind,false,0,[],0,[])>>=λo=>match o with
 |.inl G=>
 some (⟨I.eta G.Value,G.Path,G.cn⟩:dJ)
 |.inr a=>
 nX (a.1,0,a.2.1,a.2.2.1,I.eta a.2.2.2.1,a.2.2.2.2.1,a.2.2.2.2.2.1,a.2.2.2.2.2.2.1,a.2.2.2.2.2.2.2.1,a.2.2.2.2.2.2.2.2.1,a.2.2.2.2.2.2.2.2.2.1,a.2.2.2.2.2.2.2.2.2.2.1,a.2.2.2.2.2.2.2.2.2.2.2.1,a.2.2.2.2.2.2.2.2.2.2.2.2.1,a.2.2.2.2.2.2.2.2.2.2.2.2.2.1,a.2.2.2.2.2.2.2.2.2.2.2.2.2.2.1,a.2.2.2.2.2.2.2.2.2.2.2.2.2.2.2.1,a.2.2.2.2.2.2.2.2.2.2.2.2.2.2.2.2,[])>>=λbe=>match be with
 |.inl H=>
 some (⟨I.eta H.Value,H.Path,H.cn⟩:dJ)
 |.inr j=>
 nB (⟨j.2.2.2.2.2.2.1,j.2.2.2.2.2.2.2.1,j.2.2.2.2.2.2.2.2.1,j.2.2.2.2.2.2.2.2.2.1,j.2.2.2.2.2.2.2.2.2.2.1,[],j.2.2.2.2.2.2.2.2.2.2.2.1,j.2.2.2.2.2.2.2.2.2.2.2.2⟩:I)>>=λt=>some (⟨I.eta t.Value,t.Path,t.cn⟩:dJ)
  partial_fixpoint
def xW:aS×ah×I×aS×ah×aq->Option dJ
 |(w,c,v,r,y,path)=>
 hJ (c,v.ad)>>=λt=>hJ (y,v.ad)>>=λM=>if(bif (!M.2)then(!y.Open)else false) then kI path>>=λp=>some (⟨I.eta p.Value,p.Path,p.cn⟩:dJ)else if !M.2 then if aH t.1 c.ag.length then if aH 0 v.ai.length then ju (w,(c.ag.getD t.1.toNat ay).av,I.eta (v.ai.getD (0:Int).toNat au))>>=λE=>nB (⟨v.Kind,false,0,[],v.ad,[],[],[(⟨v.ad,E⟩:bX)]⟩:I)>>=λA=>some (⟨I.eta A.Value,A.Path,A.cn⟩:dJ)else none else none else if aH t.1 c.ag.length then if aH 0 v.ai.length then if aH M.1 y.ag.length then qR (path,v.ad)>>=λx=>mE (w,(c.ag.getD t.1.toNat ay).av,I.eta (v.ai.getD (0:Int).toNat au),r,(y.ag.getD M.1.toNat ay).av,x)>>=λz=>if !z.cn then some (⟨I.eta z.Value,z.Path,z.cn⟩:dJ)else nB (⟨v.Kind,false,0,[],v.ad,[],[I.eta z.Value],[]⟩:I)>>=λJ=>some (⟨I.eta J.Value,J.Path,J.cn⟩:dJ)else none else none else none
  partial_fixpoint
def n1:aq×Int×List ah×I×List ah×Int×Bool×Int×aj×Int×Bool×ah×ah×Int×Bool×Int×aj×Int×List bX×List I->Option ((dJ) ⊕ (aq×List ah×I×List ah×Int×Bool×Int×aj×Int×Bool×ah×ah×Int×Bool×Int×aj×Int×List bX×List I))
 |(bp,i,a2,P,a3,b3,b4,ce,ci,cr,cs,a4,a5,c8,ds,dt,eq,es,ex,a9)=>
 if (i<(P.aw.length:Int):Bool) then if aH i P.aw.length then qR (bp,i)>>=λg6=>mE ((⟨a2⟩:aS),a4.Key,I.eta (P.aw.getD i.toNat au),(⟨a3⟩:aS),a5.Key,g6)>>=λR=>if !R.cn then some (.inl (⟨I.eta R.Value,R.Path,R.cn⟩:dJ))else some [I.eta R.Value]>>=λt161=>if room 120 (a9++t161).length then n1 (bp,aM .i64 i 1,a2,I.eta P,a3,b3,b4,ce,ci,cr,cs,a4,a5,c8,ds,dt,eq,es,ex,a9++t161)else none else none else some (.inr (bp,a2,I.eta P,a3,b3,b4,ce,ci,cr,cs,a4,a5,c8,ds,dt,eq,es,ex,a9))
  partial_fixpoint
def n2:aq×Int×List ah×I×List ah×Int×Bool×Int×aj×Int×Bool×ah×ah×Int×Bool×Int×aj×Int×List bX×List I×List I->Option ((dJ) ⊕ (Int×Bool×Int×aj×Int×Bool×Int×Bool×Int×aj×Int×List bX×List I×List I))
 |(g3,Q,fd,W,ff,fo,fs,gc,gd,ge,gl,gs,gt,g0,g1,g2,bT,b0,b1,b2,Y)=>
 if (Q<(W.ai.length:Int):Bool) then if aH Q W.ai.length then qR (g3,Q)>>=λg7=>mE ((⟨fd⟩:aS),gs.aG,I.eta (W.ai.getD Q.toNat au),(⟨ff⟩:aS),gt.aG,g7)>>=λS=>if !S.cn then some (.inl (⟨I.eta S.Value,S.Path,S.cn⟩:dJ))else some [I.eta S.Value]>>=λt194=>if room 120 (Y++t194).length then n2 (g3,aM .i64 Q 1,fd,I.eta W,ff,fo,fs,gc,gd,ge,gl,gs,gt,g0,g1,g2,bT,b0,b1,b2,Y++t194)else none else none else some (.inr (fo,fs,gc,gd,ge,gl,g0,g1,g2,bT,b0,b1,b2,Y))
  partial_fixpoint
def o':aq×Int×List ah×ah×I×List ah×ah×Int×Bool×Int×aj×Int×Bool×Int×Bool×Int×aj×Int×List I->Option ((dJ) ⊕ (aq×List ah×ah×I×ah×Int×Bool×Int×aj×Int×Bool×Int×Bool×Int×aj×Int×List I))
 |(X,k,U,B,F,Z,L,af,am,an,ap,ax,aC,aD,aJ,aZ,a0,a1,O)=>
 if (k<(L.ag.length:Int):Bool) then if aH k L.ag.length then some (L.ag.getD k.toNat ay)>>=λe=>qR (X,e.ad)>>=λK=>hJ (B,e.ad)>>=λq=>if(bif (!q.2)then(!e.bZ)else false) then kI K>>=λbR=>some (.inl (⟨I.eta bR.Value,bR.Path,bR.cn⟩:dJ))else if !q.2 then some [I.eta e.bu]>>=λt65=>if room 120 (O++t65).length then o' (X,aM .i64 k 1,U,B,I.eta F,Z,L,af,am,an,ap,ax,aC,aD,aJ,aZ,a0,a1,O++t65)else none else if aH q.1 B.ag.length then if aH q.1 F.ai.length then mE ((⟨U⟩:aS),(B.ag.getD q.1.toNat ay).av,I.eta (F.ai.getD q.1.toNat au),(⟨Z⟩:aS),e.av,K)>>=λp=>if aH q.1 B.ag.length then some (B.ag.getD q.1.toNat ay)>>=λN=>if aH q.1 F.ai.length then vH ((⟨N.ad,N.Name,N.av,N.cf,N.bZ,I.eta N.bu⟩:aR),I.eta (F.ai.getD q.1.toNat au))>>=λE=>some (!p.cn)>>=λt99=>(if(E&&(!t99)) then vH ((⟨e.ad,e.Name,e.av,e.cf,e.bZ,I.eta e.bu⟩:aR),I.eta p.Value)else some false)>>=λA=>if(bif E then bif t99 then true else(!A)else false) then kI K>>=λx=>some (.inl (⟨I.eta x.Value,x.Path,x.cn⟩:dJ))else if !p.cn then some (.inl (⟨I.eta p.Value,p.Path,p.cn⟩:dJ))else some [I.eta p.Value]>>=λt118=>if room 120 (O++t118).length then o' (X,aM .i64 k 1,U,B,I.eta F,Z,L,af,am,an,ap,ax,aC,aD,aJ,aZ,a0,a1,O++t118)else none else none else none else none else none else none else some (.inr (X,U,B,I.eta F,L,af,am,an,ap,ax,aC,aD,aJ,aZ,a0,a1,O))
  partial_fixpoint
end
theorem V2:ei sr mE/\eF 47 0 [1] xz n2/\eF 47 0 [0] xy n1/\ei E7 yf/\eF 84 0 [0] xE o'/\ei E6 xW:=mE.mutual_partial_correctness (ed sr) (eE 47 0 [1] xz) (eE 47 0 [0] xy) (ed E7) (eE 84 0 [0] xE) (ed E6)
 (λ_ _ _ _ h1 a c bb _ _ h=>er h (.k Cf (.k Cg (.k (cm E6 bb) (.k (cm E7 c) (.k Gi .n))))) (.k (eR xy a) (.k (eR xz h1) .n)))
 (λ_ _ h0 h1 _ _ h=>eQ xz h1 h (.k xZ (.k (cm sr h0) .n)))
 (λ_ _ h0 a _ _ h=>eQ xy a h (.k xZ (.k (cm sr h0) .n)))
 (λ_ b _ _ h=>er h (.k Gi .n) (.k (eR xE b) (.k Vh .n)))
 (λ_ _ h0 b _ _ h=>eQ xE b h (.k xZ (.k my (.k Cf (.k (cm sr h0) (.k SK .n))))))
 (λ_ h0 _ _ h=>er h (.k my (.k Cf (.k Ce (.k Gi (.k xZ (.k (cm sr h0) .n)))))))
theorem WG:ba sr mE:=cm _ V2.1
def sH:aS×Int×I×aS×Int->Option (I×Int)
 |(w,wt,v,r,rt)=>
 B7 (w,wt,I.eta v,r,rt)>>=λa=>if !(a=0:Bool) then some ((⟨0,false,0,[],0,[],[],[]⟩:I),a)else mE (w,wt,I.eta v,r,rt,[])>>=λb=>if !b.cn then some ((⟨0,false,0,[],0,[],[],[]⟩:I),12)else some (I.eta b.Value,0)
theorem Uy:ba ae3 sH:= .bo (.k VJ (.k WG .n))
mutual
def mA:aS×Int×I->Option Int
 |(s,t,v)=>
 if aH t s.Types.length then h5 (0,0,s.Types,I.eta v,s.Types.getD t.toNat aN)>>=λo=>if (0<(o.2.aw.length:Int):Bool) then some (aM .i64 1 (iz o.1 1))else some (aM .i64 1 o.1)else none
  partial_fixpoint
def h5:Int×Int×List ah×I×ah->Option (Int×I)
 |(f,i,e,a,c)=>
 if (i<(a.ai.length:Int):Bool) then if (c.Kind=5:Bool) then if aH i c.ag.length then some (c.ag.getD i.toNat ay)>>=λj=>if(aH i a.ai.length||(!j.bZ)) then (if j.bZ then jM (I.eta (a.ai.getD i.toNat au),I.eta j.bu)else some false)>>=λr=>if(bif j.bZ then r else false) then h5 (f,aM .i64 i 1,e,I.eta a,c)else if (c.Kind=6:Bool) then hJ (c,a.ad)>>=λq=>if aH q.1 c.ag.length then if aH i a.ai.length then mA ((⟨e⟩:aS),(c.ag.getD q.1.toNat ay).av,I.eta (a.ai.getD i.toNat au))>>=λx=>h5 (iz f x,aM .i64 i 1,e,I.eta a,c)else none else none else if aH i a.ai.length then mA ((⟨e⟩:aS),j.av,I.eta (a.ai.getD i.toNat au))>>=λy=>h5 (iz f y,aM .i64 i 1,e,I.eta a,c)else none else none else none else if (c.Kind=6:Bool) then hJ (c,a.ad)>>=λu=>if aH u.1 c.ag.length then if aH i a.ai.length then mA ((⟨e⟩:aS),(c.ag.getD u.1.toNat ay).av,I.eta (a.ai.getD i.toNat au))>>=λz=>h5 (iz f z,aM .i64 i 1,e,I.eta a,c)else none else none else if aH i a.ai.length then mA ((⟨e⟩:aS),c.aG,I.eta (a.ai.getD i.toNat au))>>=λw=>h5 (iz f w,aM .i64 i 1,e,I.eta a,c)else none else some (f,I.eta a)
  partial_fixpoint
end
theorem UJ:ei Bu mA/\eF 45 0 [0] xx h5:=mA.mutual_partial_correctness (ed Bu) (eE 45 0 [0] xx)
 (λ_ h1 _ _ h=>er h .n (.k (eR xx h1) .n))
 (λ_ _ h0 h1 _ _ h=>eQ xx h1 h (.k yM (.k my (.k (cm Bu h0) .n))))
theorem V3:ba Bu mA:=cm _ UJ.1
def ny:aS×Int×I->Option (aj×Int)
 |(s,t,v)=>
 sU (s,t,I.eta v)>>=λr=>if !(r=0:Bool) then some ([],r)else ju (s,t,I.eta v)>>=λa=>some (decide (4096<(a.length:Int)))>>=λt23=>(if !t23 then mA (s,t,I.eta v)else some 0)>>=λb=>if(bif t23 then true else (200<b:Bool)) then some ([],3)else some (a,0)
theorem V4:ba aeS ny:= .bo (.k VH (.k Ce (.k V3 .n)))
def rn:dO×dO×aj->Option (kL×Int)
 |(w,r,m)=>
 GX (w,r)>>=λf=>if !(f=0:Bool) then some ((⟨(⟨0,false,0,[],0,[],[],[]⟩:I),(⟨0,false,0,[],0,[],[],[]⟩:I),[]⟩:kL),f)else pU (w.cX,w.av,m)>>=λa=>if !(a.2=0:Bool) then some ((⟨(⟨0,false,0,[],0,[],[],[]⟩:I),(⟨0,false,0,[],0,[],[],[]⟩:I),[]⟩:kL),a.2)else ym (w.cX,w.av,I.eta a.1)>>=λe=>if !(e.2=0:Bool) then some ((⟨(⟨0,false,0,[],0,[],[],[]⟩:I),(⟨0,false,0,[],0,[],[],[]⟩:I),[]⟩:kL),e.2)else sH (w.cX,w.av,I.eta e.1,r.cX,r.av)>>=λg=>if !(g.2=0:Bool) then some ((⟨(⟨0,false,0,[],0,[],[],[]⟩:I),(⟨0,false,0,[],0,[],[],[]⟩:I),[]⟩:kL),g.2)else ny (w.cX,w.av,I.eta a.1)>>=λc=>if !(c.2=0:Bool) then some ((⟨(⟨0,false,0,[],0,[],[],[]⟩:I),(⟨0,false,0,[],0,[],[],[]⟩:I),[]⟩:kL),c.2)else pU (r.cX,r.av,c.1)>>=λb=>if !(b.2=0:Bool) then some ((⟨(⟨0,false,0,[],0,[],[],[]⟩:I),(⟨0,false,0,[],0,[],[],[]⟩:I),[]⟩:kL),b.2)else ny (r.cX,r.av,I.eta b.1)>>=λd=>if !(d.2=0:Bool) then some ((⟨(⟨0,false,0,[],0,[],[],[]⟩:I),(⟨0,false,0,[],0,[],[],[]⟩:I),[]⟩:kL),d.2)else some ((⟨I.eta a.1,I.eta b.1,d.1⟩:kL),0)
def As(c:kO):Option Bool:=
 tN c>>=λr=>yj ()>>=λi=>if(bif (!i)then true else(!r.2.2.2.2)) then yj ()>>=λj=>some j else ny (r.1,r.2.2.1,I.eta r.2.2.2.1)>>=λe=>if !(e.2=0:Bool) then some true else sH (r.1,r.2.2.1,I.eta r.2.2.2.1,r.2.1,r.2.2.1)>>=λb=>G8 ((⟨r.1,r.2.2.1⟩:dO),(⟨r.2.1,r.2.2.1⟩:dO),e.1)>>=λa=>if !(b.2=0:Bool) then some (bif decide (a.2=12)then decide (a.1=[])else false)else pU (r.2.1,r.2.2.1,a.1)>>=λd=>some (bif decide (a.2=0)then decide (d.2=0)else false)>>=λt80=>(if t80 then yI (I.eta d.1,I.eta b.1)else some false)>>=λf=>some (bif t80 then f else false)>>=λt85=>(if t85 then ju (r.2.1,r.2.2.1,I.eta b.1)else some [])>>=λg=>some (bif t85 then decide (a.1=g)else false)
theorem adY:ba gx As:= .bo (.k Wa (.k Vs (.k V4 (.k Uy (.k Wm (.k V0 (.k SY (.k Ce .n))))))))
end
section
open Go Go.Proofs.YtdjagncoefjfeaaGreat.Shv
open Tryz
set_option maxRecDepth 100000

end
section
open Go Go.Proofs.YtdjagncoefjfeaaGreat.Shv
set_option maxRecDepth 100000
def hD(s:aj):Nat->Nat->Nat->Int×Int×Int
 |0,_,_=>(0,0,10)
 |f+1,i,n=>
  if i<s.length then if i=9/\1<(s.getD i 0).toNat then(0,0,7)else if 128<=(s.getD i 0).toNat then hD s f (i+1) (n+((s.getD i 0).toNat%128)*2^(7*i))else if(s.getD i 0).toNat=0/\0<i then(0,0,2)else(((n+(s.getD i 0).toNat*2^(7*i):Nat):Int),((i+1:Nat):Int),0)else(0,0,10)
theorem Sa{i:Nat}(h:i<=9):2^(7*i)<=9223372036854775808:=by
 have:2^(7*i)<=2^63:=wL (by omega) (by omega);omega
theorem Sb(i:Nat):2^(7*(i+1))=2^(7*i)*128:=by rw[Nat.mul_add,Nat.pow_add]
theorem Gd{n i b:Nat}(aE:n<2^(7*i)):n+(b%128)*2^(7*i)<2^(7*(i+1)):=by
 rw[Sb];have:b%128*2^(7*i)<=127*2^(7*i):=e2 _ (by omega);omega
theorem xM{n i b:Nat}(d:i<=9)(aE:n<2^(7*i))(c:b<128)(a:i=9->b<=1):b*2^(7*i)<18446744073709551616/\n+b*2^(7*i)<18446744073709551616:=by
 rcases Nat.lt_or_ge i 9 with h|h
 . have:2^(7*i)<=2^56:=wL (by omega) (by omega);have e:(2:Nat)^56=72057594037927936:=(by decide);have:b*2^(7*i)<=127*2^(7*i):=e2 _ (by omega);omega
 grind
theorem O7(s:aj):∀(f i n:Nat),i+f=10->n<2^(7*i)->∃o,tS (s,(n:Int),((min 10 s.length:Nat):Int),(i:Int))=some o/\(match o with|.inl x=>x|.inr _=>(0,0,10))=hD s f i n
 |0,i,n,h,aE=>by
  refine⟨.inr (),?_,rfl⟩;rw[tS];grind
 |f+1,i,n,h,aE=>by
  rw[tS];simp only[hD,aT,ao,qZ];by_cases d:i<s.length
  . have e:=yU s i;generalize (s.getD i 0).toNat=b at e⊢;rw[bz,ae (aQ d),ae d];have l:gF .i64 7 (i:Int)=((7*i:Nat):Int):=by rw[NS (by omega) (by omega)];norm_cast
    rw[l];have j:decide ((0:Int)<=((7*i:Nat):Int))=true:=by simp;omega
    by_cases c:i=9/\1<b
    . rw[ae c,ae (by obtain⟨h1,m⟩:=c;subst h1;simp;omega)];grind
    . rw[ak c,ak (by grind)];by_cases g:128<=b
      . rw[ae g,bz,ae j];have k:i=9->False:=λh1=>c ⟨h1,by omega⟩;have aC:b%128<128:=yE _ (by omega);have a:=xM (i:=i) (n:=n) (b:=b%128) (by omega) aE aC (λh1=>(k h1).elim);rw[abg e,hE,MS (by omega) a.1,Nl (by have:=Sa (i:=i) (by omega);omega) a.1,Oi aE,bH];exact O7 s f (i+1) (n+b%128*2^(7*i)) (by omega) (Gd aE)
      . rw[ak g,cp];by_cases h0:b=0/\0<i
        . simp_all
        . rw[ak h0,ak (by grind),ae j];have a:=xM (i:=i) (n:=n) (b:=b) (by omega) aE (by omega) (λh1=>by omega);rw[hE,MS (by omega) a.1,Nl (by have:=Sa (i:=i) (by omega);omega) a.1,Oi aE,bH];grind
  . rw[cp,ak d];grind
theorem O8(s:aj):DD s=some (hD s 10 0 0):=by
 obtain⟨o,h1,a⟩:=O7 s 10 0 0 rfl (by decide);rw[DD];have:ji 10 (s.length:Int)=((min 10 s.length:Nat):Int):=H2 10 s.length;grind
theorem LR(s:aj):∀(f i n:Nat),i<=s.length->i+f=10->n<2^(7*i)->∃o,sM (s,(n:Int),(if i<10 then((2^(7*i):Nat):Int)else gF .u64 ((2^(7*9):Nat):Int) 128),(i:Int))=some o/\(i<10->(match o with|.inl x=>x|.inr _=>(0,0,7))=hD s f i n)
 |0,i,n,p,h,aE=>by
  refine⟨.inr (),?_,λr=>by omega⟩;rw[sM];grind
 |f+1,i,n,p,h,aE=>by
  rw[sM];simp only[hD,aT,ao,qZ];rw[ae (show decide ((i:Int)<10)=true by simp;omega),ae (show i<10 by omega)];by_cases e:i<s.length
  . have m:=yU s i;generalize (s.getD i 0).toNat=b at m⊢;rw[cp,ae (aQ e),ae e,hE];by_cases d:i=9/\1<b
    . rw[ae d,ae (by obtain⟨h1,k⟩:=d;subst h1;simp;omega)];grind
    . rw[ak d,ak (by grind)];have j:b' (b:Int) 128=((b%128:Nat):Int):=Az (b:=128);have aC:b%128<128:=yE _ (by omega);by_cases g:128<=b
      . rw[ae g,cp];have l:i=9->False:=λh1=>d ⟨h1,by omega⟩;have c:=xM (i:=i) (n:=n) (b:=b%128) (by omega) aE aC (λh1=>(l h1).elim);rw[j,ua c.1,sa c.2,bH];obtain⟨o,h1,k⟩:=LR s f (i+1) (n+b%128*2^(7*i)) (by omega) (by omega) (Gd aE);have t:gF .u64 ((2^(7*i):Nat):Int) 128=((2^(7*(i+1)):Nat):Int):=by
         have:=ua (a:=2^(7*i)) (b:=128) (by
          have:2^(7*i)<=2^56:=wL (by omega) (by omega)
          omega)
         grind
        grind
      . rw[ak g,bz];have q:b%128=b:=ow (by omega);have c:=xM (i:=i) (n:=n) (b:=b) (by omega) aE (by omega) (λh1=>by omega);by_cases h0:b=0/\0<i
        . simp_all
        . rw[ak h0,ak (by grind)];rw[j,q,ua c.1,sa c.2,bH];grind
  . rw[bz,ak e];grind
theorem Is(s:aj):vm s=some (hD s 10 0 0):=by
 obtain⟨o,h1,a⟩:=LR s 10 0 0 (by omega) rfl (by decide);rw[vm];grind
theorem Mb(s:aj):∀(f i n:Nat),i<=s.length->i+f=10->n<2^(7*i)->(∃e:Int,e≠0/\hD s f i n=(0,0,e))\/∃m k:Nat,hD s f i n=((m:Int),(k:Int),0)/\i<k/\k<=s.length/\m<18446744073709551616
 |0,i,n,l,h,aE=>.inl ⟨10,by decide,rfl⟩
 |f+1,i,n,l,h,aE=>by
  simp only[hD];have g:=yU s i;generalize (s.getD i 0).toNat=b at g⊢;by_cases c:i<s.length
  . rw[ae c];by_cases d:i=9/\1<b
    . simp_all
    . rw[ak d];by_cases a:128<=b
      . rw[ae a];rcases Mb s f (i+1) (n+b%128*2^(7*i)) (by omega) (by omega) (Gd aE)with h|⟨m,k,h1,o,p,q⟩
        . exact .inl h
        grind
      . rw[ak a];by_cases h0:b=0/\0<i
        . simp_all
        . rw[ak h0];have j:=xM (i:=i) (n:=n) (b:=b) (by omega) aE (by omega) (λh1=>by omega);exact .inr ⟨_,i+1,rfl,by omega,by omega,j.2⟩
  . rw[ak c];exact .inl ⟨10,by decide,rfl⟩
theorem lC(s:aj):(∃e:Int,e≠0/\hD s 10 0 0=(0,0,e))\/∃m k:Nat,hD s 10 0 0=((m:Int),(k:Int),0)/\0<k/\k<=s.length/\m<18446744073709551616:=
 Mb s 10 0 0 (by omega) rfl (by decide)
theorem nP{s:aj}{e:Int}(he:e≠0)(h:hD s 10 0 0=(0,0,e)):qV s=some (0,[],false):=by
 rw[qV,O8,h];grind
theorem lU{s:aj}{m k:Nat}(h:hD s 10 0 0=((m:Int),(k:Int),0))(a:k<=s.length):qV s=some ((m:Int),s.drop k,true):=by
 rw[qV,O8,h];simp only[aT,ao];rw[bx,ae (jR a (dU _)),nO]
def dT:Option (aj×aj)->aj×aj×Bool
 |none=>([],[],false)
 |some (a,b)=>(a,b,true)
def iE(s:aj):Option (aj×aj):=
 match hD s 10 0 0 with
 |(m,k,e)=>if e=0/\m.toNat+k.toNat<=s.length then some ((s.drop k.toNat).take m.toNat,(s.drop k.toNat).drop m.toNat)else none
theorem nJ{s a b:aj}(h:iE s=some (a,b)):a.length+b.length<s.length:=by
 unfold iE at h;rcases lC s with⟨e,he,c⟩|⟨m,k,c,f,d,g⟩
 . grind
 grind
theorem lV{s:aj}(hs:s.length<=1000000:=by omega):y4 s=some (dT (iE s)):=by
 rw[y4];unfold iE;rcases lC s with⟨e,he,b⟩|⟨m,k,b,f,d,g⟩
 . rw[nP he b,b];simp[he,dT]
 . rw[lU b d,b];simp only[aT,ao,ou,rI,l3];rw[hE];by_cases c:m+k<=s.length
   . rw[cp,ae (show dY 0 (m:Int) (s.length-k)=true from jR (a:=0) (by omega) (by omega)),ae (jR (by omega) (dU _)),ae c];have:((s.length-k:Nat):Int)=((s.drop k).length:Int):=by simp
     rw[this,nO,tm];rfl
   . rw[bz,ak c];rfl
theorem O9{s:aj}(hs:s.length<=1000000):zl s=some (dT (iE s)):=by
 rw[zl,Is];unfold iE;rcases lC s with⟨e,he,a⟩|⟨m,k,a,g,f,i⟩
 . rw[a];simp[he,dT]
 . rw[a];simp only[aT,ao,ou,rI];have c:dj .i64 (s.length:Int) (k:Int)=((s.length-k:Nat):Int):=by rw[hP];omega
   rw[c,hE];by_cases b:m+k<=s.length
   . rw[cp,ae b];have d:bY .i64 (m:Int)=(m:Int):=jI;rw[d,vZ (by omega),ae (jR (by omega) (by omega)),ae (jR (by omega) (dU _)),nO];have:ef s (k:Int) ((k+m:Nat):Int)=(s.drop k).take m:=by
      unfold ef;rw[ou,ou,List.drop_take];grind
     rw[this,yx];rfl
   . rw[bz,ak b];rfl
theorem H3:∀(n:Nat) (s:aj) (b:List aj),s.length<=n->s.length+b.length<=100000->∃o,hL (s,b)=some o/\∀l,o= .inr l->l.length<=s.length+b.length:=by
 intro n;induction n with
 |zero=>
  intro s b h1 a;have:s=[]:=jE (by omega);subst this;refine⟨.inr b,?_,λl af=>by cases af;omega⟩;rw[hL];rw[bx]
 |succ n ih=>
  intro s b h1 a;rw[hL,lV];simp only[aT,ao];by_cases hs:s=[]
  . grind
  . have d:(!(decide (s=[])))=true:=(by simp[hs]);rw[ae d];cases g:iE s with
    |none=>exact⟨.inl 12,rfl,λl af=>by cases af⟩
    |some p=>
     obtain⟨x,y⟩:=p;have af:=nJ g;have f:room 16 (b++[(dT (some (x,y))).1]).length=true:=cS;have aE:¬((!(dT (some (x,y))).2.2)=true):=(by simp[dT]);rw[ak aE,ae f];obtain⟨o,c,bb⟩:=ih y (b++[x]) (by omega) (by simp;omega);exact⟨o,c,λl e=>by have:=bb l e;simp at this;omega⟩
theorem abl{s:aj}(h:s.length<=90000):∃o,lf s=some o/\o.1.length<=s.length:=by
 obtain⟨o,h1,a⟩:=H3 s.length s [] (dU _) (by simp;omega);rw[lf,h1];cases o with
 |inl e=>exact⟨_,rfl,by simp⟩
 |inr l=>exact⟨_,rfl,by have:=a l rfl;simpa using this⟩
theorem abV:∀(n:Nat) (s:aj) (b:List aj),s.length<=n->s.length+b.length<=100000->sC (s,b)=hL (s,b):=by
 intro n;induction n with
 |zero=>
  intro s b h1 d;have:s=[]:=jE (by omega);subst this;rw[hL,sC,bx,bx]
 |succ n ih=>
  intro s b h1 d;rw[hL,sC,lV,O9 (by omega)];simp only[aT,ao];by_cases hs:s=[]
  . grind
  . have a:(!(decide (s=[])))=true:=(by simp[hs]);rw[ae a,ae a];cases e:iE s with
    |none=>rfl
    |some p=>
     obtain⟨x,y⟩:=p;have af:=nJ e;have c:room 16 (b++[(dT (some (x,y))).1]).length=true:=cS;have aE:¬((!(dT (some (x,y))).2.2)=true):=(by simp[dT]);rw[ak aE,ae c,ak aE,ae c];exact ih y (b++[x]) (by omega) (by simp;omega)
theorem abm{s:aj}(h:s.length<=90000):vg s=lf s:=by
 rw[lf,vg,abV s.length s [] (dU _) (by simp;omega)]<;>rfl
theorem LS:∀(n:Nat) (s:aj) (last:Nat) (b:List cO),s.length<=n->s.length+b.length<=100000->∃o,gg ((last:Int),s,b)=some o/\∀l,o= .inr l->l.length<=s.length+b.length:=by
 intro n;induction n with
 |zero=>
  intro s last b h1 c;have:s=[]:=jE (by omega);subst this;refine⟨.inr b,?_,λl af=>by cases af;omega⟩;rw[gg];rw[bx]
 |succ n ih=>
  intro s last b h1 c;rw[gg];by_cases hs:s=[]
  . subst hs;exact⟨.inr b,by rw[bx],λl af=>by cases af;omega⟩
  . have f:(!(decide (s=[])))=true:=(by simp[hs]);rw[ae f];rcases lC s with⟨e,he,a⟩|⟨m,k,a,v,g,j⟩
    . rw[nP he a];exact⟨.inl 12,rfl,λl af=>by cases af⟩
    . rw[lU a g];simp only[aT,ao];rw[uj j];by_cases u:m/2<=last\/1000<m/2
      . exact⟨.inl 12,by rw[bz],λl af=>by cases af⟩
      . have t:bY .i64 ((m/2:Nat):Int)=((m/2:Nat):Int):=jI;rw[cp,t,lV (by simp;omega)];simp only[ao];cases q:iE (s.drop k)with
        |none=>exact⟨.inl 12,rfl,λl af=>by cases af⟩
        |some p=>
         obtain⟨x,y⟩:=p;have af:=nJ q;rw[l3]at af;have r:room 32 (b++[(⟨((m/2:Nat):Int),decide (b' (m:Int) 2=1),(dT (some (x,y))).1⟩:cO)]).length=true:=cS;have aE:¬((!(dT (some (x,y))).2.2)=true):=(by simp[dT]);rw[ak aE,ae r];obtain⟨o,d,bb⟩:=ih y (m/2) (b++[(⟨((m/2:Nat):Int),decide (b' (m:Int) 2=1),x⟩:cO)]) (by omega) (by simp;omega);exact⟨o,d,λl i=>by have:=bb l i;simp at this;omega⟩
theorem aap{s:aj}(h:s.length<=90000):∃o,lL s=some o/\o.1.length<=s.length:=by
 obtain⟨o,h1,b⟩:=LS s.length s 0 [] (dU _) (by simp;omega);have a:gg (0,s,[])=some o:=h1;rw[lL,a];cases o with
 |inl e=>exact⟨_,rfl,by simp⟩
 |inr l=>exact⟨_,rfl,by have:=b l rfl;simpa using this⟩
theorem abn:∀(n:Nat) (s:aj) (last:Nat) (b:List cO),s.length<=n->s.length+b.length<=100000->rh (s,(last:Int),b)=gg ((last:Int),s,b):=by
 intro n;induction n with
 |zero=>
  intro s last b h1 j;have:s=[]:=jE (by omega);subst this;rw[gg,rh,bx,bx]
 |succ n ih=>
  intro s last b h1 j;rw[gg,rh,Is];by_cases hs:s=[]
  . simp_all
  . have c:(!(decide (s=[])))=true:=(by simp[hs]);rw[ae c,ae c];rcases lC s with⟨e,he,a⟩|⟨m,k,a,t,d,l⟩
    . rw[nP he a,a];simp_all
    . rw[lU a d,a];simp only[aT,ao];rw[uj l];by_cases r:m/2<=last\/1000<m/2
      . have aI:(bif bif (!true)then true else decide (((m/2:Nat):Int)<=(last:Int))then true else decide (1000<((m/2:Nat):Int)))=true:=by simp;omega
        rw[ae aI];rw[ae];by_cases q:2001<m
        . simp;omega
        . have g:bY .i64 ((m/2:Nat):Int)=((m/2:Nat):Int):=jI;grind
      . have g:bY .i64 ((m/2:Nat):Int)=((m/2:Nat):Int):=jI;have i:¬(bif bif (!true)then true else decide (((m/2:Nat):Int)<=(last:Int))then true else decide (1000<((m/2:Nat):Int)))=true:=by simp;omega
        rw[g,cp,ae (jR d (dU _)),nO,O9 (by simp;omega),ak i,lV (by simp;omega)];simp only[ao];cases o:iE (s.drop k)with
        |none=>rfl
        |some p=>
         obtain⟨x,y⟩:=p;have af:=nJ o;rw[l3]at af;have f:room 32 (b++[(⟨((m/2:Nat):Int),decide (b' (m:Int) 2=1),(dT (some (x,y))).1⟩:cO)]).length=true:=cS;have aE:¬((!(dT (some (x,y))).2.2)=true):=(by simp[dT]);rw[ak aE,ae f,ak aE,ae f];exact ih y (m/2) (b++[(⟨((m/2:Nat):Int),decide (b' (m:Int) 2=1),x⟩:cO)]) (by omega) (by simp;omega)
theorem aaq{s:aj}(h:s.length<=90000):ye s=lL s:=by
 have h1:rh (s,0,[])=gg (0,s,[]):=abn s.length s 0 [] (dU _) (by simp;omega);rw[lL,ye,h1]<;>rfl
theorem acN(s:aj):∃o,lR s=some o:=by
 rw[lR];rcases lC s with⟨e,he,a⟩|⟨m,k,a,d,b,f⟩
 . rw[nP he a];exact⟨_,rfl⟩
 . rw[lU a b];simp only[aT,ao];by_cases c:m<1\/1000<m
   . exact⟨(0,[],12),by rw[bz]⟩
   . rw[cp];exact⟨_,rfl⟩
theorem acO(s:aj):∃o,lR s=some o/\zk s=some o:=by
 rw[lR,zk,Is];rcases lC s with⟨e,he,a⟩|⟨m,k,a,d,b,f⟩
 . rw[nP he a,a];simp_all
 . rw[lU a b,a];simp only[aT,ao];by_cases c:m<1\/1000<m
   . exact⟨(0,[],12),by rw[bz],by rw[bz]⟩
   . rw[cp,cp,ae (jR b (dU _)),nO];grind
def dM(n:Nat):aj:=if n<128 then[UInt8.ofNat n]else UInt8.ofNat (n%128+128)::dM (n/128)
termination_by n
decreasing_by omega
theorem pB{n:Nat}(h:n<128):dM n=[UInt8.ofNat n]:=by rw[dM,ae h]
theorem nQ{n:Nat}(h:¬n<128):dM n=UInt8.ofNat (n%128+128)::dM (n/128):=by rw[dM,ak h]
theorem abW{a:Nat}(h:a<256):rQ .u8 (a:Int) 128=((a%128+128:Nat):Int):=by
 have key:∀a:Nat,a<256->rQ .u8 (a:Int) 128=((a%128+128:Nat):Int):=by decide+kernel
 grind
theorem w4(n:Nat):bY .u8 (n:Int)=((n%256:Nat):Int):=by rfl
theorem ag0(n:Nat):lA .u64 (n:Int) 7=((n/128:Nat):Int):=by
 unfold lA;have:((2:Int)^min (7:Int).toNat IntKind.u64.bits)=128:=by decide
 grind
theorem ZR(m:Nat)(l:aq):strOf ((m:Int)::l)=UInt8.ofNat m::strOf l:=rfl
theorem CI(a b:aq):strOf (a++b)=strOf a++strOf b:=qf
variable{α:Type}{p N:aj}{c q:Bool}{x:Option Bool}{names:List aj}{f:aR×aR->Option Bool}{v:I}{t:ah}{S:List c4}{Ms:List aR}{K H E M id:Int}{ts:List ah}{L':Nat->Option (Int ⊕ Unit)}{o:Option (Int×Bool)}{L:Option (Bool ⊕ Unit)}{a:List α}
theorem GH:∀(l:List α) (i:Nat) (x:α),i<l.length->(l.set i x).take (i+1)=l.take i++[x]
 |[],i,x,h=>by simp at h
 |a::l,0,x,h=>by simp
 |a::l,i+1,x,h=>by simp[GH l i x (by simpa using h)]
theorem O':∀(f n i:Nat) (b:aq),i+f=9->n<128*128^f->b.length=10->∃(d c:Nat) (a:aq),td ((n:Int),(i:Int),b)=some ((d:Int),(c:Int),a)/\d<128/\c<=9/\a.length=10/\strOf (a.take c)++[UInt8.ofNat d]=strOf (b.take i)++dM n
 |f,n,i,b,g,aE,e=>by
  rw[td];by_cases hs:n<128
  . rw[cp];exact⟨n,i,b,rfl,hs,by omega,e,by rw[pB hs]⟩
  . rw[bz,ae (aQ (by
     omega)),ae (by
     cases f with
     |zero=>simp at aE;omega
     |succ f=>simp[e];omega)]
    match f,g,aE with
    |0,g,aE=>simp at aE;omega
    |f+1,g,aE=>
     rw[ag0,bH,w4,abW (yE _ (by omega)),bc];have aC:n/128<128*128^f:=(by omega);obtain⟨d,c,a,h1,j,k,l,bb⟩:=O' f (n/128) (i+1) (b.set i ((n%256%128+128:Nat):Int)) (by omega) aC (by simp[e]);refine⟨d,c,a,h1,j,k,l,?_⟩;rw[bb,GH _ _ _ (by omega),CI,nQ hs];have:n%256%128=n%128:=(by omega);rw[this];have m:strOf [((n%128+128:Nat):Int)]=[UInt8.ofNat (n%128+128)]:=rfl;grind
theorem I5:(128:Nat)*128^9=1180591620717411303424:=by decide
theorem tV{n:Nat}(aE:n<18446744073709551616:=by omega):pA (n:Int)=some (dM n):=by
 obtain⟨b,d,e,h1,j,k,c,bb⟩:=O' 9 n 0 [0,0,0,0,0,0,0,0,0,0] rfl (by rw[I5];omega) rfl;rw[pA];have f:td ((n:Int),0,[0,0,0,0,0,0,0,0,0,0])=some ((b:Int),(d:Int),e):=h1;rw[f];simp only[aT,ao];have i:dY 0 ((d+1:Nat):Int) 10=true:=jR (a:=0) (by omega) (by omega);rw[ae (aQ (by omega)),ae (by simp[c];omega),bH,ae i,ae (by simp[w0,c];omega),bc,bc,w4];have:b%256=b:=ow (by omega);rw[this];simp only[rH,fL];rw[GH _ _ _ (by omega),CI];have g:strOf [(b:Int)]=[UInt8.ofNat b]:=rfl;rw[g,bb];rfl
theorem LU:∀(f n:Nat) (b:aq),n<128^f->n<18446744073709551616->b.length+f<=1000->∃(c:Nat) (a:aq),vc ((n:Int),b)=some ((c:Int),a)/\c<128/\a.length<=1000/\strOf a++[UInt8.ofNat c]=strOf b++dM n
 |f,n,b,aE,m,o=>by
  rw[vc];by_cases hs:n<128
  . rw[cp];exact⟨n,b,rfl,hs,by omega,by rw[pB hs]⟩
  . rw[bz]
    match f,aE with
    |0,aE=>simp at aE;omega
    |f+1,aE=>
     have l:b' (n:Int) 128=((n%128:Nat):Int):=Az (b:=128);have j:aM .u64 ((n%128:Nat):Int) 128=((n%128+128:Nat):Int):=sa (b:=128) (by omega);have k:fC .u64 (n:Int) 128=((n/128:Nat):Int):=by
      unfold fC;have e:(n:Int).tdiv 128=((n/128:Nat):Int):=by rw[yG (by omega)];omega
      rw[e];exact kZ
     simp only[aT,ao];rw[l,j,k,w4,ae (cS)];have aC:n/128<128^f:=(by omega);obtain⟨c,a,h1,d,g,i⟩:=LU f (n/128) (b++[(((n%128+128)%256:Nat):Int)]) aC (by omega) (by simp;omega);refine⟨c,a,h1,d,g,?_⟩;rw[i,CI,nQ hs];have:(n%128+128)%256=n%128+128:=(by omega);rw[this];have p:strOf [((n%128+128:Nat):Int)]=[UInt8.ofNat (n%128+128)]:=rfl;grind
theorem yV{n:Nat}(aE:n<18446744073709551616:=by omega):qJ (n:Int)=some (dM n):=by
 obtain⟨a,d,h1,e,f,b⟩:=LU 10 n [] (by have:=I5;rw[yD,wI];omega) aE (by simp);rw[qJ,h1];simp only[aT,ao];rw[ae (cS),w4,CI];have:a%256=a:=ow (by omega);rw[this];have c:strOf [(a:Int)]=[UInt8.ofNat a]:=rfl;rw[c,b];rfl
theorem H4:∀(f n:Nat),n<128^(f+1)->(dM n).length<=f+1
 |f,n,aE=>by
  by_cases hs:n<128
  . rw[pB hs];simp
  . rw[nQ hs]
    match f,aE with
    |0,aE=>simp at aE;omega
    |f+1,aE=>
     have:=H4 f (n/128) (by omega);simp;omega
theorem kc{n:Nat}(aE:n<18446744073709551616):(dM n).length<=10:=H4 9 n (by have:=I5;rw[yD,wI];omega)
theorem nR(n:Nat):0<(dM n).length:=by
 rw[dM];split<;>simp
theorem lg{n:Nat}(h:n<256:=by omega):(UInt8.ofNat n).toNat=n:=by simp_all
theorem Pa:∀(f i acc n:Nat) (pre a:aj),i+f=10->pre.length=i->n*2^(7*i)<18446744073709551616->(n=0->i=0)->hD (pre++(dM n++a)) f i acc=(((acc+n*2^(7*i):Nat):Int),((i+(dM n).length:Nat):Int),0)
 |0,i,acc,n,pre,a,e,c,aE,h0=>by grind
 |f+1,i,acc,n,pre,a,e,c,aE,h0=>by
  have g:i<(pre++(dM n++a)).length:=by
   have:=nR n;simp;omega
  have b:∀(x:UInt8) (r:aj),dM n=x::r->(pre++(dM n++a)).getD i 0=x:=by grind
  simp only[hD];rw[ae g];by_cases hs:n<128
  . rw[b _ _ (pB hs),lg,ak (by
     grind),a8,ak (by
     rintro ⟨h1,k⟩
     have:=h0 h1;omega),pB hs]
    simp
  . have l:i<9:=(by grind);rw[b _ _ (nQ hs),lg,a8,eT];have j:(n%128+128)%128=n%128:=(by omega);have m:n%128*2^(7*i)+n/128*2^(7*(i+1))=n*2^(7*i):=by
     rw[Sb];have h1:n/128*(2^(7*i)*128)=(n/128*128)*2^(7*i):=(by grind);rw[h1,<-gn];grind
    have d:n/128*2^(7*(i+1))<18446744073709551616:=(by omega);have:=Pa f (i+1) (acc+n%128*2^(7*i)) (n/128) (pre++[UInt8.ofNat (n%128+128)]) a (by omega) (by simp[c]) d (by omega);rw[j];have es:pre++(dM n++a)=pre++[UInt8.ofNat (n%128+128)]++(dM (n/128)++a):=by rw[nQ hs];simp
    grind
theorem Ir{n:Nat}(aE:n<18446744073709551616)(a:aj):hD (dM n++a) 10 0 0=((n:Int),((dM n).length:Int),0):=by
 have:=Pa 10 0 0 n [] a rfl rfl (by simpa using aE) (λ_=>rfl);grind
def dg(p:aj):aj:=dM p.length++p
theorem gf{n:Nat}(h:n<=9223372036854775807:=by omega):decide (n<=eC)=true:=by
 unfold eC;simp;omega
theorem Ds(h:p.length<=1152921504606846976:=by omega):qU p=some (dg p):=by
 rw[qU,hE,tV];simp only[aT,ao];have:=kc (n:=p.length) (by omega);rw[ae (gf)];rfl
theorem Ct(h:p.length<=1152921504606846976:=by omega):qG p=some (dg p):=by
 rw[qG,hE,yV];simp only[aT,ao];have:=kc (n:=p.length) (by omega);rw[ae (gf)];rfl
def fa(id:Nat)(c:Bool)(p:aj):aj:=dM (2*id+(if c then 1 else 0))++dg p
theorem K1(h:p.length<=1152921504606846976):(dg p).length<=p.length+10:=by
 have:=kc (n:=p.length) (by omega);unfold dg;simp;omega
theorem H5{id:Nat}{c:Bool}(f:id<=4611686018427387903)(h:p.length<=1152921504606846900:=by omega):vw ((id:Int),c,p)=some (fa id c p):=by
 rw[vw];have e:gF .u64 2 (bY .u64 (id:Int))=((2*id:Nat):Int):=by rw[hE];exact ua (a:=2) (by omega)
 simp only[aT,ao];rw[e,Ds];have af:=K1 (p:=p) (by omega);cases c with
 |true=>
  have d:aM .u64 ((2*id:Nat):Int) 1=((2*id+1:Nat):Int):=sa (b:=1) (by omega);rw[ae rfl,d,tV];have:=kc (n:=2*id+1) (by omega);simp only[ao];rw[ae (gf)];rfl
 |false=>
  rw[bx,tV];have:=kc (n:=2*id) (by omega);simp only[ao];rw[ae (gf)];rfl
theorem Jw{id:Nat}(e:id<=4611686018427387903)(h:p.length<=1152921504606846900):yk ((id:Int),c,p)=some (fa id c p):=by
 rw[yk];have d:bY .u64 (gF .i64 2 (id:Int))=((2*id:Nat):Int):=by
  rw[NS (by omega) (by omega)];have:(2:Int)*(id:Int)=((2*id:Nat):Int):=by omega
  rw[this];exact hE
 simp only[aT,ao];rw[d,Ct];have af:=K1 (p:=p) (by omega);cases c with
 |true=>
  have a:aM .u64 ((2*id:Nat):Int) 1=((2*id+1:Nat):Int):=sa (b:=1) (by omega);rw[ae rfl,a,yV];have:=kc (n:=2*id+1) (by omega);simp only[ao];rw[ae (gf)];rfl
 |false=>
  rw[bx,yV];have:=kc (n:=2*id) (by omega);simp only[ao];rw[ae (gf)];rfl
theorem Jx{a:aj}(h:p.length<=100000):iE (dg p++a)=some (p,a):=by
 unfold iE dg;rw[hz,Ir (by omega)];simp only[ou,rI];grind
theorem XT{id:Nat}{a:aj}{last:Nat}{b:List cO}(h1:last<id)(q:id<=1000)(h:(fa id c p++a).length<=100000)(o:b.length<=90000):
 gg ((last:Int),fa id c p++a,b)=gg ((id:Int),a,b++[⟨(id:Int),c,p⟩]):=by
 have k:p.length<=100000:=by
  have d:=h;simp only[fa,dg,cJ]at d;omega
 have i:fa id c p++a≠[]:=by
  intro e;have d:=dX List.length e;have:=nR (2*id+(if c then 1 else 0));simp only[fa,cJ,ij]at d;omega
 have aa:2*id+(if c then 1 else 0)<=2001:=by split<;>omega
 have al:hD (fa id c p++a) 10 0 0=(((2*id+(if c then 1 else 0):Nat):Int),((dM (2*id+(if c then 1 else 0))).length:Int),0):=by
  unfold fa;rw[hz];exact Ir (by omega) _
 have aE:=lU al (by unfold fa;simp);have f:(fa id c p++a).drop (dM (2*id+(if c then 1 else 0))).length=dg p++a:=by
  unfold fa;grind
 rw[f]at aE;have g:(2*id+(if c then 1 else 0))/2=id:=by split<;>omega
 have m:decide (b' ((2*id+(if c then 1 else 0):Nat):Int) 2=1)=c:=by
  have:b' ((2*id+(if c then 1 else 0):Nat):Int) 2=(((2*id+(if c then 1 else 0))%2:Nat):Int):=Az (b:=2);grind
 rw[gg,ae (by simp only[qe,yo];exact i),aE];simp only[aT,ao];rw[uj (by omega),g,cp,m,lV (by grind),Jx k];simp only[ao];have n:bY .i64 (id:Int)=(id:Int):=jI;have j:¬((!(dT (some (p,a))).2.2)=true):=by simp[dT]
 rw[ak j,n];have l:room 32 (b++[(⟨(id:Int),c,(dT (some (p,a))).1⟩:cO)]).length=true:=cS;rw[ae l];rfl
inductive bK:I->Prop
 |mk (v:I) (hs:v.bn.length<=reachBytes) (h1:v.aw.length<=reachBytes) (agj:v.ai.length<=reachBytes) (ahy:v.Rest.length<=reachBytes)
  (hk:∀x,x∈v.aw->bK x) (BC:∀x,x∈v.ai->bK x) (ahG:∀x,x∈v.Rest->x.Data.length<=reachBytes)
  (c9: -9223372036854775808<=v.Kind/\v.Kind<=9223372036854775807) (ahM: -9223372036854775808<=v.bf/\v.bf<=9223372036854775807) (ahN: -9223372036854775808<=v.ad/\v.ad<=9223372036854775807)
  (ahO:∀x,x∈v.Rest->-9223372036854775808<=x.ad/\x.ad<=9223372036854775807):bK v
theorem dB{n:Nat}(h:n<=reachBytes):n<9223372036854775807:=Nat.lt_of_le_of_lt h (by decide)
theorem scan{d:Type}(L:Nat->Option d)(n:Nat)(p:Nat->Bool)(a b:d)(l:∀i,i<n->L i=if p i then L (i+1)else some a)(e:L n=some b):
 (L 0=some b/\∀j,j<n->p j=true)\/(L 0=some a/\∃j,j<n/\p j=false):=by
 have key:∀k i,i+k=n->(L i=some b/\∀j,i<=j->j<n->p j=true)\/(L i=some a/\∃j,j<n/\p j=false):=by
  intro k;induction k with
  |zero=> intro i g; have:i = n:= by omega
          subst this;exact .inl ⟨e,λj h1 c=>by omega⟩
  |succ k ih=>grind
 rcases key n 0 (by omega)with⟨h1,c⟩|h
 . exact .inl ⟨h1,λj f=>c j (hA _) f⟩
 . exact .inr h
theorem du{l:List α}{i:Nat}(h:i<l.length)(d:α):l.getD i d=l[i]:=by grind
theorem wk{b:List α}{p:Nat->Bool}(af:a.length=b.length)(e:∀(i:Nat) (h1:i<a.length) (c:i<b.length),p i=true↔a[i]=b[i]):
 (∀j,j<a.length->p j=true)↔a=b:=by
 constructor
 . intro h;exact BV af λi h1 c=>(e i h1 c).1 (h i h1)
 . rintro rfl j d
   exact(e j d d).2 rfl
def eY{α:Type}(o:Option Bool)(a b:α):Prop:=∃r,o=some r/\(r=true↔a=b)
theorem eY.FO{b:List α}{p:Nat->Bool}(af:a.length=b.length)(e:∀(i:Nat) (h1:i<a.length) (c:i<b.length),p i=true↔a[i]=b[i]){o:Option Bool}
 (h:(o=some true/\∀j,j<a.length->p j=true)\/(o=some false/\∃j,j<a.length/\p j=false)):eY o a b:=by
 rcases h with⟨h1,c⟩|⟨h1,j,c,f⟩
 . exact⟨true,h1,by simp[(wk af e).1 c]⟩
 . refine⟨false,h1,?_⟩;constructor
   . intro h;cases h
   . intro h;have:=(wk af e).2 h j c;rw[f]at this;cases this
theorem Pb{a b:bX}:(hR a.ad b.ad&&(jC a.Data b.Data&&true))=true↔a=b:=by cases a;cases b;simp[hR,jC]
theorem Pc{a b:c4}:(hR a.ad b.ad&&(jC a.Name b.Name&&true))=true↔a=b:=by
 cases a;cases b;simp[hR,jC]
theorem acP{b:List α}(h:¬a.length=b.length):a≠b:=λe=>h (dX List.length e)
theorem vN{b:List α}(h:¬a.length=b.length):eY (some false) a b:=⟨false,rfl,by simp[acP h]⟩
theorem Pd{a b:List bX}(d:a.length<=reachBytes):eY (yL (a,b)) a b:=by
 rw[yL];by_cases af:a.length=b.length
 . rw[cp];have f:=dB d;have:=scan (λi=>pt (a,b,(a.length:Int),(i:Int))) a.length (λi=>hR (a.getD i b5).ad (b.getD i b5).ad&&(jC (a.getD i b5).Data (b.getD i b5).Data&&true)) (.inl false) (.inr ())
    (λi e=>by
     rw[pt,bz,ae (aQ e)];simp only[aT,ao,bc];rw[ae (aQ (by omega)),bH]
     grind)
    (by rw[pt,bx])
   have h0:pt (a,b,(a.length:Int),((0:Nat):Int))=pt (a,b,(a.length:Int),0):=rfl;simp only[h0]at this;refine eY.FO (p:=λi=>hR (a.getD i b5).ad (b.getD i b5).ad&&(jC (a.getD i b5).Data (b.getD i b5).Data&&true)) af (λi h1 c=>by simp only[du h1,du c];exact Pb) ?_;grind
 . rw[bz];exact vN af
theorem acQ{a b:List c4}(d:a.length<=reachBytes):eY (Ca (a,b)) a b:=by
 rw[Ca];by_cases af:a.length=b.length
 . rw[cp];have f:=dB d;have:=scan (λi=>pr (a,b,(a.length:Int),(i:Int))) a.length (λi=>hR (a.getD i dN).ad (b.getD i dN).ad&&(jC (a.getD i dN).Name (b.getD i dN).Name&&true)) (.inl false) (.inr ())
    (λi e=>by
     rw[pr,bz,ae (aQ e)];simp only[aT,ao,bc];rw[ae (aQ (by omega)),bH]
     grind)
    (by rw[pr,bx])
   have h0:pr (a,b,(a.length:Int),((0:Nat):Int))=pr (a,b,(a.length:Int),0):=rfl;simp only[h0]at this;refine eY.FO (p:=λi=>hR (a.getD i dN).ad (b.getD i dN).ad&&(jC (a.getD i dN).Name (b.getD i dN).Name&&true)) af (λi h1 c=>by simp only[du h1,du c];exact Pc) ?_;grind
 . rw[bz];exact vN af
theorem Db(v:I):(⟨v.Kind,v.bL,v.bf,v.bn,v.ad,v.aw,v.ai,v.Rest⟩:I)=v:=by cases v;rfl
theorem LV{a b:I}:a=b↔a.Kind=b.Kind/\a.bL=b.bL/\a.bf=b.bf/\a.bn=b.bn/\a.ad=b.ad/\a.Rest=b.Rest/\a.aw=b.aw/\a.ai=b.ai:=by
 constructor
 . grind
 . cases a;cases b;grind
section
variable {f:I×I->Option Bool}
theorem Ht {a b:List I}(af:a.length=b.length)(ih:∀x,x∈a->∀y,eY (f (x,y)) x y)(L:Nat->Option (Bool ⊕ Unit))
 (l:∀i,i<a.length->L i=(f (I.eta (a.getD i au),I.eta (b.getD i au))>>=λr=>if !r then some (.inl false)else L (i+1)))
 (j:L a.length=some (.inr ())):eY (L 0>>=λo=>match o with|.inl x=>some x|.inr _=>some true) a b:=by
 have d:∀(i:Nat) (h1:i<a.length) (c:i<b.length),eY (f (I.eta (a.getD i au),I.eta (b.getD i au))) a[i] b[i]:=by
  intro i h1 c;rw[du h1,du c,I.aU,I.aU];grind
 have:=scan L a.length (λi=>(f (I.eta (a.getD i au),I.eta (b.getD i au))).getD false) (.inl false) (.inr ())
  (λi k=>by
   obtain⟨r,h1,c⟩:=d i k (by omega)
   grind) j
 refine eY.FO af (λi h1 c=>?_) ?_ (p:=λi=>(f (I.eta (a.getD i au),I.eta (b.getD i au))).getD false)
 . obtain⟨r,e,g⟩:=d i h1 c;rw[e];exact g
 . rcases this with⟨h1,c⟩|⟨h1,c⟩
   . exact .inl ⟨by rw[h1];rfl,c⟩
   . exact .inr ⟨by rw[h1];rfl,c⟩
end
theorem MY{a b:List I}(c:a.length<=reachBytes)(ih:∀x,x∈a->∀y,eY (px (x,y)) x y):eY (vC (a,b)) a b:=by
 rw[vC];by_cases af:a.length=b.length
 . rw[cp];have e:=dB c;exact Ht af ih (λi=>vA (b,a,(a.length:Int),(i:Int)))
    (λi d=>by
     rw[vA,bz,ae (aQ d),ae (aQ (by omega)),bH]
     rfl)
    (by rw[vA,bx])
 . rw[bz];exact vN af
theorem MZ{a b:List I}(c:a.length<=reachBytes)(ih:∀x,x∈a->∀y,eY (lN (x,y)) x y):eY (yJ (a,b)) a b:=by
 rw[yJ];by_cases af:a.length=b.length
 . rw[cp];have e:=dB c;exact Ht af ih (λi=>vB (b,a,(a.length:Int),(i:Int)))
    (λi d=>by
     rw[vB,bz,ae (aQ d),ae (aQ (by omega)),bH]
     rfl)
    (by rw[vB,bx])
 . rw[bz];exact vN af
theorem M0{a b:List I}(c:a.length<=reachBytes)(ih:∀x,x∈a->∀y,eY (jM (x,y)) x y):eY (yN (a,b)) a b:=by
 rw[yN];by_cases af:a.length=b.length
 . rw[cp];have e:=dB c;exact Ht af ih (λi=>vE (a,b,(i:Int)))
    (λi d=>by
     rw[vE,bz,ae (aQ d),ae (aQ (by omega)),bH]
     rfl)
    (by rw[vE,bx])
 . rw[bz];exact vN af
theorem three{a b:I}{bb:Bool}(jW:bb=true↔a.Kind=b.Kind/\a.bL=b.bL/\a.bf=b.bf/\a.bn=b.bn/\a.ad=b.ad){y z:Option Bool}(l:eY x a.Rest b.Rest)(o:eY y a.aw b.aw)(s:eY z a.ai b.ai):
 eY (some bb>>=λt37=>(if t37 then x else some false)>>=λr=>some (bif t37 then r else false)>>=λt44=>(if t44 then y else some false)>>=λv=>some (bif t44 then v else false)>>=λt51=>(if t51 then z else some false)>>=λw=>some (bif t51 then w else false)) a b:=by
 obtain⟨j,m,n⟩:=l;obtain⟨k,p,q⟩:=o;obtain⟨A,t,u⟩:=s;subst m;subst p;subst t;refine⟨bb&&j&&k&&A,?_,?_⟩
 . cases bb<;>cases j<;>cases k<;>rfl
 . rw[LV];simp only[cd];rw[jW,n,q,u];constructor
   . rintro ⟨⟨⟨⟨h1,c,d,e,bb⟩,f⟩,g⟩,i⟩;exact⟨h1,c,d,e,bb,f,g,i⟩
   . rintro ⟨h1,c,d,e,bb,f,g,i⟩;exact⟨⟨⟨⟨h1,c,d,e,bb⟩,f⟩,g⟩,i⟩
theorem RL{a b:I}:(bif bif bif bif decide (a.Kind=b.Kind)then fB a.bL b.bL else false then decide (a.bf=b.bf)else false then decide (a.bn=b.bn)else false then decide (a.ad=b.ad)else false)=true↔a.Kind=b.Kind/\a.bL=b.bL/\a.bf=b.bf/\a.bn=b.bn/\a.ad=b.ad:=by
 simp only[yv,fB];grind
theorem K3{a:I}(h:bK a):∀b,eY (px (a,b)) a b:=by
 induction h with
 |mk a hs h1 c d i g j c9 k l m f e=>
  intro b;rw[px];exact three RL (Pd d) (MY h1 f) (MY c e)
theorem DG{a:I}(h:bK a):∀b,eY (lN (a,b)) a b:=by
 induction h with
 |mk a hs h1 c d i g j c9 k l m f e=>
  intro b;rw[lN];exact three RL (Pd d) (MZ h1 f) (MZ c e)
theorem Ea{a:I}(h:bK a):∀b,eY (jM (a,b)) a b:=by
 induction h with
 |mk a hs h1 c k w v x c9 A B C q p=>
  intro b;rw[jM];by_cases bb:a.Kind=b.Kind/\a.bL=b.bL/\a.bf=b.bf/\a.bn=b.bn/\a.ad=b.ad/\a.Rest.length=b.Rest.length
  . obtain⟨aI,g,dh,gx,jW,oU⟩:=bb;rw[ak (by simp[aI,g,dh,gx,jW,oU,fB])];have y:=dB k;have f:=scan (λi=>oX ((i:Int),a,b)) a.Rest.length (λi=>hR (a.Rest.getD i b5).ad (b.Rest.getD i b5).ad&&(jC (a.Rest.getD i b5).Data (b.Rest.getD i b5).Data&&true)) (.inl false) (.inr (a,b))
     (λi l=>by
      rw[oX,bz,ae (aQ l)];simp only[aT,ao,bc,I.aU];rw[ae (aQ (by omega)),bH]
      grind)
     (by rw[oX,bx,I.aU,I.aU])
    have h0:oX (((0:Nat):Int),a,b)=oX (0,a,b):=rfl;simp only[h0]at f;rw[Db,Db];have m:∀(i:Nat) (h1:i<a.Rest.length) (c:i<b.Rest.length),(hR (a.Rest.getD i b5).ad (b.Rest.getD i b5).ad&&(jC (a.Rest.getD i b5).Data (b.Rest.getD i b5).Data&&true))=true↔a.Rest[i]=b.Rest[i]:=λi h1 c=>by rw[du h1,du c];exact Pb
    rcases f with⟨d,e⟩|⟨d,j,e,u⟩
    . have z:=(wk oU m).1 e;rw[d];obtain⟨kq,r,s⟩:=M0 (a:=a.aw) (b:=b.aw) h1 q;obtain⟨t,n,o⟩:=M0 (a:=a.ai) (b:=b.ai) c p;simp only[aT,ao];rw[r,n];refine⟨kq&&t,by cases kq<;>rfl,?_⟩;rw[LV,cd,s,o];grind
    . rw[d];refine⟨false,rfl,?_⟩;grind
  . rw[ae]
    . refine⟨false,rfl,?_⟩;grind
    . simp only[yv,fB];grind
def mM(c:Int):Bool:=decide (c=95\/(97<=c/\c<=122)\/(65<=c/\c<=90))
def Aq(c:Int):Bool:=decide (48<=c/\c<=57)
theorem Dc(c:Int):zp c=some (mM c):=by
 rw[zp];unfold mM;grind
theorem LW(c:Int):yb c=some (mM c):=by
 rw[yb];unfold mM;grind
theorem abo(c:Int):C7 c=some (Aq c):=by
 rw[C7];unfold Aq;grind
theorem abp(c:Int):B5 c=some (Aq c):=by
 rw[B5];unfold Aq;grind
theorem Mc{f:Type}(A B cA:Bool)(a b:Option f)(c:cA=true):
 (some A>>=λd=>some (!d)>>=λt26=>if(cA||(!t26)) then(if t26 then some B else some false)>>=λe=>if(bif t26 then(!e)else false) then a else b else none)=if(A||B) then b else a:=by
 subst c;cases A<;>cases B<;>rfl
theorem M1(s:aj):∃r,kQ s=some r/\sL s=some r:=by
 rw[kQ,sL];simp only[aT,ao];by_cases d:s=[]\/24<s.length
 . have ht:(bif decide (s=[])then true else decide (24<(s.length:Int)))=true:=(by grind);rw[ht];simp_all
 . have f:s≠[]:=λh=>d (.inl h);have l:s.length<=24:=(by omega);have ht:(bif decide (s=[])then true else decide (24<(s.length:Int)))=false:=(by grind);have g:0<s.length:=uh.2 f;have e:aH 0 s.length=true:=aQ (k:=0) g;simp only[ht,e,B0,bS,eN,ao,Dc,LW,dW];cases af:mM (fz s 0)with
   |false=>exact⟨false,rfl,rfl⟩
   |true=>
    rw[bx,bx];let p:Nat->Bool:=λi=>mM (fz s i)||Aq (fz s i);have s1:=scan (λi=>k' (s,(s.length:Int),(i:Int))) s.length p (.inl false) (.inr ())
     (λi a=>by
      rw[k',bz,ae (aQ a),Dc,abo,bH]
      exact Mc _ _ _ _ _ (aQ a))
     (by rw[k',bx])
    have b:=scan (λi=>o8 (s,(i:Int))) s.length p (.inl false) (.inr ())
     (λi a=>by
      rw[o8,bz,ae (aQ a),LW,abp,bH]
      exact Mc _ _ _ _ _ (aQ a))
     (by rw[o8,bx])
    have aI:k' (s,(s.length:Int),((0:Nat):Int))=k' (s,(s.length:Int),0):=rfl;have c:o8 (s,((0:Nat):Int))=o8 (s,0):=rfl;simp only[aI,c]at s1 b;rcases s1 with⟨a1,a2⟩|⟨a1,j,a2,a3⟩<;>rcases b with⟨b1,b2⟩|⟨b1,k,b2,b3⟩
    . simp_all
    . grind
    . grind
    simp_all
def nm(s:aj):Bool:=(kQ s).getD false
theorem tJ(s:aj):kQ s=some (nm s):=by
 obtain⟨r,h1,_⟩:=M1 s;unfold nm;rw[h1];rfl
theorem Ay(s:aj):sL s=some (nm s):=by
 obtain⟨r,h1,a⟩:=M1 s;unfold nm;rw[h1,a];rfl
theorem Fp{s:aj}(h:nm s=true):s≠[]:=by
 rintro rfl
 unfold nm at h;rw[kQ]at h;simp at h
def kj(l:aq)(names:List aj)(i:Nat):Bool:=
 decide (1<=l.getD i 0)&&decide (l.getD i 0<=1000)&&(decide (i=0)||decide (l.getD (i-1) 0<l.getD i 0))&&nm (names.getD i []) && !((names.take i).contains (names.getD i []))
def kX(l:List aj):List aj:=l.foldl iW []
theorem abq(ks:List aj)(a s:aj):jh (iW ks a) s=(jh ks s||decide (a=s)):=by
 unfold iW;split
 . grind
 . simp[jh,List.any_append]
theorem K4(l:List aj)(s:aj):jh (kX l) s=l.contains s:=by
 have key:∀(l:List aj) (ks:List aj),jh (l.foldl iW ks) s=(jh ks s||l.contains s):=by
  intro l;induction l with
  |nil=>intro ks;simp
  |cons a r ih=>
   intro ks;rw[List.foldl_cons,ih,abq,Bool.or_assoc];grind
 have:=key l [];simpa[kX,jh]using this
theorem K5{l:List aj}{i:Nat}(h:i<l.length):iW (kX (l.take i)) (l.getD i [])=kX (l.take (i+1)):=by
 unfold kX;rw[FG,List.foldl_append,eI h,du h];rfl
theorem abX{g:Type}(A a b C cA H N:Bool)(c d:Option g)(e:cA=true)(f:a=true->b=true):
 (if(b||(!((!A)&&a))) then
  some (bif A then true else bif a then C else false)>>=λt34=>
  if(cA||(!(!t34))) then
   some (bif t34 then true else H)>>=λt42=>
   if(cA||(!(!t42))) then
    (if !t42 then some N else some false)>>=λr=>
    if(bif t42 then true else(!r)) then c else(if cA then d else none)
   else none
  else none
 else none)=if !A&&(!a || !C)&&N && !H then d else c:=by
 subst e;cases a with
 |true=>have:=f rfl;subst this;cases A<;>cases C<;>cases H<;>cases N<;>rfl
 |false=>cases A<;>cases b<;>cases C<;>cases H<;>cases N<;>rfl
theorem OK{l:aq}(af:l.length<=reachBytes)(aE:names.length=l.length):∃r,y' (l,names)=some r/\(r=true↔(∀i,i<l.length->kj l names i=true)/\l.length<=16):=by
 rw[y'];have m:=dB af;have b:=scan (λi=>p2 (l,names,l,(l.length:Int),(i:Int),kX (names.take i))) l.length (kj l names) (.inl false) (.inr l)
  (λi d=>by
   have a:i<names.length:=(by omega);rw[p2,bz,ae (aQ d)];simp only[bc];rw[tJ,bH,K5 a,K4];have f:0<i->dj .i64 (i:Int) 1=((i-1:Nat):Int):=by intro h;rw[hP];omega
   refine(abX (bif decide (l.getD i 0<1)then true else decide (1000<l.getD i 0)) (decide ((0:Int)<(i:Int))) (aH (dj .i64 (i:Int) 1) l.length) (decide (l.getD i 0<=l.getD (dj .i64 (i:Int) 1).toNat 0)) (aH (i:Int) names.length) ((names.take i).contains (names.getD i [])) (nm (names.getD i [])) _ _ (aQ a) (λg=>?_)).trans ?_
   . have e:0<i:=by simp at g;omega
     rw[f e];exact aQ (by omega)
   . have:(!(bif decide (l.getD i 0<1)then true else decide (1000<l.getD i 0))&&(!(decide ((0:Int)<(i:Int))) || !(decide (l.getD i 0<=l.getD (dj .i64 (i:Int) 1).toNat 0)))&&nm (names.getD i []) && !((names.take i).contains (names.getD i [])))=kj l names i:=by
      unfold kj;grind
     rw[this])
  (by rw[p2,bx])
 have cW:p2 (l,names,l,(l.length:Int),((0:Nat):Int),kX (names.take 0))=p2 (l,names,l,(l.length:Int),0,[]):=rfl;simp only[cW]at b;rcases b with⟨h1,c⟩|⟨h1,j,c,k⟩
 . rw[h1];refine⟨decide ((l.length:Int)<=16),rfl,?_⟩;grind
 . rw[h1];refine⟨false,rfl,?_⟩;grind
theorem Cr{k n:Nat}(a:k<=16)(h:n*24<=reachBytes:=by simp;omega):room k n=true:=by
 unfold room kf eH;unfold reachBytes at h;simp only[cd,dw];have:(2*n+192)*k<=(2*n+192)*16:=Nat.mul_le_mul_left _ a;omega
theorem wu(l:List α)(i:Nat)(d:α)(h:i<l.length):l.take i++[l.getD i d]=l.take (i+1):=by simp_all
theorem ia{a:Type}(f:α->a)(l:List α)(i:Nat)(d:α)(e:a)(h:i<l.length):(l.map f).getD i e=f (l.getD i d):=by grind
theorem p4{l:List aj}{i:Nat}{s:aj}(b:i<=l.length:=by simp;omega):(l.take i).contains s=true↔∃k,k<i/\l.getD k []=s:=by
 rw[List.contains_iff_mem];constructor
 . intro h;obtain⟨k,a,he⟩:=e5 h;rw[ox]at a;refine⟨k,by omega,?_⟩;grind
 . rintro ⟨k,a,he⟩
   rw[<-he,du (by omega)];have:(l.take i)[k]'(by rw[ox];omega)=l[k]:=List.getElem_take;grind
def lG(l:aq)(i:Nat):Int:=if i=0 then 0 else l.getD (i-1) 0
theorem M3{l:aq}{i:Nat}(e:i<l.length)(aE:names.length=l.length):
 kj l names i=(decide (lG l i<l.getD i 0)&&decide (1<=l.getD i 0)&&decide (l.getD i 0<=1000)&&nm (names.getD i []) && !((names.take i).contains (names.getD i []))):=by
 unfold kj lG;generalize l.getD i 0=x;generalize l.getD (i-1) 0=y;generalize nm (names.getD i [])=a;generalize (names.take i).contains (names.getD i [])=b;by_cases h0:i=0
 . subst h0;by_cases h1:1<=x
   . have:decide ((0:Int)<x)=true:=by simp;omega
     simp[h1,this]
   . simp[h1]
 . simp only[h0,b7,di,Bool.false_or];by_cases h1:1<=x<;>by_cases c:x<=1000<;>by_cases d:y<x<;>simp[h1,c,d]
theorem K6(l:List c4)(af:l.length*24<=reachBytes):∀(k i:Nat),i+k=l.length->rr (l,l,(l.length:Int),(i:Int),(l.map (·.ad)).take i,(l.map (·.Name)).take i)=some (l,l.map (·.ad),l.map (·.Name))
 |0,i,h=>by
  have:i=l.length:=by omega
  subst this;rw[rr,bx];rw[oq (by simp),oq (by simp)]
 |k+1,i,h=>by
  have b:l.length<9223372036854775807:=by unfold reachBytes at af;omega
  have a:i<l.length:=by omega
  rw[rr,bz,ae (aQ a)];simp only[aT,ao,bc];rw[<-ia (·.ad) l i dN 0 a,<-ia (·.Name) l i dN [] a,wu _ _ _ (by simpa using a),wu _ _ _ (by simpa using a)];rw[ae (Cr (by omega)),ae (Cr (by omega)),bH];exact K6 l af k (i+1) (by omega)
theorem M4{l:List c4}(af:l.length*24<=reachBytes):∃r,vn l=some r/\(r=true↔0<l.length/\(∀i,i<l.length->kj (l.map (·.ad)) (l.map (·.Name)) i=true)/\l.length<=16):=by
 have h:=K6 l af l.length 0 (by omega);have a:rr (l,l,(l.length:Int),0,[],[])=some (l,l.map (·.ad),l.map (·.Name)):=h;rw[vn,a];simp only[aT,ao];obtain⟨r,h1,b⟩:=OK (l:=l.map (·.ad)) (names:=l.map (·.Name)) (by simp;unfold reachBytes at*;omega) (by simp);rw[gH]at b;grind
theorem Si(a b:Int):zs (a,b)=some (decide (a<b)&&decide (1<=b)&&decide (b<=1000)):=by
 rw[zs];grind
theorem ZS(l:List c4)(af:l.length<=reachBytes)(i:Nat)(b:i<l.length):
 nu (l,(i:Int),0)=some (if((l.map (·.Name)).take i).contains ((l.map (·.Name)).getD i []) then .inl false else .inr (l,(i:Int))):=by
 have f:=dB af;have d:=scan (λk=>nu (l,(i:Int),(k:Int))) i (λk=>!(decide ((l.getD k dN).Name=(l.getD i dN).Name))) (.inl false) (.inr (l,(i:Int)))
  (λk c=>by
   rw[nu,bz,ae (aQ (by omega)),ae (aQ b),bH]
   grind)
  (by rw[nu,bx])
 have cW:nu (l,(i:Int),((0:Nat):Int))=nu (l,(i:Int),0):=rfl;simp only[cW]at d;rw[ia (·.Name) l i dN [] b];rcases d with⟨h1,a⟩|⟨h1,j,a,e⟩
 . rw[h1,ak];rw[p4]
   rintro ⟨k,c,he⟩
   rw[ia (·.Name) l k dN [] (by omega)]at he;have:=a k c;rw[he]at this;simp at this
 . rw[h1,ae];rw[p4];refine⟨j,a,?_⟩;rw[ia (·.Name) l j dN [] (by omega)];simpa using e
theorem abY{l:List c4}(af:l.length<=reachBytes):∃r,x7 l=some r/\(r=true↔0<l.length/\(∀i,i<l.length->kj (l.map (·.ad)) (l.map (·.Name)) i=true)/\l.length<=16):=by
 have f:=dB af;have b:=scan (λi=>o3 (l,lG (l.map (·.ad)) i,(i:Int))) l.length (kj (l.map (·.ad)) (l.map (·.Name))) (.inl false) (.inr l)
  (λi a=>by
   rw[o3,bz,ae (aQ a),Si,ZS l af i a,M3 (by simpa using a) (by simp)];simp only[aT,ao,bc];rw[<-ia (·.ad) l i dN 0 a,<-ia (·.Name) l i dN [] a,Ay];generalize (decide (lG (l.map (·.ad)) i<(l.map (·.ad)).getD i 0)&&decide (1<=(l.map (·.ad)).getD i 0)&&decide ((l.map (·.ad)).getD i 0<=1000))=q;rw[ae (by rw[aQ a];rfl)];cases q with
   |false=>rfl
   |true=>
    simp only[dn,eN,bS,ao,mS];cases nm ((l.map (·.Name)).getD i [])with
    |false=>rfl
    |true=>
     simp only[dn,dW,bV,b7,mS];cases e:((l.map (·.Name)).take i).contains ((l.map (·.Name)).getD i [])with
     |true=>simp
     |false=>
      simp only[bV,b7,eN,bS];rw[ae (aQ a),bH];have:lG (l.map (·.ad)) (i+1)=(l.getD i dN).ad:=by
       unfold lG;grind
      grind)
  (by rw[o3,bx])
 have cW:o3 (l,lG (l.map (·.ad)) 0,((0:Nat):Int))=o3 (l,0,0):=rfl;simp only[cW]at b;rw[x7];rcases b with⟨h1,c⟩|⟨h1,j,c,d⟩
 . rw[h1];refine⟨_,rfl,?_⟩;grind
 . rw[h1];refine⟨false,rfl,?_⟩;grind
theorem aar{l:List c4}(af:l.length*24<=reachBytes):∃r,vn l=some r/\x7 l=some r:=by
 obtain⟨r,h1,a⟩:=M4 af;obtain⟨q,b,c⟩:=abY (l:=l) (by unfold reachBytes at*;omega);grind
structure e3 (t:ah):Prop where
 syms:t.bj.length*24<=reachBytes
 gY:t.ag.length*24<=reachBytes
 jf:∀m,m∈t.ag->bK m.bu
theorem iv{n:Nat}(h:n*24<=reachBytes):n<=reachBytes:=by unfold reachBytes at*;omega
theorem ZT{a b:aR}:a=b↔a.ad=b.ad/\a.Name=b.Name/\a.av=b.av/\a.cf=b.cf/\a.bZ=b.bZ/\a.bu=b.bu:=by cases a;cases b;simp
theorem jz(x:aR):(⟨x.ad,x.Name,x.av,x.cf,x.bZ,I.eta x.bu⟩:aR)=x:=by cases x;simp[I.aU]
theorem RM{a b:aR}:(bif bif bif bif decide (a.ad=b.ad)then decide (a.Name=b.Name)else false then decide (a.av=b.av)else false then fB a.cf b.cf else false then fB a.bZ b.bZ else false)=true↔a.ad=b.ad/\a.Name=b.Name/\a.av=b.av/\a.cf=b.cf/\a.bZ=b.bZ:=by
 simp only[yv,fB];grind
theorem Sq{a b:aR}(f:q=true↔a.ad=b.ad/\a.Name=b.Name/\a.av=b.av/\a.cf=b.cf/\a.bZ=b.bZ)(g:eY x a.bu b.bu):
 eY (some q>>=λt37=>(if t37 then x else some false)>>=λr=>some (bif t37 then r else false)) a b:=by
 obtain⟨d,h1,e⟩:=g;subst h1;refine⟨q&&d,by cases q<;>cases d<;>rfl,?_⟩;rw[ZT,cd,f,e];constructor
 . rintro ⟨⟨a1,a2,a3,a4,a5⟩,c⟩;exact⟨a1,a2,a3,a4,a5,c⟩
 . rintro ⟨a1,a2,a3,a4,a5,c⟩;exact⟨⟨a1,a2,a3,a4,a5⟩,c⟩
theorem aas{a:aR}(h:bK a.bu)(b:aR):eY (zo (a,b)) a b:=by
 rw[zo];simp only[Db,I.aU];exact Sq RM (DG h _)
theorem aat{a:aR}(h:bK a.bu)(b:aR):eY (yP (a,b)) a b:=by
 rw[yP];simp only[Db,I.aU];exact Sq RM (Ea h _)
theorem Jy{m:Type}{g:m}{a b:List aR}(af:a.length=b.length)(ih:∀x,x∈a->∀y,eY (f (x,y)) x y)(L:Nat->Option (Bool ⊕ m))
 (q:∀i,i<a.length->L i=(f (a.getD i ay,b.getD i ay)>>=λr=>if !r then some (.inl false)else L (i+1)))
 (n:L a.length=some (.inr g)):(L 0=some (.inr g)/\a=b)\/(L 0=some (.inl false)/\a≠b):=by
 have k:∀(i:Nat) (h1:i<a.length) (c:i<b.length),eY (f (a.getD i ay,b.getD i ay)) a[i] b[i]:=by grind
 have l:∀(i:Nat) (h1:i<a.length) (c:i<b.length),(f (a.getD i ay,b.getD i ay)).getD false=true↔a[i]=b[i]:=by
  intro i h1 c;obtain⟨r,d,p⟩:=k i h1 c;grind
 have:=scan L a.length (λi=>(f (a.getD i ay,b.getD i ay)).getD false) (.inl false) (.inr g)
  (λi o=>by
   obtain⟨r,h1,c⟩:=k i o (by omega)
   grind) n
 rcases this with⟨h1,c⟩|⟨h1,j,c,d⟩
 . exact .inl ⟨h1,(wk af l).1 c⟩
 . refine .inr ⟨h1,λe=>?_⟩;have:=(wk af l).2 e j c;rw[d]at this;cases this
theorem XY{a b:List aR}(d:a.length<=reachBytes)(e:∀m,m∈a->bK m.bu):eY (B9 (a,b)) a b:=by
 rw[B9];by_cases af:a.length=b.length
 . rw[cp];have l:=dB d;have hs:=Jy (g:=()) af (f:=zo) (λx k y=>aas (e x k) y) (λi=>pk (b,a,(a.length:Int),(i:Int)))
    (λi j=>by
     rw[pk,bz,ae (aQ j)];simp only[aT,ao,bc,jz]
     rw[ae (aQ (by omega)),bH])
    (by rw[pk,bx])
   have cW:pk (b,a,(a.length:Int),((0:Nat):Int))=pk (b,a,(a.length:Int),0):=rfl;simp only[cW]at hs;rcases hs with⟨h1,c⟩|⟨h1,c⟩
   . rw[h1];exact⟨true,rfl,by simp[c]⟩
   . rw[h1];exact⟨false,rfl,by simp[c]⟩
 . rw[bz];exact vN af
theorem Md{a b:ah}:a=b↔a.Kind=b.Kind/\a.Name=b.Name/\a.bC=b.bC/\a.bG=b.bG/\a.Max=b.Max/\a.Key=b.Key/\a.aG=b.aG/\a.Open=b.Open/\a.bj=b.bj/\a.ag=b.ag:=by
 cases a;cases b;grind
theorem adF{a b:ah}:(bif bif bif bif bif bif bif decide (a.Kind=b.Kind)then decide (a.Name=b.Name)else false then decide (a.bC=b.bC)else false then decide (a.bG=b.bG)else false then decide (a.Max=b.Max)else false then decide (a.Key=b.Key)else false then decide (a.aG=b.aG)else false then fB a.Open b.Open else false)=true↔
 a.Kind=b.Kind/\a.Name=b.Name/\a.bC=b.bC/\a.bG=b.bG/\a.Max=b.Max/\a.Key=b.Key/\a.aG=b.aG/\a.Open=b.Open:=by
 simp only[yv,fB];by_cases h1:a.Kind=b.Kind<;>by_cases c:a.Name=b.Name<;>by_cases d:a.bC=b.bC<;>by_cases e:a.bG=b.bG<;>simp[h1,c,d,e];by_cases bb:a.Max=b.Max<;>by_cases f:a.Key=b.Key<;>by_cases g:a.aG=b.aG<;>simp[bb,f,g]
theorem iZ{a:ah}(h:e3 a)(b:ah):eY (h7 (a,b)) a b:=by
 rw[h7];obtain⟨d,s1,g⟩:=acQ (a:=a.bj) (b:=b.bj) (iv h.syms);obtain⟨c,e,f⟩:=XY (a:=a.ag) (b:=b.ag) (iv h.gY) h.jf;have e8:=adF (a:=a) (b:=b);generalize (bif bif bif bif bif bif bif decide (a.Kind=b.Kind)then decide (a.Name=b.Name)else false then decide (a.bC=b.bC)else false then decide (a.bG=b.bG)else false then decide (a.Max=b.Max)else false then decide (a.Key=b.Key)else false then decide (a.aG=b.aG)else false then fB a.Open b.Open else false)=q at e8⊢;simp only[aT,ao];rw[s1,e];refine⟨q&&d&&c,by cases q<;>cases d<;>cases c<;>rfl,?_⟩;rw[Md,cd,cd,e8,g,f];grind
theorem Dt(a:ah):(⟨a.Kind,a.Name,a.bC,a.bG,a.Max,a.bj,a.ag,a.Key,a.aG,a.Open⟩:ah)=a:=by cases a;rfl
theorem pM{a:ah}(h:e3 a)(b:ah):eY (Ci (a,b)) a b:=by
 rw[Ci];simp only[Dt];by_cases bb:(a.Kind=b.Kind/\a.Name=b.Name/\a.bC=b.bC/\a.bG=b.bG/\a.Max=b.Max/\a.Key=b.Key/\a.aG=b.aG/\a.Open=b.Open)/\a.bj.length=b.bj.length/\a.ag.length=b.ag.length
 . obtain⟨⟨aI,n,dh,gx,jW,oU,Bx,e8⟩,e,ES⟩:=bb;rw[ak (by simp[aI,n,dh,gx,jW,oU,Bx,e8,e,ES,fB])];have A:=dB (iv h.syms);have B:=dB (iv h.gY);have m:=scan (λi=>oZ ((i:Int),a,b)) a.bj.length (λi=>hR (a.bj.getD i dN).ad (b.bj.getD i dN).ad&&(jC (a.bj.getD i dN).Name (b.bj.getD i dN).Name&&true)) (.inl false) (.inr (a,b))
    (λi p=>by
     rw[oZ,bz,ae (aQ p)];simp only[aT,ao,bc];rw[ae (aQ (by omega)),bH]
     grind)
    (by rw[oZ,bx])
   have h0:oZ (((0:Nat):Int),a,b)=oZ (0,a,b):=rfl;simp only[h0]at m;have q:∀(i:Nat) (h1:i<a.bj.length) (l:i<b.bj.length),(hR (a.bj.getD i dN).ad (b.bj.getD i dN).ad&&(jC (a.bj.getD i dN).Name (b.bj.getD i dN).Name&&true))=true↔a.bj[i]=b.bj[i]:=λi h1 l=>by rw[du h1,du l];exact Pc
   rcases m with⟨c,k⟩|⟨c,j,k,z⟩
   . have C:=(wk e q).1 k;rw[c];simp only[aT,ao];have hs:=Jy (g:=()) ES (f:=yP) (λx r y=>aat (h.jf x r) y) (λi=>o0 ((i:Int),a,b))
      (λi o=>by
       rw[o0,bz,ae (aQ o)];simp only[aT,ao,bc,jz]
       rw[ae (aQ (by omega)),bH])
      (by rw[o0,bx])
     have cW:o0 (((0:Nat):Int),a,b)=o0 (0,a,b):=rfl;simp only[cW]at hs;rcases hs with⟨d,s⟩|⟨d,s⟩
     . rw[d];refine⟨true,rfl,?_⟩;rw[Md];grind
     . rw[d];refine⟨false,rfl,?_⟩;grind
   . rw[c];refine⟨false,rfl,?_⟩;grind
 . rw[ae]
   . refine⟨false,rfl,?_⟩;grind
   . simp only[yv,fB];by_cases t:a.Kind=b.Kind<;>by_cases u:a.Name=b.Name<;>by_cases v:a.bC=b.bC<;>by_cases w:a.bG=b.bG<;>simp[t,u,v,w];grind
def pR(v:I):Bool:=(lN (v,au)).getD false
theorem abZ(h:bK v):lN (v,au)=some (pR v):=by
 obtain⟨r,h1,a⟩:=DG h au;unfold pR;rw[h1];rfl
theorem ab0(h:bK v):jM (v,au)=some (pR v):=by
 obtain⟨r,h1,b⟩:=DG h au;obtain⟨q,a,c⟩:=Ea h au;unfold pR;rw[h1,a];grind
theorem abr(h:bK v):CE v=some (pR v):=by
 rw[CE,I.aU];have:=abZ h;unfold au at this;grind
def mm(a:Bool)(m:aR):Bool:=(a&&(m.cf||m.bZ))||(m.cf&&m.bZ)||(!m.bZ && !pR m.bu)
theorem bg{l:List α}{i:Nat}(h:i<l.length)(d:α):l.getD i d∈l:=by grind
theorem Kh(h:e3 t):∃r,tO t=some r/\(r=true↔(∀i,i<t.ag.length->mm (decide (t.Kind=6)) (t.ag.getD i ay)=false)/\(t.Kind=5\/0<t.ag.length)/\(∀i,i<t.ag.length->kj (t.ag.map (·.ad)) (t.ag.map (·.Name)) i=true)/\t.ag.length<=16):=by
 have n:t.ag.length<9223372036854775807:=dB (iv h.gY);have c:=scan (λi=>pW (t.ag,(t.ag.length:Int),(i:Int),t,(t.ag.map (·.ad)).take i,(t.ag.map (·.Name)).take i)) t.ag.length (λi=>!(mm (decide (t.Kind=6)) (t.ag.getD i ay))) (.inl false) (.inr (t,t.ag.map (·.ad),t.ag.map (·.Name)))
  (λi a=>by
   have k:=abr (h.jf _ (bg a ay));rw[pW,bz,ae (aQ a)];simp only[aT,ao,bc,I.aU];rw[<-ia (·.ad) t.ag i ay 0 a,<-ia (·.Name) t.ag i ay [] a,wu _ _ _ (by simpa using a),wu _ _ _ (by simpa using a)];have f:((t.ag.map (·.ad)).take (i+1)).length*24<=reachBytes:=by
    refine g' (e2 _ ?_) h.gY;simp;omega
   have g:((t.ag.map (·.Name)).take (i+1)).length*24<=reachBytes:=(by grind);rw[ae (Cr (by omega) f),ae (Cr (by omega) g),bH,k];unfold mm
   grind)
  (by
   rw[pW,bx]
   rw[oq (by simp),oq (by simp)])
 have cW:pW (t.ag,(t.ag.length:Int),((0:Nat):Int),t,(t.ag.map (·.ad)).take 0,(t.ag.map (·.Name)).take 0)=pW (t.ag,(t.ag.length:Int),0,t,[],[]):=rfl;simp only[cW]at c;rw[tO];obtain⟨r,h1,e⟩:=OK (l:=t.ag.map (·.ad)) (names:=t.ag.map (·.Name)) (by simpa using iv h.gY) (by simp);rw[gH]at e;rcases c with⟨b,d⟩|⟨b,j,d,m⟩
 . rw[b];simp only[aT,ao];rw[h1];refine⟨(bif decide (t.Kind=5)then true else decide (0<((t.ag.map (·.ad)).length:Int)))&&r,?_,?_⟩
   . grind
   grind
 grind
theorem ZU(l:List aR)(record:Bool)(af:l.length<=reachBytes)(i:Nat)(e:i<l.length):
 nS (l,record,(i:Int),0,l.getD i ay)=some (if((l.map (·.Name)).take i).contains ((l.map (·.Name)).getD i []) then .inl false else .inr (l,record,(i:Int),l.getD i ay)):=by
 have f:=dB af;have c:=scan (λk=>nS (l,record,(i:Int),(k:Int),l.getD i ay)) i (λk=>!(decide ((l.getD k ay).Name=(l.getD i ay).Name))) (.inl false) (.inr (l,record,(i:Int),l.getD i ay))
  (λk b=>by
   rw[nS,bz,ae (aQ (by omega)),bH];simp only[bc,jz]
   grind)
  (by rw[nS,bx,jz])
 have cW:nS (l,record,(i:Int),((0:Nat):Int),l.getD i ay)=nS (l,record,(i:Int),0,l.getD i ay):=rfl;simp only[cW]at c;rw[ia (·.Name) l i ay [] e];rcases c with⟨h1,a⟩|⟨h1,j,a,d⟩
 . rw[h1,ak];rw[p4]
   rintro ⟨k,b,he⟩
   rw[ia (·.Name) l k ay [] (by omega)]at he;have:=a k b;rw[he]at this;simp at this
 . rw[h1,ae];rw[p4];refine⟨j,a,?_⟩;rw[ia (·.Name) l j ay [] (by omega)];simpa using d
theorem ZV{l:List aR}{record:Bool}(af:l.length<=reachBytes)(f:∀m,m∈l->bK m.bu):∃r,vK (l,record)=some r/\(r=true↔(∀i,i<l.length->mm (!record) (l.getD i ay)=false)/\(record=true\/0<l.length)/\(∀i,i<l.length->kj (l.map (·.ad)) (l.map (·.Name)) i=true)/\l.length<=16):=by
 have n:=dB af;have b:=scan (λi=>o4 (l,record,lG (l.map (·.ad)) i,(i:Int))) l.length (λi=>kj (l.map (·.ad)) (l.map (·.Name)) i && !(mm (!record) (l.getD i ay))) (.inl false) (.inr (l,record))
  (λi a=>by
   have c:=ab0 (f _ (bg a ay));unfold au at c;rw[o4,bz,ae (aQ a)];simp only[aT,ao,bc,I.aU,jz,M3 (l:=l.map (·.ad)) (names:=l.map (·.Name)) (i:=i) (by simpa using a) (by simp)];rw[ZU l record af i a,c];have e:lG (l.map (·.ad)) (i+1)=(l.getD i ay).ad:=by
    unfold lG;grind
   rw[<-ia (·.ad) l i ay 0 a,<-ia (·.Name) l i ay [] a,Si,Ay];simp only[ao];generalize (decide (lG (l.map (·.ad)) i<(l.map (·.ad)).getD i 0)&&decide (1<=(l.map (·.ad)).getD i 0)&&decide ((l.map (·.ad)).getD i 0<=1000))=q;cases q with
   |false=>simp
   |true=>
    simp only[dn,eN,bS,ao,mS];cases nm ((l.map (·.Name)).getD i [])with
    |false=>simp
    |true=>
     simp only[dn,mS,jj,dW];unfold mm;cases record<;>cases (l.getD i ay).cf<;>cases (l.getD i ay).bZ<;>cases pR (l.getD i ay).bu <;>
      simp only[dn,eN,Bool.or_self,Bool.and_self,Bool.or_true,B0,yy,Bool.and_false,Bool.false_and,mS,Bool.false_or,jj,ev,dW,bS,b7,bV,ao] <;>
      first
       |rfl
       |(cases k:((l.map (·.Name)).take i).contains ((l.map (·.Name)).getD i [])with
        |true=>simp
        |false=>
         simp only[bV,b7,eN,bS];rw[bH,e]
         try rfl))
  (by rw[o4,bx])
 have cW:o4 (l,record,lG (l.map (·.ad)) 0,((0:Nat):Int))=o4 (l,record,0,0):=rfl;simp only[cW]at b;rw[vK];rcases b with⟨h1,d⟩|⟨h1,j,d,g⟩
 . rw[h1];refine⟨_,rfl,?_⟩;grind
 . rw[h1];refine⟨false,rfl,?_⟩;grind
theorem LX(h:e3 t)(d:t.Kind=5\/t.Kind=6):∃r,tO t=some r/\vK (t.ag,decide (t.Kind=5))=some r:=by
 obtain⟨r,h1,a⟩:=Kh h;obtain⟨q,b,c⟩:=ZV (l:=t.ag) (record:=decide (t.Kind=5)) (iv h.gY) h.jf;have e:(!(decide (t.Kind=5)))=decide (t.Kind=6):=by grind
 grind
theorem e3.plain{k l h m kk e:Int}{n:aj}{o:Bool}(aF:S.length*24<=reachBytes)(a:Ms.length*24<=reachBytes)(c:∀x,x∈Ms->bK x.bu):e3 ⟨k,n,l,h,m,S,Ms,kk,e,o⟩:=⟨aF,a,c⟩
theorem af'{L:Int}(h:e3 (⟨1,N,L,H,M,S,Ms,K,E,c⟩:ah)):∃r,gD (⟨1,N,L,H,M,S,Ms,K,E,c⟩:ah)=some r/\hM (⟨1,N,L,H,M,S,Ms,K,E,c⟩:ah)=some r/\(r=true->N=[]):=by
 obtain⟨a,a1,a2⟩:=iZ (a:=(⟨0,N,L,H,M,S,Ms,K,E,c⟩:ah)) ⟨h.syms,h.gY,h.jf⟩ (⟨0,[],0,0,0,[],[],0,0,false⟩:ah);obtain⟨b,b1,b2⟩:=pM h (⟨1,[],0,0,0,[],[],0,0,false⟩:ah);have d:a=b:=by grind
 subst d;refine⟨a,by simp[gD,a1],by simp[hM,mC,j',b1];try (cases a<;>rfl),λe=>?_⟩;grind
theorem aga{L:Int}(h:e3 (⟨2,N,L,H,M,S,Ms,K,E,c⟩:ah)):∃r,gD (⟨2,N,L,H,M,S,Ms,K,E,c⟩:ah)=some r/\hM (⟨2,N,L,H,M,S,Ms,K,E,c⟩:ah)=some r/\(r=true->N=[]):=by
 obtain⟨a,a1,a2⟩:=iZ (a:=(⟨0,N,0,0,M,S,Ms,K,E,c⟩:ah)) ⟨h.syms,h.gY,h.jf⟩ (⟨0,[],0,0,0,[],[],0,0,false⟩:ah);obtain⟨b,b1,b2⟩:=pM h (⟨2,[],L,H,0,[],[],0,0,false⟩:ah);have d:a=b:=by grind
 subst d;refine⟨decide (L<=H)&&a,?_,?_,λe=>?_⟩
 . simp only[gD];grind
 . simp only[hM];generalize decide (L<=H)=q;simp[mC,j',b1];grind
 grind
theorem agb{L:Int}(h:e3 (⟨3,N,L,H,M,S,Ms,K,E,c⟩:ah)):∃r,gD (⟨3,N,L,H,M,S,Ms,K,E,c⟩:ah)=some r/\hM (⟨3,N,L,H,M,S,Ms,K,E,c⟩:ah)=some r/\(r=true->N=[]):=by
 obtain⟨a,a1,a2⟩:=iZ (a:=(⟨0,N,L,H,0,S,Ms,K,E,c⟩:ah)) ⟨h.syms,h.gY,h.jf⟩ (⟨0,[],0,0,0,[],[],0,0,false⟩:ah);obtain⟨b,b1,b2⟩:=pM h (⟨3,[],0,0,M,[],[],0,0,false⟩:ah);have d:a=b:=by grind
 subst d;refine⟨(bif decide (0<=M)then decide (M<=200)else false)&&a,?_,?_,λe=>?_⟩
 . simp only[gD];grind
 . simp only[hM];generalize (bif decide (0<=M)then decide (M<=200)else false)=q;simp[mC,j',b1];grind
 grind
theorem agc{L:Int}(h:e3 (⟨4,N,L,H,M,S,Ms,K,E,c⟩:ah)):∃r,gD (⟨4,N,L,H,M,S,Ms,K,E,c⟩:ah)=some r/\hM (⟨4,N,L,H,M,S,Ms,K,E,c⟩:ah)=some r/\(r=true->N≠[]):=by
 obtain⟨a,a1,a2⟩:=iZ (a:=(⟨0,[],L,H,M,[],Ms,K,E,false⟩:ah)) ⟨(by simp),h.gY,h.jf⟩ (⟨0,[],0,0,0,[],[],0,0,false⟩:ah);obtain⟨b,b1,b2⟩:=pM h (⟨4,N,0,0,0,S,[],0,0,c⟩:ah);have f:a=b:=by grind
 subst f;obtain⟨q,g,e⟩:=aar (l:=S) h.syms;refine⟨nm N&&q&&a,?_,?_,λd=>?_⟩
 . simp only[gD];simp[a1,g,tJ];grind
 . simp only[hM]
   try simp at e
   simp[mC,j',b1,e,Ay];grind
 . simp only[cd]at d;exact Fp d.1.1
theorem agd{L:Int}(h:e3 (⟨5,N,L,H,M,S,Ms,K,E,c⟩:ah)):∃r,gD (⟨5,N,L,H,M,S,Ms,K,E,c⟩:ah)=some r/\hM (⟨5,N,L,H,M,S,Ms,K,E,c⟩:ah)=some r/\(r=true->N≠[]):=by
 obtain⟨a,a1,a2⟩:=iZ (a:=(⟨0,[],L,H,M,S,[],K,E,(bif c then decide ((5:Int)=5)else false)⟩:ah)) ⟨h.syms,(by simp),(by simp)⟩ (⟨0,[],0,0,0,[],[],0,0,false⟩:ah);obtain⟨b,b1,b2⟩:=pM h (⟨5,N,0,0,0,[],Ms,0,0,false⟩:ah);have g:a=b:=by grind
 subst g;obtain⟨q,e,f⟩:=LX h (by simp);refine⟨nm N&&q&&a,?_,?_,λd=>?_⟩
 . simp only[gD]
   try simp at a1
   try simp at e
   simp[a1,e,tJ];grind
 . simp only[hM]
   try simp at f
   simp[mC,j',b1,f,Ay];grind
 . simp only[cd]at d;exact Fp d.1.1
theorem age{L:Int}(h:e3 (⟨6,N,L,H,M,S,Ms,K,E,c⟩:ah)):∃r,gD (⟨6,N,L,H,M,S,Ms,K,E,c⟩:ah)=some r/\hM (⟨6,N,L,H,M,S,Ms,K,E,c⟩:ah)=some r/\(r=true->N≠[]):=by
 obtain⟨a,a1,a2⟩:=iZ (a:=(⟨0,[],L,H,M,S,[],K,E,(bif c then decide ((6:Int)=5)else false)⟩:ah)) ⟨h.syms,(by simp),(by simp)⟩ (⟨0,[],0,0,0,[],[],0,0,false⟩:ah);obtain⟨b,b1,b2⟩:=pM h (⟨6,N,0,0,0,[],Ms,0,0,c⟩:ah);have g:a=b:=by grind
 subst g;obtain⟨q,e,f⟩:=LX h (by simp);refine⟨nm N&&q&&a,?_,?_,λd=>?_⟩
 . simp only[gD]
   try simp at a1
   try simp at e
   simp[a1,e,tJ];grind
 . simp only[hM]
   try simp at f
   simp[mC,j',b1,f,Ay];grind
 . simp only[cd]at d;exact Fp d.1.1
theorem agf{L:Int}(h:e3 (⟨7,N,L,H,M,S,Ms,K,E,c⟩:ah)):∃r,gD (⟨7,N,L,H,M,S,Ms,K,E,c⟩:ah)=some r/\hM (⟨7,N,L,H,M,S,Ms,K,E,c⟩:ah)=some r/\(r=true->N=[]):=by
 obtain⟨a,a1,a2⟩:=iZ (a:=(⟨0,N,L,H,0,S,Ms,K,0,c⟩:ah)) ⟨h.syms,h.gY,h.jf⟩ (⟨0,[],0,0,0,[],[],0,0,false⟩:ah);obtain⟨b,b1,b2⟩:=pM h (⟨7,[],0,0,M,[],[],0,E,false⟩:ah);have d:a=b:=by grind
 subst d;refine⟨(bif decide (0<=M)then decide (M<=50)else false)&&a,?_,?_,λe=>?_⟩
 . simp only[gD];grind
 . simp only[hM];generalize (bif decide (0<=M)then decide (M<=50)else false)=q;simp[mC,j',b1];grind
 grind
theorem agh{L:Int}(h:e3 (⟨8,N,L,H,M,S,Ms,K,E,c⟩:ah)):∃r,gD (⟨8,N,L,H,M,S,Ms,K,E,c⟩:ah)=some r/\hM (⟨8,N,L,H,M,S,Ms,K,E,c⟩:ah)=some r/\(r=true->N=[]):=by
 obtain⟨a,a1,a2⟩:=iZ (a:=(⟨0,N,L,H,0,S,Ms,0,0,c⟩:ah)) ⟨h.syms,h.gY,h.jf⟩ (⟨0,[],0,0,0,[],[],0,0,false⟩:ah);obtain⟨b,b1,b2⟩:=pM h (⟨8,[],0,0,M,[],[],K,E,false⟩:ah);have d:a=b:=by grind
 subst d;refine⟨(bif decide (0<=M)then decide (M<=50)else false)&&a,?_,?_,λe=>?_⟩
 . simp only[gD];grind
 . simp only[hM];generalize (bif decide (0<=M)then decide (M<=50)else false)=q;simp[mC,j',b1];grind
 grind
theorem agi{L:Int}(h:e3 (⟨9,N,L,H,M,S,Ms,K,E,c⟩:ah)):∃r,gD (⟨9,N,L,H,M,S,Ms,K,E,c⟩:ah)=some r/\hM (⟨9,N,L,H,M,S,Ms,K,E,c⟩:ah)=some r/\(r=true->N=[]):=by
 obtain⟨a,a1,a2⟩:=iZ (a:=(⟨0,N,L,H,M,S,Ms,K,0,c⟩:ah)) ⟨h.syms,h.gY,h.jf⟩ (⟨0,[],0,0,0,[],[],0,0,false⟩:ah);obtain⟨b,b1,b2⟩:=pM h (⟨9,[],0,0,0,[],[],0,E,false⟩:ah);have d:a=b:=by grind
 subst d;refine⟨a,by simp[gD,a1],by simp[hM,mC,j',b1];try (cases a<;>rfl),λe=>?_⟩;grind
def kH(k:Int):Bool:=bif bif decide (k=4)then true else decide (k=5)then true else decide (k=6)
theorem LY(h:e3 t):∃r,gD t=some r/\hM t=some r/\(r=true->1<=t.Kind/\t.Kind<=9/\kH t.Kind=!(decide (t.Name=[]))):=by
 by_cases a:1<=t.Kind/\t.Kind<=9
 . obtain⟨f,N,L,H,M,S,Ms,K,E,g⟩:=t;simp only at a;have:f=1\/f=2\/f=3\/f=4\/f=5\/f=6\/f=7\/f=8\/f=9:=(by omega);rcases this with rfl|rfl|rfl|rfl|rfl|rfl|rfl|rfl|rfl
   . obtain⟨r,h1,b,c⟩:=af' h;exact⟨r,h1,b,λd=>⟨a.1,a.2,by simp[kH,c d]⟩⟩
   . obtain⟨r,h1,b,c⟩:=aga h;exact⟨r,h1,b,λd=>⟨a.1,a.2,by simp[kH,c d]⟩⟩
   . obtain⟨r,h1,b,c⟩:=agb h;exact⟨r,h1,b,λd=>⟨a.1,a.2,by simp[kH,c d]⟩⟩
   . obtain⟨r,h1,b,c⟩:=agc h;exact⟨r,h1,b,λd=>⟨a.1,a.2,by simp[kH,c d]⟩⟩
   . obtain⟨r,h1,b,c⟩:=agd h;exact⟨r,h1,b,λd=>⟨a.1,a.2,by simp[kH,c d]⟩⟩
   . obtain⟨r,h1,b,c⟩:=age h;exact⟨r,h1,b,λd=>⟨a.1,a.2,by simp[kH,c d]⟩⟩
   . obtain⟨r,h1,b,c⟩:=agf h;exact⟨r,h1,b,λd=>⟨a.1,a.2,by simp[kH,c d]⟩⟩
   . obtain⟨r,h1,b,c⟩:=agh h;exact⟨r,h1,b,λd=>⟨a.1,a.2,by simp[kH,c d]⟩⟩
   . obtain⟨r,h1,b,c⟩:=agi h;exact⟨r,h1,b,λd=>⟨a.1,a.2,by simp[kH,c d]⟩⟩
 . refine⟨false,?_,?_,λh=>by cases h⟩
   . have e:∀k:Int,1<=k->k<=9->¬t.Kind=k:=λk h1 b e=>a (by omega);simp[gD,e 1,e 2,e 3,e 4,e 5,e 6,e 7,e 8,e 9]
   . have e:(bif decide (t.Kind<1)then true else decide (9<t.Kind))=true:=(by grind);rw[hM,e];rfl
def fj(t:ah):aq:=t.ag.map (·.av)++(if t.Kind=8 then[t.Key]else[])++(if 7<=t.Kind then[t.aG]else[])
theorem vL{k n:Nat}(a:k<=16){m:Nat}(h:m*24<=reachBytes)(aE:n<=m+2):room k n=true:=by
 unfold room kf eH;unfold reachBytes at h;simp only[cd,dw];have:(2*n+192)*k<=(2*n+192)*16:=Nat.mul_le_mul_left _ a;omega
theorem Ki(t:ah)(h:t.ag.length*24<=reachBytes):∀(k i:Nat),i+k=t.ag.length->qP (t.ag,(t.ag.length:Int),(i:Int),t,(t.ag.map (·.av)).take i)=some (t,t.ag.map (·.av))
 |0,i,a=>by rw[qP,cp,oq (by simp;omega)]
 |k+1,i,a=>by
  have b:=dB (iv h);have aC:i<t.ag.length:=by omega
  rw[qP,bz,ae (aQ aC)];simp only[aT,ao,bc];rw[<-ia (·.av) t.ag i ay 0 aC,wu _ _ _ (by simpa using aC),bH,ae (vL (m:=t.ag.length) (by omega) h (by simp;omega))];exact Ki t h k (i+1) (by omega)
theorem adh(h:t.ag.length*24<=reachBytes):CQ t=some (fj t):=by
 have h0:=Ki t h t.ag.length 0 (by omega);have a:qP (t.ag,(t.ag.length:Int),0,t,[])=some (t,t.ag.map (·.av)):=h0;rw[CQ,a];unfold fj;simp only[aT,ao];have b:room 8 (t.ag.map (·.av)++[t.Key]).length=true:=vL (m:=t.ag.length) (by omega) h (by simp);have c:room 8 (t.ag.map (·.av)++[t.Key]++[t.aG]).length=true:=vL (m:=t.ag.length) (by omega) h (by simp);grind
theorem Kj(t:ah)(h:t.ag.length*24<=reachBytes):∀(k i:Nat),i+k=t.ag.length->rm ((i:Int),t,(t.ag.map (·.av)).take i)=some (t,t.ag.map (·.av))
 |0,i,a=>by rw[rm,cp,oq (by simp;omega)]
 |k+1,i,a=>by
  have b:=dB (iv h);have aC:i<t.ag.length:=by omega
  rw[rm,bz,ae (aQ aC)];simp only[aT,ao,bc];rw[<-ia (·.av) t.ag i ay 0 aC,wu _ _ _ (by simpa using aC),bH,ae (vL (m:=t.ag.length) (by omega) h (by simp;omega))];exact Kj t h k (i+1) (by omega)
theorem adi(h:t.ag.length*24<=reachBytes)(b:t.Kind<=9):CW t=some (fj t):=by
 have h0:=Kj t h t.ag.length 0 (by omega);have a:rm (0,t,[])=some (t,t.ag.map (·.av)):=h0;rw[CW,a];unfold fj;simp only[aT,ao];have c:room 8 (t.ag.map (·.av)++[t.Key]).length=true:=vL (m:=t.ag.length) (by omega) h (by simp);have d:room 8 (t.ag.map (·.av)++[t.Key]++[t.aG]).length=true:=vL (m:=t.ag.length) (by omega) h (by simp);grind
theorem adj(k:Int):j' k=some (kH k):=rfl
def sX(k:Int):Bool:=bif decide (1<=k)then decide (k<=4)else false
def lz(n:Nat)(u:Int):Bool:=bif decide (u<0)then true else decide ((n:Int)<=u)
def rV(ts:List ah)(i:Nat):Option Int:=
 let t:=ts.getD i aN
 if !((gD t).getD false)then some 1 else if !(decide (t.Name=[]))&&((ts.map (·.Name)).take i).contains t.Name then some 1 else if(fj t).any (lz ts.length)then some 4 else if decide (t.Kind=8) && !(sX (ts.getD t.Key.toNat aN).Kind)then some 1 else none
theorem H6{i:Nat}{r:Bool}(c8:ts.getD i aN=t)(f1:gD t=some r):
 rV ts i=if !r then some 1 else if !(t.Name=[]:Bool)&&((ts.map (·.Name)).take i).contains t.Name then some 1 else if(fj t).any (lz ts.length) then some 4 else if((t.Kind=8:Bool) && !(sX (ts.getD t.Key.toNat aN).Kind)) then some 1 else none:=by
 subst c8;unfold rV;simp only[f1,lx]
theorem Me{e:Type}(L:Nat->Option e)(l:aq)(q:Int->Bool)(a b:e)(o:∀i,i<l.length->L i=if q (l.getD i 0)then some a else L (i+1))(g:L l.length=some b):
 L 0=some (if l.any q then a else b):=by
 have:=scan L l.length (λi=>!(q (l.getD i 0))) a b (λi n=>by grind) g;rcases this with⟨h1,c⟩|⟨h1,j,c,f⟩
 . rw[h1,ak];intro h;rw[wE]at h;obtain⟨x,m,k⟩:=h;obtain⟨j,d,he⟩:=e5 m;have:=c j d;rw[du d,he,k]at this;cases this
 . rw[h1,ae];rw[wE];refine⟨l.getD j 0,bg c 0,by simpa using f⟩
theorem Lb(h:t.ag.length*24<=reachBytes):(fj t).length<9223372036854775807:=by
 unfold fj reachBytes at*;grind
theorem adG{L:Nat->Option (Int ⊕ Unit)}{n:Nat}{step:Nat->Option Int}
 (h:∀i,i<n->L i=match step i with|some e=>some (.inl e)|none=>L (i+1))(he:L n=some (.inr ()))
 (j:∀i,i<n->L' i=match step i with|some e=>some (.inl e)|none=>L' (i+1))(l:L' n=some (.inr ())):∃o,L 0=some o/\L' 0=some o/\((o= .inr ()/\∀i,i<n->step i=none)\/∃i e,i<n/\step i=some e/\o= .inl e):=by
 have key:∀k i,i+k=n->∃o,L i=some o/\L' i=some o/\((o= .inr ()/\∀m,i<=m->m<n->step m=none)\/∃m e,m<n/\step m=some e/\o= .inl e):=by
  intro k;induction k with
  |zero=> intro i c; have:i = n:= by omega
          subst this;exact⟨_,he,l,.inl ⟨rfl,λm h1 q=>by omega⟩⟩
  |succ k ih=>
   intro i c;rw[h i (by omega),j i (by omega)];cases p:step i with
   |some e=>exact⟨_,rfl,rfl,.inr ⟨i,e,by omega,p,rfl⟩⟩
   |none=>
    obtain⟨o,d,f,g⟩:=ih (i+1) (by omega);grind
 obtain⟨o,d,f,g⟩:=key n 0 (by omega);refine⟨o,d,f,?_⟩;rcases g with⟨a,b⟩|h
 . exact .inl ⟨a,λi c=>b i (hA _) c⟩
 . exact .inr h
theorem OL(a:(fj t).any (lz ts.length)=false)(b:t.Kind=8):aH t.Key ts.length=true:=by
 have c:t.Key∈fj t:=by unfold fj;simp[b]
 rw[FF]at a;have:=a _ c;unfold lz at this;unfold aH;grind
theorem adH(ts:List ah)(t:ah)(i:Nat)(e:i<ts.length)(f:ts.length<9223372036854775807):
 nU ((i:Int),0,ts,t.Kind,t.Name,t.bC,t.bG,t.Max,t.bj,t.ag,t.Key,t.aG,t.Open)=some (if(kH t.Kind&&((ts.map (·.Name)).take i).contains t.Name) then .inl 1 else .inr ((i:Int),ts,t.Kind,t.Name,t.bC,t.bG,t.Max,t.bj,t.ag,t.Key,t.aG,t.Open)):=by
 have d:=scan (λk=>nU ((i:Int),(k:Int),ts,t.Kind,t.Name,t.bC,t.bG,t.Max,t.bj,t.ag,t.Key,t.aG,t.Open)) i (λk=>!(bif kH t.Kind then decide ((ts.getD k aN).Name=t.Name)else false)) (.inl 1) (.inr ((i:Int),ts,t.Kind,t.Name,t.bC,t.bG,t.Max,t.bj,t.ag,t.Key,t.aG,t.Open))
  (λk c=>by
   rw[nU,bz,adj];simp only[aT,ao];rw[ae (by rw[aQ (show k<ts.length by omega)];rfl),bH,bc]
   grind)
  (by rw[nU,bx])
 have cW:nU ((i:Int),((0:Nat):Int),ts,t.Kind,t.Name,t.bC,t.bG,t.Max,t.bj,t.ag,t.Key,t.aG,t.Open)=nU ((i:Int),0,ts,t.Kind,t.Name,t.bC,t.bG,t.Max,t.bj,t.ag,t.Key,t.aG,t.Open):=rfl;simp only[cW]at d;rcases d with⟨h1,b⟩|⟨h1,j,b,a⟩
 . rw[h1,ak];rw[cd,p4]
   rintro ⟨aE,k,c,he⟩
   rw[ia (·.Name) ts k aN [] (by omega)]at he;have:=b k c;rw[aE,he]at this;simp at this
 . rw[h1,ae];rw[cd,p4];cases aE:kH t.Kind with
   |false=>rw[aE]at a;cases a
   |true=>
    refine⟨rfl,j,b,?_⟩;rw[ia (·.Name) ts j aN [] (by omega)];rw[aE]at a;simpa using a
theorem adI(ts:List ah)(t:ah)(i:Nat)(l:aq)(af:l.length<9223372036854775807):
 rf ((i:Int),l,0,ts,t.Kind,t.Name,t.bC,t.bG,t.Max,t.bj,t.ag,t.Key,t.aG,t.Open)=some (if l.any (lz ts.length) then .inl 4 else .inr ((i:Int),ts,t.Kind,t.Name,t.bC,t.bG,t.Max,t.bj,t.ag,t.Key,t.aG,t.Open)):=
 Me (λj=>rf ((i:Int),l,(j:Int),ts,t.Kind,t.Name,t.bC,t.bG,t.Max,t.bj,t.ag,t.Key,t.aG,t.Open)) l (lz ts.length) (.inl 4) (.inr ((i:Int),ts,t.Kind,t.Name,t.bC,t.bG,t.Max,t.bj,t.ag,t.Key,t.aG,t.Open))
  (λj a=>by
   rw[rf,bz,ae (aQ a)];simp only[aT,ao];rw[ae (by rw[aQ a];rfl),bH]
   rfl)
  (by rw[rf,bx])
theorem ZW{s:aS}(hs:s.Types.length<=reachBytes)(ht:∀t,t∈s.Types->e3 t):∃e,pw s=some e/\vf s=some e/\(e=0->s.Types.length<=32/\∀i,i<s.Types.length->rV s.Types i=none)/\((s.Types.length<=32/\∀i,i<s.Types.length->rV s.Types i=none)->e=0)/\e≠12:=by
 rw[pw,vf];by_cases C:32<s.Types.length
 . exact⟨3,by rw[bz],by rw[bz],λh=>(by cases h),λh=>absurd h.1 (by omega),by decide⟩
 . rw[cp,cp];have y:s.Types.length<9223372036854775807:=(by omega);have:=adG (L:=λi=>qK (s.Types,(s.Types.length:Int),(i:Int),s.Types,kX ((s.Types.map (·.Name)).take i))) (L':=λi=>pa ((i:Int),s.Types)) (n:=s.Types.length) (step:=rV s.Types)
    (λi a=>by
     have b:=ht _ (bg a aN);obtain⟨r,f1,f2,f3⟩:=LY b;rw[qK,bz,ae (aQ a)];simp only[aT,ao,bc];generalize c8:s.Types.getD i aN=t at*;rw[H6 c8 f1,f1];simp only[ao,K4];cases r with
     |false=>rw[ae (show(bif (!false)then true else bif (!(decide (t.Name=[])))then((s.Types.map (·.Name)).take i).contains t.Name else false)=true from rfl),ae (show(!false)=true from rfl)]
     |true=>
      rw[ak (show ¬((!true)=true) by simp)];by_cases k:(!(decide (t.Name=[]))&&((s.Types.map (·.Name)).take i).contains t.Name)=true
      . grind
      . have v:¬((bif (!(decide (t.Name=[])))then((s.Types.map (·.Name)).take i).contains t.Name else false)=true):=(by grind);rw[ak (show ¬((bif (!true)then true else bif (!(decide (t.Name=[])))then((s.Types.map (·.Name)).take i).contains t.Name else false)=true)from v),ak k,adh b.gY];simp only[ao];have D:=Lb b.gY;have w:=Me (λj=>pX (s.Types,(s.Types.length:Int),(i:Int),fj t,((fj t).length:Int),(j:Int),s.Types,iW (kX ((s.Types.map (·.Name)).take i)) t.Name,t.Kind,t.Name,t.bC,t.bG,t.Max,t.bj,t.ag,t.Key,t.aG,t.Open)) (fj t) (lz s.Types.length) (.inl 4)
         (.inr (s.Types,(s.Types.length:Int),(i:Int),s.Types,iW (kX ((s.Types.map (·.Name)).take i)) t.Name,t.Kind,t.Name,t.bC,t.bG,t.Max,t.bj,t.ag,t.Key,t.aG,t.Open))
         (λj x=>by
          rw[pX,bz,ae (aQ x),bH]
          rfl)
         (by rw[pX,bx])
        have cW:pX (s.Types,(s.Types.length:Int),(i:Int),fj t,((fj t).length:Int),((0:Nat):Int),s.Types,iW (kX ((s.Types.map (·.Name)).take i)) t.Name,t.Kind,t.Name,t.bC,t.bG,t.Max,t.bj,t.ag,t.Key,t.aG,t.Open)=pX (s.Types,(s.Types.length:Int),(i:Int),fj t,((fj t).length:Int),0,s.Types,iW (kX ((s.Types.map (·.Name)).take i)) t.Name,t.Kind,t.Name,t.bC,t.bG,t.Max,t.bj,t.ag,t.Key,t.aG,t.Open):=rfl;rw[<-cW,w];cases f:(fj t).any (lz s.Types.length)with
        |true=>rfl
        |false=>
         simp only[bV,b7,ao];have z:iW (kX ((s.Types.map (·.Name)).take i)) t.Name=kX ((s.Types.map (·.Name)).take (i+1)):=by
          have h1:=K5 (l:=s.Types.map (·.Name)) (i:=i) (by simpa using a);grind
         rw[z,bH];by_cases c:t.Kind=8
         . have d:=OL f c;rw[ae (by rw[d];rfl),ae (by rw[d];rfl)];simp only[c,dp,ev,mS,sX];grind
         grind)
    (by rw[qK,bx])
    (λi a=>by
     have b:=ht _ (bg a aN);obtain⟨r,f1,f2,f3⟩:=LY b;rw[pa,bz,ae (aQ a)];simp only[aT,ao,bc];generalize c8:s.Types.getD i aN=t at*;rw[H6 c8 f1,f2,adH s.Types t i a y];simp only[ao];cases r with
     |false=>rfl
     |true=>
      obtain⟨E,A,B⟩:=f3 rfl;rw[ak (show ¬((!true)=true) by simp),ak (show ¬((!true)=true) by simp),B];cases k:(!(decide (t.Name=[]))&&((s.Types.map (·.Name)).take i).contains t.Name)with
      |true=>rfl
      |false=>
       simp only[bV,b7,Dt];rw[adi b.gY A];simp only[ao];rw[adI s.Types t i (fj t) (Lb b.gY)];cases f:(fj t).any (lz s.Types.length)with
       |true=>rfl
       |false=>
        simp only[bV,b7,ao];rw[bH];by_cases c:t.Kind=8
        . have d:=OL f c;rw[ae (by rw[d];rfl)];simp only[c,dp,bS,yT,ao,ev,mS];show(if !(sX (s.Types.getD t.Key.toNat aN).Kind) then some (.inl 1)else pa (((i+1:Nat):Int),s.Types))=_;grind
        grind)
    (by rw[pa,bx])
   obtain⟨o,h1,p,u⟩:=this;have m:qK (s.Types,(s.Types.length:Int),0,s.Types,[])=some o:=h1;have q:pa (0,s.Types)=some o:=p;rw[m,q];rcases u with⟨rfl,g⟩|⟨i,e,g,bb,rfl⟩
   . simp_all
   . refine⟨_,rfl,rfl,λh0=>?_,λh=>(by have:=h.2 i g;rw[bb]at this;cases this),λh=>?_⟩
     . exfalso;subst h0;unfold rV at bb;grind
     . subst h;unfold rV at bb;grind
theorem q3{d:Type}(L:Nat->Option d)(n:Nat)(q:Nat->Bool)(a:Nat->d)(c:d)(g:∀i,i<n->L i=if q i then some (a i)else L (i+1))(e:L n=some c):
 (∃j,j<n/\q j=true/\(∀k,k<j->q k=false)/\L 0=some (a j))\/((∀k,k<n->q k=false)/\L 0=some c):=by
 have key:∀k i,i+k=n->(∀m,m<i->q m=false)->L 0=L i->(∃j,j<n/\q j=true/\(∀k,k<j->q k=false)/\L 0=some (a j))\/((∀k,k<n->q k=false)/\L 0=some c):=by
  intro k;induction k with
  |zero=> intro i f b h0; have:i = n:= by omega
          subst this;exact .inr ⟨b,by rw[h0,e]⟩
  |succ k ih=>
   intro i f b h0;rw[g i (by omega)]at h0;grind
 exact key n 0 (by omega) (λm b=>by omega) rfl
def tW(l:List aR)(id:Int)(r:Int×Bool):Prop:=(∃j:Nat,j<l.length/\(l.getD j ay).ad=id/\(∀k,k<j->(l.getD k ay).ad≠id)/\r=((j:Int),true))\/((∀k,k<l.length->(l.getD k ay).ad≠id)/\r=(0,false))
theorem HS{l:List aR}{r q:Int×Bool}(h1:tW l id r)(a:tW l id q):r=q:=by
 rcases h1 with⟨j,a1,a2,a3,rfl⟩|⟨a1,rfl⟩<;>rcases a with⟨k,b1,b2,b3,rfl⟩|⟨b1,rfl⟩
 . grind
 . grind
 . grind
 . rfl
theorem vo(af:t.ag.length<9223372036854775807):∃r,hl (t,id)=some r/\tW t.ag id r:=by
 rw[hl,Gl];have h:=q3 (λi=>pn (t.ag,(t.ag.length:Int),(i:Int),id)) t.ag.length (λi=>decide ((t.ag.getD i ay).ad=id)) (λi=>.inl ((i:Int),id)) (.inr id)
  (λi e=>by
   rw[pn,bz,ae (aQ e)];simp only[aT,ao,bc,jz,G7]
   rw[bH])
  (by rw[pn,bx])
 have cW:pn (t.ag,(t.ag.length:Int),((0:Nat):Int),id)=pn (t.ag,(t.ag.length:Int),0,id):=rfl;simp only[cW]at h;rcases h with⟨j,h1,c,d,a⟩|⟨h1,a⟩
 . rw[a];refine⟨((j:Int),true),?_,.inl ⟨j,h1,by simpa using c,λk b=>by simpa using d k b,rfl⟩⟩;have aI:iz (j:Int) 0=(j:Int):=by unfold iz;omega
   simp_all
 . rw[a];exact⟨(0,false),rfl,.inr ⟨λk b=>by simpa using h1 k b,rfl⟩⟩
theorem C2(af:t.ag.length<9223372036854775807):∃r,hJ (t,id)=some r/\tW t.ag id r:=by
 rw[hJ];have h:=q3 (λi=>o6 (id,(i:Int),t)) t.ag.length (λi=>decide ((t.ag.getD i ay).ad=id)) (λi=>.inl ((i:Int),true)) (.inr ())
  (λi e=>by
   rw[o6,bz,ae (aQ e),bH]
   grind)
  (by rw[o6,bx])
 have cW:o6 (id,((0:Nat):Int),t)=o6 (id,0,t):=rfl;simp only[cW]at h;rcases h with⟨j,h1,c,d,a⟩|⟨h1,a⟩
 . rw[a];exact⟨((j:Int),true),rfl,.inl ⟨j,h1,by simpa using c,λk b=>by simpa using d k b,rfl⟩⟩
 . rw[a];exact⟨(0,false),rfl,.inr ⟨λk b=>by simpa using h1 k b,rfl⟩⟩
theorem mI(id:Int)(af:t.ag.length<9223372036854775807):∃r,hl (t,id)=some r/\hJ (t,id)=some r/\tW t.ag id r:=by
 obtain⟨r,h1,a⟩:=vo (id:=id) af;obtain⟨q,c,b⟩:=C2 (id:=id) af;have:=HS a b;grind
def wM(l:List c4)(id:Int)(r:Int×Bool):Prop:=(∃j:Nat,j<l.length/\(l.getD j dN).ad=id/\(∀k,k<j->(l.getD k dN).ad≠id)/\r=((j:Int),true))\/((∀k,k<l.length->(l.getD k dN).ad≠id)/\r=(0,false))
theorem XU{l:List c4}{r q:Int×Bool}(h1:wM l id r)(a:wM l id q):r=q:=by
 rcases h1 with⟨j,a1,a2,a3,rfl⟩|⟨a1,rfl⟩<;>rcases a with⟨k,b1,b2,b3,rfl⟩|⟨b1,rfl⟩
 . grind
 . grind
 . grind
 . rfl
theorem qW(id:Int)(af:t.bj.length<9223372036854775807):∃r,tR (t,id)=some r/\sK (t,id)=some r/\wM t.bj id r:=by
 rw[tR,Gk,sK];have h:=q3 (λi=>ns (t.bj,(t.bj.length:Int),(i:Int),id)) t.bj.length (λi=>decide ((t.bj.getD i dN).ad=id)) (λi=>.inl ((i:Int),id)) (.inr id)
  (λi f=>by
   rw[ns,bz,ae (aQ f)];simp only[aT,ao,bc,G6]
   rw[bH])
  (by rw[ns,bx])
 have cW:ns (t.bj,(t.bj.length:Int),((0:Nat):Int),id)=ns (t.bj,(t.bj.length:Int),0,id):=rfl;have g:=q3 (λi=>nW (id,(i:Int),t)) t.bj.length (λi=>decide ((t.bj.getD i dN).ad=id)) (λi=>.inl ((i:Int),true)) (.inr ())
  (λi f=>by
   rw[nW,bz,ae (aQ f),bH]
   grind)
  (by rw[nW,bx])
 have m:nW (id,((0:Nat):Int),t)=nW (id,0,t):=rfl;simp only[cW]at h;simp only[m]at g;have n:∃r,(ns (t.bj,(t.bj.length:Int),0,id)>>=λo=>match o with|.inl c=>some (c.1,c.2)|.inr l=>some ((-1),l))>>=(λr=>some (iz r.1 0,decide (0<=r.1)))=some r/\wM t.bj id r:=by
  rcases h with⟨j,h1,d,e,a⟩|⟨h1,a⟩
  . rw[a];refine⟨((j:Int),true),?_,.inl ⟨j,h1,by simpa using d,λk b=>by simpa using e k b,rfl⟩⟩;have aI:iz (j:Int) 0=(j:Int):=by unfold iz;omega
    simp_all
  . rw[a];exact⟨(0,false),rfl,.inr ⟨λk b=>by simpa using h1 k b,rfl⟩⟩
 have dv:∃r,(nW (id,0,t)>>=λo=>match o with|.inl c=>some (c.1,c.2)|.inr l=>some (0,false))=some r/\wM t.bj id r:=by
  rcases g with⟨j,h1,d,e,a⟩|⟨h1,a⟩
  . rw[a];exact⟨((j:Int),true),rfl,.inl ⟨j,h1,by simpa using d,λk b=>by simpa using e k b,rfl⟩⟩
  . rw[a];exact⟨(0,false),rfl,.inr ⟨λk b=>by simpa using h1 k b,rfl⟩⟩
 obtain⟨r,a1,a2⟩:=n;obtain⟨q,b1,b2⟩:=dv;have:=XU a2 b2;grind
def fF(n:Int):Int:=if 0<=n then 2*n else -2*n-1
theorem M5{a b:Int}(h:fF a=fF b):a=b:=by
 unfold fF at h;split at h<;>split at h<;>omega
def cy(n:Int):Prop:= -9223372036854775808<=n/\n<=9223372036854775807
theorem tX{n:Int}(h:cy n):va n=some (fF n):=by
 obtain⟨h1,f⟩:=h;rw[va];unfold fF;by_cases h0:0<=n
 . rw[ae (by simp[h0]),ae h0];obtain⟨k,rfl⟩:∃k:Nat,n=(k:Int):=⟨n.toNat,by omega⟩
   rw[hE];have:=ua (a:=2) (b:=k) (by omega);grind
 . rw[ak (by simp[h0]),ak h0];rw[kg,hP];obtain⟨k,e⟩:∃k:Nat,0-(n+1)=(k:Int):=⟨(0-(n+1)).toNat,by omega⟩
   rw[e,hE];have c:=ua (a:=2) (b:=k) (by omega);have d:gF .u64 2 (k:Int)=((2*k:Nat):Int):=c;rw[d];have g:=sa (a:=2*k) (b:=1) (by omega);grind
theorem abt(a:Nat)(h:a<18446744073709551616):uH .u64 (a:Int) 0=(a:Int):=by
 have e:(BitVec.ofInt 64 (a:Int) ^^^ BitVec.ofInt 64 (0:Int)).toNat=a:=by grind
 show IntKind.u64.wrap (((BitVec.ofInt 64 (a:Int) ^^^ BitVec.ofInt 64 (0:Int)).toNat:Nat):Int)=_;rw[e];exact kZ
theorem abu(a:Nat)(h:a<18446744073709551616):uH .u64 (a:Int) 18446744073709551615=((18446744073709551615-a:Nat):Int):=by
 have e:(BitVec.ofInt 64 (a:Int) ^^^ BitVec.ofInt 64 (18446744073709551615:Int)).toNat=18446744073709551615-a:=by
  have h1:BitVec.ofInt 64 (18446744073709551615:Int)=BitVec.allOnes 64:=by decide
  rw[h1,wK,BitVec.xor_allOnes,BitVec.toNat_not,wD,w2,ow h]
 all_goals (try omega)
 show IntKind.u64.wrap (((BitVec.ofInt 64 (a:Int) ^^^ BitVec.ofInt 64 (18446744073709551615:Int)).toNat:Nat):Int)=_;rw[e];exact kZ
theorem agZ{n:Int}(h:cy n):lA .i64 n 63=if 0<=n then 0 else -1:=by
 obtain⟨h1,a⟩:=h;unfold lA;have e:((2:Int)^min (63:Int).toNat IntKind.i64.bits)=9223372036854775808:=by decide
 grind
theorem DY{n:Int}(h:cy n):vq n=some (fF n):=by
 rw[vq,agZ h];obtain⟨h1,a⟩:=h;unfold fF;have hs:∀m:Int,mX .u64 m 1=IntKind.u64.wrap (m*2):=by
  intro m;unfold mX;rfl
 rw[hs]
 congr 1
 by_cases h0:0<=n
 . rw[ae h0,ae h0];obtain⟨k,rfl⟩:∃k:Nat,n=(k:Int):=⟨n.toNat,by omega⟩
   rw[hE,kZ];have:bY .u64 0=0:=(by decide);rw[this];have:=abt (2*k) (by omega);grind
 . rw[ak h0,ak h0];have:bY .u64 (-1)=18446744073709551615:=(by decide);rw[this];obtain⟨k,b⟩:∃k:Nat,n+9223372036854775808=(k:Int):=⟨(n+9223372036854775808).toNat,by omega⟩
   have e:IntKind.u64.wrap (bY .u64 n*2)=((2*k:Nat):Int):=by
    unfold bY;rw[IntKind.wrap_u64,IntKind.wrap_u64];omega
   rw[e,abu _ (by omega)];omega
theorem aes(a b:Int):CR (a,b)=some (if a<b then -1 else if b<a then 1 else 0):=by
 rw[CR];simp only[Da,aT,ao,dp,dn,bV,b7];grind
theorem P9(a b:Int):yX (a,b)=some (if a<b then -1 else if b<a then 1 else 0):=by
 rw[yX];simp only[CS,aT,ao,dp,dn,bV,b7];grind
theorem aet(a b:aj):C9 (a,b)=some (if Op.bytesLess a b then -1 else if(Op.bytesLess a b||(a=b:Bool))then 0 else 1):=by
 rw[C9];simp only[CT,aT,ao,dp,dn,bV,b7];grind
theorem agJ(a b:Int):DX [a,b]=some (if a≠0 then a else b):=by
 rw[DX];have h0:q2 (0,[a,b],((2:Nat):Int),((0:Nat):Int))=if a≠0 then some (.inl a)else(if b≠0 then some (.inl b)else some (.inr 0)):=by
  rw[q2,ae (by decide),ae (show aH ((0:Nat):Int) ([a,b]:aq).length=true from aQ (k:=0) (n:=2) (by omega))];simp only[aT,ao,bc,km];by_cases c:a=0
  . rw[ak (by simp[c]),ak (by simp[c])];have aI:aM .i64 ((0:Nat):Int) 1=((1:Nat):Int):=bH;rw[aI,q2,ae (by decide),ae (show aH ((1:Nat):Int) ([a,b]:aq).length=true from aQ (k:=1) (n:=2) (by omega))];simp only[aT,ao,bc,yq,km];by_cases d:b=0
    . rw[ak (by simp[d]),ak (by simp[d])];have e:aM .i64 ((1:Nat):Int) 1=((2:Nat):Int):=bH;rw[e,q2,ak (by decide)]
    grind
  grind
 grind
theorem Th:∀a:aj,Op.bytesLess a a=false
 |[]=>rfl
 |x::r=>by
  simp[Op.bytesLess,Th r]
theorem CJ{a b:I}(f:cy a.bf)(g:cy b.bf):∃r,p3 (a,b)=some r/\n0 (a,b)=some r:=by
 rw[p3,n0];by_cases i:a.Kind=b.Kind
 . rw[ak (show ¬((!(decide (a.Kind=b.Kind)))=true) by simp[i]),ak (show ¬((!(decide (a.Kind=b.Kind)))=true) by simp[i])];by_cases c:a.Kind=1
   . rw[ae (show decide (a.Kind=1)=true by simp[c]),ae (show decide (a.Kind=1)=true by simp[c])];simp only[kM];cases fB a.bL b.bL<;>cases b.bL<;>exact⟨_,rfl,rfl⟩
   . rw[ak (show ¬(decide (a.Kind=1)=true) by simp[c]),ak (show ¬(decide (a.Kind=1)=true) by simp[c])];by_cases d:a.Kind=2
     . rw[ae (show decide (a.Kind=2)=true by simp[d]),ae (show decide (a.Kind=2)=true by simp[d]),DY f,DY g,tX f,tX g];simp only[aT,ao,aes,kM];by_cases he:a.bf=b.bf
       . grind
       . have l:fF a.bf≠fF b.bf:=λh=>he (M5 h);grind
     . rw[ak (show ¬(decide (a.Kind=2)=true) by simp[d]),ak (show ¬(decide (a.Kind=2)=true) by simp[d])];by_cases e:a.Kind=3
       . rw[ae (show decide (a.Kind=3)=true by simp[e]),ae (show decide (a.Kind=3)=true by simp[e])];simp only[aT,ao,P9,aet,agJ,kM];by_cases af:a.bn.length=b.bn.length
         . have k:¬((!(decide ((a.bn.length:Int)=(b.bn.length:Int))))=true):=by simp;omega
           rw[ak k,af];have aI:¬((b.bn.length:Int)<(b.bn.length:Int)):=(by omega);simp only[aI,b7,ne_eq,not_true_eq_false];by_cases he:a.bn=b.bn
           . rw[he,Th];grind
           grind
         grind
       . rw[ak (show ¬(decide (a.Kind=3)=true) by simp[e]),ak (show ¬(decide (a.Kind=3)=true) by simp[e])];by_cases j:a.Kind=4
         . rw[ae (show decide (a.Kind=4)=true by simp[j]),ae (show decide (a.Kind=4)=true by simp[j])];simp only[aT,ao,P9,kM];grind
         simp_all
 simp_all
def KU(a b:Option Bool):Prop:=∃r,a=some r/\b=some r
theorem Iu {b c:Type}(L:Nat->Option (Bool ⊕ b))(L':Nat->Option (Bool ⊕ c))(n:Nat)(p:Nat->Bool)(g:b)(a:c)
 (h:∀i,i<n->L i=if p i then L (i+1)else some (.inl false))(he:L n=some (.inr g))
 (d:∀i,i<n->L' i=if p i then L' (i+1)else some (.inl false))(e:L' n=some (.inr a)):
 (L 0=some (.inr g)/\L' 0=some (.inr a)/\∀j,j<n->p j=true)\/(L 0=some (.inl false)/\L' 0=some (.inl false)/\∃j,j<n/\p j=false):=by
 rcases scan L n p (.inl false) (.inr g) h he with⟨a1,a2⟩|⟨a1,j,a2,a3⟩<;>rcases scan L' n p (.inl false) (.inr a) d e with⟨b1,b2⟩|⟨b1,k,b2,b3⟩
 . exact .inl ⟨a1,b1,a2⟩
 . have:=a2 k b2;rw[b3]at this;cases this
 . have:=b2 j a2;rw[a3]at this;cases this
 . exact .inr ⟨a1,b1,j,a2,a3⟩
def oh(k:Int):Prop:=1<=k/\k<=9
theorem XV(a:oh v.Kind):∃p,CF v=some p/\tK v=some p/\(p=true->v.Kind≠5->v.Kind≠6->v.Rest=[]):=by
 obtain⟨K,B,cA,S,ad,c,b,R⟩:=v;simp only at a;rw[CF,I.aU,tK];have:K=1\/K=2\/K=3\/K=4\/K=5\/K=6\/K=7\/K=8\/K=9:=by unfold oh at a;omega
 have d:∀(x:Int),decide (x=x)=true:=λx=>by simp
 rcases this with rfl|rfl|rfl|rfl|rfl|rfl|rfl|rfl|rfl
 all_goals
  refine⟨_,rfl,?_,?_⟩
  . simp[DE,fB]
    try (cases B<;>simp)
  . simp[DE,fB]
section
variable {ts:List ah}(aE:ts.length<9223372036854775807)(c8:∀t,t∈ts->e3 t)(bD:∀t,t∈ts->oh t.Kind)
def Fit(ts:List ah)(x:I):Prop:=∀t plain,KU (kb ((⟨ts⟩:aS),t,x,plain)) (iK ((⟨ts⟩:aS),t,x,plain))
theorem Lc{l:List I}(af:l.length<=reachBytes)(ih:∀x,x∈l->Fit ts x)(t:Int)(plain:Bool):
 KU (q0 ((⟨ts⟩:aS),t,l,plain)) (nE ((⟨ts⟩:aS),t,l,plain)):=by
 have g:=dB af;let p:Nat->Bool:=λi=>(kb ((⟨ts⟩:aS),t,l.getD i au,plain)).getD false;have c:∀i,i<l.length->kb ((⟨ts⟩:aS),t,l.getD i au,plain)=some (p i)/\iK ((⟨ts⟩:aS),t,l.getD i au,plain)=some (p i):=by
  intro i a;obtain⟨r,h1,f⟩:=ih _ (bg a au) t plain;grind
 have b:=q3 (λi=>qy (l,(l.length:Int),(i:Int),ts,t,plain)) l.length (λi=>!(p i)) (λi=>.inl ((i:Int),ts,t,plain)) (.inr (ts,t,plain))
  (λi a=>by
   rw[qy,bz,ae (aQ a),GQ];simp only[I.aU,bc];rw[(c i a).1,bH]
   rfl)
  (by rw[qy,bx])
 have hs:=scan (λi=>kJ (t,l,plain,(i:Int),ts)) l.length p (.inl false) (.inr ())
  (λi a=>by
   rw[kJ,bz,ae (aQ a)];simp only[I.aU,bc];rw[(c i a).2,bH]
   grind)
  (by rw[kJ,bx])
 have aI:qy (l,(l.length:Int),((0:Nat):Int),ts,t,plain)=qy (l,(l.length:Int),0,ts,t,plain):=rfl;have d:kJ (t,l,plain,((0:Nat):Int),ts)=kJ (t,l,plain,0,ts):=rfl;simp only[aI]at b;simp only[d]at hs;rw[q0,B',Gn,nE];rcases b with⟨j,a1,a2,a3,a4⟩|⟨a1,a4⟩<;>rcases hs with⟨b1,b2⟩|⟨b1,k,b2,b3⟩
 . have:=b2 j a1;simp[this]at a2
 . rw[a4,b1];refine⟨false,?_,rfl⟩;have e:decide ((0:Int)<=(j:Int))=true:=(by simp);simp only[aT,ao,e,dn]
 . rw[a4,b1];exact⟨true,rfl,rfl⟩
 . have:=a1 k b2;simp[b3]at this
def F1(t:ah)(l:List bX)(i:Nat):Bool:=
 !((hl (t,(l.getD i b5).ad)).getD (0,false)).2&&(decide (1<=(l.getD i b5).ad)&&decide ((l.getD i b5).ad<=1000))&&(decide (i=0)||decide ((l.getD (i-1) b5).ad<(l.getD i b5).ad))
theorem abv{l:Type}(fX f b:Bool)(a:Int)(e C:Int->Bool)(g i:Option l)(j:b=true->e a=true):
 ((if !fX then some f else some false)>>=λk=>some (bif fX then true else(!k))>>=λt131=>some b>>=λt134=>some a>>=λt141=>
  if(e t141||(!((!t131)&&t134))) then if(bif t131 then true else bif t134 then C t141 else false) then g else i else none)=if !fX&&f&&(!b || !(C a)) then i else g:=by
 simp only[aT,ao];generalize C a=c;cases b with
 |true=>rw[j rfl];cases fX<;>cases f<;>cases c<;>rfl
 |false=>generalize e a=d;cases fX<;>cases f<;>cases d<;>cases c<;>rfl
theorem Jz{n:Type}(b g e:Bool)(a:Int)(f C:Int->Bool)(i j:Option n)(k:g=true)(l:e=true->f a=true):
 (some b>>=λm=>some (!m)>>=λt31=>some e>>=λt34=>
  if(g||(!((!t31)&&t34))) then some a>>=λt43=>if(f t43||(!((!t31)&&t34))) then if(bif t31 then true else bif t34 then C t43 else false) then i else j else none else none)=if(b&&(!e || !(C a))) then j else i:=by
 subst k;simp only[aT,ao];generalize C a=c;cases e with
 |true=>rw[l rfl];cases b<;>cases c<;>rfl
 |false=>generalize f a=d;cases b<;>cases d<;>cases c<;>rfl
theorem q4{i:Nat}(h:0<i)(a:i<9223372036854775807):dj .i64 (i:Int) 1=((i-1:Nat):Int):=by
 rw[hP];omega
theorem agR(ht:t.ag.length<9223372036854775807)(v:I)(af:v.Rest.length<=reachBytes)(plain:Bool)(ts:List ah):
 let inr:=(plain,ts,v.Kind,v.bL,v.bf,v.bn,v.ad,v.aw,v.ai,v.Rest,t.Kind,t.Name,t.bC,t.bG,t.Max,t.bj,t.ag,t.Key,t.aG,t.Open)
 ((lb (plain,v.Rest,(v.Rest.length:Int),0,ts,v,t.Kind,t.Name,t.bC,t.bG,t.Max,t.bj,t.ag,t.Key,t.aG,t.Open)=some (.inr inr)/\qH (t,v.Rest)=some true)\/
  (lb (plain,v.Rest,(v.Rest.length:Int),0,ts,v,t.Kind,t.Name,t.bC,t.bG,t.Max,t.bj,t.ag,t.Key,t.aG,t.Open)=some (.inl false)/\qH (t,v.Rest)=some false)):=by
 intro inr;have k:=dB af;have d:∀i,i<v.Rest.length->∀r,hl (t,(v.Rest.getD i b5).ad)=some r->F1 t v.Rest i=(!r.2&&(bif decide (1<=(v.Rest.getD i b5).ad)then decide ((v.Rest.getD i b5).ad<=1000)else false)&&(!(decide ((0:Int)<(i:Int))) || !(decide ((v.Rest.getD i b5).ad<=(v.Rest.getD (dj .i64 (i:Int) 1).toNat b5).ad)))):=by
  intro i a r g;unfold F1;rw[g,lx];generalize (v.Rest.getD i b5).ad=x;by_cases h0:i=0
  . grind
  . have c:decide ((0:Int)<(i:Int))=true:=by simp;omega
    rw[c,q4 (by omega) (by omega),bc];grind
 have h:=Iu (λi=>lb (plain,v.Rest,(v.Rest.length:Int),(i:Int),ts,v,t.Kind,t.Name,t.bC,t.bG,t.Max,t.bj,t.ag,t.Key,t.aG,t.Open)) (λi=>j9 (v.Rest,(i:Int),t)) v.Rest.length (F1 t v.Rest) inr ()
  (λi a=>by
   obtain⟨r,h1,_,_⟩:=mI (t:=t) (v.Rest.getD i b5).ad ht;rw[lb,bz,ae (aQ a),d i a r h1];simp only[bc,Dt,I.aU,za,aT,ao];rw[h1,bH]
   exact abv r.2 (bif decide (1<=(v.Rest.getD i b5).ad)then decide ((v.Rest.getD i b5).ad<=1000)else false) (decide ((0:Int)<(i:Int))) (dj .i64 (i:Int) 1) (λj=>aH j v.Rest.length) (λj=>decide ((v.Rest.getD i b5).ad<=(v.Rest.getD j.toNat b5).ad)) _ _ (λc=>by
    have:0<i:=by simp at c;omega
    show aH _ _=true
    rw[q4 this (by omega)];exact aQ (by omega)))
  (by rw[lb,bx])
  (λi a=>by
   obtain⟨r,h1,b,_⟩:=mI (t:=t) (v.Rest.getD i b5).ad ht;rw[j9,bz,ae (aQ a),d i a r h1];simp only[bc];rw[b,bH];have f:jv ((v.Rest.getD i b5).ad,r.2)=some ((!r.2)&&(bif decide (1<=(v.Rest.getD i b5).ad)then decide ((v.Rest.getD i b5).ad<=1000)else false)):=by
    rw[jv];grind
   show(if aH (i:Int) v.Rest.length then jv ((v.Rest.getD i b5).ad,r.2)>>=_ else none)=_;rw[ae (aQ a),f]
   exact Jz ((!r.2)&&(bif decide (1<=(v.Rest.getD i b5).ad)then decide ((v.Rest.getD i b5).ad<=1000)else false)) (aH (i:Int) v.Rest.length) (decide ((0:Int)<(i:Int))) (dj .i64 (i:Int) 1) (λj=>aH j v.Rest.length) (λj=>decide ((v.Rest.getD i b5).ad<=(v.Rest.getD j.toNat b5).ad)) _ _ (aQ a) (λc=>by
    have:0<i:=by simp at c;omega
    show aH _ _=true
    rw[q4 this (by omega)];exact aQ (by omega)))
  (by rw[j9,bx])
 have aI:lb (plain,v.Rest,(v.Rest.length:Int),((0:Nat):Int),ts,v,t.Kind,t.Name,t.bC,t.bG,t.Max,t.bj,t.ag,t.Key,t.aG,t.Open)=lb (plain,v.Rest,(v.Rest.length:Int),0,ts,v,t.Kind,t.Name,t.bC,t.bG,t.Max,t.bj,t.ag,t.Key,t.aG,t.Open):=rfl;have e:j9 (v.Rest,((0:Nat):Int),t)=j9 (v.Rest,0,t):=rfl;simp only[aI,e]at h;rw[qH];rcases h with⟨h1,b,_⟩|⟨h1,b,_⟩
 . exact .inl ⟨h1,by rw[b];rfl⟩
 . exact .inr ⟨h1,by rw[b];rfl⟩
end
theorem ZX(af:v.ai.length=t.ag.length)(e:t.ag.length<9223372036854775807)(ih:∀x,x∈v.ai->Fit ts x)(plain:Bool):
 (mF (plain,t.ag,(t.ag.length:Int),0,ts,v.Kind,v.bL,v.bf,v.bn,v.ad,v.aw,v.ai,v.Rest)=some (.inr ())/\jd (plain,0,ts,v,t.Kind,t.Name,t.bC,t.bG,t.Max,t.bj,t.ag,t.Key,t.aG,t.Open)=some (.inr ()))\/
 (mF (plain,t.ag,(t.ag.length:Int),0,ts,v.Kind,v.bL,v.bf,v.bn,v.ad,v.aw,v.ai,v.Rest)=some (.inl false)/\jd (plain,0,ts,v,t.Kind,t.Name,t.bC,t.bG,t.Max,t.bj,t.ag,t.Key,t.aG,t.Open)=some (.inl false)):=by
 let p:Nat->Bool:=λi=>(kb ((⟨ts⟩:aS),(t.ag.getD i ay).av,v.ai.getD i au,plain)).getD false;have c:∀i,i<t.ag.length->kb ((⟨ts⟩:aS),(t.ag.getD i ay).av,v.ai.getD i au,plain)=some (p i)/\iK ((⟨ts⟩:aS),(t.ag.getD i ay).av,v.ai.getD i au,plain)=some (p i):=by
  intro i a;obtain⟨r,h1,b⟩:=ih _ (bg (by omega:i<v.ai.length) au) (t.ag.getD i ay).av plain;grind
 have h:=Iu (λi=>mF (plain,t.ag,(t.ag.length:Int),(i:Int),ts,v.Kind,v.bL,v.bf,v.bn,v.ad,v.aw,v.ai,v.Rest)) (λi=>jd (plain,(i:Int),ts,v,t.Kind,t.Name,t.bC,t.bG,t.Max,t.bj,t.ag,t.Key,t.aG,t.Open)) t.ag.length p () ()
  (λi a=>by
   rw[mF,bz,ae (aQ a),ae (aQ (by omega))];simp only[bc,I.aU];rw[(c i a).1,bH]
   grind)
  (by rw[mF,bx])
  (λi a=>by
   rw[jd,bz,ae (aQ a),ae (aQ (by omega))];simp only[bc,I.aU];rw[(c i a).2,bH]
   grind)
  (by rw[jd,cp])
 have aI:mF (plain,t.ag,(t.ag.length:Int),((0:Nat):Int),ts,v.Kind,v.bL,v.bf,v.bn,v.ad,v.aw,v.ai,v.Rest)=mF (plain,t.ag,(t.ag.length:Int),0,ts,v.Kind,v.bL,v.bf,v.bn,v.ad,v.aw,v.ai,v.Rest):=rfl;have d:jd (plain,((0:Nat):Int),ts,v,t.Kind,t.Name,t.bC,t.bG,t.Max,t.bj,t.ag,t.Key,t.aG,t.Open)=jd (plain,0,ts,v,t.Kind,t.Name,t.bC,t.bG,t.Max,t.bj,t.ag,t.Key,t.aG,t.Open):=rfl;simp only[aI,d]at h;rcases h with⟨h1,b,_⟩|⟨h1,b,_⟩
 . exact .inl ⟨h1,b⟩
 . exact .inr ⟨h1,b⟩
theorem v7(h:bK v):cy v.bf:=by cases h with|mk _ _ _ _ _ _ _ _ c9 a=>exact a
theorem aau{ts:List ah}{t:ah}(k:v.aw.length<9223372036854775807)(g:∀x,x∈v.aw->bK x)(plain:Bool):
 let inr:=(plain,ts,v,t.Kind,t.Name,t.bC,t.bG,t.Max,t.bj,t.ag,t.Key,t.aG,t.Open)
 (kP (plain,1,ts,v,t.Kind,t.Name,t.bC,t.bG,t.Max,t.bj,t.ag,t.Key,t.aG,t.Open)=some (.inr inr)/\h6 (1,v)=some (.inr ()))\/
 (kP (plain,1,ts,v,t.Kind,t.Name,t.bC,t.bG,t.Max,t.bj,t.ag,t.Key,t.aG,t.Open)=some (.inl false)/\h6 (1,v)=some (.inl false)):=by
 intro inr;by_cases h0:v.aw.length=0
 . left;refine⟨?_,?_⟩
   . rw[kP,ak (by simp[h0]),I.aU]
   . rw[h6,ak (by simp[h0])]
 let c:Nat->Int:=λi=>(p3 (v.aw.getD i au,v.aw.getD (i+1) au)).getD 0;have f:∀i,i+1<v.aw.length->p3 (v.aw.getD i au,v.aw.getD (i+1) au)=some (c i)/\n0 (v.aw.getD i au,v.aw.getD (i+1) au)=some (c i):=by
  intro i b;obtain⟨r,h1,a⟩:=CJ (v7 (g _ (bg (by omega:i<v.aw.length) au))) (v7 (g _ (bg b au)));grind
 have h:=Iu (λi=>kP (plain,((i+1:Nat):Int),ts,v,t.Kind,t.Name,t.bC,t.bG,t.Max,t.bj,t.ag,t.Key,t.aG,t.Open)) (λi=>h6 (((i+1:Nat):Int),v)) (v.aw.length-1) (λi=>!(decide (0<=c i))) inr ()
  (λi b=>by
   have hs:=q4 (i:=i+1) (by omega) (by omega);have d:dj .i64 ((i+1:Nat):Int) 1=(i:Int):=by rw[hs];simp
   rw[kP,bz];simp only[aT,ao];rw[d,ae (aQ (by omega)),ae (aQ (by omega))];simp only[bc,I.aU];rw[(f i (by omega)).1,bH]
   grind)
  (by
   have e:v.aw.length-1+1=v.aw.length:=by omega
   rw[e,kP,bx,I.aU])
  (λi b=>by
   have hs:=q4 (i:=i+1) (by omega) (by omega);have d:dj .i64 ((i+1:Nat):Int) 1=(i:Int):=by rw[hs];simp
   rw[h6,bz];simp only[aT,ao];rw[d,ae (aQ (by omega)),ae (aQ (by omega))];simp only[bc,I.aU];rw[(f i (by omega)).2,bH]
   grind)
  (by
   have e:v.aw.length-1+1=v.aw.length:=by omega
   rw[e,h6,bx])
 have aI:kP (plain,((0+1:Nat):Int),ts,v,t.Kind,t.Name,t.bC,t.bG,t.Max,t.bj,t.ag,t.Key,t.aG,t.Open)=kP (plain,1,ts,v,t.Kind,t.Name,t.bC,t.bG,t.Max,t.bj,t.ag,t.Key,t.aG,t.Open):=rfl;have j:h6 (((0+1:Nat):Int),v)=h6 (1,v):=rfl;simp only[aI,j]at h;rcases h with⟨h1,a,_⟩|⟨h1,a,_⟩
 . exact .inl ⟨h1,a⟩
 . exact .inr ⟨h1,a⟩
theorem Kk{c:Type}{b:List c}(h:decide ((a.length:Int)=(b.length:Int))=true):a.length=b.length:=by grind
theorem RQ{r:Int×Bool}(c:o=some r)(a plain f:Bool):
 (o>>=λb=>some (bif a then(!plain)else false)>>=λt85=>(if((!b.2)&&t85) then some f else some false)>>=λd=>some (bif b.2 then true else bif t85 then d else false))=some (r.2||(a && !plain&&f)):=by
 subst c;obtain⟨k,fX⟩:=r;cases fX<;>cases a<;>cases plain<;>cases f<;>rfl
theorem Ff{r:Int×Bool}(c:o=some r)(a plain f:Bool)(F:Bool->Option Bool)(bw:F false=some f):
 (o>>=λb=>some (bif a then(!plain)else false)>>=λt85=>(if((!b.2)&&t85) then F b.2 else some false)>>=λd=>some (bif b.2 then true else bif t85 then d else false))=some (r.2||(a && !plain&&f)):=by
 subst c;obtain⟨k,fX⟩:=r;cases fX<;>cases a<;>cases plain<;>simp[bw]
theorem e4{o:Option Bool}{r:Bool}(b:o=some r)(q:Bool):(some q>>=λt244=>(if t244 then o else some false)>>=λa=>some (bif t244 then a else false))=some (q&&r):=by grind
theorem Fg(c a b f:Bool){d:Option Bool}(g:c=true->d=some f)(h1:c=true->a=true/\b=true):(some c>>=λt188=>if(a||(!t188))then if(b||(!t188))then(if t188 then d else some false)>>=λe=>some (bif t188 then e else false)else none else none)=some (c&&f):=by grind
theorem ago(A b q m:Bool){a:Option Bool}(d:a=some q)(c:A=true->L=some (if m then .inr ()else .inl false)):
 (if(bif (bif false then true else(!true))then true else b) then some false else some (!A)>>=λt107=>(if !t107 then a else some false)>>=λe=>if(bif t107 then true else(!e)) then some false else L>>=λo=>match o with|.inl x=>some x|.inr _=>some true)=some (A && !b&&q&&m):=by
 subst d;cases A with
 |false=>cases b<;>rfl
 |true=>
  rw[c rfl];cases b<;>cases q<;>cases m<;>rfl
theorem Fh(g f b a cA E:Bool)(h1:a=true->cA=true):(some g>>=λt209=>(if t209 then some f else some false)>>=λc=>some (bif bif bif t209 then c else false then b else false then a else false)>>=λt226=>if(cA||(!t226))then some (bif t226 then E else false)else none)=some (g&&f&&b&&a&&E):=by grind
theorem RR(c:Bool){b a:Option Bool}{k i:Bool}(f:b=some k)(e:a=some i)(d:L=some (if q then .inr ()else .inl false)):
 (some c>>=λt239=>(if !t239 then b else some false)>>=λl=>some (bif t239 then true else(!l))>>=λt249=>(if !t249 then a else some false)>>=λm=>if(bif t249 then true else(!m)) then some false else L>>=λg=>match g with|.inl j=>some j|.inr _=>some true)=some (!c&&k&&q&&i):=by
 subst f;subst e;subst d;cases c<;>cases k<;>cases q<;>cases i<;>rfl
theorem Ld(aE:ts.length<9223372036854775807)(c8:∀t,t∈ts->e3 t)(bD:∀t,t∈ts->oh t.Kind)(az:bK v):Fit ts v:=by
 induction az with
 |mk v hs h1 P Q am aL aP c9 aU aV aW aA O=>
  intro t plain;rw[kb,iK];by_cases D:(bif decide (t<0)then true else decide (((⟨ts⟩:aS).Types.length:Int)<=t))=true
  . rw[ae D,ae D];exact⟨false,rfl,rfl⟩
  . rw[ak D,ak D];have aO:0<=t/\t<ts.length:=(by grind);obtain⟨j,rfl⟩:∃j:Nat,t=(j:Int):=⟨t.toNat,by omega⟩
    have A:j<ts.length:=(by omega);rw[ae (aQ A),ae (aQ A)];simp only[bc,I.aU];have J:=c8 _ (bg A aN);have F:=bD _ (bg A aN);generalize ts.getD j aN=x at J F⊢;have C:=dB (iv J.gY);have W:=dB (iv J.syms);by_cases w:v.Kind=x.Kind
    . obtain⟨p,aB,aC,aD⟩:=XV (v:=v) (by rw[w];exact F);rw[aB,aC];cases p with
      |false=>exact⟨false,by simp[w],by simp[w]⟩
      |true=>
       have G:=Lc (ts:=ts) P O;have an:=Lc (ts:=ts) h1 aA;obtain⟨K,N,L,H,M,S,Ms,g,E,d⟩:=x;obtain⟨s,B,cA,l,ad,e,c,R⟩:=v;simp only at w;subst w;have u:=aD rfl;simp only at u F C W h1 P Q;have al:s=1\/s=2\/s=3\/s=4\/s=5\/s=6\/s=7\/s=8\/s=9:=by unfold oh at F;omega
       rcases al with rfl|rfl|rfl|rfl|rfl|rfl|rfl|rfl|rfl
       . obtain rfl:R=[]:=u (by decide) (by decide);cases plain<;>exact⟨true,rfl,rfl⟩
       . obtain rfl:R=[]:=u (by decide) (by decide);cases plain<;>exact⟨_,rfl,rfl⟩
       . obtain rfl:R=[]:=u (by decide) (by decide);cases plain<;>exact⟨_,rfl,rfl⟩
       . obtain rfl:R=[]:=u (by decide) (by decide);obtain⟨r,n,o,_⟩:=qW (t:=⟨4,N,L,H,M,S,Ms,g,E,d⟩) ad W;have z:jv (ad,false)=some (bif decide (1<=ad)then decide (ad<=1000)else false):=(by rfl);cases plain
         . exact⟨_,RQ n d false _,Ff o d false _ (λb=>jv (ad,b)) z⟩
         . exact⟨_,RQ n d true _,Ff o d true _ (λb=>jv (ad,b)) z⟩
       ·
        have aR:=agR (t:=⟨5,N,L,H,M,S,Ms,g,E,d⟩) C ⟨5,B,cA,l,ad,e,c,R⟩ Q plain ts;have aw:decide ((c.length:Int)=(Ms.length:Int))=true->_:=λy=>ZX (ts:=ts) (t:=⟨5,N,L,H,M,S,Ms,g,E,d⟩) (v:=⟨5,B,cA,l,ad,e,c,R⟩) (Kk y) C O plain;have ax:∃q:Bool,lb (plain,R,(R.length:Int),0,ts,⟨5,B,cA,l,ad,e,c,R⟩,5,N,L,H,M,S,Ms,g,E,d)=some (if q then .inr (plain,ts,5,B,cA,l,ad,e,c,R,5,N,L,H,M,S,Ms,g,E,d)else .inl false)/\qH (⟨5,N,L,H,M,S,Ms,g,E,d⟩,R)=some q:=(by grind);obtain⟨q,aX,aF⟩:=ax;have aq:∃m:Bool,decide ((c.length:Int)=(Ms.length:Int))=true->(mF (plain,Ms,(Ms.length:Int),0,ts,5,B,cA,l,ad,e,c,R)=some (if m then .inr ()else .inl false)/\jd (plain,0,ts,⟨5,B,cA,l,ad,e,c,R⟩,5,N,L,H,M,S,Ms,g,E,d)=some (if m then .inr ()else .inl false)):=by
         cases y:decide ((c.length:Int)=(Ms.length:Int))with
         |false=>exact⟨true,λh=>by cases h⟩
         |true=>
          rcases aw y with⟨a,b⟩|⟨a,b⟩
          . simp_all
          simp_all
        obtain⟨m,ap⟩:=aq;refine⟨(decide ((c.length:Int)=(Ms.length:Int))) && !(bif plain then decide (0<(R.length:Int))else false)&&q&&m,?_,?_⟩
        . show(if(bif (!((c.length:Int)=(Ms.length:Int):Bool))then true else bif plain then (0<(R.length:Int):Bool)else false) then some false else lb (plain,R,(R.length:Int),0,ts,⟨5,B,cA,l,ad,e,c,R⟩,5,N,L,H,M,S,Ms,g,E,d)>>=_)=_;grind
        . exact ago (decide ((c.length:Int)=(Ms.length:Int))) (bif plain then decide (0<(R.length:Int))else false) q m aF (λy=>(ap y).2)
       ·
        obtain⟨r,n,o,z⟩:=mI (t:=⟨6,N,L,H,M,S,Ms,g,E,d⟩) ad C;have aM:∀b,b=false->jv (ad,b)=some (bif decide (1<=ad)then decide (ad<=1000)else false):=by
         intro b aj;subst aj;rfl
        have ai:∃f:Bool,(bif decide ((c.length:Int)=1)then decide ((R.length:Int)=0)else false)=true->(kb ((⟨ts⟩:aS),(Ms.getD r.1.toNat ay).av,c.getD (0:Int).toNat au,plain)=some f/\iK ((⟨ts⟩:aS),(Ms.getD r.1.toNat ay).av,c.getD (0:Int).toNat au,plain)=some f):=by
         by_cases af:c.length=1
         . obtain⟨f,f1,f2⟩:=O (c.getD 0 au) (bg (by omega:0<c.length) au) (Ms.getD r.1.toNat ay).av plain;grind
         grind
        obtain⟨f,U⟩:=ai;have V:r.2=true->(bif decide ((c.length:Int)=1)then decide ((R.length:Int)=0)else false)=true->aH r.1 Ms.length=true/\aH 0 c.length=true:=by
         intro ag aK;constructor
         . rcases z with⟨k,Y,_,_,rfl⟩|⟨_,rfl⟩
           . exact aQ Y
           . cases ag
         . by_cases af:c.length=1
           . exact aQ (k:=0) (by omega)
           grind
        have T:decide ((R.length:Int)=1)=true->aH 0 R.length=true:=by
         intro h;have:=gZ h;exact aQ (k:=0) (by omega)
        obtain⟨ab,kq⟩:=r;refine⟨if kq then(bif decide ((c.length:Int)=1)then decide ((R.length:Int)=0)else false)&&f else(bif d then(!plain)else false)&&(bif decide (1<=ad)then decide (ad<=1000)else false)&&decide ((c.length:Int)=0)&&decide ((R.length:Int)=1)&&decide ((R.getD (0:Int).toNat b5).ad=ad),?_,?_⟩
        . show(hl (⟨6,N,L,H,M,S,Ms,g,E,d⟩,ad)>>=_)=_;rw[n];cases kq with
          |true=>exact Fg _ (aH ab Ms.length) (aH 0 c.length) f (λh=>(U h).1) (V rfl)
          |false=>exact Fh (bif d then(!plain)else false) (bif decide (1<=ad)then decide (ad<=1000)else false) (decide ((c.length:Int)=0)) (decide ((R.length:Int)=1)) (aH 0 R.length) (decide ((R.getD (0:Int).toNat b5).ad=ad)) T
        . show(if(bif (bif false then true else(!true))then true else(bif plain then (0<(R.length:Int):Bool)else false)) then some false else hJ (⟨6,N,L,H,M,S,Ms,g,E,d⟩,ad)>>=_)=_;rw[o];cases aJ:(bif plain then decide (0<(R.length:Int))else false)with
          |true=>
           have ar:plain=true:=(by grind);subst ar;have aI:decide ((R.length:Int)=0)=false:=(by grind);grind
          |false=>
           cases kq with
           |true=>exact Fg _ (aH ab Ms.length) (aH 0 c.length) f (λh=>(U h).2) (V rfl)
           |false=>exact Fh (bif d then(!plain)else false) (bif decide (1<=ad)then decide (ad<=1000)else false) (decide ((c.length:Int)=0)) (decide ((R.length:Int)=1)) (aH 0 R.length) (decide ((R.getD (0:Int).toNat b5).ad=ad)) T
       . obtain rfl:R=[]:=u (by decide) (by decide);obtain⟨r,n,o⟩:=G E plain;cases plain
         . exact⟨_,e4 n _,e4 o _⟩
         . exact⟨_,e4 n _,e4 o _⟩
       . obtain rfl:R=[]:=u (by decide) (by decide);obtain⟨k,Y,Z⟩:=an g plain;obtain⟨i,aT,X⟩:=G E plain;have ao:=aau (ts:=ts) (t:=⟨8,N,L,H,M,S,Ms,g,E,d⟩) (v:=⟨8,B,cA,l,ad,e,c,[]⟩) (dB h1) am plain;obtain⟨q,aY,aa⟩:∃q:Bool,kP (plain,1,ts,⟨8,B,cA,l,ad,e,c,[]⟩,8,N,L,H,M,S,Ms,g,E,d)=some (if q then .inr (plain,ts,⟨8,B,cA,l,ad,e,c,[]⟩,8,N,L,H,M,S,Ms,g,E,d)else .inl false)/\h6 (1,⟨8,B,cA,l,ad,e,c,[]⟩)=some (if q then .inr ()else .inl false):=by
          rcases ao with⟨a,b⟩|⟨a,b⟩
          . simp_all
          simp_all
         refine⟨!(bif decide (M<(e.length:Int))then true else(!(decide ((c.length:Int)=(e.length:Int)))))&&k&&q&&i,?_,?_⟩
         . show(some (bif decide (M<(e.length:Int))then true else(!(decide ((c.length:Int)=(e.length:Int)))))>>=λt270=>(if !t270 then q0 ((⟨ts⟩:aS),g,e,plain)else some false)>>=λaG=>if(bif t270 then true else(!aG)) then some false else kP (plain,1,ts,⟨8,B,cA,l,ad,e,c,[]⟩,8,N,L,H,M,S,Ms,g,E,d)>>=_)=_;grind
         . cases plain
           . exact RR (bif decide (M<(e.length:Int))then true else(!(decide ((c.length:Int)=(e.length:Int))))) Z X aa
           . exact RR (bif decide (M<(e.length:Int))then true else(!(decide ((c.length:Int)=(e.length:Int))))) Z X aa
       . obtain rfl:R=[]:=u (by decide) (by decide);obtain⟨r,n,o⟩:=G E plain;cases plain
         . exact⟨_,e4 n _,e4 o _⟩
         . exact⟨_,e4 n _,e4 o _⟩
    . exact⟨false,by simp[w],by simp[w]⟩
theorem vO{U:cM}{t:aK}{l:List (t.den U.D)}(h:WF U ⟨.slice t,l⟩):l.length<=reachBytes/\l.length*t.bytes U<=reachBytes/\∀x,x∈l->∀c,c∈t.row U x->WF U c:=by cases h with|slice t l h1 a b=>exact⟨h1,a,b⟩
theorem Kl(s:aS):(⟨s.Types⟩:aS)=s:=by cases s;rfl
def fe(n:Nat):aj:=if n=0 then[]else fe (n/256)++[UInt8.ofNat (n%256)]
termination_by n
decreasing_by omega
theorem Mf:∀(l:List α) (k:Nat) (x:α),k<l.length->(l.set k x).drop k=x::l.drop (k+1)
 |[],k,x,h=>by simp at h
 |a::l,0,x,h=>by simp
 |a::l,k+1,x,h=>by simp[Mf l k x (by simpa using h)]
theorem ag1(n:Nat):lA .u64 (n:Int) 8=((n/256:Nat):Int):=by
 unfold lA;have:((2:Int)^min (8:Int).toNat IntKind.u64.bits)=256:=by decide
 grind
theorem OM:∀(i n:Nat) (b:aq),n<256^i->i<=8->b.length=8->∃(c:Nat) (a:aq),te ((n:Int),(i:Int),b)=some ((c:Int),a)/\c<=8/\a.length=8/\strOf (a.drop c)=fe n++strOf (b.drop i)
 |i,n,b,aE,d,e=>by
  rw[te];by_cases h0:n=0
  . subst h0;rw[bx];refine⟨i,b,rfl,d,e,?_⟩;rw[fe,ae rfl];rfl
  . rw[bz]
    match i,aE,d with
    |0,aE,d=>simp at aE;omega
    |i+1,aE,d=>
     have hs:dj .i64 ((i+1:Nat):Int) 1=(i:Int):=by rw[hP];omega
     simp only[aT,ao];rw[hs,ae (aQ (by omega)),ae (by simp[e];omega),ag1,w4,bc];have aC:n/256<256^i:=(by omega);obtain⟨c,a,h1,f,g,j⟩:=OM i (n/256) (b.set i ((n%256:Nat):Int)) aC (by omega) (by simp[e]);refine⟨c,a,h1,f,g,?_⟩;rw[j,Mf _ _ _ (by omega),ZR]
     conv=>rhs;rw[fe,ak h0]
     grind
theorem DZ{n:Nat}(aE:n<18446744073709551616):zb (n:Int)=some (fe n):=by
 have e:(256:Nat)^8=18446744073709551616:=by decide
 obtain⟨c,d,h1,k,a,g⟩:=OM 8 n [0,0,0,0,0,0,0,0] (by rw[e];exact aE) (by omega) rfl;have f:te ((n:Int),8,[0,0,0,0,0,0,0,0])=some ((c:Int),d):=h1;rw[zb,f];simp only[aT,ao,bc];have j:dY (c:Int) 8 8=true:=jR (b:=8) (by omega) (by omega);have i:(8:Int).toNat=8:=rfl;rw[ae j,i,ae (by simp[w0,a];omega)];rw[oq (by simp[a]),g];simp[strOf]
theorem vP:∀(f n:Nat),n<256^f->(fe n).length<=f
 |0,n,h=>by
  have:n=0:=by simpa using h
  subst this;rw[fe,ae rfl];simp
 |f+1,n,h=>by
  rw[fe];split
  . simp
  . have:=vP f (n/256) (by omega);simp;omega
theorem Le:∀(f n:Nat) (a:aj),n<256^f->n<18446744073709551616->a.length+f<=1000->vb ((n:Int),a)=some (fe n++a)
 |f,n,a,aE,j,c=>by
  rw[vb];by_cases h0:n=0
  . subst h0;rw[bx,fe,ae rfl];rfl
  . rw[bz]
    match f,aE,c with
    |0,aE,c=>simp at aE;omega
    |f+1,aE,c=>
     have i:b' (n:Int) 256=((n%256:Nat):Int):=Az (b:=256);have g:fC .u64 (n:Int) 256=((n/256:Nat):Int):=by
      unfold fC;have e:(n:Int).tdiv 256=((n/256:Nat):Int):=by rw[yG (by omega)];omega
      rw[e];exact kZ
     have d:strOf [((n%256%256:Nat):Int)]=[UInt8.ofNat (n%256)]:=by
      have:n%256%256=n%256:=(by omega);rw[this];rfl
     simp only[aT,ao];rw[i,g,w4,d,ae (gf (by simp;omega))];have aC:n/256<256^f:=(by omega);rw[Le f (n/256) _ aC (by omega) (by simp;omega)]
     conv=>rhs;rw[fe,ak h0]
     grind
theorem Lf{n:Nat}(aE:n<18446744073709551616):zi (n:Int)=some (fe n):=by
 have e:(256:Nat)^8=18446744073709551616:=by decide
 rw[zi,Le 8 n [] (by rw[e];exact aE) aE (by simp)];simp
end
section
open Go Go.Proofs.YtdjagncoefjfeaaGreat.Shv Go.Sort
set_option maxRecDepth 100000
variable{c α:Type}{v:I}{ms:List aR}{id:Int}{P:Prop}{L:Nat->Option (Bool ⊕ Unit)}{o:Option (Bool ⊕ Unit)}{t:ah}
section
variable {α:Type}
theorem Mg{a:Type}{f g:a->List c}:∀{l:List a},(∀x,x∈l->f x=g x)->l.flatMap f=l.flatMap g
 |[],_=>rfl
 |x::l,h=>by
  simp only[eX];rw[h x (.head _),Mg λy b=>h y (.tail _ b)]
theorem Km(x:α)(n:Nat)(f:Nat->List α):∀(ks:a6),ks.Nodup->n∈ks->(ks.flatMap λi=>if n=i then x::f i else f i).Perm (x::ks.flatMap f)
 |[],_,h=>by cases h
 |k::ks,aE,h=>by
  rw[List.nodup_cons]at aE;simp only[eX];by_cases e:n=k
  . rw[ae e];have:(ks.flatMap λi=>if n=i then x::f i else f i)=ks.flatMap f:=Mg λy b=>by grind
    simp_all
  . rw[ak e];have a:n∈ks:=(eU.1 h).resolve_left e;refine((Km x n f ks aE.2 a).append_left (f k)).trans ?_;simp_all
theorem Kn(key:α->Nat)(ks:a6)(aE:ks.Nodup):∀l:List α,(∀x,x∈l->key x∈ks)->(ks.flatMap λi=>l.filter λx=>decide (key x=i)).Perm l
 |[],_=>by simp
 |x::l,h=>by
  have e:(λi=>(x::l).filter λy=>decide (key y=i))=λi=>if key x=i then x::(l.filter λy=>decide (key y=i))else l.filter λy=>decide (key y=i):=by grind
  rw[e];exact(Km x (key x) _ ks aE (h x (.head _))).trans ((Kn key ks aE l λy a=>h y (.tail _ a)).cons x)
theorem XZ(key:α->Nat)(a n:Nat)(l:List α):((List.range' a n).flatMap λi=>l.filter λx=>decide (key x=i)).Pairwise (λx y=>decide (key y<key x)=false):=by
 rw[List.pairwise_flatMap];constructor
 . intro i b;rw[List.pairwise_iff_forall_sublist];grind
 . refine(List.pairwise_lt_range' (s:=a) (n:=n)).imp ?_;grind
theorem Mh[Inhabited α][Inhabited c]{lt:α->α->Bool}{d:c->c->Bool}(g:α->c)(h:∀a b,d (g a) (g b)=lt a b):∀l,gX d (l.map g)=(gX lt l).map g
 |[]=>rfl
 |x::l=>by
  have key:∀r,oi d (g x) (r.map g)=(oi lt x r).map g:=by
   intro r;induction r with
   |nil=>rfl
   |cons y r ih=>
    simp only[oi,List.map];grind
  simp only[gX,List.map];rw[Mh g h l,key]
theorem Lg[Inhabited α]{lt:α->α->Bool}:∀{l:List α},l.Pairwise (λx y=>lt x y=true\/lt y x=true)->kh lt l=true
 |[],_=>rfl
 |x::l,h=>by
  rw[hV]at h;simp only[kh,cd,c0,hW];exact⟨h.1,Lg h.2⟩
end
mutual
def wt:I->Nat
 |⟨_,_,_,s,_,ks,a,r⟩=>10+s.length+(r.map λx=>x.Data.length+1).sum+cK ks+cK a
def cK:List I->Nat
 |[]=>0
 |v::l=>wt v+cK l
end
structure Fd where
 id:Nat
 c:Bool
 p:aj
instance:Inhabited Fd:=⟨⟨0,false,[]⟩⟩
def fp(a b:Fd):Bool:=decide (a.id<b.id)
def Fd.text(f:Fd):aj:=fa f.id f.c f.p
def gj:List aj->List aj->aj
 |k::ks,v::vs=>dg k++(dg v++gj ks vs)
 |_,_=>[]
def cz(l:List aR)(id:Int):Option aR:=l.find? λm=>decide (m.ad=id)
open Classical in
noncomputable def c7 (m:aR)(v:I):Bool:=m.bZ&&decide (m.bu=v)
def j0(r:bX):Fd:=⟨r.ad.toNat,false,r.Data⟩
mutual
noncomputable def br (ts:List ah)(t:Int):I->aj
 |⟨_,b,i,s,id,ks,a,r⟩=>
  let x:=ts.getD t.toNat aN
  if x.Kind=1 then(if b then[1]else[])
  else if x.Kind=2 then fe (fF i).toNat
  else if x.Kind=3 then s
  else if x.Kind=4 then fe id.toNat
  else if x.Kind=5 then(gX fp (dd ts x.ag a++r.map j0)).flatMap Fd.text
  else if x.Kind=6 then dM id.toNat++(match cz x.ag id with
   |some m=>(bF ts m.av a).headD []
   |none=>(r.map bX.Data).headD [])
  else if x.Kind=7 then(bF ts x.aG a).flatMap dg
  else if x.Kind=8 then gj (bF ts x.Key ks) (bF ts x.aG a)
  else match bF ts x.aG a with
   |[]=>[]
   |p::_=>1::p
noncomputable def bF (ts:List ah)(t:Int):List I->List aj
 |[]=>[]
 |v::l=>br ts t v::bF ts t l
noncomputable def dd (ts:List ah):List aR->List I->List Fd
 |m::ms,v::l=>if c7 m v then dd ts ms l else⟨m.ad.toNat,m.cf,br ts m.av v⟩::dd ts ms l
 |_,_=>[]
end
mutual
noncomputable def dL (ts:List ah)(t:Int):I->Nat
 |⟨_,_,_,_,id,ks,a,_⟩=>
  let x:=ts.getD t.toNat aN
  1+max (if ks=[]then 0 else 1) (if x.Kind=5 then fD ts x.ag a
   else if x.Kind=6 then(match cz x.ag id with
    |some m=>dR ts m.av a
    |none=>0)
   else dR ts x.aG a)
noncomputable def dR (ts:List ah)(t:Int):List I->Nat
 |[]=>0
 |v::l=>max (dL ts t v) (dR ts t l)
noncomputable def fD (ts:List ah):List aR->List I->Nat
 |m::ms,v::l=>if c7 m v then fD ts ms l else max (dL ts m.av v) (fD ts ms l)
 |_,_=>0
end
def cj(n:Int):Prop:=1<=n/\n<=1000
def jU(ms:List aR)(r:List bX):Prop:=r.Pairwise (λa b=>a.ad<b.ad)/\∀x,x∈r->cj x.ad/\cz ms x.ad=none
def hc(a b:I):Int:=(p3 (a,b)).getD 0
def jS(ks:List I):Prop:=∀i,i+1<ks.length->hc (ks.getD i au) (ks.getD (i+1) au)<0
mutual
def b6(ts:List ah)(pl:Bool)(t:Int):I->Prop
 |⟨k,b,i,s,id,ks,a,r⟩=>
  let x:=ts.getD t.toNat aN
  (0<=t/\t<ts.length/\k=x.Kind/\(pl=true->r=[]))/\
  (k=1/\i=0/\s=[]/\id=0/\ks=[]/\a=[]/\r=[]\/
  k=2/\b=false/\s=[]/\id=0/\ks=[]/\a=[]/\r=[]/\x.bC<=i/\i<=x.bG\/
  k=3/\b=false/\i=0/\id=0/\ks=[]/\a=[]/\r=[]/\(s.length:Int)<=x.Max\/
  k=4/\b=false/\i=0/\s=[]/\ks=[]/\a=[]/\r=[]/\((∃y,y∈x.bj/\y.ad=id)\/x.Open=true/\pl=false/\cj id)\/
  k=5/\b=false/\i=0/\s=[]/\id=0/\ks=[]/\jU x.ag r/\hC ts pl x.ag a\/
  k=6/\b=false/\i=0/\s=[]/\ks=[]/\(match cz x.ag id with
   |some m=>r=[]/\a.length=1/\e7 ts pl m.av a
   |none=>x.Open=true/\pl=false/\cj id/\a=[]/\∃d,r=[⟨id,d⟩])\/
  k=7/\b=false/\i=0/\s=[]/\id=0/\ks=[]/\r=[]/\(a.length:Int)<=x.Max/\e7 ts pl x.aG a\/
  k=8/\b=false/\i=0/\s=[]/\id=0/\r=[]/\(ks.length:Int)<=x.Max/\a.length=ks.length/\e7 ts pl x.Key ks/\e7 ts pl x.aG a/\jS ks\/
  k=9/\b=false/\i=0/\s=[]/\id=0/\ks=[]/\r=[]/\a.length<=1/\e7 ts pl x.aG a)
def e7(ts:List ah)(pl:Bool)(t:Int):List I->Prop
 |[]=>True
 |v::l=>b6 ts pl t v/\e7 ts pl t l
def hC(ts:List ah)(pl:Bool):List aR->List I->Prop
 |m::ms,v::l=>b6 ts pl m.av v/\hC ts pl ms l
 |[],[]=>True
 |_,_=>False
end
theorem fw(v:I):wt v=10+v.bn.length+(v.Rest.map λx=>x.Data.length+1).sum+cK v.aw+cK v.ai:=by cases v;rw[wt]
theorem hn(v:I)(l:List I):cK (v::l)=wt v+cK l:=by rw[cK]
theorem gM:cK []=0:=by rw[cK]
theorem e':∀{l:List I} {x:I},x∈l->wt x<=cK l
 |y::l,x,h=>by
  rw[hn];rcases eU.1 h with rfl|h
  . omega
  . have:=e' h;omega
theorem Ko{p:aj}(h:p.length<1152921504606846976):(dg p).length<=p.length+10:=by
 have:=kc (n:=p.length) (by omega);unfold dg;simp;omega
theorem Mi{f:Fd}(h:f.p.length<1152921504606846976)(a:f.id<=9223372036854775807):f.text.length<=f.p.length+20:=by
 have:=Ko h;have:=kc (n:=2*f.id+(if f.c then 1 else 0)) (by split<;>omega);unfold Fd.text fa;simp only[cJ];omega
theorem Ti{f:α->List c}{a b:List α}(h:a.Perm b):(a.flatMap f).length=(b.flatMap f).length:=(h.flatMap_right f).length_eq
theorem wN{n:Int}(h:cy n):(fF n).toNat<18446744073709551616:=by
 unfold fF cy at*;split<;>omega
section
variable {ts:List ah}
def xe(ts:List ah)(v:I):Prop:=∀t,(br ts t v).length+20<=21*wt v
theorem Iw:∀{l:List I} {t:Int},cK l<=1099511627776->(∀x,x∈l->xe ts x)->((bF ts t l).flatMap dg).length<=21*cK l
 |[],t,_,_=>by rw[bF];simp
 |v::l,t,a,h=>by
  rw[bF,eX,cJ];rw[hn]at a⊢;have h1:=h v (.head _) t;have c:=Iw (t:=t) (by omega) λx b=>h x (.tail _ b);have d:=Ko (p:=br ts t v) (by omega);omega
theorem jx:∀{l:List I} {t:Int},(bF ts t l).length=l.length
 |[],t=>by rw[bF];rfl
 |v::l,t=>by rw[bF,gQ,gQ,jx]
theorem Dd:∀{l:List I} {t:Int},bF ts t l=l.map (br ts t)
 |[],t=>by rw[bF];rfl
 |v::l,t=>by rw[bF,List.map,Dd]
theorem HT:∀(a b:List aj),(gj a b).length<=(a.flatMap dg).length+(b.flatMap dg).length
 |[],b=>by simp[gj]
 |k::ks,[]=>by simp[gj]
 |k::ks,v::vs=>by
  have:=HT ks vs;simp only[gj,eX,cJ];omega
theorem Lh:∀{ms:List aR} {l:List I},cK l<=1099511627776->(∀m,m∈ms->m.ad<=1000)->(∀x,x∈l->xe ts x)->((dd ts ms l).flatMap Fd.text).length<=21*cK l
 |[],l,_,_,_=>by rw[dd]<;>simp
 |m::ms,[],_,_,_=>by rw[dd]<;>simp
 |m::ms,v::l,c,b,h=>by
  rw[hn]at c⊢;rw[dd];have h1:=h v (.head _) m.av;have d:=Lh (ms:=ms) (l:=l) (by omega) (λx a=>b x (.tail _ a)) λx a=>h x (.tail _ a);have g:=b m (.head _);split
  . omega
  . rw[eX,cJ];have e:=Mi (f:=⟨m.ad.toNat,m.cf,br ts m.av v⟩) (by show(br ts m.av v).length<_;omega) (by show m.ad.toNat<=_;omega);grind
theorem Mj:∀{l:List bX},(∀x,x∈l->x.Data.length<=reachBytes/\x.ad<=9223372036854775807)->True->((l.map j0).flatMap Fd.text).length<=21*(l.map λx=>x.Data.length+1).sum
 |[],_,_=>by simp
 |r::l,h,_=>by
  have h1:=h r (.head _);have c:=Mj (l:=l) (λx b=>h x (.tail _ b)) trivial;unfold reachBytes at h1;have a:=Mi (f:=j0 r) (by show r.Data.length<_;omega) (by show r.ad.toNat<=_;omega);have d:(j0 r).text.length<=r.Data.length+20:=a;grind
def PW(ts:List ah):Prop:=∀x,x∈ts->∀m,m∈x.ag->m.ad<=1000
theorem Zc(l:List α)(i:Nat)(d:α):l.getD i d∈l\/l.getD i d=d:=by grind
theorem Li{l:List aj}{n:Nat}(h:∀x,x∈l->x.length<=n):(l.headD []).length<=n:=by
 cases l with
 |nil=>simp
 |cons x l=>exact h x (.head _)
theorem Oj:∀{l:a6} {n:Nat},n∈l->n<=l.sum
 |a::l,n,h=>by
  rw[oy];rcases eU.1 h with rfl|h
  . omega
  . have:=Oj h;omega
theorem aa9(g:PW ts)(h:bK v):wt v<=1099511627776->xe ts v:=by
 induction h with
 |mk v hs h1 C D G F k c9 u M w o n=>
  intro H t;have J:=fw v;have f:∀x,x∈v.aw->xe ts x:=λx a=>o x a (by have:=e' a;omega);have d:∀x,x∈v.ai->xe ts x:=λx a=>n x a (by have:=e' a;omega);have A:=λt=>Iw (t:=t) (l:=v.aw) (by omega) f;have oL:=λt=>Iw (t:=t) (l:=v.ai) (by omega) d;have a:∀m,m∈(ts.getD t.toNat aN).ag->m.ad<=1000:=by
   rcases Zc ts t.toNat aN with h|h
   . exact g _ h
   . rw[h];intro m j;cases j
  have B:∀t,((bF ts t v.ai).headD []).length+20<=21*cK v.ai+20:=λt=>by
   have:((bF ts t v.ai).headD []).length<=21*cK v.ai:=Li λp c=>by
    rw[Dd]at c;obtain⟨x,a,rfl⟩:=eJ.1 c;have:=d x a t;have:=e' a;omega
   omega
  have fH:((v.Rest.map j0).flatMap Fd.text).length<=21*(v.Rest.map λx=>x.Data.length+1).sum:=Mj (λx a=>⟨k x a,(w x a).2⟩) trivial;have z:=Lh (ts:=ts) (ms:=(ts.getD t.toNat aN).ag) (l:=v.ai) (by omega) a d;have y:((v.Rest.map bX.Data).headD []).length<=(v.Rest.map λx=>x.Data.length+1).sum:=Li λp c=>by
   obtain⟨x,a,rfl⟩:=eJ.1 c;have:x.Data.length+1<=(v.Rest.map λx=>x.Data.length+1).sum:=Oj (eJ.2 ⟨x,a,rfl⟩);omega
  obtain⟨K,b,i,s,id,ks,q,r⟩:=v;simp only at*;rw[br];have L:=vP 8 _ (wN u);have e:id.toNat<18446744073709551616:=by omega
  have E:=vP 8 _ e;have c:=kc e;generalize ts.getD t.toNat aN=x at*;split
  . grind
  . split
    . omega
    . split
      . omega
      . split
        . omega
        . split
          . rw[Ti (mK _ _),FC,cJ];omega
          . split
            . grind
            . split
              . grind
              . split
                . have:=HT (bF ts x.Key ks) (bF ts x.aG q);grind
                grind
end
section
variable (ts:List ah)
mutual
theorem Su:∀(v:I) (t:Int),dL ts t v<=wt v
 |⟨_,_,_,_,id,ks,a,_⟩,t=>by
  rw[dL,wt];have h1:=G3 a;have c:=G2 a;grind
theorem G3:∀(l:List I) (t:Int),dR ts t l<=cK l
 |[],t=>by rw[dR];omega
 |v::l,t=>by
  rw[dR,cK];have:=Su v t;have:=G3 l t;omega
theorem G2:∀(l:List I) (ms:List aR),fD ts ms l<=cK l
 |[],ms=>by rw [fD]; · omega
            . intros;simp_all
 |v::l,[]=>by rw [fD]; · omega
              . intros;simp_all
 |v::l,m::ms=>by
  rw[fD,cK];have:=Su v m.av;have:=G2 l ms;grind
end
end
theorem ON(v:I):10<=wt v:=by rw[fw];omega
section
variable {ts:List ah}
theorem wv:∀{ms:List aR} {l:List I} {x:Fd},x∈dd ts ms l->∃m,m∈ms/\x.id=m.ad.toNat
 |[],l,x,h=>by
  rw[dd]at h
  . cases h
  grind
 |m::ms,[],x,h=>by
  rw[dd]at h
  . cases h
  grind
 |m::ms,v::l,x,h=>by
  rw[dd]at h;split at h
  . obtain⟨b,h1,a⟩:=wv h;grind
  . rcases eU.1 h with rfl|h
    . grind
    . obtain⟨b,h1,a⟩:=wv h;grind
theorem Kp{l:List I}{n:Nat}(h:∀m,m∈ms->m.ad.toNat≠n):((dd ts ms l).filter λx=>decide (x.id=n))=[]:=by
 rw[List.filter_eq_nil_iff];intro x a;obtain⟨m,h1,b⟩:=wv a;grind
theorem JA:∀{ms:List aR} {l:List I} {n j:Nat},ms.Pairwise (λa b=>a.ad.toNat≠b.ad.toNat)->l.length=ms.length->j<ms.length->(ms.getD j ay).ad.toNat=n->
 ((dd ts ms l).filter λx=>decide (x.id=n))=if c7 (ms.getD j ay) (l.getD j au) then[]else[⟨n,(ms.getD j ay).cf,br ts (ms.getD j ay).av (l.getD j au)⟩]
 |[],l,n,j,_,_,d,_=>by cases d
 |m::ms,[],n,j,_,af,_,_=>by cases af
 |m::ms,v::l,n,0,c,af,d,he=>by
  rw[hV]at c;simp only[km]at he⊢;have aE:=Kp (ts:=ts) (l:=l) (ms:=ms) (n:=n) λx g=>by have:=c.1 x g;omega
  rw[dd];grind
 |m::ms,v::l,n,j+1,c,af,d,he=>by
  rw[hV]at c;simp only[yq]at he⊢;have e:j<ms.length:=by simpa using d
  have f:ms.getD j ay∈ms:=by grind
  have i:=c.1 _ f;have ih:=JA (l:=l) c.2 (by simpa using af) e he;rw[dd];grind
theorem Zd(l:List bX)(n:Nat)(h:∀x,x∈l->0<=x.ad):((l.map j0).filter λx=>decide (x.id=n))=(l.filter λx=>decide (x.ad=(n:Int))).map j0:=by
 rw[List.filter_map]
 congr 1
 apply List.filter_congr;intro x a;have:=h x a;show decide (x.ad.toNat=n)=_;grind
noncomputable def fk (ts:List ah)(ms:List aR)(l:List I)(r:List bX):List Fd:=dd ts ms l++r.map j0
def gT(ms:List aR):Prop:=ms.Pairwise (λa b=>a.ad<b.ad)/\∀m,m∈ms->cj m.ad
theorem Ol(h:gT ms):ms.Pairwise (λa b=>a.ad.toNat≠b.ad.toNat):=by
 refine h.1.imp_of_mem λ{a b} c d aC=>?_;have:=h.2 a c;have:=h.2 b d;unfold cj at*;omega
theorem Iy:∀{ms:List aR} {l:List I},ms.Pairwise (λa b=>a.ad.toNat≠b.ad.toNat)->(dd ts ms l).Pairwise (λa b=>a.id≠b.id)
 |[],l,_=>by
  rw[dd]
  . exact .nil
  grind
 |m::ms,[],_=>by
  rw[dd]
  . exact .nil
  grind
 |m::ms,v::l,h=>by
  rw[hV]at h;rw[dd];split
  . exact Iy h.2
  . rw[hV];refine⟨λx c=>?_,Iy h.2⟩;obtain⟨e,h1,d⟩:=wv c;grind
theorem nI(h:cz ms id=none):∀m,m∈ms->m.ad≠id:=by
 unfold cz at h;grind
theorem vt{l:List I}{r:List bX}(h:gT ms)(c:jU ms r):kh fp (fk ts ms l r)=true:=by
 apply Lg;have key:(fk ts ms l r).Pairwise (λa b=>a.id≠b.id):=by
  unfold fk;rw[FB];refine⟨Iy (Ol h),?_,?_⟩
  . rw[ov];refine c.1.imp_of_mem λ{a b} e f aC=>?_;have:=(c.2 a e).1;have:=(c.2 b f).1;show a.ad.toNat≠b.ad.toNat;unfold cj at*;omega
  . intro x g y i;obtain⟨m,h1,j⟩:=wv g;obtain⟨q,d,rfl⟩:=eJ.1 i;have k:=nI (c.2 q d).2 m h1;have:=h.2 m h1;have:=(c.2 q d).1;show x.id≠q.ad.toNat;unfold cj at*;omega
 refine key.imp λ{a b} n=>?_;simp only[fp,dw];omega
theorem GR{l:List I}{r:List bX}(h:gT ms)(c:jU ms r){x:Fd}(a:x∈fk ts ms l r):1<=x.id/\x.id<=1000:=by
 rcases fY.1 a with a|a
 . obtain⟨m,h1,d⟩:=wv a;have:=h.2 m h1;unfold cj at*;omega
 . obtain⟨q,b,rfl⟩:=eJ.1 a;have:=(c.2 q b).1;unfold cj at*;show 1<=q.ad.toNat/\q.ad.toNat<=1000;omega
theorem Om:SWO fp:=by refine⟨λx=>?_,λx y z h1 a=>?_,λx y z h1 a=>?_⟩<;>simp[fp]at*<;>omega
theorem W1{l:List Fd}(a:kh fp l=true)(b:∀x,x∈l->1<=x.id/\x.id<=1000):
 gX fp l=(List.range' 1 1000).flatMap λn=>l.filter λx=>decide (x.id=n):=by
 refine Jv a (mK _ _) (Kn Fd.id _ List.nodup_range' l λx c=>?_) (CP Om l) (XZ Fd.id 1 1000 l);have:=b x c;rw[List.mem_range'_1];omega
end
section
variable {ts:List ah}{pl:Bool}
theorem cN:∀{l:List I} {t:Int},e7 ts pl t l↔∀x,x∈l->b6 ts pl t x
 |[],t=>by rw[e7];simp
 |v::l,t=>by
  rw[e7,cN];grind
theorem h9:∀{ms:List aR} {l:List I},hC ts pl ms l↔l.length=ms.length/\∀i,i<ms.length->b6 ts pl (ms.getD i ay).av (l.getD i au)
 |[],[]=>by
  have:hC ts pl [] []=True:=by rw[hC]
  grind
 |[],v::l=>by
  have:hC ts pl [] (v::l)=False:=by rw[hC]<;>(intros;simp_all)
  grind
 |m::ms,[]=>by
  have:hC ts pl (m::ms) []=False:=by rw[hC]<;>(intros;simp_all)
  grind
 |m::ms,v::l=>by
  rw[hC,h9];constructor
  . grind
  . rintro ⟨h1,a⟩
    exact⟨a 0 (by simp),by simpa using h1,λi b=>a (i+1) (by simpa using b)⟩
end
def dk(o:Option Bool)(P:Prop):Prop:=∃r,o=some r/\(r=true↔P)
theorem dk.imp{o:Option Bool}{Q:Prop}(h:dk o P)(e:P↔Q):dk o Q:=by grind
theorem dk.of{b:Bool}(e:b=true↔P):dk (some b) P:=⟨b,rfl,e⟩
theorem dk.loop{n:Nat}{p:Nat->Bool}{g:Unit}(h0:o=L 0)(f:∀i,i<n->L i=if p i then L (i+1)else some (.inl false))(e:L n=some (.inr g)):
 dk (o>>=λo=>match o with|.inl x=>some x|.inr _=>some true) (∀i,i<n->p i=true):=by
 subst h0;rcases scan L n p (.inl false) (.inr g) f e with⟨h1,a⟩|⟨h1,j,a,c⟩
 . rw[h1];exact⟨true,rfl,by simpa using a⟩
 . rw[h1];refine⟨false,rfl,?_⟩;constructor
   . intro h;cases h
   . intro h;have:=h j a;rw[c]at this;cases this
theorem Eb(f:α->Int)(d:α):∀l:List α,l.Pairwise (λa b=>f a<f b)↔∀i,i+1<l.length->f (l.getD i d)<f (l.getD (i+1) d)
 |[]=>by simp
 |[a]=>by simp
 |a::b::l=>by
  rw[hV,Eb f d (b::l)];constructor
  . rintro ⟨h1,c⟩ i e
    cases i with
    |zero=>exact h1 b (.head _)
    |succ i=>exact c i (by simpa using e)
  . intro h;have c:∀i,i+1<(b::l).length->f ((b::l).getD i d)<f ((b::l).getD (i+1) d):=λi e=>h (i+1) (by simpa using e);refine⟨λx j=>?_,c⟩;have h0:=h 0 (by simp);simp only[km,yq]at h0;have g:=(Eb f d (b::l)).2 c;rw[hV]at g;grind
section
variable {ts:List ah}
def EB(ts:List ah)(x:I):Prop:=∀t pl,dk (iK ((⟨ts⟩:aS),t,x,pl)) (b6 ts pl t x)
theorem Mk{l:List I}(af:l.length<=reachBytes)(ih:∀x,x∈l->EB ts x)(t:Int)(pl:Bool):dk (nE ((⟨ts⟩:aS),t,l,pl)) (e7 ts pl t l):=by
 have e:=dB af;let p:Nat->Bool:=λi=>(iK ((⟨ts⟩:aS),t,l.getD i au,pl)).getD false;have b:∀i,i<l.length->iK ((⟨ts⟩:aS),t,l.getD i au,pl)=some (p i)/\(p i=true↔b6 ts pl t (l.getD i au)):=by
  intro i a;obtain⟨r,h1,d⟩:=ih _ (bg a au) t pl;grind
 rw[nE];refine(dk.loop (L:=λi=>kJ (t,l,pl,(i:Int),ts)) (n:=l.length) (p:=p) (g:=()) rfl (λi a=>?_) ?_).imp ?_
 . show kJ (t,l,pl,(i:Int),ts)=if p i then kJ (t,l,pl,((i+1:Nat):Int),ts)else _
   rw[kJ,bz,ae (aQ a)];simp only[I.aU,bc];rw[(b i a).1,bH];grind
 . show kJ (t,l,pl,(l.length:Int),ts)=_;rw[kJ,bx]
 . rw[cN];constructor
   . intro h x c;obtain⟨i,a,rfl⟩:=e5 c;grind
   grind
theorem tj{l:List aR}{r:Int×Bool}(h:tW l id r):(r.2=true/\∃j:Nat,j<l.length/\r.1=(j:Int)/\cz l id=some (l.getD j ay)/\(l.getD j ay).ad=id)\/(r.2=false/\cz l id=none):=by
 rcases h with⟨j,h1,a,c,rfl⟩|⟨h1,rfl⟩
 . refine .inl ⟨rfl,j,h1,rfl,?_,a⟩;unfold cz;rw[B1];refine⟨by rw[dw];exact a,j,h1,(du h1 _).symm,λk e=>?_⟩;grind
 . refine .inr ⟨rfl,?_⟩;unfold cz;rw[yt];intro m b;obtain⟨i,d,rfl⟩:=e5 b;grind
theorem aav(ht:t.ag.length<9223372036854775807){l:List bX}(af:l.length<=reachBytes):dk (qH (t,l)) (jU t.ag l):=by
 have s:=dB af;rw[qH];let p:Nat->Bool:=λi=>!((hl (t,(l.getD i b5).ad)).getD (0,false)).2&&(bif decide (1<=(l.getD i b5).ad)then decide ((l.getD i b5).ad<=1000)else false)&&(!(decide ((0:Int)<(i:Int))) || !(decide ((l.getD i b5).ad<=(l.getD (dj .i64 (i:Int) 1).toNat b5).ad)));refine(dk.loop (L:=λi=>j9 (l,(i:Int),t)) (n:=l.length) (p:=p) (g:=()) rfl (λi c=>?_) ?_).imp ?_
 . show j9 (l,(i:Int),t)=if p i then j9 (l,((i+1:Nat):Int),t)else _
   obtain⟨r,h1,d,_⟩:=mI (t:=t) (l.getD i b5).ad ht;have f:p i=(!r.2&&(bif decide (1<=(l.getD i b5).ad)then decide ((l.getD i b5).ad<=1000)else false)&&(!(decide ((0:Int)<(i:Int))) || !(decide ((l.getD i b5).ad<=(l.getD (dj .i64 (i:Int) 1).toNat b5).ad)))):=(by simp only[p,h1,lx]);rw[f,j9,bz,ae (aQ c)];simp only[bc];rw[d,bH];have o:jv ((l.getD i b5).ad,r.2)=some ((!r.2)&&(bif decide (1<=(l.getD i b5).ad)then decide ((l.getD i b5).ad<=1000)else false)):=by
    rw[jv];grind
   show(if aH (i:Int) l.length then jv ((l.getD i b5).ad,r.2)>>=_ else none)=_;rw[ae (aQ c),o]
   exact Jz ((!r.2)&&(bif decide (1<=(l.getD i b5).ad)then decide ((l.getD i b5).ad<=1000)else false)) (aH (i:Int) l.length) (decide ((0:Int)<(i:Int))) (dj .i64 (i:Int) 1) (λj=>aH j l.length) (λj=>decide ((l.getD i b5).ad<=(l.getD j.toNat b5).ad)) _ _ (aQ c) (λk=>by
    have:0<i:=by simp at k;omega
    show aH _ _=true
    rw[q4 this (by omega)];exact aQ (by omega))
 . show j9 (l,(l.length:Int),t)=_;rw[j9,bx]
 . unfold jU;rw[Eb (λa:bX=>a.ad) b5];have key:∀i,i<l.length->(p i=true↔(cj (l.getD i b5).ad/\cz t.ag (l.getD i b5).ad=none)/\(i=0\/(l.getD (i-1) b5).ad<(l.getD i b5).ad)):=by
    intro i c;obtain⟨r,h1,d,m⟩:=mI (t:=t) (l.getD i b5).ad ht;have f:p i=(!r.2&&(bif decide (1<=(l.getD i b5).ad)then decide ((l.getD i b5).ad<=1000)else false)&&(!(decide ((0:Int)<(i:Int))) || !(decide ((l.getD i b5).ad<=(l.getD (dj .i64 (i:Int) 1).toNat b5).ad)))):=(by simp only[p,h1,lx]);rw[f];have aE:r.2=false↔cz t.ag (l.getD i b5).ad=none:=by
     rcases tj m with⟨a,j,_,_,b,_⟩|⟨a,b⟩
     . grind
     grind
    rw[<-aE];unfold cj;by_cases h0:i=0
    . grind
    . have k:decide ((0:Int)<(i:Int))=true:=by simp;omega
      rw[k,q4 (by omega) (by omega),bc];grind
   constructor
   . intro h;refine⟨λi c=>?_,λx q=>?_⟩
     . grind
     . obtain⟨i,c,rfl⟩:=e5 q;simp_all
   . rintro ⟨h1,d⟩ i c
     refine(key i c).2 ⟨d _ (bg c b5),?_⟩;by_cases h0:i=0
     . omega
     . right;have:=h1 (i-1) (by omega);have e:i-1+1=i:=(by omega);grind
theorem ZY(af:v.ai.length=t.ag.length)(e:t.ag.length<9223372036854775807)(ih:∀x,x∈v.ai->EB ts x)(pl:Bool):
 dk (jd (pl,0,ts,v,t.Kind,t.Name,t.bC,t.bG,t.Max,t.bj,t.ag,t.Key,t.aG,t.Open)>>=λo=>match o with|.inl c=>some c|.inr _=>some true) (hC ts pl t.ag v.ai):=by
 let p:Nat->Bool:=λi=>(iK ((⟨ts⟩:aS),(t.ag.getD i ay).av,v.ai.getD i au,pl)).getD false;have b:∀i,i<t.ag.length->iK ((⟨ts⟩:aS),(t.ag.getD i ay).av,v.ai.getD i au,pl)=some (p i)/\(p i=true↔b6 ts pl (t.ag.getD i ay).av (v.ai.getD i au)):=by
  intro i a;obtain⟨r,h1,d⟩:=ih _ (bg (by omega:i<v.ai.length) au) (t.ag.getD i ay).av pl;grind
 refine(dk.loop (L:=λi=>jd (pl,(i:Int),ts,v,t.Kind,t.Name,t.bC,t.bG,t.Max,t.bj,t.ag,t.Key,t.aG,t.Open)) (n:=t.ag.length) (p:=p) (g:=()) rfl (λi a=>?_) ?_).imp ?_
 . show jd (pl,(i:Int),ts,v,t.Kind,t.Name,t.bC,t.bG,t.Max,t.bj,t.ag,t.Key,t.aG,t.Open)=if p i then jd (pl,((i+1:Nat):Int),ts,v,t.Kind,t.Name,t.bC,t.bG,t.Max,t.bj,t.ag,t.Key,t.aG,t.Open)else _
   rw[jd,bz,ae (aQ a),ae (aQ (by omega))];simp only[bc,I.aU];rw[(b i a).1,bH];cases p i<;>rfl
 . show jd (pl,(t.ag.length:Int),ts,v,t.Kind,t.Name,t.bC,t.bG,t.Max,t.bj,t.ag,t.Key,t.aG,t.Open)=_;rw[jd,cp]
 . rw[h9];constructor
   . intro h;exact⟨af,λi a=>(b i a).2.1 (h i a)⟩
   . rintro ⟨_,h⟩ i a;exact(b i a).2.2 (h i a)
theorem aaw(m:v.aw.length<9223372036854775807)(b:∀x,x∈v.aw->bK x):
 dk (h6 (1,v)>>=λk=>match k with|.inl l=>some l|.inr _=>some true) (jS v.aw):=by
 by_cases h0:v.aw.length=0
 . rw[h6,ak (by simp[h0])];refine⟨true,rfl,?_⟩;unfold jS;simp only[true_iff];intro i a;omega
 refine(dk.loop (L:=λi=>h6 (((i+1:Nat):Int),v)) (n:=v.aw.length-1) (p:=λi=>!(decide (0<=hc (v.aw.getD i au) (v.aw.getD (i+1) au)))) (g:=()) rfl (λi a=>?_) ?_).imp ?_
 . show h6 (((i+1:Nat):Int),v)=if _ then h6 (((i+1+1:Nat):Int),v)else _
   have f:dj .i64 ((i+1:Nat):Int) 1=(i:Int):=by rw[q4 (by omega) (by omega)];simp
   obtain⟨r,c,d⟩:=CJ (v7 (b _ (bg (by omega:i<v.aw.length) au))) (v7 (b _ (bg (by omega:i+1<v.aw.length) au)));have j:hc (v.aw.getD i au) (v.aw.getD (i+1) au)=r:=by unfold hc;rw[c];rfl
   rw[j,h6,bz];simp only[aT,ao];rw[f,ae (aQ (by omega)),ae (aQ (by omega))];simp only[bc,I.aU];rw[d,bH];simp only[ao];cases decide (0<=r)<;>rfl
 . have e:v.aw.length-1+1=v.aw.length:=(by omega);show h6 (((v.aw.length-1+1:Nat):Int),v)=_;rw[e,h6,bx]
 . unfold jS;constructor
   . intro h i a;have:=h i (by omega);simpa using this
   . intro h i a;have:=h i (by omega);simpa using this
theorem eL(pl:Bool)(t:Int)(v:I):b6 ts pl t v↔
 (0<=t/\t<ts.length/\v.Kind=(ts.getD t.toNat aN).Kind/\(pl=true->v.Rest=[]))/\
 (v.Kind=1/\v.bf=0/\v.bn=[]/\v.ad=0/\v.aw=[]/\v.ai=[]/\v.Rest=[]\/
 v.Kind=2/\v.bL=false/\v.bn=[]/\v.ad=0/\v.aw=[]/\v.ai=[]/\v.Rest=[]/\(ts.getD t.toNat aN).bC<=v.bf/\v.bf<=(ts.getD t.toNat aN).bG\/
 v.Kind=3/\v.bL=false/\v.bf=0/\v.ad=0/\v.aw=[]/\v.ai=[]/\v.Rest=[]/\(v.bn.length:Int)<=(ts.getD t.toNat aN).Max\/
 v.Kind=4/\v.bL=false/\v.bf=0/\v.bn=[]/\v.aw=[]/\v.ai=[]/\v.Rest=[]/\((∃y,y∈(ts.getD t.toNat aN).bj/\y.ad=v.ad)\/(ts.getD t.toNat aN).Open=true/\pl=false/\cj v.ad)\/
 v.Kind=5/\v.bL=false/\v.bf=0/\v.bn=[]/\v.ad=0/\v.aw=[]/\jU (ts.getD t.toNat aN).ag v.Rest/\hC ts pl (ts.getD t.toNat aN).ag v.ai\/
 v.Kind=6/\v.bL=false/\v.bf=0/\v.bn=[]/\v.aw=[]/\(match cz (ts.getD t.toNat aN).ag v.ad with
  |some m=>v.Rest=[]/\v.ai.length=1/\e7 ts pl m.av v.ai
  |none=>(ts.getD t.toNat aN).Open=true/\pl=false/\cj v.ad/\v.ai=[]/\∃d,v.Rest=[⟨v.ad,d⟩])\/
 v.Kind=7/\v.bL=false/\v.bf=0/\v.bn=[]/\v.ad=0/\v.aw=[]/\v.Rest=[]/\(v.ai.length:Int)<=(ts.getD t.toNat aN).Max/\e7 ts pl (ts.getD t.toNat aN).aG v.ai\/
 v.Kind=8/\v.bL=false/\v.bf=0/\v.bn=[]/\v.ad=0/\v.Rest=[]/\(v.aw.length:Int)<=(ts.getD t.toNat aN).Max/\v.ai.length=v.aw.length/\e7 ts pl (ts.getD t.toNat aN).Key v.aw/\e7 ts pl (ts.getD t.toNat aN).aG v.ai/\jS v.aw\/
 v.Kind=9/\v.bL=false/\v.bf=0/\v.bn=[]/\v.ad=0/\v.aw=[]/\v.Rest=[]/\v.ai.length<=1/\e7 ts pl (ts.getD t.toNat aN).aG v.ai):=by
 cases v;rw[b6];try exact Iff.rfl
end
end
end Go.Proofs.YtdjagncoefjfeaaGreat
