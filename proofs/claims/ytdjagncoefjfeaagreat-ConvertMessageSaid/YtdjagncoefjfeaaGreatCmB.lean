/- The functions of the program as functions of Lean, that its code does what they say, and what they answer; part B. -/
import Derived.Test.YtdjagncoefjfeaaGreatCmA

namespace Go.Proofs.YtdjagncoefjfeaaGreat
set_option linter.all false
section
open Go Go.Proofs.YtdjagncoefjfeaaGreat.Shv
open Tryz
set_option maxRecDepth 100000
def lH:aR×Int×I->Option (aj×Int)
 |(s,t,v)=>
 sL ((⟨s.Types⟩:aR),t,I.eta v)>>=λr=>if !(r=0:Bool) then some ([],r)else j1 (t,I.eta v,1,s.Types,0)>>=λa=>if(bif (4096<(a.1.length:Int):Bool)then true else (200<a.2.2:Bool)) then some ([],3)else some (a.1,0)
theorem Sb:a6 Ba lH:= .bh (.k Wl (.k T8 .n))
def Da:Int×Bool×aj->Option (aj×Int)
 |(id,b,a)=>
 if(bif (id<1:Bool)then true else (1000<id:Bool)) then some ([],7)else if (4096<(a.length:Int):Bool) then some ([],3)else uZ (id,b,a)>>=λr=>some (r,0)
theorem XH:a6 Qe Da:= .bh (.k GV .n)
def uW(p:aj):Option aj:=
 pr (bW .u64 (p.length:Int))>>=λr=>if (r.length+p.length<=eC:Bool) then some (r++p)else none
theorem Xz:a6 Qf uW:= .bh (.k ze .n)
mutual
def k4:aR×Int×I->Option aj
 |(s,t,v)=>
 if aH t s.Types.length then some (s.Types.getD t.toNat aN)>>=λa=>if (a.Kind=5:Bool) then q6 ([],a.ag,(a.ag.length:Int),0,s.Types,I.eta v)>>=λo=>some o else if (a.Kind=6:Bool) then ha (a,v.ae)>>=λr=>pr (bW .u64 v.ae)>>=λH=>if aH r.1 a.ag.length then if aH 0 v.ai.length then k4 (s,(a.ag.getD r.1.toNat aE).aw,I.eta (v.ai.getD (0:Int).toNat au))>>=λJ=>if (H.length+J.length<=eC:Bool) then some (H++J)else none else none else none else if (a.Kind=9:Bool) then vn ([],v.ai,(v.ai.length:Int),0,s.Types,a)>>=λM=>some M else some (decide (a.Kind=7))>>=λt115=>if t115 then if t115 then k1 ([],v.ai,(v.ai.length:Int),0,s.Types,I.eta v,a)>>=λN=>some N else lH (s,t,I.eta v)>>=λX=>some X.1 else if (a.Kind=8:Bool) then k1 ([],v.ai,(v.ai.length:Int),0,s.Types,I.eta v,a)>>=λO=>some O else lH (s,t,I.eta v)>>=λY=>some Y.1 else none
  partial_fixpoint
def q6:aj×List aS×Int×Int×List ah×I->Option aj
 |(w,t36,y,t38,b,f)=>
 if (t38<y:Bool) then if aH t38 t36.length then some (t36.getD t38.toNat aE)>>=λc=>if aH t38 f.ai.length then sy ((⟨c.ae,c.Name,c.aw,c.cp,c.bZ,I.eta c.bw⟩:aS),I.eta (f.ai.getD t38.toNat au))>>=λQ=>if !Q then if aH t38 f.ai.length then k4 ((⟨b⟩:aR),c.aw,I.eta (f.ai.getD t38.toNat au))>>=λR=>Da (c.ae,c.cp,R)>>=λB=>if (w.length+B.1.length<=eC:Bool) then q6 (w++B.1,t36,y,aM .i64 t38 1,b,I.eta f)else none else none else q6 (w,t36,y,aM .i64 t38 1,b,I.eta f)else none else none else some w
  partial_fixpoint
def vn:aj×List I×Int×Int×List ah×ah->Option aj
 |(P,t101,K,t103,z,A)=>
 if (t103<K:Bool) then if aH t103 t101.length then k4 ((⟨z⟩:aR),A.aG,I.eta (t101.getD t103.toNat au))>>=λD=>if ([1].length+D.length<=eC:Bool) then vn ([1]++D,t101,K,aM .i64 t103 1,z,A)else none else none else some P
  partial_fixpoint
def k1:aj×List I×Int×Int×List ah×I×ah->Option aj
 |(q,t118,x,t120,p,u,j)=>
 if (t120<x:Bool) then if aH t120 t118.length then some (t118.getD t120.toNat au)>>=λL=>if (j.Kind=8:Bool) then if aH t120 u.av.length then k4 ((⟨p⟩:aR),j.Key,I.eta (u.av.getD t120.toNat au))>>=λS=>uW S>>=λE=>if (q.length+E.length<=eC:Bool) then some (q++E)>>=λt139=>k4 ((⟨p⟩:aR),j.aG,I.eta L)>>=λU=>uW U>>=λF=>if (t139.length+F.length<=eC:Bool) then k1 (t139++F,t118,x,aM .i64 t120 1,p,I.eta u,j)else none else none else none else k4 ((⟨p⟩:aR),j.aG,I.eta L)>>=λW=>uW W>>=λG=>if (q.length+G.length<=eC:Bool) then k1 (q++G,t118,x,aM .i64 t120 1,p,I.eta u,j)else none else none else some q
  partial_fixpoint
end
theorem VX:dY qi k4/\ez 222 0 [2] zI k1/\ez 222 0 [1] zH vn/\ez 222 0 [0] zG q6:=k4.mutual_partial_correctness (dU qi) (ey 222 0 [2] zI) (ey 222 0 [1] zH) (ey 222 0 [0] zG)
 (λ_ _ _ _ h0 h1 a b _ _ h=>eb h (.k nr (.k ze (.k (cg qi h0) (.k Sb .n)))) (.k (eL zG b) (.k (eL zH a) (.k (eL zI h1) .n))))
 (λ_ _ h0 h1 _ _ h=>eK zI h1 h (.k (cg qi h0) (.k Xz .n)))
 (λ_ _ h0 a _ _ h=>eK zH a h (.k (cg qi h0) .n))
 (λ_ _ h0 b _ _ h=>eK zG b h (.k F8 (.k (cg qi h0) (.k XH .n))))
theorem RU:a6 qi k4:=cg _ VX.1
def ni:List aS×Int×Int×List ah×List ah×aq×I×ah×Int×Bool×Int×aj×Int×Int×Bool×Int×aj×Int×aq×List I×List bY->Option ((Bool×List ah×List ah×I×aq×aq) ⊕ (List ah×List ah×aq×Int×Bool×Int×aj×Int×Int×Bool×Int×aj×Int×aq×List I×List bY))
 |(t115,v,t117,c,e,f,b,j,k,l,m,n,o,p,q,r,s,t,g,u,i)=>
 if (t117<v:Bool) then if aH t117 t115.length then some (t115.getD t117.toNat aE)>>=λa=>ha (j,a.ae)>>=λw=>if w.2 then ni (t115,v,aM .i64 t117 1,c,e,f,I.eta b,j,k,l,m,n,o,p,q,r,s,t,g,u,i)else if a.cp then uQ (a.ae,c,e,f,g)>>=λd=>some (.inl (d.2.1,d.2.2.1,d.2.2.2.1,I.eta d.1,d.2.2.2.2.1,d.2.2.2.2.2))else if aH t117 b.ai.length then sy ((⟨a.ae,a.Name,a.aw,a.cp,a.bZ,I.eta a.bw⟩:aS),I.eta (b.ai.getD t117.toNat au))>>=λx=>if !x then if aH t117 b.ai.length then k4 ((⟨c⟩:aR),a.aw,I.eta (b.ai.getD t117.toNat au))>>=λy=>some [(⟨a.ae,y⟩:bY)]>>=λt163=>if room 24 (i++t163).length then ni (t115,v,aM .i64 t117 1,c,e,f,I.eta b,j,k,l,m,n,o,p,q,r,s,t,g,u,i++t163)else none else none else ni (t115,v,aM .i64 t117 1,c,e,f,I.eta b,j,k,l,m,n,o,p,q,r,s,t,g,u,i)else none else none else some (.inr (c,e,f,k,l,m,n,o,p,q,r,s,t,g,u,i))
  partial_fixpoint
theorem TT:cM 183 2 [1] Nq ni:= .rx ni.partial_correctness (.k nr (.k Sk (.k F8 (.k RU .n))))
mutual
def q9:Int×Int×I×Int×List ah×List ah×aq×aq->Option (I×Bool×List ah×List ah×aq×aq)
 |(step,wt,v,rt,b,f,p,j)=>
 some [step]>>=λt20=>if room 8 (j++t20).length then sA (wt,I.eta v,rt,b,f,p,j++t20)>>=λr=>some (df .i64 (r.2.2.2.2.2.length:Int) 1)>>=λt42=>if dS 0 t42 r.2.2.2.2.2.length then if (t42.toNat<=r.2.2.2.2.2.length:Bool) then some (I.eta r.1,r.2.1,r.2.2.1,r.2.2.2.1,r.2.2.2.2.1,r.2.2.2.2.2.take t42.toNat)else none else none else none
  partial_fixpoint
def nW(t:Int×List I×Int×List ah×List ah×aq×aq):Option (List I×Bool×List ah×List ah×aq×aq):=
 match t with
 |(wt,l,rt,b,f,p,j)=>
 sU (wt,rt,l,(l.length:Int),0,b,f,p,[],j)>>=λo=>match o with
 |.inl u=>
 some ([],u.1,u.2.1,u.2.2.1,u.2.2.2.1,u.2.2.2.2)
 |.inr e=>
 some (e.2.2.2.1,true,e.1,e.2.1,e.2.2.1,e.2.2.2.2)
  partial_fixpoint
def sA:Int×I×Int×List ah×List ah×aq×aq->Option (I×Bool×List ah×List ah×aq×aq)
 |(wt,v,rt,b,f,p,j)=>
 if aH wt b.length then some (b.getD wt.toNat aN)>>=λc=>if aH rt f.length then some (f.getD rt.toNat aN)>>=λa=>if !(c.Kind=a.Kind:Bool) then sv (b,f,p,j)>>=λr=>some (I.eta r.1,r.2.1,r.2.2.1,r.2.2.2.1,r.2.2.2.2.2,r.2.2.2.2.1)else
 let bv:=λcq=>
 if !cq then sv (b,f,p,j)>>=λS=>some (I.eta S.1,S.2.1,S.2.2.1,S.2.2.2.1,S.2.2.2.2.2,S.2.2.2.2.1)else if (c.Kind=5:Bool) then yD (c,I.eta v,a,b,f,p,j)>>=λN=>some (I.eta N.1,N.2.1,N.2.2.1,N.2.2.2.1,N.2.2.2.2.1,N.2.2.2.2.2)else if (c.Kind=6:Bool) then yK (c,I.eta v,a,b,f,p,j)>>=λO=>some (I.eta O.1,O.2.1,O.2.2.1,O.2.2.2.1,O.2.2.2.2.1,O.2.2.2.2.2)else if (c.Kind=8:Bool) then nW (c.Key,v.av,a.Key,b,f,p,j)>>=λA=>if !A.2.1 then some ((⟨0,false,0,[],0,[],[],[]⟩:I),false,A.2.2.1,A.2.2.2.1,A.2.2.2.2.1,A.2.2.2.2.2)else nW (c.aG,v.ai,a.aG,A.2.2.1,A.2.2.2.1,A.2.2.2.2.1,A.2.2.2.2.2)>>=λE=>if !E.2.1 then some ((⟨0,false,0,[],0,[],[],[]⟩:I),false,E.2.2.1,E.2.2.2.1,E.2.2.2.2.1,E.2.2.2.2.2)else some ((⟨v.Kind,v.bL,v.bc,v.bn,v.ae,A.1,E.1,[]⟩:I),true,E.2.2.1,E.2.2.2.1,E.2.2.2.2.1,E.2.2.2.2.2)else nW (c.aG,v.ai,a.aG,b,f,p,j)>>=λF=>if !F.2.1 then some ((⟨0,false,0,[],0,[],[],[]⟩:I),false,F.2.2.1,F.2.2.2.1,F.2.2.2.2.1,F.2.2.2.2.2)else some ((⟨v.Kind,v.bL,v.bc,v.bn,v.ae,[],F.1,[]⟩:I),true,F.2.2.1,F.2.2.2.1,F.2.2.2.2.1,F.2.2.2.2.2)
 if (c.Kind=2:Bool) then bv (bif decide (a.bA<=v.bc)then decide (v.bc<=a.bC)else false)else
 let bs:=λci=>
 bv ci
 if (c.Kind=3:Bool) then bs (decide ((v.bn.length:Int)<=a.Max))else if (c.Kind=4:Bool) then sM (a,v.ae)>>=λb4=>bs (bif b4.2 then true else a.Open)else some (decide (c.Kind=7))>>=λt91=>
 let bo:=λce=>
 let bi:=λ(_:Unit)=>
 if (c.Kind=5:Bool) then yD (c,I.eta v,a,b,f,p,j)>>=λQ=>some (I.eta Q.1,Q.2.1,Q.2.2.1,Q.2.2.2.1,Q.2.2.2.2.1,Q.2.2.2.2.2)else if (c.Kind=6:Bool) then yK (c,I.eta v,a,b,f,p,j)>>=λR=>some (I.eta R.1,R.2.1,R.2.2.1,R.2.2.2.1,R.2.2.2.2.1,R.2.2.2.2.2)else if (c.Kind=8:Bool) then nW (c.Key,v.av,a.Key,b,f,p,j)>>=λx=>if !x.2.1 then some ((⟨0,false,0,[],0,[],[],[]⟩:I),false,x.2.2.1,x.2.2.2.1,x.2.2.2.2.1,x.2.2.2.2.2)else nW (c.aG,v.ai,a.aG,x.2.2.1,x.2.2.2.1,x.2.2.2.2.1,x.2.2.2.2.2)>>=λz=>if !z.2.1 then some ((⟨0,false,0,[],0,[],[],[]⟩:I),false,z.2.2.1,z.2.2.2.1,z.2.2.2.2.1,z.2.2.2.2.2)else some ((⟨v.Kind,v.bL,v.bc,v.bn,v.ae,x.1,z.1,[]⟩:I),true,z.2.2.1,z.2.2.2.1,z.2.2.2.2.1,z.2.2.2.2.2)else nW (c.aG,v.ai,a.aG,b,f,p,j)>>=λB=>if !B.2.1 then some ((⟨0,false,0,[],0,[],[],[]⟩:I),false,B.2.2.1,B.2.2.2.1,B.2.2.2.2.1,B.2.2.2.2.2)else some ((⟨v.Kind,v.bL,v.bc,v.bn,v.ae,[],B.1,[]⟩:I),true,B.2.2.1,B.2.2.2.1,B.2.2.2.2.1,B.2.2.2.2.2)
 if ce then if !((v.ai.length:Int)<=a.Max:Bool) then sv (b,f,p,j)>>=λP=>some (I.eta P.1,P.2.1,P.2.2.1,P.2.2.2.1,P.2.2.2.2.2,P.2.2.2.2.1)else bi ()else bi ()
 if t91 then bo t91 else bo (decide (c.Kind=8))else none else none
  partial_fixpoint
def yD(t:ah×I×ah×List ah×List ah×aq×aq):Option (I×Bool×List ah×List ah×aq×aq):=
 match t with
 |(c,v,y,b,f,p,j)=>
 oP (y.ag,(y.ag.length:Int),0,b,f,p,c,I.eta v,y,0,false,0,[],0,v.Kind,false,0,[],0,j,[])>>=λo=>match o with
 |.inl u=>
 some (I.eta u.2.2.2.2.1,u.1,u.2.1,u.2.2.1,u.2.2.2.1,u.2.2.2.2.2)
 |.inr e=>
 ni (e.2.2.2.1.ag,(e.2.2.2.1.ag.length:Int),0,e.1,e.2.1,e.2.2.1,I.eta e.2.2.2.2.1,e.2.2.2.2.2.1,e.2.2.2.2.2.2.1,e.2.2.2.2.2.2.2.1,e.2.2.2.2.2.2.2.2.1,e.2.2.2.2.2.2.2.2.2.1,e.2.2.2.2.2.2.2.2.2.2.1,e.2.2.2.2.2.2.2.2.2.2.2.1,e.2.2.2.2.2.2.2.2.2.2.2.2.1,e.2.2.2.2.2.2.2.2.2.2.2.2.2.1,e.2.2.2.2.2.2.2.2.2.2.2.2.2.2.1,e.2.2.2.2.2.2.2.2.2.2.2.2.2.2.2.1,e.2.2.2.2.2.2.2.2.2.2.2.2.2.2.2.2.1,e.2.2.2.2.2.2.2.2.2.2.2.2.2.2.2.2.2,[])>>=λb1=>match b1 with
 |.inl L=>
 some (I.eta L.2.2.2.1,L.1,L.2.1,L.2.2.1,L.2.2.2.2.2,L.2.2.2.2.1)
 |.inr w=>
 some ((⟨w.2.2.2.2.2.2.2.2.1,w.2.2.2.2.2.2.2.2.2.1,w.2.2.2.2.2.2.2.2.2.2.1,w.2.2.2.2.2.2.2.2.2.2.2.1,w.2.2.2.2.2.2.2.2.2.2.2.2.1,[],w.2.2.2.2.2.2.2.2.2.2.2.2.2.2.1,w.2.2.2.2.2.2.2.2.2.2.2.2.2.2.2⟩:I),true,w.1,w.2.1,w.2.2.1,w.2.2.2.2.2.2.2.2.2.2.2.2.2.1)
  partial_fixpoint
def yK:ah×I×ah×List ah×List ah×aq×aq->Option (I×Bool×List ah×List ah×aq×aq)
 |(c,v,y,b,f,p,j)=>
 ha (c,v.ae)>>=λr=>ha (y,v.ae)>>=λD=>if D.2 then if aH r.1 c.ag.length then if aH 0 v.ai.length then if aH D.1 y.ag.length then q9 (v.ae,(c.ag.getD r.1.toNat aE).aw,I.eta (v.ai.getD (0:Int).toNat au),(y.ag.getD D.1.toNat aE).aw,b,f,p,j)>>=λG=>if !G.2.1 then some ((⟨0,false,0,[],0,[],[],[]⟩:I),false,G.2.2.1,G.2.2.2.1,G.2.2.2.2.1,G.2.2.2.2.2)else some ((⟨v.Kind,false,0,[],v.ae,[],[I.eta G.1],[]⟩:I),true,G.2.2.1,G.2.2.2.1,G.2.2.2.2.1,G.2.2.2.2.2)else none else none else none else if !y.Open then sv (b,f,p,j)>>=λM=>some (I.eta M.1,M.2.1,M.2.2.1,M.2.2.2.1,M.2.2.2.2.2,M.2.2.2.2.1)else if aH r.1 c.ag.length then if aH 0 v.ai.length then k4 ((⟨b⟩:aR),(c.ag.getD r.1.toNat aE).aw,I.eta (v.ai.getD (0:Int).toNat au))>>=λJ=>some ((⟨v.Kind,false,0,[],v.ae,[],[],[(⟨v.ae,J⟩:bY)]⟩:I),true,b,f,p,j)else none else none
  partial_fixpoint
def sU:Int×Int×List I×Int×Int×List ah×List ah×aq×List I×aq->Option ((Bool×List ah×List ah×aq×aq) ⊕ (List ah×List ah×aq×List I×aq))
 |(b0,bQ,t15,bT,t17,a5,a9,ba,am,be)=>
 if (t17<bT:Bool) then if aH t17 t15.length then q9 (t17,b0,I.eta (t15.getD t17.toNat au),bQ,a5,a9,ba,be)>>=λr=>if !r.2.1 then some (.inl (false,r.2.2.1,r.2.2.2.1,r.2.2.2.2.1,r.2.2.2.2.2))else some [I.eta r.1]>>=λt35=>if room 120 (am++t35).length then sU (b0,bQ,t15,bT,aM .i64 t17 1,r.2.2.1,r.2.2.2.1,r.2.2.2.2.1,am++t35,r.2.2.2.2.2)else none else none else some (.inr (a5,a9,ba,am,be))
  partial_fixpoint
def oP:List aS×Int×Int×List ah×List ah×aq×ah×I×ah×Int×Bool×Int×aj×Int×Int×Bool×Int×aj×Int×aq×List I->Option ((Bool×List ah×List ah×aq×I×aq) ⊕ (List ah×List ah×aq×ah×I×ah×Int×Bool×Int×aj×Int×Int×Bool×Int×aj×Int×aq×List I))
 |(t25,a4,t27,X,Y,Z,H,K,an,ap,ax,aB,aC,aI,aZ,a0,a1,a2,a3,af,W)=>
 if (t27<a4:Bool) then if aH t27 t25.length then some (t25.getD t27.toNat aE)>>=λa=>ha (H,a.ae)>>=λr=>if !r.2 then if !a.bZ then uQ (a.ae,X,Y,Z,af)>>=λD=>some (.inl (D.2.1,D.2.2.1,D.2.2.2.1,D.2.2.2.2.2,I.eta D.1,D.2.2.2.2.1))else j4 (I.eta a.bw)>>=λb2=>some [I.eta b2]>>=λt54=>if room 120 (W++t54).length then oP (t25,a4,aM .i64 t27 1,X,Y,Z,H,I.eta K,an,ap,ax,aB,aC,aI,aZ,a0,a1,a2,a3,af,W++t54)else none else if aH r.1 H.ag.length then if aH r.1 K.ai.length then q9 (a.ae,(H.ag.getD r.1.toNat aE).aw,I.eta (K.ai.getD r.1.toNat au),a.aw,X,Y,Z,af)>>=λq=>if aH r.1 H.ag.length then some (H.ag.getD r.1.toNat aE)>>=λU=>if aH r.1 K.ai.length then sy ((⟨U.ae,U.Name,U.aw,U.cp,U.bZ,I.eta U.bw⟩:aS),I.eta (K.ai.getD r.1.toNat au))>>=λbH=>some (!q.2.1)>>=λt90=>(if(bH&&(!t90)) then sy ((⟨a.ae,a.Name,a.aw,a.cp,a.bZ,I.eta a.bw⟩:aS),I.eta q.1)else some false)>>=λb3=>if(bif bH then bif t90 then true else(!b3)else false) then uQ (a.ae,q.2.2.1,q.2.2.2.1,q.2.2.2.2.1,q.2.2.2.2.2)>>=λJ=>some (.inl (J.2.1,J.2.2.1,J.2.2.2.1,J.2.2.2.2.2,I.eta J.1,J.2.2.2.2.1))else if !q.2.1 then some (.inl (false,q.2.2.1,q.2.2.2.1,q.2.2.2.2.1,(⟨0,false,0,[],0,[],[],[]⟩:I),q.2.2.2.2.2))else some [I.eta q.1]>>=λt110=>if room 120 (W++t110).length then oP (t25,a4,aM .i64 t27 1,q.2.2.1,q.2.2.2.1,q.2.2.2.2.1,H,I.eta K,an,ap,ax,aB,aC,aI,aZ,a0,a1,a2,a3,q.2.2.2.2.2,W++t110)else none else none else none else none else none else none else some (.inr (X,Y,Z,H,I.eta K,an,ap,ax,aB,aC,aI,aZ,a0,a1,a2,a3,af,W))
  partial_fixpoint
end
theorem Vb:dY uA q9/\dY w6 sA/\dY Bi nW/\ez 185 2 [0] zK sU/\dY Bh yK/\dY Bg yD/\ez 183 2 [0] zJ oP:=q9.mutual_partial_correctness (dU uA) (dU w6) (dU Bi) (ey 185 2 [0] zK) (dU Bh) (dU Bg) (ey 183 2 [0] zJ)
 (λ_ h1 _ _ h=>eb h (.k (cg w6 h1) .n))
 (λ_ _ _ c d ba _ _ h=>eb h (.k Ss (.k (cg Bg ba) (.k (cg Bh d) (.k (cg Bi c) (.k Ck .n))))))
 (λ_ a _ _ h=>eb h .n (.k (eL zK a) .n))
 (λ_ _ h0 a _ _ h=>eK zK a h (.k (cg uA h0) .n))
 (λ_ h0 _ _ h=>eb h (.k nr (.k (cg uA h0) (.k Ss (.k RU .n)))))
 (λ_ b _ _ h=>eb h .n (.k (eL zJ b) (.k TT .n)))
 (λ_ _ h0 b _ _ h=>eK zJ b h (.k nr (.k Sk (.k Wj (.k (cg uA h0) (.k F8 .n))))))
theorem VY:a6 w6 sA:=cg _ Vb.2.1
def x8:aR×Int×I×aR×Int->Option (I×Int)
 |(w,wt,v,r,rt)=>
 C3 (w,wt,I.eta v,r,rt)>>=λa=>if !(a=0:Bool) then some ((⟨0,false,0,[],0,[],[],[]⟩:I),a)else sA (wt,I.eta v,rt,w.Types,r.Types,[],[])>>=λb=>if !b.2.1 then some ((⟨0,false,0,[],0,[],[],[]⟩:I),12)else some (I.eta b.1,0)
theorem WB:a6 A' x8:= .bh (.k Xw (.k VY .n))
def pK:dh×dh×aj->Option (eS×Int)
 |(w,r,m)=>
 sO (w.cU,w.aw,m)>>=λa=>if !(a.2=0:Bool) then some ((⟨(⟨0,false,0,[],0,[],[],[]⟩:I),(⟨0,false,0,[],0,[],[],[]⟩:I),[]⟩:eS),12)else u2 (w.cU,w.aw,I.eta a.1)>>=λe=>if !(e.2=0:Bool) then some ((⟨(⟨0,false,0,[],0,[],[],[]⟩:I),(⟨0,false,0,[],0,[],[],[]⟩:I),[]⟩:eS),12)else x8 (w.cU,w.aw,I.eta e.1,r.cU,r.aw)>>=λf=>if !(f.2=0:Bool) then some ((⟨(⟨0,false,0,[],0,[],[],[]⟩:I),(⟨0,false,0,[],0,[],[],[]⟩:I),[]⟩:eS),12)else lH (w.cU,w.aw,I.eta a.1)>>=λc=>if !(c.2=0:Bool) then some ((⟨(⟨0,false,0,[],0,[],[],[]⟩:I),(⟨0,false,0,[],0,[],[],[]⟩:I),[]⟩:eS),3)else sO (r.cU,r.aw,c.1)>>=λb=>if !(b.2=0:Bool) then some ((⟨(⟨0,false,0,[],0,[],[],[]⟩:I),(⟨0,false,0,[],0,[],[],[]⟩:I),[]⟩:eS),12)else lH (r.cU,r.aw,I.eta b.1)>>=λd=>if !(d.2=0:Bool) then some ((⟨(⟨0,false,0,[],0,[],[],[]⟩:I),(⟨0,false,0,[],0,[],[],[]⟩:I),[]⟩:eS),3)else some ((⟨I.eta a.1,I.eta b.1,d.1⟩:eS),0)
theorem WC:a6 EN pK:= .bh (.k We (.k Xa (.k WB (.k Sb .n))))
def ny:dh×dh×aj->Option (eS×Int)
 |(w,r,m)=>
 CZ [w,r]>>=λb=>if !(b=0:Bool) then some ((⟨(⟨0,false,0,[],0,[],[],[]⟩:I),(⟨0,false,0,[],0,[],[],[]⟩:I),[]⟩:eS),b)else pK (w,r,m)>>=λa=>some ((⟨I.eta a.1.v,I.eta a.1.u,a.1.message⟩:eS),a.2)
theorem Xc:a6 EI ny:= .bh (.k Wv (.k WC .n))
def FW:dh×dh×aj->Option (aj×Int)
 |(w,r,m)=>
 ny (w,r,m)>>=λa=>some (a.1.message,a.2)
theorem WD:a6 nb FW:= .bh (.k Xc .n)
def mn(t:ah):Option ah:=
 if (t.Kind=1:Bool) then some (⟨t.Kind,[],0,0,0,[],[],0,0,false⟩:ah)else if (t.Kind=2:Bool) then some (⟨t.Kind,[],t.bA,t.bC,0,[],[],0,0,false⟩:ah)else if (t.Kind=3:Bool) then some (⟨t.Kind,[],0,0,t.Max,[],[],0,0,false⟩:ah)else if (t.Kind=4:Bool) then some (⟨t.Kind,t.Name,0,0,0,t.bg,[],0,0,t.Open⟩:ah)else if (t.Kind=5:Bool) then some (⟨t.Kind,t.Name,0,0,0,[],t.ag,0,0,false⟩:ah)else if (t.Kind=6:Bool) then some (⟨t.Kind,t.Name,0,0,0,[],t.ag,0,0,t.Open⟩:ah)else if (t.Kind=7:Bool) then some (⟨t.Kind,[],0,0,t.Max,[],[],0,t.aG,false⟩:ah)else if (t.Kind=8:Bool) then some (⟨t.Kind,[],0,0,t.Max,[],[],t.Key,t.aG,false⟩:ah)else some (⟨t.Kind,[],0,0,0,[],[],0,t.aG,false⟩:ah)
theorem VZ:a6 aeH mn:= .bh
def xC:aS×aS->Option Bool
 |(a,b)=>
 some (bif bif bif bif decide (a.ae=b.ae)then decide (a.Name=b.Name)else false then decide (a.aw=b.aw)else false then ft a.cp b.cp else false then ft a.bZ b.bZ else false)>>=λt37=>(if t37 then jG ((⟨a.bw.Kind,a.bw.bL,a.bw.bc,a.bw.bn,a.bw.ae,a.bw.av,a.bw.ai,a.bw.Rest⟩:I),(⟨b.bw.Kind,b.bw.bL,b.bw.bc,b.bw.bn,b.bw.ae,b.bw.av,b.bw.ai,b.bw.Rest⟩:I))else some false)>>=λr=>some (bif t37 then r else false)
theorem TU:a6 aeW xC:= .bh (.k xG .n)
def pk:Int×ah×ah->Option ((Bool) ⊕ (ah×ah))
 |(i,a,b)=>
 if (i<(a.bg.length:Int):Bool) then if aH i a.bg.length then some (a.bg.getD i.toNat dL)>>=λc=>if aH i b.bg.length then some (b.bg.getD i.toNat dL)>>=λd=>if !(hJ c.ae d.ae&&(jz c.Name d.Name&&true)) then some (.inl false)else pk (aM .i64 i 1,a,b)else none else none else some (.inr (a,b))
  partial_fixpoint
theorem Uu:cM 153 0 [0] Nr pk:= .rx pk.partial_correctness
def pn:Int×ah×ah->Option ((Bool) ⊕ (Unit))
 |(a,d,e)=>
 if (a<(d.ag.length:Int):Bool) then if aH a d.ag.length then some (d.ag.getD a.toNat aE)>>=λb=>if aH a e.ag.length then some (e.ag.getD a.toNat aE)>>=λc=>xC ((⟨b.ae,b.Name,b.aw,b.cp,b.bZ,I.eta b.bw⟩:aS),(⟨c.ae,c.Name,c.aw,c.cp,c.bZ,I.eta c.bw⟩:aS))>>=λr=>if !r then some (.inl false)else pn (aM .i64 a 1,d,e)else none else none else some (.inr ())
  partial_fixpoint
theorem Uv:cM 153 0 [1] Ns pn:= .rx pn.partial_correctness (.k TU .n)
def B1(g:ah×ah):Option Bool:=
 match g with
 |(a,b)=>
 if(bif bif bif bif bif bif bif bif bif (!(a.Kind=b.Kind:Bool))then true else(!(a.Name=b.Name:Bool))then true else(!(a.bA=b.bA:Bool))then true else(!(a.bC=b.bC:Bool))then true else(!(a.Max=b.Max:Bool))then true else(!(a.Key=b.Key:Bool))then true else(!(a.aG=b.aG:Bool))then true else(!(ft a.Open b.Open))then true else(!((a.bg.length:Int)=(b.bg.length:Int):Bool))then true else(!((a.ag.length:Int)=(b.ag.length:Int):Bool))) then some false else pk (0,(⟨a.Kind,a.Name,a.bA,a.bC,a.Max,a.bg,a.ag,a.Key,a.aG,a.Open⟩:ah),(⟨b.Kind,b.Name,b.bA,b.bC,b.Max,b.bg,b.ag,b.Key,b.aG,b.Open⟩:ah))>>=λo=>match o with
 |.inl d=>
 some d
 |.inr c=>
 pn (0,c.1,c.2)>>=λe=>match e with
 |.inl f=>
 some f
 |.inr i=>
 some true
theorem TN:a6 aeG B1:= .bh .n (.k Uu (.k Uv .n))
def yL(b:Int):Option Bool:=
 some (bif bif bif decide (97<=b)then decide (b<=122)else false then true else bif decide (65<=b)then decide (b<=90)else false then true else decide (b=95))
theorem Sn:a6 aeX yL:= .bh
def Ca(b:Int):Option Bool:=
 some (bif decide (48<=b)then decide (b<=57)else false)
theorem V0:a6 aeY Ca:= .bh
def oV:aj×Int->Option ((Bool) ⊕ (Unit))
 |(a,i)=>
 if (i<(a.length:Int):Bool) then if aH i a.length then yL (fq a i)>>=λb=>some (!b)>>=λt27=>if(aH i a.length||(!t27)) then (if t27 then Ca (fq a i)else some false)>>=λc=>if(bif t27 then(!c)else false) then some (.inl false)else oV (a,aM .i64 i 1)else none else none else some (.inr ())
  partial_fixpoint
theorem T9:cM 155 0 [0] Nt oV:= .rx oV.partial_correctness (.k Sn (.k V0 .n))
def sm(s:aj):Option Bool:=
 some (bif decide (s=[])then true else decide (24<(s.length:Int)))>>=λt10=>if(aH 0 s.length||(!(!t10))) then (if !t10 then yL (fq s 0)else some false)>>=λr=>if(bif t10 then true else(!r)) then some false else oV (s,0)>>=λo=>match o with
 |.inl a=>
 some a
 |.inr b=>
 some true else none
theorem F6:a6 aeI sm:= .bh (.k Sn .n) (.k T9 .n)
def xP:Int×Int->Option Bool
 |(a,n)=>
 some (bif bif decide (a<n)then decide (1<=n)else false then decide (n<=1000)else false)
theorem R5:a6 aeZ xP:= .bh
def ng:List c4×Int×Int->Option ((Bool) ⊕ (List c4×Int))
 |(a,b,k)=>
 if (k<b:Bool) then if aH k a.length then if aH b a.length then if ((a.getD k.toNat dL).Name=(a.getD b.toNat dL).Name:Bool) then some (.inl false)else ng (a,b,aM .i64 k 1)else none else none else some (.inr (a,b))
  partial_fixpoint
theorem Um:cM 156 0 [0,0] L4 ng:= .rx ng.partial_correctness
def oQ(g:List c4×Int×Int):Option ((Bool) ⊕ (List c4)):=
 match g with
 |(a,c,i)=>
 if (i<(a.length:Int):Bool) then if aH i a.length then xP (c,(a.getD i.toNat dL).ae)>>=λr=>some (!r)>>=λt19=>if(aH i a.length||(!(!t19))) then (if !t19 then sm (a.getD i.toNat dL).Name else some false)>>=λf=>if(bif t19 then true else(!f)) then some (.inl false)else ng (a,i,0)>>=λd=>match d with
 |.inl e=>
 some (.inl e)
 |.inr b=>
 if aH b.2 b.1.length then oQ (b.1,(b.1.getD b.2.toNat dL).ae,aM .i64 b.2 1)else none else none else none else some (.inr a)
  partial_fixpoint
theorem TV:cM 156 0 [0] Nu oQ:= .rx oQ.partial_correctness (.k R5 (.k F6 .n)) (.k Um .n)
def yE(l:List c4):Option Bool:=
 oQ (l,0,0)>>=λo=>match o with
 |.inl b=>
 some b
 |.inr a=>
 some (bif decide (1<=(a.length:Int))then decide ((a.length:Int)<=16)else false)
theorem Vc:a6 aeJ yE:= .bh .n (.k TV .n)
def nh:List aS×Bool×Int×Int×aS->Option ((Bool) ⊕ (List aS×Bool×Int×aS))
 |(b,d,c,k,a)=>
 if (k<c:Bool) then if aH k b.length then if ((b.getD k.toNat aE).Name=a.Name:Bool) then some (.inl false)else nh (b,d,c,aM .i64 k 1,(⟨a.ae,a.Name,a.aw,a.cp,a.bZ,I.eta a.bw⟩:aS))else none else some (.inr (b,d,c,(⟨a.ae,a.Name,a.aw,a.cp,a.bZ,I.eta a.bw⟩:aS)))
  partial_fixpoint
theorem Un:cM 157 0 [0,0] L5 nh:= .rx nh.partial_correctness
def oR(l:List aS×Bool×Int×Int):Option ((Bool) ⊕ (List aS×Bool)):=
 match l with
 |(b,d,e,i)=>
 if (i<(b.length:Int):Bool) then if aH i b.length then some (b.getD i.toNat aE)>>=λa=>xP (e,a.ae)>>=λr=>some (!r)>>=λt23=>(if !t23 then sm a.Name else some false)>>=λj=>if(bif bif bif t23 then true else(!j)then true else bif a.cp then a.bZ else false then true else bif (!d)then bif a.cp then true else a.bZ else false) then some (.inl false)else some (!a.bZ)>>=λt52=>(if t52 then jG (I.eta a.bw,(⟨0,false,0,[],0,[],[],[]⟩:I))else some false)>>=λk=>if(bif t52 then(!k)else false) then some (.inl false)else nh (b,d,i,0,(⟨a.ae,a.Name,a.aw,a.cp,a.bZ,I.eta a.bw⟩:aS))>>=λf=>match f with
 |.inl g=>
 some (.inl g)
 |.inr c=>
 oR (c.1,c.2.1,c.2.2.2.ae,aM .i64 c.2.2.1 1)else none else some (.inr (b,d))
  partial_fixpoint
theorem TW:cM 157 0 [0] Nv oR:= .rx oR.partial_correctness (.k R5 (.k F6 (.k xG .n))) (.k Un .n)
def vj(c:List aS×Bool):Option Bool:=
 match c with
 |(l,record)=>
 oR (l,record,0,0)>>=λo=>match o with
 |.inl b=>
 some b
 |.inr a=>
 some (bif decide ((a.1.length:Int)<=16)then bif a.2 then true else decide (1<=(a.1.length:Int))else false)
theorem Vd:a6 aeK vj:= .bh .n (.k TW .n)
def hD(t:ah):Option Bool:=
 some (bif decide (t.Kind<1)then true else decide (9<t.Kind))>>=λt10=>(if !t10 then mn t else some aN)>>=λr=>(if !t10 then B1 (t,r)else some false)>>=λc=>some (bif t10 then true else(!c))>>=λt17=>(if !t17 then j3 t.Kind else some false)>>=λa=>(if((!t17)&&a) then sm t.Name else some false)>>=λd=>if(bif t17 then true else bif a then(!d)else false) then some false else if (t.Kind=2:Bool) then some (decide (t.bA<=t.bC))else if (t.Kind=3:Bool) then some (bif decide (0<=t.Max)then decide (t.Max<=200)else false)else if (t.Kind=4:Bool) then yE t.bg>>=λe=>some e else some (decide (t.Kind=5))>>=λt54=>if t54 then if t54 then vj (t.ag,decide (t.Kind=5))>>=λf=>some f else some (decide (t.Kind=7))>>=λt63=>if t63 then if t63 then some (bif decide (0<=t.Max)then decide (t.Max<=50)else false)else some true else if (t.Kind=8:Bool) then some (bif decide (0<=t.Max)then decide (t.Max<=50)else false)else some true else if (t.Kind=6:Bool) then vj (t.ag,decide (t.Kind=5))>>=λg=>some g else some (decide (t.Kind=7))>>=λb=>if b then if b then some (bif decide (0<=t.Max)then decide (t.Max<=50)else false)else some true else if (t.Kind=8:Bool) then some (bif decide (0<=t.Max)then decide (t.Max<=50)else false)else some true
theorem WE:a6 aej hD:= .bh (.k VZ (.k TN (.k F7 (.k F6 (.k Vc (.k Vd .n))))))
def q4:Int×ah×aq->Option (ah×aq)
 |(i,a,b)=>
 if (i<(a.ag.length:Int):Bool) then if aH i a.ag.length then some [(a.ag.getD i.toNat aE).aw]>>=λt19=>if room 8 (b++t19).length then q4 (aM .i64 i 1,a,b++t19)else none else none else some (a,b)
  partial_fixpoint
theorem Ve:cM 114 0 [0] Oy q4:= .rx q4.partial_correctness
def Cg(t:ah):Option aq:=
 q4 (0,t,[])>>=λo=>if (o.1.Kind=8:Bool) then some [o.1.Key]>>=λt27=>if room 8 (o.2++t27).length then some (o.2++t27)>>=λl=>if(bif bif (o.1.Kind=7:Bool)then true else (o.1.Kind=8:Bool)then true else (o.1.Kind=9:Bool)) then some [o.1.aG]>>=λt45=>if room 8 (l++t45).length then some (l++t45)else none else some l else none else if(bif bif (o.1.Kind=7:Bool)then true else (o.1.Kind=8:Bool)then true else (o.1.Kind=9:Bool)) then some [o.1.aG]>>=λa=>if room 8 (o.2++a).length then some (o.2++a)else none else some o.2
theorem VD:a6 aek Cg:= .bh .n (.k Ve .n)
def nj:Int×Int×List ah×Int×aj×Int×Int×Int×List c4×List aS×Int×Int×Bool->Option ((Int) ⊕ (Int×List ah×Int×aj×Int×Int×Int×List c4×List aS×Int×Int×Bool))
 |(d,k,a,b,c,e,f,g,i,j,l,m,n)=>
 if (k<d:Bool) then j3 b>>=λo=>if(aH k a.length||(!o)) then if(bif o then ((a.getD k.toNat aN).Name=c:Bool)else false) then some (.inl 1)else nj (d,aM .i64 k 1,a,b,c,e,f,g,i,j,l,m,n)else none else some (.inr (d,a,b,c,e,f,g,i,j,l,m,n))
  partial_fixpoint
theorem TX:cM 79 0 [0,0] Nd nj:= .rx nj.partial_correctness (.k F7 .n)
def qY:Int×aq×Int×List ah×Int×aj×Int×Int×Int×List c4×List aS×Int×Int×Bool->Option ((Int) ⊕ (Int×List ah×Int×aj×Int×Int×Int×List c4×List aS×Int×Int×Bool))
 |(o,l,a,b,c,d,e,f,g,i,j,k,m,n)=>
 if (a<(l.length:Int):Bool) then if aH a l.length then some (decide (l.getD a.toNat 0<0))>>=λt58=>if(aH a l.length||(!(!t58))) then if(bif t58 then true else ((b.length:Int)<=l.getD a.toNat 0:Bool)) then some (.inl 4)else qY (o,l,aM .i64 a 1,b,c,d,e,f,g,i,j,k,m,n)else none else none else some (.inr (o,b,c,d,e,f,g,i,j,k,m,n))
  partial_fixpoint
theorem TY:cM 79 0 [1,0] Nf qY:= .rx qY.partial_correctness
def oY(m:Int×List ah):Option ((Int) ⊕ (Unit)):=
 match m with
 |(i,b)=>
 if (i<(b.length:Int):Bool) then if aH i b.length then some (b.getD i.toNat aN)>>=λc=>hD c>>=λr=>if !r then some (.inl 1)else nj (i,0,b,c.Kind,c.Name,c.bA,c.bC,c.Max,c.bg,c.ag,c.Key,c.aG,c.Open)>>=λe=>match e with
 |.inl f=>
 some (.inl f)
 |.inr a=>
 Cg (⟨a.2.2.1,a.2.2.2.1,a.2.2.2.2.1,a.2.2.2.2.2.1,a.2.2.2.2.2.2.1,a.2.2.2.2.2.2.2.1,a.2.2.2.2.2.2.2.2.1,a.2.2.2.2.2.2.2.2.2.1,a.2.2.2.2.2.2.2.2.2.2.1,a.2.2.2.2.2.2.2.2.2.2.2⟩:ah)>>=λk=>qY (a.1,k,0,a.2.1,a.2.2.1,a.2.2.2.1,a.2.2.2.2.1,a.2.2.2.2.2.1,a.2.2.2.2.2.2.1,a.2.2.2.2.2.2.2.1,a.2.2.2.2.2.2.2.2.1,a.2.2.2.2.2.2.2.2.2.1,a.2.2.2.2.2.2.2.2.2.2.1,a.2.2.2.2.2.2.2.2.2.2.2)>>=λg=>match g with
 |.inl j=>
 some (.inl j)
 |.inr d=>
 some (decide (d.2.2.1=8))>>=λt71=>if(aH d.2.2.2.2.2.2.2.2.2.1 d.2.1.length||(!t71)) then (if t71 then yz (d.2.1.getD d.2.2.2.2.2.2.2.2.2.1.toNat aN).Kind else some false)>>=λl=>if(bif t71 then(!l)else false) then some (.inl 1)else oY (aM .i64 d.1 1,d.2.1)else none else none else some (.inr ())
  partial_fixpoint
theorem TO:cM 79 0 [0] QB oY:= .rx oY.partial_correctness (.k WE (.k VD (.k Sj .n))) (.k TX (.k TY .n))
def vq(s:aR):Option Int:=
 if (32<(s.Types.length:Int):Bool) then some 3 else oY (0,s.Types)>>=λo=>match o with
 |.inl a=>
 some a
 |.inr b=>
 some 0
theorem St:a6 aft vq:= .bh .n (.k TO .n)
def kE:aR×Int->Option Int
 |(s,t)=>
 vq s>>=λr=>if !(r=0:Bool) then some r else if(bif (t<0:Bool)then true else ((s.Types.length:Int)<=t:Bool)) then some 4 else some 0
theorem F9:a6 afq kE:= .bh (.k St .n)
def Cb:dh×dh->Option Int
 |(w,r)=>
 kE (w.cU,w.aw)>>=λa=>if !(a=0:Bool) then some a else kE (r.cU,r.aw)>>=λb=>some b
theorem V1:a6 afi Cb:= .bh (.k F9 .n)
def g':aq×Int->Option cS
 |(path,a)=>
 if room 8 ([]++path).length then some (⟨(⟨0,false,0,[],0,[],[],[]⟩:I),(⟨[]++path,a⟩:iT),false⟩:cS)else none
theorem oZ:a6 afz g':= .bh
def oS:aj×Int×Int->Option Int
 |(a,b,i)=>
 if (i<(a.length:Int):Bool) then if aH i a.length then oS (a,aM .u64 (gw .u64 b 256) (bW .u64 (fq a i)),aM .i64 i 1)else none else some b
  partial_fixpoint
theorem TZ:cM 158 0 [0] Oz oS:= .rx oS.partial_correctness
def B5(s:aj):Option (Int×Int):=
 some (decide (0<(s.length:Int)))>>=λt8=>if(aH 0 s.length||(!t8)) then if(bif t8 then (fq s 0=0:Bool)else false) then some (0,2)else if (8<(s.length:Int):Bool) then some (0,7)else oS (s,0,0)>>=λo=>some (o,0)else none
theorem Vf:a6 aeL B5:= .bh .n (.k TZ .n)
def xR(p:aj):Option (Int×Bool):=
 B5 p>>=λr=>some (r.1,decide (r.2=0))
theorem UR:a6 aem xR:= .bh (.k Vf .n)
def B2(n:Int):Option Int:=
 if (b' n 2=0:Bool) then some (bW .i64 (fv .u64 n 2))else some (df .i64 (df .i64 0 (bW .i64 (fv .u64 n 2))) 1)
theorem UZ:a6 aen B2:= .bh
def lF:aq×Int->Option aq
 |(path,step)=>
 if room 8 ([]++path).length then some ([]++path)>>=λl=>some [step]>>=λt9=>if room 8 (l++t9).length then some (l++t9)else none else none
theorem sF:a6 aeo lF:= .bh
def sn:aj×Int×Int×Int->Option ((Int×Int×Int) ⊕ (Unit))
 |(a,n,b,i)=>
 if (i<10:Bool) then if (i=(a.length:Int):Bool) then some (.inl (0,0,10))else if aH i a.length then some (bW .u64 (fq a i))>>=λt20=>if(bif (i=9:Bool)then (1<t20:Bool)else false) then some (.inl (0,0,7))else some (aM .u64 n (gw .u64 (b' t20 128) b))>>=λt32=>if (t20<128:Bool) then if(bif (t20=0:Bool)then (0<i:Bool)else false) then some (.inl (0,0,2))else some (.inl (t32,aM .i64 i 1,0))else sn (a,t32,gw .u64 b 128,aM .i64 i 1)else none else some (.inr ())
  partial_fixpoint
theorem US:cM 199 0 [0] OA sn:= .rx sn.partial_correctness
def vz(s:aj):Option (Int×Int×Int):=
 sn (s,0,1,0)>>=λo=>match o with
 |.inl a=>
 some (a.1,a.2.1,a.2.2)
 |.inr b=>
 some (0,0,7)
theorem Gh:a6 ae0 vz:= .bh .n (.k US .n)
def x9(a:aj):Option (Int×aj×Int):=
 vz a>>=λr=>if(bif bif (!(r.2.2=0:Bool))then true else (r.1<1:Bool)then true else (1000<r.1:Bool)) then some (0,[],12)else if dS r.2.1 (a.length:Int) a.length then some (bW .i64 r.1,d' a r.2.1 (a.length:Int),0)else none
theorem WG:a6 aeM x9:= .bh (.k Gh .n)
def nk(v:I):Option cS:=
 some (⟨I.eta v,(⟨[],0⟩:iT),true⟩:cS)
theorem xS:a6 aep nk:= .bh
def x'(s:aj):Option (aj×aj×Bool):=
 vz s>>=λr=>if(bif (!(r.2.2=0:Bool))then true else (bW .u64 (df .i64 (s.length:Int) r.2.1)<r.1:Bool)) then some ([],[],false)else some (aM .i64 r.2.1 (bW .i64 r.1))>>=λt30=>if dS r.2.1 t30 s.length then some (aM .i64 r.2.1 (bW .i64 r.1))>>=λt36=>if dS t36 (s.length:Int) s.length then some (d' s r.2.1 t30,d' s t36 (s.length:Int),true)else none else none
theorem RV:a6 ae2 x':= .bh (.k Gh .n)
def sV:aj×List aj->Option ((Int) ⊕ (List aj))
 |(b,a)=>
 if !(b=[]:Bool) then x' b>>=λr=>if !r.2.2 then some (.inl 12)else some [r.1]>>=λt20=>if room 16 (a++t20).length then sV (r.2.1,a++t20)else none else some (.inr a)
  partial_fixpoint
theorem U0:cM 160 0 [0] OB sV:= .rx sV.partial_correctness (.k RV .n)
def vr(c:aj):Option (List aj×Int):=
 sV (c,[])>>=λo=>match o with
 |.inl a=>
 some ([],a)
 |.inr b=>
 some (b,0)
theorem Su:a6 aeO vr:= .bh .n (.k U0 .n)
def qq:Int×aq×List aj×Int×List ah×ah×Int×Bool×Int×aj×Int×Int×Bool×Int×Bool×Int×aj×Int×List I->Option ((cS) ⊕ (Int×aq×List aj×List ah×ah×Int×Bool×Int×aj×Int×Int×Bool×Int×Bool×Int×aj×Int×List I))
 |(u,c,t,b,e,f,g,i,j,k,l,m,n,o,p,q,r,s,a)=>
 if (b<(a.length:Int):Bool) then some (df .i64 b 1)>>=λt87=>if aH t87 a.length then if (t87.toNat<a.length:Bool) then if aH b a.length then if (b.toNat<a.length:Bool) then nP (I.eta (a.getD t87.toNat au),I.eta (a.getD b.toNat au))>>=λv=>if (0<=v:Bool) then g' (c,1)>>=λd=>some (.inl (⟨I.eta d.Value,d.dO,d.ck⟩:cS))else qq (u,c,t,aM .i64 b 1,e,f,g,i,j,k,l,m,n,o,p,q,r,s,a)else none else none else none else none else some (.inr (u,c,t,e,f,g,i,j,k,l,m,n,o,p,q,r,s,a))
  partial_fixpoint
theorem Ui:cM 121 0 [1] OC qq:= .rx qq.partial_correctness (.k Cs (.k oZ .n))
def qZ:aj×Int×List cQ->Option ((Int) ⊕ (List cQ))
 |(a,d,b)=>
 if !(a=[]:Bool) then vz a>>=λr=>if(bif bif (!(r.2.2=0:Bool))then true else (2001<r.1:Bool)then true else (bW .i64 (fv .u64 r.1 2)<=d:Bool)) then some (.inl 12)else if dS r.2.1 (a.length:Int) a.length then x' (d' a r.2.1 (a.length:Int))>>=λc=>if !c.2.2 then some (.inl 12)else some (bW .i64 (fv .u64 r.1 2))>>=λt45=>some [(⟨t45,decide (b' r.1 2=1),c.1⟩:cQ)]>>=λt54=>if room 32 (b++t54).length then qZ (c.2.1,t45,b++t54)else none else none else some (.inr b)
  partial_fixpoint
theorem TG:cM 161 0 [0] OD qZ:= .rx qZ.partial_correctness (.k Gh (.k RV .n))
def xT(c:aj):Option (List cQ×Int):=
 qZ (c,0,[])>>=λo=>match o with
 |.inl a=>
 some ([],a)
 |.inr b=>
 some (b,0)
theorem UT:a6 aeP xT:= .bh .n (.k TG .n)
def o0:List cQ×Int×Int->Option ((Int) ⊕ (Unit))
 |(a,b,i)=>
 if (i<(a.length:Int):Bool) then if aH i a.length then if ((a.getD i.toNat gj).ae=b:Bool) then some (.inl i)else o0 (a,b,aM .i64 i 1)else none else some (.inr ())
  partial_fixpoint
theorem U1:cM 162 0 [0] OE o0:= .rx o0.partial_correctness
def x0(b:List cQ×Int):Option Int:=
 match b with
 |(l,id)=>
 o0 (l,id,0)>>=λo=>match o with
 |.inl a=>
 some a
 |.inr c=>
 some (-1)
theorem V2:a6 aeQ x0:= .bh .n (.k U1 .n)
def oW:aq×List cQ×Int×ah×Int×Bool×Int×aj×Int×Int×Bool×Int×Bool×Int×aj×Int×List I×List bY->Option ((cS) ⊕ (Int×Bool×Int×aj×Int×Int×Bool×Int×Bool×Int×aj×Int×List I×List bY))
 |(s,a,k,c,d,e,f,g,i,j,l,m,n,o,p,q,r,b)=>
 if (k<(a.length:Int):Bool) then if aH k a.length then hA (c,(a.getD k.toNat gj).ae)>>=λu=>if u.2 then oW (s,a,aM .i64 k 1,c,d,e,f,g,i,j,l,m,n,o,p,q,r,b)else if aH k a.length then if(a.getD k.toNat gj).cp then if aH k a.length then lF (s,(a.getD k.toNat gj).ae)>>=λv=>g' (v,6)>>=λt=>some (.inl (⟨I.eta t.Value,t.dO,t.ck⟩:cS))else none else if aH k a.length then if aH k a.length then some [(⟨(a.getD k.toNat gj).ae,(a.getD k.toNat gj).Data⟩:bY)]>>=λt135=>if room 24 (b++t135).length then oW (s,a,aM .i64 k 1,c,d,e,f,g,i,j,l,m,n,o,p,q,r,b++t135)else none else none else none else none else none else some (.inr (d,e,f,g,i,j,l,m,n,o,p,q,r,b))
  partial_fixpoint
theorem TH:cM 122 0 [1] OF oW:= .rx oW.partial_correctness (.k mi (.k sF (.k oZ .n)))
mutual
def jH:aR×Int×aj×Int×aq->Option cS
 |(s,t,p,v,path)=>
 if aH t s.Types.length then some (s.Types.getD t.toNat aN)>>=λc=>if (200<v:Bool) then g' (path,8)>>=λr=>some (⟨I.eta r.Value,r.dO,r.ck⟩:cS)else
 let i2:=λld=>
 let i1:=λlc=>
 let i0:=λkw=>
 let ip:=λks=>
 let io:=λkk=>
 if (c.Kind=6:Bool) then Cc (s,c,p,v,path)>>=λb0=>some (⟨I.eta b0.Value,b0.dO,b0.ck⟩:cS)else if (c.Kind=7:Bool) then Ch (s,c,p,v,path)>>=λb1=>some (⟨I.eta b1.Value,b1.dO,b1.ck⟩:cS)else if (c.Kind=8:Bool) then Cr (s,c,p,v,path)>>=λb2=>some (⟨I.eta b2.Value,b2.dO,b2.ck⟩:cS)else if (c.Kind=5:Bool) then B8 (s,c,p,v,path)>>=λb3=>some (⟨I.eta b3.Value,b3.dO,b3.ck⟩:cS)else nk (⟨c.Kind,ld,lc,kw,ks,[],kk,[]⟩:I)>>=λb4=>some (⟨I.eta b4.Value,b4.dO,b4.ck⟩:cS)
 if(bif (c.Kind=9:Bool)then(!(p=[]:Bool))else false) then if aH 0 p.length then if !(fq p 0=1:Bool) then g' (path,1)>>=λbT=>some (⟨I.eta bT.Value,bT.dO,bT.ck⟩:cS)else if dS 1 (p.length:Int) p.length then lF (path,0)>>=λjp=>jH (s,c.aG,d' p 1 (p.length:Int),aM .i64 v 1,jp)>>=λL=>if !L.ck then some (⟨I.eta L.Value,L.dO,L.ck⟩:cS)else io [I.eta L.Value]else none else none else io []
 if (c.Kind=4:Bool) then xR p>>=λQ=>if(bif bif (!Q.2)then true else (Q.1<1:Bool)then true else (1000<Q.1:Bool)) then g' (path,1)>>=λbH=>some (⟨I.eta bH.Value,bH.dO,bH.ck⟩:cS)else some (bW .i64 Q.1)>>=λi7=>sk (c,i7)>>=λi9=>if(bif (!i9.2)then(!c.Open)else false) then g' (path,4)>>=λbQ=>some (⟨I.eta bQ.Value,bQ.dO,bQ.ck⟩:cS)else ip i7 else ip 0
 if (c.Kind=3:Bool) then if (c.Max<(p.length:Int):Bool) then g' (path,3)>>=λbv=>some (⟨I.eta bv.Value,bv.dO,bv.ck⟩:cS)else i0 p else i0 []
 if (c.Kind=2:Bool) then xR p>>=λi6=>if !i6.2 then g' (path,1)>>=λbi=>some (⟨I.eta bi.Value,bi.dO,bi.ck⟩:cS)else B2 i6.1>>=λbo=>if(bif (bo<c.bA:Bool)then true else (c.bC<bo:Bool)) then g' (path,2)>>=λbs=>some (⟨I.eta bs.Value,bs.dO,bs.ck⟩:cS)else i1 bo else i1 0
 if (c.Kind=1:Bool) then if(bif (!(p=[]:Bool))then(!(p=[1]:Bool))else false) then g' (path,1)>>=λa9=>some (⟨I.eta a9.Value,a9.dO,a9.ck⟩:cS)else some (!(decide (p=[])))>>=λt44=>i2 t44 else i2 false else none
  partial_fixpoint
def Cr(f:aR×ah×aj×Int×aq):Option cS:=
 match f with
 |(s,c,p,v,path)=>
 vr p>>=λr=>if(bif (!(r.2=0:Bool))then true else (b' (r.1.length:Int) 2=1:Bool)) then g' (path,1)>>=λy=>some (⟨I.eta y.Value,y.dO,y.ck⟩:cS)else if (c.Max<fv .i64 (r.1.length:Int) 2:Bool) then g' (path,3)>>=λq=>some (⟨I.eta q.Value,q.dO,q.ck⟩:cS)else sg (v,path,r.1,0,s.Types,c,0,false,0,[],0,0,false,c.Kind,false,0,[],0,[])>>=λo=>match o with
 |.inl w=>
 some (⟨I.eta w.Value,w.dO,w.ck⟩:cS)
 |.inr a=>
 qq (a.1,a.2.1,a.2.2.1,1,a.2.2.2.1,a.2.2.2.2.1,a.2.2.2.2.2.1,a.2.2.2.2.2.2.1,a.2.2.2.2.2.2.2.1,a.2.2.2.2.2.2.2.2.1,a.2.2.2.2.2.2.2.2.2.1,a.2.2.2.2.2.2.2.2.2.2.1,a.2.2.2.2.2.2.2.2.2.2.2.1,a.2.2.2.2.2.2.2.2.2.2.2.2.1,a.2.2.2.2.2.2.2.2.2.2.2.2.2.1,a.2.2.2.2.2.2.2.2.2.2.2.2.2.2.1,a.2.2.2.2.2.2.2.2.2.2.2.2.2.2.2.1,a.2.2.2.2.2.2.2.2.2.2.2.2.2.2.2.2.1,a.2.2.2.2.2.2.2.2.2.2.2.2.2.2.2.2.2)>>=λa3=>match a3 with
 |.inl A=>
 some (⟨I.eta A.Value,A.dO,A.ck⟩:cS)
 |.inr e=>
 sh (e.1,e.2.1,e.2.2.1,0,e.2.2.2.1,e.2.2.2.2.1,e.2.2.2.2.2.1,e.2.2.2.2.2.2.1,e.2.2.2.2.2.2.2.1,e.2.2.2.2.2.2.2.2.1,e.2.2.2.2.2.2.2.2.2.1,e.2.2.2.2.2.2.2.2.2.2.1,e.2.2.2.2.2.2.2.2.2.2.2.1,e.2.2.2.2.2.2.2.2.2.2.2.2.1,e.2.2.2.2.2.2.2.2.2.2.2.2.2.1,e.2.2.2.2.2.2.2.2.2.2.2.2.2.2.1,e.2.2.2.2.2.2.2.2.2.2.2.2.2.2.2.1,e.2.2.2.2.2.2.2.2.2.2.2.2.2.2.2.2.1,e.2.2.2.2.2.2.2.2.2.2.2.2.2.2.2.2.2,[])>>=λi8=>match i8 with
 |.inl a4=>
 some (⟨I.eta a4.Value,a4.dO,a4.ck⟩:cS)
 |.inr B=>
 nk (⟨B.2.2.2.2.2.2.2.1,B.2.2.2.2.2.2.2.2.1,B.2.2.2.2.2.2.2.2.2.1,B.2.2.2.2.2.2.2.2.2.2.1,B.2.2.2.2.2.2.2.2.2.2.2.1,B.2.2.2.2.2.2.2.2.2.2.2.2.1,B.2.2.2.2.2.2.2.2.2.2.2.2.2,[]⟩:I)>>=λj=>some (⟨I.eta j.Value,j.dO,j.ck⟩:cS)
  partial_fixpoint
def Ch(f:aR×ah×aj×Int×aq):Option cS:=
 match f with
 |(s,c,p,v,path)=>
 vr p>>=λr=>if !(r.2=0:Bool) then g' (path,1)>>=λy=>some (⟨I.eta y.Value,y.dO,y.ck⟩:cS)else if (c.Max<(r.1.length:Int):Bool) then g' (path,3)>>=λq=>some (⟨I.eta q.Value,q.dO,q.ck⟩:cS)else sZ (v,path,r.1,0,s.Types,c,0,false,0,[],0,0,false,c.Kind,false,0,[],0,[])>>=λo=>match o with
 |.inl w=>
 some (⟨I.eta w.Value,w.dO,w.ck⟩:cS)
 |.inr a=>
 nk (⟨a.2.2.2.2.2.2.2.1,a.2.2.2.2.2.2.2.2.1,a.2.2.2.2.2.2.2.2.2.1,a.2.2.2.2.2.2.2.2.2.2.1,a.2.2.2.2.2.2.2.2.2.2.2.1,[],a.2.2.2.2.2.2.2.2.2.2.2.2,[]⟩:I)>>=λj=>some (⟨I.eta j.Value,j.dO,j.ck⟩:cS)
  partial_fixpoint
def B8(f:aR×ah×aj×Int×aq):Option cS:=
 match f with
 |(s,c,p,v,path)=>
 xT p>>=λr=>if !(r.2=0:Bool) then g' (path,1)>>=λy=>some (⟨I.eta y.Value,y.dO,y.ck⟩:cS)else mh (v,path,r.1,0,s.Types,c,0,false,0,[],0,0,false,c.Kind,false,0,[],0,[])>>=λo=>match o with
 |.inl w=>
 some (⟨I.eta w.Value,w.dO,w.ck⟩:cS)
 |.inr a=>
 oW (a.1,a.2.1,0,a.2.2.1,a.2.2.2.1,a.2.2.2.2.1,a.2.2.2.2.2.1,a.2.2.2.2.2.2.1,a.2.2.2.2.2.2.2.1,a.2.2.2.2.2.2.2.2.1,a.2.2.2.2.2.2.2.2.2.1,a.2.2.2.2.2.2.2.2.2.2.1,a.2.2.2.2.2.2.2.2.2.2.2.1,a.2.2.2.2.2.2.2.2.2.2.2.2.1,a.2.2.2.2.2.2.2.2.2.2.2.2.2.1,a.2.2.2.2.2.2.2.2.2.2.2.2.2.2.1,a.2.2.2.2.2.2.2.2.2.2.2.2.2.2.2,[])>>=λa3=>match a3 with
 |.inl A=>
 some (⟨I.eta A.Value,A.dO,A.ck⟩:cS)
 |.inr e=>
 nk (⟨e.2.2.2.2.2.2.2.1,e.2.2.2.2.2.2.2.2.1,e.2.2.2.2.2.2.2.2.2.1,e.2.2.2.2.2.2.2.2.2.2.1,e.2.2.2.2.2.2.2.2.2.2.2.1,[],e.2.2.2.2.2.2.2.2.2.2.2.2.1,e.2.2.2.2.2.2.2.2.2.2.2.2.2⟩:I)>>=λq=>some (⟨I.eta q.Value,q.dO,q.ck⟩:cS)
  partial_fixpoint
def Cc:aR×ah×aj×Int×aq->Option cS
 |(s,c,p,v,path)=>
 x9 p>>=λr=>if !(r.2.2=0:Bool) then g' (path,1)>>=λq=>some (⟨I.eta q.Value,q.dO,q.ck⟩:cS)else hA (c,r.1)>>=λj=>if(bif (!j.2)then(!c.Open)else false) then g' (path,5)>>=λN=>some (⟨I.eta N.Value,N.dO,N.ck⟩:cS)else if !j.2 then nk (⟨c.Kind,false,0,[],r.1,[],[],[(⟨r.1,r.2.1⟩:bY)]⟩:I)>>=λz=>some (⟨I.eta z.Value,z.dO,z.ck⟩:cS)else if aH j.1 c.ag.length then lF (path,r.1)>>=λba=>jH (s,(c.ag.getD j.1.toNat aE).aw,r.2.1,aM .i64 v 1,ba)>>=λx=>if !x.ck then some (⟨I.eta x.Value,x.dO,x.ck⟩:cS)else nk (⟨c.Kind,false,0,[],r.1,[],[I.eta x.Value],[]⟩:I)>>=λbe=>some (⟨I.eta be.Value,be.dO,be.ck⟩:cS)else none
  partial_fixpoint
def sg:Int×aq×List aj×Int×List ah×ah×Int×Bool×Int×aj×Int×Int×Bool×Int×Bool×Int×aj×Int×List I->Option ((cS) ⊕ (Int×aq×List aj×List ah×ah×Int×Bool×Int×aj×Int×Int×Bool×Int×Bool×Int×aj×Int×List I))
 |(a2,a5,J,i,aI,aZ,gc,gd,ge,gl,gs,gt,g0,g1,g2,g3,g4,g5,a0)=>
 if (gw .i64 2 i<(J.length:Int):Bool) then some (gw .i64 2 i)>>=λt57=>if aH t57 J.length then lF (a5,i)>>=λM=>jH ((⟨aI⟩:aR),aZ.Key,J.getD t57.toNat [],aM .i64 a2 1,M)>>=λu=>if !u.ck then some (.inl (⟨I.eta u.Value,u.dO,u.ck⟩:cS))else some [I.eta u.Value]>>=λt74=>if room 120 (a0++t74).length then sg (a2,a5,J,aM .i64 i 1,aI,aZ,gc,gd,ge,gl,gs,gt,g0,g1,g2,g3,g4,g5,a0++t74)else none else none else some (.inr (a2,a5,J,aI,aZ,gc,gd,ge,gl,gs,gt,g0,g1,g2,g3,g4,g5,a0))
  partial_fixpoint
def sh:Int×aq×List aj×Int×List ah×ah×Int×Bool×Int×aj×Int×Int×Bool×Int×Bool×Int×aj×Int×List I×List I->Option ((cS) ⊕ (Int×Bool×Int×aj×Int×Int×Bool×Int×Bool×Int×aj×Int×List I×List I))
 |(i3,i5,P,O,g6,g7,g8,g9,he,hk,hm,hs,ht,hu,hw,hH,h0,h1,ii,a1)=>
 if (gw .i64 2 O<(P.length:Int):Bool) then some (aM .i64 (gw .i64 2 O) 1)>>=λt112=>if aH t112 P.length then lF (i5,O)>>=λba=>jH ((⟨g6⟩:aR),g7.aG,P.getD t112.toNat [],aM .i64 i3 1,ba)>>=λx=>if !x.ck then some (.inl (⟨I.eta x.Value,x.dO,x.ck⟩:cS))else some [I.eta x.Value]>>=λt129=>if room 120 (a1++t129).length then sh (i3,i5,P,aM .i64 O 1,g6,g7,g8,g9,he,hk,hm,hs,ht,hu,hw,hH,h0,h1,ii,a1++t129)else none else none else some (.inr (g8,g9,he,hk,hm,hs,ht,hu,hw,hH,h0,h1,ii,a1))
  partial_fixpoint
def sZ:Int×aq×List aj×Int×List ah×ah×Int×Bool×Int×aj×Int×Int×Bool×Int×Bool×Int×aj×Int×List I->Option ((cS) ⊕ (Int×Bool×Int×aj×Int×Int×Bool×Int×Bool×Int×aj×Int×List I))
 |(F,i4,l,i,ce,ci,cq,cs,c7,ds,dt,eq,es,ex,fd,ff,fo,fs,R)=>
 if (i<(l.length:Int):Bool) then if aH i l.length then lF (i4,i)>>=λM=>jH ((⟨ce⟩:aR),ci.aG,l.getD i.toNat [],aM .i64 F 1,M)>>=λu=>if !u.ck then some (.inl (⟨I.eta u.Value,u.dO,u.ck⟩:cS))else some [I.eta u.Value]>>=λt62=>if room 120 (R++t62).length then sZ (F,i4,l,aM .i64 i 1,ce,ci,cq,cs,c7,ds,dt,eq,es,ex,fd,ff,fo,fs,R++t62)else none else none else some (.inr (cq,cs,c7,ds,dt,eq,es,ex,fd,ff,fo,fs,R))
  partial_fixpoint
def mh:Int×aq×List cQ×Int×List ah×ah×Int×Bool×Int×aj×Int×Int×Bool×Int×Bool×Int×aj×Int×List I->Option ((cS) ⊕ (aq×List cQ×ah×Int×Bool×Int×aj×Int×Int×Bool×Int×Bool×Int×aj×Int×List I))
 |(F,K,E,i,S,D,U,W,X,Y,Z,af,am,an,ap,ax,aB,aC,H)=>
 if (i<(D.ag.length:Int):Bool) then if aH i D.ag.length then some (D.ag.getD i.toNat aE)>>=λG=>x0 (E,G.ae)>>=λj=>if (j<0:Bool) then if !G.bZ then lF (K,G.ae)>>=λM=>g' (M,7)>>=λu=>some (.inl (⟨I.eta u.Value,u.dO,u.ck⟩:cS))else some [I.eta G.bw]>>=λt63=>if room 120 (H++t63).length then mh (F,K,E,aM .i64 i 1,S,D,U,W,X,Y,Z,af,am,an,ap,ax,aB,aC,H++t63)else none else if aH j E.length then lF (K,G.ae)>>=λN=>jH ((⟨S⟩:aR),G.aw,(E.getD j.toNat gj).Data,aM .i64 F 1,N)>>=λz=>if !z.ck then some (.inl (⟨I.eta z.Value,z.dO,z.ck⟩:cS))else some [I.eta z.Value]>>=λt89=>if room 120 (H++t89).length then mh (F,K,E,aM .i64 i 1,S,D,U,W,X,Y,Z,af,am,an,ap,ax,aB,aC,H++t89)else none else none else none else some (.inr (K,E,D,U,W,X,Y,Z,af,am,an,ap,ax,aB,aC,H))
  partial_fixpoint
end
theorem TI:dY oL jH/\dY EG B8/\ez 122 0 [0] zm mh/\dY EF Cr/\ez 121 0 [2] zl sh/\ez 121 0 [0] zM sg/\dY EE Ch/\ez 120 0 [0] zL sZ/\dY ED Cc:=jH.mutual_partial_correctness (dU oL) (dU EG) (ey 122 0 [0] zm) (dU EF) (ey 121 0 [2] zl) (ey 121 0 [0] zM) (dU EE) (ey 120 0 [0] zL) (dU ED)
 (λ_ _ _ _ _ h0 h1 d e f _ _ h=>eb h (.k oZ (.k UR (.k UZ (.k BZ (.k sF (.k (cg oL h0) (.k (cg ED f) (.k (cg EE e) (.k (cg EF d) (.k (cg EG h1) (.k xS .n))))))))))))
 (λ_ a _ _ h=>eb h (.k UT (.k oZ (.k xS .n))) (.k (eL zm a) (.k TH .n)))
 (λ_ _ h0 a _ _ h=>eK zm a h (.k V2 (.k sF (.k oZ (.k (cg oL h0) .n)))))
 (λ_ _ b ba _ _ h=>eb h (.k Su (.k oZ (.k xS .n))) (.k (eL zM ba) (.k Ui (.k (eL zl b) .n))))
 (λ_ _ h0 b _ _ h=>eK zl b h (.k sF (.k (cg oL h0) .n)))
 (λ_ _ h0 ba _ _ h=>eK zM ba h (.k sF (.k (cg oL h0) .n)))
 (λ_ c _ _ h=>eb h (.k Su (.k oZ (.k xS .n))) (.k (eL zL c) .n))
 (λ_ _ h0 c _ _ h=>eK zL c h (.k sF (.k (cg oL h0) .n)))
 (λ_ h0 _ _ h=>eb h (.k WG (.k oZ (.k mi (.k xS (.k sF (.k (cg oL h0) .n)))))))
theorem Vg:a6 oL jH:=cg _ TI.1
def Gj:aR×Int×aj->Option (cS×Int)
 |(s,t,m)=>
 kE (s,t)>>=λr=>if !(r=0:Bool) then some ((⟨(⟨0,false,0,[],0,[],[],[]⟩:I),(⟨[],0⟩:iT),false⟩:cS),r)else if (4096<(m.length:Int):Bool) then g' ([],3)>>=λa=>some ((⟨I.eta a.Value,a.dO,a.ck⟩:cS),0)else jH (s,t,m,1,[])>>=λb=>some ((⟨I.eta b.Value,b.dO,b.ck⟩:cS),0)
theorem VE:a6 ae' Gj:= .bh (.k F9 (.k oZ (.k Vg .n)))
def sq:aR×Int×aj->Option (I×Int)
 |(s,t,m)=>
 Gj (s,t,m)>>=λr=>if(bif (r.2=0:Bool)then(!r.1.ck)else false) then some (I.eta r.1.Value,12)else some (I.eta r.1.Value,r.2)
theorem UU:a6 aeT sq:= .bh (.k VE .n)
def sG(v:I):Option Bool:=
 some (bif bif bif bif bif bif bif decide (v.Kind=1)then true else(!v.bL)then bif decide (v.Kind=2)then true else decide (v.bc=0)else false then bif decide (v.Kind=3)then true else decide (v.bn=[])else false then bif bif decide (v.Kind=4)then true else decide (v.Kind=6)then true else decide (v.ae=0)else false then bif decide (v.Kind=8)then true else decide ((v.av.length:Int)=0)else false then bif decide (5<=v.Kind)then true else decide ((v.ai.length:Int)=0)else false then bif bif decide (v.Kind=5)then true else decide (v.Kind=6)then true else decide ((v.Rest.length:Int)=0)else false)
theorem VF:a6 aeq sG:= .bh
def jt:Int×Bool->Option Bool
 |(n,a)=>
 some (bif bif (!a)then decide (1<=n)else false then decide (n<=1000)else false)
theorem R6:a6 aer jt:= .bh
def j2:List bY×Int×ah->Option ((Bool) ⊕ (Unit))
 |(a,i,b)=>
 if (i<(a.length:Int):Bool) then if aH i a.length then hA (b,(a.getD i.toNat bX).ae)>>=λr=>if aH i a.length then jt ((a.getD i.toNat bX).ae,r.2)>>=λc=>some (!c)>>=λt31=>some (decide (0<i))>>=λt34=>if(aH i a.length||(!((!t31)&&t34))) then some (df .i64 i 1)>>=λt43=>if(aH t43 a.length||(!((!t31)&&t34))) then if(bif t31 then true else bif t34 then ((a.getD i.toNat bX).ae<=(a.getD t43.toNat bX).ae:Bool)else false) then some (.inl false)else j2 (a,aM .i64 i 1,b)else none else none else none else none else some (.inr ())
  partial_fixpoint
theorem Vh:cM 126 0 [0] OG j2:= .rx j2.partial_correctness (.k mi (.k R6 .n))
def re(b:ah×List bY):Option Bool:=
 match b with
 |(t,l)=>
 j2 (l,0,t)>>=λo=>match o with
 |.inl a=>
 some a
 |.inr c=>
 some true
theorem VG:a6 aes re:= .bh .n (.k Vh .n)
def hX:Int×I->Option ((Bool) ⊕ (Unit))
 |(b,a)=>
 if (b<(a.av.length:Int):Bool) then some (df .i64 b 1)>>=λt270=>if aH t270 a.av.length then if aH b a.av.length then nP (I.eta (a.av.getD t270.toNat au),I.eta (a.av.getD b.toNat au))>>=λc=>if (0<=c:Bool) then some (.inl false)else hX (aM .i64 b 1,I.eta a)else none else none else some (.inr ())
  partial_fixpoint
theorem UW:cM 91 0 [1] QE hX:= .rx hX.partial_correctness (.k Cs .n)
mutual
def ns(c:aR×Int×List I×Bool):Option Bool:=
 match c with
 |(s,t,l,plain)=>
 kA (t,l,plain,0,s.Types)>>=λo=>match o with
 |.inl u=>
 some u
 |.inr J=>
 some true
  partial_fixpoint
def iH(c:aR×Int×I×Bool):Option Bool:=
 match c with
 |(s,t,v,plain)=>
 if(bif (t<0:Bool)then true else ((s.Types.length:Int)<=t:Bool)) then some false else if aH t s.Types.length then some (s.Types.getD t.toNat aN)>>=λa=>some (!(decide (v.Kind=a.Kind)))>>=λt34=>(if !t34 then sG (I.eta v)else some false)>>=λr=>if(bif bif t34 then true else(!r)then true else bif plain then (0<(v.Rest.length:Int):Bool)else false) then some false else if (a.Kind=1:Bool) then some true else if (a.Kind=2:Bool) then some (bif decide (a.bA<=v.bc)then decide (v.bc<=a.bC)else false)else if (a.Kind=3:Bool) then some (decide ((v.bn.length:Int)<=a.Max))else if (a.Kind=4:Bool) then sk (a,v.ae)>>=λw=>some (bif a.Open then(!plain)else false)>>=λt91=>(if((!w.2)&&t91) then jt (v.ae,w.2)else some false)>>=λS=>some (bif w.2 then true else bif t91 then S else false)else if (a.Kind=5:Bool) then some (!(decide ((v.ai.length:Int)=(a.ag.length:Int))))>>=λt107=>(if !t107 then re (a,v.Rest)else some false)>>=λU=>if(bif t107 then true else(!U)) then some false else i' (plain,0,s.Types,I.eta v,a.Kind,a.Name,a.bA,a.bC,a.Max,a.bg,a.ag,a.Key,a.aG,a.Open)>>=λo=>match o with
 |.inl u=>
 some u
 |.inr J=>
 some true else if (a.Kind=6:Bool) then hA (a,v.ae)>>=λp=>if p.2 then some (bif decide ((v.ai.length:Int)=1)then decide ((v.Rest.length:Int)=0)else false)>>=λt156=>if(aH p.1 a.ag.length||(!t156)) then if(aH 0 v.ai.length||(!t156)) then (if t156 then iH (s,(a.ag.getD p.1.toNat aE).aw,I.eta (v.ai.getD (0:Int).toNat au),plain)else some false)>>=λW=>some (bif t156 then W else false)else none else none else some (bif a.Open then(!plain)else false)>>=λt177=>(if t177 then jt (v.ae,p.2)else some false)>>=λM=>some (bif bif bif t177 then M else false then decide ((v.ai.length:Int)=0)else false then decide ((v.Rest.length:Int)=1)else false)>>=λt195=>if(aH 0 v.Rest.length||(!t195)) then some (bif t195 then decide ((v.Rest.getD (0:Int).toNat bX).ae=v.ae)else false)else none else if (a.Kind=7:Bool) then some (decide ((v.ai.length:Int)<=a.Max))>>=λt213=>(if t213 then ns (s,a.aG,v.ai,plain)else some false)>>=λN=>some (bif t213 then N else false)else if (a.Kind=8:Bool) then some (bif decide (a.Max<(v.av.length:Int))then true else(!(decide ((v.ai.length:Int)=(v.av.length:Int)))))>>=λt239=>(if !t239 then ns (s,a.Key,v.av,plain)else some false)>>=λO=>some (bif t239 then true else(!O))>>=λt249=>(if !t249 then ns (s,a.aG,v.ai,plain)else some false)>>=λP=>if(bif t249 then true else(!P)) then some false else hX (1,I.eta v)>>=λK=>match K with
 |.inl L=>
 some L
 |.inr X=>
 some true else some (decide ((v.ai.length:Int)<=1))>>=λt283=>(if t283 then ns (s,a.aG,v.ai,plain)else some false)>>=λQ=>some (bif t283 then Q else false)else none
  partial_fixpoint
def kA:Int×List I×Bool×Int×List ah->Option ((Bool) ⊕ (Unit))
 |(x,j,e,i,b)=>
 if (i<(j.length:Int):Bool) then if aH i j.length then iH ((⟨b⟩:aR),x,I.eta (j.getD i.toNat au),e)>>=λr=>if !r then some (.inl false)else kA (x,j,e,aM .i64 i 1,b)else none else some (.inr ())
  partial_fixpoint
def i':Bool×Int×List ah×I×Int×aj×Int×Int×Int×List c4×List aS×Int×Int×Bool->Option ((Bool) ⊕ (Unit))
 |(e,i,b,f,A,B,D,E,F,G,q,H,y,z)=>
 if (i<(f.ai.length:Int):Bool) then if aH i q.length then if aH i f.ai.length then iH ((⟨b⟩:aR),(q.getD i.toNat aE).aw,I.eta (f.ai.getD i.toNat au),e)>>=λR=>if !R then some (.inl false)else i' (e,aM .i64 i 1,b,I.eta f,A,B,D,E,F,G,q,H,y,z)else none else none else some (.inr ())
  partial_fixpoint
end
theorem V3:dY EH ns/\ez 127 0 [0] zn kA/\dY uC iH/\ez 91 0 [0] xm i':=ns.mutual_partial_correctness (dU EH) (ey 127 0 [0] zn) (dU uC) (ey 91 0 [0] xm)
 (λ_ h1 _ _ h=>eb h .n (.k (eL zn h1) .n))
 (λ_ _ h1 a _ _ h=>eK zn h1 h (.k (cg uC a) .n))
 (λ_ _ _ h0 a b _ _ h=>eb h (.k VF (.k BZ (.k R6 (.k VG (.k mi (.k (cg uC a) (.k (cg EH h0) .n))))))) (.k (eL xm b) (.k UW .n)))
 (λ_ _ a b _ _ h=>eK xm b h (.k (cg uC a) .n))
theorem RW:a6 uC iH:=cg _ V3.2.2.1
def Gk:aR×Int×I->Option Bool
 |(s,t,v)=>
 iH (s,t,I.eta v,false)>>=λr=>some r
theorem VH:a6 afu Gk:= .bh (.k RW .n)
def sB:aR×Int×I->Option Int
 |(s,t,v)=>
 vq s>>=λr=>if !(r=0:Bool) then some r else if(bif (t<0:Bool)then true else ((s.Types.length:Int)<=t:Bool)) then some 4 else Gk (s,t,I.eta v)>>=λa=>if !a then some 1 else some 0
theorem Sv:a6 ae8 sB:= .bh (.k St (.k VH .n))
def B9(v:I):Option (Int×Bool×Int×aj×Int×List I×List I×List bY):=
 if room 120 ([]++v.av).length then if room 120 ([]++v.ai).length then if room 24 ([]++v.Rest).length then some (v.Kind,v.bL,v.bc,v.bn,v.ae,[]++v.av,[]++v.ai,[]++v.Rest)else none else none else none
theorem UX:a6 afB B9:= .bh
mutual
def o1(v:I):Option I:=
 B9 (I.eta v)>>=λr=>if (r.1=5:Bool) then qW (0,r.1,r.2.1,r.2.2.1,r.2.2.2.1,r.2.2.2.2.1,[],0,false,0,[],0,r.2.2.2.2.2.1,r.2.2.2.2.2.2.1)>>=λo=>some (⟨o.1,o.2.1,o.2.2.1,o.2.2.2.1,o.2.2.2.2.1,o.2.2.2.2.2.2.2.2.2.2.2.1,o.2.2.2.2.2.2.2.2.2.2.2.2,o.2.2.2.2.2.1⟩:I)else qW (0,r.1,r.2.1,r.2.2.1,r.2.2.2.1,r.2.2.2.2.1,r.2.2.2.2.2.2.2,0,false,0,[],0,r.2.2.2.2.2.1,r.2.2.2.2.2.2.1)>>=λc=>some (⟨c.1,c.2.1,c.2.2.1,c.2.2.2.1,c.2.2.2.2.1,c.2.2.2.2.2.2.2.2.2.2.2.1,c.2.2.2.2.2.2.2.2.2.2.2.2,c.2.2.2.2.2.1⟩:I)
  partial_fixpoint
def qW:Int×Int×Bool×Int×aj×Int×List bY×Int×Bool×Int×aj×Int×List I×List I->Option (Int×Bool×Int×aj×Int×List bY×Int×Bool×Int×aj×Int×List I×List I)
 |(i,e,f,j,p,q,t,u,w,x,y,z,A,a)=>
 if (i<(a.length:Int):Bool) then if aH i a.length then if (i.toNat<a.length:Bool) then o1 (I.eta (a.getD i.toNat au))>>=λB=>if aH i a.length then if (i.toNat<a.length:Bool) then qW (aM .i64 i 1,e,f,j,p,q,t,u,w,x,y,z,A,a.set i.toNat (I.eta B))else none else none else none else none else some (e,f,j,p,q,t,u,w,x,y,z,A,a)
  partial_fixpoint
end
theorem T0:dY Bp o1/\ez 56 0 [0] xf qW:=o1.mutual_partial_correctness (dU Bp) (ey 56 0 [0] xf)
 (λ_ h1 _ _ h=>eb h (.k UX .n) (.k (eL xf h1) .n))
 (λ_ _ h0 h1 _ _ h=>eK xf h1 h (.k (cg Bp h0) .n))
theorem U2:a6 Bp o1:=cg _ T0.1
def vt:aR×Int×I->Option Bool
 |(s,t,v)=>
 iH (s,t,I.eta v,true)>>=λr=>some r
theorem Sw:a6 afg vt:= .bh (.k RW .n)
def vu:aR×Int×I->Option (I×Int)
 |(s,t,v)=>
 sB (s,t,I.eta v)>>=λr=>if !(r=0:Bool) then some ((⟨0,false,0,[],0,[],[],[]⟩:I),r)else o1 (I.eta v)>>=λa=>vt (s,t,I.eta a)>>=λb=>if !b then some ((⟨0,false,0,[],0,[],[],[]⟩:I),12)else some (I.eta a,0)
theorem V4:a6 ae1 vu:= .bh (.k Sv (.k U2 (.k Sw .n)))
def Cd:aR×Int×I×aR×Int->Option Int
 |(w,wt,v,r,rt)=>
 kE (w,wt)>>=λa=>if !(a=0:Bool) then some a else kE (r,rt)>>=λb=>if !(b=0:Bool) then some b else vt (w,wt,I.eta v)>>=λc=>if !c then some 1 else some 0
theorem V5:a6 ae9 Cd:= .bh (.k F9 (.k Sw .n))
def kz(path:aq):Option dI:=
 if room 8 ([]++path).length then some (⟨(⟨0,false,0,[],0,[],[],[]⟩:I),[]++path,false⟩:dI)else none
theorem BY:a6 afv kz:= .bh
def nn(v:I):Option dI:=
 some (⟨I.eta v,[],true⟩:dI)
theorem Gc:a6 afy nn:= .bh
def qA:aq×Int->Option aq
 |(path,step)=>
 if room 8 ([]++path).length then some ([]++path)>>=λl=>some [step]>>=λt9=>if room 8 (l++t9).length then some (l++t9)else none else none
theorem x4:a6 afx qA:= .bh
def Ce:I×I->Option Bool
 |(a,b)=>
 jG (I.eta a,I.eta b)>>=λr=>some r
theorem V6:a6 aeU Ce:= .bh (.k xG .n)
def uP:aS×I->Option Bool
 |(m,v)=>
 (if m.bZ then Ce (I.eta m.bw,I.eta v)else some false)>>=λr=>some (bif m.bZ then r else false)
theorem RI:a6 ael uP:= .bh (.k V6 .n)
def nM:aq×Int×List ah×ah×I×ah×Int×Bool×Int×aj×Int×Bool×Int×Bool×Int×aj×Int×List I×List bY->Option ((dI) ⊕ (Int×Bool×Int×aj×Int×Bool×Int×Bool×Int×aj×Int×List I×List bY))
 |(u,i,e,c,b,f,g,j,k,l,m,n,o,p,q,r,s,t,d)=>
 if (i<(c.ag.length:Int):Bool) then if aH i c.ag.length then some (c.ag.getD i.toNat aE)>>=λa=>hA (f,a.ae)>>=λw=>if w.2 then nM (u,aM .i64 i 1,e,c,I.eta b,f,g,j,k,l,m,n,o,p,q,r,s,t,d)else if a.cp then qA (u,a.ae)>>=λx=>kz x>>=λv=>some (.inl (⟨I.eta v.Value,v.Path,v.ck⟩:dI))else if aH i b.ai.length then uP ((⟨a.ae,a.Name,a.aw,a.cp,a.bZ,I.eta a.bw⟩:aS),I.eta (b.ai.getD i.toNat au))>>=λy=>if !y then if aH i b.ai.length then iY ((⟨e⟩:aR),a.aw,I.eta (b.ai.getD i.toNat au))>>=λz=>some [(⟨a.ae,z⟩:bY)]>>=λt170=>if room 24 (d++t170).length then nM (u,aM .i64 i 1,e,c,I.eta b,f,g,j,k,l,m,n,o,p,q,r,s,t,d++t170)else none else none else nM (u,aM .i64 i 1,e,c,I.eta b,f,g,j,k,l,m,n,o,p,q,r,s,t,d)else none else none else some (.inr (g,j,k,l,m,n,o,p,q,r,s,t,d))
  partial_fixpoint
theorem TJ:cM 84 0 [1] QD nM:= .rx nM.partial_correctness (.k mi (.k x4 (.k BY (.k RI (.k Ct .n)))))
mutual
def mq(u:aR×Int×I×aR×Int×aq):Option dI:=
 match u with
 |(w,wt,v,r,rt,path)=>
 if aH wt w.Types.length then some (w.Types.getD wt.toNat aN)>>=λc=>if aH rt r.Types.length then some (r.Types.getD rt.toNat aN)>>=λe=>if !(c.Kind=e.Kind:Bool) then kz path>>=λt=>some (⟨I.eta t.Value,t.Path,t.ck⟩:dI)else if(bif (c.Kind=2:Bool)then bif (v.bc<e.bA:Bool)then true else (e.bC<v.bc:Bool)else false) then kz path>>=λK=>some (⟨I.eta K.Value,K.Path,K.ck⟩:dI)else if(bif (c.Kind=3:Bool)then (e.Max<(v.bn.length:Int):Bool)else false) then kz path>>=λq=>some (⟨I.eta q.Value,q.Path,q.ck⟩:dI)else if (c.Kind=4:Bool) then sk (e,v.ae)>>=λM=>if(bif (!M.2)then(!e.Open)else false) then kz path>>=λp=>some (⟨I.eta p.Value,p.Path,p.ck⟩:dI)else if(bif bif (c.Kind=7:Bool)then true else (c.Kind=8:Bool)then (e.Max<(v.ai.length:Int):Bool)else false) then kz path>>=λE=>some (⟨I.eta E.Value,E.Path,E.ck⟩:dI)else if (c.Kind=6:Bool) then x1 (w,c,I.eta v,r,e,path)>>=λA=>some (⟨I.eta A.Value,A.Path,A.ck⟩:dI)else if (c.Kind=5:Bool) then xU (w,c,I.eta v,r,e,path)>>=λx=>some (⟨I.eta x.Value,x.Path,x.ck⟩:dI)else nQ (path,0,w.Types,I.eta v,r.Types,0,false,0,[],0,false,c,e,v.Kind,v.bL,v.bc,v.bn,v.ae,v.Rest,[])>>=λo=>match o with
 |.inl G=>
 some (⟨I.eta G.Value,G.Path,G.ck⟩:dI)
 |.inr a=>
 nR (a.1,0,a.2.1,I.eta a.2.2.1,a.2.2.2.1,a.2.2.2.2.1,a.2.2.2.2.2.1,a.2.2.2.2.2.2.1,a.2.2.2.2.2.2.2.1,a.2.2.2.2.2.2.2.2.1,a.2.2.2.2.2.2.2.2.2.1,a.2.2.2.2.2.2.2.2.2.2.1,a.2.2.2.2.2.2.2.2.2.2.2.1,a.2.2.2.2.2.2.2.2.2.2.2.2.1,a.2.2.2.2.2.2.2.2.2.2.2.2.2.1,a.2.2.2.2.2.2.2.2.2.2.2.2.2.2.1,a.2.2.2.2.2.2.2.2.2.2.2.2.2.2.2.1,a.2.2.2.2.2.2.2.2.2.2.2.2.2.2.2.2.1,a.2.2.2.2.2.2.2.2.2.2.2.2.2.2.2.2.2.1,a.2.2.2.2.2.2.2.2.2.2.2.2.2.2.2.2.2.2,[])>>=λbe=>match be with
 |.inl H=>
 some (⟨I.eta H.Value,H.Path,H.ck⟩:dI)
 |.inr j=>
 nn (⟨j.2.2.2.2.2.2.1,j.2.2.2.2.2.2.2.1,j.2.2.2.2.2.2.2.2.1,j.2.2.2.2.2.2.2.2.2.1,j.2.2.2.2.2.2.2.2.2.2.1,j.2.2.2.2.2.2.2.2.2.2.2.2.1,j.2.2.2.2.2.2.2.2.2.2.2.2.2,j.2.2.2.2.2.2.2.2.2.2.2.1⟩:I)>>=λz=>some (⟨I.eta z.Value,z.Path,z.ck⟩:dI)else if(bif bif (c.Kind=7:Bool)then true else (c.Kind=8:Bool)then (e.Max<(v.ai.length:Int):Bool)else false) then kz path>>=λJ=>some (⟨I.eta J.Value,J.Path,J.ck⟩:dI)else if (c.Kind=6:Bool) then x1 (w,c,I.eta v,r,e,path)>>=λbs=>some (⟨I.eta bs.Value,bs.Path,bs.ck⟩:dI)else if (c.Kind=5:Bool) then xU (w,c,I.eta v,r,e,path)>>=λbv=>some (⟨I.eta bv.Value,bv.Path,bv.ck⟩:dI)else nQ (path,0,w.Types,I.eta v,r.Types,0,false,0,[],0,false,c,e,v.Kind,v.bL,v.bc,v.bn,v.ae,v.Rest,[])>>=λg4=>match g4 with
 |.inl bi=>
 some (⟨I.eta bi.Value,bi.Path,bi.ck⟩:dI)
 |.inr f=>
 nR (f.1,0,f.2.1,I.eta f.2.2.1,f.2.2.2.1,f.2.2.2.2.1,f.2.2.2.2.2.1,f.2.2.2.2.2.2.1,f.2.2.2.2.2.2.2.1,f.2.2.2.2.2.2.2.2.1,f.2.2.2.2.2.2.2.2.2.1,f.2.2.2.2.2.2.2.2.2.2.1,f.2.2.2.2.2.2.2.2.2.2.2.1,f.2.2.2.2.2.2.2.2.2.2.2.2.1,f.2.2.2.2.2.2.2.2.2.2.2.2.2.1,f.2.2.2.2.2.2.2.2.2.2.2.2.2.2.1,f.2.2.2.2.2.2.2.2.2.2.2.2.2.2.2.1,f.2.2.2.2.2.2.2.2.2.2.2.2.2.2.2.2.1,f.2.2.2.2.2.2.2.2.2.2.2.2.2.2.2.2.2.1,f.2.2.2.2.2.2.2.2.2.2.2.2.2.2.2.2.2.2,[])>>=λg5=>match g5 with
 |.inl ba=>
 some (⟨I.eta ba.Value,ba.Path,ba.ck⟩:dI)
 |.inr D=>
 nn (⟨D.2.2.2.2.2.2.1,D.2.2.2.2.2.2.2.1,D.2.2.2.2.2.2.2.2.1,D.2.2.2.2.2.2.2.2.2.1,D.2.2.2.2.2.2.2.2.2.2.1,D.2.2.2.2.2.2.2.2.2.2.2.2.1,D.2.2.2.2.2.2.2.2.2.2.2.2.2,D.2.2.2.2.2.2.2.2.2.2.2.1⟩:I)>>=λbH=>some (⟨I.eta bH.Value,bH.Path,bH.ck⟩:dI)else none else none
  partial_fixpoint
def xU(u:aR×ah×I×aR×ah×aq):Option dI:=
 match u with
 |(w,c,v,r,y,path)=>
 oX (path,0,w.Types,c,I.eta v,r.Types,y,0,false,0,[],0,false,v.Kind,false,0,[],0,[])>>=λo=>match o with
 |.inl G=>
 some (⟨I.eta G.Value,G.Path,G.ck⟩:dI)
 |.inr a=>
 nM (a.1,0,a.2.1,a.2.2.1,I.eta a.2.2.2.1,a.2.2.2.2.1,a.2.2.2.2.2.1,a.2.2.2.2.2.2.1,a.2.2.2.2.2.2.2.1,a.2.2.2.2.2.2.2.2.1,a.2.2.2.2.2.2.2.2.2.1,a.2.2.2.2.2.2.2.2.2.2.1,a.2.2.2.2.2.2.2.2.2.2.2.1,a.2.2.2.2.2.2.2.2.2.2.2.2.1,a.2.2.2.2.2.2.2.2.2.2.2.2.2.1,a.2.2.2.2.2.2.2.2.2.2.2.2.2.2.1,a.2.2.2.2.2.2.2.2.2.2.2.2.2.2.2.1,a.2.2.2.2.2.2.2.2.2.2.2.2.2.2.2.2,[])>>=λbe=>match be with
 |.inl H=>
 some (⟨I.eta H.Value,H.Path,H.ck⟩:dI)
 |.inr j=>
 nn (⟨j.2.2.2.2.2.2.1,j.2.2.2.2.2.2.2.1,j.2.2.2.2.2.2.2.2.1,j.2.2.2.2.2.2.2.2.2.1,j.2.2.2.2.2.2.2.2.2.2.1,[],j.2.2.2.2.2.2.2.2.2.2.2.1,j.2.2.2.2.2.2.2.2.2.2.2.2⟩:I)>>=λt=>some (⟨I.eta t.Value,t.Path,t.ck⟩:dI)
  partial_fixpoint
def x1:aR×ah×I×aR×ah×aq->Option dI
 |(w,c,v,r,y,path)=>
 hA (c,v.ae)>>=λt=>hA (y,v.ae)>>=λM=>if(bif (!M.2)then(!y.Open)else false) then kz path>>=λp=>some (⟨I.eta p.Value,p.Path,p.ck⟩:dI)else if !M.2 then if aH t.1 c.ag.length then if aH 0 v.ai.length then iY (w,(c.ag.getD t.1.toNat aE).aw,I.eta (v.ai.getD (0:Int).toNat au))>>=λE=>nn (⟨v.Kind,false,0,[],v.ae,[],[],[(⟨v.ae,E⟩:bY)]⟩:I)>>=λA=>some (⟨I.eta A.Value,A.Path,A.ck⟩:dI)else none else none else if aH t.1 c.ag.length then if aH 0 v.ai.length then if aH M.1 y.ag.length then qA (path,v.ae)>>=λx=>mq (w,(c.ag.getD t.1.toNat aE).aw,I.eta (v.ai.getD (0:Int).toNat au),r,(y.ag.getD M.1.toNat aE).aw,x)>>=λz=>if !z.ck then some (⟨I.eta z.Value,z.Path,z.ck⟩:dI)else nn (⟨v.Kind,false,0,[],v.ae,[],[I.eta z.Value],[]⟩:I)>>=λJ=>some (⟨I.eta J.Value,J.Path,J.ck⟩:dI)else none else none else none
  partial_fixpoint
def nQ:aq×Int×List ah×I×List ah×Int×Bool×Int×aj×Int×Bool×ah×ah×Int×Bool×Int×aj×Int×List bY×List I->Option ((dI) ⊕ (aq×List ah×I×List ah×Int×Bool×Int×aj×Int×Bool×ah×ah×Int×Bool×Int×aj×Int×List bY×List I))
 |(bo,i,a2,P,a3,b3,b4,ce,ci,cq,cs,a4,a5,c7,ds,dt,eq,es,ex,a9)=>
 if (i<(P.av.length:Int):Bool) then if aH i P.av.length then qA (bo,i)>>=λg6=>mq ((⟨a2⟩:aR),a4.Key,I.eta (P.av.getD i.toNat au),(⟨a3⟩:aR),a5.Key,g6)>>=λR=>if !R.ck then some (.inl (⟨I.eta R.Value,R.Path,R.ck⟩:dI))else some [I.eta R.Value]>>=λt161=>if room 120 (a9++t161).length then nQ (bo,aM .i64 i 1,a2,I.eta P,a3,b3,b4,ce,ci,cq,cs,a4,a5,c7,ds,dt,eq,es,ex,a9++t161)else none else none else some (.inr (bo,a2,I.eta P,a3,b3,b4,ce,ci,cq,cs,a4,a5,c7,ds,dt,eq,es,ex,a9))
  partial_fixpoint
def nR:aq×Int×List ah×I×List ah×Int×Bool×Int×aj×Int×Bool×ah×ah×Int×Bool×Int×aj×Int×List bY×List I×List I->Option ((dI) ⊕ (Int×Bool×Int×aj×Int×Bool×Int×Bool×Int×aj×Int×List bY×List I×List I))
 |(g3,Q,fd,W,ff,fo,fs,gc,gd,ge,gl,gs,gt,g0,g1,g2,bT,b0,b1,b2,Y)=>
 if (Q<(W.ai.length:Int):Bool) then if aH Q W.ai.length then qA (g3,Q)>>=λg7=>mq ((⟨fd⟩:aR),gs.aG,I.eta (W.ai.getD Q.toNat au),(⟨ff⟩:aR),gt.aG,g7)>>=λS=>if !S.ck then some (.inl (⟨I.eta S.Value,S.Path,S.ck⟩:dI))else some [I.eta S.Value]>>=λt194=>if room 120 (Y++t194).length then nR (g3,aM .i64 Q 1,fd,I.eta W,ff,fo,fs,gc,gd,ge,gl,gs,gt,g0,g1,g2,bT,b0,b1,b2,Y++t194)else none else none else some (.inr (fo,fs,gc,gd,ge,gl,g0,g1,g2,bT,b0,b1,b2,Y))
  partial_fixpoint
def oX:aq×Int×List ah×ah×I×List ah×ah×Int×Bool×Int×aj×Int×Bool×Int×Bool×Int×aj×Int×List I->Option ((dI) ⊕ (aq×List ah×ah×I×ah×Int×Bool×Int×aj×Int×Bool×Int×Bool×Int×aj×Int×List I))
 |(X,k,U,B,F,Z,L,af,am,an,ap,ax,aB,aC,aI,aZ,a0,a1,O)=>
 if (k<(L.ag.length:Int):Bool) then if aH k L.ag.length then some (L.ag.getD k.toNat aE)>>=λe=>qA (X,e.ae)>>=λK=>hA (B,e.ae)>>=λq=>if(bif (!q.2)then(!e.bZ)else false) then kz K>>=λbQ=>some (.inl (⟨I.eta bQ.Value,bQ.Path,bQ.ck⟩:dI))else if !q.2 then some [I.eta e.bw]>>=λt65=>if room 120 (O++t65).length then oX (X,aM .i64 k 1,U,B,I.eta F,Z,L,af,am,an,ap,ax,aB,aC,aI,aZ,a0,a1,O++t65)else none else if aH q.1 B.ag.length then if aH q.1 F.ai.length then mq ((⟨U⟩:aR),(B.ag.getD q.1.toNat aE).aw,I.eta (F.ai.getD q.1.toNat au),(⟨Z⟩:aR),e.aw,K)>>=λp=>if aH q.1 B.ag.length then some (B.ag.getD q.1.toNat aE)>>=λN=>if aH q.1 F.ai.length then uP ((⟨N.ae,N.Name,N.aw,N.cp,N.bZ,I.eta N.bw⟩:aS),I.eta (F.ai.getD q.1.toNat au))>>=λE=>some (!p.ck)>>=λt99=>(if(E&&(!t99)) then uP ((⟨e.ae,e.Name,e.aw,e.cp,e.bZ,I.eta e.bw⟩:aS),I.eta p.Value)else some false)>>=λA=>if(bif E then bif t99 then true else(!A)else false) then kz K>>=λx=>some (.inl (⟨I.eta x.Value,x.Path,x.ck⟩:dI))else if !p.ck then some (.inl (⟨I.eta p.Value,p.Path,p.ck⟩:dI))else some [I.eta p.Value]>>=λt118=>if room 120 (O++t118).length then oX (X,aM .i64 k 1,U,B,I.eta F,Z,L,af,am,an,ap,ax,aB,aC,aI,aZ,a0,a1,O++t118)else none else none else none else none else none else none else some (.inr (X,U,B,I.eta F,L,af,am,an,ap,ax,aB,aC,aI,aZ,a0,a1,O))
  partial_fixpoint
end
theorem UY:dY sa mq/\ez 47 0 [1] xe nR/\ez 47 0 [0] xd nQ/\dY EP xU/\ez 84 0 [0] xk oX/\dY EO x1:=mq.mutual_partial_correctness (dU sa) (ey 47 0 [1] xe) (ey 47 0 [0] xd) (dU EP) (ey 84 0 [0] xk) (dU EO)
 (λ_ _ _ _ h1 a c ba _ _ h=>eb h (.k BY (.k BZ (.k (cg EO ba) (.k (cg EP c) (.k Gc .n))))) (.k (eL xd a) (.k (eL xe h1) .n)))
 (λ_ _ h0 h1 _ _ h=>eK xe h1 h (.k x4 (.k (cg sa h0) .n)))
 (λ_ _ h0 a _ _ h=>eK xd a h (.k x4 (.k (cg sa h0) .n)))
 (λ_ b _ _ h=>eb h (.k Gc .n) (.k (eL xk b) (.k TJ .n)))
 (λ_ _ h0 b _ _ h=>eK xk b h (.k x4 (.k mi (.k BY (.k (cg sa h0) (.k RI .n))))))
 (λ_ h0 _ _ h=>eb h (.k mi (.k BY (.k Ct (.k Gc (.k x4 (.k (cg sa h0) .n)))))))
theorem VI:a6 sa mq:=cg _ UY.1
def yF:aR×Int×I×aR×Int->Option (I×Int)
 |(w,wt,v,r,rt)=>
 Cd (w,wt,I.eta v,r,rt)>>=λa=>if !(a=0:Bool) then some ((⟨0,false,0,[],0,[],[],[]⟩:I),a)else mq (w,wt,I.eta v,r,rt,[])>>=λb=>if !b.ck then some ((⟨0,false,0,[],0,[],[],[]⟩:I),12)else some (I.eta b.Value,0)
theorem Vi:a6 aeN yF:= .bh (.k V5 (.k VI .n))
mutual
def ml:aR×Int×I->Option Int
 |(s,t,v)=>
 if aH t s.Types.length then hW (0,0,s.Types,I.eta v,s.Types.getD t.toNat aN)>>=λo=>if (0<(o.2.av.length:Int):Bool) then some (aM .i64 1 (iv o.1 1))else some (aM .i64 1 o.1)else none
  partial_fixpoint
def hW:Int×Int×List ah×I×ah->Option (Int×I)
 |(f,i,e,a,c)=>
 if (i<(a.ai.length:Int):Bool) then if (c.Kind=5:Bool) then if aH i c.ag.length then some (c.ag.getD i.toNat aE)>>=λj=>if(aH i a.ai.length||(!j.bZ)) then (if j.bZ then jG (I.eta (a.ai.getD i.toNat au),I.eta j.bw)else some false)>>=λr=>if(bif j.bZ then r else false) then hW (f,aM .i64 i 1,e,I.eta a,c)else if (c.Kind=6:Bool) then hA (c,a.ae)>>=λq=>if aH q.1 c.ag.length then if aH i a.ai.length then ml ((⟨e⟩:aR),(c.ag.getD q.1.toNat aE).aw,I.eta (a.ai.getD i.toNat au))>>=λx=>hW (iv f x,aM .i64 i 1,e,I.eta a,c)else none else none else if aH i a.ai.length then ml ((⟨e⟩:aR),j.aw,I.eta (a.ai.getD i.toNat au))>>=λy=>hW (iv f y,aM .i64 i 1,e,I.eta a,c)else none else none else none else if (c.Kind=6:Bool) then hA (c,a.ae)>>=λu=>if aH u.1 c.ag.length then if aH i a.ai.length then ml ((⟨e⟩:aR),(c.ag.getD u.1.toNat aE).aw,I.eta (a.ai.getD i.toNat au))>>=λz=>hW (iv f z,aM .i64 i 1,e,I.eta a,c)else none else none else if aH i a.ai.length then ml ((⟨e⟩:aR),c.aG,I.eta (a.ai.getD i.toNat au))>>=λw=>hW (iv f w,aM .i64 i 1,e,I.eta a,c)else none else some (f,I.eta a)
  partial_fixpoint
end
theorem If:dY Bn ml/\ez 45 0 [0] xc hW:=ml.mutual_partial_correctness (dU Bn) (ey 45 0 [0] xc)
 (λ_ h1 _ _ h=>eb h .n (.k (eL xc h1) .n))
 (λ_ _ h0 h1 _ _ h=>eK xc h1 h (.k xG (.k mi (.k (cg Bn h0) .n))))
theorem Uw:a6 Bn ml:=cg _ If.1
def q7:aR×Int×I->Option (aj×Int)
 |(s,t,v)=>
 sB (s,t,I.eta v)>>=λr=>if !(r=0:Bool) then some ([],r)else iY (s,t,I.eta v)>>=λa=>some (decide (4096<(a.length:Int)))>>=λt23=>(if !t23 then ml (s,t,I.eta v)else some 0)>>=λb=>if(bif t23 then true else (200<b:Bool)) then some ([],3)else some (a,0)
theorem Ux:a6 aeC q7:= .bh (.k Sv (.k Ct (.k Uw .n)))
def nS:dh×dh×aj->Option (kC×Int)
 |(w,r,m)=>
 Cb (w,r)>>=λf=>if !(f=0:Bool) then some ((⟨(⟨0,false,0,[],0,[],[],[]⟩:I),(⟨0,false,0,[],0,[],[],[]⟩:I),[]⟩:kC),f)else sq (w.cU,w.aw,m)>>=λa=>if !(a.2=0:Bool) then some ((⟨(⟨0,false,0,[],0,[],[],[]⟩:I),(⟨0,false,0,[],0,[],[],[]⟩:I),[]⟩:kC),a.2)else vu (w.cU,w.aw,I.eta a.1)>>=λe=>if !(e.2=0:Bool) then some ((⟨(⟨0,false,0,[],0,[],[],[]⟩:I),(⟨0,false,0,[],0,[],[],[]⟩:I),[]⟩:kC),e.2)else yF (w.cU,w.aw,I.eta e.1,r.cU,r.aw)>>=λg=>if !(g.2=0:Bool) then some ((⟨(⟨0,false,0,[],0,[],[],[]⟩:I),(⟨0,false,0,[],0,[],[],[]⟩:I),[]⟩:kC),g.2)else q7 (w.cU,w.aw,I.eta a.1)>>=λc=>if !(c.2=0:Bool) then some ((⟨(⟨0,false,0,[],0,[],[],[]⟩:I),(⟨0,false,0,[],0,[],[],[]⟩:I),[]⟩:kC),c.2)else sq (r.cU,r.aw,c.1)>>=λb=>if !(b.2=0:Bool) then some ((⟨(⟨0,false,0,[],0,[],[],[]⟩:I),(⟨0,false,0,[],0,[],[],[]⟩:I),[]⟩:kC),b.2)else q7 (r.cU,r.aw,I.eta b.1)>>=λd=>if !(d.2=0:Bool) then some ((⟨(⟨0,false,0,[],0,[],[],[]⟩:I),(⟨0,false,0,[],0,[],[],[]⟩:I),[]⟩:kC),d.2)else some ((⟨I.eta a.1,I.eta b.1,d.1⟩:kC),0)
theorem Vj:a6 ae7 nS:= .bh (.k V1 (.k UU (.k V4 (.k Vi (.k Ux .n)))))
def Ga:dh×dh×aj->Option (aj×Int)
 |(w,r,m)=>
 nS (w,r,m)>>=λa=>some (a.1.Message,a.2)
theorem UD:a6 aeu Ga:= .bh (.k Vj .n)
def Ao(c:np):Option Bool:=
 xK c>>=λr=>xY ()>>=λd=>if(bif (!d)then true else(!r.2.2.2)) then xY ()>>=λe=>some e else FW (r.1,r.2.1,r.2.2.1)>>=λb=>Ga (r.1,r.2.1,r.2.2.1)>>=λa=>some (bif decide (b.1=a.1)then decide (b.2=a.2)else false)
theorem adH:a6 c9 Ao:= .bh (.k WQ (.k VP (.k WD (.k UD .n))))
end
section
open Go Go.Proofs.YtdjagncoefjfeaaGreat.Shv
open Tryz
set_option maxRecDepth 100000

end
section
open Go Go.Proofs.YtdjagncoefjfeaaGreat.Shv
set_option maxRecDepth 100000
def hr(s:aj):Nat->Nat->Nat->Int×Int×Int
 |0,_,_=>(0,0,10)
 |f+1,i,n=>
  if i<s.length then if i=9/\1<(s.getD i 0).toNat then(0,0,7)else if 128<=(s.getD i 0).toNat then hr s f (i+1) (n+((s.getD i 0).toNat%128)*2^(7*i))else if(s.getD i 0).toNat=0/\0<i then(0,0,2)else(((n+(s.getD i 0).toNat*2^(7*i):Nat):Int),((i+1:Nat):Int),0)else(0,0,10)
theorem Re{i:Nat}(h:i<=9):2^(7*i)<=9223372036854775808:=by
 have:2^(7*i)<=2^63:=wu (by omega) (by omega);omega
theorem Rf(i:Nat):2^(7*(i+1))=2^(7*i)*128:=by rw[Nat.mul_add,Nat.pow_add]
theorem FT{n i b:Nat}(aD:n<2^(7*i)):n+(b%128)*2^(7*i)<2^(7*(i+1)):=by
 rw[Rf];have:b%128*2^(7*i)<=127*2^(7*i):=eW _ (by omega);omega
theorem xt{n i b:Nat}(d:i<=9)(aD:n<2^(7*i))(c:b<128)(a:i=9->b<=1):b*2^(7*i)<18446744073709551616/\n+b*2^(7*i)<18446744073709551616:=by
 rcases Nat.lt_or_ge i 9 with h|h
 . have:2^(7*i)<=2^56:=wu (by omega) (by omega);have e:(2:Nat)^56=72057594037927936:=(by decide);have:b*2^(7*i)<=127*2^(7*i):=eW _ (by omega);omega
 grind
theorem OH(s:aj):∀(f i n:Nat),i+f=10->n<2^(7*i)->∃o,sN (s,(n:Int),((min 10 s.length:Nat):Int),(i:Int))=some o/\(match o with|.inl x=>x|.inr _=>(0,0,10))=hr s f i n
 |0,i,n,h,aD=>by
  refine⟨.inr (),?_,rfl⟩;rw[sN];grind
 |f+1,i,n,h,aD=>by
  rw[sN];simp only[hr,aT,ao,qI];by_cases d:i<s.length
  . have e:=y0 s i;generalize (s.getD i 0).toNat=b at e⊢;rw[bu,ad (aQ d),ad d];have l:gw .i64 7 (i:Int)=((7*i:Nat):Int):=by rw[NY (by omega) (by omega)];norm_cast
    rw[l];have j:decide ((0:Int)<=((7*i:Nat):Int))=true:=by simp;omega
    by_cases c:i=9/\1<b
    . rw[ad c,ad (by obtain⟨h1,m⟩:=c;subst h1;simp;omega)];grind
    . rw[ak c,ak (by grind)];by_cases g:128<=b
      . rw[ad g,bu,ad j];have k:i=9->False:=λh1=>c ⟨h1,by omega⟩;have aB:b%128<128:=yr _ (by omega);have a:=xt (i:=i) (n:=n) (b:=b%128) (by omega) aD aB (λh1=>(k h1).elim);rw[abA e,hv,KE (by omega) a.1,M9 (by have:=Re (i:=i) (by omega);omega) a.1,NX aD,bD];exact OH s f (i+1) (n+b%128*2^(7*i)) (by omega) (FT aD)
      . rw[ak g,cl];by_cases h0:b=0/\0<i
        . simp_all
        . rw[ak h0,ak (by grind),ad j];have a:=xt (i:=i) (n:=n) (b:=b) (by omega) aD (by omega) (λh1=>by omega);rw[hv,KE (by omega) a.1,M9 (by have:=Re (i:=i) (by omega);omega) a.1,NX aD,bD];grind
  . rw[cl,ak d];grind
theorem OI(s:aj):CU s=some (hr s 10 0 0):=by
 obtain⟨o,h1,a⟩:=OH s 10 0 0 rfl (by decide);rw[CU];have:je 10 (s.length:Int)=((min 10 s.length:Nat):Int):=Ip 10 s.length;grind
theorem JE(s:aj):∀(f i n:Nat),i<=s.length->i+f=10->n<2^(7*i)->∃o,sn (s,(n:Int),(if i<10 then((2^(7*i):Nat):Int)else gw .u64 ((2^(7*9):Nat):Int) 128),(i:Int))=some o/\(i<10->(match o with|.inl x=>x|.inr _=>(0,0,7))=hr s f i n)
 |0,i,n,p,h,aD=>by
  refine⟨.inr (),?_,λr=>by omega⟩;rw[sn];grind
 |f+1,i,n,p,h,aD=>by
  rw[sn];simp only[hr,aT,ao,qI];rw[ad (show decide ((i:Int)<10)=true by simp;omega),ad (show i<10 by omega)];by_cases e:i<s.length
  . have m:=y0 s i;generalize (s.getD i 0).toNat=b at m⊢;rw[cl,ad (aQ e),ad e,hv];by_cases d:i=9/\1<b
    . rw[ad d,ad (by obtain⟨h1,k⟩:=d;subst h1;simp;omega)];grind
    . rw[ak d,ak (by grind)];have j:b' (b:Int) 128=((b%128:Nat):Int):=Am (b:=128);have aB:b%128<128:=yr _ (by omega);by_cases g:128<=b
      . rw[ad g,cl];have l:i=9->False:=λh1=>d ⟨h1,by omega⟩;have c:=xt (i:=i) (n:=n) (b:=b%128) (by omega) aD aB (λh1=>(l h1).elim);rw[j,tJ c.1,rY c.2,bD];obtain⟨o,h1,k⟩:=JE s f (i+1) (n+b%128*2^(7*i)) (by omega) (by omega) (FT aD);have t:gw .u64 ((2^(7*i):Nat):Int) 128=((2^(7*(i+1)):Nat):Int):=by
         have:=tJ (a:=2^(7*i)) (b:=128) (by
          have:2^(7*i)<=2^56:=wu (by omega) (by omega)
          omega)
         grind
        grind
      . rw[ak g,bu];have q:b%128=b:=og (by omega);have c:=xt (i:=i) (n:=n) (b:=b) (by omega) aD (by omega) (λh1=>by omega);by_cases h0:b=0/\0<i
        . simp_all
        . rw[ak h0,ak (by grind)];rw[j,q,tJ c.1,rY c.2,bD];grind
  . rw[bu,ak e];grind
theorem Hp(s:aj):vz s=some (hr s 10 0 0):=by
 obtain⟨o,h1,a⟩:=JE s 10 0 0 (by omega) rfl (by decide);rw[vz];grind
theorem L6(s:aj):∀(f i n:Nat),i<=s.length->i+f=10->n<2^(7*i)->(∃e:Int,e≠0/\hr s f i n=(0,0,e))\/∃m k:Nat,hr s f i n=((m:Int),(k:Int),0)/\i<k/\k<=s.length/\m<18446744073709551616
 |0,i,n,l,h,aD=>.inl ⟨10,by decide,rfl⟩
 |f+1,i,n,l,h,aD=>by
  simp only[hr];have g:=y0 s i;generalize (s.getD i 0).toNat=b at g⊢;by_cases c:i<s.length
  . rw[ad c];by_cases d:i=9/\1<b
    . simp_all
    . rw[ak d];by_cases a:128<=b
      . rw[ad a];rcases L6 s f (i+1) (n+b%128*2^(7*i)) (by omega) (by omega) (FT aD)with h|⟨m,k,h1,o,p,q⟩
        . exact .inl h
        grind
      . rw[ak a];by_cases h0:b=0/\0<i
        . simp_all
        . rw[ak h0];have j:=xt (i:=i) (n:=n) (b:=b) (by omega) aD (by omega) (λh1=>by omega);exact .inr ⟨_,i+1,rfl,by omega,by omega,j.2⟩
  . rw[ak c];exact .inl ⟨10,by decide,rfl⟩
theorem lv(s:aj):(∃e:Int,e≠0/\hr s 10 0 0=(0,0,e))\/∃m k:Nat,hr s 10 0 0=((m:Int),(k:Int),0)/\0<k/\k<=s.length/\m<18446744073709551616:=
 L6 s 10 0 0 (by omega) rfl (by decide)
theorem nF{s:aj}{e:Int}(he:e≠0)(h:hr s 10 0 0=(0,0,e)):qE s=some (0,[],false):=by
 rw[qE,OI,h];grind
theorem lO{s:aj}{m k:Nat}(h:hr s 10 0 0=((m:Int),(k:Int),0))(a:k<=s.length):qE s=some ((m:Int),s.drop k,true):=by
 rw[qE,OI,h];simp only[aT,ao];rw[bt,ad (jK a (ef _)),nE]
def dP:Option (aj×aj)->aj×aj×Bool
 |none=>([],[],false)
 |some (a,b)=>(a,b,true)
def iB(s:aj):Option (aj×aj):=
 match hr s 10 0 0 with
 |(m,k,e)=>if e=0/\m.toNat+k.toNat<=s.length then some ((s.drop k.toNat).take m.toNat,(s.drop k.toNat).drop m.toNat)else none
theorem nB{s a b:aj}(h:iB s=some (a,b)):a.length+b.length<s.length:=by
 unfold iB at h;rcases lv s with⟨e,he,c⟩|⟨m,k,c,f,d,g⟩
 . grind
 grind
theorem lP{s:aj}(hs:s.length<=1000000:=by omega):zj s=some (dP (iB s)):=by
 rw[zj];unfold iB;rcases lv s with⟨e,he,b⟩|⟨m,k,b,f,d,g⟩
 . rw[nF he b,b];simp[he,dP]
 . rw[lO b d,b];simp only[aT,ao,od,rr,lW];rw[hv];by_cases c:m+k<=s.length
   . rw[cl,ad (show dS 0 (m:Int) (s.length-k)=true from jK (a:=0) (by omega) (by omega)),ad (jK (by omega) (ef _)),ad c];have:((s.length-k:Nat):Int)=((s.drop k).length:Int):=by simp
     rw[this,nE,tE];rfl
   . rw[bu,ak c];rfl
theorem OJ{s:aj}(hs:s.length<=1000000):x' s=some (dP (iB s)):=by
 rw[x',Hp];unfold iB;rcases lv s with⟨e,he,a⟩|⟨m,k,a,g,f,i⟩
 . rw[a];simp[he,dP]
 . rw[a];simp only[aT,ao,od,rr];have c:df .i64 (s.length:Int) (k:Int)=((s.length-k:Nat):Int):=by rw[hG];omega
   rw[c,hv];by_cases b:m+k<=s.length
   . rw[cl,ad b];have d:bW .i64 (m:Int)=(m:Int):=jC;rw[d,vE (by omega),ad (jK (by omega) (by omega)),ad (jK (by omega) (ef _)),nE];have:d' s (k:Int) ((k+m:Nat):Int)=(s.drop k).take m:=by
      unfold d';rw[od,od,List.drop_take];grind
     rw[this,yk];rfl
   . rw[bu,ak b];rfl
theorem Iq:∀(n:Nat) (s:aj) (b:List aj),s.length<=n->s.length+b.length<=100000->∃o,hC (s,b)=some o/\∀l,o= .inr l->l.length<=s.length+b.length:=by
 intro n;induction n with
 |zero=>
  intro s b h1 a;have:s=[]:=jR (by omega);subst this;refine⟨.inr b,?_,λl af=>by cases af;omega⟩;rw[hC];rw[bt]
 |succ n ih=>
  intro s b h1 a;rw[hC,lP];simp only[aT,ao];by_cases hs:s=[]
  . grind
  . have d:(!(decide (s=[])))=true:=(by simp[hs]);rw[ad d];cases g:iB s with
    |none=>exact⟨.inl 12,rfl,λl af=>by cases af⟩
    |some p=>
     obtain⟨x,y⟩:=p;have af:=nB g;have f:room 16 (b++[(dP (some (x,y))).1]).length=true:=cP;have aD:¬((!(dP (some (x,y))).2.2)=true):=(by simp[dP]);rw[ak aD,ad f];obtain⟨o,c,ba⟩:=ih y (b++[x]) (by omega) (by simp;omega);exact⟨o,c,λl e=>by have:=ba l e;simp at this;omega⟩
theorem abF{s:aj}(h:s.length<=90000):∃o,k6 s=some o/\o.1.length<=s.length:=by
 obtain⟨o,h1,a⟩:=Iq s.length s [] (ef _) (by simp;omega);rw[k6,h1];cases o with
 |inl e=>exact⟨_,rfl,by simp⟩
 |inr l=>exact⟨_,rfl,by have:=a l rfl;simpa using this⟩
theorem ab6:∀(n:Nat) (s:aj) (b:List aj),s.length<=n->s.length+b.length<=100000->sV (s,b)=hC (s,b):=by
 intro n;induction n with
 |zero=>
  intro s b h1 d;have:s=[]:=jR (by omega);subst this;rw[hC,sV,bt,bt]
 |succ n ih=>
  intro s b h1 d;rw[hC,sV,lP,OJ (by omega)];simp only[aT,ao];by_cases hs:s=[]
  . grind
  . have a:(!(decide (s=[])))=true:=(by simp[hs]);rw[ad a,ad a];cases e:iB s with
    |none=>rfl
    |some p=>
     obtain⟨x,y⟩:=p;have af:=nB e;have c:room 16 (b++[(dP (some (x,y))).1]).length=true:=cP;have aD:¬((!(dP (some (x,y))).2.2)=true):=(by simp[dP]);rw[ak aD,ad c,ak aD,ad c];exact ih y (b++[x]) (by omega) (by simp;omega)
theorem abG{s:aj}(h:s.length<=90000):vr s=k6 s:=by
 rw[k6,vr,ab6 s.length s [] (ef _) (by simp;omega)]<;>rfl
theorem JF:∀(n:Nat) (s:aj) (last:Nat) (b:List cQ),s.length<=n->s.length+b.length<=100000->∃o,fX ((last:Int),s,b)=some o/\∀l,o= .inr l->l.length<=s.length+b.length:=by
 intro n;induction n with
 |zero=>
  intro s last b h1 c;have:s=[]:=jR (by omega);subst this;refine⟨.inr b,?_,λl af=>by cases af;omega⟩;rw[fX];rw[bt]
 |succ n ih=>
  intro s last b h1 c;rw[fX];by_cases hs:s=[]
  . subst hs;exact⟨.inr b,by rw[bt],λl af=>by cases af;omega⟩
  . have f:(!(decide (s=[])))=true:=(by simp[hs]);rw[ad f];rcases lv s with⟨e,he,a⟩|⟨m,k,a,v,g,j⟩
    . rw[nF he a];exact⟨.inl 12,rfl,λl af=>by cases af⟩
    . rw[lO a g];simp only[aT,ao];rw[tT j];by_cases u:m/2<=last\/1000<m/2
      . exact⟨.inl 12,by rw[bu],λl af=>by cases af⟩
      . have t:bW .i64 ((m/2:Nat):Int)=((m/2:Nat):Int):=jC;rw[cl,t,lP (by simp;omega)];simp only[ao];cases q:iB (s.drop k)with
        |none=>exact⟨.inl 12,rfl,λl af=>by cases af⟩
        |some p=>
         obtain⟨x,y⟩:=p;have af:=nB q;rw[lW]at af;have r:room 32 (b++[(⟨((m/2:Nat):Int),decide (b' (m:Int) 2=1),(dP (some (x,y))).1⟩:cQ)]).length=true:=cP;have aD:¬((!(dP (some (x,y))).2.2)=true):=(by simp[dP]);rw[ak aD,ad r];obtain⟨o,d,ba⟩:=ih y (m/2) (b++[(⟨((m/2:Nat):Int),decide (b' (m:Int) 2=1),x⟩:cQ)]) (by omega) (by simp;omega);exact⟨o,d,λl i=>by have:=ba l i;simp at this;omega⟩
theorem aaN{s:aj}(h:s.length<=90000):∃o,lG s=some o/\o.1.length<=s.length:=by
 obtain⟨o,h1,b⟩:=JF s.length s 0 [] (ef _) (by simp;omega);have a:fX (0,s,[])=some o:=h1;rw[lG,a];cases o with
 |inl e=>exact⟨_,rfl,by simp⟩
 |inr l=>exact⟨_,rfl,by have:=b l rfl;simpa using this⟩
theorem abH:∀(n:Nat) (s:aj) (last:Nat) (b:List cQ),s.length<=n->s.length+b.length<=100000->qZ (s,(last:Int),b)=fX ((last:Int),s,b):=by
 intro n;induction n with
 |zero=>
  intro s last b h1 j;have:s=[]:=jR (by omega);subst this;rw[fX,qZ,bt,bt]
 |succ n ih=>
  intro s last b h1 j;rw[fX,qZ,Hp];by_cases hs:s=[]
  . simp_all
  . have c:(!(decide (s=[])))=true:=(by simp[hs]);rw[ad c,ad c];rcases lv s with⟨e,he,a⟩|⟨m,k,a,t,d,l⟩
    . rw[nF he a,a];simp_all
    . rw[lO a d,a];simp only[aT,ao];rw[tT l];by_cases r:m/2<=last\/1000<m/2
      . have aK:(bif bif (!true)then true else decide (((m/2:Nat):Int)<=(last:Int))then true else decide (1000<((m/2:Nat):Int)))=true:=by simp;omega
        rw[ad aK];rw[ad];by_cases q:2001<m
        . simp;omega
        . have g:bW .i64 ((m/2:Nat):Int)=((m/2:Nat):Int):=jC;grind
      . have g:bW .i64 ((m/2:Nat):Int)=((m/2:Nat):Int):=jC;have i:¬(bif bif (!true)then true else decide (((m/2:Nat):Int)<=(last:Int))then true else decide (1000<((m/2:Nat):Int)))=true:=by simp;omega
        rw[g,cl,ad (jK d (ef _)),nE,OJ (by simp;omega),ak i,lP (by simp;omega)];simp only[ao];cases o:iB (s.drop k)with
        |none=>rfl
        |some p=>
         obtain⟨x,y⟩:=p;have af:=nB o;rw[lW]at af;have f:room 32 (b++[(⟨((m/2:Nat):Int),decide (b' (m:Int) 2=1),(dP (some (x,y))).1⟩:cQ)]).length=true:=cP;have aD:¬((!(dP (some (x,y))).2.2)=true):=(by simp[dP]);rw[ak aD,ad f,ak aD,ad f];exact ih y (m/2) (b++[(⟨((m/2:Nat):Int),decide (b' (m:Int) 2=1),x⟩:cQ)]) (by omega) (by simp;omega)
theorem aaO{s:aj}(h:s.length<=90000):xT s=lG s:=by
 have h1:qZ (s,0,[])=fX (0,s,[]):=abH s.length s 0 [] (ef _) (by simp;omega);rw[lG,xT,h1]<;>rfl
theorem ac6(s:aj):∃o,lL s=some o:=by
 rw[lL];rcases lv s with⟨e,he,a⟩|⟨m,k,a,d,b,f⟩
 . rw[nF he a];exact⟨_,rfl⟩
 . rw[lO a b];simp only[aT,ao];by_cases c:m<1\/1000<m
   . exact⟨(0,[],12),by rw[bu]⟩
   . rw[cl];exact⟨_,rfl⟩
theorem ac7(s:aj):∃o,lL s=some o/\x9 s=some o:=by
 rw[lL,x9,Hp];rcases lv s with⟨e,he,a⟩|⟨m,k,a,d,b,f⟩
 . rw[nF he a,a];simp_all
 . rw[lO a b,a];simp only[aT,ao];by_cases c:m<1\/1000<m
   . exact⟨(0,[],12),by rw[bu],by rw[bu]⟩
   . rw[cl,cl,ad (jK b (ef _)),nE];grind
def eE(n:Nat):aj:=if n<128 then[UInt8.ofNat n]else UInt8.ofNat (n%128+128)::eE (n/128)
termination_by n
decreasing_by omega
theorem u7{n:Nat}(h:n<128):eE n=[UInt8.ofNat n]:=by rw[eE,ad h]
theorem vi{n:Nat}(h:¬n<128):eE n=UInt8.ofNat (n%128+128)::eE (n/128):=by rw[eE,ak h]
theorem ab7{a:Nat}(h:a<256):rC .u8 (a:Int) 128=((a%128+128:Nat):Int):=by
 have key:∀a:Nat,a<256->rC .u8 (a:Int) 128=((a%128+128:Nat):Int):=by decide+kernel
 grind
theorem wI(n:Nat):bW .u8 (n:Int)=((n%256:Nat):Int):=by rfl
theorem agP(n:Nat):lr .u64 (n:Int) 7=((n/128:Nat):Int):=by
 unfold lr;have:((2:Int)^min (7:Int).toNat IntKind.u64.bits)=128:=by decide
 grind
theorem Y2(m:Nat)(l:aq):strOf ((m:Int)::l)=UInt8.ofNat m::strOf l:=rfl
theorem Cz(a b:aq):strOf (a++b)=strOf a++strOf b:=p4
variable{α:Type}{p N:aj}{c q:Bool}{x:Option Bool}{names:List aj}{f:aS×aS->Option Bool}{v:I}{t:ah}{S:List c4}{Ms:List aS}{K E M H id:Int}{ts:List ah}{L':Nat->Option (Int ⊕ Unit)}{o:Option (Int×Bool)}{L:Option (Bool ⊕ Unit)}{a:List α}
theorem G2:∀(l:List α) (i:Nat) (x:α),i<l.length->(l.set i x).take (i+1)=l.take i++[x]
 |[],i,x,h=>by simp at h
 |a::l,0,x,h=>by simp
 |a::l,i+1,x,h=>by simp[G2 l i x (by simpa using h)]
theorem OK:∀(f n i:Nat) (b:aq),i+f=9->n<128*128^f->b.length=10->∃(d c:Nat) (a:aq),tp ((n:Int),(i:Int),b)=some ((d:Int),(c:Int),a)/\d<128/\c<=9/\a.length=10/\strOf (a.take c)++[UInt8.ofNat d]=strOf (b.take i)++eE n
 |f,n,i,b,g,aD,e=>by
  rw[tp];by_cases hs:n<128
  . rw[cl];exact⟨n,i,b,rfl,hs,by omega,e,by rw[u7 hs]⟩
  . rw[bu,ad (aQ (by
     omega)),ad (by
     cases f with
     |zero=>simp at aD;omega
     |succ f=>simp[e];omega)]
    match f,g,aD with
    |0,g,aD=>simp at aD;omega
    |f+1,g,aD=>
     rw[agP,bD,wI,ab7 (yr _ (by omega)),bd];have aB:n/128<128*128^f:=(by omega);obtain⟨d,c,a,h1,j,k,l,ba⟩:=OK f (n/128) (i+1) (b.set i ((n%256%128+128:Nat):Int)) (by omega) aB (by simp[e]);refine⟨d,c,a,h1,j,k,l,?_⟩;rw[ba,G2 _ _ _ (by omega),Cz,vi hs];have:n%256%128=n%128:=(by omega);rw[this];have m:strOf [((n%128+128:Nat):Int)]=[UInt8.ofNat (n%128+128)]:=rfl;grind
theorem H9:(128:Nat)*128^9=1180591620717411303424:=by decide
theorem tj{n:Nat}(aD:n<18446744073709551616:=by omega):pr (n:Int)=some (eE n):=by
 obtain⟨b,d,e,h1,j,k,c,ba⟩:=OK 9 n 0 [0,0,0,0,0,0,0,0,0,0] rfl (by rw[H9];omega) rfl;rw[pr];have f:tp ((n:Int),0,[0,0,0,0,0,0,0,0,0,0])=some ((b:Int),(d:Int),e):=h1;rw[f];simp only[aT,ao];have i:dS 0 ((d+1:Nat):Int) 10=true:=jK (a:=0) (by omega) (by omega);rw[ad (aQ (by omega)),ad (by simp[c];omega),bD,ad i,ad (by simp[wE,c];omega),bd,bd,wI];have:b%256=b:=og (by omega);rw[this];simp only[rq,fE];rw[G2 _ _ _ (by omega),Cz];have g:strOf [(b:Int)]=[UInt8.ofNat b]:=rfl;rw[g,ba];rfl
theorem JG:∀(f n:Nat) (b:aq),n<128^f->n<18446744073709551616->b.length+f<=1000->∃(c:Nat) (a:aq),vm ((n:Int),b)=some ((c:Int),a)/\c<128/\a.length<=1000/\strOf a++[UInt8.ofNat c]=strOf b++eE n
 |f,n,b,aD,m,o=>by
  rw[vm];by_cases hs:n<128
  . rw[cl];exact⟨n,b,rfl,hs,by omega,by rw[u7 hs]⟩
  . rw[bu]
    match f,aD with
    |0,aD=>simp at aD;omega
    |f+1,aD=>
     have l:b' (n:Int) 128=((n%128:Nat):Int):=Am (b:=128);have j:aM .u64 ((n%128:Nat):Int) 128=((n%128+128:Nat):Int):=rY (b:=128) (by omega);have k:fv .u64 (n:Int) 128=((n/128:Nat):Int):=by
      unfold fv;have e:(n:Int).tdiv 128=((n/128:Nat):Int):=by rw[yu (by omega)];omega
      rw[e];exact kS
     simp only[aT,ao];rw[l,j,k,wI,ad (cP)];have aB:n/128<128^f:=(by omega);obtain⟨c,a,h1,d,g,i⟩:=JG f (n/128) (b++[(((n%128+128)%256:Nat):Int)]) aB (by omega) (by simp;omega);refine⟨c,a,h1,d,g,?_⟩;rw[i,Cz,vi hs];have:(n%128+128)%256=n%128+128:=(by omega);rw[this];have p:strOf [((n%128+128:Nat):Int)]=[UInt8.ofNat (n%128+128)]:=rfl;grind
theorem y1{n:Nat}(aD:n<18446744073709551616:=by omega):rh (n:Int)=some (eE n):=by
 obtain⟨a,d,h1,e,f,b⟩:=JG 10 n [] (by have:=H9;rw[yq,wm];omega) aD (by simp);rw[rh,h1];simp only[aT,ao];rw[ad (cP),wI,Cz];have:a%256=a:=og (by omega);rw[this];have c:strOf [(a:Int)]=[UInt8.ofNat a]:=rfl;rw[c,b];rfl
theorem Ir:∀(f n:Nat),n<128^(f+1)->(eE n).length<=f+1
 |f,n,aD=>by
  by_cases hs:n<128
  . rw[u7 hs];simp
  . rw[vi hs]
    match f,aD with
    |0,aD=>simp at aD;omega
    |f+1,aD=>
     have:=Ir f (n/128) (by omega);simp;omega
theorem j6{n:Nat}(aD:n<18446744073709551616):(eE n).length<=10:=Ir 9 n (by have:=H9;rw[yq,wm];omega)
theorem qQ(n:Nat):0<(eE n).length:=by
 rw[eE];split<;>simp
theorem k7{n:Nat}(h:n<256:=by omega):(UInt8.ofNat n).toNat=n:=by simp_all
theorem OL:∀(f i acc n:Nat) (pre a:aj),i+f=10->pre.length=i->n*2^(7*i)<18446744073709551616->(n=0->i=0)->hr (pre++(eE n++a)) f i acc=(((acc+n*2^(7*i):Nat):Int),((i+(eE n).length:Nat):Int),0)
 |0,i,acc,n,pre,a,e,c,aD,h0=>by grind
 |f+1,i,acc,n,pre,a,e,c,aD,h0=>by
  have g:i<(pre++(eE n++a)).length:=by
   have:=qQ n;simp;omega
  have b:∀(x:UInt8) (r:aj),eE n=x::r->(pre++(eE n++a)).getD i 0=x:=by grind
  simp only[hr];rw[ad g];by_cases hs:n<128
  . rw[b _ _ (u7 hs),k7,ak (by
     grind),bq,ak (by
     rintro ⟨h1,k⟩
     have:=h0 h1;omega),u7 hs]
    simp
  . have l:i<9:=(by grind);rw[b _ _ (vi hs),k7,bq,fu];have j:(n%128+128)%128=n%128:=(by omega);have m:n%128*2^(7*i)+n/128*2^(7*(i+1))=n*2^(7*i):=by
     rw[Rf];have h1:n/128*(2^(7*i)*128)=(n/128*128)*2^(7*i):=(by grind);rw[h1,<-gb];grind
    have d:n/128*2^(7*(i+1))<18446744073709551616:=(by omega);have:=OL f (i+1) (acc+n%128*2^(7*i)) (n/128) (pre++[UInt8.ofNat (n%128+128)]) a (by omega) (by simp[c]) d (by omega);rw[j];have es:pre++(eE n++a)=pre++[UInt8.ofNat (n%128+128)]++(eE (n/128)++a):=by rw[vi hs];simp
    grind
theorem HS{n:Nat}(aD:n<18446744073709551616)(a:aj):hr (eE n++a) 10 0 0=((n:Int),((eE n).length:Int),0):=by
 have:=OL 10 0 0 n [] a rfl rfl (by simpa using aD) (λ_=>rfl);grind
def dB(p:aj):aj:=eE p.length++p
theorem fW{n:Nat}(h:n<=9223372036854775807:=by omega):decide (n<=eC)=true:=by
 unfold eC;simp;omega
theorem Dg(h:p.length<=1152921504606846976:=by omega):qD p=some (dB p):=by
 rw[qD,hv,tj];simp only[aT,ao];have:=j6 (n:=p.length) (by omega);rw[ad (fW)];rfl
theorem CM(h:p.length<=1152921504606846976:=by omega):rb p=some (dB p):=by
 rw[rb,hv,y1];simp only[aT,ao];have:=j6 (n:=p.length) (by omega);rw[ad (fW)];rfl
def fD(id:Nat)(c:Bool)(p:aj):aj:=eE (2*id+(if c then 1 else 0))++dB p
theorem IQ(h:p.length<=1152921504606846976):(dB p).length<=p.length+10:=by
 have:=j6 (n:=p.length) (by omega);unfold dB;simp;omega
theorem Is{id:Nat}{c:Bool}(f:id<=4611686018427387903)(h:p.length<=1152921504606846900:=by omega):uZ ((id:Int),c,p)=some (fD id c p):=by
 rw[uZ];have e:gw .u64 2 (bW .u64 (id:Int))=((2*id:Nat):Int):=by rw[hv];exact tJ (a:=2) (by omega)
 simp only[aT,ao];rw[e,Dg];have af:=IQ (p:=p) (by omega);cases c with
 |true=>
  have d:aM .u64 ((2*id:Nat):Int) 1=((2*id+1:Nat):Int):=rY (b:=1) (by omega);rw[ad rfl,d,tj];have:=j6 (n:=2*id+1) (by omega);simp only[ao];rw[ad (fW)];rfl
 |false=>
  rw[bt,tj];have:=j6 (n:=2*id) (by omega);simp only[ao];rw[ad (fW)];rfl
theorem Jp{id:Nat}(e:id<=4611686018427387903)(h:p.length<=1152921504606846900):xZ ((id:Int),c,p)=some (fD id c p):=by
 rw[xZ];have d:bW .u64 (gw .i64 2 (id:Int))=((2*id:Nat):Int):=by
  rw[NY (by omega) (by omega)];have:(2:Int)*(id:Int)=((2*id:Nat):Int):=by omega
  rw[this];exact hv
 simp only[aT,ao];rw[d,CM];have af:=IQ (p:=p) (by omega);cases c with
 |true=>
  have a:aM .u64 ((2*id:Nat):Int) 1=((2*id+1:Nat):Int):=rY (b:=1) (by omega);rw[ad rfl,a,y1];have:=j6 (n:=2*id+1) (by omega);simp only[ao];rw[ad (fW)];rfl
 |false=>
  rw[bt,y1];have:=j6 (n:=2*id) (by omega);simp only[ao];rw[ad (fW)];rfl
theorem Jq{a:aj}(h:p.length<=100000):iB (dB p++a)=some (p,a):=by
 unfold iB dB;rw[hp,HS (by omega)];simp only[od,rr];grind
theorem X0{id:Nat}{a:aj}{last:Nat}{b:List cQ}(h1:last<id)(q:id<=1000)(h:(fD id c p++a).length<=100000)(o:b.length<=90000):
 fX ((last:Int),fD id c p++a,b)=fX ((id:Int),a,b++[⟨(id:Int),c,p⟩]):=by
 have k:p.length<=100000:=by
  have d:=h;simp only[fD,dB,c2]at d;omega
 have i:fD id c p++a≠[]:=by
  intro e;have d:=ep List.length e;have:=qQ (2*id+(if c then 1 else 0));simp only[fD,c2,h8]at d;omega
 have aa:2*id+(if c then 1 else 0)<=2001:=by split<;>omega
 have al:hr (fD id c p++a) 10 0 0=(((2*id+(if c then 1 else 0):Nat):Int),((eE (2*id+(if c then 1 else 0))).length:Int),0):=by
  unfold fD;rw[hp];exact HS (by omega) _
 have aD:=lO al (by unfold fD;simp);have f:(fD id c p++a).drop (eE (2*id+(if c then 1 else 0))).length=dB p++a:=by
  unfold fD;grind
 rw[f]at aD;have g:(2*id+(if c then 1 else 0))/2=id:=by split<;>omega
 have m:decide (b' ((2*id+(if c then 1 else 0):Nat):Int) 2=1)=c:=by
  have:b' ((2*id+(if c then 1 else 0):Nat):Int) 2=(((2*id+(if c then 1 else 0))%2:Nat):Int):=Am (b:=2);grind
 rw[fX,ad (by simp only[p3,yc];exact i),aD];simp only[aT,ao];rw[tT (by omega),g,cl,m,lP (by grind),Jq k];simp only[ao];have n:bW .i64 (id:Int)=(id:Int):=jC;have j:¬((!(dP (some (p,a))).2.2)=true):=by simp[dP]
 rw[ak j,n];have l:room 32 (b++[(⟨(id:Int),c,(dP (some (p,a))).1⟩:cQ)]).length=true:=cP;rw[ad l];rfl
inductive bM:I->Prop
 |mk (v:I) (hs:v.bn.length<=reachBytes) (h1:v.av.length<=reachBytes) (af7:v.ai.length<=reachBytes) (ahn:v.Rest.length<=reachBytes)
  (hk:∀x,x∈v.av->bM x) (Bv:∀x,x∈v.ai->bM x) (ahv:∀x,x∈v.Rest->x.Data.length<=reachBytes)
  (c': -9223372036854775808<=v.Kind/\v.Kind<=9223372036854775807) (ahB: -9223372036854775808<=v.bc/\v.bc<=9223372036854775807) (ahC: -9223372036854775808<=v.ae/\v.ae<=9223372036854775807)
  (ahD:∀x,x∈v.Rest->-9223372036854775808<=x.ae/\x.ae<=9223372036854775807):bM v
theorem dz{n:Nat}(h:n<=reachBytes):n<9223372036854775807:=Nat.lt_of_le_of_lt h (by decide)
theorem scan{d:Type}(L:Nat->Option d)(n:Nat)(p:Nat->Bool)(a b:d)(l:∀i,i<n->L i=if p i then L (i+1)else some a)(e:L n=some b):
 (L 0=some b/\∀j,j<n->p j=true)\/(L 0=some a/\∃j,j<n/\p j=false):=by
 have key:∀k i,i+k=n->(L i=some b/\∀j,i<=j->j<n->p j=true)\/(L i=some a/\∃j,j<n/\p j=false):=by
  intro k;induction k with
  |zero=> intro i g; have:i = n:= by omega
          subst this;exact .inl ⟨e,λj h1 c=>by omega⟩
  |succ k ih=>grind
 rcases key n 0 (by omega)with⟨h1,c⟩|h
 . exact .inl ⟨h1,λj f=>c j (h' _) f⟩
 . exact .inr h
theorem dv{l:List α}{i:Nat}(h:i<l.length)(d:α):l.getD i d=l[i]:=by grind
theorem u3{b:List α}{p:Nat->Bool}(af:a.length=b.length)(e:∀(i:Nat) (h1:i<a.length) (c:i<b.length),p i=true↔a[i]=b[i]):
 (∀j,j<a.length->p j=true)↔a=b:=by
 constructor
 . intro h;exact Ft af λi h1 c=>(e i h1 c).1 (h i h1)
 . rintro rfl j d
   exact(e j d d).2 rfl
def eT{α:Type}(o:Option Bool)(a b:α):Prop:=∃r,o=some r/\(r=true↔a=b)
theorem eT.Fz{b:List α}{p:Nat->Bool}(af:a.length=b.length)(e:∀(i:Nat) (h1:i<a.length) (c:i<b.length),p i=true↔a[i]=b[i]){o:Option Bool}
 (h:(o=some true/\∀j,j<a.length->p j=true)\/(o=some false/\∃j,j<a.length/\p j=false)):eT o a b:=by
 rcases h with⟨h1,c⟩|⟨h1,j,c,f⟩
 . exact⟨true,h1,by simp[(u3 af e).1 c]⟩
 . refine⟨false,h1,?_⟩;constructor
   . intro h;cases h
   . intro h;have:=(u3 af e).2 h j c;rw[f]at this;cases this
theorem OM{a b:bY}:(hJ a.ae b.ae&&(jz a.Data b.Data&&true))=true↔a=b:=by cases a;cases b;simp[hJ,jz]
theorem ON{a b:c4}:(hJ a.ae b.ae&&(jz a.Name b.Name&&true))=true↔a=b:=by
 cases a;cases b;simp[hJ,jz]
theorem ac8{b:List α}(h:¬a.length=b.length):a≠b:=λe=>h (ep List.length e)
theorem vV{b:List α}(h:¬a.length=b.length):eT (some false) a b:=⟨false,rfl,by simp[ac8 h]⟩
theorem OO{a b:List bY}(d:a.length<=reachBytes):eT (xF (a,b)) a b:=by
 rw[xF];by_cases af:a.length=b.length
 . rw[cl];have f:=dz d;have:=scan (λi=>pg (a,b,(a.length:Int),(i:Int))) a.length (λi=>hJ (a.getD i bX).ae (b.getD i bX).ae&&(jz (a.getD i bX).Data (b.getD i bX).Data&&true)) (.inl false) (.inr ())
    (λi e=>by
     rw[pg,bu,ad (aQ e)];simp only[aT,ao,bd];rw[ad (aQ (by omega)),bD]
     grind)
    (by rw[pg,bt])
   have h0:pg (a,b,(a.length:Int),((0:Nat):Int))=pg (a,b,(a.length:Int),0):=rfl;simp only[h0]at this;refine eT.Fz (p:=λi=>hJ (a.getD i bX).ae (b.getD i bX).ae&&(jz (a.getD i bX).Data (b.getD i bX).Data&&true)) af (λi h1 c=>by simp only[dv h1,dv c];exact OM) ?_;grind
 . rw[bu];exact vV af
theorem ac9{a b:List c4}(d:a.length<=reachBytes):eT (Cn (a,b)) a b:=by
 rw[Cn];by_cases af:a.length=b.length
 . rw[cl];have f:=dz d;have:=scan (λi=>pf (a,b,(a.length:Int),(i:Int))) a.length (λi=>hJ (a.getD i dL).ae (b.getD i dL).ae&&(jz (a.getD i dL).Name (b.getD i dL).Name&&true)) (.inl false) (.inr ())
    (λi e=>by
     rw[pf,bu,ad (aQ e)];simp only[aT,ao,bd];rw[ad (aQ (by omega)),bD]
     grind)
    (by rw[pf,bt])
   have h0:pf (a,b,(a.length:Int),((0:Nat):Int))=pf (a,b,(a.length:Int),0):=rfl;simp only[h0]at this;refine eT.Fz (p:=λi=>hJ (a.getD i dL).ae (b.getD i dL).ae&&(jz (a.getD i dL).Name (b.getD i dL).Name&&true)) af (λi h1 c=>by simp only[dv h1,dv c];exact ON) ?_;grind
 . rw[bu];exact vV af
theorem DG(v:I):(⟨v.Kind,v.bL,v.bc,v.bn,v.ae,v.av,v.ai,v.Rest⟩:I)=v:=by cases v;rfl
theorem JH{a b:I}:a=b↔a.Kind=b.Kind/\a.bL=b.bL/\a.bc=b.bc/\a.bn=b.bn/\a.ae=b.ae/\a.Rest=b.Rest/\a.av=b.av/\a.ai=b.ai:=by
 constructor
 . grind
 . cases a;cases b;grind
section
variable {f:I×I->Option Bool}
theorem HM {a b:List I}(af:a.length=b.length)(ih:∀x,x∈a->∀y,eT (f (x,y)) x y)(L:Nat->Option (Bool ⊕ Unit))
 (l:∀i,i<a.length->L i=(f (I.eta (a.getD i au),I.eta (b.getD i au))>>=λr=>if !r then some (.inl false)else L (i+1)))
 (j:L a.length=some (.inr ())):eT (L 0>>=λo=>match o with|.inl x=>some x|.inr _=>some true) a b:=by
 have d:∀(i:Nat) (h1:i<a.length) (c:i<b.length),eT (f (I.eta (a.getD i au),I.eta (b.getD i au))) a[i] b[i]:=by
  intro i h1 c;rw[dv h1,dv c,I.aU,I.aU];grind
 have:=scan L a.length (λi=>(f (I.eta (a.getD i au),I.eta (b.getD i au))).getD false) (.inl false) (.inr ())
  (λi k=>by
   obtain⟨r,h1,c⟩:=d i k (by omega)
   grind) j
 refine eT.Fz af (λi h1 c=>?_) ?_ (p:=λi=>(f (I.eta (a.getD i au),I.eta (b.getD i au))).getD false)
 . obtain⟨r,e,g⟩:=d i h1 c;rw[e];exact g
 . rcases this with⟨h1,c⟩|⟨h1,c⟩
   . exact .inl ⟨by rw[h1];rfl,c⟩
   . exact .inr ⟨by rw[h1];rfl,c⟩
end
theorem Ng{a b:List I}(c:a.length<=reachBytes)(ih:∀x,x∈a->∀y,eT (pU (x,y)) x y):eT (uT (a,b)) a b:=by
 rw[uT];by_cases af:a.length=b.length
 . rw[cl];have e:=dz c;exact HM af ih (λi=>uR (b,a,(a.length:Int),(i:Int)))
    (λi d=>by
     rw[uR,bu,ad (aQ d),ad (aQ (by omega)),bD]
     rfl)
    (by rw[uR,bt])
 . rw[bu];exact vV af
theorem Nh{a b:List I}(c:a.length<=reachBytes)(ih:∀x,x∈a->∀y,eT (lI (x,y)) x y):eT (xD (a,b)) a b:=by
 rw[xD];by_cases af:a.length=b.length
 . rw[cl];have e:=dz c;exact HM af ih (λi=>uS (b,a,(a.length:Int),(i:Int)))
    (λi d=>by
     rw[uS,bu,ad (aQ d),ad (aQ (by omega)),bD]
     rfl)
    (by rw[uS,bt])
 . rw[bu];exact vV af
theorem Ni{a b:List I}(c:a.length<=reachBytes)(ih:∀x,x∈a->∀y,eT (jG (x,y)) x y):eT (xH (a,b)) a b:=by
 rw[xH];by_cases af:a.length=b.length
 . rw[cl];have e:=dz c;exact HM af ih (λi=>uM (a,b,(i:Int)))
    (λi d=>by
     rw[uM,bu,ad (aQ d),ad (aQ (by omega)),bD]
     rfl)
    (by rw[uM,bt])
 . rw[bu];exact vV af
theorem three{a b:I}{ba:Bool}(kL:ba=true↔a.Kind=b.Kind/\a.bL=b.bL/\a.bc=b.bc/\a.bn=b.bn/\a.ae=b.ae){y z:Option Bool}(l:eT x a.Rest b.Rest)(o:eT y a.av b.av)(s:eT z a.ai b.ai):
 eT (some ba>>=λt37=>(if t37 then x else some false)>>=λr=>some (bif t37 then r else false)>>=λt44=>(if t44 then y else some false)>>=λv=>some (bif t44 then v else false)>>=λt51=>(if t51 then z else some false)>>=λw=>some (bif t51 then w else false)) a b:=by
 obtain⟨j,m,n⟩:=l;obtain⟨k,p,q⟩:=o;obtain⟨A,t,u⟩:=s;subst m;subst p;subst t;refine⟨ba&&j&&k&&A,?_,?_⟩
 . cases ba<;>cases j<;>cases k<;>rfl
 . rw[JH];simp only[cd];rw[kL,n,q,u];constructor
   . rintro ⟨⟨⟨⟨h1,c,d,e,ba⟩,f⟩,g⟩,i⟩;exact⟨h1,c,d,e,ba,f,g,i⟩
   . rintro ⟨h1,c,d,e,ba,f,g,i⟩;exact⟨⟨⟨⟨h1,c,d,e,ba⟩,f⟩,g⟩,i⟩
theorem QP{a b:I}:(bif bif bif bif decide (a.Kind=b.Kind)then ft a.bL b.bL else false then decide (a.bc=b.bc)else false then decide (a.bn=b.bn)else false then decide (a.ae=b.ae)else false)=true↔a.Kind=b.Kind/\a.bL=b.bL/\a.bc=b.bc/\a.bn=b.bn/\a.ae=b.ae:=by
 simp only[yi,ft];grind
theorem IS{a:I}(h:bM a):∀b,eT (pU (a,b)) a b:=by
 induction h with
 |mk a hs h1 c d i g j c' k l m f e=>
  intro b;rw[pU];exact three QP (OO d) (Ng h1 f) (Ng c e)
theorem Cv{a:I}(h:bM a):∀b,eT (lI (a,b)) a b:=by
 induction h with
 |mk a hs h1 c d i g j c' k l m f e=>
  intro b;rw[lI];exact three QP (OO d) (Nh h1 f) (Nh c e)
theorem Ds{a:I}(h:bM a):∀b,eT (jG (a,b)) a b:=by
 induction h with
 |mk a hs h1 c k w v x c' A B C q p=>
  intro b;rw[jG];by_cases ba:a.Kind=b.Kind/\a.bL=b.bL/\a.bc=b.bc/\a.bn=b.bn/\a.ae=b.ae/\a.Rest.length=b.Rest.length
  . obtain⟨aK,g,c9,iq,kL,uB⟩:=ba;rw[ak (by simp[aK,g,c9,iq,kL,uB,ft])];have y:=dz k;have f:=scan (λi=>ph ((i:Int),a,b)) a.Rest.length (λi=>hJ (a.Rest.getD i bX).ae (b.Rest.getD i bX).ae&&(jz (a.Rest.getD i bX).Data (b.Rest.getD i bX).Data&&true)) (.inl false) (.inr (a,b))
     (λi l=>by
      rw[ph,bu,ad (aQ l)];simp only[aT,ao,bd,I.aU];rw[ad (aQ (by omega)),bD]
      grind)
     (by rw[ph,bt,I.aU,I.aU])
    have h0:ph (((0:Nat):Int),a,b)=ph (0,a,b):=rfl;simp only[h0]at f;rw[DG,DG];have m:∀(i:Nat) (h1:i<a.Rest.length) (c:i<b.Rest.length),(hJ (a.Rest.getD i bX).ae (b.Rest.getD i bX).ae&&(jz (a.Rest.getD i bX).Data (b.Rest.getD i bX).Data&&true))=true↔a.Rest[i]=b.Rest[i]:=λi h1 c=>by rw[dv h1,dv c];exact OM
    rcases f with⟨d,e⟩|⟨d,j,e,u⟩
    . have z:=(u3 uB m).1 e;rw[d];obtain⟨kj,r,s⟩:=Ni (a:=a.av) (b:=b.av) h1 q;obtain⟨t,n,o⟩:=Ni (a:=a.ai) (b:=b.ai) c p;simp only[aT,ao];rw[r,n];refine⟨kj&&t,by cases kj<;>rfl,?_⟩;rw[JH,cd,s,o];grind
    . rw[d];refine⟨false,rfl,?_⟩;grind
  . rw[ad]
    . refine⟨false,rfl,?_⟩;grind
    . simp only[yi,ft];grind
def mA(c:Int):Bool:=decide (c=95\/(97<=c/\c<=122)\/(65<=c/\c<=90))
def Af(c:Int):Bool:=decide (48<=c/\c<=57)
theorem DH(c:Int):xM c=some (mA c):=by
 rw[xM];unfold mA;grind
theorem JI(c:Int):yL c=some (mA c):=by
 rw[yL];unfold mA;grind
theorem abI(c:Int):CY c=some (Af c):=by
 rw[CY];unfold Af;grind
theorem abJ(c:Int):Ca c=some (Af c):=by
 rw[Ca];unfold Af;grind
theorem L7{f:Type}(A B cy:Bool)(a b:Option f)(c:cy=true):
 (some A>>=λd=>some (!d)>>=λt26=>if(cy||(!t26)) then(if t26 then some B else some false)>>=λe=>if(bif t26 then(!e)else false) then a else b else none)=if(A||B) then b else a:=by
 subst c;cases A<;>cases B<;>rfl
theorem Nj(s:aj):∃r,kG s=some r/\sm s=some r:=by
 rw[kG,sm];simp only[aT,ao];by_cases d:s=[]\/24<s.length
 . have ht:(bif decide (s=[])then true else decide (24<(s.length:Int)))=true:=(by grind);rw[ht];simp_all
 . have f:s≠[]:=λh=>d (.inl h);have l:s.length<=24:=(by omega);have ht:(bif decide (s=[])then true else decide (24<(s.length:Int)))=false:=(by grind);have g:0<s.length:=tR.2 f;have e:aH 0 s.length=true:=aQ (k:=0) g;simp only[ht,e,BP,bS,eN,ao,DH,JI,dX];cases af:mA (fq s 0)with
   |false=>exact⟨false,rfl,rfl⟩
   |true=>
    rw[bt,bt];let p:Nat->Bool:=λi=>mA (fq s i)||Af (fq s i);have s1:=scan (λi=>k3 (s,(s.length:Int),(i:Int))) s.length p (.inl false) (.inr ())
     (λi a=>by
      rw[k3,bu,ad (aQ a),DH,abI,bD]
      exact L7 _ _ _ _ _ (aQ a))
     (by rw[k3,bt])
    have b:=scan (λi=>oV (s,(i:Int))) s.length p (.inl false) (.inr ())
     (λi a=>by
      rw[oV,bu,ad (aQ a),JI,abJ,bD]
      exact L7 _ _ _ _ _ (aQ a))
     (by rw[oV,bt])
    have aK:k3 (s,(s.length:Int),((0:Nat):Int))=k3 (s,(s.length:Int),0):=rfl;have c:oV (s,((0:Nat):Int))=oV (s,0):=rfl;simp only[aK,c]at s1 b;rcases s1 with⟨a1,a2⟩|⟨a1,j,a2,a3⟩<;>rcases b with⟨b1,b2⟩|⟨b1,k,b2,b3⟩
    . simp_all
    . grind
    . grind
    simp_all
def nm(s:aj):Bool:=(kG s).getD false
theorem tu(s:aj):kG s=some (nm s):=by
 obtain⟨r,h1,_⟩:=Nj s;unfold nm;rw[h1];rfl
theorem Al(s:aj):sm s=some (nm s):=by
 obtain⟨r,h1,a⟩:=Nj s;unfold nm;rw[h1,a];rfl
theorem E7{s:aj}(h:nm s=true):s≠[]:=by
 rintro rfl
 unfold nm at h;rw[kG]at h;simp at h
def kd(l:aq)(names:List aj)(i:Nat):Bool:=
 decide (1<=l.getD i 0)&&decide (l.getD i 0<=1000)&&(decide (i=0)||decide (l.getD (i-1) 0<l.getD i 0))&&nm (names.getD i []) && !((names.take i).contains (names.getD i []))
def kQ(l:List aj):List aj:=l.foldl iR []
theorem abK(ks:List aj)(a s:aj):jd (iR ks a) s=(jd ks s||decide (a=s)):=by
 unfold iR;split
 . grind
 . simp[jd,List.any_append]
theorem Kb(l:List aj)(s:aj):jd (kQ l) s=l.contains s:=by
 have key:∀(l:List aj) (ks:List aj),jd (l.foldl iR ks) s=(jd ks s||l.contains s):=by
  intro l;induction l with
  |nil=>intro ks;simp
  |cons a r ih=>
   intro ks;rw[List.foldl_cons,ih,abK,Bool.or_assoc];grind
 have:=key l [];simpa[kQ,jd]using this
theorem Kc{l:List aj}{i:Nat}(h:i<l.length):iR (kQ (l.take i)) (l.getD i [])=kQ (l.take (i+1)):=by
 unfold kQ;rw[Fo,List.foldl_append,eH h,dv h];rfl
theorem ab8{g:Type}(A a b C cy H N:Bool)(c d:Option g)(e:cy=true)(f:a=true->b=true):
 (if(b||(!((!A)&&a))) then
  some (bif A then true else bif a then C else false)>>=λt34=>
  if(cy||(!(!t34))) then
   some (bif t34 then true else H)>>=λt42=>
   if(cy||(!(!t42))) then
    (if !t42 then some N else some false)>>=λr=>
    if(bif t42 then true else(!r)) then c else(if cy then d else none)
   else none
  else none
 else none)=if !A&&(!a || !C)&&N && !H then d else c:=by
 subst e;cases a with
 |true=>have:=f rfl;subst this;cases A<;>cases C<;>cases H<;>cases N<;>rfl
 |false=>cases A<;>cases b<;>cases C<;>cases H<;>cases N<;>rfl
theorem OP{l:aq}(af:l.length<=reachBytes)(aD:names.length=l.length):∃r,yS (l,names)=some r/\(r=true↔(∀i,i<l.length->kd l names i=true)/\l.length<=16):=by
 rw[yS];have m:=dz af;have b:=scan (λi=>pN (l,names,l,(l.length:Int),(i:Int),kQ (names.take i))) l.length (kd l names) (.inl false) (.inr l)
  (λi d=>by
   have a:i<names.length:=(by omega);rw[pN,bu,ad (aQ d)];simp only[bd];rw[tu,bD,Kc a,Kb];have f:0<i->df .i64 (i:Int) 1=((i-1:Nat):Int):=by intro h;rw[hG];omega
   refine(ab8 (bif decide (l.getD i 0<1)then true else decide (1000<l.getD i 0)) (decide ((0:Int)<(i:Int))) (aH (df .i64 (i:Int) 1) l.length) (decide (l.getD i 0<=l.getD (df .i64 (i:Int) 1).toNat 0)) (aH (i:Int) names.length) ((names.take i).contains (names.getD i [])) (nm (names.getD i [])) _ _ (aQ a) (λg=>?_)).trans ?_
   . have e:0<i:=by simp at g;omega
     rw[f e];exact aQ (by omega)
   . have:(!(bif decide (l.getD i 0<1)then true else decide (1000<l.getD i 0))&&(!(decide ((0:Int)<(i:Int))) || !(decide (l.getD i 0<=l.getD (df .i64 (i:Int) 1).toNat 0)))&&nm (names.getD i []) && !((names.take i).contains (names.getD i [])))=kd l names i:=by
      unfold kd;grind
     rw[this])
  (by rw[pN,bt])
 have cX:pN (l,names,l,(l.length:Int),((0:Nat):Int),kQ (names.take 0))=pN (l,names,l,(l.length:Int),0,[]):=rfl;simp only[cX]at b;rcases b with⟨h1,c⟩|⟨h1,j,c,k⟩
 . rw[h1];refine⟨decide ((l.length:Int)<=16),rfl,?_⟩;grind
 . rw[h1];refine⟨false,rfl,?_⟩;grind
theorem Cp{k n:Nat}(a:k<=16)(h:n*24<=reachBytes:=by simp;omega):room k n=true:=by
 unfold room j8 eG;unfold reachBytes at h;simp only[cd,dn];have:(2*n+192)*k<=(2*n+192)*16:=Nat.mul_le_mul_left _ a;omega
theorem u'(l:List α)(i:Nat)(d:α)(h:i<l.length):l.take i++[l.getD i d]=l.take (i+1):=by simp_all
theorem h3{a:Type}(f:α->a)(l:List α)(i:Nat)(d:α)(e:a)(h:i<l.length):(l.map f).getD i e=f (l.getD i d):=by grind
theorem pP{l:List aj}{i:Nat}{s:aj}(b:i<=l.length:=by simp;omega):(l.take i).contains s=true↔∃k,k<i/\l.getD k []=s:=by
 rw[List.contains_iff_mem];constructor
 . intro h;obtain⟨k,a,he⟩:=eZ h;rw[oh]at a;refine⟨k,by omega,?_⟩;grind
 . rintro ⟨k,a,he⟩
   rw[<-he,dv (by omega)];have:(l.take i)[k]'(by rw[oh];omega)=l[k]:=List.getElem_take;grind
def lB(l:aq)(i:Nat):Int:=if i=0 then 0 else l.getD (i-1) 0
theorem Nk{l:aq}{i:Nat}(e:i<l.length)(aD:names.length=l.length):
 kd l names i=(decide (lB l i<l.getD i 0)&&decide (1<=l.getD i 0)&&decide (l.getD i 0<=1000)&&nm (names.getD i []) && !((names.take i).contains (names.getD i []))):=by
 unfold kd lB;generalize l.getD i 0=x;generalize l.getD (i-1) 0=y;generalize nm (names.getD i [])=a;generalize (names.take i).contains (names.getD i [])=b;by_cases h0:i=0
 . subst h0;by_cases h1:1<=x
   . have:decide ((0:Int)<x)=true:=by simp;omega
     simp[h1,this]
   . simp[h1]
 . simp only[h0,b6,de,Bool.false_or];by_cases h1:1<=x<;>by_cases c:x<=1000<;>by_cases d:y<x<;>simp[h1,c,d]
theorem Kd(l:List c4)(af:l.length*24<=reachBytes):∀(k i:Nat),i+k=l.length->q8 (l,l,(l.length:Int),(i:Int),(l.map (·.ae)).take i,(l.map (·.Name)).take i)=some (l,l.map (·.ae),l.map (·.Name))
 |0,i,h=>by
  have:i=l.length:=by omega
  subst this;rw[q8,bt];rw[ob (by simp),ob (by simp)]
 |k+1,i,h=>by
  have b:l.length<9223372036854775807:=by unfold reachBytes at af;omega
  have a:i<l.length:=by omega
  rw[q8,bu,ad (aQ a)];simp only[aT,ao,bd];rw[<-h3 (·.ae) l i dL 0 a,<-h3 (·.Name) l i dL [] a,u' _ _ _ (by simpa using a),u' _ _ _ (by simpa using a)];rw[ad (Cp (by omega)),ad (Cp (by omega)),bD];exact Kd l af k (i+1) (by omega)
theorem MA{l:List c4}(af:l.length*24<=reachBytes):∃r,vA l=some r/\(r=true↔0<l.length/\(∀i,i<l.length->kd (l.map (·.ae)) (l.map (·.Name)) i=true)/\l.length<=16):=by
 have h:=Kd l af l.length 0 (by omega);have a:q8 (l,l,(l.length:Int),0,[],[])=some (l,l.map (·.ae),l.map (·.Name)):=h;rw[vA,a];simp only[aT,ao];obtain⟨r,h1,b⟩:=OP (l:=l.map (·.ae)) (names:=l.map (·.Name)) (by simp;unfold reachBytes at*;omega) (by simp);rw[gy]at b;grind
theorem Rr(a b:Int):xP (a,b)=some (decide (a<b)&&decide (1<=b)&&decide (b<=1000)):=by
 rw[xP];grind
theorem Y3(l:List c4)(af:l.length<=reachBytes)(i:Nat)(b:i<l.length):
 ng (l,(i:Int),0)=some (if((l.map (·.Name)).take i).contains ((l.map (·.Name)).getD i []) then .inl false else .inr (l,(i:Int))):=by
 have f:=dz af;have d:=scan (λk=>ng (l,(i:Int),(k:Int))) i (λk=>!(decide ((l.getD k dL).Name=(l.getD i dL).Name))) (.inl false) (.inr (l,(i:Int)))
  (λk c=>by
   rw[ng,bu,ad (aQ (by omega)),ad (aQ b),bD]
   grind)
  (by rw[ng,bt])
 have cX:ng (l,(i:Int),((0:Nat):Int))=ng (l,(i:Int),0):=rfl;simp only[cX]at d;rw[h3 (·.Name) l i dL [] b];rcases d with⟨h1,a⟩|⟨h1,j,a,e⟩
 . rw[h1,ak];rw[pP]
   rintro ⟨k,c,he⟩
   rw[h3 (·.Name) l k dL [] (by omega)]at he;have:=a k c;rw[he]at this;simp at this
 . rw[h1,ad];rw[pP];refine⟨j,a,?_⟩;rw[h3 (·.Name) l j dL [] (by omega)];simpa using e
theorem ab9{l:List c4}(af:l.length<=reachBytes):∃r,yE l=some r/\(r=true↔0<l.length/\(∀i,i<l.length->kd (l.map (·.ae)) (l.map (·.Name)) i=true)/\l.length<=16):=by
 have f:=dz af;have b:=scan (λi=>oQ (l,lB (l.map (·.ae)) i,(i:Int))) l.length (kd (l.map (·.ae)) (l.map (·.Name))) (.inl false) (.inr l)
  (λi a=>by
   rw[oQ,bu,ad (aQ a),Rr,Y3 l af i a,Nk (by simpa using a) (by simp)];simp only[aT,ao,bd];rw[<-h3 (·.ae) l i dL 0 a,<-h3 (·.Name) l i dL [] a,Al];generalize (decide (lB (l.map (·.ae)) i<(l.map (·.ae)).getD i 0)&&decide (1<=(l.map (·.ae)).getD i 0)&&decide ((l.map (·.ae)).getD i 0<=1000))=q;rw[ad (by rw[aQ a];rfl)];cases q with
   |false=>rfl
   |true=>
    simp only[dp,eN,bS,ao,mJ];cases nm ((l.map (·.Name)).getD i [])with
    |false=>rfl
    |true=>
     simp only[dp,dX,bV,b6,mJ];cases e:((l.map (·.Name)).take i).contains ((l.map (·.Name)).getD i [])with
     |true=>simp
     |false=>
      simp only[bV,b6,eN,bS];rw[ad (aQ a),bD];have:lB (l.map (·.ae)) (i+1)=(l.getD i dL).ae:=by
       unfold lB;grind
      grind)
  (by rw[oQ,bt])
 have cX:oQ (l,lB (l.map (·.ae)) 0,((0:Nat):Int))=oQ (l,0,0):=rfl;simp only[cX]at b;rw[yE];rcases b with⟨h1,c⟩|⟨h1,j,c,d⟩
 . rw[h1];refine⟨_,rfl,?_⟩;grind
 . rw[h1];refine⟨false,rfl,?_⟩;grind
theorem aaP{l:List c4}(af:l.length*24<=reachBytes):∃r,vA l=some r/\yE l=some r:=by
 obtain⟨r,h1,a⟩:=MA af;obtain⟨q,b,c⟩:=ab9 (l:=l) (by unfold reachBytes at*;omega);grind
structure eX (t:ah):Prop where
 syms:t.bg.length*24<=reachBytes
 gQ:t.ag.length*24<=reachBytes
 jb:∀m,m∈t.ag->bM m.bw
theorem il{n:Nat}(h:n*24<=reachBytes):n<=reachBytes:=by unfold reachBytes at*;omega
theorem Y4{a b:aS}:a=b↔a.ae=b.ae/\a.Name=b.Name/\a.aw=b.aw/\a.cp=b.cp/\a.bZ=b.bZ/\a.bw=b.bw:=by cases a;cases b;simp
theorem jw(x:aS):(⟨x.ae,x.Name,x.aw,x.cp,x.bZ,I.eta x.bw⟩:aS)=x:=by cases x;simp[I.aU]
theorem QQ{a b:aS}:(bif bif bif bif decide (a.ae=b.ae)then decide (a.Name=b.Name)else false then decide (a.aw=b.aw)else false then ft a.cp b.cp else false then ft a.bZ b.bZ else false)=true↔a.ae=b.ae/\a.Name=b.Name/\a.aw=b.aw/\a.cp=b.cp/\a.bZ=b.bZ:=by
 simp only[yi,ft];grind
theorem Ry{a b:aS}(f:q=true↔a.ae=b.ae/\a.Name=b.Name/\a.aw=b.aw/\a.cp=b.cp/\a.bZ=b.bZ)(g:eT x a.bw b.bw):
 eT (some q>>=λt37=>(if t37 then x else some false)>>=λr=>some (bif t37 then r else false)) a b:=by
 obtain⟨d,h1,e⟩:=g;subst h1;refine⟨q&&d,by cases q<;>cases d<;>rfl,?_⟩;rw[Y4,cd,f,e];constructor
 . rintro ⟨⟨a1,a2,a3,a4,a5⟩,c⟩;exact⟨a1,a2,a3,a4,a5,c⟩
 . rintro ⟨a1,a2,a3,a4,a5,c⟩;exact⟨⟨a1,a2,a3,a4,a5⟩,c⟩
theorem aaQ{a:aS}(h:bM a.bw)(b:aS):eT (xL (a,b)) a b:=by
 rw[xL];simp only[DG,I.aU];exact Ry QQ (Cv h _)
theorem aaR{a:aS}(h:bM a.bw)(b:aS):eT (xC (a,b)) a b:=by
 rw[xC];simp only[DG,I.aU];exact Ry QQ (Ds h _)
theorem Js{m:Type}{g:m}{a b:List aS}(af:a.length=b.length)(ih:∀x,x∈a->∀y,eT (f (x,y)) x y)(L:Nat->Option (Bool ⊕ m))
 (q:∀i,i<a.length->L i=(f (a.getD i aE,b.getD i aE)>>=λr=>if !r then some (.inl false)else L (i+1)))
 (n:L a.length=some (.inr g)):(L 0=some (.inr g)/\a=b)\/(L 0=some (.inl false)/\a≠b):=by
 have k:∀(i:Nat) (h1:i<a.length) (c:i<b.length),eT (f (a.getD i aE,b.getD i aE)) a[i] b[i]:=by grind
 have l:∀(i:Nat) (h1:i<a.length) (c:i<b.length),(f (a.getD i aE,b.getD i aE)).getD false=true↔a[i]=b[i]:=by
  intro i h1 c;obtain⟨r,d,p⟩:=k i h1 c;grind
 have:=scan L a.length (λi=>(f (a.getD i aE,b.getD i aE)).getD false) (.inl false) (.inr g)
  (λi o=>by
   obtain⟨r,h1,c⟩:=k i o (by omega)
   grind) n
 rcases this with⟨h1,c⟩|⟨h1,j,c,d⟩
 . exact .inl ⟨h1,(u3 af l).1 c⟩
 . refine .inr ⟨h1,λe=>?_⟩;have:=(u3 af l).2 e j c;rw[d]at this;cases this
theorem Yl{a b:List aS}(d:a.length<=reachBytes)(e:∀m,m∈a->bM m.bw):eT (Cl (a,b)) a b:=by
 rw[Cl];by_cases af:a.length=b.length
 . rw[cl];have l:=dz d;have hs:=Js (g:=()) af (f:=xL) (λx k y=>aaQ (e x k) y) (λi=>pb (b,a,(a.length:Int),(i:Int)))
    (λi j=>by
     rw[pb,bu,ad (aQ j)];simp only[aT,ao,bd,jw]
     rw[ad (aQ (by omega)),bD])
    (by rw[pb,bt])
   have cX:pb (b,a,(a.length:Int),((0:Nat):Int))=pb (b,a,(a.length:Int),0):=rfl;simp only[cX]at hs;rcases hs with⟨h1,c⟩|⟨h1,c⟩
   . rw[h1];exact⟨true,rfl,by simp[c]⟩
   . rw[h1];exact⟨false,rfl,by simp[c]⟩
 . rw[bu];exact vV af
theorem L8{a b:ah}:a=b↔a.Kind=b.Kind/\a.Name=b.Name/\a.bA=b.bA/\a.bC=b.bC/\a.Max=b.Max/\a.Key=b.Key/\a.aG=b.aG/\a.Open=b.Open/\a.bg=b.bg/\a.ag=b.ag:=by
 cases a;cases b;grind
theorem ac'{a b:ah}:(bif bif bif bif bif bif bif decide (a.Kind=b.Kind)then decide (a.Name=b.Name)else false then decide (a.bA=b.bA)else false then decide (a.bC=b.bC)else false then decide (a.Max=b.Max)else false then decide (a.Key=b.Key)else false then decide (a.aG=b.aG)else false then ft a.Open b.Open else false)=true↔
 a.Kind=b.Kind/\a.Name=b.Name/\a.bA=b.bA/\a.bC=b.bC/\a.Max=b.Max/\a.Key=b.Key/\a.aG=b.aG/\a.Open=b.Open:=by
 simp only[yi,ft];by_cases h1:a.Kind=b.Kind<;>by_cases c:a.Name=b.Name<;>by_cases d:a.bA=b.bA<;>by_cases e:a.bC=b.bC<;>simp[h1,c,d,e];by_cases ba:a.Max=b.Max<;>by_cases f:a.Key=b.Key<;>by_cases g:a.aG=b.aG<;>simp[ba,f,g]
theorem iU{a:ah}(h:eX a)(b:ah):eT (hY (a,b)) a b:=by
 rw[hY];obtain⟨d,s1,g⟩:=ac9 (a:=a.bg) (b:=b.bg) (il h.syms);obtain⟨c,e,f⟩:=Yl (a:=a.ag) (b:=b.ag) (il h.gQ) h.jb;have e8:=ac' (a:=a) (b:=b);generalize (bif bif bif bif bif bif bif decide (a.Kind=b.Kind)then decide (a.Name=b.Name)else false then decide (a.bA=b.bA)else false then decide (a.bC=b.bC)else false then decide (a.Max=b.Max)else false then decide (a.Key=b.Key)else false then decide (a.aG=b.aG)else false then ft a.Open b.Open else false)=q at e8⊢;simp only[aT,ao];rw[s1,e];refine⟨q&&d&&c,by cases q<;>cases d<;>cases c<;>rfl,?_⟩;rw[L8,cd,cd,e8,g,f];grind
theorem Dh(a:ah):(⟨a.Kind,a.Name,a.bA,a.bC,a.Max,a.bg,a.ag,a.Key,a.aG,a.Open⟩:ah)=a:=by cases a;rfl
theorem pC{a:ah}(h:eX a)(b:ah):eT (B1 (a,b)) a b:=by
 rw[B1];simp only[Dh];by_cases ba:(a.Kind=b.Kind/\a.Name=b.Name/\a.bA=b.bA/\a.bC=b.bC/\a.Max=b.Max/\a.Key=b.Key/\a.aG=b.aG/\a.Open=b.Open)/\a.bg.length=b.bg.length/\a.ag.length=b.ag.length
 . obtain⟨⟨aK,n,c9,iq,kL,uB,Qw,e8⟩,e,A8⟩:=ba;rw[ak (by simp[aK,n,c9,iq,kL,uB,Qw,e8,e,A8,ft])];have A:=dz (il h.syms);have B:=dz (il h.gQ);have m:=scan (λi=>pk ((i:Int),a,b)) a.bg.length (λi=>hJ (a.bg.getD i dL).ae (b.bg.getD i dL).ae&&(jz (a.bg.getD i dL).Name (b.bg.getD i dL).Name&&true)) (.inl false) (.inr (a,b))
    (λi p=>by
     rw[pk,bu,ad (aQ p)];simp only[aT,ao,bd];rw[ad (aQ (by omega)),bD]
     grind)
    (by rw[pk,bt])
   have h0:pk (((0:Nat):Int),a,b)=pk (0,a,b):=rfl;simp only[h0]at m;have q:∀(i:Nat) (h1:i<a.bg.length) (l:i<b.bg.length),(hJ (a.bg.getD i dL).ae (b.bg.getD i dL).ae&&(jz (a.bg.getD i dL).Name (b.bg.getD i dL).Name&&true))=true↔a.bg[i]=b.bg[i]:=λi h1 l=>by rw[dv h1,dv l];exact ON
   rcases m with⟨c,k⟩|⟨c,j,k,z⟩
   . have C:=(u3 e q).1 k;rw[c];simp only[aT,ao];have hs:=Js (g:=()) A8 (f:=xC) (λx r y=>aaR (h.jb x r) y) (λi=>pn ((i:Int),a,b))
      (λi o=>by
       rw[pn,bu,ad (aQ o)];simp only[aT,ao,bd,jw]
       rw[ad (aQ (by omega)),bD])
      (by rw[pn,bt])
     have cX:pn (((0:Nat):Int),a,b)=pn (0,a,b):=rfl;simp only[cX]at hs;rcases hs with⟨d,s⟩|⟨d,s⟩
     . rw[d];refine⟨true,rfl,?_⟩;rw[L8];grind
     . rw[d];refine⟨false,rfl,?_⟩;grind
   . rw[c];refine⟨false,rfl,?_⟩;grind
 . rw[ad]
   . refine⟨false,rfl,?_⟩;grind
   . simp only[yi,ft];by_cases t:a.Kind=b.Kind<;>by_cases u:a.Name=b.Name<;>by_cases v:a.bA=b.bA<;>by_cases w:a.bC=b.bC<;>simp[t,u,v,w];grind
def pG(v:I):Bool:=(lI (v,au)).getD false
theorem ab'(h:bM v):lI (v,au)=some (pG v):=by
 obtain⟨r,h1,a⟩:=Cv h au;unfold pG;rw[h1];rfl
theorem aca(h:bM v):jG (v,au)=some (pG v):=by
 obtain⟨r,h1,b⟩:=Cv h au;obtain⟨q,a,c⟩:=Ds h au;unfold pG;rw[h1,a];grind
theorem abL(h:bM v):C8 v=some (pG v):=by
 rw[C8,I.aU];have:=ab' h;unfold au at this;grind
def mb(a:Bool)(m:aS):Bool:=(a&&(m.cp||m.bZ))||(m.cp&&m.bZ)||(!m.bZ && !pG m.bw)
theorem bk{l:List α}{i:Nat}(h:i<l.length)(d:α):l.getD i d∈l:=by grind
theorem Ke(h:eX t):∃r,sJ t=some r/\(r=true↔(∀i,i<t.ag.length->mb (decide (t.Kind=6)) (t.ag.getD i aE)=false)/\(t.Kind=5\/0<t.ag.length)/\(∀i,i<t.ag.length->kd (t.ag.map (·.ae)) (t.ag.map (·.Name)) i=true)/\t.ag.length<=16):=by
 have n:t.ag.length<9223372036854775807:=dz (il h.gQ);have c:=scan (λi=>o' (t.ag,(t.ag.length:Int),(i:Int),t,(t.ag.map (·.ae)).take i,(t.ag.map (·.Name)).take i)) t.ag.length (λi=>!(mb (decide (t.Kind=6)) (t.ag.getD i aE))) (.inl false) (.inr (t,t.ag.map (·.ae),t.ag.map (·.Name)))
  (λi a=>by
   have k:=abL (h.jb _ (bk a aE));rw[o',bu,ad (aQ a)];simp only[aT,ao,bd,I.aU];rw[<-h3 (·.ae) t.ag i aE 0 a,<-h3 (·.Name) t.ag i aE [] a,u' _ _ _ (by simpa using a),u' _ _ _ (by simpa using a)];have f:((t.ag.map (·.ae)).take (i+1)).length*24<=reachBytes:=by
    refine h9 (eW _ ?_) h.gQ;simp;omega
   have g:((t.ag.map (·.Name)).take (i+1)).length*24<=reachBytes:=(by grind);rw[ad (Cp (by omega) f),ad (Cp (by omega) g),bD,k];unfold mb
   grind)
  (by
   rw[o',bt]
   rw[ob (by simp),ob (by simp)])
 have cX:o' (t.ag,(t.ag.length:Int),((0:Nat):Int),t,(t.ag.map (·.ae)).take 0,(t.ag.map (·.Name)).take 0)=o' (t.ag,(t.ag.length:Int),0,t,[],[]):=rfl;simp only[cX]at c;rw[sJ];obtain⟨r,h1,e⟩:=OP (l:=t.ag.map (·.ae)) (names:=t.ag.map (·.Name)) (by simpa using il h.gQ) (by simp);rw[gy]at e;rcases c with⟨b,d⟩|⟨b,j,d,m⟩
 . rw[b];simp only[aT,ao];rw[h1];refine⟨(bif decide (t.Kind=5)then true else decide (0<((t.ag.map (·.ae)).length:Int)))&&r,?_,?_⟩
   . grind
   grind
 grind
theorem Y5(l:List aS)(record:Bool)(af:l.length<=reachBytes)(i:Nat)(e:i<l.length):
 nh (l,record,(i:Int),0,l.getD i aE)=some (if((l.map (·.Name)).take i).contains ((l.map (·.Name)).getD i []) then .inl false else .inr (l,record,(i:Int),l.getD i aE)):=by
 have f:=dz af;have c:=scan (λk=>nh (l,record,(i:Int),(k:Int),l.getD i aE)) i (λk=>!(decide ((l.getD k aE).Name=(l.getD i aE).Name))) (.inl false) (.inr (l,record,(i:Int),l.getD i aE))
  (λk b=>by
   rw[nh,bu,ad (aQ (by omega)),bD];simp only[bd,jw]
   grind)
  (by rw[nh,bt,jw])
 have cX:nh (l,record,(i:Int),((0:Nat):Int),l.getD i aE)=nh (l,record,(i:Int),0,l.getD i aE):=rfl;simp only[cX]at c;rw[h3 (·.Name) l i aE [] e];rcases c with⟨h1,a⟩|⟨h1,j,a,d⟩
 . rw[h1,ak];rw[pP]
   rintro ⟨k,b,he⟩
   rw[h3 (·.Name) l k aE [] (by omega)]at he;have:=a k b;rw[he]at this;simp at this
 . rw[h1,ad];rw[pP];refine⟨j,a,?_⟩;rw[h3 (·.Name) l j aE [] (by omega)];simpa using d
theorem Y6{l:List aS}{record:Bool}(af:l.length<=reachBytes)(f:∀m,m∈l->bM m.bw):∃r,vj (l,record)=some r/\(r=true↔(∀i,i<l.length->mb (!record) (l.getD i aE)=false)/\(record=true\/0<l.length)/\(∀i,i<l.length->kd (l.map (·.ae)) (l.map (·.Name)) i=true)/\l.length<=16):=by
 have n:=dz af;have b:=scan (λi=>oR (l,record,lB (l.map (·.ae)) i,(i:Int))) l.length (λi=>kd (l.map (·.ae)) (l.map (·.Name)) i && !(mb (!record) (l.getD i aE))) (.inl false) (.inr (l,record))
  (λi a=>by
   have c:=aca (f _ (bk a aE));unfold au at c;rw[oR,bu,ad (aQ a)];simp only[aT,ao,bd,I.aU,jw,Nk (l:=l.map (·.ae)) (names:=l.map (·.Name)) (i:=i) (by simpa using a) (by simp)];rw[Y5 l record af i a,c];have e:lB (l.map (·.ae)) (i+1)=(l.getD i aE).ae:=by
    unfold lB;grind
   rw[<-h3 (·.ae) l i aE 0 a,<-h3 (·.Name) l i aE [] a,Rr,Al];simp only[ao];generalize (decide (lB (l.map (·.ae)) i<(l.map (·.ae)).getD i 0)&&decide (1<=(l.map (·.ae)).getD i 0)&&decide ((l.map (·.ae)).getD i 0<=1000))=q;cases q with
   |false=>simp
   |true=>
    simp only[dp,eN,bS,ao,mJ];cases nm ((l.map (·.Name)).getD i [])with
    |false=>simp
    |true=>
     simp only[dp,mJ,jg,dX];unfold mb;cases record<;>cases (l.getD i aE).cp<;>cases (l.getD i aE).bZ<;>cases pG (l.getD i aE).bw <;>
      simp only[dp,eN,Bool.or_self,Bool.and_self,Bool.or_true,BP,yl,Bool.and_false,Bool.false_and,mJ,Bool.false_or,jg,eo,dX,bS,b6,bV,ao] <;>
      first
       |rfl
       |(cases k:((l.map (·.Name)).take i).contains ((l.map (·.Name)).getD i [])with
        |true=>simp
        |false=>
         simp only[bV,b6,eN,bS];rw[bD,e]
         try rfl))
  (by rw[oR,bt])
 have cX:oR (l,record,lB (l.map (·.ae)) 0,((0:Nat):Int))=oR (l,record,0,0):=rfl;simp only[cX]at b;rw[vj];rcases b with⟨h1,d⟩|⟨h1,j,d,g⟩
 . rw[h1];refine⟨_,rfl,?_⟩;grind
 . rw[h1];refine⟨false,rfl,?_⟩;grind
theorem JJ(h:eX t)(d:t.Kind=5\/t.Kind=6):∃r,sJ t=some r/\vj (t.ag,decide (t.Kind=5))=some r:=by
 obtain⟨r,h1,a⟩:=Ke h;obtain⟨q,b,c⟩:=Y6 (l:=t.ag) (record:=decide (t.Kind=5)) (il h.gQ) h.jb;have e:(!(decide (t.Kind=5)))=decide (t.Kind=6):=by grind
 grind
theorem eX.plain{k l h m kk e:Int}{n:aj}{o:Bool}(aF:S.length*24<=reachBytes)(a:Ms.length*24<=reachBytes)(c:∀x,x∈Ms->bM x.bw):eX ⟨k,n,l,h,m,S,Ms,kk,e,o⟩:=⟨aF,a,c⟩
theorem afY{L:Int}(h:eX (⟨1,N,L,H,M,S,Ms,K,E,c⟩:ah)):∃r,gu (⟨1,N,L,H,M,S,Ms,K,E,c⟩:ah)=some r/\hD (⟨1,N,L,H,M,S,Ms,K,E,c⟩:ah)=some r/\(r=true->N=[]):=by
 obtain⟨a,a1,a2⟩:=iU (a:=(⟨0,N,L,H,M,S,Ms,K,E,c⟩:ah)) ⟨h.syms,h.gQ,h.jb⟩ (⟨0,[],0,0,0,[],[],0,0,false⟩:ah);obtain⟨b,b1,b2⟩:=pC h (⟨1,[],0,0,0,[],[],0,0,false⟩:ah);have d:a=b:=by grind
 subst d;refine⟨a,by simp[gu,a1],by simp[hD,mn,j3,b1];try (cases a<;>rfl),λe=>?_⟩;grind
theorem afZ{L:Int}(h:eX (⟨2,N,L,H,M,S,Ms,K,E,c⟩:ah)):∃r,gu (⟨2,N,L,H,M,S,Ms,K,E,c⟩:ah)=some r/\hD (⟨2,N,L,H,M,S,Ms,K,E,c⟩:ah)=some r/\(r=true->N=[]):=by
 obtain⟨a,a1,a2⟩:=iU (a:=(⟨0,N,0,0,M,S,Ms,K,E,c⟩:ah)) ⟨h.syms,h.gQ,h.jb⟩ (⟨0,[],0,0,0,[],[],0,0,false⟩:ah);obtain⟨b,b1,b2⟩:=pC h (⟨2,[],L,H,0,[],[],0,0,false⟩:ah);have d:a=b:=by grind
 subst d;refine⟨decide (L<=H)&&a,?_,?_,λe=>?_⟩
 . simp only[gu];grind
 . simp only[hD];generalize decide (L<=H)=q;simp[mn,j3,b1];grind
 grind
theorem af0{L:Int}(h:eX (⟨3,N,L,H,M,S,Ms,K,E,c⟩:ah)):∃r,gu (⟨3,N,L,H,M,S,Ms,K,E,c⟩:ah)=some r/\hD (⟨3,N,L,H,M,S,Ms,K,E,c⟩:ah)=some r/\(r=true->N=[]):=by
 obtain⟨a,a1,a2⟩:=iU (a:=(⟨0,N,L,H,0,S,Ms,K,E,c⟩:ah)) ⟨h.syms,h.gQ,h.jb⟩ (⟨0,[],0,0,0,[],[],0,0,false⟩:ah);obtain⟨b,b1,b2⟩:=pC h (⟨3,[],0,0,M,[],[],0,0,false⟩:ah);have d:a=b:=by grind
 subst d;refine⟨(bif decide (0<=M)then decide (M<=200)else false)&&a,?_,?_,λe=>?_⟩
 . simp only[gu];grind
 . simp only[hD];generalize (bif decide (0<=M)then decide (M<=200)else false)=q;simp[mn,j3,b1];grind
 grind
theorem af1{L:Int}(h:eX (⟨4,N,L,H,M,S,Ms,K,E,c⟩:ah)):∃r,gu (⟨4,N,L,H,M,S,Ms,K,E,c⟩:ah)=some r/\hD (⟨4,N,L,H,M,S,Ms,K,E,c⟩:ah)=some r/\(r=true->N≠[]):=by
 obtain⟨a,a1,a2⟩:=iU (a:=(⟨0,[],L,H,M,[],Ms,K,E,false⟩:ah)) ⟨(by simp),h.gQ,h.jb⟩ (⟨0,[],0,0,0,[],[],0,0,false⟩:ah);obtain⟨b,b1,b2⟩:=pC h (⟨4,N,0,0,0,S,[],0,0,c⟩:ah);have f:a=b:=by grind
 subst f;obtain⟨q,g,e⟩:=aaP (l:=S) h.syms;refine⟨nm N&&q&&a,?_,?_,λd=>?_⟩
 . simp only[gu];simp[a1,g,tu];grind
 . simp only[hD]
   try simp at e
   simp[mn,j3,b1,e,Al];grind
 . simp only[cd]at d;exact E7 d.1.1
theorem af2{L:Int}(h:eX (⟨5,N,L,H,M,S,Ms,K,E,c⟩:ah)):∃r,gu (⟨5,N,L,H,M,S,Ms,K,E,c⟩:ah)=some r/\hD (⟨5,N,L,H,M,S,Ms,K,E,c⟩:ah)=some r/\(r=true->N≠[]):=by
 obtain⟨a,a1,a2⟩:=iU (a:=(⟨0,[],L,H,M,S,[],K,E,(bif c then decide ((5:Int)=5)else false)⟩:ah)) ⟨h.syms,(by simp),(by simp)⟩ (⟨0,[],0,0,0,[],[],0,0,false⟩:ah);obtain⟨b,b1,b2⟩:=pC h (⟨5,N,0,0,0,[],Ms,0,0,false⟩:ah);have g:a=b:=by grind
 subst g;obtain⟨q,e,f⟩:=JJ h (by simp);refine⟨nm N&&q&&a,?_,?_,λd=>?_⟩
 . simp only[gu]
   try simp at a1
   try simp at e
   simp[a1,e,tu];grind
 . simp only[hD]
   try simp at f
   simp[mn,j3,b1,f,Al];grind
 . simp only[cd]at d;exact E7 d.1.1
theorem af3{L:Int}(h:eX (⟨6,N,L,H,M,S,Ms,K,E,c⟩:ah)):∃r,gu (⟨6,N,L,H,M,S,Ms,K,E,c⟩:ah)=some r/\hD (⟨6,N,L,H,M,S,Ms,K,E,c⟩:ah)=some r/\(r=true->N≠[]):=by
 obtain⟨a,a1,a2⟩:=iU (a:=(⟨0,[],L,H,M,S,[],K,E,(bif c then decide ((6:Int)=5)else false)⟩:ah)) ⟨h.syms,(by simp),(by simp)⟩ (⟨0,[],0,0,0,[],[],0,0,false⟩:ah);obtain⟨b,b1,b2⟩:=pC h (⟨6,N,0,0,0,[],Ms,0,0,c⟩:ah);have g:a=b:=by grind
 subst g;obtain⟨q,e,f⟩:=JJ h (by simp);refine⟨nm N&&q&&a,?_,?_,λd=>?_⟩
 . simp only[gu]
   try simp at a1
   try simp at e
   simp[a1,e,tu];grind
 . simp only[hD]
   try simp at f
   simp[mn,j3,b1,f,Al];grind
 . simp only[cd]at d;exact E7 d.1.1
theorem af4{L:Int}(h:eX (⟨7,N,L,H,M,S,Ms,K,E,c⟩:ah)):∃r,gu (⟨7,N,L,H,M,S,Ms,K,E,c⟩:ah)=some r/\hD (⟨7,N,L,H,M,S,Ms,K,E,c⟩:ah)=some r/\(r=true->N=[]):=by
 obtain⟨a,a1,a2⟩:=iU (a:=(⟨0,N,L,H,0,S,Ms,K,0,c⟩:ah)) ⟨h.syms,h.gQ,h.jb⟩ (⟨0,[],0,0,0,[],[],0,0,false⟩:ah);obtain⟨b,b1,b2⟩:=pC h (⟨7,[],0,0,M,[],[],0,E,false⟩:ah);have d:a=b:=by grind
 subst d;refine⟨(bif decide (0<=M)then decide (M<=50)else false)&&a,?_,?_,λe=>?_⟩
 . simp only[gu];grind
 . simp only[hD];generalize (bif decide (0<=M)then decide (M<=50)else false)=q;simp[mn,j3,b1];grind
 grind
theorem af5{L:Int}(h:eX (⟨8,N,L,H,M,S,Ms,K,E,c⟩:ah)):∃r,gu (⟨8,N,L,H,M,S,Ms,K,E,c⟩:ah)=some r/\hD (⟨8,N,L,H,M,S,Ms,K,E,c⟩:ah)=some r/\(r=true->N=[]):=by
 obtain⟨a,a1,a2⟩:=iU (a:=(⟨0,N,L,H,0,S,Ms,0,0,c⟩:ah)) ⟨h.syms,h.gQ,h.jb⟩ (⟨0,[],0,0,0,[],[],0,0,false⟩:ah);obtain⟨b,b1,b2⟩:=pC h (⟨8,[],0,0,M,[],[],K,E,false⟩:ah);have d:a=b:=by grind
 subst d;refine⟨(bif decide (0<=M)then decide (M<=50)else false)&&a,?_,?_,λe=>?_⟩
 . simp only[gu];grind
 . simp only[hD];generalize (bif decide (0<=M)then decide (M<=50)else false)=q;simp[mn,j3,b1];grind
 grind
theorem af6{L:Int}(h:eX (⟨9,N,L,H,M,S,Ms,K,E,c⟩:ah)):∃r,gu (⟨9,N,L,H,M,S,Ms,K,E,c⟩:ah)=some r/\hD (⟨9,N,L,H,M,S,Ms,K,E,c⟩:ah)=some r/\(r=true->N=[]):=by
 obtain⟨a,a1,a2⟩:=iU (a:=(⟨0,N,L,H,M,S,Ms,K,0,c⟩:ah)) ⟨h.syms,h.gQ,h.jb⟩ (⟨0,[],0,0,0,[],[],0,0,false⟩:ah);obtain⟨b,b1,b2⟩:=pC h (⟨9,[],0,0,0,[],[],0,E,false⟩:ah);have d:a=b:=by grind
 subst d;refine⟨a,by simp[gu,a1],by simp[hD,mn,j3,b1];try (cases a<;>rfl),λe=>?_⟩;grind
def ky(k:Int):Bool:=bif bif decide (k=4)then true else decide (k=5)then true else decide (k=6)
theorem JK(h:eX t):∃r,gu t=some r/\hD t=some r/\(r=true->1<=t.Kind/\t.Kind<=9/\ky t.Kind=!(decide (t.Name=[]))):=by
 by_cases a:1<=t.Kind/\t.Kind<=9
 . obtain⟨f,N,L,H,M,S,Ms,K,E,g⟩:=t;simp only at a;have:f=1\/f=2\/f=3\/f=4\/f=5\/f=6\/f=7\/f=8\/f=9:=(by omega);rcases this with rfl|rfl|rfl|rfl|rfl|rfl|rfl|rfl|rfl
   . obtain⟨r,h1,b,c⟩:=afY h;exact⟨r,h1,b,λd=>⟨a.1,a.2,by simp[ky,c d]⟩⟩
   . obtain⟨r,h1,b,c⟩:=afZ h;exact⟨r,h1,b,λd=>⟨a.1,a.2,by simp[ky,c d]⟩⟩
   . obtain⟨r,h1,b,c⟩:=af0 h;exact⟨r,h1,b,λd=>⟨a.1,a.2,by simp[ky,c d]⟩⟩
   . obtain⟨r,h1,b,c⟩:=af1 h;exact⟨r,h1,b,λd=>⟨a.1,a.2,by simp[ky,c d]⟩⟩
   . obtain⟨r,h1,b,c⟩:=af2 h;exact⟨r,h1,b,λd=>⟨a.1,a.2,by simp[ky,c d]⟩⟩
   . obtain⟨r,h1,b,c⟩:=af3 h;exact⟨r,h1,b,λd=>⟨a.1,a.2,by simp[ky,c d]⟩⟩
   . obtain⟨r,h1,b,c⟩:=af4 h;exact⟨r,h1,b,λd=>⟨a.1,a.2,by simp[ky,c d]⟩⟩
   . obtain⟨r,h1,b,c⟩:=af5 h;exact⟨r,h1,b,λd=>⟨a.1,a.2,by simp[ky,c d]⟩⟩
   . obtain⟨r,h1,b,c⟩:=af6 h;exact⟨r,h1,b,λd=>⟨a.1,a.2,by simp[ky,c d]⟩⟩
 . refine⟨false,?_,?_,λh=>by cases h⟩
   . have e:∀k:Int,1<=k->k<=9->¬t.Kind=k:=λk h1 b e=>a (by omega);simp[gu,e 1,e 2,e 3,e 4,e 5,e 6,e 7,e 8,e 9]
   . have e:(bif decide (t.Kind<1)then true else decide (9<t.Kind))=true:=(by grind);rw[hD,e];rfl
def e9(t:ah):aq:=t.ag.map (·.aw)++(if t.Kind=8 then[t.Key]else[])++(if 7<=t.Kind then[t.aG]else[])
theorem vR{k n:Nat}(a:k<=16){m:Nat}(h:m*24<=reachBytes)(aD:n<=m+2):room k n=true:=by
 unfold room j8 eG;unfold reachBytes at h;simp only[cd,dn];have:(2*n+192)*k<=(2*n+192)*16:=Nat.mul_le_mul_left _ a;omega
theorem Kf(t:ah)(h:t.ag.length*24<=reachBytes):∀(k i:Nat),i+k=t.ag.length->qy (t.ag,(t.ag.length:Int),(i:Int),t,(t.ag.map (·.aw)).take i)=some (t,t.ag.map (·.aw))
 |0,i,a=>by rw[qy,cl,ob (by simp;omega)]
 |k+1,i,a=>by
  have b:=dz (il h);have aB:i<t.ag.length:=by omega
  rw[qy,bu,ad (aQ aB)];simp only[aT,ao,bd];rw[<-h3 (·.aw) t.ag i aE 0 aB,u' _ _ _ (by simpa using aB),bD,ad (vR (m:=t.ag.length) (by omega) h (by simp;omega))];exact Kf t h k (i+1) (by omega)
theorem acb(h:t.ag.length*24<=reachBytes):CH t=some (e9 t):=by
 have h0:=Kf t h t.ag.length 0 (by omega);have a:qy (t.ag,(t.ag.length:Int),0,t,[])=some (t,t.ag.map (·.aw)):=h0;rw[CH,a];unfold e9;simp only[aT,ao];have b:room 8 (t.ag.map (·.aw)++[t.Key]).length=true:=vR (m:=t.ag.length) (by omega) h (by simp);have c:room 8 (t.ag.map (·.aw)++[t.Key]++[t.aG]).length=true:=vR (m:=t.ag.length) (by omega) h (by simp);grind
theorem Kg(t:ah)(h:t.ag.length*24<=reachBytes):∀(k i:Nat),i+k=t.ag.length->q4 ((i:Int),t,(t.ag.map (·.aw)).take i)=some (t,t.ag.map (·.aw))
 |0,i,a=>by rw[q4,cl,ob (by simp;omega)]
 |k+1,i,a=>by
  have b:=dz (il h);have aB:i<t.ag.length:=by omega
  rw[q4,bu,ad (aQ aB)];simp only[aT,ao,bd];rw[<-h3 (·.aw) t.ag i aE 0 aB,u' _ _ _ (by simpa using aB),bD,ad (vR (m:=t.ag.length) (by omega) h (by simp;omega))];exact Kg t h k (i+1) (by omega)
theorem acd(h:t.ag.length*24<=reachBytes)(b:t.Kind<=9):Cg t=some (e9 t):=by
 have h0:=Kg t h t.ag.length 0 (by omega);have a:q4 (0,t,[])=some (t,t.ag.map (·.aw)):=h0;rw[Cg,a];unfold e9;simp only[aT,ao];have c:room 8 (t.ag.map (·.aw)++[t.Key]).length=true:=vR (m:=t.ag.length) (by omega) h (by simp);have d:room 8 (t.ag.map (·.aw)++[t.Key]++[t.aG]).length=true:=vR (m:=t.ag.length) (by omega) h (by simp);grind
theorem ace(k:Int):j3 k=some (ky k):=rfl
def sQ(k:Int):Bool:=bif decide (1<=k)then decide (k<=4)else false
def lq(n:Nat)(u:Int):Bool:=bif decide (u<0)then true else decide ((n:Int)<=u)
def rG(ts:List ah)(i:Nat):Option Int:=
 let t:=ts.getD i aN
 if !((gu t).getD false)then some 1 else if !(decide (t.Name=[]))&&((ts.map (·.Name)).take i).contains t.Name then some 1 else if(e9 t).any (lq ts.length)then some 4 else if decide (t.Kind=8) && !(sQ (ts.getD t.Key.toNat aN).Kind)then some 1 else none
theorem It{i:Nat}{r:Bool}(c7:ts.getD i aN=t)(f1:gu t=some r):
 rG ts i=if !r then some 1 else if !(t.Name=[]:Bool)&&((ts.map (·.Name)).take i).contains t.Name then some 1 else if(e9 t).any (lq ts.length) then some 4 else if((t.Kind=8:Bool) && !(sQ (ts.getD t.Key.toNat aN).Kind)) then some 1 else none:=by
 subst c7;unfold rG;simp only[f1,lo]
theorem L9{e:Type}(L:Nat->Option e)(l:aq)(q:Int->Bool)(a b:e)(o:∀i,i<l.length->L i=if q (l.getD i 0)then some a else L (i+1))(g:L l.length=some b):
 L 0=some (if l.any q then a else b):=by
 have:=scan L l.length (λi=>!(q (l.getD i 0))) a b (λi n=>by grind) g;rcases this with⟨h1,c⟩|⟨h1,j,c,f⟩
 . rw[h1,ak];intro h;rw[wh]at h;obtain⟨x,m,k⟩:=h;obtain⟨j,d,he⟩:=eZ m;have:=c j d;rw[dv d,he,k]at this;cases this
 . rw[h1,ad];rw[wh];refine⟨l.getD j 0,bk c 0,by simpa using f⟩
theorem K5(h:t.ag.length*24<=reachBytes):(e9 t).length<9223372036854775807:=by
 unfold e9 reachBytes at*;grind
theorem ada{L:Nat->Option (Int ⊕ Unit)}{n:Nat}{step:Nat->Option Int}
 (h:∀i,i<n->L i=match step i with|some e=>some (.inl e)|none=>L (i+1))(he:L n=some (.inr ()))
 (j:∀i,i<n->L' i=match step i with|some e=>some (.inl e)|none=>L' (i+1))(l:L' n=some (.inr ())):∃o,L 0=some o/\L' 0=some o/\((o= .inr ()/\∀i,i<n->step i=none)\/∃i e,i<n/\step i=some e/\o= .inl e):=by
 have key:∀k i,i+k=n->∃o,L i=some o/\L' i=some o/\((o= .inr ()/\∀m,i<=m->m<n->step m=none)\/∃m e,m<n/\step m=some e/\o= .inl e):=by
  intro k;induction k with
  |zero=> intro i c; have:i = n:= by omega
          subst this;exact⟨_,he,l,.inl ⟨rfl,λm h1 q=>by omega⟩⟩
  |succ k ih=>
   intro i c;rw[h i (by omega),j i (by omega)];cases p:step i with
   |some e=>exact⟨_,rfl,rfl,.inr ⟨i,e,by omega,p,rfl⟩⟩
   |none=>
    obtain⟨o,d,f,g⟩:=ih (i+1) (by omega);grind
 obtain⟨o,d,f,g⟩:=key n 0 (by omega);refine⟨o,d,f,?_⟩;rcases g with⟨a,b⟩|h
 . exact .inl ⟨a,λi c=>b i (h' _) c⟩
 . exact .inr h
theorem OQ(a:(e9 t).any (lq ts.length)=false)(b:t.Kind=8):aH t.Key ts.length=true:=by
 have c:t.Key∈e9 t:=by unfold e9;simp[b]
 rw[Fm]at a;have:=a _ c;unfold lq at this;unfold aH;grind
theorem adb(ts:List ah)(t:ah)(i:Nat)(e:i<ts.length)(f:ts.length<9223372036854775807):
 nj ((i:Int),0,ts,t.Kind,t.Name,t.bA,t.bC,t.Max,t.bg,t.ag,t.Key,t.aG,t.Open)=some (if(ky t.Kind&&((ts.map (·.Name)).take i).contains t.Name) then .inl 1 else .inr ((i:Int),ts,t.Kind,t.Name,t.bA,t.bC,t.Max,t.bg,t.ag,t.Key,t.aG,t.Open)):=by
 have d:=scan (λk=>nj ((i:Int),(k:Int),ts,t.Kind,t.Name,t.bA,t.bC,t.Max,t.bg,t.ag,t.Key,t.aG,t.Open)) i (λk=>!(bif ky t.Kind then decide ((ts.getD k aN).Name=t.Name)else false)) (.inl 1) (.inr ((i:Int),ts,t.Kind,t.Name,t.bA,t.bC,t.Max,t.bg,t.ag,t.Key,t.aG,t.Open))
  (λk c=>by
   rw[nj,bu,ace];simp only[aT,ao];rw[ad (by rw[aQ (show k<ts.length by omega)];rfl),bD,bd]
   grind)
  (by rw[nj,bt])
 have cX:nj ((i:Int),((0:Nat):Int),ts,t.Kind,t.Name,t.bA,t.bC,t.Max,t.bg,t.ag,t.Key,t.aG,t.Open)=nj ((i:Int),0,ts,t.Kind,t.Name,t.bA,t.bC,t.Max,t.bg,t.ag,t.Key,t.aG,t.Open):=rfl;simp only[cX]at d;rcases d with⟨h1,b⟩|⟨h1,j,b,a⟩
 . rw[h1,ak];rw[cd,pP]
   rintro ⟨aD,k,c,he⟩
   rw[h3 (·.Name) ts k aN [] (by omega)]at he;have:=b k c;rw[aD,he]at this;simp at this
 . rw[h1,ad];rw[cd,pP];cases aD:ky t.Kind with
   |false=>rw[aD]at a;cases a
   |true=>
    refine⟨rfl,j,b,?_⟩;rw[h3 (·.Name) ts j aN [] (by omega)];rw[aD]at a;simpa using a
theorem ade(ts:List ah)(t:ah)(i:Nat)(l:aq)(af:l.length<9223372036854775807):
 qY ((i:Int),l,0,ts,t.Kind,t.Name,t.bA,t.bC,t.Max,t.bg,t.ag,t.Key,t.aG,t.Open)=some (if l.any (lq ts.length) then .inl 4 else .inr ((i:Int),ts,t.Kind,t.Name,t.bA,t.bC,t.Max,t.bg,t.ag,t.Key,t.aG,t.Open)):=
 L9 (λj=>qY ((i:Int),l,(j:Int),ts,t.Kind,t.Name,t.bA,t.bC,t.Max,t.bg,t.ag,t.Key,t.aG,t.Open)) l (lq ts.length) (.inl 4) (.inr ((i:Int),ts,t.Kind,t.Name,t.bA,t.bC,t.Max,t.bg,t.ag,t.Key,t.aG,t.Open))
  (λj a=>by
   rw[qY,bu,ad (aQ a)];simp only[aT,ao];rw[ad (by rw[aQ a];rfl),bD]
   rfl)
  (by rw[qY,bt])
theorem Y7{s:aR}(hs:s.Types.length<=reachBytes)(ht:∀t,t∈s.Types->eX t):∃e,pT s=some e/\vq s=some e/\(e=0->s.Types.length<=32/\∀i,i<s.Types.length->rG s.Types i=none)/\((s.Types.length<=32/\∀i,i<s.Types.length->rG s.Types i=none)->e=0)/\e≠12:=by
 rw[pT,vq];by_cases C:32<s.Types.length
 . exact⟨3,by rw[bu],by rw[bu],λh=>(by cases h),λh=>absurd h.1 (by omega),by decide⟩
 . rw[cl,cl];have y:s.Types.length<9223372036854775807:=(by omega);have:=ada (L:=λi=>ri (s.Types,(s.Types.length:Int),(i:Int),s.Types,kQ ((s.Types.map (·.Name)).take i))) (L':=λi=>oY ((i:Int),s.Types)) (n:=s.Types.length) (step:=rG s.Types)
    (λi a=>by
     have b:=ht _ (bk a aN);obtain⟨r,f1,f2,f3⟩:=JK b;rw[ri,bu,ad (aQ a)];simp only[aT,ao,bd];generalize c7:s.Types.getD i aN=t at*;rw[It c7 f1,f1];simp only[ao,Kb];cases r with
     |false=>rw[ad (show(bif (!false)then true else bif (!(decide (t.Name=[])))then((s.Types.map (·.Name)).take i).contains t.Name else false)=true from rfl),ad (show(!false)=true from rfl)]
     |true=>
      rw[ak (show ¬((!true)=true) by simp)];by_cases k:(!(decide (t.Name=[]))&&((s.Types.map (·.Name)).take i).contains t.Name)=true
      . grind
      . have v:¬((bif (!(decide (t.Name=[])))then((s.Types.map (·.Name)).take i).contains t.Name else false)=true):=(by grind);rw[ak (show ¬((bif (!true)then true else bif (!(decide (t.Name=[])))then((s.Types.map (·.Name)).take i).contains t.Name else false)=true)from v),ak k,acb b.gQ];simp only[ao];have D:=K5 b.gQ;have w:=L9 (λj=>pa (s.Types,(s.Types.length:Int),(i:Int),e9 t,((e9 t).length:Int),(j:Int),s.Types,iR (kQ ((s.Types.map (·.Name)).take i)) t.Name,t.Kind,t.Name,t.bA,t.bC,t.Max,t.bg,t.ag,t.Key,t.aG,t.Open)) (e9 t) (lq s.Types.length) (.inl 4)
         (.inr (s.Types,(s.Types.length:Int),(i:Int),s.Types,iR (kQ ((s.Types.map (·.Name)).take i)) t.Name,t.Kind,t.Name,t.bA,t.bC,t.Max,t.bg,t.ag,t.Key,t.aG,t.Open))
         (λj x=>by
          rw[pa,bu,ad (aQ x),bD]
          rfl)
         (by rw[pa,bt])
        have cX:pa (s.Types,(s.Types.length:Int),(i:Int),e9 t,((e9 t).length:Int),((0:Nat):Int),s.Types,iR (kQ ((s.Types.map (·.Name)).take i)) t.Name,t.Kind,t.Name,t.bA,t.bC,t.Max,t.bg,t.ag,t.Key,t.aG,t.Open)=pa (s.Types,(s.Types.length:Int),(i:Int),e9 t,((e9 t).length:Int),0,s.Types,iR (kQ ((s.Types.map (·.Name)).take i)) t.Name,t.Kind,t.Name,t.bA,t.bC,t.Max,t.bg,t.ag,t.Key,t.aG,t.Open):=rfl;rw[<-cX,w];cases f:(e9 t).any (lq s.Types.length)with
        |true=>rfl
        |false=>
         simp only[bV,b6,ao];have z:iR (kQ ((s.Types.map (·.Name)).take i)) t.Name=kQ ((s.Types.map (·.Name)).take (i+1)):=by
          have h1:=Kc (l:=s.Types.map (·.Name)) (i:=i) (by simpa using a);grind
         rw[z,bD];by_cases c:t.Kind=8
         . have d:=OQ f c;rw[ad (by rw[d];rfl),ad (by rw[d];rfl)];simp only[c,dq,eo,mJ,sQ];grind
         grind)
    (by rw[ri,bt])
    (λi a=>by
     have b:=ht _ (bk a aN);obtain⟨r,f1,f2,f3⟩:=JK b;rw[oY,bu,ad (aQ a)];simp only[aT,ao,bd];generalize c7:s.Types.getD i aN=t at*;rw[It c7 f1,f2,adb s.Types t i a y];simp only[ao];cases r with
     |false=>rfl
     |true=>
      obtain⟨E,A,B⟩:=f3 rfl;rw[ak (show ¬((!true)=true) by simp),ak (show ¬((!true)=true) by simp),B];cases k:(!(decide (t.Name=[]))&&((s.Types.map (·.Name)).take i).contains t.Name)with
      |true=>rfl
      |false=>
       simp only[bV,b6,Dh];rw[acd b.gQ A];simp only[ao];rw[ade s.Types t i (e9 t) (K5 b.gQ)];cases f:(e9 t).any (lq s.Types.length)with
       |true=>rfl
       |false=>
        simp only[bV,b6,ao];rw[bD];by_cases c:t.Kind=8
        . have d:=OQ f c;rw[ad (by rw[d];rfl)];simp only[c,dq,bS,yz,ao,eo,mJ];show(if !(sQ (s.Types.getD t.Key.toNat aN).Kind) then some (.inl 1)else oY (((i+1:Nat):Int),s.Types))=_;grind
        grind)
    (by rw[oY,bt])
   obtain⟨o,h1,p,u⟩:=this;have m:ri (s.Types,(s.Types.length:Int),0,s.Types,[])=some o:=h1;have q:oY (0,s.Types)=some o:=p;rw[m,q];rcases u with⟨rfl,g⟩|⟨i,e,g,ba,rfl⟩
   . simp_all
   . refine⟨_,rfl,rfl,λh0=>?_,λh=>(by have:=h.2 i g;rw[ba]at this;cases this),λh=>?_⟩
     . exfalso;subst h0;unfold rG at ba;grind
     . subst h;unfold rG at ba;grind
theorem qM{d:Type}(L:Nat->Option d)(n:Nat)(q:Nat->Bool)(a:Nat->d)(c:d)(g:∀i,i<n->L i=if q i then some (a i)else L (i+1))(e:L n=some c):
 (∃j,j<n/\q j=true/\(∀k,k<j->q k=false)/\L 0=some (a j))\/((∀k,k<n->q k=false)/\L 0=some c):=by
 have key:∀k i,i+k=n->(∀m,m<i->q m=false)->L 0=L i->(∃j,j<n/\q j=true/\(∀k,k<j->q k=false)/\L 0=some (a j))\/((∀k,k<n->q k=false)/\L 0=some c):=by
  intro k;induction k with
  |zero=> intro i f b h0; have:i = n:= by omega
          subst this;exact .inr ⟨b,by rw[h0,e]⟩
  |succ k ih=>
   intro i f b h0;rw[g i (by omega)]at h0;grind
 exact key n 0 (by omega) (λm b=>by omega) rfl
def tk(l:List aS)(id:Int)(r:Int×Bool):Prop:=(∃j:Nat,j<l.length/\(l.getD j aE).ae=id/\(∀k,k<j->(l.getD k aE).ae≠id)/\r=((j:Int),true))\/((∀k,k<l.length->(l.getD k aE).ae≠id)/\r=(0,false))
theorem Gn{l:List aS}{r q:Int×Bool}(h1:tk l id r)(a:tk l id q):r=q:=by
 rcases h1 with⟨j,a1,a2,a3,rfl⟩|⟨a1,rfl⟩<;>rcases a with⟨k,b1,b2,b3,rfl⟩|⟨b1,rfl⟩
 . grind
 . grind
 . grind
 . rfl
theorem vB(af:t.ag.length<9223372036854775807):∃r,ha (t,id)=some r/\tk t.ag id r:=by
 rw[ha,F1];have h:=qM (λi=>pc (t.ag,(t.ag.length:Int),(i:Int),id)) t.ag.length (λi=>decide ((t.ag.getD i aE).ae=id)) (λi=>.inl ((i:Int),id)) (.inr id)
  (λi e=>by
   rw[pc,bu,ad (aQ e)];simp only[aT,ao,bd,jw,FV]
   rw[bD])
  (by rw[pc,bt])
 have cX:pc (t.ag,(t.ag.length:Int),((0:Nat):Int),id)=pc (t.ag,(t.ag.length:Int),0,id):=rfl;simp only[cX]at h;rcases h with⟨j,h1,c,d,a⟩|⟨h1,a⟩
 . rw[a];refine⟨((j:Int),true),?_,.inl ⟨j,h1,by simpa using c,λk b=>by simpa using d k b,rfl⟩⟩;have aK:iv (j:Int) 0=(j:Int):=by unfold iv;omega
   simp_all
 . rw[a];exact⟨(0,false),rfl,.inr ⟨λk b=>by simpa using h1 k b,rfl⟩⟩
theorem BT(af:t.ag.length<9223372036854775807):∃r,hA (t,id)=some r/\tk t.ag id r:=by
 rw[hA];have h:=qM (λi=>oT (id,(i:Int),t)) t.ag.length (λi=>decide ((t.ag.getD i aE).ae=id)) (λi=>.inl ((i:Int),true)) (.inr ())
  (λi e=>by
   rw[oT,bu,ad (aQ e),bD]
   grind)
  (by rw[oT,bt])
 have cX:oT (id,((0:Nat):Int),t)=oT (id,0,t):=rfl;simp only[cX]at h;rcases h with⟨j,h1,c,d,a⟩|⟨h1,a⟩
 . rw[a];exact⟨((j:Int),true),rfl,.inl ⟨j,h1,by simpa using c,λk b=>by simpa using d k b,rfl⟩⟩
 . rw[a];exact⟨(0,false),rfl,.inr ⟨λk b=>by simpa using h1 k b,rfl⟩⟩
theorem mx(id:Int)(af:t.ag.length<9223372036854775807):∃r,ha (t,id)=some r/\hA (t,id)=some r/\tk t.ag id r:=by
 obtain⟨r,h1,a⟩:=vB (id:=id) af;obtain⟨q,c,b⟩:=BT (id:=id) af;have:=Gn a b;grind
def vS(l:List c4)(id:Int)(r:Int×Bool):Prop:=(∃j:Nat,j<l.length/\(l.getD j dL).ae=id/\(∀k,k<j->(l.getD k dL).ae≠id)/\r=((j:Int),true))\/((∀k,k<l.length->(l.getD k dL).ae≠id)/\r=(0,false))
theorem X1{l:List c4}{r q:Int×Bool}(h1:vS l id r)(a:vS l id q):r=q:=by
 rcases h1 with⟨j,a1,a2,a3,rfl⟩|⟨a1,rfl⟩<;>rcases a with⟨k,b1,b2,b3,rfl⟩|⟨b1,rfl⟩
 . grind
 . grind
 . grind
 . rfl
theorem qF(id:Int)(af:t.bg.length<9223372036854775807):∃r,sM (t,id)=some r/\sk (t,id)=some r/\vS t.bg id r:=by
 rw[sM,F0,sk];have h:=qM (λi=>nd (t.bg,(t.bg.length:Int),(i:Int),id)) t.bg.length (λi=>decide ((t.bg.getD i dL).ae=id)) (λi=>.inl ((i:Int),id)) (.inr id)
  (λi f=>by
   rw[nd,bu,ad (aQ f)];simp only[aT,ao,bd,Gm]
   rw[bD])
  (by rw[nd,bt])
 have cX:nd (t.bg,(t.bg.length:Int),((0:Nat):Int),id)=nd (t.bg,(t.bg.length:Int),0,id):=rfl;have g:=qM (λi=>nL (id,(i:Int),t)) t.bg.length (λi=>decide ((t.bg.getD i dL).ae=id)) (λi=>.inl ((i:Int),true)) (.inr ())
  (λi f=>by
   rw[nL,bu,ad (aQ f),bD]
   grind)
  (by rw[nL,bt])
 have m:nL (id,((0:Nat):Int),t)=nL (id,0,t):=rfl;simp only[cX]at h;simp only[m]at g;have n:∃r,(nd (t.bg,(t.bg.length:Int),0,id)>>=λo=>match o with|.inl c=>some (c.1,c.2)|.inr l=>some ((-1),l))>>=(λr=>some (iv r.1 0,decide (0<=r.1)))=some r/\vS t.bg id r:=by
  rcases h with⟨j,h1,d,e,a⟩|⟨h1,a⟩
  . rw[a];refine⟨((j:Int),true),?_,.inl ⟨j,h1,by simpa using d,λk b=>by simpa using e k b,rfl⟩⟩;have aK:iv (j:Int) 0=(j:Int):=by unfold iv;omega
    simp_all
  . rw[a];exact⟨(0,false),rfl,.inr ⟨λk b=>by simpa using h1 k b,rfl⟩⟩
 have dm:∃r,(nL (id,0,t)>>=λo=>match o with|.inl c=>some (c.1,c.2)|.inr l=>some (0,false))=some r/\vS t.bg id r:=by
  rcases g with⟨j,h1,d,e,a⟩|⟨h1,a⟩
  . rw[a];exact⟨((j:Int),true),rfl,.inl ⟨j,h1,by simpa using d,λk b=>by simpa using e k b,rfl⟩⟩
  . rw[a];exact⟨(0,false),rfl,.inr ⟨λk b=>by simpa using h1 k b,rfl⟩⟩
 obtain⟨r,a1,a2⟩:=n;obtain⟨q,b1,b2⟩:=dm;have:=X1 a2 b2;grind
def gf(n:Int):Int:=if 0<=n then 2*n else -2*n-1
theorem MB{a b:Int}(h:gf a=gf b):a=b:=by
 unfold gf at h;split at h<;>split at h<;>omega
def cw(n:Int):Prop:= -9223372036854775808<=n/\n<=9223372036854775807
theorem tl{n:Int}(h:cw n):vk n=some (gf n):=by
 obtain⟨h1,f⟩:=h;rw[vk];unfold gf;by_cases h0:0<=n
 . rw[ad (by simp[h0]),ad h0];obtain⟨k,rfl⟩:∃k:Nat,n=(k:Int):=⟨n.toNat,by omega⟩
   rw[hv];have:=tJ (a:=2) (b:=k) (by omega);grind
 . rw[ak (by simp[h0]),ak h0];rw[j',hG];obtain⟨k,e⟩:∃k:Nat,0-(n+1)=(k:Int):=⟨(0-(n+1)).toNat,by omega⟩
   rw[e,hv];have c:=tJ (a:=2) (b:=k) (by omega);have d:gw .u64 2 (k:Int)=((2*k:Nat):Int):=c;rw[d];have g:=rY (a:=2*k) (b:=1) (by omega);grind
theorem abM(a:Nat)(h:a<18446744073709551616):ub .u64 (a:Int) 0=(a:Int):=by
 have e:(BitVec.ofInt 64 (a:Int) ^^^ BitVec.ofInt 64 (0:Int)).toNat=a:=by grind
 show IntKind.u64.wrap (((BitVec.ofInt 64 (a:Int) ^^^ BitVec.ofInt 64 (0:Int)).toNat:Nat):Int)=_;rw[e];exact kS
theorem abN(a:Nat)(h:a<18446744073709551616):ub .u64 (a:Int) 18446744073709551615=((18446744073709551615-a:Nat):Int):=by
 have e:(BitVec.ofInt 64 (a:Int) ^^^ BitVec.ofInt 64 (18446744073709551615:Int)).toNat=18446744073709551615-a:=by
  have h1:BitVec.ofInt 64 (18446744073709551615:Int)=BitVec.allOnes 64:=by decide
  rw[h1,wq,BitVec.xor_allOnes,BitVec.toNat_not,wg,wH,og h]
 all_goals (try omega)
 show IntKind.u64.wrap (((BitVec.ofInt 64 (a:Int) ^^^ BitVec.ofInt 64 (18446744073709551615:Int)).toNat:Nat):Int)=_;rw[e];exact kS
theorem agO{n:Int}(h:cw n):lr .i64 n 63=if 0<=n then 0 else -1:=by
 obtain⟨h1,a⟩:=h;unfold lr;have e:((2:Int)^min (63:Int).toNat IntKind.i64.bits)=9223372036854775808:=by decide
 grind
theorem D5{n:Int}(h:cw n):uV n=some (gf n):=by
 rw[uV,agO h];obtain⟨h1,a⟩:=h;unfold gf;have hs:∀m:Int,mO .u64 m 1=IntKind.u64.wrap (m*2):=by
  intro m;unfold mO;rfl
 rw[hs]
 congr 1
 by_cases h0:0<=n
 . rw[ad h0,ad h0];obtain⟨k,rfl⟩:∃k:Nat,n=(k:Int):=⟨n.toNat,by omega⟩
   rw[hv,kS];have:bW .u64 0=0:=(by decide);rw[this];have:=abM (2*k) (by omega);grind
 . rw[ak h0,ak h0];have:bW .u64 (-1)=18446744073709551615:=(by decide);rw[this];obtain⟨k,b⟩:∃k:Nat,n+9223372036854775808=(k:Int):=⟨(n+9223372036854775808).toNat,by omega⟩
   have e:IntKind.u64.wrap (bW .u64 n*2)=((2*k:Nat):Int):=by
    unfold bW;rw[IntKind.wrap_u64,IntKind.wrap_u64];omega
   rw[e,abN _ (by omega)];omega
theorem aeb(a b:Int):CI (a,b)=some (if a<b then -1 else if b<a then 1 else 0):=by
 rw[CI];simp only[DF,aT,ao,dq,dp,bV,b6];grind
theorem Pa(a b:Int):za (a,b)=some (if a<b then -1 else if b<a then 1 else 0):=by
 rw[za];simp only[CJ,aT,ao,dq,dp,bV,b6];grind
theorem aec(a b:aj):C0 (a,b)=some (if Op.bytesLess a b then -1 else if(Op.bytesLess a b||(a=b:Bool))then 0 else 1):=by
 rw[C0];simp only[CK,aT,ao,dq,dp,bV,b6];grind
theorem agy(a b:Int):D4 [a,b]=some (if a≠0 then a else b):=by
 rw[D4];have h0:qL (0,[a,b],((2:Nat):Int),((0:Nat):Int))=if a≠0 then some (.inl a)else(if b≠0 then some (.inl b)else some (.inr 0)):=by
  rw[qL,ad (by decide),ad (show aH ((0:Nat):Int) ([a,b]:aq).length=true from aQ (k:=0) (n:=2) (by omega))];simp only[aT,ao,bd,kf];by_cases c:a=0
  . rw[ak (by simp[c]),ak (by simp[c])];have aK:aM .i64 ((0:Nat):Int) 1=((1:Nat):Int):=bD;rw[aK,qL,ad (by decide),ad (show aH ((1:Nat):Int) ([a,b]:aq).length=true from aQ (k:=1) (n:=2) (by omega))];simp only[aT,ao,bd,ye,kf];by_cases d:b=0
    . rw[ak (by simp[d]),ak (by simp[d])];have e:aM .i64 ((1:Nat):Int) 1=((2:Nat):Int):=bD;rw[e,qL,ak (by decide)]
    grind
  grind
 grind
theorem Te:∀a:aj,Op.bytesLess a a=false
 |[]=>rfl
 |x::r=>by
  simp[Op.bytesLess,Te r]
theorem CA{a b:I}(f:cw a.bc)(g:cw b.bc):∃r,pO (a,b)=some r/\nP (a,b)=some r:=by
 rw[pO,nP];by_cases i:a.Kind=b.Kind
 . rw[ak (show ¬((!(decide (a.Kind=b.Kind)))=true) by simp[i]),ak (show ¬((!(decide (a.Kind=b.Kind)))=true) by simp[i])];by_cases c:a.Kind=1
   . rw[ad (show decide (a.Kind=1)=true by simp[c]),ad (show decide (a.Kind=1)=true by simp[c])];simp only[kD];cases ft a.bL b.bL<;>cases b.bL<;>exact⟨_,rfl,rfl⟩
   . rw[ak (show ¬(decide (a.Kind=1)=true) by simp[c]),ak (show ¬(decide (a.Kind=1)=true) by simp[c])];by_cases d:a.Kind=2
     . rw[ad (show decide (a.Kind=2)=true by simp[d]),ad (show decide (a.Kind=2)=true by simp[d]),D5 f,D5 g,tl f,tl g];simp only[aT,ao,aeb,kD];by_cases he:a.bc=b.bc
       . grind
       . have l:gf a.bc≠gf b.bc:=λh=>he (MB h);grind
     . rw[ak (show ¬(decide (a.Kind=2)=true) by simp[d]),ak (show ¬(decide (a.Kind=2)=true) by simp[d])];by_cases e:a.Kind=3
       . rw[ad (show decide (a.Kind=3)=true by simp[e]),ad (show decide (a.Kind=3)=true by simp[e])];simp only[aT,ao,Pa,aec,agy,kD];by_cases af:a.bn.length=b.bn.length
         . have k:¬((!(decide ((a.bn.length:Int)=(b.bn.length:Int))))=true):=by simp;omega
           rw[ak k,af];have aK:¬((b.bn.length:Int)<(b.bn.length:Int)):=(by omega);simp only[aK,b6,ne_eq,not_true_eq_false];by_cases he:a.bn=b.bn
           . rw[he,Te];grind
           grind
         grind
       . rw[ak (show ¬(decide (a.Kind=3)=true) by simp[e]),ak (show ¬(decide (a.Kind=3)=true) by simp[e])];by_cases j:a.Kind=4
         . rw[ad (show decide (a.Kind=4)=true by simp[j]),ad (show decide (a.Kind=4)=true by simp[j])];simp only[aT,ao,Pa,kD];grind
         simp_all
 simp_all
def Kq(a b:Option Bool):Prop:=∃r,a=some r/\b=some r
theorem Hq {b c:Type}(L:Nat->Option (Bool ⊕ b))(L':Nat->Option (Bool ⊕ c))(n:Nat)(p:Nat->Bool)(g:b)(a:c)
 (h:∀i,i<n->L i=if p i then L (i+1)else some (.inl false))(he:L n=some (.inr g))
 (d:∀i,i<n->L' i=if p i then L' (i+1)else some (.inl false))(e:L' n=some (.inr a)):
 (L 0=some (.inr g)/\L' 0=some (.inr a)/\∀j,j<n->p j=true)\/(L 0=some (.inl false)/\L' 0=some (.inl false)/\∃j,j<n/\p j=false):=by
 rcases scan L n p (.inl false) (.inr g) h he with⟨a1,a2⟩|⟨a1,j,a2,a3⟩<;>rcases scan L' n p (.inl false) (.inr a) d e with⟨b1,b2⟩|⟨b1,k,b2,b3⟩
 . exact .inl ⟨a1,b1,a2⟩
 . have:=a2 k b2;rw[b3]at this;cases this
 . have:=b2 j a2;rw[a3]at this;cases this
 . exact .inr ⟨a1,b1,j,a2,a3⟩
def n3(k:Int):Prop:=1<=k/\k<=9
theorem X2(a:n3 v.Kind):∃p,C9 v=some p/\sG v=some p/\(p=true->v.Kind≠5->v.Kind≠6->v.Rest=[]):=by
 obtain⟨K,B,cy,S,ae,c,b,R⟩:=v;simp only at a;rw[C9,I.aU,sG];have:K=1\/K=2\/K=3\/K=4\/K=5\/K=6\/K=7\/K=8\/K=9:=by unfold n3 at a;omega
 have d:∀(x:Int),decide (x=x)=true:=λx=>by simp
 rcases this with rfl|rfl|rfl|rfl|rfl|rfl|rfl|rfl|rfl
 all_goals
  refine⟨_,rfl,?_,?_⟩
  . simp[CV,ft]
    try (cases B<;>simp)
  . simp[CV,ft]
section
variable {ts:List ah}(aD:ts.length<9223372036854775807)(c7:∀t,t∈ts->eX t)(bH:∀t,t∈ts->n3 t.Kind)
def Fit(ts:List ah)(x:I):Prop:=∀t plain,Kq (j5 ((⟨ts⟩:aR),t,x,plain)) (iH ((⟨ts⟩:aR),t,x,plain))
theorem K6{l:List I}(af:l.length<=reachBytes)(ih:∀x,x∈l->Fit ts x)(t:Int)(plain:Bool):
 Kq (qJ ((⟨ts⟩:aR),t,l,plain)) (ns ((⟨ts⟩:aR),t,l,plain)):=by
 have g:=dz af;let p:Nat->Bool:=λi=>(j5 ((⟨ts⟩:aR),t,l.getD i au,plain)).getD false;have c:∀i,i<l.length->j5 ((⟨ts⟩:aR),t,l.getD i au,plain)=some (p i)/\iH ((⟨ts⟩:aR),t,l.getD i au,plain)=some (p i):=by
  intro i a;obtain⟨r,h1,f⟩:=ih _ (bk a au) t plain;grind
 have b:=qM (λi=>qm (l,(l.length:Int),(i:Int),ts,t,plain)) l.length (λi=>!(p i)) (λi=>.inl ((i:Int),ts,t,plain)) (.inr (ts,t,plain))
  (λi a=>by
   rw[qm,bu,ad (aQ a),Gv];simp only[I.aU,bd];rw[(c i a).1,bD]
   rfl)
  (by rw[qm,bt])
 have hs:=scan (λi=>kA (t,l,plain,(i:Int),ts)) l.length p (.inl false) (.inr ())
  (λi a=>by
   rw[kA,bu,ad (aQ a)];simp only[I.aU,bd];rw[(c i a).2,bD]
   grind)
  (by rw[kA,bt])
 have aK:qm (l,(l.length:Int),((0:Nat):Int),ts,t,plain)=qm (l,(l.length:Int),0,ts,t,plain):=rfl;have d:kA (t,l,plain,((0:Nat):Int),ts)=kA (t,l,plain,0,ts):=rfl;simp only[aK]at b;simp only[d]at hs;rw[qJ,Cm,F3,ns];rcases b with⟨j,a1,a2,a3,a4⟩|⟨a1,a4⟩<;>rcases hs with⟨b1,b2⟩|⟨b1,k,b2,b3⟩
 . have:=b2 j a1;simp[this]at a2
 . rw[a4,b1];refine⟨false,?_,rfl⟩;have e:decide ((0:Int)<=(j:Int))=true:=(by simp);simp only[aT,ao,e,dp]
 . rw[a4,b1];exact⟨true,rfl,rfl⟩
 . have:=a1 k b2;simp[b3]at this
def FG(t:ah)(l:List bY)(i:Nat):Bool:=
 !((ha (t,(l.getD i bX).ae)).getD (0,false)).2&&(decide (1<=(l.getD i bX).ae)&&decide ((l.getD i bX).ae<=1000))&&(decide (i=0)||decide ((l.getD (i-1) bX).ae<(l.getD i bX).ae))
theorem abO{l:Type}(fQ f b:Bool)(a:Int)(e C:Int->Bool)(g i:Option l)(j:b=true->e a=true):
 ((if !fQ then some f else some false)>>=λk=>some (bif fQ then true else(!k))>>=λt131=>some b>>=λt134=>some a>>=λt141=>
  if(e t141||(!((!t131)&&t134))) then if(bif t131 then true else bif t134 then C t141 else false) then g else i else none)=if !fQ&&f&&(!b || !(C a)) then i else g:=by
 simp only[aT,ao];generalize C a=c;cases b with
 |true=>rw[j rfl];cases fQ<;>cases f<;>cases c<;>rfl
 |false=>generalize e a=d;cases fQ<;>cases f<;>cases d<;>cases c<;>rfl
theorem Jt{n:Type}(b g e:Bool)(a:Int)(f C:Int->Bool)(i j:Option n)(k:g=true)(l:e=true->f a=true):
 (some b>>=λm=>some (!m)>>=λt31=>some e>>=λt34=>
  if(g||(!((!t31)&&t34))) then some a>>=λt43=>if(f t43||(!((!t31)&&t34))) then if(bif t31 then true else bif t34 then C t43 else false) then i else j else none else none)=if(b&&(!e || !(C a))) then j else i:=by
 subst k;simp only[aT,ao];generalize C a=c;cases e with
 |true=>rw[l rfl];cases b<;>cases c<;>rfl
 |false=>generalize f a=d;cases b<;>cases d<;>cases c<;>rfl
theorem qN{i:Nat}(h:0<i)(a:i<9223372036854775807):df .i64 (i:Int) 1=((i-1:Nat):Int):=by
 rw[hG];omega
theorem agG(ht:t.ag.length<9223372036854775807)(v:I)(af:v.Rest.length<=reachBytes)(plain:Bool)(ts:List ah):
 let inr:=(plain,ts,v.Kind,v.bL,v.bc,v.bn,v.ae,v.av,v.ai,v.Rest,t.Kind,t.Name,t.bA,t.bC,t.Max,t.bg,t.ag,t.Key,t.aG,t.Open)
 ((k5 (plain,v.Rest,(v.Rest.length:Int),0,ts,v,t.Kind,t.Name,t.bA,t.bC,t.Max,t.bg,t.ag,t.Key,t.aG,t.Open)=some (.inr inr)/\re (t,v.Rest)=some true)\/
  (k5 (plain,v.Rest,(v.Rest.length:Int),0,ts,v,t.Kind,t.Name,t.bA,t.bC,t.Max,t.bg,t.ag,t.Key,t.aG,t.Open)=some (.inl false)/\re (t,v.Rest)=some false)):=by
 intro inr;have k:=dz af;have d:∀i,i<v.Rest.length->∀r,ha (t,(v.Rest.getD i bX).ae)=some r->FG t v.Rest i=(!r.2&&(bif decide (1<=(v.Rest.getD i bX).ae)then decide ((v.Rest.getD i bX).ae<=1000)else false)&&(!(decide ((0:Int)<(i:Int))) || !(decide ((v.Rest.getD i bX).ae<=(v.Rest.getD (df .i64 (i:Int) 1).toNat bX).ae)))):=by
  intro i a r g;unfold FG;rw[g,lo];generalize (v.Rest.getD i bX).ae=x;by_cases h0:i=0
  . grind
  . have c:decide ((0:Int)<(i:Int))=true:=by simp;omega
    rw[c,qN (by omega) (by omega),bd];grind
 have h:=Hq (λi=>k5 (plain,v.Rest,(v.Rest.length:Int),(i:Int),ts,v,t.Kind,t.Name,t.bA,t.bC,t.Max,t.bg,t.ag,t.Key,t.aG,t.Open)) (λi=>j2 (v.Rest,(i:Int),t)) v.Rest.length (FG t v.Rest) inr ()
  (λi a=>by
   obtain⟨r,h1,_,_⟩:=mx (t:=t) (v.Rest.getD i bX).ae ht;rw[k5,bu,ad (aQ a),d i a r h1];simp only[bd,Dh,I.aU,yT,aT,ao];rw[h1,bD]
   exact abO r.2 (bif decide (1<=(v.Rest.getD i bX).ae)then decide ((v.Rest.getD i bX).ae<=1000)else false) (decide ((0:Int)<(i:Int))) (df .i64 (i:Int) 1) (λj=>aH j v.Rest.length) (λj=>decide ((v.Rest.getD i bX).ae<=(v.Rest.getD j.toNat bX).ae)) _ _ (λc=>by
    have:0<i:=by simp at c;omega
    show aH _ _=true
    rw[qN this (by omega)];exact aQ (by omega)))
  (by rw[k5,bt])
  (λi a=>by
   obtain⟨r,h1,b,_⟩:=mx (t:=t) (v.Rest.getD i bX).ae ht;rw[j2,bu,ad (aQ a),d i a r h1];simp only[bd];rw[b,bD];have f:jt ((v.Rest.getD i bX).ae,r.2)=some ((!r.2)&&(bif decide (1<=(v.Rest.getD i bX).ae)then decide ((v.Rest.getD i bX).ae<=1000)else false)):=by
    rw[jt];grind
   show(if aH (i:Int) v.Rest.length then jt ((v.Rest.getD i bX).ae,r.2)>>=_ else none)=_;rw[ad (aQ a),f]
   exact Jt ((!r.2)&&(bif decide (1<=(v.Rest.getD i bX).ae)then decide ((v.Rest.getD i bX).ae<=1000)else false)) (aH (i:Int) v.Rest.length) (decide ((0:Int)<(i:Int))) (df .i64 (i:Int) 1) (λj=>aH j v.Rest.length) (λj=>decide ((v.Rest.getD i bX).ae<=(v.Rest.getD j.toNat bX).ae)) _ _ (aQ a) (λc=>by
    have:0<i:=by simp at c;omega
    show aH _ _=true
    rw[qN this (by omega)];exact aQ (by omega)))
  (by rw[j2,bt])
 have aK:k5 (plain,v.Rest,(v.Rest.length:Int),((0:Nat):Int),ts,v,t.Kind,t.Name,t.bA,t.bC,t.Max,t.bg,t.ag,t.Key,t.aG,t.Open)=k5 (plain,v.Rest,(v.Rest.length:Int),0,ts,v,t.Kind,t.Name,t.bA,t.bC,t.Max,t.bg,t.ag,t.Key,t.aG,t.Open):=rfl;have e:j2 (v.Rest,((0:Nat):Int),t)=j2 (v.Rest,0,t):=rfl;simp only[aK,e]at h;rw[re];rcases h with⟨h1,b,_⟩|⟨h1,b,_⟩
 . exact .inl ⟨h1,by rw[b];rfl⟩
 . exact .inr ⟨h1,by rw[b];rfl⟩
end
theorem Y8(af:v.ai.length=t.ag.length)(e:t.ag.length<9223372036854775807)(ih:∀x,x∈v.ai->Fit ts x)(plain:Bool):
 (mu (plain,t.ag,(t.ag.length:Int),0,ts,v.Kind,v.bL,v.bc,v.bn,v.ae,v.av,v.ai,v.Rest)=some (.inr ())/\i' (plain,0,ts,v,t.Kind,t.Name,t.bA,t.bC,t.Max,t.bg,t.ag,t.Key,t.aG,t.Open)=some (.inr ()))\/
 (mu (plain,t.ag,(t.ag.length:Int),0,ts,v.Kind,v.bL,v.bc,v.bn,v.ae,v.av,v.ai,v.Rest)=some (.inl false)/\i' (plain,0,ts,v,t.Kind,t.Name,t.bA,t.bC,t.Max,t.bg,t.ag,t.Key,t.aG,t.Open)=some (.inl false)):=by
 let p:Nat->Bool:=λi=>(j5 ((⟨ts⟩:aR),(t.ag.getD i aE).aw,v.ai.getD i au,plain)).getD false;have c:∀i,i<t.ag.length->j5 ((⟨ts⟩:aR),(t.ag.getD i aE).aw,v.ai.getD i au,plain)=some (p i)/\iH ((⟨ts⟩:aR),(t.ag.getD i aE).aw,v.ai.getD i au,plain)=some (p i):=by
  intro i a;obtain⟨r,h1,b⟩:=ih _ (bk (by omega:i<v.ai.length) au) (t.ag.getD i aE).aw plain;grind
 have h:=Hq (λi=>mu (plain,t.ag,(t.ag.length:Int),(i:Int),ts,v.Kind,v.bL,v.bc,v.bn,v.ae,v.av,v.ai,v.Rest)) (λi=>i' (plain,(i:Int),ts,v,t.Kind,t.Name,t.bA,t.bC,t.Max,t.bg,t.ag,t.Key,t.aG,t.Open)) t.ag.length p () ()
  (λi a=>by
   rw[mu,bu,ad (aQ a),ad (aQ (by omega))];simp only[bd,I.aU];rw[(c i a).1,bD]
   grind)
  (by rw[mu,bt])
  (λi a=>by
   rw[i',bu,ad (aQ a),ad (aQ (by omega))];simp only[bd,I.aU];rw[(c i a).2,bD]
   grind)
  (by rw[i',cl])
 have aK:mu (plain,t.ag,(t.ag.length:Int),((0:Nat):Int),ts,v.Kind,v.bL,v.bc,v.bn,v.ae,v.av,v.ai,v.Rest)=mu (plain,t.ag,(t.ag.length:Int),0,ts,v.Kind,v.bL,v.bc,v.bn,v.ae,v.av,v.ai,v.Rest):=rfl;have d:i' (plain,((0:Nat):Int),ts,v,t.Kind,t.Name,t.bA,t.bC,t.Max,t.bg,t.ag,t.Key,t.aG,t.Open)=i' (plain,0,ts,v,t.Kind,t.Name,t.bA,t.bC,t.Max,t.bg,t.ag,t.Key,t.aG,t.Open):=rfl;simp only[aK,d]at h;rcases h with⟨h1,b,_⟩|⟨h1,b,_⟩
 . exact .inl ⟨h1,b⟩
 . exact .inr ⟨h1,b⟩
theorem vF(h:bM v):cw v.bc:=by cases h with|mk _ _ _ _ _ _ _ _ c' a=>exact a
theorem aaS{ts:List ah}{t:ah}(k:v.av.length<9223372036854775807)(g:∀x,x∈v.av->bM x)(plain:Bool):
 let inr:=(plain,ts,v,t.Kind,t.Name,t.bA,t.bC,t.Max,t.bg,t.ag,t.Key,t.aG,t.Open)
 (kF (plain,1,ts,v,t.Kind,t.Name,t.bA,t.bC,t.Max,t.bg,t.ag,t.Key,t.aG,t.Open)=some (.inr inr)/\hX (1,v)=some (.inr ()))\/
 (kF (plain,1,ts,v,t.Kind,t.Name,t.bA,t.bC,t.Max,t.bg,t.ag,t.Key,t.aG,t.Open)=some (.inl false)/\hX (1,v)=some (.inl false)):=by
 intro inr;by_cases h0:v.av.length=0
 . left;refine⟨?_,?_⟩
   . rw[kF,ak (by simp[h0]),I.aU]
   . rw[hX,ak (by simp[h0])]
 let c:Nat->Int:=λi=>(pO (v.av.getD i au,v.av.getD (i+1) au)).getD 0;have f:∀i,i+1<v.av.length->pO (v.av.getD i au,v.av.getD (i+1) au)=some (c i)/\nP (v.av.getD i au,v.av.getD (i+1) au)=some (c i):=by
  intro i b;obtain⟨r,h1,a⟩:=CA (vF (g _ (bk (by omega:i<v.av.length) au))) (vF (g _ (bk b au)));grind
 have h:=Hq (λi=>kF (plain,((i+1:Nat):Int),ts,v,t.Kind,t.Name,t.bA,t.bC,t.Max,t.bg,t.ag,t.Key,t.aG,t.Open)) (λi=>hX (((i+1:Nat):Int),v)) (v.av.length-1) (λi=>!(decide (0<=c i))) inr ()
  (λi b=>by
   have hs:=qN (i:=i+1) (by omega) (by omega);have d:df .i64 ((i+1:Nat):Int) 1=(i:Int):=by rw[hs];simp
   rw[kF,bu];simp only[aT,ao];rw[d,ad (aQ (by omega)),ad (aQ (by omega))];simp only[bd,I.aU];rw[(f i (by omega)).1,bD]
   grind)
  (by
   have e:v.av.length-1+1=v.av.length:=by omega
   rw[e,kF,bt,I.aU])
  (λi b=>by
   have hs:=qN (i:=i+1) (by omega) (by omega);have d:df .i64 ((i+1:Nat):Int) 1=(i:Int):=by rw[hs];simp
   rw[hX,bu];simp only[aT,ao];rw[d,ad (aQ (by omega)),ad (aQ (by omega))];simp only[bd,I.aU];rw[(f i (by omega)).2,bD]
   grind)
  (by
   have e:v.av.length-1+1=v.av.length:=by omega
   rw[e,hX,bt])
 have aK:kF (plain,((0+1:Nat):Int),ts,v,t.Kind,t.Name,t.bA,t.bC,t.Max,t.bg,t.ag,t.Key,t.aG,t.Open)=kF (plain,1,ts,v,t.Kind,t.Name,t.bA,t.bC,t.Max,t.bg,t.ag,t.Key,t.aG,t.Open):=rfl;have j:hX (((0+1:Nat):Int),v)=hX (1,v):=rfl;simp only[aK,j]at h;rcases h with⟨h1,a,_⟩|⟨h1,a,_⟩
 . exact .inl ⟨h1,a⟩
 . exact .inr ⟨h1,a⟩
theorem Kh{c:Type}{b:List c}(h:decide ((a.length:Int)=(b.length:Int))=true):a.length=b.length:=by grind
theorem QU{r:Int×Bool}(c:o=some r)(a plain f:Bool):
 (o>>=λb=>some (bif a then(!plain)else false)>>=λt85=>(if((!b.2)&&t85) then some f else some false)>>=λd=>some (bif b.2 then true else bif t85 then d else false))=some (r.2||(a && !plain&&f)):=by
 subst c;obtain⟨k,fQ⟩:=r;cases fQ<;>cases a<;>cases plain<;>cases f<;>rfl
theorem EY{r:Int×Bool}(c:o=some r)(a plain f:Bool)(F:Bool->Option Bool)(bE:F false=some f):
 (o>>=λb=>some (bif a then(!plain)else false)>>=λt85=>(if((!b.2)&&t85) then F b.2 else some false)>>=λd=>some (bif b.2 then true else bif t85 then d else false))=some (r.2||(a && !plain&&f)):=by
 subst c;obtain⟨k,fQ⟩:=r;cases fQ<;>cases a<;>cases plain<;>simp[bE]
theorem fi{o:Option Bool}{r:Bool}(b:o=some r)(q:Bool):(some q>>=λt244=>(if t244 then o else some false)>>=λa=>some (bif t244 then a else false))=some (q&&r):=by grind
theorem EZ(c a b f:Bool){d:Option Bool}(g:c=true->d=some f)(h1:c=true->a=true/\b=true):(some c>>=λt188=>if(a||(!t188))then if(b||(!t188))then(if t188 then d else some false)>>=λe=>some (bif t188 then e else false)else none else none)=some (c&&f):=by grind
theorem agb(A b q m:Bool){a:Option Bool}(d:a=some q)(c:A=true->L=some (if m then .inr ()else .inl false)):
 (if(bif (bif false then true else(!true))then true else b) then some false else some (!A)>>=λt107=>(if !t107 then a else some false)>>=λe=>if(bif t107 then true else(!e)) then some false else L>>=λo=>match o with|.inl x=>some x|.inr _=>some true)=some (A && !b&&q&&m):=by
 subst d;cases A with
 |false=>cases b<;>rfl
 |true=>
  rw[c rfl];cases b<;>cases q<;>cases m<;>rfl
theorem E0(g f b a cy E:Bool)(h1:a=true->cy=true):(some g>>=λt209=>(if t209 then some f else some false)>>=λc=>some (bif bif bif t209 then c else false then b else false then a else false)>>=λt226=>if(cy||(!t226))then some (bif t226 then E else false)else none)=some (g&&f&&b&&a&&E):=by grind
theorem QV(c:Bool){b a:Option Bool}{k i:Bool}(f:b=some k)(e:a=some i)(d:L=some (if q then .inr ()else .inl false)):
 (some c>>=λt239=>(if !t239 then b else some false)>>=λl=>some (bif t239 then true else(!l))>>=λt249=>(if !t249 then a else some false)>>=λm=>if(bif t249 then true else(!m)) then some false else L>>=λg=>match g with|.inl j=>some j|.inr _=>some true)=some (!c&&k&&q&&i):=by
 subst f;subst e;subst d;cases c<;>cases k<;>cases q<;>cases i<;>rfl
theorem K7(aD:ts.length<9223372036854775807)(c7:∀t,t∈ts->eX t)(bH:∀t,t∈ts->n3 t.Kind)(ay:bM v):Fit ts v:=by
 induction ay with
 |mk v hs h1 P Q am aL aP c' aU aV aW az O=>
  intro t plain;rw[j5,iH];by_cases D:(bif decide (t<0)then true else decide (((⟨ts⟩:aR).Types.length:Int)<=t))=true
  . rw[ad D,ad D];exact⟨false,rfl,rfl⟩
  . rw[ak D,ak D];have aO:0<=t/\t<ts.length:=(by grind);obtain⟨j,rfl⟩:∃j:Nat,t=(j:Int):=⟨t.toNat,by omega⟩
    have A:j<ts.length:=(by omega);rw[ad (aQ A),ad (aQ A)];simp only[bd,I.aU];have J:=c7 _ (bk A aN);have F:=bH _ (bk A aN);generalize ts.getD j aN=x at J F⊢;have C:=dz (il J.gQ);have W:=dz (il J.syms);by_cases w:v.Kind=x.Kind
    . obtain⟨p,aA,aB,aC⟩:=X2 (v:=v) (by rw[w];exact F);rw[aA,aB];cases p with
      |false=>exact⟨false,by simp[w],by simp[w]⟩
      |true=>
       have G:=K6 (ts:=ts) P O;have an:=K6 (ts:=ts) h1 az;obtain⟨K,N,L,H,M,S,Ms,g,E,d⟩:=x;obtain⟨s,B,cy,l,ae,e,c,R⟩:=v;simp only at w;subst w;have u:=aC rfl;simp only at u F C W h1 P Q;have al:s=1\/s=2\/s=3\/s=4\/s=5\/s=6\/s=7\/s=8\/s=9:=by unfold n3 at F;omega
       rcases al with rfl|rfl|rfl|rfl|rfl|rfl|rfl|rfl|rfl
       . obtain rfl:R=[]:=u (by decide) (by decide);cases plain<;>exact⟨true,rfl,rfl⟩
       . obtain rfl:R=[]:=u (by decide) (by decide);cases plain<;>exact⟨_,rfl,rfl⟩
       . obtain rfl:R=[]:=u (by decide) (by decide);cases plain<;>exact⟨_,rfl,rfl⟩
       . obtain rfl:R=[]:=u (by decide) (by decide);obtain⟨r,n,o,_⟩:=qF (t:=⟨4,N,L,H,M,S,Ms,g,E,d⟩) ae W;have z:jt (ae,false)=some (bif decide (1<=ae)then decide (ae<=1000)else false):=(by rfl);cases plain
         . exact⟨_,QU n d false _,EY o d false _ (λb=>jt (ae,b)) z⟩
         . exact⟨_,QU n d true _,EY o d true _ (λb=>jt (ae,b)) z⟩
       ·
        have aS:=agG (t:=⟨5,N,L,H,M,S,Ms,g,E,d⟩) C ⟨5,B,cy,l,ae,e,c,R⟩ Q plain ts;have av:decide ((c.length:Int)=(Ms.length:Int))=true->_:=λy=>Y8 (ts:=ts) (t:=⟨5,N,L,H,M,S,Ms,g,E,d⟩) (v:=⟨5,B,cy,l,ae,e,c,R⟩) (Kh y) C O plain;have ax:∃q:Bool,k5 (plain,R,(R.length:Int),0,ts,⟨5,B,cy,l,ae,e,c,R⟩,5,N,L,H,M,S,Ms,g,E,d)=some (if q then .inr (plain,ts,5,B,cy,l,ae,e,c,R,5,N,L,H,M,S,Ms,g,E,d)else .inl false)/\re (⟨5,N,L,H,M,S,Ms,g,E,d⟩,R)=some q:=(by grind);obtain⟨q,aX,aF⟩:=ax;have aq:∃m:Bool,decide ((c.length:Int)=(Ms.length:Int))=true->(mu (plain,Ms,(Ms.length:Int),0,ts,5,B,cy,l,ae,e,c,R)=some (if m then .inr ()else .inl false)/\i' (plain,0,ts,⟨5,B,cy,l,ae,e,c,R⟩,5,N,L,H,M,S,Ms,g,E,d)=some (if m then .inr ()else .inl false)):=by
         cases y:decide ((c.length:Int)=(Ms.length:Int))with
         |false=>exact⟨true,λh=>by cases h⟩
         |true=>
          rcases av y with⟨a,b⟩|⟨a,b⟩
          . simp_all
          simp_all
        obtain⟨m,ap⟩:=aq;refine⟨(decide ((c.length:Int)=(Ms.length:Int))) && !(bif plain then decide (0<(R.length:Int))else false)&&q&&m,?_,?_⟩
        . show(if(bif (!((c.length:Int)=(Ms.length:Int):Bool))then true else bif plain then (0<(R.length:Int):Bool)else false) then some false else k5 (plain,R,(R.length:Int),0,ts,⟨5,B,cy,l,ae,e,c,R⟩,5,N,L,H,M,S,Ms,g,E,d)>>=_)=_;grind
        . exact agb (decide ((c.length:Int)=(Ms.length:Int))) (bif plain then decide (0<(R.length:Int))else false) q m aF (λy=>(ap y).2)
       ·
        obtain⟨r,n,o,z⟩:=mx (t:=⟨6,N,L,H,M,S,Ms,g,E,d⟩) ae C;have aM:∀b,b=false->jt (ae,b)=some (bif decide (1<=ae)then decide (ae<=1000)else false):=by
         intro b aj;subst aj;rfl
        have ai:∃f:Bool,(bif decide ((c.length:Int)=1)then decide ((R.length:Int)=0)else false)=true->(j5 ((⟨ts⟩:aR),(Ms.getD r.1.toNat aE).aw,c.getD (0:Int).toNat au,plain)=some f/\iH ((⟨ts⟩:aR),(Ms.getD r.1.toNat aE).aw,c.getD (0:Int).toNat au,plain)=some f):=by
         by_cases af:c.length=1
         . obtain⟨f,f1,f2⟩:=O (c.getD 0 au) (bk (by omega:0<c.length) au) (Ms.getD r.1.toNat aE).aw plain;grind
         grind
        obtain⟨f,U⟩:=ai;have V:r.2=true->(bif decide ((c.length:Int)=1)then decide ((R.length:Int)=0)else false)=true->aH r.1 Ms.length=true/\aH 0 c.length=true:=by
         intro ag aK;constructor
         . rcases z with⟨k,Y,_,_,rfl⟩|⟨_,rfl⟩
           . exact aQ Y
           . cases ag
         . by_cases af:c.length=1
           . exact aQ (k:=0) (by omega)
           grind
        have T:decide ((R.length:Int)=1)=true->aH 0 R.length=true:=by
         intro h;have:=gR h;exact aQ (k:=0) (by omega)
        obtain⟨ab,kj⟩:=r;refine⟨if kj then(bif decide ((c.length:Int)=1)then decide ((R.length:Int)=0)else false)&&f else(bif d then(!plain)else false)&&(bif decide (1<=ae)then decide (ae<=1000)else false)&&decide ((c.length:Int)=0)&&decide ((R.length:Int)=1)&&decide ((R.getD (0:Int).toNat bX).ae=ae),?_,?_⟩
        . show(ha (⟨6,N,L,H,M,S,Ms,g,E,d⟩,ae)>>=_)=_;rw[n];cases kj with
          |true=>exact EZ _ (aH ab Ms.length) (aH 0 c.length) f (λh=>(U h).1) (V rfl)
          |false=>exact E0 (bif d then(!plain)else false) (bif decide (1<=ae)then decide (ae<=1000)else false) (decide ((c.length:Int)=0)) (decide ((R.length:Int)=1)) (aH 0 R.length) (decide ((R.getD (0:Int).toNat bX).ae=ae)) T
        . show(if(bif (bif false then true else(!true))then true else(bif plain then (0<(R.length:Int):Bool)else false)) then some false else hA (⟨6,N,L,H,M,S,Ms,g,E,d⟩,ae)>>=_)=_;rw[o];cases aJ:(bif plain then decide (0<(R.length:Int))else false)with
          |true=>
           have ar:plain=true:=(by grind);subst ar;have aI:decide ((R.length:Int)=0)=false:=(by grind);grind
          |false=>
           cases kj with
           |true=>exact EZ _ (aH ab Ms.length) (aH 0 c.length) f (λh=>(U h).2) (V rfl)
           |false=>exact E0 (bif d then(!plain)else false) (bif decide (1<=ae)then decide (ae<=1000)else false) (decide ((c.length:Int)=0)) (decide ((R.length:Int)=1)) (aH 0 R.length) (decide ((R.getD (0:Int).toNat bX).ae=ae)) T
       . obtain rfl:R=[]:=u (by decide) (by decide);obtain⟨r,n,o⟩:=G E plain;cases plain
         . exact⟨_,fi n _,fi o _⟩
         . exact⟨_,fi n _,fi o _⟩
       . obtain rfl:R=[]:=u (by decide) (by decide);obtain⟨k,Y,Z⟩:=an g plain;obtain⟨i,aT,X⟩:=G E plain;have ao:=aaS (ts:=ts) (t:=⟨8,N,L,H,M,S,Ms,g,E,d⟩) (v:=⟨8,B,cy,l,ae,e,c,[]⟩) (dz h1) am plain;obtain⟨q,aY,aa⟩:∃q:Bool,kF (plain,1,ts,⟨8,B,cy,l,ae,e,c,[]⟩,8,N,L,H,M,S,Ms,g,E,d)=some (if q then .inr (plain,ts,⟨8,B,cy,l,ae,e,c,[]⟩,8,N,L,H,M,S,Ms,g,E,d)else .inl false)/\hX (1,⟨8,B,cy,l,ae,e,c,[]⟩)=some (if q then .inr ()else .inl false):=by
          rcases ao with⟨a,b⟩|⟨a,b⟩
          . simp_all
          simp_all
         refine⟨!(bif decide (M<(e.length:Int))then true else(!(decide ((c.length:Int)=(e.length:Int)))))&&k&&q&&i,?_,?_⟩
         . show(some (bif decide (M<(e.length:Int))then true else(!(decide ((c.length:Int)=(e.length:Int)))))>>=λt270=>(if !t270 then qJ ((⟨ts⟩:aR),g,e,plain)else some false)>>=λaG=>if(bif t270 then true else(!aG)) then some false else kF (plain,1,ts,⟨8,B,cy,l,ae,e,c,[]⟩,8,N,L,H,M,S,Ms,g,E,d)>>=_)=_;grind
         . cases plain
           . exact QV (bif decide (M<(e.length:Int))then true else(!(decide ((c.length:Int)=(e.length:Int))))) Z X aa
           . exact QV (bif decide (M<(e.length:Int))then true else(!(decide ((c.length:Int)=(e.length:Int))))) Z X aa
       . obtain rfl:R=[]:=u (by decide) (by decide);obtain⟨r,n,o⟩:=G E plain;cases plain
         . exact⟨_,fi n _,fi o _⟩
         . exact⟨_,fi n _,fi o _⟩
    . exact⟨false,by simp[w],by simp[w]⟩
theorem vW{U:cK}{t:aJ}{l:List (t.den U.D)}(h:WF U ⟨.slice t,l⟩):l.length<=reachBytes/\l.length*t.bytes U<=reachBytes/\∀x,x∈l->∀c,c∈t.row U x->WF U c:=by cases h with|slice t l h1 a b=>exact⟨h1,a,b⟩
theorem Ki(s:aR):(⟨s.Types⟩:aR)=s:=by cases s;rfl
def gG(n:Nat):aj:=if n=0 then[]else gG (n/256)++[UInt8.ofNat (n%256)]
termination_by n
decreasing_by omega
theorem Ma:∀(l:List α) (k:Nat) (x:α),k<l.length->(l.set k x).drop k=x::l.drop (k+1)
 |[],k,x,h=>by simp at h
 |a::l,0,x,h=>by simp
 |a::l,k+1,x,h=>by simp[Ma l k x (by simpa using h)]
theorem agQ(n:Nat):lr .u64 (n:Int) 8=((n/256:Nat):Int):=by
 unfold lr;have:((2:Int)^min (8:Int).toNat IntKind.u64.bits)=256:=by decide
 grind
theorem OR:∀(i n:Nat) (b:aq),n<256^i->i<=8->b.length=8->∃(c:Nat) (a:aq),tq ((n:Int),(i:Int),b)=some ((c:Int),a)/\c<=8/\a.length=8/\strOf (a.drop c)=gG n++strOf (b.drop i)
 |i,n,b,aD,d,e=>by
  rw[tq];by_cases h0:n=0
  . subst h0;rw[bt];refine⟨i,b,rfl,d,e,?_⟩;rw[gG,ad rfl];rfl
  . rw[bu]
    match i,aD,d with
    |0,aD,d=>simp at aD;omega
    |i+1,aD,d=>
     have hs:df .i64 ((i+1:Nat):Int) 1=(i:Int):=by rw[hG];omega
     simp only[aT,ao];rw[hs,ad (aQ (by omega)),ad (by simp[e];omega),agQ,wI,bd];have aB:n/256<256^i:=(by omega);obtain⟨c,a,h1,f,g,j⟩:=OR i (n/256) (b.set i ((n%256:Nat):Int)) aB (by omega) (by simp[e]);refine⟨c,a,h1,f,g,?_⟩;rw[j,Ma _ _ _ (by omega),Y2]
     conv=>rhs;rw[gG,ak h0]
     grind
theorem D6{n:Nat}(aD:n<18446744073709551616):yU (n:Int)=some (gG n):=by
 have e:(256:Nat)^8=18446744073709551616:=by decide
 obtain⟨c,d,h1,k,a,g⟩:=OR 8 n [0,0,0,0,0,0,0,0] (by rw[e];exact aD) (by omega) rfl;have f:tq ((n:Int),8,[0,0,0,0,0,0,0,0])=some ((c:Int),d):=h1;rw[yU,f];simp only[aT,ao,bd];have j:dS (c:Int) 8 8=true:=jK (b:=8) (by omega) (by omega);have i:(8:Int).toNat=8:=rfl;rw[ad j,i,ad (by simp[wE,a];omega)];rw[ob (by simp[a]),g];simp[strOf]
theorem vX:∀(f n:Nat),n<256^f->(gG n).length<=f
 |0,n,h=>by
  have:n=0:=by simpa using h
  subst this;rw[gG,ad rfl];simp
 |f+1,n,h=>by
  rw[gG];split
  . simp
  . have:=vX f (n/256) (by omega);simp;omega
theorem K8:∀(f n:Nat) (a:aj),n<256^f->n<18446744073709551616->a.length+f<=1000->vl ((n:Int),a)=some (gG n++a)
 |f,n,a,aD,j,c=>by
  rw[vl];by_cases h0:n=0
  . subst h0;rw[bt,gG,ad rfl];rfl
  . rw[bu]
    match f,aD,c with
    |0,aD,c=>simp at aD;omega
    |f+1,aD,c=>
     have i:b' (n:Int) 256=((n%256:Nat):Int):=Am (b:=256);have g:fv .u64 (n:Int) 256=((n/256:Nat):Int):=by
      unfold fv;have e:(n:Int).tdiv 256=((n/256:Nat):Int):=by rw[yu (by omega)];omega
      rw[e];exact kS
     have d:strOf [((n%256%256:Nat):Int)]=[UInt8.ofNat (n%256)]:=by
      have:n%256%256=n%256:=(by omega);rw[this];rfl
     simp only[aT,ao];rw[i,g,wI,d,ad (fW (by simp;omega))];have aB:n/256<256^f:=(by omega);rw[K8 f (n/256) _ aB (by omega) (by simp;omega)]
     conv=>rhs;rw[gG,ak h0]
     grind
theorem K9{n:Nat}(aD:n<18446744073709551616):x7 (n:Int)=some (gG n):=by
 have e:(256:Nat)^8=18446744073709551616:=by decide
 rw[x7,K8 8 n [] (by rw[e];exact aD) aD (by simp)];simp
end
section
open Go Go.Proofs.YtdjagncoefjfeaaGreat.Shv Go.Sort
set_option maxRecDepth 100000
variable{c α:Type}{v:I}{ms:List aS}{id:Int}{P:Prop}{o:Option (Bool ⊕ Unit)}{L:Nat->Option (Bool ⊕ Unit)}{t:ah}
section
variable {α:Type}
theorem Mb{a:Type}{f g:a->List c}:∀{l:List a},(∀x,x∈l->f x=g x)->l.flatMap f=l.flatMap g
 |[],_=>rfl
 |x::l,h=>by
  simp only[e6];rw[h x (.head _),Mb λy b=>h y (.tail _ b)]
theorem Kj(x:α)(n:Nat)(f:Nat->List α):∀(ks:a7),ks.Nodup->n∈ks->(ks.flatMap λi=>if n=i then x::f i else f i).Perm (x::ks.flatMap f)
 |[],_,h=>by cases h
 |k::ks,aD,h=>by
  rw[List.nodup_cons]at aD;simp only[e6];by_cases e:n=k
  . rw[ad e];have:(ks.flatMap λi=>if n=i then x::f i else f i)=ks.flatMap f:=Mb λy b=>by grind
    simp_all
  . rw[ak e];have a:n∈ks:=(fe.1 h).resolve_left e;refine((Kj x n f ks aD.2 a).append_left (f k)).trans ?_;simp_all
theorem Kk(key:α->Nat)(ks:a7)(aD:ks.Nodup):∀l:List α,(∀x,x∈l->key x∈ks)->(ks.flatMap λi=>l.filter λx=>decide (key x=i)).Perm l
 |[],_=>by simp
 |x::l,h=>by
  have e:(λi=>(x::l).filter λy=>decide (key y=i))=λi=>if key x=i then x::(l.filter λy=>decide (key y=i))else l.filter λy=>decide (key y=i):=by grind
  rw[e];exact(Kj x (key x) _ ks aD (h x (.head _))).trans ((Kk key ks aD l λy a=>h y (.tail _ a)).cons x)
theorem Ym(key:α->Nat)(a n:Nat)(l:List α):((List.range' a n).flatMap λi=>l.filter λx=>decide (key x=i)).Pairwise (λx y=>decide (key y<key x)=false):=by
 rw[List.pairwise_flatMap];constructor
 . intro i b;rw[List.pairwise_iff_forall_sublist];grind
 . refine(List.pairwise_lt_range' (s:=a) (n:=n)).imp ?_;grind
theorem Mc[Inhabited α][Inhabited c]{lt:α->α->Bool}{d:c->c->Bool}(g:α->c)(h:∀a b,d (g a) (g b)=lt a b):∀l,gP d (l.map g)=(gP lt l).map g
 |[]=>rfl
 |x::l=>by
  have key:∀r,n4 d (g x) (r.map g)=(n4 lt x r).map g:=by
   intro r;induction r with
   |nil=>rfl
   |cons y r ih=>
    simp only[n4,List.map];grind
  simp only[gP,List.map];rw[Mc g h l,key]
theorem K'[Inhabited α]{lt:α->α->Bool}:∀{l:List α},l.Pairwise (λx y=>lt x y=true\/lt y x=true)->ka lt l=true
 |[],_=>rfl
 |x::l,h=>by
  rw[jf]at h;simp only[ka,cd,cY,hO];exact⟨h.1,K' h.2⟩
end
mutual
def wt:I->Nat
 |⟨_,_,_,s,_,ks,a,r⟩=>10+s.length+(r.map λx=>x.Data.length+1).sum+cI ks+cI a
def cI:List I->Nat
 |[]=>0
 |v::l=>wt v+cI l
end
structure Fd where
 id:Nat
 c:Bool
 p:aj
instance:Inhabited Fd:=⟨⟨0,false,[]⟩⟩
def fj(a b:Fd):Bool:=decide (a.id<b.id)
def Fd.text(f:Fd):aj:=fD f.id f.c f.p
def gO:List aj->List aj->aj
 |k::ks,v::vs=>dB k++(dB v++gO ks vs)
 |_,_=>[]
def cH(l:List aS)(id:Int):Option aS:=l.find? λm=>decide (m.ae=id)
open Classical in
noncomputable def dK (m:aS)(v:I):Bool:=m.bZ&&decide (m.bw=v)
def jT(r:bY):Fd:=⟨r.ae.toNat,false,r.Data⟩
mutual
noncomputable def bG (ts:List ah)(t:Int):I->aj
 |⟨_,b,i,s,id,ks,a,r⟩=>
  let x:=ts.getD t.toNat aN
  if x.Kind=1 then(if b then[1]else[])
  else if x.Kind=2 then gG (gf i).toNat
  else if x.Kind=3 then s
  else if x.Kind=4 then gG id.toNat
  else if x.Kind=5 then(gP fj (dH ts x.ag a++r.map jT)).flatMap Fd.text
  else if x.Kind=6 then eE id.toNat++(match cH x.ag id with
   |some m=>(b7 ts m.aw a).headD []
   |none=>(r.map bY.Data).headD [])
  else if x.Kind=7 then(b7 ts x.aG a).flatMap dB
  else if x.Kind=8 then gO (b7 ts x.Key ks) (b7 ts x.aG a)
  else match b7 ts x.aG a with
   |[]=>[]
   |p::_=>1::p
noncomputable def b7 (ts:List ah)(t:Int):List I->List aj
 |[]=>[]
 |v::l=>bG ts t v::b7 ts t l
noncomputable def dH (ts:List ah):List aS->List I->List Fd
 |m::ms,v::l=>if dK m v then dH ts ms l else⟨m.ae.toNat,m.cp,bG ts m.aw v⟩::dH ts ms l
 |_,_=>[]
end
mutual
noncomputable def et (ts:List ah)(t:Int):I->Nat
 |⟨_,_,_,_,id,ks,a,_⟩=>
  let x:=ts.getD t.toNat aN
  1+max (if ks=[]then 0 else 1) (if x.Kind=5 then gU ts x.ag a
   else if x.Kind=6 then(match cH x.ag id with
    |some m=>eJ ts m.aw a
    |none=>0)
   else eJ ts x.aG a)
noncomputable def eJ (ts:List ah)(t:Int):List I->Nat
 |[]=>0
 |v::l=>max (et ts t v) (eJ ts t l)
noncomputable def gU (ts:List ah):List aS->List I->Nat
 |m::ms,v::l=>if dK m v then gU ts ms l else max (et ts m.aw v) (gU ts ms l)
 |_,_=>0
end
def cr(n:Int):Prop:=1<=n/\n<=1000
def kc(ms:List aS)(r:List bY):Prop:=r.Pairwise (λa b=>a.ae<b.ae)/\∀x,x∈r->cr x.ae/\cH ms x.ae=none
def gT(a b:I):Int:=(pO (a,b)).getD 0
def jL(ks:List I):Prop:=∀i,i+1<ks.length->gT (ks.getD i au) (ks.getD (i+1) au)<0
mutual
def b5(ts:List ah)(pl:Bool)(t:Int):I->Prop
 |⟨k,b,i,s,id,ks,a,r⟩=>
  let x:=ts.getD t.toNat aN
  (0<=t/\t<ts.length/\k=x.Kind/\(pl=true->r=[]))/\
  (k=1/\i=0/\s=[]/\id=0/\ks=[]/\a=[]/\r=[]\/
  k=2/\b=false/\s=[]/\id=0/\ks=[]/\a=[]/\r=[]/\x.bA<=i/\i<=x.bC\/
  k=3/\b=false/\i=0/\id=0/\ks=[]/\a=[]/\r=[]/\(s.length:Int)<=x.Max\/
  k=4/\b=false/\i=0/\s=[]/\ks=[]/\a=[]/\r=[]/\((∃y,y∈x.bg/\y.ae=id)\/x.Open=true/\pl=false/\cr id)\/
  k=5/\b=false/\i=0/\s=[]/\id=0/\ks=[]/\kc x.ag r/\hq ts pl x.ag a\/
  k=6/\b=false/\i=0/\s=[]/\ks=[]/\(match cH x.ag id with
   |some m=>r=[]/\a.length=1/\e0 ts pl m.aw a
   |none=>x.Open=true/\pl=false/\cr id/\a=[]/\∃d,r=[⟨id,d⟩])\/
  k=7/\b=false/\i=0/\s=[]/\id=0/\ks=[]/\r=[]/\(a.length:Int)<=x.Max/\e0 ts pl x.aG a\/
  k=8/\b=false/\i=0/\s=[]/\id=0/\r=[]/\(ks.length:Int)<=x.Max/\a.length=ks.length/\e0 ts pl x.Key ks/\e0 ts pl x.aG a/\jL ks\/
  k=9/\b=false/\i=0/\s=[]/\id=0/\ks=[]/\r=[]/\a.length<=1/\e0 ts pl x.aG a)
def e0(ts:List ah)(pl:Bool)(t:Int):List I->Prop
 |[]=>True
 |v::l=>b5 ts pl t v/\e0 ts pl t l
def hq(ts:List ah)(pl:Bool):List aS->List I->Prop
 |m::ms,v::l=>b5 ts pl m.aw v/\hq ts pl ms l
 |[],[]=>True
 |_,_=>False
end
theorem fx(v:I):wt v=10+v.bn.length+(v.Rest.map λx=>x.Data.length+1).sum+cI v.av+cI v.ai:=by cases v;rw[wt]
theorem hb(v:I)(l:List I):cI (v::l)=wt v+cI l:=by rw[cI]
theorem gD:cI []=0:=by rw[cI]
theorem e':∀{l:List I} {x:I},x∈l->wt x<=cI l
 |y::l,x,h=>by
  rw[hb];rcases fe.1 h with rfl|h
  . omega
  . have:=e' h;omega
theorem Kl{p:aj}(h:p.length<1152921504606846976):(dB p).length<=p.length+10:=by
 have:=j6 (n:=p.length) (by omega);unfold dB;simp;omega
theorem Md{f:Fd}(h:f.p.length<1152921504606846976)(a:f.id<=9223372036854775807):f.text.length<=f.p.length+20:=by
 have:=Kl h;have:=j6 (n:=2*f.id+(if f.c then 1 else 0)) (by split<;>omega);unfold Fd.text fD;simp only[c2];omega
theorem Tf{f:α->List c}{a b:List α}(h:a.Perm b):(a.flatMap f).length=(b.flatMap f).length:=(h.flatMap_right f).length_eq
theorem Ak{n:Int}(h:cw n):(gf n).toNat<18446744073709551616:=by
 unfold gf cw at*;split<;>omega
section
variable {ts:List ah}
def wT(ts:List ah)(v:I):Prop:=∀t,(bG ts t v).length+20<=21*wt v
theorem Hr:∀{l:List I} {t:Int},cI l<=1099511627776->(∀x,x∈l->wT ts x)->((b7 ts t l).flatMap dB).length<=21*cI l
 |[],t,_,_=>by rw[b7];simp
 |v::l,t,a,h=>by
  rw[b7,e6,c2];rw[hb]at a⊢;have h1:=h v (.head _) t;have c:=Hr (t:=t) (by omega) λx b=>h x (.tail _ b);have d:=Kl (p:=bG ts t v) (by omega);omega
theorem nx:∀{l:List I} {t:Int},(b7 ts t l).length=l.length
 |[],t=>by rw[b7];rfl
 |v::l,t=>by rw[b7,iw,iw,nx]
theorem DI:∀{l:List I} {t:Int},b7 ts t l=l.map (bG ts t)
 |[],t=>by rw[b7];rfl
 |v::l,t=>by rw[b7,List.map,DI]
theorem HT:∀(a b:List aj),(gO a b).length<=(a.flatMap dB).length+(b.flatMap dB).length
 |[],b=>by simp[gO]
 |k::ks,[]=>by simp[gO]
 |k::ks,v::vs=>by
  have:=HT ks vs;simp only[gO,e6,c2];omega
theorem La:∀{ms:List aS} {l:List I},cI l<=1099511627776->(∀m,m∈ms->m.ae<=1000)->(∀x,x∈l->wT ts x)->((dH ts ms l).flatMap Fd.text).length<=21*cI l
 |[],l,_,_,_=>by rw[dH]<;>simp
 |m::ms,[],_,_,_=>by rw[dH]<;>simp
 |m::ms,v::l,c,b,h=>by
  rw[hb]at c⊢;rw[dH];have h1:=h v (.head _) m.aw;have d:=La (ms:=ms) (l:=l) (by omega) (λx a=>b x (.tail _ a)) λx a=>h x (.tail _ a);have g:=b m (.head _);split
  . omega
  . rw[e6,c2];have e:=Md (f:=⟨m.ae.toNat,m.cp,bG ts m.aw v⟩) (by show(bG ts m.aw v).length<_;omega) (by show m.ae.toNat<=_;omega);grind
theorem Me:∀{l:List bY},(∀x,x∈l->x.Data.length<=reachBytes/\x.ae<=9223372036854775807)->True->((l.map jT).flatMap Fd.text).length<=21*(l.map λx=>x.Data.length+1).sum
 |[],_,_=>by simp
 |r::l,h,_=>by
  have h1:=h r (.head _);have c:=Me (l:=l) (λx b=>h x (.tail _ b)) trivial;unfold reachBytes at h1;have a:=Md (f:=jT r) (by show r.Data.length<_;omega) (by show r.ae.toNat<=_;omega);have d:(jT r).text.length<=r.Data.length+20:=a;grind
def OY(ts:List ah):Prop:=∀x,x∈ts->∀m,m∈x.ag->m.ae<=1000
theorem X3(l:List α)(i:Nat)(d:α):l.getD i d∈l\/l.getD i d=d:=by grind
theorem Lb{l:List aj}{n:Nat}(h:∀x,x∈l->x.length<=n):(l.headD []).length<=n:=by
 cases l with
 |nil=>simp
 |cons x l=>exact h x (.head _)
theorem MC:∀{l:a7} {n:Nat},n∈l->n<=l.sum
 |a::l,n,h=>by
  rw[oj];rcases fe.1 h with rfl|h
  . omega
  . have:=MC h;omega
theorem abP(g:OY ts)(h:bM v):wt v<=1099511627776->wT ts v:=by
 induction h with
 |mk v hs h1 C D G F k c' u M w o n=>
  intro H t;have J:=fx v;have f:∀x,x∈v.av->wT ts x:=λx a=>o x a (by have:=e' a;omega);have d:∀x,x∈v.ai->wT ts x:=λx a=>n x a (by have:=e' a;omega);have A:=λt=>Hr (t:=t) (l:=v.av) (by omega) f;have oC:=λt=>Hr (t:=t) (l:=v.ai) (by omega) d;have a:∀m,m∈(ts.getD t.toNat aN).ag->m.ae<=1000:=by
   rcases X3 ts t.toNat aN with h|h
   . exact g _ h
   . rw[h];intro m j;cases j
  have B:∀t,((b7 ts t v.ai).headD []).length+20<=21*cI v.ai+20:=λt=>by
   have:((b7 ts t v.ai).headD []).length<=21*cI v.ai:=Lb λp c=>by
    rw[DI]at c;obtain⟨x,a,rfl⟩:=eO.1 c;have:=d x a t;have:=e' a;omega
   omega
  have fz:((v.Rest.map jT).flatMap Fd.text).length<=21*(v.Rest.map λx=>x.Data.length+1).sum:=Me (λx a=>⟨k x a,(w x a).2⟩) trivial;have z:=La (ts:=ts) (ms:=(ts.getD t.toNat aN).ag) (l:=v.ai) (by omega) a d;have y:((v.Rest.map bY.Data).headD []).length<=(v.Rest.map λx=>x.Data.length+1).sum:=Lb λp c=>by
   obtain⟨x,a,rfl⟩:=eO.1 c;have:x.Data.length+1<=(v.Rest.map λx=>x.Data.length+1).sum:=MC (eO.2 ⟨x,a,rfl⟩);omega
  obtain⟨K,b,i,s,id,ks,q,r⟩:=v;simp only at*;rw[bG];have L:=vX 8 _ (Ak u);have e:id.toNat<18446744073709551616:=by omega
  have E:=vX 8 _ e;have c:=j6 e;generalize ts.getD t.toNat aN=x at*;split
  . grind
  . split
    . omega
    . split
      . omega
      . split
        . omega
        . split
          . rw[Tf (nA _ _),Fj,c2];omega
          . split
            . grind
            . split
              . grind
              . split
                . have:=HT (b7 ts x.Key ks) (b7 ts x.aG q);grind
                grind
end
section
variable (ts:List ah)
mutual
theorem RC:∀(v:I) (t:Int),et ts t v<=wt v
 |⟨_,_,_,_,id,ks,a,_⟩,t=>by
  rw[et,wt];have h1:=GY a;have c:=GX a;grind
theorem GY:∀(l:List I) (t:Int),eJ ts t l<=cI l
 |[],t=>by rw[eJ];omega
 |v::l,t=>by
  rw[eJ,cI];have:=RC v t;have:=GY l t;omega
theorem GX:∀(l:List I) (ms:List aS),gU ts ms l<=cI l
 |[],ms=>by rw [gU]; · omega
            . intros;simp_all
 |v::l,[]=>by rw [gU]; · omega
              . intros;simp_all
 |v::l,m::ms=>by
  rw[gU,cI];have:=RC v m.aw;have:=GX l ms;grind
end
end
theorem OS(v:I):10<=wt v:=by rw[fx];omega
section
variable {ts:List ah}
theorem va:∀{ms:List aS} {l:List I} {x:Fd},x∈dH ts ms l->∃m,m∈ms/\x.id=m.ae.toNat
 |[],l,x,h=>by
  rw[dH]at h
  . cases h
  grind
 |m::ms,[],x,h=>by
  rw[dH]at h
  . cases h
  grind
 |m::ms,v::l,x,h=>by
  rw[dH]at h;split at h
  . obtain⟨b,h1,a⟩:=va h;grind
  . rcases fe.1 h with rfl|h
    . grind
    . obtain⟨b,h1,a⟩:=va h;grind
theorem Km{l:List I}{n:Nat}(h:∀m,m∈ms->m.ae.toNat≠n):((dH ts ms l).filter λx=>decide (x.id=n))=[]:=by
 rw[List.filter_eq_nil_iff];intro x a;obtain⟨m,h1,b⟩:=va a;grind
theorem Ju:∀{ms:List aS} {l:List I} {n j:Nat},ms.Pairwise (λa b=>a.ae.toNat≠b.ae.toNat)->l.length=ms.length->j<ms.length->(ms.getD j aE).ae.toNat=n->
 ((dH ts ms l).filter λx=>decide (x.id=n))=if dK (ms.getD j aE) (l.getD j au) then[]else[⟨n,(ms.getD j aE).cp,bG ts (ms.getD j aE).aw (l.getD j au)⟩]
 |[],l,n,j,_,_,d,_=>by cases d
 |m::ms,[],n,j,_,af,_,_=>by cases af
 |m::ms,v::l,n,0,c,af,d,he=>by
  rw[jf]at c;simp only[kf]at he⊢;have aD:=Km (ts:=ts) (l:=l) (ms:=ms) (n:=n) λx g=>by have:=c.1 x g;omega
  rw[dH];grind
 |m::ms,v::l,n,j+1,c,af,d,he=>by
  rw[jf]at c;simp only[ye]at he⊢;have e:j<ms.length:=by simpa using d
  have f:ms.getD j aE∈ms:=by grind
  have i:=c.1 _ f;have ih:=Ju (l:=l) c.2 (by simpa using af) e he;rw[dH];grind
theorem X4(l:List bY)(n:Nat)(h:∀x,x∈l->0<=x.ae):((l.map jT).filter λx=>decide (x.id=n))=(l.filter λx=>decide (x.ae=(n:Int))).map jT:=by
 rw[List.filter_map]
 congr 1
 apply List.filter_congr;intro x a;have:=h x a;show decide (x.ae.toNat=n)=_;grind
noncomputable def fr (ts:List ah)(ms:List aS)(l:List I)(r:List bY):List Fd:=dH ts ms l++r.map jT
def gJ(ms:List aS):Prop:=ms.Pairwise (λa b=>a.ae<b.ae)/\∀m,m∈ms->cr m.ae
theorem MD(h:gJ ms):ms.Pairwise (λa b=>a.ae.toNat≠b.ae.toNat):=by
 refine h.1.imp_of_mem λ{a b} c d aB=>?_;have:=h.2 a c;have:=h.2 b d;unfold cr at*;omega
theorem Hs:∀{ms:List aS} {l:List I},ms.Pairwise (λa b=>a.ae.toNat≠b.ae.toNat)->(dH ts ms l).Pairwise (λa b=>a.id≠b.id)
 |[],l,_=>by
  rw[dH]
  . exact .nil
  grind
 |m::ms,[],_=>by
  rw[dH]
  . exact .nil
  grind
 |m::ms,v::l,h=>by
  rw[jf]at h;rw[dH];split
  . exact Hs h.2
  . rw[jf];refine⟨λx c=>?_,Hs h.2⟩;obtain⟨e,h1,d⟩:=va c;grind
theorem nz(h:cH ms id=none):∀m,m∈ms->m.ae≠id:=by
 unfold cH at h;grind
theorem zb{l:List I}{r:List bY}(h:gJ ms)(c:kc ms r):ka fj (fr ts ms l r)=true:=by
 apply K';have key:(fr ts ms l r).Pairwise (λa b=>a.id≠b.id):=by
  unfold fr;rw[Fi];refine⟨Hs (MD h),?_,?_⟩
  . rw[oe];refine c.1.imp_of_mem λ{a b} e f aB=>?_;have:=(c.2 a e).1;have:=(c.2 b f).1;show a.ae.toNat≠b.ae.toNat;unfold cr at*;omega
  . intro x g y i;obtain⟨m,h1,j⟩:=va g;obtain⟨q,d,rfl⟩:=eO.1 i;have k:=nz (c.2 q d).2 m h1;have:=h.2 m h1;have:=(c.2 q d).1;show x.id≠q.ae.toNat;unfold cr at*;omega
 refine key.imp λ{a b} n=>?_;simp only[fj,dn];omega
theorem SM{l:List I}{r:List bY}(h:gJ ms)(c:kc ms r){x:Fd}(a:x∈fr ts ms l r):1<=x.id/\x.id<=1000:=by
 rcases f'.1 a with a|a
 . obtain⟨m,h1,d⟩:=va a;have:=h.2 m h1;unfold cr at*;omega
 . obtain⟨q,b,rfl⟩:=eO.1 a;have:=(c.2 q b).1;unfold cr at*;show 1<=q.ae.toNat/\q.ae.toNat<=1000;omega
theorem ME:SWO fj:=by refine⟨λx=>?_,λx y z h1 a=>?_,λx y z h1 a=>?_⟩<;>simp[fj]at*<;>omega
theorem Xd{l:List Fd}(a:ka fj l=true)(b:∀x,x∈l->1<=x.id/\x.id<=1000):
 gP fj l=(List.range' 1 1000).flatMap λn=>l.filter λx=>decide (x.id=n):=by
 refine Jo a (nA _ _) (Kk Fd.id _ List.nodup_range' l λx c=>?_) (CG ME l) (Ym Fd.id 1 1000 l);have:=b x c;rw[List.mem_range'_1];omega
end
section
variable {ts:List ah}{pl:Bool}
theorem cW:∀{l:List I} {t:Int},e0 ts pl t l↔∀x,x∈l->b5 ts pl t x
 |[],t=>by rw[e0];simp
 |v::l,t=>by
  rw[e0,cW];grind
theorem ik:∀{ms:List aS} {l:List I},hq ts pl ms l↔l.length=ms.length/\∀i,i<ms.length->b5 ts pl (ms.getD i aE).aw (l.getD i au)
 |[],[]=>by
  have:hq ts pl [] []=True:=by rw[hq]
  grind
 |[],v::l=>by
  have:hq ts pl [] (v::l)=False:=by rw[hq]<;>(intros;simp_all)
  grind
 |m::ms,[]=>by
  have:hq ts pl (m::ms) []=False:=by rw[hq]<;>(intros;simp_all)
  grind
 |m::ms,v::l=>by
  rw[hq,ik];constructor
  . grind
  . rintro ⟨h1,a⟩
    exact⟨a 0 (by simp),by simpa using h1,λi b=>a (i+1) (by simpa using b)⟩
end
def dg(o:Option Bool)(P:Prop):Prop:=∃r,o=some r/\(r=true↔P)
theorem dg.imp{o:Option Bool}{Q:Prop}(h:dg o P)(e:P↔Q):dg o Q:=by grind
theorem dg.of{b:Bool}(e:b=true↔P):dg (some b) P:=⟨b,rfl,e⟩
theorem dg.loop{n:Nat}{p:Nat->Bool}{g:Unit}(h0:o=L 0)(f:∀i,i<n->L i=if p i then L (i+1)else some (.inl false))(e:L n=some (.inr g)):
 dg (o>>=λo=>match o with|.inl x=>some x|.inr _=>some true) (∀i,i<n->p i=true):=by
 subst h0;rcases scan L n p (.inl false) (.inr g) f e with⟨h1,a⟩|⟨h1,j,a,c⟩
 . rw[h1];exact⟨true,rfl,by simpa using a⟩
 . rw[h1];refine⟨false,rfl,?_⟩;constructor
   . intro h;cases h
   . intro h;have:=h j a;rw[c]at this;cases this
theorem Dt(f:α->Int)(d:α):∀l:List α,l.Pairwise (λa b=>f a<f b)↔∀i,i+1<l.length->f (l.getD i d)<f (l.getD (i+1) d)
 |[]=>by simp
 |[a]=>by simp
 |a::b::l=>by
  rw[jf,Dt f d (b::l)];constructor
  . rintro ⟨h1,c⟩ i e
    cases i with
    |zero=>exact h1 b (.head _)
    |succ i=>exact c i (by simpa using e)
  . intro h;have c:∀i,i+1<(b::l).length->f ((b::l).getD i d)<f ((b::l).getD (i+1) d):=λi e=>h (i+1) (by simpa using e);refine⟨λx j=>?_,c⟩;have h0:=h 0 (by simp);simp only[kf,ye]at h0;have g:=(Dt f d (b::l)).2 c;rw[jf]at g;grind
section
variable {ts:List ah}
def El(ts:List ah)(x:I):Prop:=∀t pl,dg (iH ((⟨ts⟩:aR),t,x,pl)) (b5 ts pl t x)
theorem Mf{l:List I}(af:l.length<=reachBytes)(ih:∀x,x∈l->El ts x)(t:Int)(pl:Bool):dg (ns ((⟨ts⟩:aR),t,l,pl)) (e0 ts pl t l):=by
 have e:=dz af;let p:Nat->Bool:=λi=>(iH ((⟨ts⟩:aR),t,l.getD i au,pl)).getD false;have b:∀i,i<l.length->iH ((⟨ts⟩:aR),t,l.getD i au,pl)=some (p i)/\(p i=true↔b5 ts pl t (l.getD i au)):=by
  intro i a;obtain⟨r,h1,d⟩:=ih _ (bk a au) t pl;grind
 rw[ns];refine(dg.loop (L:=λi=>kA (t,l,pl,(i:Int),ts)) (n:=l.length) (p:=p) (g:=()) rfl (λi a=>?_) ?_).imp ?_
 . show kA (t,l,pl,(i:Int),ts)=if p i then kA (t,l,pl,((i+1:Nat):Int),ts)else _
   rw[kA,bu,ad (aQ a)];simp only[I.aU,bd];rw[(b i a).1,bD];grind
 . show kA (t,l,pl,(l.length:Int),ts)=_;rw[kA,bt]
 . rw[cW];constructor
   . intro h x c;obtain⟨i,a,rfl⟩:=eZ c;grind
   grind
theorem tB{l:List aS}{r:Int×Bool}(h:tk l id r):(r.2=true/\∃j:Nat,j<l.length/\r.1=(j:Int)/\cH l id=some (l.getD j aE)/\(l.getD j aE).ae=id)\/(r.2=false/\cH l id=none):=by
 rcases h with⟨j,h1,a,c,rfl⟩|⟨h1,rfl⟩
 . refine .inl ⟨rfl,j,h1,rfl,?_,a⟩;unfold cH;rw[BQ];refine⟨by rw[dn];exact a,j,h1,(dv h1 _).symm,λk e=>?_⟩;grind
 . refine .inr ⟨rfl,?_⟩;unfold cH;rw[yg];intro m b;obtain⟨i,d,rfl⟩:=eZ b;grind
theorem aaT(ht:t.ag.length<9223372036854775807){l:List bY}(af:l.length<=reachBytes):dg (re (t,l)) (kc t.ag l):=by
 have s:=dz af;rw[re];let p:Nat->Bool:=λi=>!((ha (t,(l.getD i bX).ae)).getD (0,false)).2&&(bif decide (1<=(l.getD i bX).ae)then decide ((l.getD i bX).ae<=1000)else false)&&(!(decide ((0:Int)<(i:Int))) || !(decide ((l.getD i bX).ae<=(l.getD (df .i64 (i:Int) 1).toNat bX).ae)));refine(dg.loop (L:=λi=>j2 (l,(i:Int),t)) (n:=l.length) (p:=p) (g:=()) rfl (λi c=>?_) ?_).imp ?_
 . show j2 (l,(i:Int),t)=if p i then j2 (l,((i+1:Nat):Int),t)else _
   obtain⟨r,h1,d,_⟩:=mx (t:=t) (l.getD i bX).ae ht;have f:p i=(!r.2&&(bif decide (1<=(l.getD i bX).ae)then decide ((l.getD i bX).ae<=1000)else false)&&(!(decide ((0:Int)<(i:Int))) || !(decide ((l.getD i bX).ae<=(l.getD (df .i64 (i:Int) 1).toNat bX).ae)))):=(by simp only[p,h1,lo]);rw[f,j2,bu,ad (aQ c)];simp only[bd];rw[d,bD];have o:jt ((l.getD i bX).ae,r.2)=some ((!r.2)&&(bif decide (1<=(l.getD i bX).ae)then decide ((l.getD i bX).ae<=1000)else false)):=by
    rw[jt];grind
   show(if aH (i:Int) l.length then jt ((l.getD i bX).ae,r.2)>>=_ else none)=_;rw[ad (aQ c),o]
   exact Jt ((!r.2)&&(bif decide (1<=(l.getD i bX).ae)then decide ((l.getD i bX).ae<=1000)else false)) (aH (i:Int) l.length) (decide ((0:Int)<(i:Int))) (df .i64 (i:Int) 1) (λj=>aH j l.length) (λj=>decide ((l.getD i bX).ae<=(l.getD j.toNat bX).ae)) _ _ (aQ c) (λk=>by
    have:0<i:=by simp at k;omega
    show aH _ _=true
    rw[qN this (by omega)];exact aQ (by omega))
 . show j2 (l,(l.length:Int),t)=_;rw[j2,bt]
 . unfold kc;rw[Dt (λa:bY=>a.ae) bX];have key:∀i,i<l.length->(p i=true↔(cr (l.getD i bX).ae/\cH t.ag (l.getD i bX).ae=none)/\(i=0\/(l.getD (i-1) bX).ae<(l.getD i bX).ae)):=by
    intro i c;obtain⟨r,h1,d,m⟩:=mx (t:=t) (l.getD i bX).ae ht;have f:p i=(!r.2&&(bif decide (1<=(l.getD i bX).ae)then decide ((l.getD i bX).ae<=1000)else false)&&(!(decide ((0:Int)<(i:Int))) || !(decide ((l.getD i bX).ae<=(l.getD (df .i64 (i:Int) 1).toNat bX).ae)))):=(by simp only[p,h1,lo]);rw[f];have aD:r.2=false↔cH t.ag (l.getD i bX).ae=none:=by
     rcases tB m with⟨a,j,_,_,b,_⟩|⟨a,b⟩
     . grind
     grind
    rw[<-aD];unfold cr;by_cases h0:i=0
    . grind
    . have k:decide ((0:Int)<(i:Int))=true:=by simp;omega
      rw[k,qN (by omega) (by omega),bd];grind
   constructor
   . intro h;refine⟨λi c=>?_,λx q=>?_⟩
     . grind
     . obtain⟨i,c,rfl⟩:=eZ q;simp_all
   . rintro ⟨h1,d⟩ i c
     refine(key i c).2 ⟨d _ (bk c bX),?_⟩;by_cases h0:i=0
     . omega
     . right;have:=h1 (i-1) (by omega);have e:i-1+1=i:=(by omega);grind
theorem Y9(af:v.ai.length=t.ag.length)(e:t.ag.length<9223372036854775807)(ih:∀x,x∈v.ai->El ts x)(pl:Bool):
 dg (i' (pl,0,ts,v,t.Kind,t.Name,t.bA,t.bC,t.Max,t.bg,t.ag,t.Key,t.aG,t.Open)>>=λo=>match o with|.inl c=>some c|.inr _=>some true) (hq ts pl t.ag v.ai):=by
 let p:Nat->Bool:=λi=>(iH ((⟨ts⟩:aR),(t.ag.getD i aE).aw,v.ai.getD i au,pl)).getD false;have b:∀i,i<t.ag.length->iH ((⟨ts⟩:aR),(t.ag.getD i aE).aw,v.ai.getD i au,pl)=some (p i)/\(p i=true↔b5 ts pl (t.ag.getD i aE).aw (v.ai.getD i au)):=by
  intro i a;obtain⟨r,h1,d⟩:=ih _ (bk (by omega:i<v.ai.length) au) (t.ag.getD i aE).aw pl;grind
 refine(dg.loop (L:=λi=>i' (pl,(i:Int),ts,v,t.Kind,t.Name,t.bA,t.bC,t.Max,t.bg,t.ag,t.Key,t.aG,t.Open)) (n:=t.ag.length) (p:=p) (g:=()) rfl (λi a=>?_) ?_).imp ?_
 . show i' (pl,(i:Int),ts,v,t.Kind,t.Name,t.bA,t.bC,t.Max,t.bg,t.ag,t.Key,t.aG,t.Open)=if p i then i' (pl,((i+1:Nat):Int),ts,v,t.Kind,t.Name,t.bA,t.bC,t.Max,t.bg,t.ag,t.Key,t.aG,t.Open)else _
   rw[i',bu,ad (aQ a),ad (aQ (by omega))];simp only[bd,I.aU];rw[(b i a).1,bD];cases p i<;>rfl
 . show i' (pl,(t.ag.length:Int),ts,v,t.Kind,t.Name,t.bA,t.bC,t.Max,t.bg,t.ag,t.Key,t.aG,t.Open)=_;rw[i',cl]
 . rw[ik];constructor
   . intro h;exact⟨af,λi a=>(b i a).2.1 (h i a)⟩
   . rintro ⟨_,h⟩ i a;exact(b i a).2.2 (h i a)
theorem aaU(m:v.av.length<9223372036854775807)(b:∀x,x∈v.av->bM x):
 dg (hX (1,v)>>=λk=>match k with|.inl l=>some l|.inr _=>some true) (jL v.av):=by
 by_cases h0:v.av.length=0
 . rw[hX,ak (by simp[h0])];refine⟨true,rfl,?_⟩;unfold jL;simp only[true_iff];intro i a;omega
 refine(dg.loop (L:=λi=>hX (((i+1:Nat):Int),v)) (n:=v.av.length-1) (p:=λi=>!(decide (0<=gT (v.av.getD i au) (v.av.getD (i+1) au)))) (g:=()) rfl (λi a=>?_) ?_).imp ?_
 . show hX (((i+1:Nat):Int),v)=if _ then hX (((i+1+1:Nat):Int),v)else _
   have f:df .i64 ((i+1:Nat):Int) 1=(i:Int):=by rw[qN (by omega) (by omega)];simp
   obtain⟨r,c,d⟩:=CA (vF (b _ (bk (by omega:i<v.av.length) au))) (vF (b _ (bk (by omega:i+1<v.av.length) au)));have j:gT (v.av.getD i au) (v.av.getD (i+1) au)=r:=by unfold gT;rw[c];rfl
   rw[j,hX,bu];simp only[aT,ao];rw[f,ad (aQ (by omega)),ad (aQ (by omega))];simp only[bd,I.aU];rw[d,bD];simp only[ao];cases decide (0<=r)<;>rfl
 . have e:v.av.length-1+1=v.av.length:=(by omega);show hX (((v.av.length-1+1:Nat):Int),v)=_;rw[e,hX,bt]
 . unfold jL;constructor
   . intro h i a;have:=h i (by omega);simpa using this
   . intro h i a;have:=h i (by omega);simpa using this
theorem eU(pl:Bool)(t:Int)(v:I):b5 ts pl t v↔
 (0<=t/\t<ts.length/\v.Kind=(ts.getD t.toNat aN).Kind/\(pl=true->v.Rest=[]))/\
 (v.Kind=1/\v.bc=0/\v.bn=[]/\v.ae=0/\v.av=[]/\v.ai=[]/\v.Rest=[]\/
 v.Kind=2/\v.bL=false/\v.bn=[]/\v.ae=0/\v.av=[]/\v.ai=[]/\v.Rest=[]/\(ts.getD t.toNat aN).bA<=v.bc/\v.bc<=(ts.getD t.toNat aN).bC\/
 v.Kind=3/\v.bL=false/\v.bc=0/\v.ae=0/\v.av=[]/\v.ai=[]/\v.Rest=[]/\(v.bn.length:Int)<=(ts.getD t.toNat aN).Max\/
 v.Kind=4/\v.bL=false/\v.bc=0/\v.bn=[]/\v.av=[]/\v.ai=[]/\v.Rest=[]/\((∃y,y∈(ts.getD t.toNat aN).bg/\y.ae=v.ae)\/(ts.getD t.toNat aN).Open=true/\pl=false/\cr v.ae)\/
 v.Kind=5/\v.bL=false/\v.bc=0/\v.bn=[]/\v.ae=0/\v.av=[]/\kc (ts.getD t.toNat aN).ag v.Rest/\hq ts pl (ts.getD t.toNat aN).ag v.ai\/
 v.Kind=6/\v.bL=false/\v.bc=0/\v.bn=[]/\v.av=[]/\(match cH (ts.getD t.toNat aN).ag v.ae with
  |some m=>v.Rest=[]/\v.ai.length=1/\e0 ts pl m.aw v.ai
  |none=>(ts.getD t.toNat aN).Open=true/\pl=false/\cr v.ae/\v.ai=[]/\∃d,v.Rest=[⟨v.ae,d⟩])\/
 v.Kind=7/\v.bL=false/\v.bc=0/\v.bn=[]/\v.ae=0/\v.av=[]/\v.Rest=[]/\(v.ai.length:Int)<=(ts.getD t.toNat aN).Max/\e0 ts pl (ts.getD t.toNat aN).aG v.ai\/
 v.Kind=8/\v.bL=false/\v.bc=0/\v.bn=[]/\v.ae=0/\v.Rest=[]/\(v.av.length:Int)<=(ts.getD t.toNat aN).Max/\v.ai.length=v.av.length/\e0 ts pl (ts.getD t.toNat aN).Key v.av/\e0 ts pl (ts.getD t.toNat aN).aG v.ai/\jL v.av\/
 v.Kind=9/\v.bL=false/\v.bc=0/\v.bn=[]/\v.ae=0/\v.av=[]/\v.Rest=[]/\v.ai.length<=1/\e0 ts pl (ts.getD t.toNat aN).aG v.ai):=by
 cases v;rw[b5];try exact Iff.rfl
end
end
end Go.Proofs.YtdjagncoefjfeaaGreat
