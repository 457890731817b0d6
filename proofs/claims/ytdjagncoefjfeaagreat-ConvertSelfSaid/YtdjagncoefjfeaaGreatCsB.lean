/- The functions of the program as functions of Lean, that its code does what they say, and what they answer; part B. -/
import Derived.Test.YtdjagncoefjfeaaGreatCsA

namespace Go.Proofs.YtdjagncoefjfeaaGreat
set_option linter.all false
section
open Go Go.Proofs.YtdjagncoefjfeaaGreat.Shv
open Tryz
set_option maxRecDepth 100000
def lL:aQ×Int×I->Option (aj×Int)
 |(s,t,v)=>
 tz ((⟨s.Types⟩:aQ),t,I.eta v)>>=λr=>if !(r=0:Bool) then some ([],r)else j2 (t,I.eta v,1,s.Types,0)>>=λa=>if(bif (4096<(a.1.length:Int):Bool)then true else (200<a.2.2:Bool)) then some ([],3)else some (a.1,0)
theorem Si:bb A7 lL:= .bm (.k Wh (.k TH .n))
def C6:Int×Bool×aj->Option (aj×Int)
 |(id,b,a)=>
 if(bif (id<1:Bool)then true else (1000<id:Bool)) then some ([],7)else if (4096<(a.length:Int):Bool) then some ([],3)else u1 (id,b,a)>>=λr=>some (r,0)
theorem XD:bb Qm C6:= .bm (.k GM .n)
def uY(p:aj):Option aj:=
 pw (bV .u64 (p.length:Int))>>=λr=>if (r.length+p.length<=ez:Bool) then some (r++p)else none
theorem Xv:bb Qn uY:= .bm (.k y' .n)
mutual
def k9:aQ×Int×I->Option aj
 |(s,t,v)=>
 if aH t s.Types.length then some (s.Types.getD t.toNat aP)>>=λa=>if (a.Kind=5:Bool) then rn ([],a.ag,(a.ag.length:Int),0,s.Types,I.eta v)>>=λo=>some o else if (a.Kind=6:Bool) then gN (a,v.af)>>=λr=>pw (bV .u64 v.af)>>=λH=>if aH r.1 a.ag.length then if aH 0 v.ai.length then k9 (s,(a.ag.getD r.1.toNat aC).au,I.eta (v.ai.getD (0:Int).toNat ar))>>=λJ=>if (H.length+J.length<=ez:Bool) then some (H++J)else none else none else none else if (a.Kind=9:Bool) then vr ([],v.ai,(v.ai.length:Int),0,s.Types,a)>>=λM=>some M else some (decide (a.Kind=7))>>=λt115=>if t115 then if t115 then k5 ([],v.ai,(v.ai.length:Int),0,s.Types,I.eta v,a)>>=λN=>some N else lL (s,t,I.eta v)>>=λX=>some X.1 else if (a.Kind=8:Bool) then k5 ([],v.ai,(v.ai.length:Int),0,s.Types,I.eta v,a)>>=λO=>some O else lL (s,t,I.eta v)>>=λY=>some Y.1 else none
  partial_fixpoint
def rn:aj×List aU×Int×Int×List ah×I->Option aj
 |(w,t36,y,t38,b,f)=>
 if (t38<y:Bool) then if aH t38 t36.length then some (t36.getD t38.toNat aC)>>=λc=>if aH t38 f.ai.length then o9 ((⟨c.af,c.Name,c.au,c.cn,c.bW,I.eta c.bw⟩:aU),I.eta (f.ai.getD t38.toNat ar))>>=λQ=>if !Q then if aH t38 f.ai.length then k9 ((⟨b⟩:aQ),c.au,I.eta (f.ai.getD t38.toNat ar))>>=λR=>C6 (c.af,c.cn,R)>>=λB=>if (w.length+B.1.length<=ez:Bool) then rn (w++B.1,t36,y,aM .i64 t38 1,b,I.eta f)else none else none else rn (w,t36,y,aM .i64 t38 1,b,I.eta f)else none else none else some w
  partial_fixpoint
def vr:aj×List I×Int×Int×List ah×ah->Option aj
 |(P,t101,K,t103,z,A)=>
 if (t103<K:Bool) then if aH t103 t101.length then k9 ((⟨z⟩:aQ),A.aG,I.eta (t101.getD t103.toNat ar))>>=λD=>if ([1].length+D.length<=ez:Bool) then vr ([1]++D,t101,K,aM .i64 t103 1,z,A)else none else none else some P
  partial_fixpoint
def k5:aj×List I×Int×Int×List ah×I×ah->Option aj
 |(q,t118,x,t120,p,u,j)=>
 if (t120<x:Bool) then if aH t120 t118.length then some (t118.getD t120.toNat ar)>>=λL=>if (j.Kind=8:Bool) then if aH t120 u.av.length then k9 ((⟨p⟩:aQ),j.Key,I.eta (u.av.getD t120.toNat ar))>>=λS=>uY S>>=λE=>if (q.length+E.length<=ez:Bool) then some (q++E)>>=λt139=>k9 ((⟨p⟩:aQ),j.aG,I.eta L)>>=λU=>uY U>>=λF=>if (t139.length+F.length<=ez:Bool) then k5 (t139++F,t118,x,aM .i64 t120 1,p,I.eta u,j)else none else none else none else k9 ((⟨p⟩:aQ),j.aG,I.eta L)>>=λW=>uY W>>=λG=>if (q.length+G.length<=ez:Bool) then k5 (q++G,t118,x,aM .i64 t120 1,p,I.eta u,j)else none else none else some q
  partial_fixpoint
end
theorem VV:eu qn k9/\eN 222 0 [2] zE k5/\eN 222 0 [1] zD vr/\eN 222 0 [0] zC rn:=k9.mutual_partial_correctness (ej qn) (eM 222 0 [2] zE) (eM 222 0 [1] zD) (eM 222 0 [0] zC)
 (λ_ _ _ _ h0 h1 a b _ _ h=>eC h (.k nq (.k y' (.k (cq qn h0) (.k Si .n)))) (.k (eV zC b) (.k (eV zD a) (.k (eV zE h1) .n))))
 (λ_ _ h0 h1 _ _ h=>eU zE h1 h (.k (cq qn h0) (.k Xv .n)))
 (λ_ _ h0 a _ _ h=>eU zD a h (.k (cq qn h0) .n))
 (λ_ _ h0 b _ _ h=>eU zC b h (.k FY (.k (cq qn h0) (.k XD .n))))
theorem R1:bb qn k9:=cq _ VV.1
def kC:List aU×Int×Int×List ah×List ah×aq×I×ah×Int×Bool×Int×aj×Int×Int×Bool×Int×aj×Int×aq×List I×List bY->Option ((Bool×List ah×List ah×I×aq×aq) ⊕ (List ah×List ah×aq×Int×Bool×Int×aj×Int×Int×Bool×Int×aj×Int×aq×List I×List bY))
 |(t115,v,t117,c,e,f,b,j,k,l,m,n,o,p,q,r,s,t,g,u,i)=>
 if (t117<v:Bool) then if aH t117 t115.length then some (t115.getD t117.toNat aC)>>=λa=>gN (j,a.af)>>=λw=>if w.2 then kC (t115,v,aM .i64 t117 1,c,e,f,I.eta b,j,k,l,m,n,o,p,q,r,s,t,g,u,i)else if a.cn then vl (a.af,c,e,f,g)>>=λd=>some (.inl (d.2.1,d.2.2.1,d.2.2.2.1,I.eta d.1,d.2.2.2.2.1,d.2.2.2.2.2))else if aH t117 b.ai.length then o9 ((⟨a.af,a.Name,a.au,a.cn,a.bW,I.eta a.bw⟩:aU),I.eta (b.ai.getD t117.toNat ar))>>=λx=>if !x then if aH t117 b.ai.length then k9 ((⟨c⟩:aQ),a.au,I.eta (b.ai.getD t117.toNat ar))>>=λy=>some [(⟨a.af,y⟩:bY)]>>=λt163=>if room 24 (i++t163).length then kC (t115,v,aM .i64 t117 1,c,e,f,I.eta b,j,k,l,m,n,o,p,q,r,s,t,g,u,i++t163)else none else none else kC (t115,v,aM .i64 t117 1,c,e,f,I.eta b,j,k,l,m,n,o,p,q,r,s,t,g,u,i)else none else none else some (.inr (c,e,f,k,l,m,n,o,p,q,r,s,t,g,u,i))
  partial_fixpoint
theorem TW:cS 183 2 [1] OJ kC:= .rx kC.partial_correctness (.k nq (.k Ss (.k FY (.k R1 .n))))
mutual
def nV:Int×Int×I×Int×List ah×List ah×aq×aq->Option (I×Bool×List ah×List ah×aq×aq)
 |(step,wt,v,rt,b,f,p,j)=>
 some [step]>>=λt20=>if room 8 (j++t20).length then pL (wt,I.eta v,rt,b,f,p,j++t20)>>=λr=>some (dh .i64 (r.2.2.2.2.2.length:Int) 1)>>=λt42=>if dU 0 t42 r.2.2.2.2.2.length then if (t42.toNat<=r.2.2.2.2.2.length:Bool) then some (I.eta r.1,r.2.1,r.2.2.1,r.2.2.2.1,r.2.2.2.2.1,r.2.2.2.2.2.take t42.toNat)else none else none else none
  partial_fixpoint
def k6(t:Int×List I×Int×List ah×List ah×aq×aq):Option (List I×Bool×List ah×List ah×aq×aq):=
 match t with
 |(wt,l,rt,b,f,p,j)=>
 mq (wt,rt,l,(l.length:Int),0,b,f,p,[],j)>>=λo=>match o with
 |.inl u=>
 some ([],u.1,u.2.1,u.2.2.1,u.2.2.2.1,u.2.2.2.2)
 |.inr e=>
 some (e.2.2.2.1,true,e.1,e.2.1,e.2.2.1,e.2.2.2.2)
  partial_fixpoint
def pL:Int×I×Int×List ah×List ah×aq×aq->Option (I×Bool×List ah×List ah×aq×aq)
 |(wt,v,rt,b,f,p,j)=>
 if aH wt b.length then some (b.getD wt.toNat aP)>>=λc=>if aH rt f.length then some (f.getD rt.toNat aP)>>=λa=>if !(c.Kind=a.Kind:Bool) then sC (b,f,p,j)>>=λr=>some (I.eta r.1,r.2.1,r.2.2.1,r.2.2.2.1,r.2.2.2.2.2,r.2.2.2.2.1)else
 let bv:=λcp=>
 if !cp then sC (b,f,p,j)>>=λS=>some (I.eta S.1,S.2.1,S.2.2.1,S.2.2.2.1,S.2.2.2.2.2,S.2.2.2.2.1)else if (c.Kind=5:Bool) then sn (c,I.eta v,a,b,f,p,j)>>=λN=>some (I.eta N.1,N.2.1,N.2.2.1,N.2.2.2.1,N.2.2.2.2.1,N.2.2.2.2.2)else if (c.Kind=6:Bool) then sw (c,I.eta v,a,b,f,p,j)>>=λO=>some (I.eta O.1,O.2.1,O.2.2.1,O.2.2.2.1,O.2.2.2.2.1,O.2.2.2.2.2)else if (c.Kind=8:Bool) then k6 (c.Key,v.av,a.Key,b,f,p,j)>>=λA=>if !A.2.1 then some ((⟨0,false,0,[],0,[],[],[]⟩:I),false,A.2.2.1,A.2.2.2.1,A.2.2.2.2.1,A.2.2.2.2.2)else k6 (c.aG,v.ai,a.aG,A.2.2.1,A.2.2.2.1,A.2.2.2.2.1,A.2.2.2.2.2)>>=λE=>if !E.2.1 then some ((⟨0,false,0,[],0,[],[],[]⟩:I),false,E.2.2.1,E.2.2.2.1,E.2.2.2.2.1,E.2.2.2.2.2)else some ((⟨v.Kind,v.bM,v.bd,v.bl,v.af,A.1,E.1,[]⟩:I),true,E.2.2.1,E.2.2.2.1,E.2.2.2.2.1,E.2.2.2.2.2)else k6 (c.aG,v.ai,a.aG,b,f,p,j)>>=λF=>if !F.2.1 then some ((⟨0,false,0,[],0,[],[],[]⟩:I),false,F.2.2.1,F.2.2.2.1,F.2.2.2.2.1,F.2.2.2.2.2)else some ((⟨v.Kind,v.bM,v.bd,v.bl,v.af,[],F.1,[]⟩:I),true,F.2.2.1,F.2.2.2.1,F.2.2.2.2.1,F.2.2.2.2.2)
 if (c.Kind=2:Bool) then bv (bif decide (a.bB<=v.bd)then decide (v.bd<=a.bF)else false)else
 let bs:=λci=>
 bv ci
 if (c.Kind=3:Bool) then bs (decide ((v.bl.length:Int)<=a.Max))else if (c.Kind=4:Bool) then tD (a,v.af)>>=λb4=>bs (bif b4.2 then true else a.Open)else some (decide (c.Kind=7))>>=λt91=>
 let bn:=λce=>
 let bi:=λ(_:Unit)=>
 if (c.Kind=5:Bool) then sn (c,I.eta v,a,b,f,p,j)>>=λQ=>some (I.eta Q.1,Q.2.1,Q.2.2.1,Q.2.2.2.1,Q.2.2.2.2.1,Q.2.2.2.2.2)else if (c.Kind=6:Bool) then sw (c,I.eta v,a,b,f,p,j)>>=λR=>some (I.eta R.1,R.2.1,R.2.2.1,R.2.2.2.1,R.2.2.2.2.1,R.2.2.2.2.2)else if (c.Kind=8:Bool) then k6 (c.Key,v.av,a.Key,b,f,p,j)>>=λx=>if !x.2.1 then some ((⟨0,false,0,[],0,[],[],[]⟩:I),false,x.2.2.1,x.2.2.2.1,x.2.2.2.2.1,x.2.2.2.2.2)else k6 (c.aG,v.ai,a.aG,x.2.2.1,x.2.2.2.1,x.2.2.2.2.1,x.2.2.2.2.2)>>=λz=>if !z.2.1 then some ((⟨0,false,0,[],0,[],[],[]⟩:I),false,z.2.2.1,z.2.2.2.1,z.2.2.2.2.1,z.2.2.2.2.2)else some ((⟨v.Kind,v.bM,v.bd,v.bl,v.af,x.1,z.1,[]⟩:I),true,z.2.2.1,z.2.2.2.1,z.2.2.2.2.1,z.2.2.2.2.2)else k6 (c.aG,v.ai,a.aG,b,f,p,j)>>=λB=>if !B.2.1 then some ((⟨0,false,0,[],0,[],[],[]⟩:I),false,B.2.2.1,B.2.2.2.1,B.2.2.2.2.1,B.2.2.2.2.2)else some ((⟨v.Kind,v.bM,v.bd,v.bl,v.af,[],B.1,[]⟩:I),true,B.2.2.1,B.2.2.2.1,B.2.2.2.2.1,B.2.2.2.2.2)
 if ce then if !((v.ai.length:Int)<=a.Max:Bool) then sC (b,f,p,j)>>=λP=>some (I.eta P.1,P.2.1,P.2.2.1,P.2.2.2.1,P.2.2.2.2.2,P.2.2.2.2.1)else bi ()else bi ()
 if t91 then bn t91 else bn (decide (c.Kind=8))else none else none
  partial_fixpoint
def sn(t:ah×I×ah×List ah×List ah×aq×aq):Option (I×Bool×List ah×List ah×aq×aq):=
 match t with
 |(c,v,y,b,f,p,j)=>
 k3 (y.ag,(y.ag.length:Int),0,b,f,p,c,I.eta v,y,0,false,0,[],0,v.Kind,false,0,[],0,j,[])>>=λo=>match o with
 |.inl u=>
 some (I.eta u.2.2.2.2.1,u.1,u.2.1,u.2.2.1,u.2.2.2.1,u.2.2.2.2.2)
 |.inr e=>
 kC (e.2.2.2.1.ag,(e.2.2.2.1.ag.length:Int),0,e.1,e.2.1,e.2.2.1,I.eta e.2.2.2.2.1,e.2.2.2.2.2.1,e.2.2.2.2.2.2.1,e.2.2.2.2.2.2.2.1,e.2.2.2.2.2.2.2.2.1,e.2.2.2.2.2.2.2.2.2.1,e.2.2.2.2.2.2.2.2.2.2.1,e.2.2.2.2.2.2.2.2.2.2.2.1,e.2.2.2.2.2.2.2.2.2.2.2.2.1,e.2.2.2.2.2.2.2.2.2.2.2.2.2.1,e.2.2.2.2.2.2.2.2.2.2.2.2.2.2.1,e.2.2.2.2.2.2.2.2.2.2.2.2.2.2.2.1,e.2.2.2.2.2.2.2.2.2.2.2.2.2.2.2.2.1,e.2.2.2.2.2.2.2.2.2.2.2.2.2.2.2.2.2,[])>>=λb1=>match b1 with
 |.inl L=>
 some (I.eta L.2.2.2.1,L.1,L.2.1,L.2.2.1,L.2.2.2.2.2,L.2.2.2.2.1)
 |.inr w=>
 some ((⟨w.2.2.2.2.2.2.2.2.1,w.2.2.2.2.2.2.2.2.2.1,w.2.2.2.2.2.2.2.2.2.2.1,w.2.2.2.2.2.2.2.2.2.2.2.1,w.2.2.2.2.2.2.2.2.2.2.2.2.1,[],w.2.2.2.2.2.2.2.2.2.2.2.2.2.2.1,w.2.2.2.2.2.2.2.2.2.2.2.2.2.2.2⟩:I),true,w.1,w.2.1,w.2.2.1,w.2.2.2.2.2.2.2.2.2.2.2.2.2.1)
  partial_fixpoint
def sw:ah×I×ah×List ah×List ah×aq×aq->Option (I×Bool×List ah×List ah×aq×aq)
 |(c,v,y,b,f,p,j)=>
 gN (c,v.af)>>=λr=>gN (y,v.af)>>=λD=>if D.2 then if aH r.1 c.ag.length then if aH 0 v.ai.length then if aH D.1 y.ag.length then nV (v.af,(c.ag.getD r.1.toNat aC).au,I.eta (v.ai.getD (0:Int).toNat ar),(y.ag.getD D.1.toNat aC).au,b,f,p,j)>>=λG=>if !G.2.1 then some ((⟨0,false,0,[],0,[],[],[]⟩:I),false,G.2.2.1,G.2.2.2.1,G.2.2.2.2.1,G.2.2.2.2.2)else some ((⟨v.Kind,false,0,[],v.af,[],[I.eta G.1],[]⟩:I),true,G.2.2.1,G.2.2.2.1,G.2.2.2.2.1,G.2.2.2.2.2)else none else none else none else if !y.Open then sC (b,f,p,j)>>=λM=>some (I.eta M.1,M.2.1,M.2.2.1,M.2.2.2.1,M.2.2.2.2.2,M.2.2.2.2.1)else if aH r.1 c.ag.length then if aH 0 v.ai.length then k9 ((⟨b⟩:aQ),(c.ag.getD r.1.toNat aC).au,I.eta (v.ai.getD (0:Int).toNat ar))>>=λJ=>some ((⟨v.Kind,false,0,[],v.af,[],[],[(⟨v.af,J⟩:bY)]⟩:I),true,b,f,p,j)else none else none
  partial_fixpoint
def mq:Int×Int×List I×Int×Int×List ah×List ah×aq×List I×aq->Option ((Bool×List ah×List ah×aq×aq) ⊕ (List ah×List ah×aq×List I×aq))
 |(b0,bQ,t15,bS,t17,a5,a9,ba,am,be)=>
 if (t17<bS:Bool) then if aH t17 t15.length then nV (t17,b0,I.eta (t15.getD t17.toNat ar),bQ,a5,a9,ba,be)>>=λr=>if !r.2.1 then some (.inl (false,r.2.2.1,r.2.2.2.1,r.2.2.2.2.1,r.2.2.2.2.2))else some [I.eta r.1]>>=λt35=>if room 120 (am++t35).length then mq (b0,bQ,t15,bS,aM .i64 t17 1,r.2.2.1,r.2.2.2.1,r.2.2.2.2.1,am++t35,r.2.2.2.2.2)else none else none else some (.inr (a5,a9,ba,am,be))
  partial_fixpoint
def k3:List aU×Int×Int×List ah×List ah×aq×ah×I×ah×Int×Bool×Int×aj×Int×Int×Bool×Int×aj×Int×aq×List I->Option ((Bool×List ah×List ah×aq×I×aq) ⊕ (List ah×List ah×aq×ah×I×ah×Int×Bool×Int×aj×Int×Int×Bool×Int×aj×Int×aq×List I))
 |(t25,a4,t27,X,Y,Z,H,K,an,ap,ax,ay,aB,aI,aZ,a0,a1,a2,a3,ae,W)=>
 if (t27<a4:Bool) then if aH t27 t25.length then some (t25.getD t27.toNat aC)>>=λa=>gN (H,a.af)>>=λr=>if !r.2 then if !a.bW then vl (a.af,X,Y,Z,ae)>>=λD=>some (.inl (D.2.1,D.2.2.1,D.2.2.2.1,D.2.2.2.2.2,I.eta D.1,D.2.2.2.2.1))else j5 (I.eta a.bw)>>=λb2=>some [I.eta b2]>>=λt54=>if room 120 (W++t54).length then k3 (t25,a4,aM .i64 t27 1,X,Y,Z,H,I.eta K,an,ap,ax,ay,aB,aI,aZ,a0,a1,a2,a3,ae,W++t54)else none else if aH r.1 H.ag.length then if aH r.1 K.ai.length then nV (a.af,(H.ag.getD r.1.toNat aC).au,I.eta (K.ai.getD r.1.toNat ar),a.au,X,Y,Z,ae)>>=λq=>if aH r.1 H.ag.length then some (H.ag.getD r.1.toNat aC)>>=λU=>if aH r.1 K.ai.length then o9 ((⟨U.af,U.Name,U.au,U.cn,U.bW,I.eta U.bw⟩:aU),I.eta (K.ai.getD r.1.toNat ar))>>=λbI=>some (!q.2.1)>>=λt90=>(if(bI&&(!t90)) then o9 ((⟨a.af,a.Name,a.au,a.cn,a.bW,I.eta a.bw⟩:aU),I.eta q.1)else some false)>>=λb3=>if(bif bI then bif t90 then true else(!b3)else false) then vl (a.af,q.2.2.1,q.2.2.2.1,q.2.2.2.2.1,q.2.2.2.2.2)>>=λJ=>some (.inl (J.2.1,J.2.2.1,J.2.2.2.1,J.2.2.2.2.2,I.eta J.1,J.2.2.2.2.1))else if !q.2.1 then some (.inl (false,q.2.2.1,q.2.2.2.1,q.2.2.2.2.1,(⟨0,false,0,[],0,[],[],[]⟩:I),q.2.2.2.2.2))else some [I.eta q.1]>>=λt110=>if room 120 (W++t110).length then k3 (t25,a4,aM .i64 t27 1,q.2.2.1,q.2.2.2.1,q.2.2.2.2.1,H,I.eta K,an,ap,ax,ay,aB,aI,aZ,a0,a1,a2,a3,q.2.2.2.2.2,W++t110)else none else none else none else none else none else none else some (.inr (X,Y,Z,H,I.eta K,an,ap,ax,ay,aB,aI,aZ,a0,a1,a2,a3,ae,W))
  partial_fixpoint
end
theorem Vd:eu uE nV/\eu w9 pL/\eu Be k6/\eN 185 2 [0] zG mq/\eu Bd sw/\eu Bc sn/\eN 183 2 [0] zF k3:=nV.mutual_partial_correctness (ej uE) (ej w9) (ej Be) (eM 185 2 [0] zG) (ej Bd) (ej Bc) (eM 183 2 [0] zF)
 (λ_ h1 _ _ h=>eC h (.k (cq w9 h1) .n))
 (λ_ _ _ c d ba _ _ h=>eC h (.k SA (.k (cq Bc ba) (.k (cq Bd d) (.k (cq Be c) (.k Cd .n))))))
 (λ_ a _ _ h=>eC h .n (.k (eV zG a) .n))
 (λ_ _ h0 a _ _ h=>eU zG a h (.k (cq uE h0) .n))
 (λ_ h0 _ _ h=>eC h (.k nq (.k (cq uE h0) (.k SA (.k R1 .n)))))
 (λ_ b _ _ h=>eC h .n (.k (eV zF b) (.k TW .n)))
 (λ_ _ h0 b _ _ h=>eU zF b h (.k nq (.k Ss (.k Wf (.k (cq uE h0) (.k FY .n))))))
theorem VW:bb w9 pL:=cq _ Vd.2.1
def x3:aQ×Int×I×aQ×Int->Option (I×Int)
 |(w,wt,v,r,rt)=>
 CY (w,wt,I.eta v,r,rt)>>=λa=>if !(a=0:Bool) then some ((⟨0,false,0,[],0,[],[],[]⟩:I),a)else pL (wt,I.eta v,rt,w.Types,r.Types,[],[])>>=λb=>if !b.2.1 then some ((⟨0,false,0,[],0,[],[],[]⟩:I),12)else some (I.eta b.1,0)
theorem Wx:bb A6 x3:= .bm (.k Xs (.k VW .n))
def pP:dv×dv×aj->Option (eR×Int)
 |(w,r,m)=>
 tF (w.cN,w.au,m)>>=λa=>if !(a.2=0:Bool) then some ((⟨(⟨0,false,0,[],0,[],[],[]⟩:I),(⟨0,false,0,[],0,[],[],[]⟩:I),[]⟩:eR),12)else u4 (w.cN,w.au,I.eta a.1)>>=λe=>if !(e.2=0:Bool) then some ((⟨(⟨0,false,0,[],0,[],[],[]⟩:I),(⟨0,false,0,[],0,[],[],[]⟩:I),[]⟩:eR),12)else x3 (w.cN,w.au,I.eta e.1,r.cN,r.au)>>=λf=>if !(f.2=0:Bool) then some ((⟨(⟨0,false,0,[],0,[],[],[]⟩:I),(⟨0,false,0,[],0,[],[],[]⟩:I),[]⟩:eR),12)else lL (w.cN,w.au,I.eta a.1)>>=λc=>if !(c.2=0:Bool) then some ((⟨(⟨0,false,0,[],0,[],[],[]⟩:I),(⟨0,false,0,[],0,[],[],[]⟩:I),[]⟩:eR),3)else tF (r.cN,r.au,c.1)>>=λb=>if !(b.2=0:Bool) then some ((⟨(⟨0,false,0,[],0,[],[],[]⟩:I),(⟨0,false,0,[],0,[],[],[]⟩:I),[]⟩:eR),12)else lL (r.cN,r.au,I.eta b.1)>>=λd=>if !(d.2=0:Bool) then some ((⟨(⟨0,false,0,[],0,[],[],[]⟩:I),(⟨0,false,0,[],0,[],[],[]⟩:I),[]⟩:eR),3)else some ((⟨I.eta a.1,I.eta b.1,d.1⟩:eR),0)
theorem Wy:bb EJ pP:= .bm (.k Wa (.k W7 (.k Wx (.k Si .n))))
def nx:dv×dv×aj->Option (eR×Int)
 |(w,r,m)=>
 BS [w,r]>>=λb=>if !(b=0:Bool) then some ((⟨(⟨0,false,0,[],0,[],[],[]⟩:I),(⟨0,false,0,[],0,[],[],[]⟩:I),[]⟩:eR),b)else pP (w,r,m)>>=λa=>some ((⟨I.eta a.1.v,I.eta a.1.u,a.1.message⟩:eR),a.2)
theorem W9:bb EE nx:= .bm (.k V5 (.k Wy .n))
def Ge:dv×dv×aj->Option (aj×Int)
 |(w,r,m)=>
 nx (w,r,m)>>=λa=>some (a.1.message,a.2)
theorem Wz:bb ng Ge:= .bm (.k W9 .n)
def mx(t:ah):Option ah:=
 if (t.Kind=1:Bool) then some (⟨t.Kind,[],0,0,0,[],[],0,0,false⟩:ah)else if (t.Kind=2:Bool) then some (⟨t.Kind,[],t.bB,t.bF,0,[],[],0,0,false⟩:ah)else if (t.Kind=3:Bool) then some (⟨t.Kind,[],0,0,t.Max,[],[],0,0,false⟩:ah)else if (t.Kind=4:Bool) then some (⟨t.Kind,t.Name,0,0,0,t.bg,[],0,0,t.Open⟩:ah)else if (t.Kind=5:Bool) then some (⟨t.Kind,t.Name,0,0,0,[],t.ag,0,0,false⟩:ah)else if (t.Kind=6:Bool) then some (⟨t.Kind,t.Name,0,0,0,[],t.ag,0,0,t.Open⟩:ah)else if (t.Kind=7:Bool) then some (⟨t.Kind,[],0,0,t.Max,[],[],0,t.aG,false⟩:ah)else if (t.Kind=8:Bool) then some (⟨t.Kind,[],0,0,t.Max,[],[],t.Key,t.aG,false⟩:ah)else some (⟨t.Kind,[],0,0,0,[],[],0,t.aG,false⟩:ah)
theorem VX:bb aeC mx:= .bm
def yw:aU×aU->Option Bool
 |(a,b)=>
 some (bif bif bif bif decide (a.af=b.af)then decide (a.Name=b.Name)else false then decide (a.au=b.au)else false then fu a.cn b.cn else false then fu a.bW b.bW else false)>>=λt37=>(if t37 then jH ((⟨a.bw.Kind,a.bw.bM,a.bw.bd,a.bw.bl,a.bw.af,a.bw.av,a.bw.ai,a.bw.Rest⟩:I),(⟨b.bw.Kind,b.bw.bM,b.bw.bd,b.bw.bl,b.bw.af,b.bw.av,b.bw.ai,b.bw.Rest⟩:I))else some false)>>=λr=>some (bif t37 then r else false)
theorem TX:bb aeP yw:= .bm (.k Cl .n)
def ph:Int×ah×ah->Option ((Bool) ⊕ (ah×ah))
 |(i,a,b)=>
 if (i<(a.bg.length:Int):Bool) then if aH i a.bg.length then some (a.bg.getD i.toNat dN)>>=λc=>if aH i b.bg.length then some (b.bg.getD i.toNat dN)>>=λd=>if !(hK c.af d.af&&(jA c.Name d.Name&&true)) then some (.inl false)else ph (aM .i64 i 1,a,b)else none else none else some (.inr (a,b))
  partial_fixpoint
theorem TQ:cS 153 0 [0] OK ph:= .rx ph.partial_correctness
def pj:Int×ah×ah->Option ((Bool) ⊕ (Unit))
 |(a,d,e)=>
 if (a<(d.ag.length:Int):Bool) then if aH a d.ag.length then some (d.ag.getD a.toNat aC)>>=λb=>if aH a e.ag.length then some (e.ag.getD a.toNat aC)>>=λc=>yw ((⟨b.af,b.Name,b.au,b.cn,b.bW,I.eta b.bw⟩:aU),(⟨c.af,c.Name,c.au,c.cn,c.bW,I.eta c.bw⟩:aU))>>=λr=>if !r then some (.inl false)else pj (aM .i64 a 1,d,e)else none else none else some (.inr ())
  partial_fixpoint
theorem TR:cS 153 0 [1] OL pj:= .rx pj.partial_correctness (.k TX .n)
def Cs(g:ah×ah):Option Bool:=
 match g with
 |(a,b)=>
 if(bif bif bif bif bif bif bif bif bif (!(a.Kind=b.Kind:Bool))then true else(!(a.Name=b.Name:Bool))then true else(!(a.bB=b.bB:Bool))then true else(!(a.bF=b.bF:Bool))then true else(!(a.Max=b.Max:Bool))then true else(!(a.Key=b.Key:Bool))then true else(!(a.aG=b.aG:Bool))then true else(!(fu a.Open b.Open))then true else(!((a.bg.length:Int)=(b.bg.length:Int):Bool))then true else(!((a.ag.length:Int)=(b.ag.length:Int):Bool))) then some false else ph (0,(⟨a.Kind,a.Name,a.bB,a.bF,a.Max,a.bg,a.ag,a.Key,a.aG,a.Open⟩:ah),(⟨b.Kind,b.Name,b.bB,b.bF,b.Max,b.bg,b.ag,b.Key,b.aG,b.Open⟩:ah))>>=λo=>match o with
 |.inl d=>
 some d
 |.inr c=>
 pj (0,c.1,c.2)>>=λe=>match e with
 |.inl f=>
 some f
 |.inr i=>
 some true
theorem UY:bb aeB Cs:= .bm .n (.k TQ (.k TR .n))
def yJ(b:Int):Option Bool:=
 some (bif bif bif decide (97<=b)then decide (b<=122)else false then true else bif decide (65<=b)then decide (b<=90)else false then true else decide (b=95))
theorem Sv:bb aeQ yJ:= .bm
def B6(b:Int):Option Bool:=
 some (bif decide (48<=b)then decide (b<=57)else false)
theorem VY:bb aeR B6:= .bm
def oQ:aj×Int->Option ((Bool) ⊕ (Unit))
 |(a,i)=>
 if (i<(a.length:Int):Bool) then if aH i a.length then yJ (fr a i)>>=λb=>some (!b)>>=λt27=>if(aH i a.length||(!t27)) then (if t27 then B6 (fr a i)else some false)>>=λc=>if(bif t27 then(!c)else false) then some (.inl false)else oQ (a,aM .i64 i 1)else none else none else some (.inr ())
  partial_fixpoint
theorem TI:cS 155 0 [0] OM oQ:= .rx oQ.partial_correctness (.k Sv (.k VY .n))
def sx(s:aj):Option Bool:=
 some (bif decide (s=[])then true else decide (24<(s.length:Int)))>>=λt10=>if(aH 0 s.length||(!(!t10))) then (if !t10 then yJ (fr s 0)else some false)>>=λr=>if(bif t10 then true else(!r)) then some false else oQ (s,0)>>=λo=>match o with
 |.inl a=>
 some a
 |.inr b=>
 some true else none
theorem FW:bb aeD sx:= .bm (.k Sv .n) (.k TI .n)
def xK:Int×Int->Option Bool
 |(a,n)=>
 some (bif bif decide (a<n)then decide (1<=n)else false then decide (n<=1000)else false)
theorem Sc:bb aeS xK:= .bm
def nj:List c6×Int×Int->Option ((Bool) ⊕ (List c6×Int))
 |(a,b,k)=>
 if (k<b:Bool) then if aH k a.length then if aH b a.length then if ((a.getD k.toNat dN).Name=(a.getD b.toNat dN).Name:Bool) then some (.inl false)else nj (a,b,aM .i64 k 1)else none else none else some (.inr (a,b))
  partial_fixpoint
theorem Up:cS 156 0 [0,0] Mb nj:= .rx nj.partial_correctness
def pn(g:List c6×Int×Int):Option ((Bool) ⊕ (List c6)):=
 match g with
 |(a,c,i)=>
 if (i<(a.length:Int):Bool) then if aH i a.length then xK (c,(a.getD i.toNat dN).af)>>=λr=>some (!r)>>=λt19=>if(aH i a.length||(!(!t19))) then (if !t19 then sx (a.getD i.toNat dN).Name else some false)>>=λf=>if(bif t19 then true else(!f)) then some (.inl false)else nj (a,i,0)>>=λd=>match d with
 |.inl e=>
 some (.inl e)
 |.inr b=>
 if aH b.2 b.1.length then pn (b.1,(b.1.getD b.2.toNat dN).af,aM .i64 b.2 1)else none else none else none else some (.inr a)
  partial_fixpoint
theorem TY:cS 156 0 [0] ON pn:= .rx pn.partial_correctness (.k Sc (.k FW .n)) (.k Up .n)
def yE(l:List c6):Option Bool:=
 pn (l,0,0)>>=λo=>match o with
 |.inl b=>
 some b
 |.inr a=>
 some (bif decide (1<=(a.length:Int))then decide ((a.length:Int)<=16)else false)
theorem Ux:bb aeE yE:= .bm .n (.k TY .n)
def nk:List aU×Bool×Int×Int×aU->Option ((Bool) ⊕ (List aU×Bool×Int×aU))
 |(b,d,c,k,a)=>
 if (k<c:Bool) then if aH k b.length then if ((b.getD k.toNat aC).Name=a.Name:Bool) then some (.inl false)else nk (b,d,c,aM .i64 k 1,(⟨a.af,a.Name,a.au,a.cn,a.bW,I.eta a.bw⟩:aU))else none else some (.inr (b,d,c,(⟨a.af,a.Name,a.au,a.cn,a.bW,I.eta a.bw⟩:aU)))
  partial_fixpoint
theorem TJ:cS 157 0 [0,0] Mc nk:= .rx nk.partial_correctness
def po(l:List aU×Bool×Int×Int):Option ((Bool) ⊕ (List aU×Bool)):=
 match l with
 |(b,d,e,i)=>
 if (i<(b.length:Int):Bool) then if aH i b.length then some (b.getD i.toNat aC)>>=λa=>xK (e,a.af)>>=λr=>some (!r)>>=λt23=>(if !t23 then sx a.Name else some false)>>=λj=>if(bif bif bif t23 then true else(!j)then true else bif a.cn then a.bW else false then true else bif (!d)then bif a.cn then true else a.bW else false) then some (.inl false)else some (!a.bW)>>=λt52=>(if t52 then jH (I.eta a.bw,(⟨0,false,0,[],0,[],[],[]⟩:I))else some false)>>=λk=>if(bif t52 then(!k)else false) then some (.inl false)else nk (b,d,i,0,(⟨a.af,a.Name,a.au,a.cn,a.bW,I.eta a.bw⟩:aU))>>=λf=>match f with
 |.inl g=>
 some (.inl g)
 |.inr c=>
 po (c.1,c.2.1,c.2.2.2.af,aM .i64 c.2.2.1 1)else none else some (.inr (b,d))
  partial_fixpoint
theorem TZ:cS 157 0 [0] OO po:= .rx po.partial_correctness (.k Sc (.k FW (.k Cl .n))) (.k TJ .n)
def vm(c:List aU×Bool):Option Bool:=
 match c with
 |(l,record)=>
 po (l,record,0,0)>>=λo=>match o with
 |.inl b=>
 some b
 |.inr a=>
 some (bif decide ((a.1.length:Int)<=16)then bif a.2 then true else decide (1<=(a.1.length:Int))else false)
theorem Uy:bb aeF vm:= .bm .n (.k TZ .n)
def hF(t:ah):Option Bool:=
 some (bif decide (t.Kind<1)then true else decide (9<t.Kind))>>=λt10=>(if !t10 then mx t else some aP)>>=λr=>(if !t10 then Cs (t,r)else some false)>>=λc=>some (bif t10 then true else(!c))>>=λt17=>(if !t17 then j4 t.Kind else some false)>>=λa=>(if((!t17)&&a) then sx t.Name else some false)>>=λd=>if(bif t17 then true else bif a then(!d)else false) then some false else if (t.Kind=2:Bool) then some (decide (t.bB<=t.bF))else if (t.Kind=3:Bool) then some (bif decide (0<=t.Max)then decide (t.Max<=200)else false)else if (t.Kind=4:Bool) then yE t.bg>>=λe=>some e else some (decide (t.Kind=5))>>=λt54=>if t54 then if t54 then vm (t.ag,decide (t.Kind=5))>>=λf=>some f else some (decide (t.Kind=7))>>=λt63=>if t63 then if t63 then some (bif decide (0<=t.Max)then decide (t.Max<=50)else false)else some true else if (t.Kind=8:Bool) then some (bif decide (0<=t.Max)then decide (t.Max<=50)else false)else some true else if (t.Kind=6:Bool) then vm (t.ag,decide (t.Kind=5))>>=λg=>some g else some (decide (t.Kind=7))>>=λb=>if b then if b then some (bif decide (0<=t.Max)then decide (t.Max<=50)else false)else some true else if (t.Kind=8:Bool) then some (bif decide (0<=t.Max)then decide (t.Max<=50)else false)else some true
theorem WA:bb aeg hF:= .bm (.k VX (.k UY (.k FX (.k FW (.k Ux (.k Uy .n))))))
def rk:Int×ah×aq->Option (ah×aq)
 |(i,a,b)=>
 if (i<(a.ag.length:Int):Bool) then if aH i a.ag.length then some [(a.ag.getD i.toNat aC).au]>>=λt19=>if room 8 (b++t19).length then rk (aM .i64 i 1,a,b++t19)else none else none else some (a,b)
  partial_fixpoint
theorem Uz:cS 114 0 [0] OP rk:= .rx rk.partial_correctness
def B'(t:ah):Option aq:=
 rk (0,t,[])>>=λo=>if (o.1.Kind=8:Bool) then some [o.1.Key]>>=λt27=>if room 8 (o.2++t27).length then some (o.2++t27)>>=λl=>if(bif bif (o.1.Kind=7:Bool)then true else (o.1.Kind=8:Bool)then true else (o.1.Kind=9:Bool)) then some [o.1.aG]>>=λt45=>if room 8 (l++t45).length then some (l++t45)else none else some l else none else if(bif bif (o.1.Kind=7:Bool)then true else (o.1.Kind=8:Bool)then true else (o.1.Kind=9:Bool)) then some [o.1.aG]>>=λa=>if room 8 (o.2++a).length then some (o.2++a)else none else some o.2
theorem VA:bb aeh B':= .bm .n (.k Uz .n)
def nL:Int×Int×List ah×Int×aj×Int×Int×Int×List c6×List aU×Int×Int×Bool->Option ((Int) ⊕ (Int×List ah×Int×aj×Int×Int×Int×List c6×List aU×Int×Int×Bool))
 |(d,k,a,b,c,e,f,g,i,j,l,m,n)=>
 if (k<d:Bool) then j4 b>>=λo=>if(aH k a.length||(!o)) then if(bif o then ((a.getD k.toNat aP).Name=c:Bool)else false) then some (.inl 1)else nL (d,aM .i64 k 1,a,b,c,e,f,g,i,j,l,m,n)else none else some (.inr (d,a,b,c,e,f,g,i,j,l,m,n))
  partial_fixpoint
theorem T0:cS 79 0 [0,0] MB nL:= .rx nL.partial_correctness (.k FX .n)
def q9:Int×aq×Int×List ah×Int×aj×Int×Int×Int×List c6×List aU×Int×Int×Bool->Option ((Int) ⊕ (Int×List ah×Int×aj×Int×Int×Int×List c6×List aU×Int×Int×Bool))
 |(o,l,a,b,c,d,e,f,g,i,j,k,m,n)=>
 if (a<(l.length:Int):Bool) then if aH a l.length then some (decide (l.getD a.toNat 0<0))>>=λt58=>if(aH a l.length||(!(!t58))) then if(bif t58 then true else ((b.length:Int)<=l.getD a.toNat 0:Bool)) then some (.inl 4)else q9 (o,l,aM .i64 a 1,b,c,d,e,f,g,i,j,k,m,n)else none else none else some (.inr (o,b,c,d,e,f,g,i,j,k,m,n))
  partial_fixpoint
theorem T1:cS 79 0 [1,0] MC q9:= .rx q9.partial_correctness
def oS(m:Int×List ah):Option ((Int) ⊕ (Unit)):=
 match m with
 |(i,b)=>
 if (i<(b.length:Int):Bool) then if aH i b.length then some (b.getD i.toNat aP)>>=λc=>hF c>>=λr=>if !r then some (.inl 1)else nL (i,0,b,c.Kind,c.Name,c.bB,c.bF,c.Max,c.bg,c.ag,c.Key,c.aG,c.Open)>>=λe=>match e with
 |.inl f=>
 some (.inl f)
 |.inr a=>
 B' (⟨a.2.2.1,a.2.2.2.1,a.2.2.2.2.1,a.2.2.2.2.2.1,a.2.2.2.2.2.2.1,a.2.2.2.2.2.2.2.1,a.2.2.2.2.2.2.2.2.1,a.2.2.2.2.2.2.2.2.2.1,a.2.2.2.2.2.2.2.2.2.2.1,a.2.2.2.2.2.2.2.2.2.2.2⟩:ah)>>=λk=>q9 (a.1,k,0,a.2.1,a.2.2.1,a.2.2.2.1,a.2.2.2.2.1,a.2.2.2.2.2.1,a.2.2.2.2.2.2.1,a.2.2.2.2.2.2.2.1,a.2.2.2.2.2.2.2.2.1,a.2.2.2.2.2.2.2.2.2.1,a.2.2.2.2.2.2.2.2.2.2.1,a.2.2.2.2.2.2.2.2.2.2.2)>>=λg=>match g with
 |.inl j=>
 some (.inl j)
 |.inr d=>
 some (decide (d.2.2.1=8))>>=λt71=>if(aH d.2.2.2.2.2.2.2.2.2.1 d.2.1.length||(!t71)) then (if t71 then yA (d.2.1.getD d.2.2.2.2.2.2.2.2.2.1.toNat aP).Kind else some false)>>=λl=>if(bif t71 then(!l)else false) then some (.inl 1)else oS (aM .i64 d.1 1,d.2.1)else none else none else some (.inr ())
  partial_fixpoint
theorem UZ:cS 79 0 [0] QJ oS:= .rx oS.partial_correctness (.k WA (.k VA (.k Sq .n))) (.k T0 (.k T1 .n))
def vv(s:aQ):Option Int:=
 if (32<(s.Types.length:Int):Bool) then some 3 else oS (0,s.Types)>>=λo=>match o with
 |.inl a=>
 some a
 |.inr b=>
 some 0
theorem SB:bb afk vv:= .bm .n (.k UZ .n)
def kH:aQ×Int->Option Int
 |(s,t)=>
 vv s>>=λr=>if !(r=0:Bool) then some r else if(bif (t<0:Bool)then true else ((s.Types.length:Int)<=t:Bool)) then some 4 else some 0
theorem VZ:bb afh kH:= .bm (.k SB .n)
def F4:dv×dv->Option Int
 |(w,r)=>
 kH (w.cN,w.au)>>=λa=>if !(a=0:Bool) then some a else kH (r.cN,r.au)>>=λb=>some b
def hd:aq×Int->Option cT
 |(path,a)=>
 if room 8 ([]++path).length then some (⟨(⟨0,false,0,[],0,[],[],[]⟩:I),(⟨[]++path,a⟩:iW),false⟩:cT)else none
theorem oT:bb afn hd:= .bm
def oN:aj×Int×Int->Option Int
 |(a,b,i)=>
 if (i<(a.length:Int):Bool) then if aH i a.length then oN (a,aM .u64 (gy .u64 b 256) (bV .u64 (fr a i)),aM .i64 i 1)else none else some b
  partial_fixpoint
theorem T2:cS 158 0 [0] OQ oN:= .rx oN.partial_correctness
def BY(s:aj):Option (Int×Int):=
 some (decide (0<(s.length:Int)))>>=λt8=>if(aH 0 s.length||(!t8)) then if(bif t8 then (fr s 0=0:Bool)else false) then some (0,2)else if (8<(s.length:Int):Bool) then some (0,7)else oN (s,0,0)>>=λo=>some (o,0)else none
theorem UA:bb aeG BY:= .bm .n (.k T2 .n)
def xP(p:aj):Option (Int×Bool):=
 BY p>>=λr=>some (r.1,decide (r.2=0))
theorem UR:bb aei xP:= .bm (.k UA .n)
def BV(n:Int):Option Int:=
 if (b' n 2=0:Bool) then some (bV .i64 (fw .u64 n 2))else some (dh .i64 (dh .i64 0 (bV .i64 (fw .u64 n 2))) 1)
theorem U0:bb aej BV:= .bm
def lJ:aq×Int->Option aq
 |(path,step)=>
 if room 8 ([]++path).length then some ([]++path)>>=λl=>some [step]>>=λt9=>if room 8 (l++t9).length then some (l++t9)else none else none
theorem sJ:bb aek lJ:= .bm
def sy:aj×Int×Int×Int->Option ((Int×Int×Int) ⊕ (Unit))
 |(a,n,b,i)=>
 if (i<10:Bool) then if (i=(a.length:Int):Bool) then some (.inl (0,0,10))else if aH i a.length then some (bV .u64 (fr a i))>>=λt20=>if(bif (i=9:Bool)then (1<t20:Bool)else false) then some (.inl (0,0,7))else some (aM .u64 n (gy .u64 (b' t20 128) b))>>=λt32=>if (t20<128:Bool) then if(bif (t20=0:Bool)then (0<i:Bool)else false) then some (.inl (0,0,2))else some (.inl (t32,aM .i64 i 1,0))else sy (a,t32,gy .u64 b 128,aM .i64 i 1)else none else some (.inr ())
  partial_fixpoint
theorem Uq:cS 199 0 [0] OR sy:= .rx sy.partial_correctness
def uU(s:aj):Option (Int×Int×Int):=
 sy (s,0,1,0)>>=λo=>match o with
 |.inl a=>
 some (a.1,a.2.1,a.2.2)
 |.inr b=>
 some (0,0,7)
theorem F5:bb aeT uU:= .bm .n (.k Uq .n)
def x4(a:aj):Option (Int×aj×Int):=
 uU a>>=λr=>if(bif bif (!(r.2.2=0:Bool))then true else (r.1<1:Bool)then true else (1000<r.1:Bool)) then some (0,[],12)else if dU r.2.1 (a.length:Int) a.length then some (bV .i64 r.1,d' a r.2.1 (a.length:Int),0)else none
theorem WB:bb aeH x4:= .bm (.k F5 .n)
def nX(v:I):Option cT:=
 some (⟨I.eta v,(⟨[],0⟩:iW),true⟩:cT)
theorem xQ:bb ael nX:= .bm
def x5(s:aj):Option (aj×aj×Bool):=
 uU s>>=λr=>if(bif (!(r.2.2=0:Bool))then true else (bV .u64 (dh .i64 (s.length:Int) r.2.1)<r.1:Bool)) then some ([],[],false)else some (aM .i64 r.2.1 (bV .i64 r.1))>>=λt30=>if dU r.2.1 t30 s.length then some (aM .i64 r.2.1 (bV .i64 r.1))>>=λt36=>if dU t36 (s.length:Int) s.length then some (d' s r.2.1 t30,d' s t36 (s.length:Int),true)else none else none
theorem R2:bb aeV x5:= .bm (.k F5 .n)
def s0:aj×List aj->Option ((Int) ⊕ (List aj))
 |(b,a)=>
 if !(b=[]:Bool) then x5 b>>=λr=>if !r.2.2 then some (.inl 12)else some [r.1]>>=λt20=>if room 16 (a++t20).length then s0 (r.2.1,a++t20)else none else some (.inr a)
  partial_fixpoint
theorem U1:cS 160 0 [0] OS s0:= .rx s0.partial_correctness (.k R2 .n)
def vw(c:aj):Option (List aj×Int):=
 s0 (c,[])>>=λo=>match o with
 |.inl a=>
 some ([],a)
 |.inr b=>
 some (b,0)
theorem SC:bb aeI vw:= .bm .n (.k U1 .n)
def qw:Int×aq×List aj×Int×List ah×ah×Int×Bool×Int×aj×Int×Int×Bool×Int×Bool×Int×aj×Int×List I->Option ((cT) ⊕ (Int×aq×List aj×List ah×ah×Int×Bool×Int×aj×Int×Int×Bool×Int×Bool×Int×aj×Int×List I))
 |(u,c,t,b,e,f,g,i,j,k,l,m,n,o,p,q,r,s,a)=>
 if (b<(a.length:Int):Bool) then some (dh .i64 b 1)>>=λt87=>if aH t87 a.length then if (t87.toNat<a.length:Bool) then if aH b a.length then if (b.toNat<a.length:Bool) then nQ (I.eta (a.getD t87.toNat ar),I.eta (a.getD b.toNat ar))>>=λv=>if (0<=v:Bool) then hd (c,1)>>=λd=>some (.inl (⟨I.eta d.Value,d.dQ,d.cj⟩:cT))else qw (u,c,t,aM .i64 b 1,e,f,g,i,j,k,l,m,n,o,p,q,r,s,a)else none else none else none else none else some (.inr (u,c,t,e,f,g,i,j,k,l,m,n,o,p,q,r,s,a))
  partial_fixpoint
theorem Ul:cS 121 0 [1] OT qw:= .rx qw.partial_correctness (.k Cq (.k oT .n))
def q':aj×Int×List cQ->Option ((Int) ⊕ (List cQ))
 |(a,d,b)=>
 if !(a=[]:Bool) then uU a>>=λr=>if(bif bif (!(r.2.2=0:Bool))then true else (2001<r.1:Bool)then true else (bV .i64 (fw .u64 r.1 2)<=d:Bool)) then some (.inl 12)else if dU r.2.1 (a.length:Int) a.length then x5 (d' a r.2.1 (a.length:Int))>>=λc=>if !c.2.2 then some (.inl 12)else some (bV .i64 (fw .u64 r.1 2))>>=λt45=>some [(⟨t45,decide (b' r.1 2=1),c.1⟩:cQ)]>>=λt54=>if room 32 (b++t54).length then q' (c.2.1,t45,b++t54)else none else none else some (.inr b)
  partial_fixpoint
theorem US:cS 161 0 [0] OU q':= .rx q'.partial_correctness (.k F5 (.k R2 .n))
def xR(c:aj):Option (List cQ×Int):=
 q' (c,0,[])>>=λo=>match o with
 |.inl a=>
 some ([],a)
 |.inr b=>
 some (b,0)
theorem Ur:bb aeJ xR:= .bm .n (.k US .n)
def oU:List cQ×Int×Int->Option ((Int) ⊕ (Unit))
 |(a,b,i)=>
 if (i<(a.length:Int):Bool) then if aH i a.length then if ((a.getD i.toNat gk).af=b:Bool) then some (.inl i)else oU (a,b,aM .i64 i 1)else none else some (.inr ())
  partial_fixpoint
theorem U2:cS 162 0 [0] OV oU:= .rx oU.partial_correctness
def xX(b:List cQ×Int):Option Int:=
 match b with
 |(l,id)=>
 oU (l,id,0)>>=λo=>match o with
 |.inl a=>
 some a
 |.inr c=>
 some (-1)
theorem V0:bb aeK xX:= .bm .n (.k U2 .n)
def oR:aq×List cQ×Int×ah×Int×Bool×Int×aj×Int×Int×Bool×Int×Bool×Int×aj×Int×List I×List bY->Option ((cT) ⊕ (Int×Bool×Int×aj×Int×Int×Bool×Int×Bool×Int×aj×Int×List I×List bY))
 |(s,a,k,c,d,e,f,g,i,j,l,m,n,o,p,q,r,b)=>
 if (k<(a.length:Int):Bool) then if aH k a.length then hC (c,(a.getD k.toNat gk).af)>>=λu=>if u.2 then oR (s,a,aM .i64 k 1,c,d,e,f,g,i,j,l,m,n,o,p,q,r,b)else if aH k a.length then if(a.getD k.toNat gk).cn then if aH k a.length then lJ (s,(a.getD k.toNat gk).af)>>=λv=>hd (v,6)>>=λt=>some (.inl (⟨I.eta t.Value,t.dQ,t.cj⟩:cT))else none else if aH k a.length then if aH k a.length then some [(⟨(a.getD k.toNat gk).af,(a.getD k.toNat gk).Data⟩:bY)]>>=λt135=>if room 24 (b++t135).length then oR (s,a,aM .i64 k 1,c,d,e,f,g,i,j,l,m,n,o,p,q,r,b++t135)else none else none else none else none else none else some (.inr (d,e,f,g,i,j,l,m,n,o,p,q,r,b))
  partial_fixpoint
theorem UT:cS 122 0 [1] OW oR:= .rx oR.partial_correctness (.k rh (.k sJ (.k oT .n)))
mutual
def jI:aQ×Int×aj×Int×aq->Option cT
 |(s,t,p,v,path)=>
 if aH t s.Types.length then some (s.Types.getD t.toNat aP)>>=λc=>if (200<v:Bool) then hd (path,8)>>=λr=>some (⟨I.eta r.Value,r.dQ,r.cj⟩:cT)else
 let i2:=λld=>
 let i1:=λlc=>
 let i0:=λkw=>
 let ip:=λks=>
 let io:=λkk=>
 if (c.Kind=6:Bool) then B7 (s,c,p,v,path)>>=λb0=>some (⟨I.eta b0.Value,b0.dQ,b0.cj⟩:cT)else if (c.Kind=7:Bool) then Ca (s,c,p,v,path)>>=λb1=>some (⟨I.eta b1.Value,b1.dQ,b1.cj⟩:cT)else if (c.Kind=8:Bool) then Cp (s,c,p,v,path)>>=λb2=>some (⟨I.eta b2.Value,b2.dQ,b2.cj⟩:cT)else if (c.Kind=5:Bool) then B2 (s,c,p,v,path)>>=λb3=>some (⟨I.eta b3.Value,b3.dQ,b3.cj⟩:cT)else nX (⟨c.Kind,ld,lc,kw,ks,[],kk,[]⟩:I)>>=λb4=>some (⟨I.eta b4.Value,b4.dQ,b4.cj⟩:cT)
 if(bif (c.Kind=9:Bool)then(!(p=[]:Bool))else false) then if aH 0 p.length then if !(fr p 0=1:Bool) then hd (path,1)>>=λbS=>some (⟨I.eta bS.Value,bS.dQ,bS.cj⟩:cT)else if dU 1 (p.length:Int) p.length then lJ (path,0)>>=λjp=>jI (s,c.aG,d' p 1 (p.length:Int),aM .i64 v 1,jp)>>=λL=>if !L.cj then some (⟨I.eta L.Value,L.dQ,L.cj⟩:cT)else io [I.eta L.Value]else none else none else io []
 if (c.Kind=4:Bool) then xP p>>=λQ=>if(bif bif (!Q.2)then true else (Q.1<1:Bool)then true else (1000<Q.1:Bool)) then hd (path,1)>>=λbI=>some (⟨I.eta bI.Value,bI.dQ,bI.cj⟩:cT)else some (bV .i64 Q.1)>>=λi7=>sv (c,i7)>>=λi9=>if(bif (!i9.2)then(!c.Open)else false) then hd (path,4)>>=λbQ=>some (⟨I.eta bQ.Value,bQ.dQ,bQ.cj⟩:cT)else ip i7 else ip 0
 if (c.Kind=3:Bool) then if (c.Max<(p.length:Int):Bool) then hd (path,3)>>=λbv=>some (⟨I.eta bv.Value,bv.dQ,bv.cj⟩:cT)else i0 p else i0 []
 if (c.Kind=2:Bool) then xP p>>=λi6=>if !i6.2 then hd (path,1)>>=λbi=>some (⟨I.eta bi.Value,bi.dQ,bi.cj⟩:cT)else BV i6.1>>=λbn=>if(bif (bn<c.bB:Bool)then true else (c.bF<bn:Bool)) then hd (path,2)>>=λbs=>some (⟨I.eta bs.Value,bs.dQ,bs.cj⟩:cT)else i1 bn else i1 0
 if (c.Kind=1:Bool) then if(bif (!(p=[]:Bool))then(!(p=[1]:Bool))else false) then hd (path,1)>>=λa9=>some (⟨I.eta a9.Value,a9.dQ,a9.cj⟩:cT)else some (!(decide (p=[])))>>=λt44=>i2 t44 else i2 false else none
  partial_fixpoint
def Cp(f:aQ×ah×aj×Int×aq):Option cT:=
 match f with
 |(s,c,p,v,path)=>
 vw p>>=λr=>if(bif (!(r.2=0:Bool))then true else (b' (r.1.length:Int) 2=1:Bool)) then hd (path,1)>>=λy=>some (⟨I.eta y.Value,y.dQ,y.cj⟩:cT)else if (c.Max<fw .i64 (r.1.length:Int) 2:Bool) then hd (path,3)>>=λq=>some (⟨I.eta q.Value,q.dQ,q.cj⟩:cT)else sS (v,path,r.1,0,s.Types,c,0,false,0,[],0,0,false,c.Kind,false,0,[],0,[])>>=λo=>match o with
 |.inl w=>
 some (⟨I.eta w.Value,w.dQ,w.cj⟩:cT)
 |.inr a=>
 qw (a.1,a.2.1,a.2.2.1,1,a.2.2.2.1,a.2.2.2.2.1,a.2.2.2.2.2.1,a.2.2.2.2.2.2.1,a.2.2.2.2.2.2.2.1,a.2.2.2.2.2.2.2.2.1,a.2.2.2.2.2.2.2.2.2.1,a.2.2.2.2.2.2.2.2.2.2.1,a.2.2.2.2.2.2.2.2.2.2.2.1,a.2.2.2.2.2.2.2.2.2.2.2.2.1,a.2.2.2.2.2.2.2.2.2.2.2.2.2.1,a.2.2.2.2.2.2.2.2.2.2.2.2.2.2.1,a.2.2.2.2.2.2.2.2.2.2.2.2.2.2.2.1,a.2.2.2.2.2.2.2.2.2.2.2.2.2.2.2.2.1,a.2.2.2.2.2.2.2.2.2.2.2.2.2.2.2.2.2)>>=λa3=>match a3 with
 |.inl A=>
 some (⟨I.eta A.Value,A.dQ,A.cj⟩:cT)
 |.inr e=>
 sT (e.1,e.2.1,e.2.2.1,0,e.2.2.2.1,e.2.2.2.2.1,e.2.2.2.2.2.1,e.2.2.2.2.2.2.1,e.2.2.2.2.2.2.2.1,e.2.2.2.2.2.2.2.2.1,e.2.2.2.2.2.2.2.2.2.1,e.2.2.2.2.2.2.2.2.2.2.1,e.2.2.2.2.2.2.2.2.2.2.2.1,e.2.2.2.2.2.2.2.2.2.2.2.2.1,e.2.2.2.2.2.2.2.2.2.2.2.2.2.1,e.2.2.2.2.2.2.2.2.2.2.2.2.2.2.1,e.2.2.2.2.2.2.2.2.2.2.2.2.2.2.2.1,e.2.2.2.2.2.2.2.2.2.2.2.2.2.2.2.2.1,e.2.2.2.2.2.2.2.2.2.2.2.2.2.2.2.2.2,[])>>=λi8=>match i8 with
 |.inl a4=>
 some (⟨I.eta a4.Value,a4.dQ,a4.cj⟩:cT)
 |.inr B=>
 nX (⟨B.2.2.2.2.2.2.2.1,B.2.2.2.2.2.2.2.2.1,B.2.2.2.2.2.2.2.2.2.1,B.2.2.2.2.2.2.2.2.2.2.1,B.2.2.2.2.2.2.2.2.2.2.2.1,B.2.2.2.2.2.2.2.2.2.2.2.2.1,B.2.2.2.2.2.2.2.2.2.2.2.2.2,[]⟩:I)>>=λj=>some (⟨I.eta j.Value,j.dQ,j.cj⟩:cT)
  partial_fixpoint
def Ca(f:aQ×ah×aj×Int×aq):Option cT:=
 match f with
 |(s,c,p,v,path)=>
 vw p>>=λr=>if !(r.2=0:Bool) then hd (path,1)>>=λy=>some (⟨I.eta y.Value,y.dQ,y.cj⟩:cT)else if (c.Max<(r.1.length:Int):Bool) then hd (path,3)>>=λq=>some (⟨I.eta q.Value,q.dQ,q.cj⟩:cT)else sq (v,path,r.1,0,s.Types,c,0,false,0,[],0,0,false,c.Kind,false,0,[],0,[])>>=λo=>match o with
 |.inl w=>
 some (⟨I.eta w.Value,w.dQ,w.cj⟩:cT)
 |.inr a=>
 nX (⟨a.2.2.2.2.2.2.2.1,a.2.2.2.2.2.2.2.2.1,a.2.2.2.2.2.2.2.2.2.1,a.2.2.2.2.2.2.2.2.2.2.1,a.2.2.2.2.2.2.2.2.2.2.2.1,[],a.2.2.2.2.2.2.2.2.2.2.2.2,[]⟩:I)>>=λj=>some (⟨I.eta j.Value,j.dQ,j.cj⟩:cT)
  partial_fixpoint
def B2(f:aQ×ah×aj×Int×aq):Option cT:=
 match f with
 |(s,c,p,v,path)=>
 xR p>>=λr=>if !(r.2=0:Bool) then hd (path,1)>>=λy=>some (⟨I.eta y.Value,y.dQ,y.cj⟩:cT)else mr (v,path,r.1,0,s.Types,c,0,false,0,[],0,0,false,c.Kind,false,0,[],0,[])>>=λo=>match o with
 |.inl w=>
 some (⟨I.eta w.Value,w.dQ,w.cj⟩:cT)
 |.inr a=>
 oR (a.1,a.2.1,0,a.2.2.1,a.2.2.2.1,a.2.2.2.2.1,a.2.2.2.2.2.1,a.2.2.2.2.2.2.1,a.2.2.2.2.2.2.2.1,a.2.2.2.2.2.2.2.2.1,a.2.2.2.2.2.2.2.2.2.1,a.2.2.2.2.2.2.2.2.2.2.1,a.2.2.2.2.2.2.2.2.2.2.2.1,a.2.2.2.2.2.2.2.2.2.2.2.2.1,a.2.2.2.2.2.2.2.2.2.2.2.2.2.1,a.2.2.2.2.2.2.2.2.2.2.2.2.2.2.1,a.2.2.2.2.2.2.2.2.2.2.2.2.2.2.2,[])>>=λa3=>match a3 with
 |.inl A=>
 some (⟨I.eta A.Value,A.dQ,A.cj⟩:cT)
 |.inr e=>
 nX (⟨e.2.2.2.2.2.2.2.1,e.2.2.2.2.2.2.2.2.1,e.2.2.2.2.2.2.2.2.2.1,e.2.2.2.2.2.2.2.2.2.2.1,e.2.2.2.2.2.2.2.2.2.2.2.1,[],e.2.2.2.2.2.2.2.2.2.2.2.2.1,e.2.2.2.2.2.2.2.2.2.2.2.2.2⟩:I)>>=λq=>some (⟨I.eta q.Value,q.dQ,q.cj⟩:cT)
  partial_fixpoint
def B7:aQ×ah×aj×Int×aq->Option cT
 |(s,c,p,v,path)=>
 x4 p>>=λr=>if !(r.2.2=0:Bool) then hd (path,1)>>=λq=>some (⟨I.eta q.Value,q.dQ,q.cj⟩:cT)else hC (c,r.1)>>=λj=>if(bif (!j.2)then(!c.Open)else false) then hd (path,5)>>=λN=>some (⟨I.eta N.Value,N.dQ,N.cj⟩:cT)else if !j.2 then nX (⟨c.Kind,false,0,[],r.1,[],[],[(⟨r.1,r.2.1⟩:bY)]⟩:I)>>=λz=>some (⟨I.eta z.Value,z.dQ,z.cj⟩:cT)else if aH j.1 c.ag.length then lJ (path,r.1)>>=λba=>jI (s,(c.ag.getD j.1.toNat aC).au,r.2.1,aM .i64 v 1,ba)>>=λx=>if !x.cj then some (⟨I.eta x.Value,x.dQ,x.cj⟩:cT)else nX (⟨c.Kind,false,0,[],r.1,[],[I.eta x.Value],[]⟩:I)>>=λbe=>some (⟨I.eta be.Value,be.dQ,be.cj⟩:cT)else none
  partial_fixpoint
def sS:Int×aq×List aj×Int×List ah×ah×Int×Bool×Int×aj×Int×Int×Bool×Int×Bool×Int×aj×Int×List I->Option ((cT) ⊕ (Int×aq×List aj×List ah×ah×Int×Bool×Int×aj×Int×Int×Bool×Int×Bool×Int×aj×Int×List I))
 |(a2,a5,J,i,aI,aZ,gc,gd,ge,gl,gs,gt,g0,g1,g2,g3,g4,g5,a0)=>
 if (gy .i64 2 i<(J.length:Int):Bool) then some (gy .i64 2 i)>>=λt57=>if aH t57 J.length then lJ (a5,i)>>=λM=>jI ((⟨aI⟩:aQ),aZ.Key,J.getD t57.toNat [],aM .i64 a2 1,M)>>=λu=>if !u.cj then some (.inl (⟨I.eta u.Value,u.dQ,u.cj⟩:cT))else some [I.eta u.Value]>>=λt74=>if room 120 (a0++t74).length then sS (a2,a5,J,aM .i64 i 1,aI,aZ,gc,gd,ge,gl,gs,gt,g0,g1,g2,g3,g4,g5,a0++t74)else none else none else some (.inr (a2,a5,J,aI,aZ,gc,gd,ge,gl,gs,gt,g0,g1,g2,g3,g4,g5,a0))
  partial_fixpoint
def sT:Int×aq×List aj×Int×List ah×ah×Int×Bool×Int×aj×Int×Int×Bool×Int×Bool×Int×aj×Int×List I×List I->Option ((cT) ⊕ (Int×Bool×Int×aj×Int×Int×Bool×Int×Bool×Int×aj×Int×List I×List I))
 |(i3,i5,P,O,g6,g7,g8,g9,he,hk,hm,hs,ht,hu,hw,hH,h0,h1,ii,a1)=>
 if (gy .i64 2 O<(P.length:Int):Bool) then some (aM .i64 (gy .i64 2 O) 1)>>=λt112=>if aH t112 P.length then lJ (i5,O)>>=λba=>jI ((⟨g6⟩:aQ),g7.aG,P.getD t112.toNat [],aM .i64 i3 1,ba)>>=λx=>if !x.cj then some (.inl (⟨I.eta x.Value,x.dQ,x.cj⟩:cT))else some [I.eta x.Value]>>=λt129=>if room 120 (a1++t129).length then sT (i3,i5,P,aM .i64 O 1,g6,g7,g8,g9,he,hk,hm,hs,ht,hu,hw,hH,h0,h1,ii,a1++t129)else none else none else some (.inr (g8,g9,he,hk,hm,hs,ht,hu,hw,hH,h0,h1,ii,a1))
  partial_fixpoint
def sq:Int×aq×List aj×Int×List ah×ah×Int×Bool×Int×aj×Int×Int×Bool×Int×Bool×Int×aj×Int×List I->Option ((cT) ⊕ (Int×Bool×Int×aj×Int×Int×Bool×Int×Bool×Int×aj×Int×List I))
 |(F,i4,l,i,ce,ci,cp,cs,c',ds,dt,eq,es,ex,fd,ff,fo,fs,R)=>
 if (i<(l.length:Int):Bool) then if aH i l.length then lJ (i4,i)>>=λM=>jI ((⟨ce⟩:aQ),ci.aG,l.getD i.toNat [],aM .i64 F 1,M)>>=λu=>if !u.cj then some (.inl (⟨I.eta u.Value,u.dQ,u.cj⟩:cT))else some [I.eta u.Value]>>=λt62=>if room 120 (R++t62).length then sq (F,i4,l,aM .i64 i 1,ce,ci,cp,cs,c',ds,dt,eq,es,ex,fd,ff,fo,fs,R++t62)else none else none else some (.inr (cp,cs,c',ds,dt,eq,es,ex,fd,ff,fo,fs,R))
  partial_fixpoint
def mr:Int×aq×List cQ×Int×List ah×ah×Int×Bool×Int×aj×Int×Int×Bool×Int×Bool×Int×aj×Int×List I->Option ((cT) ⊕ (aq×List cQ×ah×Int×Bool×Int×aj×Int×Int×Bool×Int×Bool×Int×aj×Int×List I))
 |(F,K,E,i,S,D,U,W,X,Y,Z,ae,am,an,ap,ax,ay,aB,H)=>
 if (i<(D.ag.length:Int):Bool) then if aH i D.ag.length then some (D.ag.getD i.toNat aC)>>=λG=>xX (E,G.af)>>=λj=>if (j<0:Bool) then if !G.bW then lJ (K,G.af)>>=λM=>hd (M,7)>>=λu=>some (.inl (⟨I.eta u.Value,u.dQ,u.cj⟩:cT))else some [I.eta G.bw]>>=λt63=>if room 120 (H++t63).length then mr (F,K,E,aM .i64 i 1,S,D,U,W,X,Y,Z,ae,am,an,ap,ax,ay,aB,H++t63)else none else if aH j E.length then lJ (K,G.af)>>=λN=>jI ((⟨S⟩:aQ),G.au,(E.getD j.toNat gk).Data,aM .i64 F 1,N)>>=λz=>if !z.cj then some (.inl (⟨I.eta z.Value,z.dQ,z.cj⟩:cT))else some [I.eta z.Value]>>=λt89=>if room 120 (H++t89).length then mr (F,K,E,aM .i64 i 1,S,D,U,W,X,Y,Z,ae,am,an,ap,ax,ay,aB,H++t89)else none else none else none else some (.inr (K,E,D,U,W,X,Y,Z,ae,am,an,ap,ax,ay,aB,H))
  partial_fixpoint
end
theorem UU:eu oJ jI/\eu EC B2/\eN 122 0 [0] zK mr/\eu EB Cp/\eN 121 0 [2] zJ sT/\eN 121 0 [0] zI sS/\eu EA Ca/\eN 120 0 [0] zH sq/\eu Ez B7:=jI.mutual_partial_correctness (ej oJ) (ej EC) (eM 122 0 [0] zK) (ej EB) (eM 121 0 [2] zJ) (eM 121 0 [0] zI) (ej EA) (eM 120 0 [0] zH) (ej Ez)
 (λ_ _ _ _ _ h0 h1 d e f _ _ h=>eC h (.k oT (.k UR (.k U0 (.k FV (.k sJ (.k (cq oJ h0) (.k (cq Ez f) (.k (cq EA e) (.k (cq EB d) (.k (cq EC h1) (.k xQ .n))))))))))))
 (λ_ a _ _ h=>eC h (.k Ur (.k oT (.k xQ .n))) (.k (eV zK a) (.k UT .n)))
 (λ_ _ h0 a _ _ h=>eU zK a h (.k V0 (.k sJ (.k oT (.k (cq oJ h0) .n)))))
 (λ_ _ b ba _ _ h=>eC h (.k SC (.k oT (.k xQ .n))) (.k (eV zI ba) (.k Ul (.k (eV zJ b) .n))))
 (λ_ _ h0 b _ _ h=>eU zJ b h (.k sJ (.k (cq oJ h0) .n)))
 (λ_ _ h0 ba _ _ h=>eU zI ba h (.k sJ (.k (cq oJ h0) .n)))
 (λ_ c _ _ h=>eC h (.k SC (.k oT (.k xQ .n))) (.k (eV zH c) .n))
 (λ_ _ h0 c _ _ h=>eU zH c h (.k sJ (.k (cq oJ h0) .n)))
 (λ_ h0 _ _ h=>eC h (.k WB (.k oT (.k rh (.k xQ (.k sJ (.k (cq oJ h0) .n)))))))
theorem UB:bb oJ jI:=cq _ UU.1
def F9:aQ×Int×aj->Option (cT×Int)
 |(s,t,m)=>
 kH (s,t)>>=λr=>if !(r=0:Bool) then some ((⟨(⟨0,false,0,[],0,[],[],[]⟩:I),(⟨[],0⟩:iW),false⟩:cT),r)else if (4096<(m.length:Int):Bool) then hd ([],3)>>=λa=>some ((⟨I.eta a.Value,a.dQ,a.cj⟩:cT),0)else jI (s,t,m,1,[])>>=λb=>some ((⟨I.eta b.Value,b.dQ,b.cj⟩:cT),0)
theorem VB:bb ae2 F9:= .bm (.k VZ (.k oT (.k UB .n)))
def nU:aQ×Int×aj->Option (I×Int)
 |(s,t,m)=>
 F9 (s,t,m)>>=λr=>if(bif (r.2=0:Bool)then(!r.1.cj)else false) then some (I.eta r.1.Value,12)else some (I.eta r.1.Value,r.2)
theorem Sw:bb aeN nU:= .bm (.k VB .n)
def sK(v:I):Option Bool:=
 some (bif bif bif bif bif bif bif decide (v.Kind=1)then true else(!v.bM)then bif decide (v.Kind=2)then true else decide (v.bd=0)else false then bif decide (v.Kind=3)then true else decide (v.bl=[])else false then bif bif decide (v.Kind=4)then true else decide (v.Kind=6)then true else decide (v.af=0)else false then bif decide (v.Kind=8)then true else decide ((v.av.length:Int)=0)else false then bif decide (5<=v.Kind)then true else decide ((v.ai.length:Int)=0)else false then bif bif decide (v.Kind=5)then true else decide (v.Kind=6)then true else decide ((v.Rest.length:Int)=0)else false)
theorem VC:bb aem sK:= .bm
def jv:Int×Bool->Option Bool
 |(n,a)=>
 some (bif bif (!a)then decide (1<=n)else false then decide (n<=1000)else false)
theorem Sd:bb aen jv:= .bm
def j3:List bY×Int×ah->Option ((Bool) ⊕ (Unit))
 |(a,i,b)=>
 if (i<(a.length:Int):Bool) then if aH i a.length then hC (b,(a.getD i.toNat bX).af)>>=λr=>if aH i a.length then jv ((a.getD i.toNat bX).af,r.2)>>=λc=>some (!c)>>=λt31=>some (decide (0<i))>>=λt34=>if(aH i a.length||(!((!t31)&&t34))) then some (dh .i64 i 1)>>=λt43=>if(aH t43 a.length||(!((!t31)&&t34))) then if(bif t31 then true else bif t34 then ((a.getD i.toNat bX).af<=(a.getD t43.toNat bX).af:Bool)else false) then some (.inl false)else j3 (a,aM .i64 i 1,b)else none else none else none else none else some (.inr ())
  partial_fixpoint
theorem UC:cS 126 0 [0] OX j3:= .rx j3.partial_correctness (.k rh (.k Sd .n))
def qF(b:ah×List bY):Option Bool:=
 match b with
 |(t,l)=>
 j3 (l,0,t)>>=λo=>match o with
 |.inl a=>
 some a
 |.inr c=>
 some true
theorem VD:bb aeo qF:= .bm .n (.k UC .n)
def hZ:Int×I->Option ((Bool) ⊕ (Unit))
 |(b,a)=>
 if (b<(a.av.length:Int):Bool) then some (dh .i64 b 1)>>=λt270=>if aH t270 a.av.length then if aH b a.av.length then nQ (I.eta (a.av.getD t270.toNat ar),I.eta (a.av.getD b.toNat ar))>>=λc=>if (0<=c:Bool) then some (.inl false)else hZ (aM .i64 b 1,I.eta a)else none else none else some (.inr ())
  partial_fixpoint
theorem Us:cS 91 0 [1] QL hZ:= .rx hZ.partial_correctness (.k Cq .n)
mutual
def nr(c:aQ×Int×List I×Bool):Option Bool:=
 match c with
 |(s,t,l,plain)=>
 kD (t,l,plain,0,s.Types)>>=λo=>match o with
 |.inl u=>
 some u
 |.inr J=>
 some true
  partial_fixpoint
def iJ(c:aQ×Int×I×Bool):Option Bool:=
 match c with
 |(s,t,v,plain)=>
 if(bif (t<0:Bool)then true else ((s.Types.length:Int)<=t:Bool)) then some false else if aH t s.Types.length then some (s.Types.getD t.toNat aP)>>=λa=>some (!(decide (v.Kind=a.Kind)))>>=λt34=>(if !t34 then sK (I.eta v)else some false)>>=λr=>if(bif bif t34 then true else(!r)then true else bif plain then (0<(v.Rest.length:Int):Bool)else false) then some false else if (a.Kind=1:Bool) then some true else if (a.Kind=2:Bool) then some (bif decide (a.bB<=v.bd)then decide (v.bd<=a.bF)else false)else if (a.Kind=3:Bool) then some (decide ((v.bl.length:Int)<=a.Max))else if (a.Kind=4:Bool) then sv (a,v.af)>>=λw=>some (bif a.Open then(!plain)else false)>>=λt91=>(if((!w.2)&&t91) then jv (v.af,w.2)else some false)>>=λS=>some (bif w.2 then true else bif t91 then S else false)else if (a.Kind=5:Bool) then some (!(decide ((v.ai.length:Int)=(a.ag.length:Int))))>>=λt107=>(if !t107 then qF (a,v.Rest)else some false)>>=λU=>if(bif t107 then true else(!U)) then some false else jc (plain,0,s.Types,I.eta v,a.Kind,a.Name,a.bB,a.bF,a.Max,a.bg,a.ag,a.Key,a.aG,a.Open)>>=λo=>match o with
 |.inl u=>
 some u
 |.inr J=>
 some true else if (a.Kind=6:Bool) then hC (a,v.af)>>=λp=>if p.2 then some (bif decide ((v.ai.length:Int)=1)then decide ((v.Rest.length:Int)=0)else false)>>=λt156=>if(aH p.1 a.ag.length||(!t156)) then if(aH 0 v.ai.length||(!t156)) then (if t156 then iJ (s,(a.ag.getD p.1.toNat aC).au,I.eta (v.ai.getD (0:Int).toNat ar),plain)else some false)>>=λW=>some (bif t156 then W else false)else none else none else some (bif a.Open then(!plain)else false)>>=λt177=>(if t177 then jv (v.af,p.2)else some false)>>=λM=>some (bif bif bif t177 then M else false then decide ((v.ai.length:Int)=0)else false then decide ((v.Rest.length:Int)=1)else false)>>=λt195=>if(aH 0 v.Rest.length||(!t195)) then some (bif t195 then decide ((v.Rest.getD (0:Int).toNat bX).af=v.af)else false)else none else if (a.Kind=7:Bool) then some (decide ((v.ai.length:Int)<=a.Max))>>=λt213=>(if t213 then nr (s,a.aG,v.ai,plain)else some false)>>=λN=>some (bif t213 then N else false)else if (a.Kind=8:Bool) then some (bif decide (a.Max<(v.av.length:Int))then true else(!(decide ((v.ai.length:Int)=(v.av.length:Int)))))>>=λt239=>(if !t239 then nr (s,a.Key,v.av,plain)else some false)>>=λO=>some (bif t239 then true else(!O))>>=λt249=>(if !t249 then nr (s,a.aG,v.ai,plain)else some false)>>=λP=>if(bif t249 then true else(!P)) then some false else hZ (1,I.eta v)>>=λK=>match K with
 |.inl L=>
 some L
 |.inr X=>
 some true else some (decide ((v.ai.length:Int)<=1))>>=λt283=>(if t283 then nr (s,a.aG,v.ai,plain)else some false)>>=λQ=>some (bif t283 then Q else false)else none
  partial_fixpoint
def kD:Int×List I×Bool×Int×List ah->Option ((Bool) ⊕ (Unit))
 |(x,j,e,i,b)=>
 if (i<(j.length:Int):Bool) then if aH i j.length then iJ ((⟨b⟩:aQ),x,I.eta (j.getD i.toNat ar),e)>>=λr=>if !r then some (.inl false)else kD (x,j,e,aM .i64 i 1,b)else none else some (.inr ())
  partial_fixpoint
def jc:Bool×Int×List ah×I×Int×aj×Int×Int×Int×List c6×List aU×Int×Int×Bool->Option ((Bool) ⊕ (Unit))
 |(e,i,b,f,A,B,D,E,F,G,q,H,y,z)=>
 if (i<(f.ai.length:Int):Bool) then if aH i q.length then if aH i f.ai.length then iJ ((⟨b⟩:aQ),(q.getD i.toNat aC).au,I.eta (f.ai.getD i.toNat ar),e)>>=λR=>if !R then some (.inl false)else jc (e,aM .i64 i 1,b,I.eta f,A,B,D,E,F,G,q,H,y,z)else none else none else some (.inr ())
  partial_fixpoint
end
theorem V1:eu ED nr/\eN 127 0 [0] zj kD/\eu uG iJ/\eN 91 0 [0] xm jc:=nr.mutual_partial_correctness (ej ED) (eM 127 0 [0] zj) (ej uG) (eM 91 0 [0] xm)
 (λ_ h1 _ _ h=>eC h .n (.k (eV zj h1) .n))
 (λ_ _ h1 a _ _ h=>eU zj h1 h (.k (cq uG a) .n))
 (λ_ _ _ h0 a b _ _ h=>eC h (.k VC (.k FV (.k Sd (.k VD (.k rh (.k (cq uG a) (.k (cq ED h0) .n))))))) (.k (eV xm b) (.k Us .n)))
 (λ_ _ a b _ _ h=>eU xm b h (.k (cq uG a) .n))
theorem R3:bb uG iJ:=cq _ V1.2.2.1
def Ga:aQ×Int×I->Option Bool
 |(s,t,v)=>
 iJ (s,t,I.eta v,false)>>=λr=>some r
theorem VE:bb afl Ga:= .bm (.k R3 .n)
def sF:aQ×Int×I->Option Int
 |(s,t,v)=>
 vv s>>=λr=>if !(r=0:Bool) then some r else if(bif (t<0:Bool)then true else ((s.Types.length:Int)<=t:Bool)) then some 4 else Ga (s,t,I.eta v)>>=λa=>if !a then some 1 else some 0
theorem SD:bb ae1 sF:= .bm (.k SB (.k VE .n))
def B3(v:I):Option (Int×Bool×Int×aj×Int×List I×List I×List bY):=
 if room 120 ([]++v.av).length then if room 120 ([]++v.ai).length then if room 24 ([]++v.Rest).length then some (v.Kind,v.bM,v.bd,v.bl,v.af,[]++v.av,[]++v.ai,[]++v.Rest)else none else none else none
theorem Ut:bb afp B3:= .bm
mutual
def oV(v:I):Option I:=
 B3 (I.eta v)>>=λr=>if (r.1=5:Bool) then q7 (0,r.1,r.2.1,r.2.2.1,r.2.2.2.1,r.2.2.2.2.1,[],0,false,0,[],0,r.2.2.2.2.2.1,r.2.2.2.2.2.2.1)>>=λo=>some (⟨o.1,o.2.1,o.2.2.1,o.2.2.2.1,o.2.2.2.2.1,o.2.2.2.2.2.2.2.2.2.2.2.1,o.2.2.2.2.2.2.2.2.2.2.2.2,o.2.2.2.2.2.1⟩:I)else q7 (0,r.1,r.2.1,r.2.2.1,r.2.2.2.1,r.2.2.2.2.1,r.2.2.2.2.2.2.2,0,false,0,[],0,r.2.2.2.2.2.1,r.2.2.2.2.2.2.1)>>=λc=>some (⟨c.1,c.2.1,c.2.2.1,c.2.2.2.1,c.2.2.2.2.1,c.2.2.2.2.2.2.2.2.2.2.2.1,c.2.2.2.2.2.2.2.2.2.2.2.2,c.2.2.2.2.2.1⟩:I)
  partial_fixpoint
def q7:Int×Int×Bool×Int×aj×Int×List bY×Int×Bool×Int×aj×Int×List I×List I->Option (Int×Bool×Int×aj×Int×List bY×Int×Bool×Int×aj×Int×List I×List I)
 |(i,e,f,j,p,q,t,u,w,x,y,z,A,a)=>
 if (i<(a.length:Int):Bool) then if aH i a.length then if (i.toNat<a.length:Bool) then oV (I.eta (a.getD i.toNat ar))>>=λB=>if aH i a.length then if (i.toNat<a.length:Bool) then q7 (aM .i64 i 1,e,f,j,p,q,t,u,w,x,y,z,A,a.set i.toNat (I.eta B))else none else none else none else none else some (e,f,j,p,q,t,u,w,x,y,z,A,a)
  partial_fixpoint
end
theorem T3:eu Bl oV/\eN 56 0 [0] xg q7:=oV.mutual_partial_correctness (ej Bl) (eM 56 0 [0] xg)
 (λ_ h1 _ _ h=>eC h (.k Ut .n) (.k (eV xg h1) .n))
 (λ_ _ h0 h1 _ _ h=>eU xg h1 h (.k (cq Bl h0) .n))
theorem U3:bb Bl oV:=cq _ T3.1
def vx:aQ×Int×I->Option Bool
 |(s,t,v)=>
 iJ (s,t,I.eta v,true)>>=λr=>some r
theorem V2:bb ae9 vx:= .bm (.k R3 .n)
def rq:aQ×Int×I->Option (I×Int)
 |(s,t,v)=>
 sF (s,t,I.eta v)>>=λr=>if !(r=0:Bool) then some ((⟨0,false,0,[],0,[],[],[]⟩:I),r)else oV (I.eta v)>>=λa=>vx (s,t,I.eta a)>>=λb=>if !b then some ((⟨0,false,0,[],0,[],[],[]⟩:I),12)else some (I.eta a,0)
theorem V3:bb aeU rq:= .bm (.k SD (.k U3 (.k V2 .n)))
def F6:aQ×Int×I×aQ×Int->Option Int
 |(w,wt,v,r,rt)=>
 kH (w,wt)>>=λa=>if !(a=0:Bool) then some a else kH (r,rt)>>=λb=>if !(b=0:Bool) then some b else vx (w,wt,I.eta v)>>=λc=>if !c then some 1 else some 0
def k4(path:aq):Option dJ:=
 if room 8 ([]++path).length then some (⟨(⟨0,false,0,[],0,[],[],[]⟩:I),[]++path,false⟩:dJ)else none
def pM(v:I):Option dJ:=
 some (⟨I.eta v,[],true⟩:dJ)
def tA:aq×Int->Option aq
 |(path,step)=>
 if room 8 ([]++path).length then some ([]++path)>>=λl=>some [step]>>=λt9=>if room 8 (l++t9).length then some (l++t9)else none else none
def F7:I×I->Option Bool
 |(a,b)=>
 jH (I.eta a,I.eta b)>>=λr=>some r
def yy:aU×I->Option Bool
 |(m,v)=>
 (if m.bW then F7 (I.eta m.bw,I.eta v)else some false)>>=λr=>some (bif m.bW then r else false)
def ra:aq×Int×List ah×ah×I×ah×Int×Bool×Int×aj×Int×Bool×Int×Bool×Int×aj×Int×List I×List bY->Option ((dJ) ⊕ (Int×Bool×Int×aj×Int×Bool×Int×Bool×Int×aj×Int×List I×List bY))
 |(u,i,e,c,b,f,g,j,k,l,m,n,o,p,q,r,s,t,d)=>
 if (i<(c.ag.length:Int):Bool) then if aH i c.ag.length then some (c.ag.getD i.toNat aC)>>=λa=>hC (f,a.af)>>=λw=>if w.2 then ra (u,aM .i64 i 1,e,c,I.eta b,f,g,j,k,l,m,n,o,p,q,r,s,t,d)else if a.cn then tA (u,a.af)>>=λx=>k4 x>>=λv=>some (.inl (⟨I.eta v.Value,v.Path,v.cj⟩:dJ))else if aH i b.ai.length then yy ((⟨a.af,a.Name,a.au,a.cn,a.bW,I.eta a.bw⟩:aU),I.eta (b.ai.getD i.toNat ar))>>=λy=>if !y then if aH i b.ai.length then ja ((⟨e⟩:aQ),a.au,I.eta (b.ai.getD i.toNat ar))>>=λz=>some [(⟨a.af,z⟩:bY)]>>=λt170=>if room 24 (d++t170).length then ra (u,aM .i64 i 1,e,c,I.eta b,f,g,j,k,l,m,n,o,p,q,r,s,t,d++t170)else none else none else ra (u,aM .i64 i 1,e,c,I.eta b,f,g,j,k,l,m,n,o,p,q,r,s,t,d)else none else none else some (.inr (g,j,k,l,m,n,o,p,q,r,s,t,d))
  partial_fixpoint
mutual
def qG(u:aQ×Int×I×aQ×Int×aq):Option dJ:=
 match u with
 |(w,wt,v,r,rt,path)=>
 if aH wt w.Types.length then some (w.Types.getD wt.toNat aP)>>=λc=>if aH rt r.Types.length then some (r.Types.getD rt.toNat aP)>>=λe=>if !(c.Kind=e.Kind:Bool) then k4 path>>=λt=>some (⟨I.eta t.Value,t.Path,t.cj⟩:dJ)else if(bif (c.Kind=2:Bool)then bif (v.bd<e.bB:Bool)then true else (e.bF<v.bd:Bool)else false) then k4 path>>=λK=>some (⟨I.eta K.Value,K.Path,K.cj⟩:dJ)else if(bif (c.Kind=3:Bool)then (e.Max<(v.bl.length:Int):Bool)else false) then k4 path>>=λq=>some (⟨I.eta q.Value,q.Path,q.cj⟩:dJ)else if (c.Kind=4:Bool) then sv (e,v.af)>>=λM=>if(bif (!M.2)then(!e.Open)else false) then k4 path>>=λp=>some (⟨I.eta p.Value,p.Path,p.cj⟩:dJ)else if(bif bif (c.Kind=7:Bool)then true else (c.Kind=8:Bool)then (e.Max<(v.ai.length:Int):Bool)else false) then k4 path>>=λE=>some (⟨I.eta E.Value,E.Path,E.cj⟩:dJ)else if (c.Kind=6:Bool) then B8 (w,c,I.eta v,r,e,path)>>=λA=>some (⟨I.eta A.Value,A.Path,A.cj⟩:dJ)else if (c.Kind=5:Bool) then B4 (w,c,I.eta v,r,e,path)>>=λx=>some (⟨I.eta x.Value,x.Path,x.cj⟩:dJ)else oY (path,0,w.Types,I.eta v,r.Types,0,false,0,[],0,false,c,e,v.Kind,v.bM,v.bd,v.bl,v.af,v.Rest,[])>>=λo=>match o with
 |.inl G=>
 some (⟨I.eta G.Value,G.Path,G.cj⟩:dJ)
 |.inr a=>
 oZ (a.1,0,a.2.1,I.eta a.2.2.1,a.2.2.2.1,a.2.2.2.2.1,a.2.2.2.2.2.1,a.2.2.2.2.2.2.1,a.2.2.2.2.2.2.2.1,a.2.2.2.2.2.2.2.2.1,a.2.2.2.2.2.2.2.2.2.1,a.2.2.2.2.2.2.2.2.2.2.1,a.2.2.2.2.2.2.2.2.2.2.2.1,a.2.2.2.2.2.2.2.2.2.2.2.2.1,a.2.2.2.2.2.2.2.2.2.2.2.2.2.1,a.2.2.2.2.2.2.2.2.2.2.2.2.2.2.1,a.2.2.2.2.2.2.2.2.2.2.2.2.2.2.2.1,a.2.2.2.2.2.2.2.2.2.2.2.2.2.2.2.2.1,a.2.2.2.2.2.2.2.2.2.2.2.2.2.2.2.2.2.1,a.2.2.2.2.2.2.2.2.2.2.2.2.2.2.2.2.2.2,[])>>=λbe=>match be with
 |.inl H=>
 some (⟨I.eta H.Value,H.Path,H.cj⟩:dJ)
 |.inr j=>
 pM (⟨j.2.2.2.2.2.2.1,j.2.2.2.2.2.2.2.1,j.2.2.2.2.2.2.2.2.1,j.2.2.2.2.2.2.2.2.2.1,j.2.2.2.2.2.2.2.2.2.2.1,j.2.2.2.2.2.2.2.2.2.2.2.2.1,j.2.2.2.2.2.2.2.2.2.2.2.2.2,j.2.2.2.2.2.2.2.2.2.2.2.1⟩:I)>>=λz=>some (⟨I.eta z.Value,z.Path,z.cj⟩:dJ)else if(bif bif (c.Kind=7:Bool)then true else (c.Kind=8:Bool)then (e.Max<(v.ai.length:Int):Bool)else false) then k4 path>>=λJ=>some (⟨I.eta J.Value,J.Path,J.cj⟩:dJ)else if (c.Kind=6:Bool) then B8 (w,c,I.eta v,r,e,path)>>=λbs=>some (⟨I.eta bs.Value,bs.Path,bs.cj⟩:dJ)else if (c.Kind=5:Bool) then B4 (w,c,I.eta v,r,e,path)>>=λbv=>some (⟨I.eta bv.Value,bv.Path,bv.cj⟩:dJ)else oY (path,0,w.Types,I.eta v,r.Types,0,false,0,[],0,false,c,e,v.Kind,v.bM,v.bd,v.bl,v.af,v.Rest,[])>>=λg4=>match g4 with
 |.inl bi=>
 some (⟨I.eta bi.Value,bi.Path,bi.cj⟩:dJ)
 |.inr f=>
 oZ (f.1,0,f.2.1,I.eta f.2.2.1,f.2.2.2.1,f.2.2.2.2.1,f.2.2.2.2.2.1,f.2.2.2.2.2.2.1,f.2.2.2.2.2.2.2.1,f.2.2.2.2.2.2.2.2.1,f.2.2.2.2.2.2.2.2.2.1,f.2.2.2.2.2.2.2.2.2.2.1,f.2.2.2.2.2.2.2.2.2.2.2.1,f.2.2.2.2.2.2.2.2.2.2.2.2.1,f.2.2.2.2.2.2.2.2.2.2.2.2.2.1,f.2.2.2.2.2.2.2.2.2.2.2.2.2.2.1,f.2.2.2.2.2.2.2.2.2.2.2.2.2.2.2.1,f.2.2.2.2.2.2.2.2.2.2.2.2.2.2.2.2.1,f.2.2.2.2.2.2.2.2.2.2.2.2.2.2.2.2.2.1,f.2.2.2.2.2.2.2.2.2.2.2.2.2.2.2.2.2.2,[])>>=λg5=>match g5 with
 |.inl ba=>
 some (⟨I.eta ba.Value,ba.Path,ba.cj⟩:dJ)
 |.inr D=>
 pM (⟨D.2.2.2.2.2.2.1,D.2.2.2.2.2.2.2.1,D.2.2.2.2.2.2.2.2.1,D.2.2.2.2.2.2.2.2.2.1,D.2.2.2.2.2.2.2.2.2.2.1,D.2.2.2.2.2.2.2.2.2.2.2.2.1,D.2.2.2.2.2.2.2.2.2.2.2.2.2,D.2.2.2.2.2.2.2.2.2.2.2.1⟩:I)>>=λbI=>some (⟨I.eta bI.Value,bI.Path,bI.cj⟩:dJ)else none else none
  partial_fixpoint
def B4(u:aQ×ah×I×aQ×ah×aq):Option dJ:=
 match u with
 |(w,c,v,r,y,path)=>
 rb (path,0,w.Types,c,I.eta v,r.Types,y,0,false,0,[],0,false,v.Kind,false,0,[],0,[])>>=λo=>match o with
 |.inl G=>
 some (⟨I.eta G.Value,G.Path,G.cj⟩:dJ)
 |.inr a=>
 ra (a.1,0,a.2.1,a.2.2.1,I.eta a.2.2.2.1,a.2.2.2.2.1,a.2.2.2.2.2.1,a.2.2.2.2.2.2.1,a.2.2.2.2.2.2.2.1,a.2.2.2.2.2.2.2.2.1,a.2.2.2.2.2.2.2.2.2.1,a.2.2.2.2.2.2.2.2.2.2.1,a.2.2.2.2.2.2.2.2.2.2.2.1,a.2.2.2.2.2.2.2.2.2.2.2.2.1,a.2.2.2.2.2.2.2.2.2.2.2.2.2.1,a.2.2.2.2.2.2.2.2.2.2.2.2.2.2.1,a.2.2.2.2.2.2.2.2.2.2.2.2.2.2.2.1,a.2.2.2.2.2.2.2.2.2.2.2.2.2.2.2.2,[])>>=λbe=>match be with
 |.inl H=>
 some (⟨I.eta H.Value,H.Path,H.cj⟩:dJ)
 |.inr j=>
 pM (⟨j.2.2.2.2.2.2.1,j.2.2.2.2.2.2.2.1,j.2.2.2.2.2.2.2.2.1,j.2.2.2.2.2.2.2.2.2.1,j.2.2.2.2.2.2.2.2.2.2.1,[],j.2.2.2.2.2.2.2.2.2.2.2.1,j.2.2.2.2.2.2.2.2.2.2.2.2⟩:I)>>=λt=>some (⟨I.eta t.Value,t.Path,t.cj⟩:dJ)
  partial_fixpoint
def B8:aQ×ah×I×aQ×ah×aq->Option dJ
 |(w,c,v,r,y,path)=>
 hC (c,v.af)>>=λt=>hC (y,v.af)>>=λM=>if(bif (!M.2)then(!y.Open)else false) then k4 path>>=λp=>some (⟨I.eta p.Value,p.Path,p.cj⟩:dJ)else if !M.2 then if aH t.1 c.ag.length then if aH 0 v.ai.length then ja (w,(c.ag.getD t.1.toNat aC).au,I.eta (v.ai.getD (0:Int).toNat ar))>>=λE=>pM (⟨v.Kind,false,0,[],v.af,[],[],[(⟨v.af,E⟩:bY)]⟩:I)>>=λA=>some (⟨I.eta A.Value,A.Path,A.cj⟩:dJ)else none else none else if aH t.1 c.ag.length then if aH 0 v.ai.length then if aH M.1 y.ag.length then tA (path,v.af)>>=λx=>qG (w,(c.ag.getD t.1.toNat aC).au,I.eta (v.ai.getD (0:Int).toNat ar),r,(y.ag.getD M.1.toNat aC).au,x)>>=λz=>if !z.cj then some (⟨I.eta z.Value,z.Path,z.cj⟩:dJ)else pM (⟨v.Kind,false,0,[],v.af,[],[I.eta z.Value],[]⟩:I)>>=λJ=>some (⟨I.eta J.Value,J.Path,J.cj⟩:dJ)else none else none else none
  partial_fixpoint
def oY:aq×Int×List ah×I×List ah×Int×Bool×Int×aj×Int×Bool×ah×ah×Int×Bool×Int×aj×Int×List bY×List I->Option ((dJ) ⊕ (aq×List ah×I×List ah×Int×Bool×Int×aj×Int×Bool×ah×ah×Int×Bool×Int×aj×Int×List bY×List I))
 |(bn,i,a2,P,a3,b3,b4,ce,ci,cp,cs,a4,a5,c',ds,dt,eq,es,ex,a9)=>
 if (i<(P.av.length:Int):Bool) then if aH i P.av.length then tA (bn,i)>>=λg6=>qG ((⟨a2⟩:aQ),a4.Key,I.eta (P.av.getD i.toNat ar),(⟨a3⟩:aQ),a5.Key,g6)>>=λR=>if !R.cj then some (.inl (⟨I.eta R.Value,R.Path,R.cj⟩:dJ))else some [I.eta R.Value]>>=λt161=>if room 120 (a9++t161).length then oY (bn,aM .i64 i 1,a2,I.eta P,a3,b3,b4,ce,ci,cp,cs,a4,a5,c',ds,dt,eq,es,ex,a9++t161)else none else none else some (.inr (bn,a2,I.eta P,a3,b3,b4,ce,ci,cp,cs,a4,a5,c',ds,dt,eq,es,ex,a9))
  partial_fixpoint
def oZ:aq×Int×List ah×I×List ah×Int×Bool×Int×aj×Int×Bool×ah×ah×Int×Bool×Int×aj×Int×List bY×List I×List I->Option ((dJ) ⊕ (Int×Bool×Int×aj×Int×Bool×Int×Bool×Int×aj×Int×List bY×List I×List I))
 |(g3,Q,fd,W,ff,fo,fs,gc,gd,ge,gl,gs,gt,g0,g1,g2,bS,b0,b1,b2,Y)=>
 if (Q<(W.ai.length:Int):Bool) then if aH Q W.ai.length then tA (g3,Q)>>=λg7=>qG ((⟨fd⟩:aQ),gs.aG,I.eta (W.ai.getD Q.toNat ar),(⟨ff⟩:aQ),gt.aG,g7)>>=λS=>if !S.cj then some (.inl (⟨I.eta S.Value,S.Path,S.cj⟩:dJ))else some [I.eta S.Value]>>=λt194=>if room 120 (Y++t194).length then oZ (g3,aM .i64 Q 1,fd,I.eta W,ff,fo,fs,gc,gd,ge,gl,gs,gt,g0,g1,g2,bS,b0,b1,b2,Y++t194)else none else none else some (.inr (fo,fs,gc,gd,ge,gl,g0,g1,g2,bS,b0,b1,b2,Y))
  partial_fixpoint
def rb:aq×Int×List ah×ah×I×List ah×ah×Int×Bool×Int×aj×Int×Bool×Int×Bool×Int×aj×Int×List I->Option ((dJ) ⊕ (aq×List ah×ah×I×ah×Int×Bool×Int×aj×Int×Bool×Int×Bool×Int×aj×Int×List I))
 |(X,k,U,B,F,Z,L,ae,am,an,ap,ax,ay,aB,aI,aZ,a0,a1,O)=>
 if (k<(L.ag.length:Int):Bool) then if aH k L.ag.length then some (L.ag.getD k.toNat aC)>>=λe=>tA (X,e.af)>>=λK=>hC (B,e.af)>>=λq=>if(bif (!q.2)then(!e.bW)else false) then k4 K>>=λbQ=>some (.inl (⟨I.eta bQ.Value,bQ.Path,bQ.cj⟩:dJ))else if !q.2 then some [I.eta e.bw]>>=λt65=>if room 120 (O++t65).length then rb (X,aM .i64 k 1,U,B,I.eta F,Z,L,ae,am,an,ap,ax,ay,aB,aI,aZ,a0,a1,O++t65)else none else if aH q.1 B.ag.length then if aH q.1 F.ai.length then qG ((⟨U⟩:aQ),(B.ag.getD q.1.toNat aC).au,I.eta (F.ai.getD q.1.toNat ar),(⟨Z⟩:aQ),e.au,K)>>=λp=>if aH q.1 B.ag.length then some (B.ag.getD q.1.toNat aC)>>=λN=>if aH q.1 F.ai.length then yy ((⟨N.af,N.Name,N.au,N.cn,N.bW,I.eta N.bw⟩:aU),I.eta (F.ai.getD q.1.toNat ar))>>=λE=>some (!p.cj)>>=λt99=>(if(E&&(!t99)) then yy ((⟨e.af,e.Name,e.au,e.cn,e.bW,I.eta e.bw⟩:aU),I.eta p.Value)else some false)>>=λA=>if(bif E then bif t99 then true else(!A)else false) then k4 K>>=λx=>some (.inl (⟨I.eta x.Value,x.Path,x.cj⟩:dJ))else if !p.cj then some (.inl (⟨I.eta p.Value,p.Path,p.cj⟩:dJ))else some [I.eta p.Value]>>=λt118=>if room 120 (O++t118).length then rb (X,aM .i64 k 1,U,B,I.eta F,Z,L,ae,am,an,ap,ax,ay,aB,aI,aZ,a0,a1,O++t118)else none else none else none else none else none else none else some (.inr (X,U,B,I.eta F,L,ae,am,an,ap,ax,ay,aB,aI,aZ,a0,a1,O))
  partial_fixpoint
end
def BZ:aQ×Int×I×aQ×Int->Option (I×Int)
 |(w,wt,v,r,rt)=>
 F6 (w,wt,I.eta v,r,rt)>>=λa=>if !(a=0:Bool) then some ((⟨0,false,0,[],0,[],[],[]⟩:I),a)else qG (w,wt,I.eta v,r,rt,[])>>=λb=>if !b.cj then some ((⟨0,false,0,[],0,[],[],[]⟩:I),12)else some (I.eta b.Value,0)
mutual
def mv:aQ×Int×I->Option Int
 |(s,t,v)=>
 if aH t s.Types.length then hY (0,0,s.Types,I.eta v,s.Types.getD t.toNat aP)>>=λo=>if (0<(o.2.av.length:Int):Bool) then some (aM .i64 1 (ix o.1 1))else some (aM .i64 1 o.1)else none
  partial_fixpoint
def hY:Int×Int×List ah×I×ah->Option (Int×I)
 |(f,i,e,a,c)=>
 if (i<(a.ai.length:Int):Bool) then if (c.Kind=5:Bool) then if aH i c.ag.length then some (c.ag.getD i.toNat aC)>>=λj=>if(aH i a.ai.length||(!j.bW)) then (if j.bW then jH (I.eta (a.ai.getD i.toNat ar),I.eta j.bw)else some false)>>=λr=>if(bif j.bW then r else false) then hY (f,aM .i64 i 1,e,I.eta a,c)else if (c.Kind=6:Bool) then hC (c,a.af)>>=λq=>if aH q.1 c.ag.length then if aH i a.ai.length then mv ((⟨e⟩:aQ),(c.ag.getD q.1.toNat aC).au,I.eta (a.ai.getD i.toNat ar))>>=λx=>hY (ix f x,aM .i64 i 1,e,I.eta a,c)else none else none else if aH i a.ai.length then mv ((⟨e⟩:aQ),j.au,I.eta (a.ai.getD i.toNat ar))>>=λy=>hY (ix f y,aM .i64 i 1,e,I.eta a,c)else none else none else none else if (c.Kind=6:Bool) then hC (c,a.af)>>=λu=>if aH u.1 c.ag.length then if aH i a.ai.length then mv ((⟨e⟩:aQ),(c.ag.getD u.1.toNat aC).au,I.eta (a.ai.getD i.toNat ar))>>=λz=>hY (ix f z,aM .i64 i 1,e,I.eta a,c)else none else none else if aH i a.ai.length then mv ((⟨e⟩:aQ),c.aG,I.eta (a.ai.getD i.toNat ar))>>=λw=>hY (ix f w,aM .i64 i 1,e,I.eta a,c)else none else some (f,I.eta a)
  partial_fixpoint
end
theorem U4:eu Bj mv/\eN 45 0 [0] xf hY:=mv.mutual_partial_correctness (ej Bj) (eM 45 0 [0] xf)
 (λ_ h1 _ _ h=>eC h .n (.k (eV xf h1) .n))
 (λ_ _ h0 h1 _ _ h=>eU xf h1 h (.k Cl (.k rh (.k (cq Bj h0) .n))))
theorem Uu:bb Bj mv:=cq _ U4.1
def o5:aQ×Int×I->Option (aj×Int)
 |(s,t,v)=>
 sF (s,t,I.eta v)>>=λr=>if !(r=0:Bool) then some ([],r)else ja (s,t,I.eta v)>>=λa=>some (decide (4096<(a.length:Int)))>>=λt23=>(if !t23 then mv (s,t,I.eta v)else some 0)>>=λb=>if(bif t23 then true else (200<b:Bool)) then some ([],3)else some (a,0)
theorem Uv:bb aex o5:= .bm (.k SD (.k Sr (.k Uu .n)))
def rl:dv×dv×aj->Option (kF×Int)
 |(w,r,m)=>
 F4 (w,r)>>=λf=>if !(f=0:Bool) then some ((⟨(⟨0,false,0,[],0,[],[],[]⟩:I),(⟨0,false,0,[],0,[],[],[]⟩:I),[]⟩:kF),f)else nU (w.cN,w.au,m)>>=λa=>if !(a.2=0:Bool) then some ((⟨(⟨0,false,0,[],0,[],[],[]⟩:I),(⟨0,false,0,[],0,[],[],[]⟩:I),[]⟩:kF),a.2)else rq (w.cN,w.au,I.eta a.1)>>=λe=>if !(e.2=0:Bool) then some ((⟨(⟨0,false,0,[],0,[],[],[]⟩:I),(⟨0,false,0,[],0,[],[],[]⟩:I),[]⟩:kF),e.2)else BZ (w.cN,w.au,I.eta e.1,r.cN,r.au)>>=λg=>if !(g.2=0:Bool) then some ((⟨(⟨0,false,0,[],0,[],[],[]⟩:I),(⟨0,false,0,[],0,[],[],[]⟩:I),[]⟩:kF),g.2)else o5 (w.cN,w.au,I.eta a.1)>>=λc=>if !(c.2=0:Bool) then some ((⟨(⟨0,false,0,[],0,[],[],[]⟩:I),(⟨0,false,0,[],0,[],[],[]⟩:I),[]⟩:kF),c.2)else nU (r.cN,r.au,c.1)>>=λb=>if !(b.2=0:Bool) then some ((⟨(⟨0,false,0,[],0,[],[],[]⟩:I),(⟨0,false,0,[],0,[],[],[]⟩:I),[]⟩:kF),b.2)else o5 (r.cN,r.au,I.eta b.1)>>=λd=>if !(d.2=0:Bool) then some ((⟨(⟨0,false,0,[],0,[],[],[]⟩:I),(⟨0,false,0,[],0,[],[],[]⟩:I),[]⟩:kF),d.2)else some ((⟨I.eta a.1,I.eta b.1,d.1⟩:kF),0)
def vn:aQ×Int×aj->Option (aj×Int)
 |(s,t,m)=>
 nU (s,t,m)>>=λr=>if !(r.2=0:Bool) then some ([],r.2)else o5 (s,t,I.eta r.1)>>=λa=>some (a.1,a.2)
theorem UD:bb aeW vn:= .bm (.k Sw (.k Uv .n))
def Ak(c:nn):Option Bool:=
 x8 c>>=λr=>xV ()>>=λg=>if(bif (!g)then true else(!r.2.2.2)) then xV ()>>=λi=>some i else Ge (r.1,r.1,r.2.2.1)>>=λa=>nU (r.1.cN,r.1.au,r.2.2.1)>>=λb=>if (b.2=0:Bool) then rq (r.1.cN,r.1.au,I.eta b.1)>>=λd=>if !(d.2=0:Bool) then some (bif decide (a.2=d.2)then decide (a.1=[])else false)else vn (r.1.cN,r.1.au,r.2.2.1)>>=λe=>some (bif decide (a.1=e.1)then decide (a.2=e.2)else false)else if !(b.2=0:Bool) then some (bif decide (a.2=b.2)then decide (a.1=[])else false)else vn (r.1.cN,r.1.au,r.2.2.1)>>=λf=>some (bif decide (a.1=f.1)then decide (a.2=f.2)else false)
theorem adE:bb iN Ak:= .bm (.k WL (.k VN (.k Wz (.k Sw (.k V3 (.k UD .n))))))
end
section
open Go Go.Proofs.YtdjagncoefjfeaaGreat.Shv
open Tryz
set_option maxRecDepth 100000

end
section
open Go Go.Proofs.YtdjagncoefjfeaaGreat.Shv
set_option maxRecDepth 100000
def hx(s:aj):Nat->Nat->Nat->Int×Int×Int
 |0,_,_=>(0,0,10)
 |f+1,i,n=>
  if i<s.length then if i=9/\1<(s.getD i 0).toNat then(0,0,7)else if 128<=(s.getD i 0).toNat then hx s f (i+1) (n+((s.getD i 0).toNat%128)*2^(7*i))else if(s.getD i 0).toNat=0/\0<i then(0,0,2)else(((n+(s.getD i 0).toNat*2^(7*i):Nat):Int),((i+1:Nat):Int),0)else(0,0,10)
theorem Rl{i:Nat}(h:i<=9):2^(7*i)<=9223372036854775808:=by
 have:2^(7*i)<=2^63:=wy (by omega) (by omega);omega
theorem Rm(i:Nat):2^(7*(i+1))=2^(7*i)*128:=by rw[Nat.mul_add,Nat.pow_add]
theorem FK{n i b:Nat}(aD:n<2^(7*i)):n+(b%128)*2^(7*i)<2^(7*(i+1)):=by
 rw[Rm];have:b%128*2^(7*i)<=127*2^(7*i):=eY _ (by omega);omega
theorem xt{n i b:Nat}(d:i<=9)(aD:n<2^(7*i))(c:b<128)(a:i=9->b<=1):b*2^(7*i)<18446744073709551616/\n+b*2^(7*i)<18446744073709551616:=by
 rcases Nat.lt_or_ge i 9 with h|h
 . have:2^(7*i)<=2^56:=wy (by omega) (by omega);have e:(2:Nat)^56=72057594037927936:=(by decide);have:b*2^(7*i)<=127*2^(7*i):=eY _ (by omega);omega
 grind
theorem OY(s:aj):∀(f i n:Nat),i+f=10->n<2^(7*i)->∃o,tE (s,(n:Int),((min 10 s.length:Nat):Int),(i:Int))=some o/\(match o with|.inl x=>x|.inr _=>(0,0,10))=hx s f i n
 |0,i,n,h,aD=>by
  refine⟨.inr (),?_,rfl⟩;rw[tE];grind
 |f+1,i,n,h,aD=>by
  rw[tE];simp only[hx,aT,ak,qV];by_cases d:i<s.length
  . have e:=yW s i;generalize (s.getD i 0).toNat=b at e⊢;rw[bu,ad (aN d),ad d];have l:gy .i64 7 (i:Int)=((7*i:Nat):Int):=by rw[N6 (by omega) (by omega)];norm_cast
    rw[l];have j:decide ((0:Int)<=((7*i:Nat):Int))=true:=by simp;omega
    by_cases c:i=9/\1<b
    . rw[ad c,ad (by obtain⟨h1,m⟩:=c;subst h1;simp;omega)];grind
    . rw[al c,al (by grind)];by_cases g:128<=b
      . rw[ad g,bu,ad j];have k:i=9->False:=λh1=>c ⟨h1,by omega⟩;have ay:b%128<128:=yp _ (by omega);have a:=xt (i:=i) (n:=n) (b:=b%128) (by omega) aD ay (λh1=>(k h1).elim);rw[abw e,hy,L6 (by omega) a.1,Nh (by have:=Rl (i:=i) (by omega);omega) a.1,N5 aD,bC];exact OY s f (i+1) (n+b%128*2^(7*i)) (by omega) (FK aD)
      . rw[al g,ch];by_cases h0:b=0/\0<i
        . simp_all
        . rw[al h0,al (by grind),ad j];have a:=xt (i:=i) (n:=n) (b:=b) (by omega) aD (by omega) (λh1=>by omega);rw[hy,L6 (by omega) a.1,Nh (by have:=Rl (i:=i) (by omega);omega) a.1,N5 aD,bC];grind
  . rw[ch,al d];grind
theorem OZ(s:aj):CP s=some (hx s 10 0 0):=by
 obtain⟨o,h1,a⟩:=OY s 10 0 0 rfl (by decide);rw[CP];have:jg 10 (s.length:Int)=((min 10 s.length:Nat):Int):=Ip 10 s.length;grind
theorem K5(s:aj):∀(f i n:Nat),i<=s.length->i+f=10->n<2^(7*i)->∃o,sy (s,(n:Int),(if i<10 then((2^(7*i):Nat):Int)else gy .u64 ((2^(7*9):Nat):Int) 128),(i:Int))=some o/\(i<10->(match o with|.inl x=>x|.inr _=>(0,0,7))=hx s f i n)
 |0,i,n,p,h,aD=>by
  refine⟨.inr (),?_,λr=>by omega⟩;rw[sy];grind
 |f+1,i,n,p,h,aD=>by
  rw[sy];simp only[hx,aT,ak,qV];rw[ad (show decide ((i:Int)<10)=true by simp;omega),ad (show i<10 by omega)];by_cases e:i<s.length
  . have m:=yW s i;generalize (s.getD i 0).toNat=b at m⊢;rw[ch,ad (aN e),ad e,hy];by_cases d:i=9/\1<b
    . rw[ad d,ad (by obtain⟨h1,k⟩:=d;subst h1;simp;omega)];grind
    . rw[al d,al (by grind)];have j:b' (b:Int) 128=((b%128:Nat):Int):=Aj (b:=128);have ay:b%128<128:=yp _ (by omega);by_cases g:128<=b
      . rw[ad g,ch];have l:i=9->False:=λh1=>d ⟨h1,by omega⟩;have c:=xt (i:=i) (n:=n) (b:=b%128) (by omega) aD ay (λh1=>(l h1).elim);rw[j,tO c.1,r5 c.2,bC];obtain⟨o,h1,k⟩:=K5 s f (i+1) (n+b%128*2^(7*i)) (by omega) (by omega) (FK aD);have t:gy .u64 ((2^(7*i):Nat):Int) 128=((2^(7*(i+1)):Nat):Int):=by
         have:=tO (a:=2^(7*i)) (b:=128) (by
          have:2^(7*i)<=2^56:=wy (by omega) (by omega)
          omega)
         grind
        grind
      . rw[al g,bu];have q:b%128=b:=oc (by omega);have c:=xt (i:=i) (n:=n) (b:=b) (by omega) aD (by omega) (λh1=>by omega);by_cases h0:b=0/\0<i
        . simp_all
        . rw[al h0,al (by grind)];rw[j,q,tO c.1,r5 c.2,bC];grind
  . rw[bu,al e];grind
theorem Hj(s:aj):uU s=some (hx s 10 0 0):=by
 obtain⟨o,h1,a⟩:=K5 s 10 0 0 (by omega) rfl (by decide);rw[uU];grind
theorem Md(s:aj):∀(f i n:Nat),i<=s.length->i+f=10->n<2^(7*i)->(∃e:Int,e≠0/\hx s f i n=(0,0,e))\/∃m k:Nat,hx s f i n=((m:Int),(k:Int),0)/\i<k/\k<=s.length/\m<18446744073709551616
 |0,i,n,l,h,aD=>.inl ⟨10,by decide,rfl⟩
 |f+1,i,n,l,h,aD=>by
  simp only[hx];have g:=yW s i;generalize (s.getD i 0).toNat=b at g⊢;by_cases c:i<s.length
  . rw[ad c];by_cases d:i=9/\1<b
    . simp_all
    . rw[al d];by_cases a:128<=b
      . rw[ad a];rcases Md s f (i+1) (n+b%128*2^(7*i)) (by omega) (by omega) (FK aD)with h|⟨m,k,h1,o,p,q⟩
        . exact .inl h
        grind
      . rw[al a];by_cases h0:b=0/\0<i
        . simp_all
        . rw[al h0];have j:=xt (i:=i) (n:=n) (b:=b) (by omega) aD (by omega) (λh1=>by omega);exact .inr ⟨_,i+1,rfl,by omega,by omega,j.2⟩
  . rw[al c];exact .inl ⟨10,by decide,rfl⟩
theorem lA(s:aj):(∃e:Int,e≠0/\hx s 10 0 0=(0,0,e))\/∃m k:Nat,hx s 10 0 0=((m:Int),(k:Int),0)/\0<k/\k<=s.length/\m<18446744073709551616:=
 Md s 10 0 0 (by omega) rfl (by decide)
theorem nE{s:aj}{e:Int}(he:e≠0)(h:hx s 10 0 0=(0,0,e)):qS s=some (0,[],false):=by
 rw[qS,OZ,h];grind
theorem lS{s:aj}{m k:Nat}(h:hx s 10 0 0=((m:Int),(k:Int),0))(a:k<=s.length):qS s=some ((m:Int),s.drop k,true):=by
 rw[qS,OZ,h];simp only[aT,ak];rw[bq,ad (jL a (ea _)),nD]
def dR:Option (aj×aj)->aj×aj×Bool
 |none=>([],[],false)
 |some (a,b)=>(a,b,true)
def iC(s:aj):Option (aj×aj):=
 match hx s 10 0 0 with
 |(m,k,e)=>if e=0/\m.toNat+k.toNat<=s.length then some ((s.drop k.toNat).take m.toNat,(s.drop k.toNat).drop m.toNat)else none
theorem nA{s a b:aj}(h:iC s=some (a,b)):a.length+b.length<s.length:=by
 unfold iC at h;rcases lA s with⟨e,he,c⟩|⟨m,k,c,f,d,g⟩
 . grind
 grind
theorem lT{s:aj}(hs:s.length<=1000000:=by omega):ze s=some (dR (iC s)):=by
 rw[ze];unfold iC;rcases lA s with⟨e,he,b⟩|⟨m,k,b,f,d,g⟩
 . rw[nE he b,b];simp[he,dR]
 . rw[lS b d,b];simp only[aT,ak,oa,rD,l1];rw[hy];by_cases c:m+k<=s.length
   . rw[ch,ad (show dU 0 (m:Int) (s.length-k)=true from jL (a:=0) (by omega) (by omega)),ad (jL (by omega) (ea _)),ad c];have:((s.length-k:Nat):Int)=((s.drop k).length:Int):=by simp
     rw[this,nD,s7];rfl
   . rw[bu,al c];rfl
theorem O0{s:aj}(hs:s.length<=1000000):x5 s=some (dR (iC s)):=by
 rw[x5,Hj];unfold iC;rcases lA s with⟨e,he,a⟩|⟨m,k,a,g,f,i⟩
 . rw[a];simp[he,dR]
 . rw[a];simp only[aT,ak,oa,rD];have c:dh .i64 (s.length:Int) (k:Int)=((s.length-k:Nat):Int):=by rw[hj];omega
   rw[c,hy];by_cases b:m+k<=s.length
   . rw[ch,ad b];have d:bV .i64 (m:Int)=(m:Int):=jD;rw[d,vG (by omega),ad (jL (by omega) (by omega)),ad (jL (by omega) (ea _)),nD];have:d' s (k:Int) ((k+m:Nat):Int)=(s.drop k).take m:=by
      unfold d';rw[oa,oa,List.drop_take];grind
     rw[this,yj];rfl
   . rw[bu,al b];rfl
theorem Iq:∀(n:Nat) (s:aj) (b:List aj),s.length<=n->s.length+b.length<=100000->∃o,hE (s,b)=some o/\∀l,o= .inr l->l.length<=s.length+b.length:=by
 intro n;induction n with
 |zero=>
  intro s b h1 a;have:s=[]:=jS (by omega);subst this;refine⟨.inr b,?_,λl ae=>by cases ae;omega⟩;rw[hE];rw[bq]
 |succ n ih=>
  intro s b h1 a;rw[hE,lT];simp only[aT,ak];by_cases hs:s=[]
  . grind
  . have d:(!(decide (s=[])))=true:=(by simp[hs]);rw[ad d];cases g:iC s with
    |none=>exact⟨.inl 12,rfl,λl ae=>by cases ae⟩
    |some p=>
     obtain⟨x,y⟩:=p;have ae:=nA g;have f:room 16 (b++[(dR (some (x,y))).1]).length=true:=cL;have aD:¬((!(dR (some (x,y))).2.2)=true):=(by simp[dR]);rw[al aD,ad f];obtain⟨o,c,ba⟩:=ih y (b++[x]) (by omega) (by simp;omega);exact⟨o,c,λl e=>by have:=ba l e;simp at this;omega⟩
theorem abB{s:aj}(h:s.length<=90000):∃o,la s=some o/\o.1.length<=s.length:=by
 obtain⟨o,h1,a⟩:=Iq s.length s [] (ea _) (by simp;omega);rw[la,h1];cases o with
 |inl e=>exact⟨_,rfl,by simp⟩
 |inr l=>exact⟨_,rfl,by have:=a l rfl;simpa using this⟩
theorem ab2:∀(n:Nat) (s:aj) (b:List aj),s.length<=n->s.length+b.length<=100000->s0 (s,b)=hE (s,b):=by
 intro n;induction n with
 |zero=>
  intro s b h1 d;have:s=[]:=jS (by omega);subst this;rw[hE,s0,bq,bq]
 |succ n ih=>
  intro s b h1 d;rw[hE,s0,lT,O0 (by omega)];simp only[aT,ak];by_cases hs:s=[]
  . grind
  . have a:(!(decide (s=[])))=true:=(by simp[hs]);rw[ad a,ad a];cases e:iC s with
    |none=>rfl
    |some p=>
     obtain⟨x,y⟩:=p;have ae:=nA e;have c:room 16 (b++[(dR (some (x,y))).1]).length=true:=cL;have aD:¬((!(dR (some (x,y))).2.2)=true):=(by simp[dR]);rw[al aD,ad c,al aD,ad c];exact ih y (b++[x]) (by omega) (by simp;omega)
theorem abC{s:aj}(h:s.length<=90000):vw s=la s:=by
 rw[la,vw,ab2 s.length s [] (ea _) (by simp;omega)]<;>rfl
theorem K6:∀(n:Nat) (s:aj) (last:Nat) (b:List cQ),s.length<=n->s.length+b.length<=100000->∃o,fY ((last:Int),s,b)=some o/\∀l,o= .inr l->l.length<=s.length+b.length:=by
 intro n;induction n with
 |zero=>
  intro s last b h1 c;have:s=[]:=jS (by omega);subst this;refine⟨.inr b,?_,λl ae=>by cases ae;omega⟩;rw[fY];rw[bq]
 |succ n ih=>
  intro s last b h1 c;rw[fY];by_cases hs:s=[]
  . subst hs;exact⟨.inr b,by rw[bq],λl ae=>by cases ae;omega⟩
  . have f:(!(decide (s=[])))=true:=(by simp[hs]);rw[ad f];rcases lA s with⟨e,he,a⟩|⟨m,k,a,v,g,j⟩
    . rw[nE he a];exact⟨.inl 12,rfl,λl ae=>by cases ae⟩
    . rw[lS a g];simp only[aT,ak];rw[tY j];by_cases u:m/2<=last\/1000<m/2
      . exact⟨.inl 12,by rw[bu],λl ae=>by cases ae⟩
      . have t:bV .i64 ((m/2:Nat):Int)=((m/2:Nat):Int):=jD;rw[ch,t,lT (by simp;omega)];simp only[ak];cases q:iC (s.drop k)with
        |none=>exact⟨.inl 12,rfl,λl ae=>by cases ae⟩
        |some p=>
         obtain⟨x,y⟩:=p;have ae:=nA q;rw[l1]at ae;have r:room 32 (b++[(⟨((m/2:Nat):Int),decide (b' (m:Int) 2=1),(dR (some (x,y))).1⟩:cQ)]).length=true:=cL;have aD:¬((!(dR (some (x,y))).2.2)=true):=(by simp[dR]);rw[al aD,ad r];obtain⟨o,d,ba⟩:=ih y (m/2) (b++[(⟨((m/2:Nat):Int),decide (b' (m:Int) 2=1),x⟩:cQ)]) (by omega) (by simp;omega);exact⟨o,d,λl i=>by have:=ba l i;simp at this;omega⟩
theorem aaK{s:aj}(h:s.length<=90000):∃o,lK s=some o/\o.1.length<=s.length:=by
 obtain⟨o,h1,b⟩:=K6 s.length s 0 [] (ea _) (by simp;omega);have a:fY (0,s,[])=some o:=h1;rw[lK,a];cases o with
 |inl e=>exact⟨_,rfl,by simp⟩
 |inr l=>exact⟨_,rfl,by have:=b l rfl;simpa using this⟩
theorem abD:∀(n:Nat) (s:aj) (last:Nat) (b:List cQ),s.length<=n->s.length+b.length<=100000->q' (s,(last:Int),b)=fY ((last:Int),s,b):=by
 intro n;induction n with
 |zero=>
  intro s last b h1 j;have:s=[]:=jS (by omega);subst this;rw[fY,q',bq,bq]
 |succ n ih=>
  intro s last b h1 j;rw[fY,q',Hj];by_cases hs:s=[]
  . simp_all
  . have c:(!(decide (s=[])))=true:=(by simp[hs]);rw[ad c,ad c];rcases lA s with⟨e,he,a⟩|⟨m,k,a,t,d,l⟩
    . rw[nE he a,a];simp_all
    . rw[lS a d,a];simp only[aT,ak];rw[tY l];by_cases r:m/2<=last\/1000<m/2
      . have aK:(bif bif (!true)then true else decide (((m/2:Nat):Int)<=(last:Int))then true else decide (1000<((m/2:Nat):Int)))=true:=by simp;omega
        rw[ad aK];rw[ad];by_cases q:2001<m
        . simp;omega
        . have g:bV .i64 ((m/2:Nat):Int)=((m/2:Nat):Int):=jD;grind
      . have g:bV .i64 ((m/2:Nat):Int)=((m/2:Nat):Int):=jD;have i:¬(bif bif (!true)then true else decide (((m/2:Nat):Int)<=(last:Int))then true else decide (1000<((m/2:Nat):Int)))=true:=by simp;omega
        rw[g,ch,ad (jL d (ea _)),nD,O0 (by simp;omega),al i,lT (by simp;omega)];simp only[ak];cases o:iC (s.drop k)with
        |none=>rfl
        |some p=>
         obtain⟨x,y⟩:=p;have ae:=nA o;rw[l1]at ae;have f:room 32 (b++[(⟨((m/2:Nat):Int),decide (b' (m:Int) 2=1),(dR (some (x,y))).1⟩:cQ)]).length=true:=cL;have aD:¬((!(dR (some (x,y))).2.2)=true):=(by simp[dR]);rw[al aD,ad f,al aD,ad f];exact ih y (m/2) (b++[(⟨((m/2:Nat):Int),decide (b' (m:Int) 2=1),x⟩:cQ)]) (by omega) (by simp;omega)
theorem aaL{s:aj}(h:s.length<=90000):xR s=lK s:=by
 have h1:q' (s,0,[])=fY (0,s,[]):=abD s.length s 0 [] (ea _) (by simp;omega);rw[lK,xR,h1]<;>rfl
theorem ac3(s:aj):∃o,lP s=some o:=by
 rw[lP];rcases lA s with⟨e,he,a⟩|⟨m,k,a,d,b,f⟩
 . rw[nE he a];exact⟨_,rfl⟩
 . rw[lS a b];simp only[aT,ak];by_cases c:m<1\/1000<m
   . exact⟨(0,[],12),by rw[bu]⟩
   . rw[ch];exact⟨_,rfl⟩
theorem ac4(s:aj):∃o,lP s=some o/\x4 s=some o:=by
 rw[lP,x4,Hj];rcases lA s with⟨e,he,a⟩|⟨m,k,a,d,b,f⟩
 . rw[nE he a,a];simp_all
 . rw[lS a b,a];simp only[aT,ak];by_cases c:m<1\/1000<m
   . exact⟨(0,[],12),by rw[bu],by rw[bu]⟩
   . rw[ch,ch,ad (jL b (ea _)),nD];grind
def eB(n:Nat):aj:=if n<128 then[UInt8.ofNat n]else UInt8.ofNat (n%128+128)::eB (n/128)
termination_by n
decreasing_by omega
theorem u'{n:Nat}(h:n<128):eB n=[UInt8.ofNat n]:=by rw[eB,ad h]
theorem vZ{n:Nat}(h:¬n<128):eB n=UInt8.ofNat (n%128+128)::eB (n/128):=by rw[eB,al h]
theorem ab3{a:Nat}(h:a<256):rJ .u8 (a:Int) 128=((a%128+128:Nat):Int):=by
 have key:∀a:Nat,a<256->rJ .u8 (a:Int) 128=((a%128+128:Nat):Int):=by decide+kernel
 grind
theorem wL(n:Nat):bV .u8 (n:Int)=((n%256:Nat):Int):=by rfl
theorem agD(n:Nat):ly .u64 (n:Int) 7=((n/128:Nat):Int):=by
 unfold ly;have:((2:Int)^min (7:Int).toNat IntKind.u64.bits)=128:=by decide
 grind
theorem Y0(m:Nat)(l:aq):strOf ((m:Int)::l)=UInt8.ofNat m::strOf l:=rfl
theorem C7(a b:aq):strOf (a++b)=strOf a++strOf b:=p8
variable{α:Type}{p N:aj}{c q:Bool}{x:Option Bool}{names:List aj}{f:aU×aU->Option Bool}{v:I}{t:ah}{Ms:List aU}{S:List c6}{M H E K id:Int}{ts:List ah}{L':Nat->Option (Int ⊕ Unit)}{o:Option (Int×Bool)}{L:Option (Bool ⊕ Unit)}{a:List α}
theorem GV:∀(l:List α) (i:Nat) (x:α),i<l.length->(l.set i x).take (i+1)=l.take i++[x]
 |[],i,x,h=>by simp at h
 |a::l,0,x,h=>by simp
 |a::l,i+1,x,h=>by simp[GV l i x (by simpa using h)]
theorem O1:∀(f n i:Nat) (b:aq),i+f=9->n<128*128^f->b.length=10->∃(d c:Nat) (a:aq),tG ((n:Int),(i:Int),b)=some ((d:Int),(c:Int),a)/\d<128/\c<=9/\a.length=10/\strOf (a.take c)++[UInt8.ofNat d]=strOf (b.take i)++eB n
 |f,n,i,b,g,aD,e=>by
  rw[tG];by_cases hs:n<128
  . rw[ch];exact⟨n,i,b,rfl,hs,by omega,e,by rw[u' hs]⟩
  . rw[bu,ad (aN (by
     omega)),ad (by
     cases f with
     |zero=>simp at aD;omega
     |succ f=>simp[e];omega)]
    match f,g,aD with
    |0,g,aD=>simp at aD;omega
    |f+1,g,aD=>
     rw[agD,bC,wL,ab3 (yp _ (by omega)),a'];have ay:n/128<128*128^f:=(by omega);obtain⟨d,c,a,h1,j,k,l,ba⟩:=O1 f (n/128) (i+1) (b.set i ((n%256%128+128:Nat):Int)) (by omega) ay (by simp[e]);refine⟨d,c,a,h1,j,k,l,?_⟩;rw[ba,GV _ _ _ (by omega),C7,vZ hs];have:n%256%128=n%128:=(by omega);rw[this];have m:strOf [((n%128+128:Nat):Int)]=[UInt8.ofNat (n%128+128)]:=rfl;grind
theorem Ib:(128:Nat)*128^9=1180591620717411303424:=by decide
theorem tv{n:Nat}(aD:n<18446744073709551616:=by omega):pw (n:Int)=some (eB n):=by
 obtain⟨b,d,e,h1,j,k,c,ba⟩:=O1 9 n 0 [0,0,0,0,0,0,0,0,0,0] rfl (by rw[Ib];omega) rfl;rw[pw];have f:tG ((n:Int),0,[0,0,0,0,0,0,0,0,0,0])=some ((b:Int),(d:Int),e):=h1;rw[f];simp only[aT,ak];have i:dU 0 ((d+1:Nat):Int) 10=true:=jL (a:=0) (by omega) (by omega);rw[ad (aN (by omega)),ad (by simp[c];omega),bC,ad i,ad (by simp[wH,c];omega),a',a',wL];have:b%256=b:=oc (by omega);rw[this];simp only[rC,fF];rw[GV _ _ _ (by omega),C7];have g:strOf [(b:Int)]=[UInt8.ofNat b]:=rfl;rw[g,ba];rfl
theorem K7:∀(f n:Nat) (b:aq),n<128^f->n<18446744073709551616->b.length+f<=1000->∃(c:Nat) (a:aq),vq ((n:Int),b)=some ((c:Int),a)/\c<128/\a.length<=1000/\strOf a++[UInt8.ofNat c]=strOf b++eB n
 |f,n,b,aD,m,o=>by
  rw[vq];by_cases hs:n<128
  . rw[ch];exact⟨n,b,rfl,hs,by omega,by rw[u' hs]⟩
  . rw[bu]
    match f,aD with
    |0,aD=>simp at aD;omega
    |f+1,aD=>
     have l:b' (n:Int) 128=((n%128:Nat):Int):=Aj (b:=128);have j:aM .u64 ((n%128:Nat):Int) 128=((n%128+128:Nat):Int):=r5 (b:=128) (by omega);have k:fw .u64 (n:Int) 128=((n/128:Nat):Int):=by
      unfold fw;have e:(n:Int).tdiv 128=((n/128:Nat):Int):=by rw[yr (by omega)];omega
      rw[e];exact kU
     simp only[aT,ak];rw[l,j,k,wL,ad (cL)];have ay:n/128<128^f:=(by omega);obtain⟨c,a,h1,d,g,i⟩:=K7 f (n/128) (b++[(((n%128+128)%256:Nat):Int)]) ay (by omega) (by simp;omega);refine⟨c,a,h1,d,g,?_⟩;rw[i,C7,vZ hs];have:(n%128+128)%256=n%128+128:=(by omega);rw[this];have p:strOf [((n%128+128:Nat):Int)]=[UInt8.ofNat (n%128+128)]:=rfl;grind
theorem yX{n:Nat}(aD:n<18446744073709551616:=by omega):qI (n:Int)=some (eB n):=by
 obtain⟨a,d,h1,e,f,b⟩:=K7 10 n [] (by have:=Ib;rw[yo,wu];omega) aD (by simp);rw[qI,h1];simp only[aT,ak];rw[ad (cL),wL,C7];have:a%256=a:=oc (by omega);rw[this];have c:strOf [(a:Int)]=[UInt8.ofNat a]:=rfl;rw[c,b];rfl
theorem Ir:∀(f n:Nat),n<128^(f+1)->(eB n).length<=f+1
 |f,n,aD=>by
  by_cases hs:n<128
  . rw[u' hs];simp
  . rw[vZ hs]
    match f,aD with
    |0,aD=>simp at aD;omega
    |f+1,aD=>
     have:=Ir f (n/128) (by omega);simp;omega
theorem j7{n:Nat}(aD:n<18446744073709551616):(eB n).length<=10:=Ir 9 n (by have:=Ib;rw[yo,wu];omega)
theorem q3(n:Nat):0<(eB n).length:=by
 rw[eB];split<;>simp
theorem lb{n:Nat}(h:n<256:=by omega):(UInt8.ofNat n).toNat=n:=by simp_all
theorem O2:∀(f i acc n:Nat) (pre a:aj),i+f=10->pre.length=i->n*2^(7*i)<18446744073709551616->(n=0->i=0)->hx (pre++(eB n++a)) f i acc=(((acc+n*2^(7*i):Nat):Int),((i+(eB n).length:Nat):Int),0)
 |0,i,acc,n,pre,a,e,c,aD,h0=>by grind
 |f+1,i,acc,n,pre,a,e,c,aD,h0=>by
  have g:i<(pre++(eB n++a)).length:=by
   have:=q3 n;simp;omega
  have b:∀(x:UInt8) (r:aj),eB n=x::r->(pre++(eB n++a)).getD i 0=x:=by grind
  simp only[hx];rw[ad g];by_cases hs:n<128
  . rw[b _ _ (u' hs),lb,al (by
     grind),bp,al (by
     rintro ⟨h1,k⟩
     have:=h0 h1;omega),u' hs]
    simp
  . have l:i<9:=(by grind);rw[b _ _ (vZ hs),lb,bp,fv];have j:(n%128+128)%128=n%128:=(by omega);have m:n%128*2^(7*i)+n/128*2^(7*(i+1))=n*2^(7*i):=by
     rw[Rm];have h1:n/128*(2^(7*i)*128)=(n/128*128)*2^(7*i):=(by grind);rw[h1,<-gf];grind
    have d:n/128*2^(7*(i+1))<18446744073709551616:=(by omega);have:=O2 f (i+1) (acc+n%128*2^(7*i)) (n/128) (pre++[UInt8.ofNat (n%128+128)]) a (by omega) (by simp[c]) d (by omega);rw[j];have es:pre++(eB n++a)=pre++[UInt8.ofNat (n%128+128)]++(eB (n/128)++a):=by rw[vZ hs];simp
    grind
theorem HU{n:Nat}(aD:n<18446744073709551616)(a:aj):hx (eB n++a) 10 0 0=((n:Int),((eB n).length:Int),0):=by
 have:=O2 10 0 0 n [] a rfl rfl (by simpa using aD) (λ_=>rfl);grind
def dB(p:aj):aj:=eB p.length++p
theorem fX{n:Nat}(h:n<=9223372036854775807:=by omega):decide (n<=ez)=true:=by
 unfold ez;simp;omega
theorem Dc(h:p.length<=1152921504606846976:=by omega):qR p=some (dB p):=by
 rw[qR,hy,tv];simp only[aT,ak];have:=j7 (n:=p.length) (by omega);rw[ad (fX)];rfl
theorem CH(h:p.length<=1152921504606846976:=by omega):rv p=some (dB p):=by
 rw[rv,hy,yX];simp only[aT,ak];have:=j7 (n:=p.length) (by omega);rw[ad (fX)];rfl
def fE(id:Nat)(c:Bool)(p:aj):aj:=eB (2*id+(if c then 1 else 0))++dB p
theorem Kf(h:p.length<=1152921504606846976):(dB p).length<=p.length+10:=by
 have:=j7 (n:=p.length) (by omega);unfold dB;simp;omega
theorem Is{id:Nat}{c:Bool}(f:id<=4611686018427387903)(h:p.length<=1152921504606846900:=by omega):u1 ((id:Int),c,p)=some (fE id c p):=by
 rw[u1];have e:gy .u64 2 (bV .u64 (id:Int))=((2*id:Nat):Int):=by rw[hy];exact tO (a:=2) (by omega)
 simp only[aT,ak];rw[e,Dc];have ae:=Kf (p:=p) (by omega);cases c with
 |true=>
  have d:aM .u64 ((2*id:Nat):Int) 1=((2*id+1:Nat):Int):=r5 (b:=1) (by omega);rw[ad rfl,d,tv];have:=j7 (n:=2*id+1) (by omega);simp only[ak];rw[ad (fX)];rfl
 |false=>
  rw[bq,tv];have:=j7 (n:=2*id) (by omega);simp only[ak];rw[ad (fX)];rfl
theorem Ju{id:Nat}(e:id<=4611686018427387903)(h:p.length<=1152921504606846900):xW ((id:Int),c,p)=some (fE id c p):=by
 rw[xW];have d:bV .u64 (gy .i64 2 (id:Int))=((2*id:Nat):Int):=by
  rw[N6 (by omega) (by omega)];have:(2:Int)*(id:Int)=((2*id:Nat):Int):=by omega
  rw[this];exact hy
 simp only[aT,ak];rw[d,CH];have ae:=Kf (p:=p) (by omega);cases c with
 |true=>
  have a:aM .u64 ((2*id:Nat):Int) 1=((2*id+1:Nat):Int):=r5 (b:=1) (by omega);rw[ad rfl,a,yX];have:=j7 (n:=2*id+1) (by omega);simp only[ak];rw[ad (fX)];rfl
 |false=>
  rw[bq,yX];have:=j7 (n:=2*id) (by omega);simp only[ak];rw[ad (fX)];rfl
theorem Jv{a:aj}(h:p.length<=100000):iC (dB p++a)=some (p,a):=by
 unfold iC dB;rw[hr,HU (by omega)];simp only[oa,rD];grind
theorem XW{id:Nat}{a:aj}{last:Nat}{b:List cQ}(h1:last<id)(q:id<=1000)(h:(fE id c p++a).length<=100000)(o:b.length<=90000):
 fY ((last:Int),fE id c p++a,b)=fY ((id:Int),a,b++[⟨(id:Int),c,p⟩]):=by
 have k:p.length<=100000:=by
  have d:=h;simp only[fE,dB,c4]at d;omega
 have i:fE id c p++a≠[]:=by
  intro e;have d:=dS List.length e;have:=q3 (2*id+(if c then 1 else 0));simp only[fE,c4,ib]at d;omega
 have aa:2*id+(if c then 1 else 0)<=2001:=by split<;>omega
 have ao:hx (fE id c p++a) 10 0 0=(((2*id+(if c then 1 else 0):Nat):Int),((eB (2*id+(if c then 1 else 0))).length:Int),0):=by
  unfold fE;rw[hr];exact HU (by omega) _
 have aD:=lS ao (by unfold fE;simp);have f:(fE id c p++a).drop (eB (2*id+(if c then 1 else 0))).length=dB p++a:=by
  unfold fE;grind
 rw[f]at aD;have g:(2*id+(if c then 1 else 0))/2=id:=by split<;>omega
 have m:decide (b' ((2*id+(if c then 1 else 0):Nat):Int) 2=1)=c:=by
  have:b' ((2*id+(if c then 1 else 0):Nat):Int) 2=(((2*id+(if c then 1 else 0))%2:Nat):Int):=Aj (b:=2);grind
 rw[fY,ad (by simp only[p7,ya];exact i),aD];simp only[aT,ak];rw[tY (by omega),g,ch,m,lT (by grind),Jv k];simp only[ak];have n:bV .i64 (id:Int)=(id:Int):=jD;have j:¬((!(dR (some (p,a))).2.2)=true):=by simp[dR]
 rw[al j,n];have l:room 32 (b++[(⟨(id:Int),c,(dR (some (p,a))).1⟩:cQ)]).length=true:=cL;rw[ad l];rfl
inductive bH:I->Prop
 |mk (v:I) (hs:v.bl.length<=reachBytes) (h1:v.av.length<=reachBytes) (afV:v.ai.length<=reachBytes) (ahb:v.Rest.length<=reachBytes)
  (hk:∀x,x∈v.av->bH x) (Br:∀x,x∈v.ai->bH x) (ahj:∀x,x∈v.Rest->x.Data.length<=reachBytes)
  (db: -9223372036854775808<=v.Kind/\v.Kind<=9223372036854775807) (ahp: -9223372036854775808<=v.bd/\v.bd<=9223372036854775807) (ahq: -9223372036854775808<=v.af/\v.af<=9223372036854775807)
  (ahr:∀x,x∈v.Rest->-9223372036854775808<=x.af/\x.af<=9223372036854775807):bH v
theorem dy{n:Nat}(h:n<=reachBytes):n<9223372036854775807:=Nat.lt_of_le_of_lt h (by decide)
theorem scan{d:Type}(L:Nat->Option d)(n:Nat)(p:Nat->Bool)(a b:d)(l:∀i,i<n->L i=if p i then L (i+1)else some a)(e:L n=some b):
 (L 0=some b/\∀j,j<n->p j=true)\/(L 0=some a/\∃j,j<n/\p j=false):=by
 have key:∀k i,i+k=n->(L i=some b/\∀j,i<=j->j<n->p j=true)\/(L i=some a/\∃j,j<n/\p j=false):=by
  intro k;induction k with
  |zero=> intro i g; have:i = n:= by omega
          subst this;exact .inl ⟨e,λj h1 c=>by omega⟩
  |succ k ih=>grind
 rcases key n 0 (by omega)with⟨h1,c⟩|h
 . exact .inl ⟨h1,λj f=>c j (ic _) f⟩
 . exact .inr h
theorem dc{l:List α}{i:Nat}(h:i<l.length)(d:α):l.getD i d=l[i]:=by grind
theorem u5{b:List α}{p:Nat->Bool}(ae:a.length=b.length)(e:∀(i:Nat) (h1:i<a.length) (c:i<b.length),p i=true↔a[i]=b[i]):
 (∀j,j<a.length->p j=true)↔a=b:=by
 constructor
 . intro h;exact Fj ae λi h1 c=>(e i h1 c).1 (h i h1)
 . rintro rfl j d
   exact(e j d d).2 rfl
def eW{α:Type}(o:Option Bool)(a b:α):Prop:=∃r,o=some r/\(r=true↔a=b)
theorem eW.Fq{b:List α}{p:Nat->Bool}(ae:a.length=b.length)(e:∀(i:Nat) (h1:i<a.length) (c:i<b.length),p i=true↔a[i]=b[i]){o:Option Bool}
 (h:(o=some true/\∀j,j<a.length->p j=true)\/(o=some false/\∃j,j<a.length/\p j=false)):eW o a b:=by
 rcases h with⟨h1,c⟩|⟨h1,j,c,f⟩
 . exact⟨true,h1,by simp[(u5 ae e).1 c]⟩
 . refine⟨false,h1,?_⟩;constructor
   . intro h;cases h
   . intro h;have:=(u5 ae e).2 h j c;rw[f]at this;cases this
theorem O3{a b:bY}:(hK a.af b.af&&(jA a.Data b.Data&&true))=true↔a=b:=by cases a;cases b;simp[hK,jA]
theorem Og{a b:c6}:(hK a.af b.af&&(jA a.Name b.Name&&true))=true↔a=b:=by
 cases a;cases b;simp[hK,jA]
theorem ac5{b:List α}(h:¬a.length=b.length):a≠b:=λe=>h (dS List.length e)
theorem nl{b:List α}(h:¬a.length=b.length):eW (some false) a b:=⟨false,rfl,by simp[ac5 h]⟩
theorem Oh{a b:List bY}(d:a.length<=reachBytes):eW (xG (a,b)) a b:=by
 rw[xG];by_cases ae:a.length=b.length
 . rw[ch];have f:=dy d;have:=scan (λi=>pe (a,b,(a.length:Int),(i:Int))) a.length (λi=>hK (a.getD i bX).af (b.getD i bX).af&&(jA (a.getD i bX).Data (b.getD i bX).Data&&true)) (.inl false) (.inr ())
    (λi e=>by
     rw[pe,bu,ad (aN e)];simp only[aT,ak,a'];rw[ad (aN (by omega)),bC]
     grind)
    (by rw[pe,bq])
   have h0:pe (a,b,(a.length:Int),((0:Nat):Int))=pe (a,b,(a.length:Int),0):=rfl;simp only[h0]at this;refine eW.Fq (p:=λi=>hK (a.getD i bX).af (b.getD i bX).af&&(jA (a.getD i bX).Data (b.getD i bX).Data&&true)) ae (λi h1 c=>by simp only[dc h1,dc c];exact O3) ?_;grind
 . rw[bu];exact nl ae
theorem ac6{a b:List c6}(d:a.length<=reachBytes):eW (Ck (a,b)) a b:=by
 rw[Ck];by_cases ae:a.length=b.length
 . rw[ch];have f:=dy d;have:=scan (λi=>pd (a,b,(a.length:Int),(i:Int))) a.length (λi=>hK (a.getD i dN).af (b.getD i dN).af&&(jA (a.getD i dN).Name (b.getD i dN).Name&&true)) (.inl false) (.inr ())
    (λi e=>by
     rw[pd,bu,ad (aN e)];simp only[aT,ak,a'];rw[ad (aN (by omega)),bC]
     grind)
    (by rw[pd,bq])
   have h0:pd (a,b,(a.length:Int),((0:Nat):Int))=pd (a,b,(a.length:Int),0):=rfl;simp only[h0]at this;refine eW.Fq (p:=λi=>hK (a.getD i dN).af (b.getD i dN).af&&(jA (a.getD i dN).Name (b.getD i dN).Name&&true)) ae (λi h1 c=>by simp only[dc h1,dc c];exact Og) ?_;grind
 . rw[bu];exact nl ae
theorem DC(v:I):(⟨v.Kind,v.bM,v.bd,v.bl,v.af,v.av,v.ai,v.Rest⟩:I)=v:=by cases v;rfl
theorem K8{a b:I}:a=b↔a.Kind=b.Kind/\a.bM=b.bM/\a.bd=b.bd/\a.bl=b.bl/\a.af=b.af/\a.Rest=b.Rest/\a.av=b.av/\a.ai=b.ai:=by
 constructor
 . grind
 . cases a;cases b;grind
section
variable {f:I×I->Option Bool}
theorem HG {a b:List I}(ae:a.length=b.length)(ih:∀x,x∈a->∀y,eW (f (x,y)) x y)(L:Nat->Option (Bool ⊕ Unit))
 (l:∀i,i<a.length->L i=(f (I.eta (a.getD i ar),I.eta (b.getD i ar))>>=λr=>if !r then some (.inl false)else L (i+1)))
 (j:L a.length=some (.inr ())):eW (L 0>>=λo=>match o with|.inl x=>some x|.inr _=>some true) a b:=by
 have d:∀(i:Nat) (h1:i<a.length) (c:i<b.length),eW (f (I.eta (a.getD i ar),I.eta (b.getD i ar))) a[i] b[i]:=by
  intro i h1 c;rw[dc h1,dc c,I.aO,I.aO];grind
 have:=scan L a.length (λi=>(f (I.eta (a.getD i ar),I.eta (b.getD i ar))).getD false) (.inl false) (.inr ())
  (λi k=>by
   obtain⟨r,h1,c⟩:=d i k (by omega)
   grind) j
 refine eW.Fq ae (λi h1 c=>?_) ?_ (p:=λi=>(f (I.eta (a.getD i ar),I.eta (b.getD i ar))).getD false)
 . obtain⟨r,e,g⟩:=d i h1 c;rw[e];exact g
 . rcases this with⟨h1,c⟩|⟨h1,c⟩
   . exact .inl ⟨by rw[h1];rfl,c⟩
   . exact .inr ⟨by rw[h1];rfl,c⟩
end
theorem MD{a b:List I}(c:a.length<=reachBytes)(ih:∀x,x∈a->∀y,eW (pq (x,y)) x y):eW (uR (a,b)) a b:=by
 rw[uR];by_cases ae:a.length=b.length
 . rw[ch];have e:=dy c;exact HG ae ih (λi=>uP (b,a,(a.length:Int),(i:Int)))
    (λi d=>by
     rw[uP,bu,ad (aN d),ad (aN (by omega)),bC]
     rfl)
    (by rw[uP,bq])
 . rw[bu];exact nl ae
theorem ME{a b:List I}(c:a.length<=reachBytes)(ih:∀x,x∈a->∀y,eW (lM (x,y)) x y):eW (xE (a,b)) a b:=by
 rw[xE];by_cases ae:a.length=b.length
 . rw[ch];have e:=dy c;exact HG ae ih (λi=>uQ (b,a,(a.length:Int),(i:Int)))
    (λi d=>by
     rw[uQ,bu,ad (aN d),ad (aN (by omega)),bC]
     rfl)
    (by rw[uQ,bq])
 . rw[bu];exact nl ae
theorem MF{a b:List I}(c:a.length<=reachBytes)(ih:∀x,x∈a->∀y,eW (jH (x,y)) x y):eW (xD (a,b)) a b:=by
 rw[xD];by_cases ae:a.length=b.length
 . rw[ch];have e:=dy c;exact HG ae ih (λi=>vi (a,b,(i:Int)))
    (λi d=>by
     rw[vi,bu,ad (aN d),ad (aN (by omega)),bC]
     rfl)
    (by rw[vi,bq])
 . rw[bu];exact nl ae
theorem three{a b:I}{ba:Bool}(iN:ba=true↔a.Kind=b.Kind/\a.bM=b.bM/\a.bd=b.bd/\a.bl=b.bl/\a.af=b.af){y z:Option Bool}(l:eW x a.Rest b.Rest)(o:eW y a.av b.av)(s:eW z a.ai b.ai):
 eW (some ba>>=λt37=>(if t37 then x else some false)>>=λr=>some (bif t37 then r else false)>>=λt44=>(if t44 then y else some false)>>=λv=>some (bif t44 then v else false)>>=λt51=>(if t51 then z else some false)>>=λw=>some (bif t51 then w else false)) a b:=by
 obtain⟨j,m,n⟩:=l;obtain⟨k,p,q⟩:=o;obtain⟨A,t,u⟩:=s;subst m;subst p;subst t;refine⟨ba&&j&&k&&A,?_,?_⟩
 . cases ba<;>cases j<;>cases k<;>rfl
 . rw[K8];simp only[cc];rw[iN,n,q,u];constructor
   . rintro ⟨⟨⟨⟨h1,c,d,e,ba⟩,f⟩,g⟩,i⟩;exact⟨h1,c,d,e,ba,f,g,i⟩
   . rintro ⟨h1,c,d,e,ba,f,g,i⟩;exact⟨⟨⟨⟨h1,c,d,e,ba⟩,f⟩,g⟩,i⟩
theorem QW{a b:I}:(bif bif bif bif decide (a.Kind=b.Kind)then fu a.bM b.bM else false then decide (a.bd=b.bd)else false then decide (a.bl=b.bl)else false then decide (a.af=b.af)else false)=true↔a.Kind=b.Kind/\a.bM=b.bM/\a.bd=b.bd/\a.bl=b.bl/\a.af=b.af:=by
 simp only[yh,fu];grind
theorem Kg{a:I}(h:bH a):∀b,eW (pq (a,b)) a b:=by
 induction h with
 |mk a hs h1 c d i g j db k l m f e=>
  intro b;rw[pq];exact three QW (Oh d) (MD h1 f) (MD c e)
theorem CS{a:I}(h:bH a):∀b,eW (lM (a,b)) a b:=by
 induction h with
 |mk a hs h1 c d i g j db k l m f e=>
  intro b;rw[lM];exact three QW (Oh d) (ME h1 f) (ME c e)
theorem Dn{a:I}(h:bH a):∀b,eW (jH (a,b)) a b:=by
 induction h with
 |mk a hs h1 c k w v x db A B C q p=>
  intro b;rw[jH];by_cases ba:a.Kind=b.Kind/\a.bM=b.bM/\a.bd=b.bd/\a.bl=b.bl/\a.af=b.af/\a.Rest.length=b.Rest.length
  . obtain⟨aK,g,dn,iu,iN,uF⟩:=ba;rw[al (by simp[aK,g,dn,iu,iN,uF,fu])];have y:=dy k;have f:=scan (λi=>pf ((i:Int),a,b)) a.Rest.length (λi=>hK (a.Rest.getD i bX).af (b.Rest.getD i bX).af&&(jA (a.Rest.getD i bX).Data (b.Rest.getD i bX).Data&&true)) (.inl false) (.inr (a,b))
     (λi l=>by
      rw[pf,bu,ad (aN l)];simp only[aT,ak,a',I.aO];rw[ad (aN (by omega)),bC]
      grind)
     (by rw[pf,bq,I.aO,I.aO])
    have h0:pf (((0:Nat):Int),a,b)=pf (0,a,b):=rfl;simp only[h0]at f;rw[DC,DC];have m:∀(i:Nat) (h1:i<a.Rest.length) (c:i<b.Rest.length),(hK (a.Rest.getD i bX).af (b.Rest.getD i bX).af&&(jA (a.Rest.getD i bX).Data (b.Rest.getD i bX).Data&&true))=true↔a.Rest[i]=b.Rest[i]:=λi h1 c=>by rw[dc h1,dc c];exact O3
    rcases f with⟨d,e⟩|⟨d,j,e,u⟩
    . have z:=(u5 uF m).1 e;rw[d];obtain⟨kn,r,s⟩:=MF (a:=a.av) (b:=b.av) h1 q;obtain⟨t,n,o⟩:=MF (a:=a.ai) (b:=b.ai) c p;simp only[aT,ak];rw[r,n];refine⟨kn&&t,by cases kn<;>rfl,?_⟩;rw[K8,cc,s,o];grind
    . rw[d];refine⟨false,rfl,?_⟩;grind
  . rw[ad]
    . refine⟨false,rfl,?_⟩;grind
    . simp only[yh,fu];grind
def mG(c:Int):Bool:=decide (c=95\/(97<=c/\c<=122)\/(65<=c/\c<=90))
def zk(c:Int):Bool:=decide (48<=c/\c<=57)
theorem DD(c:Int):yu c=some (mG c):=by
 rw[yu];unfold mG;grind
theorem K9(c:Int):yJ c=some (mG c):=by
 rw[yJ];unfold mG;grind
theorem abE(c:Int):BR c=some (zk c):=by
 rw[BR];unfold zk;grind
theorem abF(c:Int):B6 c=some (zk c):=by
 rw[B6];unfold zk;grind
theorem Me{f:Type}(A B cy:Bool)(a b:Option f)(c:cy=true):
 (some A>>=λd=>some (!d)>>=λt26=>if(cy||(!t26)) then(if t26 then some B else some false)>>=λe=>if(bif t26 then(!e)else false) then a else b else none)=if(A||B) then b else a:=by
 subst c;cases A<;>cases B<;>rfl
theorem MG(s:aj):∃r,kJ s=some r/\sx s=some r:=by
 rw[kJ,sx];simp only[aT,ak];by_cases d:s=[]\/24<s.length
 . have ht:(bif decide (s=[])then true else decide (24<(s.length:Int)))=true:=(by grind);rw[ht];simp_all
 . have f:s≠[]:=λh=>d (.inl h);have l:s.length<=24:=(by omega);have ht:(bif decide (s=[])then true else decide (24<(s.length:Int)))=false:=(by grind);have g:0<s.length:=tW.2 f;have e:aH 0 s.length=true:=aN (k:=0) g;simp only[ht,e,BM,bJ,eG,ak,DD,K9,dV];cases ae:mG (fr s 0)with
   |false=>exact⟨false,rfl,rfl⟩
   |true=>
    rw[bq,bq];let p:Nat->Bool:=λi=>mG (fr s i)||zk (fr s i);have s1:=scan (λi=>k8 (s,(s.length:Int),(i:Int))) s.length p (.inl false) (.inr ())
     (λi a=>by
      rw[k8,bu,ad (aN a),DD,abE,bC]
      exact Me _ _ _ _ _ (aN a))
     (by rw[k8,bq])
    have b:=scan (λi=>oQ (s,(i:Int))) s.length p (.inl false) (.inr ())
     (λi a=>by
      rw[oQ,bu,ad (aN a),K9,abF,bC]
      exact Me _ _ _ _ _ (aN a))
     (by rw[oQ,bq])
    have aK:k8 (s,(s.length:Int),((0:Nat):Int))=k8 (s,(s.length:Int),0):=rfl;have c:oQ (s,((0:Nat):Int))=oQ (s,0):=rfl;simp only[aK,c]at s1 b;rcases s1 with⟨a1,a2⟩|⟨a1,j,a2,a3⟩<;>rcases b with⟨b1,b2⟩|⟨b1,k,b2,b3⟩
    . simp_all
    . grind
    . grind
    simp_all
def nm(s:aj):Bool:=(kJ s).getD false
theorem tB(s:aj):kJ s=some (nm s):=by
 obtain⟨r,h1,_⟩:=MG s;unfold nm;rw[h1];rfl
theorem Ai(s:aj):sx s=some (nm s):=by
 obtain⟨r,h1,a⟩:=MG s;unfold nm;rw[h1,a];rfl
theorem E1{s:aj}(h:nm s=true):s≠[]:=by
 rintro rfl
 unfold nm at h;rw[kJ]at h;simp at h
def kg(l:aq)(names:List aj)(i:Nat):Bool:=
 decide (1<=l.getD i 0)&&decide (l.getD i 0<=1000)&&(decide (i=0)||decide (l.getD (i-1) 0<l.getD i 0))&&nm (names.getD i []) && !((names.take i).contains (names.getD i []))
def kS(l:List aj):List aj:=l.foldl iT []
theorem abG(ks:List aj)(a s:aj):jf (iT ks a) s=(jf ks s||decide (a=s)):=by
 unfold iT;split
 . grind
 . simp[jf,List.any_append]
theorem Kh(l:List aj)(s:aj):jf (kS l) s=l.contains s:=by
 have key:∀(l:List aj) (ks:List aj),jf (l.foldl iT ks) s=(jf ks s||l.contains s):=by
  intro l;induction l with
  |nil=>intro ks;simp
  |cons a r ih=>
   intro ks;rw[List.foldl_cons,ih,abG,Bool.or_assoc];grind
 have:=key l [];simpa[kS,jf]using this
theorem Ki{l:List aj}{i:Nat}(h:i<l.length):iT (kS (l.take i)) (l.getD i [])=kS (l.take (i+1)):=by
 unfold kS;rw[yg,List.foldl_append,eF h,dc h];rfl
theorem ab4{g:Type}(A a b C cy H N:Bool)(c d:Option g)(e:cy=true)(f:a=true->b=true):
 (if(b||(!((!A)&&a))) then
  some (bif A then true else bif a then C else false)>>=λt34=>
  if(cy||(!(!t34))) then
   some (bif t34 then true else H)>>=λt42=>
   if(cy||(!(!t42))) then
    (if !t42 then some N else some false)>>=λr=>
    if(bif t42 then true else(!r)) then c else(if cy then d else none)
   else none
  else none
 else none)=if !A&&(!a || !C)&&N && !H then d else c:=by
 subst e;cases a with
 |true=>have:=f rfl;subst this;cases A<;>cases C<;>cases H<;>cases N<;>rfl
 |false=>cases A<;>cases b<;>cases C<;>cases H<;>cases N<;>rfl
theorem Oi{l:aq}(ae:l.length<=reachBytes)(aD:names.length=l.length):∃r,yN (l,names)=some r/\(r=true↔(∀i,i<l.length->kg l names i=true)/\l.length<=16):=by
 rw[yN];have m:=dy ae;have b:=scan (λi=>pS (l,names,l,(l.length:Int),(i:Int),kS (names.take i))) l.length (kg l names) (.inl false) (.inr l)
  (λi d=>by
   have a:i<names.length:=(by omega);rw[pS,bu,ad (aN d)];simp only[a'];rw[tB,bC,Ki a,Kh];have f:0<i->dh .i64 (i:Int) 1=((i-1:Nat):Int):=by intro h;rw[hj];omega
   refine(ab4 (bif decide (l.getD i 0<1)then true else decide (1000<l.getD i 0)) (decide ((0:Int)<(i:Int))) (aH (dh .i64 (i:Int) 1) l.length) (decide (l.getD i 0<=l.getD (dh .i64 (i:Int) 1).toNat 0)) (aH (i:Int) names.length) ((names.take i).contains (names.getD i [])) (nm (names.getD i [])) _ _ (aN a) (λg=>?_)).trans ?_
   . have e:0<i:=by simp at g;omega
     rw[f e];exact aN (by omega)
   . have:(!(bif decide (l.getD i 0<1)then true else decide (1000<l.getD i 0))&&(!(decide ((0:Int)<(i:Int))) || !(decide (l.getD i 0<=l.getD (dh .i64 (i:Int) 1).toNat 0)))&&nm (names.getD i []) && !((names.take i).contains (names.getD i [])))=kg l names i:=by
      unfold kg;grind
     rw[this])
  (by rw[pS,bq])
 have cY:pS (l,names,l,(l.length:Int),((0:Nat):Int),kS (names.take 0))=pS (l,names,l,(l.length:Int),0,[]):=rfl;simp only[cY]at b;rcases b with⟨h1,c⟩|⟨h1,j,c,k⟩
 . rw[h1];refine⟨decide ((l.length:Int)<=16),rfl,?_⟩;grind
 . rw[h1];refine⟨false,rfl,?_⟩;grind
theorem Co{k n:Nat}(a:k<=16)(h:n*24<=reachBytes:=by simp;omega):room k n=true:=by
 unfold room j' eE;unfold reachBytes at h;simp only[cc,dq];have:(2*n+192)*k<=(2*n+192)*16:=Nat.mul_le_mul_left _ a;omega
theorem vb(l:List α)(i:Nat)(d:α)(h:i<l.length):l.take i++[l.getD i d]=l.take (i+1):=by simp_all
theorem h6{a:Type}(f:α->a)(l:List α)(i:Nat)(d:α)(e:a)(h:i<l.length):(l.map f).getD i e=f (l.getD i d):=by grind
theorem pU{l:List aj}{i:Nat}{s:aj}(b:i<=l.length:=by simp;omega):(l.take i).contains s=true↔∃k,k<i/\l.getD k []=s:=by
 rw[List.contains_iff_mem];constructor
 . intro h;obtain⟨k,a,he⟩:=eS h;rw[od]at a;refine⟨k,by omega,?_⟩;grind
 . rintro ⟨k,a,he⟩
   rw[<-he,dc (by omega)];have:(l.take i)[k]'(by rw[od];omega)=l[k]:=List.getElem_take;grind
def lF(l:aq)(i:Nat):Int:=if i=0 then 0 else l.getD (i-1) 0
theorem MH{l:aq}{i:Nat}(e:i<l.length)(aD:names.length=l.length):
 kg l names i=(decide (lF l i<l.getD i 0)&&decide (1<=l.getD i 0)&&decide (l.getD i 0<=1000)&&nm (names.getD i []) && !((names.take i).contains (names.getD i []))):=by
 unfold kg lF;generalize l.getD i 0=x;generalize l.getD (i-1) 0=y;generalize nm (names.getD i [])=a;generalize (names.take i).contains (names.getD i [])=b;by_cases h0:i=0
 . subst h0;by_cases h1:1<=x
   . have:decide ((0:Int)<x)=true:=by simp;omega
     simp[h1,this]
   . simp[h1]
 . simp only[h0,bT,cZ,Bool.false_or];by_cases h1:1<=x<;>by_cases c:x<=1000<;>by_cases d:y<x<;>simp[h1,c,d]
theorem Kj(l:List c6)(ae:l.length*24<=reachBytes):∀(k i:Nat),i+k=l.length->rp (l,l,(l.length:Int),(i:Int),(l.map (·.af)).take i,(l.map (·.Name)).take i)=some (l,l.map (·.af),l.map (·.Name))
 |0,i,h=>by
  have:i=l.length:=by omega
  subst this;rw[rp,bq];rw[lX (by simp),lX (by simp)]
 |k+1,i,h=>by
  have b:l.length<9223372036854775807:=by unfold reachBytes at ae;omega
  have a:i<l.length:=by omega
  rw[rp,bu,ad (aN a)];simp only[aT,ak,a'];rw[<-h6 (·.af) l i dN 0 a,<-h6 (·.Name) l i dN [] a,vb _ _ _ (by simpa using a),vb _ _ _ (by simpa using a)];rw[ad (Co (by omega)),ad (Co (by omega)),bC];exact Kj l ae k (i+1) (by omega)
theorem MI{l:List c6}(ae:l.length*24<=reachBytes):∃r,uV l=some r/\(r=true↔0<l.length/\(∀i,i<l.length->kg (l.map (·.af)) (l.map (·.Name)) i=true)/\l.length<=16):=by
 have h:=Kj l ae l.length 0 (by omega);have a:rp (l,l,(l.length:Int),0,[],[])=some (l,l.map (·.af),l.map (·.Name)):=h;rw[uV,a];simp only[aT,ak];obtain⟨r,h1,b⟩:=Oi (l:=l.map (·.af)) (names:=l.map (·.Name)) (by simp;unfold reachBytes at*;omega) (by simp);rw[gA]at b;grind
theorem Ry(a b:Int):xK (a,b)=some (decide (a<b)&&decide (1<=b)&&decide (b<=1000)):=by
 rw[xK];grind
theorem Y1(l:List c6)(ae:l.length<=reachBytes)(i:Nat)(b:i<l.length):
 nj (l,(i:Int),0)=some (if((l.map (·.Name)).take i).contains ((l.map (·.Name)).getD i []) then .inl false else .inr (l,(i:Int))):=by
 have f:=dy ae;have d:=scan (λk=>nj (l,(i:Int),(k:Int))) i (λk=>!(decide ((l.getD k dN).Name=(l.getD i dN).Name))) (.inl false) (.inr (l,(i:Int)))
  (λk c=>by
   rw[nj,bu,ad (aN (by omega)),ad (aN b),bC]
   grind)
  (by rw[nj,bq])
 have cY:nj (l,(i:Int),((0:Nat):Int))=nj (l,(i:Int),0):=rfl;simp only[cY]at d;rw[h6 (·.Name) l i dN [] b];rcases d with⟨h1,a⟩|⟨h1,j,a,e⟩
 . rw[h1,al];rw[pU]
   rintro ⟨k,c,he⟩
   rw[h6 (·.Name) l k dN [] (by omega)]at he;have:=a k c;rw[he]at this;simp at this
 . rw[h1,ad];rw[pU];refine⟨j,a,?_⟩;rw[h6 (·.Name) l j dN [] (by omega)];simpa using e
theorem ab5{l:List c6}(ae:l.length<=reachBytes):∃r,yE l=some r/\(r=true↔0<l.length/\(∀i,i<l.length->kg (l.map (·.af)) (l.map (·.Name)) i=true)/\l.length<=16):=by
 have f:=dy ae;have b:=scan (λi=>pn (l,lF (l.map (·.af)) i,(i:Int))) l.length (kg (l.map (·.af)) (l.map (·.Name))) (.inl false) (.inr l)
  (λi a=>by
   rw[pn,bu,ad (aN a),Ry,Y1 l ae i a,MH (by simpa using a) (by simp)];simp only[aT,ak,a'];rw[<-h6 (·.af) l i dN 0 a,<-h6 (·.Name) l i dN [] a,Ai];generalize (decide (lF (l.map (·.af)) i<(l.map (·.af)).getD i 0)&&decide (1<=(l.map (·.af)).getD i 0)&&decide ((l.map (·.af)).getD i 0<=1000))=q;rw[ad (by rw[aN a];rfl)];cases q with
   |false=>rfl
   |true=>
    simp only[cW,eG,bJ,ak,mM];cases nm ((l.map (·.Name)).getD i [])with
    |false=>rfl
    |true=>
     simp only[cW,dV,bK,bT,mM];cases e:((l.map (·.Name)).take i).contains ((l.map (·.Name)).getD i [])with
     |true=>simp
     |false=>
      simp only[bK,bT,eG,bJ];rw[ad (aN a),bC];have:lF (l.map (·.af)) (i+1)=(l.getD i dN).af:=by
       unfold lF;grind
      grind)
  (by rw[pn,bq])
 have cY:pn (l,lF (l.map (·.af)) 0,((0:Nat):Int))=pn (l,0,0):=rfl;simp only[cY]at b;rw[yE];rcases b with⟨h1,c⟩|⟨h1,j,c,d⟩
 . rw[h1];refine⟨_,rfl,?_⟩;grind
 . rw[h1];refine⟨false,rfl,?_⟩;grind
theorem aaM{l:List c6}(ae:l.length*24<=reachBytes):∃r,uV l=some r/\yE l=some r:=by
 obtain⟨r,h1,a⟩:=MI ae;obtain⟨q,b,c⟩:=ab5 (l:=l) (by unfold reachBytes at*;omega);grind
structure eZ (t:ah):Prop where
 syms:t.bg.length*24<=reachBytes
 gU:t.ag.length*24<=reachBytes
 jd:∀m,m∈t.ag->bH m.bw
theorem im{n:Nat}(h:n*24<=reachBytes):n<=reachBytes:=by unfold reachBytes at*;omega
theorem Y2{a b:aU}:a=b↔a.af=b.af/\a.Name=b.Name/\a.au=b.au/\a.cn=b.cn/\a.bW=b.bW/\a.bw=b.bw:=by cases a;cases b;simp
theorem iK(x:aU):(⟨x.af,x.Name,x.au,x.cn,x.bW,I.eta x.bw⟩:aU)=x:=by cases x;simp[I.aO]
theorem QX{a b:aU}:(bif bif bif bif decide (a.af=b.af)then decide (a.Name=b.Name)else false then decide (a.au=b.au)else false then fu a.cn b.cn else false then fu a.bW b.bW else false)=true↔a.af=b.af/\a.Name=b.Name/\a.au=b.au/\a.cn=b.cn/\a.bW=b.bW:=by
 simp only[yh,fu];grind
theorem RF{a b:aU}(f:q=true↔a.af=b.af/\a.Name=b.Name/\a.au=b.au/\a.cn=b.cn/\a.bW=b.bW)(g:eW x a.bw b.bw):
 eW (some q>>=λt37=>(if t37 then x else some false)>>=λr=>some (bif t37 then r else false)) a b:=by
 obtain⟨d,h1,e⟩:=g;subst h1;refine⟨q&&d,by cases q<;>cases d<;>rfl,?_⟩;rw[Y2,cc,f,e];constructor
 . rintro ⟨⟨a1,a2,a3,a4,a5⟩,c⟩;exact⟨a1,a2,a3,a4,a5,c⟩
 . rintro ⟨a1,a2,a3,a4,a5,c⟩;exact⟨⟨a1,a2,a3,a4,a5⟩,c⟩
theorem aaN{a:aU}(h:bH a.bw)(b:aU):eW (x9 (a,b)) a b:=by
 rw[x9];simp only[DC,I.aO];exact RF QX (CS h _)
theorem aaO{a:aU}(h:bH a.bw)(b:aU):eW (yw (a,b)) a b:=by
 rw[yw];simp only[DC,I.aO];exact RF QX (Dn h _)
theorem Jw{m:Type}{g:m}{a b:List aU}(ae:a.length=b.length)(ih:∀x,x∈a->∀y,eW (f (x,y)) x y)(L:Nat->Option (Bool ⊕ m))
 (q:∀i,i<a.length->L i=(f (a.getD i aC,b.getD i aC)>>=λr=>if !r then some (.inl false)else L (i+1)))
 (n:L a.length=some (.inr g)):(L 0=some (.inr g)/\a=b)\/(L 0=some (.inl false)/\a≠b):=by
 have k:∀(i:Nat) (h1:i<a.length) (c:i<b.length),eW (f (a.getD i aC,b.getD i aC)) a[i] b[i]:=by grind
 have l:∀(i:Nat) (h1:i<a.length) (c:i<b.length),(f (a.getD i aC,b.getD i aC)).getD false=true↔a[i]=b[i]:=by
  intro i h1 c;obtain⟨r,d,p⟩:=k i h1 c;grind
 have:=scan L a.length (λi=>(f (a.getD i aC,b.getD i aC)).getD false) (.inl false) (.inr g)
  (λi o=>by
   obtain⟨r,h1,c⟩:=k i o (by omega)
   grind) n
 rcases this with⟨h1,c⟩|⟨h1,j,c,d⟩
 . exact .inl ⟨h1,(u5 ae l).1 c⟩
 . refine .inr ⟨h1,λe=>?_⟩;have:=(u5 ae l).2 e j c;rw[d]at this;cases this
theorem Yh{a b:List aU}(d:a.length<=reachBytes)(e:∀m,m∈a->bH m.bw):eW (Ci (a,b)) a b:=by
 rw[Ci];by_cases ae:a.length=b.length
 . rw[ch];have l:=dy d;have hs:=Jw (g:=()) ae (f:=x9) (λx k y=>aaN (e x k) y) (λi=>o' (b,a,(a.length:Int),(i:Int)))
    (λi j=>by
     rw[o',bu,ad (aN j)];simp only[aT,ak,a',iK]
     rw[ad (aN (by omega)),bC])
    (by rw[o',bq])
   have cY:o' (b,a,(a.length:Int),((0:Nat):Int))=o' (b,a,(a.length:Int),0):=rfl;simp only[cY]at hs;rcases hs with⟨h1,c⟩|⟨h1,c⟩
   . rw[h1];exact⟨true,rfl,by simp[c]⟩
   . rw[h1];exact⟨false,rfl,by simp[c]⟩
 . rw[bu];exact nl ae
theorem Mf{a b:ah}:a=b↔a.Kind=b.Kind/\a.Name=b.Name/\a.bB=b.bB/\a.bF=b.bF/\a.Max=b.Max/\a.Key=b.Key/\a.aG=b.aG/\a.Open=b.Open/\a.bg=b.bg/\a.ag=b.ag:=by
 cases a;cases b;grind
theorem ac7{a b:ah}:(bif bif bif bif bif bif bif decide (a.Kind=b.Kind)then decide (a.Name=b.Name)else false then decide (a.bB=b.bB)else false then decide (a.bF=b.bF)else false then decide (a.Max=b.Max)else false then decide (a.Key=b.Key)else false then decide (a.aG=b.aG)else false then fu a.Open b.Open else false)=true↔
 a.Kind=b.Kind/\a.Name=b.Name/\a.bB=b.bB/\a.bF=b.bF/\a.Max=b.Max/\a.Key=b.Key/\a.aG=b.aG/\a.Open=b.Open:=by
 simp only[yh,fu];by_cases h1:a.Kind=b.Kind<;>by_cases c:a.Name=b.Name<;>by_cases d:a.bB=b.bB<;>by_cases e:a.bF=b.bF<;>simp[h1,c,d,e];by_cases ba:a.Max=b.Max<;>by_cases f:a.Key=b.Key<;>by_cases g:a.aG=b.aG<;>simp[ba,f,g]
theorem iX{a:ah}(h:eZ a)(b:ah):eW (h2 (a,b)) a b:=by
 rw[h2];obtain⟨d,s1,g⟩:=ac6 (a:=a.bg) (b:=b.bg) (im h.syms);obtain⟨c,e,f⟩:=Yh (a:=a.ag) (b:=b.ag) (im h.gU) h.jd;have e8:=ac7 (a:=a) (b:=b);generalize (bif bif bif bif bif bif bif decide (a.Kind=b.Kind)then decide (a.Name=b.Name)else false then decide (a.bB=b.bB)else false then decide (a.bF=b.bF)else false then decide (a.Max=b.Max)else false then decide (a.Key=b.Key)else false then decide (a.aG=b.aG)else false then fu a.Open b.Open else false)=q at e8⊢;simp only[aT,ak];rw[s1,e];refine⟨q&&d&&c,by cases q<;>cases d<;>cases c<;>rfl,?_⟩;rw[Mf,cc,cc,e8,g,f];grind
theorem Dd(a:ah):(⟨a.Kind,a.Name,a.bB,a.bF,a.Max,a.bg,a.ag,a.Key,a.aG,a.Open⟩:ah)=a:=by cases a;rfl
theorem pF{a:ah}(h:eZ a)(b:ah):eW (Cs (a,b)) a b:=by
 rw[Cs];simp only[Dd];by_cases ba:(a.Kind=b.Kind/\a.Name=b.Name/\a.bB=b.bB/\a.bF=b.bF/\a.Max=b.Max/\a.Key=b.Key/\a.aG=b.aG/\a.Open=b.Open)/\a.bg.length=b.bg.length/\a.ag.length=b.ag.length
 . obtain⟨⟨aK,n,dn,iu,iN,uF,QE,e8⟩,e,A4⟩:=ba;rw[al (by simp[aK,n,dn,iu,iN,uF,QE,e8,e,A4,fu])];have A:=dy (im h.syms);have B:=dy (im h.gU);have m:=scan (λi=>ph ((i:Int),a,b)) a.bg.length (λi=>hK (a.bg.getD i dN).af (b.bg.getD i dN).af&&(jA (a.bg.getD i dN).Name (b.bg.getD i dN).Name&&true)) (.inl false) (.inr (a,b))
    (λi p=>by
     rw[ph,bu,ad (aN p)];simp only[aT,ak,a'];rw[ad (aN (by omega)),bC]
     grind)
    (by rw[ph,bq])
   have h0:ph (((0:Nat):Int),a,b)=ph (0,a,b):=rfl;simp only[h0]at m;have q:∀(i:Nat) (h1:i<a.bg.length) (l:i<b.bg.length),(hK (a.bg.getD i dN).af (b.bg.getD i dN).af&&(jA (a.bg.getD i dN).Name (b.bg.getD i dN).Name&&true))=true↔a.bg[i]=b.bg[i]:=λi h1 l=>by rw[dc h1,dc l];exact Og
   rcases m with⟨c,k⟩|⟨c,j,k,z⟩
   . have C:=(u5 e q).1 k;rw[c];simp only[aT,ak];have hs:=Jw (g:=()) A4 (f:=yw) (λx r y=>aaO (h.jd x r) y) (λi=>pj ((i:Int),a,b))
      (λi o=>by
       rw[pj,bu,ad (aN o)];simp only[aT,ak,a',iK]
       rw[ad (aN (by omega)),bC])
      (by rw[pj,bq])
     have cY:pj (((0:Nat):Int),a,b)=pj (0,a,b):=rfl;simp only[cY]at hs;rcases hs with⟨d,s⟩|⟨d,s⟩
     . rw[d];refine⟨true,rfl,?_⟩;rw[Mf];grind
     . rw[d];refine⟨false,rfl,?_⟩;grind
   . rw[c];refine⟨false,rfl,?_⟩;grind
 . rw[ad]
   . refine⟨false,rfl,?_⟩;grind
   . simp only[yh,fu];by_cases t:a.Kind=b.Kind<;>by_cases u:a.Name=b.Name<;>by_cases v:a.bB=b.bB<;>by_cases w:a.bF=b.bF<;>simp[t,u,v,w];grind
def pJ(v:I):Bool:=(lM (v,ar)).getD false
theorem ab6(h:bH v):lM (v,ar)=some (pJ v):=by
 obtain⟨r,h1,a⟩:=CS h ar;unfold pJ;rw[h1];rfl
theorem ab7(h:bH v):jH (v,ar)=some (pJ v):=by
 obtain⟨r,h1,b⟩:=CS h ar;obtain⟨q,a,c⟩:=Dn h ar;unfold pJ;rw[h1,a];grind
theorem abH(h:bH v):C3 v=some (pJ v):=by
 rw[C3,I.aO];have:=ab6 h;unfold ar at this;grind
def mg(a:Bool)(m:aU):Bool:=(a&&(m.cn||m.bW))||(m.cn&&m.bW)||(!m.bW && !pJ m.bw)
theorem bh{l:List α}{i:Nat}(h:i<l.length)(d:α):l.getD i d∈l:=by grind
theorem Kk(h:eZ t):∃r,sN t=some r/\(r=true↔(∀i,i<t.ag.length->mg (decide (t.Kind=6)) (t.ag.getD i aC)=false)/\(t.Kind=5\/0<t.ag.length)/\(∀i,i<t.ag.length->kg (t.ag.map (·.af)) (t.ag.map (·.Name)) i=true)/\t.ag.length<=16):=by
 have n:t.ag.length<9223372036854775807:=dy (im h.gU);have c:=scan (λi=>o7 (t.ag,(t.ag.length:Int),(i:Int),t,(t.ag.map (·.af)).take i,(t.ag.map (·.Name)).take i)) t.ag.length (λi=>!(mg (decide (t.Kind=6)) (t.ag.getD i aC))) (.inl false) (.inr (t,t.ag.map (·.af),t.ag.map (·.Name)))
  (λi a=>by
   have k:=abH (h.jd _ (bh a aC));rw[o7,bu,ad (aN a)];simp only[aT,ak,a',I.aO];rw[<-h6 (·.af) t.ag i aC 0 a,<-h6 (·.Name) t.ag i aC [] a,vb _ _ _ (by simpa using a),vb _ _ _ (by simpa using a)];have f:((t.ag.map (·.af)).take (i+1)).length*24<=reachBytes:=by
    refine hP (eY _ ?_) h.gU;simp;omega
   have g:((t.ag.map (·.Name)).take (i+1)).length*24<=reachBytes:=(by grind);rw[ad (Co (by omega) f),ad (Co (by omega) g),bC,k];unfold mg
   grind)
  (by
   rw[o7,bq]
   rw[lX (by simp),lX (by simp)])
 have cY:o7 (t.ag,(t.ag.length:Int),((0:Nat):Int),t,(t.ag.map (·.af)).take 0,(t.ag.map (·.Name)).take 0)=o7 (t.ag,(t.ag.length:Int),0,t,[],[]):=rfl;simp only[cY]at c;rw[sN];obtain⟨r,h1,e⟩:=Oi (l:=t.ag.map (·.af)) (names:=t.ag.map (·.Name)) (by simpa using im h.gU) (by simp);rw[gA]at e;rcases c with⟨b,d⟩|⟨b,j,d,m⟩
 . rw[b];simp only[aT,ak];rw[h1];refine⟨(bif decide (t.Kind=5)then true else decide (0<((t.ag.map (·.af)).length:Int)))&&r,?_,?_⟩
   . grind
   grind
 grind
theorem Y3(l:List aU)(record:Bool)(ae:l.length<=reachBytes)(i:Nat)(e:i<l.length):
 nk (l,record,(i:Int),0,l.getD i aC)=some (if((l.map (·.Name)).take i).contains ((l.map (·.Name)).getD i []) then .inl false else .inr (l,record,(i:Int),l.getD i aC)):=by
 have f:=dy ae;have c:=scan (λk=>nk (l,record,(i:Int),(k:Int),l.getD i aC)) i (λk=>!(decide ((l.getD k aC).Name=(l.getD i aC).Name))) (.inl false) (.inr (l,record,(i:Int),l.getD i aC))
  (λk b=>by
   rw[nk,bu,ad (aN (by omega)),bC];simp only[a',iK]
   grind)
  (by rw[nk,bq,iK])
 have cY:nk (l,record,(i:Int),((0:Nat):Int),l.getD i aC)=nk (l,record,(i:Int),0,l.getD i aC):=rfl;simp only[cY]at c;rw[h6 (·.Name) l i aC [] e];rcases c with⟨h1,a⟩|⟨h1,j,a,d⟩
 . rw[h1,al];rw[pU]
   rintro ⟨k,b,he⟩
   rw[h6 (·.Name) l k aC [] (by omega)]at he;have:=a k b;rw[he]at this;simp at this
 . rw[h1,ad];rw[pU];refine⟨j,a,?_⟩;rw[h6 (·.Name) l j aC [] (by omega)];simpa using d
theorem Y4{l:List aU}{record:Bool}(ae:l.length<=reachBytes)(f:∀m,m∈l->bH m.bw):∃r,vm (l,record)=some r/\(r=true↔(∀i,i<l.length->mg (!record) (l.getD i aC)=false)/\(record=true\/0<l.length)/\(∀i,i<l.length->kg (l.map (·.af)) (l.map (·.Name)) i=true)/\l.length<=16):=by
 have n:=dy ae;have b:=scan (λi=>po (l,record,lF (l.map (·.af)) i,(i:Int))) l.length (λi=>kg (l.map (·.af)) (l.map (·.Name)) i && !(mg (!record) (l.getD i aC))) (.inl false) (.inr (l,record))
  (λi a=>by
   have c:=ab7 (f _ (bh a aC));unfold ar at c;rw[po,bu,ad (aN a)];simp only[aT,ak,a',I.aO,iK,MH (l:=l.map (·.af)) (names:=l.map (·.Name)) (i:=i) (by simpa using a) (by simp)];rw[Y3 l record ae i a,c];have e:lF (l.map (·.af)) (i+1)=(l.getD i aC).af:=by
    unfold lF;grind
   rw[<-h6 (·.af) l i aC 0 a,<-h6 (·.Name) l i aC [] a,Ry,Ai];simp only[ak];generalize (decide (lF (l.map (·.af)) i<(l.map (·.af)).getD i 0)&&decide (1<=(l.map (·.af)).getD i 0)&&decide ((l.map (·.af)).getD i 0<=1000))=q;cases q with
   |false=>simp
   |true=>
    simp only[cW,eG,bJ,ak,mM];cases nm ((l.map (·.Name)).getD i [])with
    |false=>simp
    |true=>
     simp only[cW,mM,ji,dV];unfold mg;cases record<;>cases (l.getD i aC).cn<;>cases (l.getD i aC).bW<;>cases pJ (l.getD i aC).bw <;>
      simp only[cW,eG,Bool.or_self,Bool.and_self,Bool.or_true,BM,wo,Bool.and_false,Bool.false_and,mM,Bool.false_or,ji,dK,dV,bJ,bT,bK,ak] <;>
      first
       |rfl
       |(cases k:((l.map (·.Name)).take i).contains ((l.map (·.Name)).getD i [])with
        |true=>simp
        |false=>
         simp only[bK,bT,eG,bJ];rw[bC,e]
         try rfl))
  (by rw[po,bq])
 have cY:po (l,record,lF (l.map (·.af)) 0,((0:Nat):Int))=po (l,record,0,0):=rfl;simp only[cY]at b;rw[vm];rcases b with⟨h1,d⟩|⟨h1,j,d,g⟩
 . rw[h1];refine⟨_,rfl,?_⟩;grind
 . rw[h1];refine⟨false,rfl,?_⟩;grind
theorem K'(h:eZ t)(d:t.Kind=5\/t.Kind=6):∃r,sN t=some r/\vm (t.ag,decide (t.Kind=5))=some r:=by
 obtain⟨r,h1,a⟩:=Kk h;obtain⟨q,b,c⟩:=Y4 (l:=t.ag) (record:=decide (t.Kind=5)) (im h.gU) h.jd;have e:(!(decide (t.Kind=5)))=decide (t.Kind=6):=by grind
 grind
theorem eZ.plain{k l h m kk e:Int}{n:aj}{o:Bool}(aE:S.length*24<=reachBytes)(a:Ms.length*24<=reachBytes)(c:∀x,x∈Ms->bH x.bw):eZ ⟨k,n,l,h,m,S,Ms,kk,e,o⟩:=⟨aE,a,c⟩
theorem afM{L:Int}(h:eZ (⟨1,N,L,H,M,S,Ms,K,E,c⟩:ah)):∃r,gw (⟨1,N,L,H,M,S,Ms,K,E,c⟩:ah)=some r/\hF (⟨1,N,L,H,M,S,Ms,K,E,c⟩:ah)=some r/\(r=true->N=[]):=by
 obtain⟨a,a1,a2⟩:=iX (a:=(⟨0,N,L,H,M,S,Ms,K,E,c⟩:ah)) ⟨h.syms,h.gU,h.jd⟩ (⟨0,[],0,0,0,[],[],0,0,false⟩:ah);obtain⟨b,b1,b2⟩:=pF h (⟨1,[],0,0,0,[],[],0,0,false⟩:ah);have d:a=b:=by grind
 subst d;refine⟨a,by simp[gw,a1],by simp[hF,mx,j4,b1];try (cases a<;>rfl),λe=>?_⟩;grind
theorem afN{L:Int}(h:eZ (⟨2,N,L,H,M,S,Ms,K,E,c⟩:ah)):∃r,gw (⟨2,N,L,H,M,S,Ms,K,E,c⟩:ah)=some r/\hF (⟨2,N,L,H,M,S,Ms,K,E,c⟩:ah)=some r/\(r=true->N=[]):=by
 obtain⟨a,a1,a2⟩:=iX (a:=(⟨0,N,0,0,M,S,Ms,K,E,c⟩:ah)) ⟨h.syms,h.gU,h.jd⟩ (⟨0,[],0,0,0,[],[],0,0,false⟩:ah);obtain⟨b,b1,b2⟩:=pF h (⟨2,[],L,H,0,[],[],0,0,false⟩:ah);have d:a=b:=by grind
 subst d;refine⟨decide (L<=H)&&a,?_,?_,λe=>?_⟩
 . simp only[gw];grind
 . simp only[hF];generalize decide (L<=H)=q;simp[mx,j4,b1];grind
 grind
theorem afO{L:Int}(h:eZ (⟨3,N,L,H,M,S,Ms,K,E,c⟩:ah)):∃r,gw (⟨3,N,L,H,M,S,Ms,K,E,c⟩:ah)=some r/\hF (⟨3,N,L,H,M,S,Ms,K,E,c⟩:ah)=some r/\(r=true->N=[]):=by
 obtain⟨a,a1,a2⟩:=iX (a:=(⟨0,N,L,H,0,S,Ms,K,E,c⟩:ah)) ⟨h.syms,h.gU,h.jd⟩ (⟨0,[],0,0,0,[],[],0,0,false⟩:ah);obtain⟨b,b1,b2⟩:=pF h (⟨3,[],0,0,M,[],[],0,0,false⟩:ah);have d:a=b:=by grind
 subst d;refine⟨(bif decide (0<=M)then decide (M<=200)else false)&&a,?_,?_,λe=>?_⟩
 . simp only[gw];grind
 . simp only[hF];generalize (bif decide (0<=M)then decide (M<=200)else false)=q;simp[mx,j4,b1];grind
 grind
theorem afP{L:Int}(h:eZ (⟨4,N,L,H,M,S,Ms,K,E,c⟩:ah)):∃r,gw (⟨4,N,L,H,M,S,Ms,K,E,c⟩:ah)=some r/\hF (⟨4,N,L,H,M,S,Ms,K,E,c⟩:ah)=some r/\(r=true->N≠[]):=by
 obtain⟨a,a1,a2⟩:=iX (a:=(⟨0,[],L,H,M,[],Ms,K,E,false⟩:ah)) ⟨(by simp),h.gU,h.jd⟩ (⟨0,[],0,0,0,[],[],0,0,false⟩:ah);obtain⟨b,b1,b2⟩:=pF h (⟨4,N,0,0,0,S,[],0,0,c⟩:ah);have f:a=b:=by grind
 subst f;obtain⟨q,g,e⟩:=aaM (l:=S) h.syms;refine⟨nm N&&q&&a,?_,?_,λd=>?_⟩
 . simp only[gw];simp[a1,g,tB];grind
 . simp only[hF]
   try simp at e
   simp[mx,j4,b1,e,Ai];grind
 . simp only[cc]at d;exact E1 d.1.1
theorem afQ{L:Int}(h:eZ (⟨5,N,L,H,M,S,Ms,K,E,c⟩:ah)):∃r,gw (⟨5,N,L,H,M,S,Ms,K,E,c⟩:ah)=some r/\hF (⟨5,N,L,H,M,S,Ms,K,E,c⟩:ah)=some r/\(r=true->N≠[]):=by
 obtain⟨a,a1,a2⟩:=iX (a:=(⟨0,[],L,H,M,S,[],K,E,(bif c then decide ((5:Int)=5)else false)⟩:ah)) ⟨h.syms,(by simp),(by simp)⟩ (⟨0,[],0,0,0,[],[],0,0,false⟩:ah);obtain⟨b,b1,b2⟩:=pF h (⟨5,N,0,0,0,[],Ms,0,0,false⟩:ah);have g:a=b:=by grind
 subst g;obtain⟨q,e,f⟩:=K' h (by simp);refine⟨nm N&&q&&a,?_,?_,λd=>?_⟩
 . simp only[gw]
   try simp at a1
   try simp at e
   simp[a1,e,tB];grind
 . simp only[hF]
   try simp at f
   simp[mx,j4,b1,f,Ai];grind
 . simp only[cc]at d;exact E1 d.1.1
theorem afR{L:Int}(h:eZ (⟨6,N,L,H,M,S,Ms,K,E,c⟩:ah)):∃r,gw (⟨6,N,L,H,M,S,Ms,K,E,c⟩:ah)=some r/\hF (⟨6,N,L,H,M,S,Ms,K,E,c⟩:ah)=some r/\(r=true->N≠[]):=by
 obtain⟨a,a1,a2⟩:=iX (a:=(⟨0,[],L,H,M,S,[],K,E,(bif c then decide ((6:Int)=5)else false)⟩:ah)) ⟨h.syms,(by simp),(by simp)⟩ (⟨0,[],0,0,0,[],[],0,0,false⟩:ah);obtain⟨b,b1,b2⟩:=pF h (⟨6,N,0,0,0,[],Ms,0,0,c⟩:ah);have g:a=b:=by grind
 subst g;obtain⟨q,e,f⟩:=K' h (by simp);refine⟨nm N&&q&&a,?_,?_,λd=>?_⟩
 . simp only[gw]
   try simp at a1
   try simp at e
   simp[a1,e,tB];grind
 . simp only[hF]
   try simp at f
   simp[mx,j4,b1,f,Ai];grind
 . simp only[cc]at d;exact E1 d.1.1
theorem afS{L:Int}(h:eZ (⟨7,N,L,H,M,S,Ms,K,E,c⟩:ah)):∃r,gw (⟨7,N,L,H,M,S,Ms,K,E,c⟩:ah)=some r/\hF (⟨7,N,L,H,M,S,Ms,K,E,c⟩:ah)=some r/\(r=true->N=[]):=by
 obtain⟨a,a1,a2⟩:=iX (a:=(⟨0,N,L,H,0,S,Ms,K,0,c⟩:ah)) ⟨h.syms,h.gU,h.jd⟩ (⟨0,[],0,0,0,[],[],0,0,false⟩:ah);obtain⟨b,b1,b2⟩:=pF h (⟨7,[],0,0,M,[],[],0,E,false⟩:ah);have d:a=b:=by grind
 subst d;refine⟨(bif decide (0<=M)then decide (M<=50)else false)&&a,?_,?_,λe=>?_⟩
 . simp only[gw];grind
 . simp only[hF];generalize (bif decide (0<=M)then decide (M<=50)else false)=q;simp[mx,j4,b1];grind
 grind
theorem afT{L:Int}(h:eZ (⟨8,N,L,H,M,S,Ms,K,E,c⟩:ah)):∃r,gw (⟨8,N,L,H,M,S,Ms,K,E,c⟩:ah)=some r/\hF (⟨8,N,L,H,M,S,Ms,K,E,c⟩:ah)=some r/\(r=true->N=[]):=by
 obtain⟨a,a1,a2⟩:=iX (a:=(⟨0,N,L,H,0,S,Ms,0,0,c⟩:ah)) ⟨h.syms,h.gU,h.jd⟩ (⟨0,[],0,0,0,[],[],0,0,false⟩:ah);obtain⟨b,b1,b2⟩:=pF h (⟨8,[],0,0,M,[],[],K,E,false⟩:ah);have d:a=b:=by grind
 subst d;refine⟨(bif decide (0<=M)then decide (M<=50)else false)&&a,?_,?_,λe=>?_⟩
 . simp only[gw];grind
 . simp only[hF];generalize (bif decide (0<=M)then decide (M<=50)else false)=q;simp[mx,j4,b1];grind
 grind
theorem afU{L:Int}(h:eZ (⟨9,N,L,H,M,S,Ms,K,E,c⟩:ah)):∃r,gw (⟨9,N,L,H,M,S,Ms,K,E,c⟩:ah)=some r/\hF (⟨9,N,L,H,M,S,Ms,K,E,c⟩:ah)=some r/\(r=true->N=[]):=by
 obtain⟨a,a1,a2⟩:=iX (a:=(⟨0,N,L,H,M,S,Ms,K,0,c⟩:ah)) ⟨h.syms,h.gU,h.jd⟩ (⟨0,[],0,0,0,[],[],0,0,false⟩:ah);obtain⟨b,b1,b2⟩:=pF h (⟨9,[],0,0,0,[],[],0,E,false⟩:ah);have d:a=b:=by grind
 subst d;refine⟨a,by simp[gw,a1],by simp[hF,mx,j4,b1];try (cases a<;>rfl),λe=>?_⟩;grind
def kB(k:Int):Bool:=bif bif decide (k=4)then true else decide (k=5)then true else decide (k=6)
theorem La(h:eZ t):∃r,gw t=some r/\hF t=some r/\(r=true->1<=t.Kind/\t.Kind<=9/\kB t.Kind=!(decide (t.Name=[]))):=by
 by_cases a:1<=t.Kind/\t.Kind<=9
 . obtain⟨f,N,L,H,M,S,Ms,K,E,g⟩:=t;simp only at a;have:f=1\/f=2\/f=3\/f=4\/f=5\/f=6\/f=7\/f=8\/f=9:=(by omega);rcases this with rfl|rfl|rfl|rfl|rfl|rfl|rfl|rfl|rfl
   . obtain⟨r,h1,b,c⟩:=afM h;exact⟨r,h1,b,λd=>⟨a.1,a.2,by simp[kB,c d]⟩⟩
   . obtain⟨r,h1,b,c⟩:=afN h;exact⟨r,h1,b,λd=>⟨a.1,a.2,by simp[kB,c d]⟩⟩
   . obtain⟨r,h1,b,c⟩:=afO h;exact⟨r,h1,b,λd=>⟨a.1,a.2,by simp[kB,c d]⟩⟩
   . obtain⟨r,h1,b,c⟩:=afP h;exact⟨r,h1,b,λd=>⟨a.1,a.2,by simp[kB,c d]⟩⟩
   . obtain⟨r,h1,b,c⟩:=afQ h;exact⟨r,h1,b,λd=>⟨a.1,a.2,by simp[kB,c d]⟩⟩
   . obtain⟨r,h1,b,c⟩:=afR h;exact⟨r,h1,b,λd=>⟨a.1,a.2,by simp[kB,c d]⟩⟩
   . obtain⟨r,h1,b,c⟩:=afS h;exact⟨r,h1,b,λd=>⟨a.1,a.2,by simp[kB,c d]⟩⟩
   . obtain⟨r,h1,b,c⟩:=afT h;exact⟨r,h1,b,λd=>⟨a.1,a.2,by simp[kB,c d]⟩⟩
   . obtain⟨r,h1,b,c⟩:=afU h;exact⟨r,h1,b,λd=>⟨a.1,a.2,by simp[kB,c d]⟩⟩
 . refine⟨false,?_,?_,λh=>by cases h⟩
   . have e:∀k:Int,1<=k->k<=9->¬t.Kind=k:=λk h1 b e=>a (by omega);simp[gw,e 1,e 2,e 3,e 4,e 5,e 6,e 7,e 8,e 9]
   . have e:(bif decide (t.Kind<1)then true else decide (9<t.Kind))=true:=(by grind);rw[hF,e];rfl
def e'(t:ah):aq:=t.ag.map (·.au)++(if t.Kind=8 then[t.Key]else[])++(if 7<=t.Kind then[t.aG]else[])
theorem vT{k n:Nat}(a:k<=16){m:Nat}(h:m*24<=reachBytes)(aD:n<=m+2):room k n=true:=by
 unfold room j' eE;unfold reachBytes at h;simp only[cc,dq];have:(2*n+192)*k<=(2*n+192)*16:=Nat.mul_le_mul_left _ a;omega
theorem Kl(t:ah)(h:t.ag.length*24<=reachBytes):∀(k i:Nat),i+k=t.ag.length->qN (t.ag,(t.ag.length:Int),(i:Int),t,(t.ag.map (·.au)).take i)=some (t,t.ag.map (·.au))
 |0,i,a=>by rw[qN,ch,lX (by simp;omega)]
 |k+1,i,a=>by
  have b:=dy (im h);have ay:i<t.ag.length:=by omega
  rw[qN,bu,ad (aN ay)];simp only[aT,ak,a'];rw[<-h6 (·.au) t.ag i aC 0 ay,vb _ _ _ (by simpa using ay),bC,ad (vT (m:=t.ag.length) (by omega) h (by simp;omega))];exact Kl t h k (i+1) (by omega)
theorem ab8(h:t.ag.length*24<=reachBytes):CC t=some (e' t):=by
 have h0:=Kl t h t.ag.length 0 (by omega);have a:qN (t.ag,(t.ag.length:Int),0,t,[])=some (t,t.ag.map (·.au)):=h0;rw[CC,a];unfold e';simp only[aT,ak];have b:room 8 (t.ag.map (·.au)++[t.Key]).length=true:=vT (m:=t.ag.length) (by omega) h (by simp);have c:room 8 (t.ag.map (·.au)++[t.Key]++[t.aG]).length=true:=vT (m:=t.ag.length) (by omega) h (by simp);grind
theorem Km(t:ah)(h:t.ag.length*24<=reachBytes):∀(k i:Nat),i+k=t.ag.length->rk ((i:Int),t,(t.ag.map (·.au)).take i)=some (t,t.ag.map (·.au))
 |0,i,a=>by rw[rk,ch,lX (by simp;omega)]
 |k+1,i,a=>by
  have b:=dy (im h);have ay:i<t.ag.length:=by omega
  rw[rk,bu,ad (aN ay)];simp only[aT,ak,a'];rw[<-h6 (·.au) t.ag i aC 0 ay,vb _ _ _ (by simpa using ay),bC,ad (vT (m:=t.ag.length) (by omega) h (by simp;omega))];exact Km t h k (i+1) (by omega)
theorem ab9(h:t.ag.length*24<=reachBytes)(b:t.Kind<=9):B' t=some (e' t):=by
 have h0:=Km t h t.ag.length 0 (by omega);have a:rk (0,t,[])=some (t,t.ag.map (·.au)):=h0;rw[B',a];unfold e';simp only[aT,ak];have c:room 8 (t.ag.map (·.au)++[t.Key]).length=true:=vT (m:=t.ag.length) (by omega) h (by simp);have d:room 8 (t.ag.map (·.au)++[t.Key]++[t.aG]).length=true:=vT (m:=t.ag.length) (by omega) h (by simp);grind
theorem ab'(k:Int):j4 k=some (kB k):=rfl
def sQ(k:Int):Bool:=bif decide (1<=k)then decide (k<=4)else false
def lx(n:Nat)(u:Int):Bool:=bif decide (u<0)then true else decide ((n:Int)<=u)
def rN(ts:List ah)(i:Nat):Option Int:=
 let t:=ts.getD i aP
 if !((gw t).getD false)then some 1 else if !(decide (t.Name=[]))&&((ts.map (·.Name)).take i).contains t.Name then some 1 else if(e' t).any (lx ts.length)then some 4 else if decide (t.Kind=8) && !(sQ (ts.getD t.Key.toNat aP).Kind)then some 1 else none
theorem It{i:Nat}{r:Bool}(c':ts.getD i aP=t)(f1:gw t=some r):
 rN ts i=if !r then some 1 else if !(t.Name=[]:Bool)&&((ts.map (·.Name)).take i).contains t.Name then some 1 else if(e' t).any (lx ts.length) then some 4 else if((t.Kind=8:Bool) && !(sQ (ts.getD t.Key.toNat aP).Kind)) then some 1 else none:=by
 subst c';unfold rN;simp only[f1,lu]
theorem Mg{e:Type}(L:Nat->Option e)(l:aq)(q:Int->Bool)(a b:e)(o:∀i,i<l.length->L i=if q (l.getD i 0)then some a else L (i+1))(g:L l.length=some b):
 L 0=some (if l.any q then a else b):=by
 have:=scan L l.length (λi=>!(q (l.getD i 0))) a b (λi n=>by grind) g;rcases this with⟨h1,c⟩|⟨h1,j,c,f⟩
 . rw[h1,al];intro h;rw[wj]at h;obtain⟨x,m,k⟩:=h;obtain⟨j,d,he⟩:=eS m;have:=c j d;rw[dc d,he,k]at this;cases this
 . rw[h1,ad];rw[wj];refine⟨l.getD j 0,bh c 0,by simpa using f⟩
theorem Lb(h:t.ag.length*24<=reachBytes):(e' t).length<9223372036854775807:=by
 unfold e' reachBytes at*;grind
theorem ac8{L:Nat->Option (Int ⊕ Unit)}{n:Nat}{step:Nat->Option Int}
 (h:∀i,i<n->L i=match step i with|some e=>some (.inl e)|none=>L (i+1))(he:L n=some (.inr ()))
 (j:∀i,i<n->L' i=match step i with|some e=>some (.inl e)|none=>L' (i+1))(l:L' n=some (.inr ())):∃o,L 0=some o/\L' 0=some o/\((o= .inr ()/\∀i,i<n->step i=none)\/∃i e,i<n/\step i=some e/\o= .inl e):=by
 have key:∀k i,i+k=n->∃o,L i=some o/\L' i=some o/\((o= .inr ()/\∀m,i<=m->m<n->step m=none)\/∃m e,m<n/\step m=some e/\o= .inl e):=by
  intro k;induction k with
  |zero=> intro i c; have:i = n:= by omega
          subst this;exact⟨_,he,l,.inl ⟨rfl,λm h1 q=>by omega⟩⟩
  |succ k ih=>
   intro i c;rw[h i (by omega),j i (by omega)];cases p:step i with
   |some e=>exact⟨_,rfl,rfl,.inr ⟨i,e,by omega,p,rfl⟩⟩
   |none=>
    obtain⟨o,d,f,g⟩:=ih (i+1) (by omega);grind
 obtain⟨o,d,f,g⟩:=key n 0 (by omega);refine⟨o,d,f,?_⟩;rcases g with⟨a,b⟩|h
 . exact .inl ⟨a,λi c=>b i (ic _) c⟩
 . exact .inr h
theorem Oj(a:(e' t).any (lx ts.length)=false)(b:t.Kind=8):aH t.Key ts.length=true:=by
 have c:t.Key∈e' t:=by unfold e';simp[b]
 rw[Ff]at a;have:=a _ c;unfold lx at this;unfold aH;grind
theorem ac9(ts:List ah)(t:ah)(i:Nat)(e:i<ts.length)(f:ts.length<9223372036854775807):
 nL ((i:Int),0,ts,t.Kind,t.Name,t.bB,t.bF,t.Max,t.bg,t.ag,t.Key,t.aG,t.Open)=some (if(kB t.Kind&&((ts.map (·.Name)).take i).contains t.Name) then .inl 1 else .inr ((i:Int),ts,t.Kind,t.Name,t.bB,t.bF,t.Max,t.bg,t.ag,t.Key,t.aG,t.Open)):=by
 have d:=scan (λk=>nL ((i:Int),(k:Int),ts,t.Kind,t.Name,t.bB,t.bF,t.Max,t.bg,t.ag,t.Key,t.aG,t.Open)) i (λk=>!(bif kB t.Kind then decide ((ts.getD k aP).Name=t.Name)else false)) (.inl 1) (.inr ((i:Int),ts,t.Kind,t.Name,t.bB,t.bF,t.Max,t.bg,t.ag,t.Key,t.aG,t.Open))
  (λk c=>by
   rw[nL,bu,ab'];simp only[aT,ak];rw[ad (by rw[aN (show k<ts.length by omega)];rfl),bC,a']
   grind)
  (by rw[nL,bq])
 have cY:nL ((i:Int),((0:Nat):Int),ts,t.Kind,t.Name,t.bB,t.bF,t.Max,t.bg,t.ag,t.Key,t.aG,t.Open)=nL ((i:Int),0,ts,t.Kind,t.Name,t.bB,t.bF,t.Max,t.bg,t.ag,t.Key,t.aG,t.Open):=rfl;simp only[cY]at d;rcases d with⟨h1,b⟩|⟨h1,j,b,a⟩
 . rw[h1,al];rw[cc,pU]
   rintro ⟨aD,k,c,he⟩
   rw[h6 (·.Name) ts k aP [] (by omega)]at he;have:=b k c;rw[aD,he]at this;simp at this
 . rw[h1,ad];rw[cc,pU];cases aD:kB t.Kind with
   |false=>rw[aD]at a;cases a
   |true=>
    refine⟨rfl,j,b,?_⟩;rw[h6 (·.Name) ts j aP [] (by omega)];rw[aD]at a;simpa using a
theorem ac'(ts:List ah)(t:ah)(i:Nat)(l:aq)(ae:l.length<9223372036854775807):
 q9 ((i:Int),l,0,ts,t.Kind,t.Name,t.bB,t.bF,t.Max,t.bg,t.ag,t.Key,t.aG,t.Open)=some (if l.any (lx ts.length) then .inl 4 else .inr ((i:Int),ts,t.Kind,t.Name,t.bB,t.bF,t.Max,t.bg,t.ag,t.Key,t.aG,t.Open)):=
 Mg (λj=>q9 ((i:Int),l,(j:Int),ts,t.Kind,t.Name,t.bB,t.bF,t.Max,t.bg,t.ag,t.Key,t.aG,t.Open)) l (lx ts.length) (.inl 4) (.inr ((i:Int),ts,t.Kind,t.Name,t.bB,t.bF,t.Max,t.bg,t.ag,t.Key,t.aG,t.Open))
  (λj a=>by
   rw[q9,bu,ad (aN a)];simp only[aT,ak];rw[ad (by rw[aN a];rfl),bC]
   rfl)
  (by rw[q9,bq])
theorem Y5{s:aQ}(hs:s.Types.length<=reachBytes)(ht:∀t,t∈s.Types->eZ t):∃e,pY s=some e/\vv s=some e/\(e=0->s.Types.length<=32/\∀i,i<s.Types.length->rN s.Types i=none)/\((s.Types.length<=32/\∀i,i<s.Types.length->rN s.Types i=none)->e=0)/\e≠12:=by
 rw[pY,vv];by_cases C:32<s.Types.length
 . exact⟨3,by rw[bu],by rw[bu],λh=>(by cases h),λh=>absurd h.1 (by omega),by decide⟩
 . rw[ch,ch];have y:s.Types.length<9223372036854775807:=(by omega);have:=ac8 (L:=λi=>qJ (s.Types,(s.Types.length:Int),(i:Int),s.Types,kS ((s.Types.map (·.Name)).take i))) (L':=λi=>oS ((i:Int),s.Types)) (n:=s.Types.length) (step:=rN s.Types)
    (λi a=>by
     have b:=ht _ (bh a aP);obtain⟨r,f1,f2,f3⟩:=La b;rw[qJ,bu,ad (aN a)];simp only[aT,ak,a'];generalize c':s.Types.getD i aP=t at*;rw[It c' f1,f1];simp only[ak,Kh];cases r with
     |false=>rw[ad (show(bif (!false)then true else bif (!(decide (t.Name=[])))then((s.Types.map (·.Name)).take i).contains t.Name else false)=true from rfl),ad (show(!false)=true from rfl)]
     |true=>
      rw[al (show ¬((!true)=true) by simp)];by_cases k:(!(decide (t.Name=[]))&&((s.Types.map (·.Name)).take i).contains t.Name)=true
      . grind
      . have v:¬((bif (!(decide (t.Name=[])))then((s.Types.map (·.Name)).take i).contains t.Name else false)=true):=(by grind);rw[al (show ¬((bif (!true)then true else bif (!(decide (t.Name=[])))then((s.Types.map (·.Name)).take i).contains t.Name else false)=true)from v),al k,ab8 b.gU];simp only[ak];have D:=Lb b.gU;have w:=Mg (λj=>o8 (s.Types,(s.Types.length:Int),(i:Int),e' t,((e' t).length:Int),(j:Int),s.Types,iT (kS ((s.Types.map (·.Name)).take i)) t.Name,t.Kind,t.Name,t.bB,t.bF,t.Max,t.bg,t.ag,t.Key,t.aG,t.Open)) (e' t) (lx s.Types.length) (.inl 4)
         (.inr (s.Types,(s.Types.length:Int),(i:Int),s.Types,iT (kS ((s.Types.map (·.Name)).take i)) t.Name,t.Kind,t.Name,t.bB,t.bF,t.Max,t.bg,t.ag,t.Key,t.aG,t.Open))
         (λj x=>by
          rw[o8,bu,ad (aN x),bC]
          rfl)
         (by rw[o8,bq])
        have cY:o8 (s.Types,(s.Types.length:Int),(i:Int),e' t,((e' t).length:Int),((0:Nat):Int),s.Types,iT (kS ((s.Types.map (·.Name)).take i)) t.Name,t.Kind,t.Name,t.bB,t.bF,t.Max,t.bg,t.ag,t.Key,t.aG,t.Open)=o8 (s.Types,(s.Types.length:Int),(i:Int),e' t,((e' t).length:Int),0,s.Types,iT (kS ((s.Types.map (·.Name)).take i)) t.Name,t.Kind,t.Name,t.bB,t.bF,t.Max,t.bg,t.ag,t.Key,t.aG,t.Open):=rfl;rw[<-cY,w];cases f:(e' t).any (lx s.Types.length)with
        |true=>rfl
        |false=>
         simp only[bK,bT,ak];have z:iT (kS ((s.Types.map (·.Name)).take i)) t.Name=kS ((s.Types.map (·.Name)).take (i+1)):=by
          have h1:=Ki (l:=s.Types.map (·.Name)) (i:=i) (by simpa using a);grind
         rw[z,bC];by_cases c:t.Kind=8
         . have d:=Oj f c;rw[ad (by rw[d];rfl),ad (by rw[d];rfl)];simp only[c,c9,dK,mM,sQ];grind
         grind)
    (by rw[qJ,bq])
    (λi a=>by
     have b:=ht _ (bh a aP);obtain⟨r,f1,f2,f3⟩:=La b;rw[oS,bu,ad (aN a)];simp only[aT,ak,a'];generalize c':s.Types.getD i aP=t at*;rw[It c' f1,f2,ac9 s.Types t i a y];simp only[ak];cases r with
     |false=>rfl
     |true=>
      obtain⟨E,A,B⟩:=f3 rfl;rw[al (show ¬((!true)=true) by simp),al (show ¬((!true)=true) by simp),B];cases k:(!(decide (t.Name=[]))&&((s.Types.map (·.Name)).take i).contains t.Name)with
      |true=>rfl
      |false=>
       simp only[bK,bT,Dd];rw[ab9 b.gU A];simp only[ak];rw[ac' s.Types t i (e' t) (Lb b.gU)];cases f:(e' t).any (lx s.Types.length)with
       |true=>rfl
       |false=>
        simp only[bK,bT,ak];rw[bC];by_cases c:t.Kind=8
        . have d:=Oj f c;rw[ad (by rw[d];rfl)];simp only[c,c9,bJ,yA,ak,dK,mM];show(if !(sQ (s.Types.getD t.Key.toNat aP).Kind) then some (.inl 1)else oS (((i+1:Nat):Int),s.Types))=_;grind
        grind)
    (by rw[oS,bq])
   obtain⟨o,h1,p,u⟩:=this;have m:qJ (s.Types,(s.Types.length:Int),0,s.Types,[])=some o:=h1;have q:oS (0,s.Types)=some o:=p;rw[m,q];rcases u with⟨rfl,g⟩|⟨i,e,g,ba,rfl⟩
   . simp_all
   . refine⟨_,rfl,rfl,λh0=>?_,λh=>(by have:=h.2 i g;rw[ba]at this;cases this),λh=>?_⟩
     . exfalso;subst h0;unfold rN at ba;grind
     . subst h;unfold rN at ba;grind
theorem qZ{d:Type}(L:Nat->Option d)(n:Nat)(q:Nat->Bool)(a:Nat->d)(c:d)(g:∀i,i<n->L i=if q i then some (a i)else L (i+1))(e:L n=some c):
 (∃j,j<n/\q j=true/\(∀k,k<j->q k=false)/\L 0=some (a j))\/((∀k,k<n->q k=false)/\L 0=some c):=by
 have key:∀k i,i+k=n->(∀m,m<i->q m=false)->L 0=L i->(∃j,j<n/\q j=true/\(∀k,k<j->q k=false)/\L 0=some (a j))\/((∀k,k<n->q k=false)/\L 0=some c):=by
  intro k;induction k with
  |zero=> intro i f b h0; have:i = n:= by omega
          subst this;exact .inr ⟨b,by rw[h0,e]⟩
  |succ k ih=>
   intro i f b h0;rw[g i (by omega)]at h0;grind
 exact key n 0 (by omega) (λm b=>by omega) rfl
def qE(l:List aU)(id:Int)(r:Int×Bool):Prop:=(∃j:Nat,j<l.length/\(l.getD j aC).af=id/\(∀k,k<j->(l.getD k aC).af≠id)/\r=((j:Int),true))\/((∀k,k<l.length->(l.getD k aC).af≠id)/\r=(0,false))
theorem GG{l:List aU}{r q:Int×Bool}(h1:qE l id r)(a:qE l id q):r=q:=by
 rcases h1 with⟨j,a1,a2,a3,rfl⟩|⟨a1,rfl⟩<;>rcases a with⟨k,b1,b2,b3,rfl⟩|⟨b1,rfl⟩
 . grind
 . grind
 . grind
 . rfl
theorem tC(ae:t.ag.length<9223372036854775807):∃r,gN (t,id)=some r/\qE t.ag id r:=by
 rw[gN,Gh];have h:=qZ (λi=>pa (t.ag,(t.ag.length:Int),(i:Int),id)) t.ag.length (λi=>decide ((t.ag.getD i aC).af=id)) (λi=>.inl ((i:Int),id)) (.inr id)
  (λi e=>by
   rw[pa,bu,ad (aN e)];simp only[aT,ak,a',iK,Gd]
   rw[bC])
  (by rw[pa,bq])
 have cY:pa (t.ag,(t.ag.length:Int),((0:Nat):Int),id)=pa (t.ag,(t.ag.length:Int),0,id):=rfl;simp only[cY]at h;rcases h with⟨j,h1,c,d,a⟩|⟨h1,a⟩
 . rw[a];refine⟨((j:Int),true),?_,.inl ⟨j,h1,by simpa using c,λk b=>by simpa using d k b,rfl⟩⟩;have aK:ix (j:Int) 0=(j:Int):=by unfold ix;omega
   simp_all
 . rw[a];exact⟨(0,false),rfl,.inr ⟨λk b=>by simpa using h1 k b,rfl⟩⟩
theorem Cf(ae:t.ag.length<9223372036854775807):∃r,hC (t,id)=some r/\qE t.ag id r:=by
 rw[hC];have h:=qZ (λi=>oO (id,(i:Int),t)) t.ag.length (λi=>decide ((t.ag.getD i aC).af=id)) (λi=>.inl ((i:Int),true)) (.inr ())
  (λi e=>by
   rw[oO,bu,ad (aN e),bC]
   grind)
  (by rw[oO,bq])
 have cY:oO (id,((0:Nat):Int),t)=oO (id,0,t):=rfl;simp only[cY]at h;rcases h with⟨j,h1,c,d,a⟩|⟨h1,a⟩
 . rw[a];exact⟨((j:Int),true),rfl,.inl ⟨j,h1,by simpa using c,λk b=>by simpa using d k b,rfl⟩⟩
 . rw[a];exact⟨(0,false),rfl,.inr ⟨λk b=>by simpa using h1 k b,rfl⟩⟩
theorem mD(id:Int)(ae:t.ag.length<9223372036854775807):∃r,gN (t,id)=some r/\hC (t,id)=some r/\qE t.ag id r:=by
 obtain⟨r,h1,a⟩:=tC (id:=id) ae;obtain⟨q,c,b⟩:=Cf (id:=id) ae;have:=GG a b;grind
def vU(l:List c6)(id:Int)(r:Int×Bool):Prop:=(∃j:Nat,j<l.length/\(l.getD j dN).af=id/\(∀k,k<j->(l.getD k dN).af≠id)/\r=((j:Int),true))\/((∀k,k<l.length->(l.getD k dN).af≠id)/\r=(0,false))
theorem XX{l:List c6}{r q:Int×Bool}(h1:vU l id r)(a:vU l id q):r=q:=by
 rcases h1 with⟨j,a1,a2,a3,rfl⟩|⟨a1,rfl⟩<;>rcases a with⟨k,b1,b2,b3,rfl⟩|⟨b1,rfl⟩
 . grind
 . grind
 . grind
 . rfl
theorem pr(id:Int)(ae:t.bg.length<9223372036854775807):∃r,tD (t,id)=some r/\sv (t,id)=some r/\vU t.bg id r:=by
 rw[tD,Gg,sv];have h:=qZ (λi=>ni (t.bg,(t.bg.length:Int),(i:Int),id)) t.bg.length (λi=>decide ((t.bg.getD i dN).af=id)) (λi=>.inl ((i:Int),id)) (.inr id)
  (λi f=>by
   rw[ni,bu,ad (aN f)];simp only[aT,ak,a',Gc]
   rw[bC])
  (by rw[ni,bq])
 have cY:ni (t.bg,(t.bg.length:Int),((0:Nat):Int),id)=ni (t.bg,(t.bg.length:Int),0,id):=rfl;have g:=qZ (λi=>nN (id,(i:Int),t)) t.bg.length (λi=>decide ((t.bg.getD i dN).af=id)) (λi=>.inl ((i:Int),true)) (.inr ())
  (λi f=>by
   rw[nN,bu,ad (aN f),bC]
   grind)
  (by rw[nN,bq])
 have m:nN (id,((0:Nat):Int),t)=nN (id,0,t):=rfl;simp only[cY]at h;simp only[m]at g;have n:∃r,(ni (t.bg,(t.bg.length:Int),0,id)>>=λo=>match o with|.inl c=>some (c.1,c.2)|.inr l=>some ((-1),l))>>=(λr=>some (ix r.1 0,decide (0<=r.1)))=some r/\vU t.bg id r:=by
  rcases h with⟨j,h1,d,e,a⟩|⟨h1,a⟩
  . rw[a];refine⟨((j:Int),true),?_,.inl ⟨j,h1,by simpa using d,λk b=>by simpa using e k b,rfl⟩⟩;have aK:ix (j:Int) 0=(j:Int):=by unfold ix;omega
    simp_all
  . rw[a];exact⟨(0,false),rfl,.inr ⟨λk b=>by simpa using h1 k b,rfl⟩⟩
 have dp:∃r,(nN (id,0,t)>>=λo=>match o with|.inl c=>some (c.1,c.2)|.inr l=>some (0,false))=some r/\vU t.bg id r:=by
  rcases g with⟨j,h1,d,e,a⟩|⟨h1,a⟩
  . rw[a];exact⟨((j:Int),true),rfl,.inl ⟨j,h1,by simpa using d,λk b=>by simpa using e k b,rfl⟩⟩
  . rw[a];exact⟨(0,false),rfl,.inr ⟨λk b=>by simpa using h1 k b,rfl⟩⟩
 obtain⟨r,a1,a2⟩:=n;obtain⟨q,b1,b2⟩:=dp;have:=XX a2 b2;grind
def gg(n:Int):Int:=if 0<=n then 2*n else -2*n-1
theorem MJ{a b:Int}(h:gg a=gg b):a=b:=by
 unfold gg at h;split at h<;>split at h<;>omega
def cw(n:Int):Prop:= -9223372036854775808<=n/\n<=9223372036854775807
theorem tx{n:Int}(h:cw n):vo n=some (gg n):=by
 obtain⟨h1,f⟩:=h;rw[vo];unfold gg;by_cases h0:0<=n
 . rw[ad (by simp[h0]),ad h0];obtain⟨k,rfl⟩:∃k:Nat,n=(k:Int):=⟨n.toNat,by omega⟩
   rw[hy];have:=tO (a:=2) (b:=k) (by omega);grind
 . rw[al (by simp[h0]),al h0];rw[kb,hj];obtain⟨k,e⟩:∃k:Nat,0-(n+1)=(k:Int):=⟨(0-(n+1)).toNat,by omega⟩
   rw[e,hy];have c:=tO (a:=2) (b:=k) (by omega);have d:gy .u64 2 (k:Int)=((2*k:Nat):Int):=c;rw[d];have g:=r5 (a:=2*k) (b:=1) (by omega);grind
theorem abI(a:Nat)(h:a<18446744073709551616):uf .u64 (a:Int) 0=(a:Int):=by
 have e:(BitVec.ofInt 64 (a:Int) ^^^ BitVec.ofInt 64 (0:Int)).toNat=a:=by grind
 show IntKind.u64.wrap (((BitVec.ofInt 64 (a:Int) ^^^ BitVec.ofInt 64 (0:Int)).toNat:Nat):Int)=_;rw[e];exact kU
theorem abJ(a:Nat)(h:a<18446744073709551616):uf .u64 (a:Int) 18446744073709551615=((18446744073709551615-a:Nat):Int):=by
 have e:(BitVec.ofInt 64 (a:Int) ^^^ BitVec.ofInt 64 (18446744073709551615:Int)).toNat=18446744073709551615-a:=by
  have h1:BitVec.ofInt 64 (18446744073709551615:Int)=BitVec.allOnes 64:=by decide
  rw[h1,wx,BitVec.xor_allOnes,BitVec.toNat_not,wi,wK,oc h]
 all_goals (try omega)
 show IntKind.u64.wrap (((BitVec.ofInt 64 (a:Int) ^^^ BitVec.ofInt 64 (18446744073709551615:Int)).toNat:Nat):Int)=_;rw[e];exact kU
theorem agC{n:Int}(h:cw n):ly .i64 n 63=if 0<=n then 0 else -1:=by
 obtain⟨h1,a⟩:=h;unfold ly;have e:((2:Int)^min (63:Int).toNat IntKind.i64.bits)=9223372036854775808:=by decide
 grind
theorem D1{n:Int}(h:cw n):uX n=some (gg n):=by
 rw[uX,agC h];obtain⟨h1,a⟩:=h;unfold gg;have hs:∀m:Int,mR .u64 m 1=IntKind.u64.wrap (m*2):=by
  intro m;unfold mR;rfl
 rw[hs]
 congr 1
 by_cases h0:0<=n
 . rw[ad h0,ad h0];obtain⟨k,rfl⟩:∃k:Nat,n=(k:Int):=⟨n.toNat,by omega⟩
   rw[hy,kU];have:bV .u64 0=0:=(by decide);rw[this];have:=abI (2*k) (by omega);grind
 . rw[al h0,al h0];have:bV .u64 (-1)=18446744073709551615:=(by decide);rw[this];obtain⟨k,b⟩:∃k:Nat,n+9223372036854775808=(k:Int):=⟨(n+9223372036854775808).toNat,by omega⟩
   have e:IntKind.u64.wrap (bV .u64 n*2)=((2*k:Nat):Int):=by
    unfold bV;rw[IntKind.wrap_u64,IntKind.wrap_u64];omega
   rw[e,abJ _ (by omega)];omega
theorem ad9(a b:Int):CD (a,b)=some (if a<b then -1 else if b<a then 1 else 0):=by
 rw[CD];simp only[DB,aT,ak,c9,cW,bK,bT];grind
theorem Pj(a b:Int):xM (a,b)=some (if a<b then -1 else if b<a then 1 else 0):=by
 rw[xM];simp only[CE,aT,ak,c9,cW,bK,bT];grind
theorem ad'(a b:aj):BT (a,b)=some (if Op.bytesLess a b then -1 else if(Op.bytesLess a b||(a=b:Bool))then 0 else 1):=by
 rw[BT];simp only[CF,aT,ak,c9,cW,bK,bT];grind
theorem agm(a b:Int):D0 [a,b]=some (if a≠0 then a else b):=by
 rw[D0];have h0:qY (0,[a,b],((2:Nat):Int),((0:Nat):Int))=if a≠0 then some (.inl a)else(if b≠0 then some (.inl b)else some (.inr 0)):=by
  rw[qY,ad (by decide),ad (show aH ((0:Nat):Int) ([a,b]:aq).length=true from aN (k:=0) (n:=2) (by omega))];simp only[aT,ak,a',ki];by_cases c:a=0
  . rw[al (by simp[c]),al (by simp[c])];have aK:aM .i64 ((0:Nat):Int) 1=((1:Nat):Int):=bC;rw[aK,qY,ad (by decide),ad (show aH ((1:Nat):Int) ([a,b]:aq).length=true from aN (k:=1) (n:=2) (by omega))];simp only[aT,ak,a',yc,ki];by_cases d:b=0
    . rw[al (by simp[d]),al (by simp[d])];have e:aM .i64 ((1:Nat):Int) 1=((2:Nat):Int):=bC;rw[e,qY,al (by decide)]
    grind
  grind
 grind
theorem Tl:∀a:aj,Op.bytesLess a a=false
 |[]=>rfl
 |x::r=>by
  simp[Op.bytesLess,Tl r]
theorem C8{a b:I}(f:cw a.bd)(g:cw b.bd):∃r,pT (a,b)=some r/\nQ (a,b)=some r:=by
 rw[pT,nQ];by_cases i:a.Kind=b.Kind
 . rw[al (show ¬((!(decide (a.Kind=b.Kind)))=true) by simp[i]),al (show ¬((!(decide (a.Kind=b.Kind)))=true) by simp[i])];by_cases c:a.Kind=1
   . rw[ad (show decide (a.Kind=1)=true by simp[c]),ad (show decide (a.Kind=1)=true by simp[c])];simp only[kG];cases fu a.bM b.bM<;>cases b.bM<;>exact⟨_,rfl,rfl⟩
   . rw[al (show ¬(decide (a.Kind=1)=true) by simp[c]),al (show ¬(decide (a.Kind=1)=true) by simp[c])];by_cases d:a.Kind=2
     . rw[ad (show decide (a.Kind=2)=true by simp[d]),ad (show decide (a.Kind=2)=true by simp[d]),D1 f,D1 g,tx f,tx g];simp only[aT,ak,ad9,kG];by_cases he:a.bd=b.bd
       . grind
       . have l:gg a.bd≠gg b.bd:=λh=>he (MJ h);grind
     . rw[al (show ¬(decide (a.Kind=2)=true) by simp[d]),al (show ¬(decide (a.Kind=2)=true) by simp[d])];by_cases e:a.Kind=3
       . rw[ad (show decide (a.Kind=3)=true by simp[e]),ad (show decide (a.Kind=3)=true by simp[e])];simp only[aT,ak,Pj,ad',agm,kG];by_cases ae:a.bl.length=b.bl.length
         . have k:¬((!(decide ((a.bl.length:Int)=(b.bl.length:Int))))=true):=by simp;omega
           rw[al k,ae];have aK:¬((b.bl.length:Int)<(b.bl.length:Int)):=(by omega);simp only[aK,bT,ne_eq,not_true_eq_false];by_cases he:a.bl=b.bl
           . rw[he,Tl];grind
           grind
         grind
       . rw[al (show ¬(decide (a.Kind=3)=true) by simp[e]),al (show ¬(decide (a.Kind=3)=true) by simp[e])];by_cases j:a.Kind=4
         . rw[ad (show decide (a.Kind=4)=true by simp[j]),ad (show decide (a.Kind=4)=true by simp[j])];simp only[aT,ak,Pj,kG];grind
         simp_all
 simp_all
def Kp(a b:Option Bool):Prop:=∃r,a=some r/\b=some r
theorem Hk {b c:Type}(L:Nat->Option (Bool ⊕ b))(L':Nat->Option (Bool ⊕ c))(n:Nat)(p:Nat->Bool)(g:b)(a:c)
 (h:∀i,i<n->L i=if p i then L (i+1)else some (.inl false))(he:L n=some (.inr g))
 (d:∀i,i<n->L' i=if p i then L' (i+1)else some (.inl false))(e:L' n=some (.inr a)):
 (L 0=some (.inr g)/\L' 0=some (.inr a)/\∀j,j<n->p j=true)\/(L 0=some (.inl false)/\L' 0=some (.inl false)/\∃j,j<n/\p j=false):=by
 rcases scan L n p (.inl false) (.inr g) h he with⟨a1,a2⟩|⟨a1,j,a2,a3⟩<;>rcases scan L' n p (.inl false) (.inr a) d e with⟨b1,b2⟩|⟨b1,k,b2,b3⟩
 . exact .inl ⟨a1,b1,a2⟩
 . have:=a2 k b2;rw[b3]at this;cases this
 . have:=b2 j a2;rw[a3]at this;cases this
 . exact .inr ⟨a1,b1,j,a2,a3⟩
def n1(k:Int):Prop:=1<=k/\k<=9
theorem XY(a:n1 v.Kind):∃p,C4 v=some p/\sK v=some p/\(p=true->v.Kind≠5->v.Kind≠6->v.Rest=[]):=by
 obtain⟨K,B,cy,S,af,c,b,R⟩:=v;simp only at a;rw[C4,I.aO,sK];have:K=1\/K=2\/K=3\/K=4\/K=5\/K=6\/K=7\/K=8\/K=9:=by unfold n1 at a;omega
 have d:∀(x:Int),decide (x=x)=true:=λx=>by simp
 rcases this with rfl|rfl|rfl|rfl|rfl|rfl|rfl|rfl|rfl
 all_goals
  refine⟨_,rfl,?_,?_⟩
  . simp[CQ,fu]
    try (cases B<;>simp)
  . simp[CQ,fu]
section
variable {ts:List ah}(aD:ts.length<9223372036854775807)(c':∀t,t∈ts->eZ t)(bI:∀t,t∈ts->n1 t.Kind)
def Fit(ts:List ah)(x:I):Prop:=∀t plain,Kp (j6 ((⟨ts⟩:aQ),t,x,plain)) (iJ ((⟨ts⟩:aQ),t,x,plain))
theorem Lc{l:List I}(ae:l.length<=reachBytes)(ih:∀x,x∈l->Fit ts x)(t:Int)(plain:Bool):
 Kp (qW ((⟨ts⟩:aQ),t,l,plain)) (nr ((⟨ts⟩:aQ),t,l,plain)):=by
 have g:=dy ae;let p:Nat->Bool:=λi=>(j6 ((⟨ts⟩:aQ),t,l.getD i ar,plain)).getD false;have c:∀i,i<l.length->j6 ((⟨ts⟩:aQ),t,l.getD i ar,plain)=some (p i)/\iJ ((⟨ts⟩:aQ),t,l.getD i ar,plain)=some (p i):=by
  intro i a;obtain⟨r,h1,f⟩:=ih _ (bh a ar) t plain;grind
 have b:=qZ (λi=>qs (l,(l.length:Int),(i:Int),ts,t,plain)) l.length (λi=>!(p i)) (λi=>.inl ((i:Int),ts,t,plain)) (.inr (ts,t,plain))
  (λi a=>by
   rw[qs,bu,ad (aN a),Gn];simp only[I.aO,a'];rw[(c i a).1,bC]
   rfl)
  (by rw[qs,bq])
 have hs:=scan (λi=>kD (t,l,plain,(i:Int),ts)) l.length p (.inl false) (.inr ())
  (λi a=>by
   rw[kD,bu,ad (aN a)];simp only[I.aO,a'];rw[(c i a).2,bC]
   grind)
  (by rw[kD,bq])
 have aK:qs (l,(l.length:Int),((0:Nat):Int),ts,t,plain)=qs (l,(l.length:Int),0,ts,t,plain):=rfl;have d:kD (t,l,plain,((0:Nat):Int),ts)=kD (t,l,plain,0,ts):=rfl;simp only[aK]at b;simp only[d]at hs;rw[qW,Cj,FR,nr];rcases b with⟨j,a1,a2,a3,a4⟩|⟨a1,a4⟩<;>rcases hs with⟨b1,b2⟩|⟨b1,k,b2,b3⟩
 . have:=b2 j a1;simp[this]at a2
 . rw[a4,b1];refine⟨false,?_,rfl⟩;have e:decide ((0:Int)<=(j:Int))=true:=(by simp);simp only[aT,ak,e,cW]
 . rw[a4,b1];exact⟨true,rfl,rfl⟩
 . have:=a1 k b2;simp[b3]at this
def Fy(t:ah)(l:List bY)(i:Nat):Bool:=
 !((gN (t,(l.getD i bX).af)).getD (0,false)).2&&(decide (1<=(l.getD i bX).af)&&decide ((l.getD i bX).af<=1000))&&(decide (i=0)||decide ((l.getD (i-1) bX).af<(l.getD i bX).af))
theorem abK{l:Type}(fR f b:Bool)(a:Int)(e C:Int->Bool)(g i:Option l)(j:b=true->e a=true):
 ((if !fR then some f else some false)>>=λk=>some (bif fR then true else(!k))>>=λt131=>some b>>=λt134=>some a>>=λt141=>
  if(e t141||(!((!t131)&&t134))) then if(bif t131 then true else bif t134 then C t141 else false) then g else i else none)=if !fR&&f&&(!b || !(C a)) then i else g:=by
 simp only[aT,ak];generalize C a=c;cases b with
 |true=>rw[j rfl];cases fR<;>cases f<;>cases c<;>rfl
 |false=>generalize e a=d;cases fR<;>cases f<;>cases d<;>cases c<;>rfl
theorem Jx{n:Type}(b g e:Bool)(a:Int)(f C:Int->Bool)(i j:Option n)(k:g=true)(l:e=true->f a=true):
 (some b>>=λm=>some (!m)>>=λt31=>some e>>=λt34=>
  if(g||(!((!t31)&&t34))) then some a>>=λt43=>if(f t43||(!((!t31)&&t34))) then if(bif t31 then true else bif t34 then C t43 else false) then i else j else none else none)=if(b&&(!e || !(C a))) then j else i:=by
 subst k;simp only[aT,ak];generalize C a=c;cases e with
 |true=>rw[l rfl];cases b<;>cases c<;>rfl
 |false=>generalize f a=d;cases b<;>cases d<;>cases c<;>rfl
theorem q0{i:Nat}(h:0<i)(a:i<9223372036854775807):dh .i64 (i:Int) 1=((i-1:Nat):Int):=by
 rw[hj];omega
theorem agu(ht:t.ag.length<9223372036854775807)(v:I)(ae:v.Rest.length<=reachBytes)(plain:Bool)(ts:List ah):
 let inr:=(plain,ts,v.Kind,v.bM,v.bd,v.bl,v.af,v.av,v.ai,v.Rest,t.Kind,t.Name,t.bB,t.bF,t.Max,t.bg,t.ag,t.Key,t.aG,t.Open)
 ((k' (plain,v.Rest,(v.Rest.length:Int),0,ts,v,t.Kind,t.Name,t.bB,t.bF,t.Max,t.bg,t.ag,t.Key,t.aG,t.Open)=some (.inr inr)/\qF (t,v.Rest)=some true)\/
  (k' (plain,v.Rest,(v.Rest.length:Int),0,ts,v,t.Kind,t.Name,t.bB,t.bF,t.Max,t.bg,t.ag,t.Key,t.aG,t.Open)=some (.inl false)/\qF (t,v.Rest)=some false)):=by
 intro inr;have k:=dy ae;have d:∀i,i<v.Rest.length->∀r,gN (t,(v.Rest.getD i bX).af)=some r->Fy t v.Rest i=(!r.2&&(bif decide (1<=(v.Rest.getD i bX).af)then decide ((v.Rest.getD i bX).af<=1000)else false)&&(!(decide ((0:Int)<(i:Int))) || !(decide ((v.Rest.getD i bX).af<=(v.Rest.getD (dh .i64 (i:Int) 1).toNat bX).af)))):=by
  intro i a r g;unfold Fy;rw[g,lu];generalize (v.Rest.getD i bX).af=x;by_cases h0:i=0
  . grind
  . have c:decide ((0:Int)<(i:Int))=true:=by simp;omega
    rw[c,q0 (by omega) (by omega),a'];grind
 have h:=Hk (λi=>k' (plain,v.Rest,(v.Rest.length:Int),(i:Int),ts,v,t.Kind,t.Name,t.bB,t.bF,t.Max,t.bg,t.ag,t.Key,t.aG,t.Open)) (λi=>j3 (v.Rest,(i:Int),t)) v.Rest.length (Fy t v.Rest) inr ()
  (λi a=>by
   obtain⟨r,h1,_,_⟩:=mD (t:=t) (v.Rest.getD i bX).af ht;rw[k',bu,ad (aN a),d i a r h1];simp only[a',Dd,I.aO,yO,aT,ak];rw[h1,bC]
   exact abK r.2 (bif decide (1<=(v.Rest.getD i bX).af)then decide ((v.Rest.getD i bX).af<=1000)else false) (decide ((0:Int)<(i:Int))) (dh .i64 (i:Int) 1) (λj=>aH j v.Rest.length) (λj=>decide ((v.Rest.getD i bX).af<=(v.Rest.getD j.toNat bX).af)) _ _ (λc=>by
    have:0<i:=by simp at c;omega
    show aH _ _=true
    rw[q0 this (by omega)];exact aN (by omega)))
  (by rw[k',bq])
  (λi a=>by
   obtain⟨r,h1,b,_⟩:=mD (t:=t) (v.Rest.getD i bX).af ht;rw[j3,bu,ad (aN a),d i a r h1];simp only[a'];rw[b,bC];have f:jv ((v.Rest.getD i bX).af,r.2)=some ((!r.2)&&(bif decide (1<=(v.Rest.getD i bX).af)then decide ((v.Rest.getD i bX).af<=1000)else false)):=by
    rw[jv];grind
   show(if aH (i:Int) v.Rest.length then jv ((v.Rest.getD i bX).af,r.2)>>=_ else none)=_;rw[ad (aN a),f]
   exact Jx ((!r.2)&&(bif decide (1<=(v.Rest.getD i bX).af)then decide ((v.Rest.getD i bX).af<=1000)else false)) (aH (i:Int) v.Rest.length) (decide ((0:Int)<(i:Int))) (dh .i64 (i:Int) 1) (λj=>aH j v.Rest.length) (λj=>decide ((v.Rest.getD i bX).af<=(v.Rest.getD j.toNat bX).af)) _ _ (aN a) (λc=>by
    have:0<i:=by simp at c;omega
    show aH _ _=true
    rw[q0 this (by omega)];exact aN (by omega)))
  (by rw[j3,bq])
 have aK:k' (plain,v.Rest,(v.Rest.length:Int),((0:Nat):Int),ts,v,t.Kind,t.Name,t.bB,t.bF,t.Max,t.bg,t.ag,t.Key,t.aG,t.Open)=k' (plain,v.Rest,(v.Rest.length:Int),0,ts,v,t.Kind,t.Name,t.bB,t.bF,t.Max,t.bg,t.ag,t.Key,t.aG,t.Open):=rfl;have e:j3 (v.Rest,((0:Nat):Int),t)=j3 (v.Rest,0,t):=rfl;simp only[aK,e]at h;rw[qF];rcases h with⟨h1,b,_⟩|⟨h1,b,_⟩
 . exact .inl ⟨h1,by rw[b];rfl⟩
 . exact .inr ⟨h1,by rw[b];rfl⟩
end
theorem Y6(ae:v.ai.length=t.ag.length)(e:t.ag.length<9223372036854775807)(ih:∀x,x∈v.ai->Fit ts x)(plain:Bool):
 (mA (plain,t.ag,(t.ag.length:Int),0,ts,v.Kind,v.bM,v.bd,v.bl,v.af,v.av,v.ai,v.Rest)=some (.inr ())/\jc (plain,0,ts,v,t.Kind,t.Name,t.bB,t.bF,t.Max,t.bg,t.ag,t.Key,t.aG,t.Open)=some (.inr ()))\/
 (mA (plain,t.ag,(t.ag.length:Int),0,ts,v.Kind,v.bM,v.bd,v.bl,v.af,v.av,v.ai,v.Rest)=some (.inl false)/\jc (plain,0,ts,v,t.Kind,t.Name,t.bB,t.bF,t.Max,t.bg,t.ag,t.Key,t.aG,t.Open)=some (.inl false)):=by
 let p:Nat->Bool:=λi=>(j6 ((⟨ts⟩:aQ),(t.ag.getD i aC).au,v.ai.getD i ar,plain)).getD false;have c:∀i,i<t.ag.length->j6 ((⟨ts⟩:aQ),(t.ag.getD i aC).au,v.ai.getD i ar,plain)=some (p i)/\iJ ((⟨ts⟩:aQ),(t.ag.getD i aC).au,v.ai.getD i ar,plain)=some (p i):=by
  intro i a;obtain⟨r,h1,b⟩:=ih _ (bh (by omega:i<v.ai.length) ar) (t.ag.getD i aC).au plain;grind
 have h:=Hk (λi=>mA (plain,t.ag,(t.ag.length:Int),(i:Int),ts,v.Kind,v.bM,v.bd,v.bl,v.af,v.av,v.ai,v.Rest)) (λi=>jc (plain,(i:Int),ts,v,t.Kind,t.Name,t.bB,t.bF,t.Max,t.bg,t.ag,t.Key,t.aG,t.Open)) t.ag.length p () ()
  (λi a=>by
   rw[mA,bu,ad (aN a),ad (aN (by omega))];simp only[a',I.aO];rw[(c i a).1,bC]
   grind)
  (by rw[mA,bq])
  (λi a=>by
   rw[jc,bu,ad (aN a),ad (aN (by omega))];simp only[a',I.aO];rw[(c i a).2,bC]
   grind)
  (by rw[jc,ch])
 have aK:mA (plain,t.ag,(t.ag.length:Int),((0:Nat):Int),ts,v.Kind,v.bM,v.bd,v.bl,v.af,v.av,v.ai,v.Rest)=mA (plain,t.ag,(t.ag.length:Int),0,ts,v.Kind,v.bM,v.bd,v.bl,v.af,v.av,v.ai,v.Rest):=rfl;have d:jc (plain,((0:Nat):Int),ts,v,t.Kind,t.Name,t.bB,t.bF,t.Max,t.bg,t.ag,t.Key,t.aG,t.Open)=jc (plain,0,ts,v,t.Kind,t.Name,t.bB,t.bF,t.Max,t.bg,t.ag,t.Key,t.aG,t.Open):=rfl;simp only[aK,d]at h;rcases h with⟨h1,b,_⟩|⟨h1,b,_⟩
 . exact .inl ⟨h1,b⟩
 . exact .inr ⟨h1,b⟩
theorem vH(h:bH v):cw v.bd:=by cases h with|mk _ _ _ _ _ _ _ _ db a=>exact a
theorem aaP{ts:List ah}{t:ah}(k:v.av.length<9223372036854775807)(g:∀x,x∈v.av->bH x)(plain:Bool):
 let inr:=(plain,ts,v,t.Kind,t.Name,t.bB,t.bF,t.Max,t.bg,t.ag,t.Key,t.aG,t.Open)
 (kI (plain,1,ts,v,t.Kind,t.Name,t.bB,t.bF,t.Max,t.bg,t.ag,t.Key,t.aG,t.Open)=some (.inr inr)/\hZ (1,v)=some (.inr ()))\/
 (kI (plain,1,ts,v,t.Kind,t.Name,t.bB,t.bF,t.Max,t.bg,t.ag,t.Key,t.aG,t.Open)=some (.inl false)/\hZ (1,v)=some (.inl false)):=by
 intro inr;by_cases h0:v.av.length=0
 . left;refine⟨?_,?_⟩
   . rw[kI,al (by simp[h0]),I.aO]
   . rw[hZ,al (by simp[h0])]
 let c:Nat->Int:=λi=>(pT (v.av.getD i ar,v.av.getD (i+1) ar)).getD 0;have f:∀i,i+1<v.av.length->pT (v.av.getD i ar,v.av.getD (i+1) ar)=some (c i)/\nQ (v.av.getD i ar,v.av.getD (i+1) ar)=some (c i):=by
  intro i b;obtain⟨r,h1,a⟩:=C8 (vH (g _ (bh (by omega:i<v.av.length) ar))) (vH (g _ (bh b ar)));grind
 have h:=Hk (λi=>kI (plain,((i+1:Nat):Int),ts,v,t.Kind,t.Name,t.bB,t.bF,t.Max,t.bg,t.ag,t.Key,t.aG,t.Open)) (λi=>hZ (((i+1:Nat):Int),v)) (v.av.length-1) (λi=>!(decide (0<=c i))) inr ()
  (λi b=>by
   have hs:=q0 (i:=i+1) (by omega) (by omega);have d:dh .i64 ((i+1:Nat):Int) 1=(i:Int):=by rw[hs];simp
   rw[kI,bu];simp only[aT,ak];rw[d,ad (aN (by omega)),ad (aN (by omega))];simp only[a',I.aO];rw[(f i (by omega)).1,bC]
   grind)
  (by
   have e:v.av.length-1+1=v.av.length:=by omega
   rw[e,kI,bq,I.aO])
  (λi b=>by
   have hs:=q0 (i:=i+1) (by omega) (by omega);have d:dh .i64 ((i+1:Nat):Int) 1=(i:Int):=by rw[hs];simp
   rw[hZ,bu];simp only[aT,ak];rw[d,ad (aN (by omega)),ad (aN (by omega))];simp only[a',I.aO];rw[(f i (by omega)).2,bC]
   grind)
  (by
   have e:v.av.length-1+1=v.av.length:=by omega
   rw[e,hZ,bq])
 have aK:kI (plain,((0+1:Nat):Int),ts,v,t.Kind,t.Name,t.bB,t.bF,t.Max,t.bg,t.ag,t.Key,t.aG,t.Open)=kI (plain,1,ts,v,t.Kind,t.Name,t.bB,t.bF,t.Max,t.bg,t.ag,t.Key,t.aG,t.Open):=rfl;have j:hZ (((0+1:Nat):Int),v)=hZ (1,v):=rfl;simp only[aK,j]at h;rcases h with⟨h1,a,_⟩|⟨h1,a,_⟩
 . exact .inl ⟨h1,a⟩
 . exact .inr ⟨h1,a⟩
theorem Kn{c:Type}{b:List c}(h:decide ((a.length:Int)=(b.length:Int))=true):a.length=b.length:=by grind
theorem Q1{r:Int×Bool}(c:o=some r)(a plain f:Bool):
 (o>>=λb=>some (bif a then(!plain)else false)>>=λt85=>(if((!b.2)&&t85) then some f else some false)>>=λd=>some (bif b.2 then true else bif t85 then d else false))=some (r.2||(a && !plain&&f)):=by
 subst c;obtain⟨k,fR⟩:=r;cases fR<;>cases a<;>cases plain<;>cases f<;>rfl
theorem ES{r:Int×Bool}(c:o=some r)(a plain f:Bool)(F:Bool->Option Bool)(bD:F false=some f):
 (o>>=λb=>some (bif a then(!plain)else false)>>=λt85=>(if((!b.2)&&t85) then F b.2 else some false)>>=λd=>some (bif b.2 then true else bif t85 then d else false))=some (r.2||(a && !plain&&f)):=by
 subst c;obtain⟨k,fR⟩:=r;cases fR<;>cases a<;>cases plain<;>simp[bD]
theorem fj{o:Option Bool}{r:Bool}(b:o=some r)(q:Bool):(some q>>=λt244=>(if t244 then o else some false)>>=λa=>some (bif t244 then a else false))=some (q&&r):=by grind
theorem ET(c a b f:Bool){d:Option Bool}(g:c=true->d=some f)(h1:c=true->a=true/\b=true):(some c>>=λt188=>if(a||(!t188))then if(b||(!t188))then(if t188 then d else some false)>>=λe=>some (bif t188 then e else false)else none else none)=some (c&&f):=by grind
theorem af0(A b q m:Bool){a:Option Bool}(d:a=some q)(c:A=true->L=some (if m then .inr ()else .inl false)):
 (if(bif (bif false then true else(!true))then true else b) then some false else some (!A)>>=λt107=>(if !t107 then a else some false)>>=λe=>if(bif t107 then true else(!e)) then some false else L>>=λo=>match o with|.inl x=>some x|.inr _=>some true)=some (A && !b&&q&&m):=by
 subst d;cases A with
 |false=>cases b<;>rfl
 |true=>
  rw[c rfl];cases b<;>cases q<;>cases m<;>rfl
theorem EU(g f b a cy E:Bool)(h1:a=true->cy=true):(some g>>=λt209=>(if t209 then some f else some false)>>=λc=>some (bif bif bif t209 then c else false then b else false then a else false)>>=λt226=>if(cy||(!t226))then some (bif t226 then E else false)else none)=some (g&&f&&b&&a&&E):=by grind
theorem Q2(c:Bool){b a:Option Bool}{k i:Bool}(f:b=some k)(e:a=some i)(d:L=some (if q then .inr ()else .inl false)):
 (some c>>=λt239=>(if !t239 then b else some false)>>=λl=>some (bif t239 then true else(!l))>>=λt249=>(if !t249 then a else some false)>>=λm=>if(bif t249 then true else(!m)) then some false else L>>=λg=>match g with|.inl j=>some j|.inr _=>some true)=some (!c&&k&&q&&i):=by
 subst f;subst e;subst d;cases c<;>cases k<;>cases q<;>cases i<;>rfl
theorem Ld(aD:ts.length<9223372036854775807)(c':∀t,t∈ts->eZ t)(bI:∀t,t∈ts->n1 t.Kind)(ay:bH v):Fit ts v:=by
 induction ay with
 |mk v hs h1 P Q am aL aR db aU aV aW az O=>
  intro t plain;rw[j6,iJ];by_cases D:(bif decide (t<0)then true else decide (((⟨ts⟩:aQ).Types.length:Int)<=t))=true
  . rw[ad D,ad D];exact⟨false,rfl,rfl⟩
  . rw[al D,al D];have aO:0<=t/\t<ts.length:=(by grind);obtain⟨j,rfl⟩:∃j:Nat,t=(j:Int):=⟨t.toNat,by omega⟩
    have A:j<ts.length:=(by omega);rw[ad (aN A),ad (aN A)];simp only[a',I.aO];have J:=c' _ (bh A aP);have F:=bI _ (bh A aP);generalize ts.getD j aP=x at J F⊢;have C:=dy (im J.gU);have W:=dy (im J.syms);by_cases w:v.Kind=x.Kind
    . obtain⟨p,aA,aB,aE⟩:=XY (v:=v) (by rw[w];exact F);rw[aA,aB];cases p with
      |false=>exact⟨false,by simp[w],by simp[w]⟩
      |true=>
       have G:=Lc (ts:=ts) P O;have an:=Lc (ts:=ts) h1 az;obtain⟨K,N,L,H,M,S,Ms,g,E,d⟩:=x;obtain⟨s,B,cy,l,af,e,c,R⟩:=v;simp only at w;subst w;have u:=aE rfl;simp only at u F C W h1 P Q;have ak:s=1\/s=2\/s=3\/s=4\/s=5\/s=6\/s=7\/s=8\/s=9:=by unfold n1 at F;omega
       rcases ak with rfl|rfl|rfl|rfl|rfl|rfl|rfl|rfl|rfl
       . obtain rfl:R=[]:=u (by decide) (by decide);cases plain<;>exact⟨true,rfl,rfl⟩
       . obtain rfl:R=[]:=u (by decide) (by decide);cases plain<;>exact⟨_,rfl,rfl⟩
       . obtain rfl:R=[]:=u (by decide) (by decide);cases plain<;>exact⟨_,rfl,rfl⟩
       . obtain rfl:R=[]:=u (by decide) (by decide);obtain⟨r,n,o,_⟩:=pr (t:=⟨4,N,L,H,M,S,Ms,g,E,d⟩) af W;have z:jv (af,false)=some (bif decide (1<=af)then decide (af<=1000)else false):=(by rfl);cases plain
         . exact⟨_,Q1 n d false _,ES o d false _ (λb=>jv (af,b)) z⟩
         . exact⟨_,Q1 n d true _,ES o d true _ (λb=>jv (af,b)) z⟩
       ·
        have aS:=agu (t:=⟨5,N,L,H,M,S,Ms,g,E,d⟩) C ⟨5,B,cy,l,af,e,c,R⟩ Q plain ts;have aw:decide ((c.length:Int)=(Ms.length:Int))=true->_:=λy=>Y6 (ts:=ts) (t:=⟨5,N,L,H,M,S,Ms,g,E,d⟩) (v:=⟨5,B,cy,l,af,e,c,R⟩) (Kn y) C O plain;have ax:∃q:Bool,k' (plain,R,(R.length:Int),0,ts,⟨5,B,cy,l,af,e,c,R⟩,5,N,L,H,M,S,Ms,g,E,d)=some (if q then .inr (plain,ts,5,B,cy,l,af,e,c,R,5,N,L,H,M,S,Ms,g,E,d)else .inl false)/\qF (⟨5,N,L,H,M,S,Ms,g,E,d⟩,R)=some q:=(by grind);obtain⟨q,aX,aF⟩:=ax;have aq:∃m:Bool,decide ((c.length:Int)=(Ms.length:Int))=true->(mA (plain,Ms,(Ms.length:Int),0,ts,5,B,cy,l,af,e,c,R)=some (if m then .inr ()else .inl false)/\jc (plain,0,ts,⟨5,B,cy,l,af,e,c,R⟩,5,N,L,H,M,S,Ms,g,E,d)=some (if m then .inr ()else .inl false)):=by
         cases y:decide ((c.length:Int)=(Ms.length:Int))with
         |false=>exact⟨true,λh=>by cases h⟩
         |true=>
          rcases aw y with⟨a,b⟩|⟨a,b⟩
          . simp_all
          simp_all
        obtain⟨m,ap⟩:=aq;refine⟨(decide ((c.length:Int)=(Ms.length:Int))) && !(bif plain then decide (0<(R.length:Int))else false)&&q&&m,?_,?_⟩
        . show(if(bif (!((c.length:Int)=(Ms.length:Int):Bool))then true else bif plain then (0<(R.length:Int):Bool)else false) then some false else k' (plain,R,(R.length:Int),0,ts,⟨5,B,cy,l,af,e,c,R⟩,5,N,L,H,M,S,Ms,g,E,d)>>=_)=_;grind
        . exact af0 (decide ((c.length:Int)=(Ms.length:Int))) (bif plain then decide (0<(R.length:Int))else false) q m aF (λy=>(ap y).2)
       ·
        obtain⟨r,n,o,z⟩:=mD (t:=⟨6,N,L,H,M,S,Ms,g,E,d⟩) af C;have aM:∀b,b=false->jv (af,b)=some (bif decide (1<=af)then decide (af<=1000)else false):=by
         intro b aj;subst aj;rfl
        have ai:∃f:Bool,(bif decide ((c.length:Int)=1)then decide ((R.length:Int)=0)else false)=true->(j6 ((⟨ts⟩:aQ),(Ms.getD r.1.toNat aC).au,c.getD (0:Int).toNat ar,plain)=some f/\iJ ((⟨ts⟩:aQ),(Ms.getD r.1.toNat aC).au,c.getD (0:Int).toNat ar,plain)=some f):=by
         by_cases ae:c.length=1
         . obtain⟨f,f1,f2⟩:=O (c.getD 0 ar) (bh (by omega:0<c.length) ar) (Ms.getD r.1.toNat aC).au plain;grind
         grind
        obtain⟨f,U⟩:=ai;have V:r.2=true->(bif decide ((c.length:Int)=1)then decide ((R.length:Int)=0)else false)=true->aH r.1 Ms.length=true/\aH 0 c.length=true:=by
         intro ag aK;constructor
         . rcases z with⟨k,Y,_,_,rfl⟩|⟨_,rfl⟩
           . exact aN Y
           . cases ag
         . by_cases ae:c.length=1
           . exact aN (k:=0) (by omega)
           grind
        have T:decide ((R.length:Int)=1)=true->aH 0 R.length=true:=by
         intro h;have:=gV h;exact aN (k:=0) (by omega)
        obtain⟨ab,kn⟩:=r;refine⟨if kn then(bif decide ((c.length:Int)=1)then decide ((R.length:Int)=0)else false)&&f else(bif d then(!plain)else false)&&(bif decide (1<=af)then decide (af<=1000)else false)&&decide ((c.length:Int)=0)&&decide ((R.length:Int)=1)&&decide ((R.getD (0:Int).toNat bX).af=af),?_,?_⟩
        . show(gN (⟨6,N,L,H,M,S,Ms,g,E,d⟩,af)>>=_)=_;rw[n];cases kn with
          |true=>exact ET _ (aH ab Ms.length) (aH 0 c.length) f (λh=>(U h).1) (V rfl)
          |false=>exact EU (bif d then(!plain)else false) (bif decide (1<=af)then decide (af<=1000)else false) (decide ((c.length:Int)=0)) (decide ((R.length:Int)=1)) (aH 0 R.length) (decide ((R.getD (0:Int).toNat bX).af=af)) T
        . show(if(bif (bif false then true else(!true))then true else(bif plain then (0<(R.length:Int):Bool)else false)) then some false else hC (⟨6,N,L,H,M,S,Ms,g,E,d⟩,af)>>=_)=_;rw[o];cases aJ:(bif plain then decide (0<(R.length:Int))else false)with
          |true=>
           have av:plain=true:=(by grind);subst av;have aI:decide ((R.length:Int)=0)=false:=(by grind);grind
          |false=>
           cases kn with
           |true=>exact ET _ (aH ab Ms.length) (aH 0 c.length) f (λh=>(U h).2) (V rfl)
           |false=>exact EU (bif d then(!plain)else false) (bif decide (1<=af)then decide (af<=1000)else false) (decide ((c.length:Int)=0)) (decide ((R.length:Int)=1)) (aH 0 R.length) (decide ((R.getD (0:Int).toNat bX).af=af)) T
       . obtain rfl:R=[]:=u (by decide) (by decide);obtain⟨r,n,o⟩:=G E plain;cases plain
         . exact⟨_,fj n _,fj o _⟩
         . exact⟨_,fj n _,fj o _⟩
       . obtain rfl:R=[]:=u (by decide) (by decide);obtain⟨k,Y,Z⟩:=an g plain;obtain⟨i,aT,X⟩:=G E plain;have ao:=aaP (ts:=ts) (t:=⟨8,N,L,H,M,S,Ms,g,E,d⟩) (v:=⟨8,B,cy,l,af,e,c,[]⟩) (dy h1) am plain;obtain⟨q,aY,aa⟩:∃q:Bool,kI (plain,1,ts,⟨8,B,cy,l,af,e,c,[]⟩,8,N,L,H,M,S,Ms,g,E,d)=some (if q then .inr (plain,ts,⟨8,B,cy,l,af,e,c,[]⟩,8,N,L,H,M,S,Ms,g,E,d)else .inl false)/\hZ (1,⟨8,B,cy,l,af,e,c,[]⟩)=some (if q then .inr ()else .inl false):=by
          rcases ao with⟨a,b⟩|⟨a,b⟩
          . simp_all
          simp_all
         refine⟨!(bif decide (M<(e.length:Int))then true else(!(decide ((c.length:Int)=(e.length:Int)))))&&k&&q&&i,?_,?_⟩
         . show(some (bif decide (M<(e.length:Int))then true else(!(decide ((c.length:Int)=(e.length:Int)))))>>=λt270=>(if !t270 then qW ((⟨ts⟩:aQ),g,e,plain)else some false)>>=λaG=>if(bif t270 then true else(!aG)) then some false else kI (plain,1,ts,⟨8,B,cy,l,af,e,c,[]⟩,8,N,L,H,M,S,Ms,g,E,d)>>=_)=_;grind
         . cases plain
           . exact Q2 (bif decide (M<(e.length:Int))then true else(!(decide ((c.length:Int)=(e.length:Int))))) Z X aa
           . exact Q2 (bif decide (M<(e.length:Int))then true else(!(decide ((c.length:Int)=(e.length:Int))))) Z X aa
       . obtain rfl:R=[]:=u (by decide) (by decide);obtain⟨r,n,o⟩:=G E plain;cases plain
         . exact⟨_,fj n _,fj o _⟩
         . exact⟨_,fj n _,fj o _⟩
    . exact⟨false,by simp[w],by simp[w]⟩
theorem v7{U:cK}{t:aJ}{l:List (t.den U.D)}(h:WF U ⟨.slice t,l⟩):l.length<=reachBytes/\l.length*t.bytes U<=reachBytes/\∀x,x∈l->∀c,c∈t.row U x->WF U c:=by cases h with|slice t l h1 a b=>exact⟨h1,a,b⟩
theorem Ko(s:aQ):(⟨s.Types⟩:aQ)=s:=by cases s;rfl
def gJ(n:Nat):aj:=if n=0 then[]else gJ (n/256)++[UInt8.ofNat (n%256)]
termination_by n
decreasing_by omega
theorem Mh:∀(l:List α) (k:Nat) (x:α),k<l.length->(l.set k x).drop k=x::l.drop (k+1)
 |[],k,x,h=>by simp at h
 |a::l,0,x,h=>by simp
 |a::l,k+1,x,h=>by simp[Mh l k x (by simpa using h)]
theorem agE(n:Nat):ly .u64 (n:Int) 8=((n/256:Nat):Int):=by
 unfold ly;have:((2:Int)^min (8:Int).toNat IntKind.u64.bits)=256:=by decide
 grind
theorem Ol:∀(i n:Nat) (b:aq),n<256^i->i<=8->b.length=8->∃(c:Nat) (a:aq),tH ((n:Int),(i:Int),b)=some ((c:Int),a)/\c<=8/\a.length=8/\strOf (a.drop c)=gJ n++strOf (b.drop i)
 |i,n,b,aD,d,e=>by
  rw[tH];by_cases h0:n=0
  . subst h0;rw[bq];refine⟨i,b,rfl,d,e,?_⟩;rw[gJ,ad rfl];rfl
  . rw[bu]
    match i,aD,d with
    |0,aD,d=>simp at aD;omega
    |i+1,aD,d=>
     have hs:dh .i64 ((i+1:Nat):Int) 1=(i:Int):=by rw[hj];omega
     simp only[aT,ak];rw[hs,ad (aN (by omega)),ad (by simp[e];omega),agE,wL,a'];have ay:n/256<256^i:=(by omega);obtain⟨c,a,h1,f,g,j⟩:=Ol i (n/256) (b.set i ((n%256:Nat):Int)) ay (by omega) (by simp[e]);refine⟨c,a,h1,f,g,?_⟩;rw[j,Mh _ _ _ (by omega),Y0]
     conv=>rhs;rw[gJ,al h0]
     grind
theorem D2{n:Nat}(aD:n<18446744073709551616):yP (n:Int)=some (gJ n):=by
 have e:(256:Nat)^8=18446744073709551616:=by decide
 obtain⟨c,d,h1,k,a,g⟩:=Ol 8 n [0,0,0,0,0,0,0,0] (by rw[e];exact aD) (by omega) rfl;have f:tH ((n:Int),8,[0,0,0,0,0,0,0,0])=some ((c:Int),d):=h1;rw[yP,f];simp only[aT,ak,a'];have j:dU (c:Int) 8 8=true:=jL (b:=8) (by omega) (by omega);have i:(8:Int).toNat=8:=rfl;rw[ad j,i,ad (by simp[wH,a];omega)];rw[lX (by simp[a]),g];simp[strOf]
theorem v8:∀(f n:Nat),n<256^f->(gJ n).length<=f
 |0,n,h=>by
  have:n=0:=by simpa using h
  subst this;rw[gJ,ad rfl];simp
 |f+1,n,h=>by
  rw[gJ];split
  . simp
  . have:=v8 f (n/256) (by omega);simp;omega
theorem Le:∀(f n:Nat) (a:aj),n<256^f->n<18446744073709551616->a.length+f<=1000->vp ((n:Int),a)=some (gJ n++a)
 |f,n,a,aD,j,c=>by
  rw[vp];by_cases h0:n=0
  . subst h0;rw[bq,gJ,ad rfl];rfl
  . rw[bu]
    match f,aD,c with
    |0,aD,c=>simp at aD;omega
    |f+1,aD,c=>
     have i:b' (n:Int) 256=((n%256:Nat):Int):=Aj (b:=256);have g:fw .u64 (n:Int) 256=((n/256:Nat):Int):=by
      unfold fw;have e:(n:Int).tdiv 256=((n/256:Nat):Int):=by rw[yr (by omega)];omega
      rw[e];exact kU
     have d:strOf [((n%256%256:Nat):Int)]=[UInt8.ofNat (n%256)]:=by
      have:n%256%256=n%256:=(by omega);rw[this];rfl
     simp only[aT,ak];rw[i,g,wL,d,ad (fX (by simp;omega))];have ay:n/256<256^f:=(by omega);rw[Le f (n/256) _ ay (by omega) (by simp;omega)]
     conv=>rhs;rw[gJ,al h0]
     grind
theorem Lf{n:Nat}(aD:n<18446744073709551616):x2 (n:Int)=some (gJ n):=by
 have e:(256:Nat)^8=18446744073709551616:=by decide
 rw[x2,Le 8 n [] (by rw[e];exact aD) aD (by simp)];simp
end
section
open Go Go.Proofs.YtdjagncoefjfeaaGreat.Shv Go.Sort
set_option maxRecDepth 100000
variable{c α:Type}{v:I}{ms:List aU}{id:Int}{P:Prop}{L:Nat->Option (Bool ⊕ Unit)}{o:Option (Bool ⊕ Unit)}{t:ah}
section
variable {α:Type}
theorem Mi{a:Type}{f g:a->List c}:∀{l:List a},(∀x,x∈l->f x=g x)->l.flatMap f=l.flatMap g
 |[],_=>rfl
 |x::l,h=>by
  simp only[e7];rw[h x (.head _),Mi λy b=>h y (.tail _ b)]
theorem Kq(x:α)(n:Nat)(f:Nat->List α):∀(ks:a6),ks.Nodup->n∈ks->(ks.flatMap λi=>if n=i then x::f i else f i).Perm (x::ks.flatMap f)
 |[],_,h=>by cases h
 |k::ks,aD,h=>by
  rw[List.nodup_cons]at aD;simp only[e7];by_cases e:n=k
  . rw[ad e];have:(ks.flatMap λi=>if n=i then x::f i else f i)=ks.flatMap f:=Mi λy b=>by grind
    simp_all
  . rw[al e];have a:n∈ks:=(fe.1 h).resolve_left e;refine((Kq x n f ks aD.2 a).append_left (f k)).trans ?_;simp_all
theorem Kr(key:α->Nat)(ks:a6)(aD:ks.Nodup):∀l:List α,(∀x,x∈l->key x∈ks)->(ks.flatMap λi=>l.filter λx=>decide (key x=i)).Perm l
 |[],_=>by simp
 |x::l,h=>by
  have e:(λi=>(x::l).filter λy=>decide (key y=i))=λi=>if key x=i then x::(l.filter λy=>decide (key y=i))else l.filter λy=>decide (key y=i):=by grind
  rw[e];exact(Kq x (key x) _ ks aD (h x (.head _))).trans ((Kr key ks aD l λy a=>h y (.tail _ a)).cons x)
theorem Yi(key:α->Nat)(a n:Nat)(l:List α):((List.range' a n).flatMap λi=>l.filter λx=>decide (key x=i)).Pairwise (λx y=>decide (key y<key x)=false):=by
 rw[List.pairwise_flatMap];constructor
 . intro i b;rw[List.pairwise_iff_forall_sublist];grind
 . refine(List.pairwise_lt_range' (s:=a) (n:=n)).imp ?_;grind
theorem Mj[Inhabited α][Inhabited c]{lt:α->α->Bool}{d:c->c->Bool}(g:α->c)(h:∀a b,d (g a) (g b)=lt a b):∀l,gT d (l.map g)=(gT lt l).map g
 |[]=>rfl
 |x::l=>by
  have key:∀r,n2 d (g x) (r.map g)=(n2 lt x r).map g:=by
   intro r;induction r with
   |nil=>rfl
   |cons y r ih=>
    simp only[n2,List.map];grind
  simp only[gT,List.map];rw[Mj g h l,key]
theorem Lg[Inhabited α]{lt:α->α->Bool}:∀{l:List α},l.Pairwise (λx y=>lt x y=true\/lt y x=true)->kd lt l=true
 |[],_=>rfl
 |x::l,h=>by
  rw[jh]at h;simp only[kd,cc,c0,hO];exact⟨h.1,Lg h.2⟩
end
mutual
def wt:I->Nat
 |⟨_,_,_,s,_,ks,a,r⟩=>10+s.length+(r.map λx=>x.Data.length+1).sum+cB ks+cB a
def cB:List I->Nat
 |[]=>0
 |v::l=>wt v+cB l
end
structure Fd where
 id:Nat
 c:Bool
 p:aj
instance:Inhabited Fd:=⟨⟨0,false,[]⟩⟩
def fk(a b:Fd):Bool:=decide (a.id<b.id)
def Fd.text(f:Fd):aj:=fE f.id f.c f.p
def gS:List aj->List aj->aj
 |k::ks,v::vs=>dB k++(dB v++gS ks vs)
 |_,_=>[]
def cD(l:List aU)(id:Int):Option aU:=l.find? λm=>decide (m.af=id)
open Classical in
noncomputable def dM (m:aU)(v:I):Bool:=m.bW&&decide (m.bw=v)
def jU(r:bY):Fd:=⟨r.af.toNat,false,r.Data⟩
mutual
noncomputable def bA (ts:List ah)(t:Int):I->aj
 |⟨_,b,i,s,id,ks,a,r⟩=>
  let x:=ts.getD t.toNat aP
  if x.Kind=1 then(if b then[1]else[])
  else if x.Kind=2 then gJ (gg i).toNat
  else if x.Kind=3 then s
  else if x.Kind=4 then gJ id.toNat
  else if x.Kind=5 then(gT fk (dI ts x.ag a++r.map jU)).flatMap Fd.text
  else if x.Kind=6 then eB id.toNat++(match cD x.ag id with
   |some m=>(b7 ts m.au a).headD []
   |none=>(r.map bY.Data).headD [])
  else if x.Kind=7 then(b7 ts x.aG a).flatMap dB
  else if x.Kind=8 then gS (b7 ts x.Key ks) (b7 ts x.aG a)
  else match b7 ts x.aG a with
   |[]=>[]
   |p::_=>1::p
noncomputable def b7 (ts:List ah)(t:Int):List I->List aj
 |[]=>[]
 |v::l=>bA ts t v::b7 ts t l
noncomputable def dI (ts:List ah):List aU->List I->List Fd
 |m::ms,v::l=>if dM m v then dI ts ms l else⟨m.af.toNat,m.cn,bA ts m.au v⟩::dI ts ms l
 |_,_=>[]
end
mutual
noncomputable def ep (ts:List ah)(t:Int):I->Nat
 |⟨_,_,_,_,id,ks,a,_⟩=>
  let x:=ts.getD t.toNat aP
  1+max (if ks=[]then 0 else 1) (if x.Kind=5 then gY ts x.ag a
   else if x.Kind=6 then(match cD x.ag id with
    |some m=>eI ts m.au a
    |none=>0)
   else eI ts x.aG a)
noncomputable def eI (ts:List ah)(t:Int):List I->Nat
 |[]=>0
 |v::l=>max (ep ts t v) (eI ts t l)
noncomputable def gY (ts:List ah):List aU->List I->Nat
 |m::ms,v::l=>if dM m v then gY ts ms l else max (ep ts m.au v) (gY ts ms l)
 |_,_=>0
end
def cr(n:Int):Prop:=1<=n/\n<=1000
def ke(ms:List aU)(r:List bY):Prop:=r.Pairwise (λa b=>a.af<b.af)/\∀x,x∈r->cr x.af/\cD ms x.af=none
def gX(a b:I):Int:=(pT (a,b)).getD 0
def jM(ks:List I):Prop:=∀i,i+1<ks.length->gX (ks.getD i ar) (ks.getD (i+1) ar)<0
mutual
def b6(ts:List ah)(pl:Bool)(t:Int):I->Prop
 |⟨k,b,i,s,id,ks,a,r⟩=>
  let x:=ts.getD t.toNat aP
  (0<=t/\t<ts.length/\k=x.Kind/\(pl=true->r=[]))/\
  (k=1/\i=0/\s=[]/\id=0/\ks=[]/\a=[]/\r=[]\/
  k=2/\b=false/\s=[]/\id=0/\ks=[]/\a=[]/\r=[]/\x.bB<=i/\i<=x.bF\/
  k=3/\b=false/\i=0/\id=0/\ks=[]/\a=[]/\r=[]/\(s.length:Int)<=x.Max\/
  k=4/\b=false/\i=0/\s=[]/\ks=[]/\a=[]/\r=[]/\((∃y,y∈x.bg/\y.af=id)\/x.Open=true/\pl=false/\cr id)\/
  k=5/\b=false/\i=0/\s=[]/\id=0/\ks=[]/\ke x.ag r/\hv ts pl x.ag a\/
  k=6/\b=false/\i=0/\s=[]/\ks=[]/\(match cD x.ag id with
   |some m=>r=[]/\a.length=1/\eT ts pl m.au a
   |none=>x.Open=true/\pl=false/\cr id/\a=[]/\∃d,r=[⟨id,d⟩])\/
  k=7/\b=false/\i=0/\s=[]/\id=0/\ks=[]/\r=[]/\(a.length:Int)<=x.Max/\eT ts pl x.aG a\/
  k=8/\b=false/\i=0/\s=[]/\id=0/\r=[]/\(ks.length:Int)<=x.Max/\a.length=ks.length/\eT ts pl x.Key ks/\eT ts pl x.aG a/\jM ks\/
  k=9/\b=false/\i=0/\s=[]/\id=0/\ks=[]/\r=[]/\a.length<=1/\eT ts pl x.aG a)
def eT(ts:List ah)(pl:Bool)(t:Int):List I->Prop
 |[]=>True
 |v::l=>b6 ts pl t v/\eT ts pl t l
def hv(ts:List ah)(pl:Bool):List aU->List I->Prop
 |m::ms,v::l=>b6 ts pl m.au v/\hv ts pl ms l
 |[],[]=>True
 |_,_=>False
end
theorem fg(v:I):wt v=10+v.bl.length+(v.Rest.map λx=>x.Data.length+1).sum+cB v.av+cB v.ai:=by cases v;rw[wt]
theorem gO(v:I)(l:List I):cB (v::l)=wt v+cB l:=by rw[cB]
theorem gF:cB []=0:=by rw[cB]
theorem e2:∀{l:List I} {x:I},x∈l->wt x<=cB l
 |y::l,x,h=>by
  rw[gO];rcases fe.1 h with rfl|h
  . omega
  . have:=e2 h;omega
theorem Ks{p:aj}(h:p.length<1152921504606846976):(dB p).length<=p.length+10:=by
 have:=j7 (n:=p.length) (by omega);unfold dB;simp;omega
theorem Mk{f:Fd}(h:f.p.length<1152921504606846976)(a:f.id<=9223372036854775807):f.text.length<=f.p.length+20:=by
 have:=Ks h;have:=j7 (n:=2*f.id+(if f.c then 1 else 0)) (by split<;>omega);unfold Fd.text fE;simp only[c4];omega
theorem Tm{f:α->List c}{a b:List α}(h:a.Perm b):(a.flatMap f).length=(b.flatMap f).length:=(h.flatMap_right f).length_eq
theorem zl{n:Int}(h:cw n):(gg n).toNat<18446744073709551616:=by
 unfold gg cw at*;split<;>omega
section
variable {ts:List ah}
def wW(ts:List ah)(v:I):Prop:=∀t,(bA ts t v).length+20<=21*wt v
theorem Hl:∀{l:List I} {t:Int},cB l<=1099511627776->(∀x,x∈l->wW ts x)->((b7 ts t l).flatMap dB).length<=21*cB l
 |[],t,_,_=>by rw[b7];simp
 |v::l,t,a,h=>by
  rw[b7,e7,c4];rw[gO]at a⊢;have h1:=h v (.head _) t;have c:=Hl (t:=t) (by omega) λx b=>h x (.tail _ b);have d:=Ks (p:=bA ts t v) (by omega);omega
theorem nw:∀{l:List I} {t:Int},(b7 ts t l).length=l.length
 |[],t=>by rw[b7];rfl
 |v::l,t=>by rw[b7,ia,ia,nw]
theorem DE:∀{l:List I} {t:Int},b7 ts t l=l.map (bA ts t)
 |[],t=>by rw[b7];rfl
 |v::l,t=>by rw[b7,List.map,DE]
theorem HV:∀(a b:List aj),(gS a b).length<=(a.flatMap dB).length+(b.flatMap dB).length
 |[],b=>by simp[gS]
 |k::ks,[]=>by simp[gS]
 |k::ks,v::vs=>by
  have:=HV ks vs;simp only[gS,e7,c4];omega
theorem Lh:∀{ms:List aU} {l:List I},cB l<=1099511627776->(∀m,m∈ms->m.af<=1000)->(∀x,x∈l->wW ts x)->((dI ts ms l).flatMap Fd.text).length<=21*cB l
 |[],l,_,_,_=>by rw[dI]<;>simp
 |m::ms,[],_,_,_=>by rw[dI]<;>simp
 |m::ms,v::l,c,b,h=>by
  rw[gO]at c⊢;rw[dI];have h1:=h v (.head _) m.au;have d:=Lh (ms:=ms) (l:=l) (by omega) (λx a=>b x (.tail _ a)) λx a=>h x (.tail _ a);have g:=b m (.head _);split
  . omega
  . rw[e7,c4];have e:=Mk (f:=⟨m.af.toNat,m.cn,bA ts m.au v⟩) (by show(bA ts m.au v).length<_;omega) (by show m.af.toNat<=_;omega);grind
theorem Ml:∀{l:List bY},(∀x,x∈l->x.Data.length<=reachBytes/\x.af<=9223372036854775807)->True->((l.map jU).flatMap Fd.text).length<=21*(l.map λx=>x.Data.length+1).sum
 |[],_,_=>by simp
 |r::l,h,_=>by
  have h1:=h r (.head _);have c:=Ml (l:=l) (λx b=>h x (.tail _ b)) trivial;unfold reachBytes at h1;have a:=Mk (f:=jU r) (by show r.Data.length<_;omega) (by show r.af.toNat<=_;omega);have d:(jU r).text.length<=r.Data.length+20:=a;grind
def O6(ts:List ah):Prop:=∀x,x∈ts->∀m,m∈x.ag->m.af<=1000
theorem XZ(l:List α)(i:Nat)(d:α):l.getD i d∈l\/l.getD i d=d:=by grind
theorem Li{l:List aj}{n:Nat}(h:∀x,x∈l->x.length<=n):(l.headD []).length<=n:=by
 cases l with
 |nil=>simp
 |cons x l=>exact h x (.head _)
theorem MK:∀{l:a6} {n:Nat},n∈l->n<=l.sum
 |a::l,n,h=>by
  rw[og];rcases fe.1 h with rfl|h
  . omega
  . have:=MK h;omega
theorem abL(g:O6 ts)(h:bH v):wt v<=1099511627776->wW ts v:=by
 induction h with
 |mk v hs h1 C D G F k db u M w o n=>
  intro H t;have J:=fg v;have f:∀x,x∈v.av->wW ts x:=λx a=>o x a (by have:=e2 a;omega);have d:∀x,x∈v.ai->wW ts x:=λx a=>n x a (by have:=e2 a;omega);have A:=λt=>Hl (t:=t) (l:=v.av) (by omega) f;have oz:=λt=>Hl (t:=t) (l:=v.ai) (by omega) d;have a:∀m,m∈(ts.getD t.toNat aP).ag->m.af<=1000:=by
   rcases XZ ts t.toNat aP with h|h
   . exact g _ h
   . rw[h];intro m j;cases j
  have B:∀t,((b7 ts t v.ai).headD []).length+20<=21*cB v.ai+20:=λt=>by
   have:((b7 ts t v.ai).headD []).length<=21*cB v.ai:=Li λp c=>by
    rw[DE]at c;obtain⟨x,a,rfl⟩:=eK.1 c;have:=d x a t;have:=e2 a;omega
   omega
  have fA:((v.Rest.map jU).flatMap Fd.text).length<=21*(v.Rest.map λx=>x.Data.length+1).sum:=Ml (λx a=>⟨k x a,(w x a).2⟩) trivial;have z:=Lh (ts:=ts) (ms:=(ts.getD t.toNat aP).ag) (l:=v.ai) (by omega) a d;have y:((v.Rest.map bY.Data).headD []).length<=(v.Rest.map λx=>x.Data.length+1).sum:=Li λp c=>by
   obtain⟨x,a,rfl⟩:=eK.1 c;have:x.Data.length+1<=(v.Rest.map λx=>x.Data.length+1).sum:=MK (eK.2 ⟨x,a,rfl⟩);omega
  obtain⟨K,b,i,s,id,ks,q,r⟩:=v;simp only at*;rw[bA];have L:=v8 8 _ (zl u);have e:id.toNat<18446744073709551616:=by omega
  have E:=v8 8 _ e;have c:=j7 e;generalize ts.getD t.toNat aP=x at*;split
  . grind
  . split
    . omega
    . split
      . omega
      . split
        . omega
        . split
          . rw[Tm (nz _ _),Fc,c4];omega
          . split
            . grind
            . split
              . grind
              . split
                . have:=HV (b7 ts x.Key ks) (b7 ts x.aG q);grind
                grind
end
section
variable (ts:List ah)
mutual
theorem RJ:∀(v:I) (t:Int),ep ts t v<=wt v
 |⟨_,_,_,_,id,ks,a,_⟩,t=>by
  rw[ep,wt];have h1:=GS a;have c:=GR a;grind
theorem GS:∀(l:List I) (t:Int),eI ts t l<=cB l
 |[],t=>by rw[eI];omega
 |v::l,t=>by
  rw[eI,cB];have:=RJ v t;have:=GS l t;omega
theorem GR:∀(l:List I) (ms:List aU),gY ts ms l<=cB l
 |[],ms=>by rw [gY]; · omega
            . intros;simp_all
 |v::l,[]=>by rw [gY]; · omega
              . intros;simp_all
 |v::l,m::ms=>by
  rw[gY,cB];have:=RJ v m.au;have:=GR l ms;grind
end
end
theorem Om(v:I):10<=wt v:=by rw[fg];omega
section
variable {ts:List ah}
theorem vc:∀{ms:List aU} {l:List I} {x:Fd},x∈dI ts ms l->∃m,m∈ms/\x.id=m.af.toNat
 |[],l,x,h=>by
  rw[dI]at h
  . cases h
  grind
 |m::ms,[],x,h=>by
  rw[dI]at h
  . cases h
  grind
 |m::ms,v::l,x,h=>by
  rw[dI]at h;split at h
  . obtain⟨b,h1,a⟩:=vc h;grind
  . rcases fe.1 h with rfl|h
    . grind
    . obtain⟨b,h1,a⟩:=vc h;grind
theorem Kt{l:List I}{n:Nat}(h:∀m,m∈ms->m.af.toNat≠n):((dI ts ms l).filter λx=>decide (x.id=n))=[]:=by
 rw[List.filter_eq_nil_iff];intro x a;obtain⟨m,h1,b⟩:=vc a;grind
theorem Jy:∀{ms:List aU} {l:List I} {n j:Nat},ms.Pairwise (λa b=>a.af.toNat≠b.af.toNat)->l.length=ms.length->j<ms.length->(ms.getD j aC).af.toNat=n->
 ((dI ts ms l).filter λx=>decide (x.id=n))=if dM (ms.getD j aC) (l.getD j ar) then[]else[⟨n,(ms.getD j aC).cn,bA ts (ms.getD j aC).au (l.getD j ar)⟩]
 |[],l,n,j,_,_,d,_=>by cases d
 |m::ms,[],n,j,_,ae,_,_=>by cases ae
 |m::ms,v::l,n,0,c,ae,d,he=>by
  rw[jh]at c;simp only[ki]at he⊢;have aD:=Kt (ts:=ts) (l:=l) (ms:=ms) (n:=n) λx g=>by have:=c.1 x g;omega
  rw[dI];grind
 |m::ms,v::l,n,j+1,c,ae,d,he=>by
  rw[jh]at c;simp only[yc]at he⊢;have e:j<ms.length:=by simpa using d
  have f:ms.getD j aC∈ms:=by grind
  have i:=c.1 _ f;have ih:=Jy (l:=l) c.2 (by simpa using ae) e he;rw[dI];grind
theorem X0(l:List bY)(n:Nat)(h:∀x,x∈l->0<=x.af):((l.map jU).filter λx=>decide (x.id=n))=(l.filter λx=>decide (x.af=(n:Int))).map jU:=by
 rw[List.filter_map]
 congr 1
 apply List.filter_congr;intro x a;have:=h x a;show decide (x.af.toNat=n)=_;grind
noncomputable def ft (ts:List ah)(ms:List aU)(l:List I)(r:List bY):List Fd:=dI ts ms l++r.map jU
def fy(ms:List aU):Prop:=ms.Pairwise (λa b=>a.af<b.af)/\∀m,m∈ms->cr m.af
theorem ML(h:fy ms):ms.Pairwise (λa b=>a.af.toNat≠b.af.toNat):=by
 refine h.1.imp_of_mem λ{a b} c d ay=>?_;have:=h.2 a c;have:=h.2 b d;unfold cr at*;omega
theorem Hm:∀{ms:List aU} {l:List I},ms.Pairwise (λa b=>a.af.toNat≠b.af.toNat)->(dI ts ms l).Pairwise (λa b=>a.id≠b.id)
 |[],l,_=>by
  rw[dI]
  . exact .nil
  grind
 |m::ms,[],_=>by
  rw[dI]
  . exact .nil
  grind
 |m::ms,v::l,h=>by
  rw[jh]at h;rw[dI];split
  . exact Hm h.2
  . rw[jh];refine⟨λx c=>?_,Hm h.2⟩;obtain⟨e,h1,d⟩:=vc c;grind
theorem ny(h:cD ms id=none):∀m,m∈ms->m.af≠id:=by
 unfold cD at h;grind
theorem xN{l:List I}{r:List bY}(h:fy ms)(c:ke ms r):kd fk (ft ts ms l r)=true:=by
 apply Lg;have key:(ft ts ms l r).Pairwise (λa b=>a.id≠b.id):=by
  unfold ft;rw[Fb];refine⟨Hm (ML h),?_,?_⟩
  . rw[ob];refine c.1.imp_of_mem λ{a b} e f ay=>?_;have:=(c.2 a e).1;have:=(c.2 b f).1;show a.af.toNat≠b.af.toNat;unfold cr at*;omega
  . intro x g y i;obtain⟨m,h1,j⟩:=vc g;obtain⟨q,d,rfl⟩:=eK.1 i;have k:=ny (c.2 q d).2 m h1;have:=h.2 m h1;have:=(c.2 q d).1;show x.id≠q.af.toNat;unfold cr at*;omega
 refine key.imp λ{a b} n=>?_;simp only[fk,dq];omega
theorem SV{l:List I}{r:List bY}(h:fy ms)(c:ke ms r){x:Fd}(a:x∈ft ts ms l r):1<=x.id/\x.id<=1000:=by
 rcases ga.1 a with a|a
 . obtain⟨m,h1,d⟩:=vc a;have:=h.2 m h1;unfold cr at*;omega
 . obtain⟨q,b,rfl⟩:=eK.1 a;have:=(c.2 q b).1;unfold cr at*;show 1<=q.af.toNat/\q.af.toNat<=1000;omega
theorem MM:SWO fk:=by refine⟨λx=>?_,λx y z h1 a=>?_,λx y z h1 a=>?_⟩<;>simp[fk]at*<;>omega
theorem W'{l:List Fd}(a:kd fk l=true)(b:∀x,x∈l->1<=x.id/\x.id<=1000):
 gT fk l=(List.range' 1 1000).flatMap λn=>l.filter λx=>decide (x.id=n):=by
 refine Jt a (nz _ _) (Kr Fd.id _ List.nodup_range' l λx c=>?_) (CB MM l) (Yi Fd.id 1 1000 l);have:=b x c;rw[List.mem_range'_1];omega
end
section
variable {ts:List ah}{pl:Bool}
theorem cU:∀{l:List I} {t:Int},eT ts pl t l↔∀x,x∈l->b6 ts pl t x
 |[],t=>by rw[eT];simp
 |v::l,t=>by
  rw[eT,cU];grind
theorem h4:∀{ms:List aU} {l:List I},hv ts pl ms l↔l.length=ms.length/\∀i,i<ms.length->b6 ts pl (ms.getD i aC).au (l.getD i ar)
 |[],[]=>by
  have:hv ts pl [] []=True:=by rw[hv]
  grind
 |[],v::l=>by
  have:hv ts pl [] (v::l)=False:=by rw[hv]<;>(intros;simp_all)
  grind
 |m::ms,[]=>by
  have:hv ts pl (m::ms) []=False:=by rw[hv]<;>(intros;simp_all)
  grind
 |m::ms,v::l=>by
  rw[hv,h4];constructor
  . grind
  . rintro ⟨h1,a⟩
    exact⟨a 0 (by simp),by simpa using h1,λi b=>a (i+1) (by simpa using b)⟩
end
def dj(o:Option Bool)(P:Prop):Prop:=∃r,o=some r/\(r=true↔P)
theorem dj.imp{o:Option Bool}{Q:Prop}(h:dj o P)(e:P↔Q):dj o Q:=by grind
theorem dj.of{b:Bool}(e:b=true↔P):dj (some b) P:=⟨b,rfl,e⟩
theorem dj.loop{n:Nat}{p:Nat->Bool}{g:Unit}(h0:o=L 0)(f:∀i,i<n->L i=if p i then L (i+1)else some (.inl false))(e:L n=some (.inr g)):
 dj (o>>=λo=>match o with|.inl x=>some x|.inr _=>some true) (∀i,i<n->p i=true):=by
 subst h0;rcases scan L n p (.inl false) (.inr g) f e with⟨h1,a⟩|⟨h1,j,a,c⟩
 . rw[h1];exact⟨true,rfl,by simpa using a⟩
 . rw[h1];refine⟨false,rfl,?_⟩;constructor
   . intro h;cases h
   . intro h;have:=h j a;rw[c]at this;cases this
theorem Dp(f:α->Int)(d:α):∀l:List α,l.Pairwise (λa b=>f a<f b)↔∀i,i+1<l.length->f (l.getD i d)<f (l.getD (i+1) d)
 |[]=>by simp
 |[a]=>by simp
 |a::b::l=>by
  rw[jh,Dp f d (b::l)];constructor
  . rintro ⟨h1,c⟩ i e
    cases i with
    |zero=>exact h1 b (.head _)
    |succ i=>exact c i (by simpa using e)
  . intro h;have c:∀i,i+1<(b::l).length->f ((b::l).getD i d)<f ((b::l).getD (i+1) d):=λi e=>h (i+1) (by simpa using e);refine⟨λx j=>?_,c⟩;have h0:=h 0 (by simp);simp only[ki,yc]at h0;have g:=(Dp f d (b::l)).2 c;rw[jh]at g;grind
section
variable {ts:List ah}
def Eh(ts:List ah)(x:I):Prop:=∀t pl,dj (iJ ((⟨ts⟩:aQ),t,x,pl)) (b6 ts pl t x)
theorem Mm{l:List I}(ae:l.length<=reachBytes)(ih:∀x,x∈l->Eh ts x)(t:Int)(pl:Bool):dj (nr ((⟨ts⟩:aQ),t,l,pl)) (eT ts pl t l):=by
 have e:=dy ae;let p:Nat->Bool:=λi=>(iJ ((⟨ts⟩:aQ),t,l.getD i ar,pl)).getD false;have b:∀i,i<l.length->iJ ((⟨ts⟩:aQ),t,l.getD i ar,pl)=some (p i)/\(p i=true↔b6 ts pl t (l.getD i ar)):=by
  intro i a;obtain⟨r,h1,d⟩:=ih _ (bh a ar) t pl;grind
 rw[nr];refine(dj.loop (L:=λi=>kD (t,l,pl,(i:Int),ts)) (n:=l.length) (p:=p) (g:=()) rfl (λi a=>?_) ?_).imp ?_
 . show kD (t,l,pl,(i:Int),ts)=if p i then kD (t,l,pl,((i+1:Nat):Int),ts)else _
   rw[kD,bu,ad (aN a)];simp only[I.aO,a'];rw[(b i a).1,bC];grind
 . show kD (t,l,pl,(l.length:Int),ts)=_;rw[kD,bq]
 . rw[cU];constructor
   . intro h x c;obtain⟨i,a,rfl⟩:=eS c;grind
   grind
theorem tM{l:List aU}{r:Int×Bool}(h:qE l id r):(r.2=true/\∃j:Nat,j<l.length/\r.1=(j:Int)/\cD l id=some (l.getD j aC)/\(l.getD j aC).af=id)\/(r.2=false/\cD l id=none):=by
 rcases h with⟨j,h1,a,c,rfl⟩|⟨h1,rfl⟩
 . refine .inl ⟨rfl,j,h1,rfl,?_,a⟩;unfold cD;rw[BN];refine⟨by rw[dq];exact a,j,h1,(dc h1 _).symm,λk e=>?_⟩;grind
 . refine .inr ⟨rfl,?_⟩;unfold cD;rw[ye];intro m b;obtain⟨i,d,rfl⟩:=eS b;grind
theorem aaQ(ht:t.ag.length<9223372036854775807){l:List bY}(ae:l.length<=reachBytes):dj (qF (t,l)) (ke t.ag l):=by
 have s:=dy ae;rw[qF];let p:Nat->Bool:=λi=>!((gN (t,(l.getD i bX).af)).getD (0,false)).2&&(bif decide (1<=(l.getD i bX).af)then decide ((l.getD i bX).af<=1000)else false)&&(!(decide ((0:Int)<(i:Int))) || !(decide ((l.getD i bX).af<=(l.getD (dh .i64 (i:Int) 1).toNat bX).af)));refine(dj.loop (L:=λi=>j3 (l,(i:Int),t)) (n:=l.length) (p:=p) (g:=()) rfl (λi c=>?_) ?_).imp ?_
 . show j3 (l,(i:Int),t)=if p i then j3 (l,((i+1:Nat):Int),t)else _
   obtain⟨r,h1,d,_⟩:=mD (t:=t) (l.getD i bX).af ht;have f:p i=(!r.2&&(bif decide (1<=(l.getD i bX).af)then decide ((l.getD i bX).af<=1000)else false)&&(!(decide ((0:Int)<(i:Int))) || !(decide ((l.getD i bX).af<=(l.getD (dh .i64 (i:Int) 1).toNat bX).af)))):=(by simp only[p,h1,lu]);rw[f,j3,bu,ad (aN c)];simp only[a'];rw[d,bC];have o:jv ((l.getD i bX).af,r.2)=some ((!r.2)&&(bif decide (1<=(l.getD i bX).af)then decide ((l.getD i bX).af<=1000)else false)):=by
    rw[jv];grind
   show(if aH (i:Int) l.length then jv ((l.getD i bX).af,r.2)>>=_ else none)=_;rw[ad (aN c),o]
   exact Jx ((!r.2)&&(bif decide (1<=(l.getD i bX).af)then decide ((l.getD i bX).af<=1000)else false)) (aH (i:Int) l.length) (decide ((0:Int)<(i:Int))) (dh .i64 (i:Int) 1) (λj=>aH j l.length) (λj=>decide ((l.getD i bX).af<=(l.getD j.toNat bX).af)) _ _ (aN c) (λk=>by
    have:0<i:=by simp at k;omega
    show aH _ _=true
    rw[q0 this (by omega)];exact aN (by omega))
 . show j3 (l,(l.length:Int),t)=_;rw[j3,bq]
 . unfold ke;rw[Dp (λa:bY=>a.af) bX];have key:∀i,i<l.length->(p i=true↔(cr (l.getD i bX).af/\cD t.ag (l.getD i bX).af=none)/\(i=0\/(l.getD (i-1) bX).af<(l.getD i bX).af)):=by
    intro i c;obtain⟨r,h1,d,m⟩:=mD (t:=t) (l.getD i bX).af ht;have f:p i=(!r.2&&(bif decide (1<=(l.getD i bX).af)then decide ((l.getD i bX).af<=1000)else false)&&(!(decide ((0:Int)<(i:Int))) || !(decide ((l.getD i bX).af<=(l.getD (dh .i64 (i:Int) 1).toNat bX).af)))):=(by simp only[p,h1,lu]);rw[f];have aD:r.2=false↔cD t.ag (l.getD i bX).af=none:=by
     rcases tM m with⟨a,j,_,_,b,_⟩|⟨a,b⟩
     . grind
     grind
    rw[<-aD];unfold cr;by_cases h0:i=0
    . grind
    . have k:decide ((0:Int)<(i:Int))=true:=by simp;omega
      rw[k,q0 (by omega) (by omega),a'];grind
   constructor
   . intro h;refine⟨λi c=>?_,λx q=>?_⟩
     . grind
     . obtain⟨i,c,rfl⟩:=eS q;simp_all
   . rintro ⟨h1,d⟩ i c
     refine(key i c).2 ⟨d _ (bh c bX),?_⟩;by_cases h0:i=0
     . omega
     . right;have:=h1 (i-1) (by omega);have e:i-1+1=i:=(by omega);grind
theorem Yz(ae:v.ai.length=t.ag.length)(e:t.ag.length<9223372036854775807)(ih:∀x,x∈v.ai->Eh ts x)(pl:Bool):
 dj (jc (pl,0,ts,v,t.Kind,t.Name,t.bB,t.bF,t.Max,t.bg,t.ag,t.Key,t.aG,t.Open)>>=λo=>match o with|.inl c=>some c|.inr _=>some true) (hv ts pl t.ag v.ai):=by
 let p:Nat->Bool:=λi=>(iJ ((⟨ts⟩:aQ),(t.ag.getD i aC).au,v.ai.getD i ar,pl)).getD false;have b:∀i,i<t.ag.length->iJ ((⟨ts⟩:aQ),(t.ag.getD i aC).au,v.ai.getD i ar,pl)=some (p i)/\(p i=true↔b6 ts pl (t.ag.getD i aC).au (v.ai.getD i ar)):=by
  intro i a;obtain⟨r,h1,d⟩:=ih _ (bh (by omega:i<v.ai.length) ar) (t.ag.getD i aC).au pl;grind
 refine(dj.loop (L:=λi=>jc (pl,(i:Int),ts,v,t.Kind,t.Name,t.bB,t.bF,t.Max,t.bg,t.ag,t.Key,t.aG,t.Open)) (n:=t.ag.length) (p:=p) (g:=()) rfl (λi a=>?_) ?_).imp ?_
 . show jc (pl,(i:Int),ts,v,t.Kind,t.Name,t.bB,t.bF,t.Max,t.bg,t.ag,t.Key,t.aG,t.Open)=if p i then jc (pl,((i+1:Nat):Int),ts,v,t.Kind,t.Name,t.bB,t.bF,t.Max,t.bg,t.ag,t.Key,t.aG,t.Open)else _
   rw[jc,bu,ad (aN a),ad (aN (by omega))];simp only[a',I.aO];rw[(b i a).1,bC];cases p i<;>rfl
 . show jc (pl,(t.ag.length:Int),ts,v,t.Kind,t.Name,t.bB,t.bF,t.Max,t.bg,t.ag,t.Key,t.aG,t.Open)=_;rw[jc,ch]
 . rw[h4];constructor
   . intro h;exact⟨ae,λi a=>(b i a).2.1 (h i a)⟩
   . rintro ⟨_,h⟩ i a;exact(b i a).2.2 (h i a)
theorem aaR(m:v.av.length<9223372036854775807)(b:∀x,x∈v.av->bH x):
 dj (hZ (1,v)>>=λk=>match k with|.inl l=>some l|.inr _=>some true) (jM v.av):=by
 by_cases h0:v.av.length=0
 . rw[hZ,al (by simp[h0])];refine⟨true,rfl,?_⟩;unfold jM;simp only[true_iff];intro i a;omega
 refine(dj.loop (L:=λi=>hZ (((i+1:Nat):Int),v)) (n:=v.av.length-1) (p:=λi=>!(decide (0<=gX (v.av.getD i ar) (v.av.getD (i+1) ar)))) (g:=()) rfl (λi a=>?_) ?_).imp ?_
 . show hZ (((i+1:Nat):Int),v)=if _ then hZ (((i+1+1:Nat):Int),v)else _
   have f:dh .i64 ((i+1:Nat):Int) 1=(i:Int):=by rw[q0 (by omega) (by omega)];simp
   obtain⟨r,c,d⟩:=C8 (vH (b _ (bh (by omega:i<v.av.length) ar))) (vH (b _ (bh (by omega:i+1<v.av.length) ar)));have j:gX (v.av.getD i ar) (v.av.getD (i+1) ar)=r:=by unfold gX;rw[c];rfl
   rw[j,hZ,bu];simp only[aT,ak];rw[f,ad (aN (by omega)),ad (aN (by omega))];simp only[a',I.aO];rw[d,bC];simp only[ak];cases decide (0<=r)<;>rfl
 . have e:v.av.length-1+1=v.av.length:=(by omega);show hZ (((v.av.length-1+1:Nat):Int),v)=_;rw[e,hZ,bq]
 . unfold jM;constructor
   . intro h i a;have:=h i (by omega);simpa using this
   . intro h i a;have:=h i (by omega);simpa using this
theorem eO(pl:Bool)(t:Int)(v:I):b6 ts pl t v↔
 (0<=t/\t<ts.length/\v.Kind=(ts.getD t.toNat aP).Kind/\(pl=true->v.Rest=[]))/\
 (v.Kind=1/\v.bd=0/\v.bl=[]/\v.af=0/\v.av=[]/\v.ai=[]/\v.Rest=[]\/
 v.Kind=2/\v.bM=false/\v.bl=[]/\v.af=0/\v.av=[]/\v.ai=[]/\v.Rest=[]/\(ts.getD t.toNat aP).bB<=v.bd/\v.bd<=(ts.getD t.toNat aP).bF\/
 v.Kind=3/\v.bM=false/\v.bd=0/\v.af=0/\v.av=[]/\v.ai=[]/\v.Rest=[]/\(v.bl.length:Int)<=(ts.getD t.toNat aP).Max\/
 v.Kind=4/\v.bM=false/\v.bd=0/\v.bl=[]/\v.av=[]/\v.ai=[]/\v.Rest=[]/\((∃y,y∈(ts.getD t.toNat aP).bg/\y.af=v.af)\/(ts.getD t.toNat aP).Open=true/\pl=false/\cr v.af)\/
 v.Kind=5/\v.bM=false/\v.bd=0/\v.bl=[]/\v.af=0/\v.av=[]/\ke (ts.getD t.toNat aP).ag v.Rest/\hv ts pl (ts.getD t.toNat aP).ag v.ai\/
 v.Kind=6/\v.bM=false/\v.bd=0/\v.bl=[]/\v.av=[]/\(match cD (ts.getD t.toNat aP).ag v.af with
  |some m=>v.Rest=[]/\v.ai.length=1/\eT ts pl m.au v.ai
  |none=>(ts.getD t.toNat aP).Open=true/\pl=false/\cr v.af/\v.ai=[]/\∃d,v.Rest=[⟨v.af,d⟩])\/
 v.Kind=7/\v.bM=false/\v.bd=0/\v.bl=[]/\v.af=0/\v.av=[]/\v.Rest=[]/\(v.ai.length:Int)<=(ts.getD t.toNat aP).Max/\eT ts pl (ts.getD t.toNat aP).aG v.ai\/
 v.Kind=8/\v.bM=false/\v.bd=0/\v.bl=[]/\v.af=0/\v.Rest=[]/\(v.av.length:Int)<=(ts.getD t.toNat aP).Max/\v.ai.length=v.av.length/\eT ts pl (ts.getD t.toNat aP).Key v.av/\eT ts pl (ts.getD t.toNat aP).aG v.ai/\jM v.av\/
 v.Kind=9/\v.bM=false/\v.bd=0/\v.bl=[]/\v.af=0/\v.av=[]/\v.Rest=[]/\v.ai.length<=1/\eT ts pl (ts.getD t.toNat aP).aG v.ai):=by
 cases v;rw[b6];try exact Iff.rfl
end
end
end Go.Proofs.YtdjagncoefjfeaaGreat
