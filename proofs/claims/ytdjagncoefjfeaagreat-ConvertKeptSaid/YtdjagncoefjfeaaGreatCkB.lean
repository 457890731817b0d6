/- The functions of the program as functions of Lean, that its code does what they say, and what they answer; part B. -/
import Derived.Test.YtdjagncoefjfeaaGreatCkA

namespace Go.Proofs.YtdjagncoefjfeaaGreat
set_option linter.all false
section
open Go Go.Proofs.YtdjagncoefjfeaaGreat.Shv
open Tryz
set_option maxRecDepth 100000
def qg(n:Int):Option aj:=
 tc (n,0,[0,0,0,0,0,0,0,0,0,0])>>=λo=>if ay o.2.1 10 then if (o.2.1.toNat<o.2.2.length:Bool) then some (o.2.2.set o.2.1.toNat (bY .u8 o.1))>>=λa=>some (aK .i64 o.2.1 1)>>=λt21=>if d' 0 t21 10 then if xG (0:Int).toNat t21.toNat a.length then some (strOf ((a.drop (0:Int).toNat).take t21.toNat))else none else none else none else none
theorem Am:aX TC qg:= .bd .n (.k ZL .n)
def rV(p:aj):Option aj:=
 qg (bY .u64 (p.length:Int))>>=λr=>if (r.length+p.length<=eE:Bool) then some (r++p)else none
theorem L6:aX Tg rV:= .bd (.k Am .n)
def sY:aj×aj->Option (Int×aj)
 |(s,b)=>
 some b>>=λr=>if((r.length=b.length:Bool)&&true) then if room 1 (r.length+s.length) then some ((s.length:Int),B4 r s)else none else none
theorem Vk:aX Tf sY:= .bd (.k ru .n)
def wa:Int×Bool×aj->Option aj
 |(id,d,p)=>
 some (gB .u64 2 (bY .u64 id))>>=λt10=>if d then qg (aK .u64 t10 1)>>=λr=>rV p>>=λa=>if (r.length+a.length<=eE:Bool) then some (r++a)else none else qg t10>>=λb=>rV p>>=λc=>if (b.length+c.length<=eE:Bool) then some (b++c)else none
theorem HM:aX TA wa:= .bd (.k Am (.k L6 .n))
def D0:aR×I->Option Bool
 |(m,v)=>
 (if m.bu then nq (I.eta m.bm,I.eta v)else some false)>>=λr=>some (bif m.bu then r else false)
theorem X8:aX Tz D0:= .bd (.k Hs .n)
def q5:List bQ×Int×Int×List ai×Int×List gu->Option (List ai×Int×List gu)
 |(t57,e,t59,c,d,a)=>
 if (t59<e:Bool) then if ay t59 t57.length then some (t57.getD t59.toNat bP)>>=λb=>wa (b.ad,false,b.Data)>>=λf=>some [(⟨b.ad,f⟩:gu)]>>=λt72=>if room 24 (a++t72).length then q5 (t57,e,aK .i64 t59 1,c,d,a++t72)else none else none else some (c,d,a)
  partial_fixpoint
theorem VK:cG 189 1 [1] QX q5:= .rx q5.partial_correctness (.k HM .n)
def tH:Int×Int×List ai×Int×List gu×aj->Option (List ai×Int×aj)
 |(e,t79,b,c,a,d)=>
 if (t79<e:Bool) then if ay t79 a.length then if (t79.toNat<a.length:Bool) then sY ((a.getD t79.toNat v').text,d)>>=λf=>tH (e,aK .i64 t79 1,b,c,a,f.2)else none else none else some (b,c,d)
  partial_fixpoint
theorem VL:cG 189 1 [2] QY tH:= .rx tH.partial_correctness (.k Vk .n)
def zn(b:aj):Option aj:=
 if hL (b.length:Int) (b.length:Int) then some b else none
theorem Vm:aX Th zn:= .bd
def td:Int×Int×ao->Option (Int×ao)
 |(b,c,a)=>
 if (0<b:Bool) then some (di .i64 c 1)>>=λt10=>if ay t10 8 then if (t10.toNat<a.length:Bool) then td (lO .u64 b 8,t10,a.set t10.toNat (bY .u8 b))else none else none else some (c,a)
  partial_fixpoint
theorem ZM:cG 187 0 [0] QW td:= .rx td.partial_correctness
def zK(n:Int):Option aj:=
 td (n,8,[0,0,0,0,0,0,0,0])>>=λo=>if d' o.1 8 8 then if xG o.1.toNat ((8:Int).toNat-o.1.toNat) o.2.length then some (strOf ((o.2.drop o.1.toNat).take ((8:Int).toNat-o.1.toNat)))else none else none
theorem ZP:aX Td zK:= .bd .n (.k ZM .n)
mutual
def kg:Int×I×Int×List ai×Int->Option (aj×List ai×Int)
 |(t,v,e,b,x)=>
 some (iI x e)>>=λt19=>if ay t b.length then some (b.getD t.toNat aG)>>=λa=>if (a.Kind=1:Bool) then if v.bS then some ([1],b,t19)else some ([],b,t19)else if (a.Kind=2:Bool) then vY v.bg>>=λr=>zK r>>=λq=>some (q,b,t19)else if (a.Kind=3:Bool) then some (v.bt,b,t19)else if (a.Kind=4:Bool) then zK (bY .u64 v.ad)>>=λP=>some (P,b,t19)else if (a.Kind=5:Bool) then Dg (a,I.eta v,e,b,t19)>>=λw=>some (w.1,w.2.1,w.2.2)else if (a.Kind=6:Bool) then yZ (a,I.eta v,e,b,t19)>>=λA=>some (A.1,A.2.1,A.2.2)else if (a.Kind=9:Bool) then if ((v.ag.length:Int)=0:Bool) then some ([],b,t19)else if ay 0 v.ag.length then kg (a.aD,I.eta (v.ag.getD (0:Int).toNat ar),aK .i64 e 1,b,t19)>>=λF=>if ([1].length+F.1.length<=eE:Bool) then some ([1]++F.1,F.2.1,F.2.2)else none else none else mh (e,v.ag,(v.ag.length:Int),0,b,t19,I.eta v,a,[])>>=λo=>zn o.2.2>>=λX=>some (X,o.1,o.2.1)else none
  partial_fixpoint
def Dg:ai×I×Int×List ai×Int->Option (aj×List ai×Int)
 |(a,v,e,b,x)=>
 q6 (e,a.af,(a.af.length:Int),0,b,x,I.eta v,[])>>=λo=>q5 (o.2.2.1.Rest,(o.2.2.1.Rest.length:Int),0,o.1,o.2.1,o.2.2.2)>>=λE=>H4 E.2.2>>=λr=>if((r.length=E.2.2.length:Bool)&&true) then tH ((r.length:Int),0,E.1,E.2.1,r,[])>>=λN=>zn N.2.2>>=λq=>some (q,N.1,N.2.1)else none
  partial_fixpoint
def yZ:ai×I×Int×List ai×Int->Option (aj×List ai×Int)
 |(a,v,e,b,x)=>
 qg (bY .u64 v.ad)>>=λr=>gr (a,v.ad)>>=λq=>if !q.2 then if ay 0 v.Rest.length then some (v.Rest.getD (0:Int).toNat bP)>>=λc=>if (r.length+c.Data.length<=eE:Bool) then some (r++c.Data,b,x)else none else none else if ay q.1 a.af.length then if ay 0 v.ag.length then kg ((a.af.getD q.1.toNat aw).av,I.eta (v.ag.getD (0:Int).toNat ar),aK .i64 e 1,b,x)>>=λG=>if (r.length+G.1.length<=eE:Bool) then some (r++G.1,G.2.1,G.2.2)else none else none else none
  partial_fixpoint
def mh:Int×List I×Int×Int×List ai×Int×I×ai×aj->Option (List ai×Int×aj)
 |(f,t84,U,t86,K,L,D,y,M)=>
 if (t86<U:Bool) then if ay t86 t84.length then some (t84.getD t86.toNat ar)>>=λW=>if (y.Kind=8:Bool) then if ay t86 D.aB.length then kg (y.Key,I.eta (D.aB.getD t86.toNat ar),aK .i64 f 1,K,L)>>=λO=>rV O.1>>=λY=>sY (Y,M)>>=λZ=>kg (y.aD,I.eta W,aK .i64 f 1,O.2.1,O.2.2)>>=λQ=>rV Q.1>>=λah=>sY (ah,Z.2)>>=λam=>mh (f,t84,U,aK .i64 t86 1,Q.2.1,Q.2.2,I.eta D,y,am.2)else none else kg (y.aD,I.eta W,aK .i64 f 1,K,L)>>=λR=>rV R.1>>=λan=>sY (an,M)>>=λap=>mh (f,t84,U,aK .i64 t86 1,R.2.1,R.2.2,I.eta D,y,ap.2)else none else some (K,L,M)
  partial_fixpoint
def q6:Int×List aR×Int×Int×List ai×Int×I×List gu->Option (List ai×Int×I×List gu)
 |(f,t18,S,t20,H,J,p,B)=>
 if (t20<S:Bool) then if ay t20 t18.length then some (t18.getD t20.toNat aw)>>=λc=>if ay t20 p.ag.length then D0 ((⟨c.ad,c.Name,c.av,c.b8,c.bu,I.eta c.bm⟩:aR),I.eta (p.ag.getD t20.toNat ar))>>=λP=>if !P then if ay t20 p.ag.length then kg (c.av,I.eta (p.ag.getD t20.toNat ar),aK .i64 f 1,H,J)>>=λw=>wa (c.ad,c.b8,w.1)>>=λA=>some [(⟨c.ad,A⟩:gu)]>>=λt53=>if room 24 (B++t53).length then q6 (f,t18,S,aK .i64 t20 1,w.2.1,w.2.2,I.eta p,B++t53)else none else none else q6 (f,t18,S,aK .i64 t20 1,H,J,I.eta p,B)else none else none else some (H,J,I.eta p,B)
  partial_fixpoint
end
theorem VM:dD qU kg/\dN 145 1 [0] Bs mh/\dD Ci yZ/\dD Ch Dg/\dN 189 1 [0] Br q6:=kg.mutual_partial_correctness (dB qU) (dM 145 1 [0] Bs) (dB Ci) (dB Ch) (dM 189 1 [0] Br)
 (λ_ _ _ _ h0 h1 b c _ _ h=>dH h (.k K1 (.k ZP (.k (b5 Ch c) (.k (b5 Ci b) (.k (b5 qU h0) (.k Vm .n)))))) (.k (dX Bs h1) .n))
 (λ_ _ h0 h1 _ _ h=>dW Bs h1 h (.k (b5 qU h0) (.k L6 (.k Vk .n))))
 (λ_ h0 _ _ h=>dH h (.k Am (.k l3 (.k (b5 qU h0) .n))))
 (λ_ a _ _ h=>dH h (.k HK (.k Vm .n)) (.k (dX Br a) (.k VK (.k VL .n))))
 (λ_ _ h0 a _ _ h=>dW Br a h (.k X8 (.k (b5 qU h0) (.k HM .n))))
theorem WN:aX qU kg:=b5 _ VM.1
def l7:aO×Int×I->Option (aj×Int)
 |(s,t,v)=>
 tG ((⟨s.Types⟩:aO),t,I.eta v)>>=λr=>if !(r=0:Bool) then some ([],r)else kg (t,I.eta v,1,s.Types,0)>>=λa=>if(bif (4096<(a.1.length:Int):Bool)then true else (200<a.2.2:Bool)) then some ([],3)else some (a.1,0)
theorem K5:aX B9 l7:= .bd (.k X7 (.k WN .n))
def DD:Int×Bool×aj->Option (aj×Int)
 |(id,b,a)=>
 if(bif (id<1:Bool)then true else (1000<id:Bool)) then some ([],7)else if (4096<(a.length:Int):Bool) then some ([],3)else wa (id,b,a)>>=λr=>some (r,0)
theorem Ze:aX TQ DD:= .bd (.k HM .n)
def v7(p:aj):Option aj:=
 qg (bY .u64 (p.length:Int))>>=λr=>if (r.length+p.length<=eE:Bool) then some (r++p)else none
theorem ZN:aX TR v7:= .bd (.k Am .n)
mutual
def lr:aO×Int×I->Option aj
 |(s,t,v)=>
 if ay t s.Types.length then some (s.Types.getD t.toNat aG)>>=λa=>if (a.Kind=5:Bool) then ri ([],a.af,(a.af.length:Int),0,s.Types,I.eta v)>>=λo=>some o else if (a.Kind=6:Bool) then gr (a,v.ad)>>=λr=>qg (bY .u64 v.ad)>>=λK=>if ay r.1 a.af.length then if ay 0 v.ag.length then lr (s,(a.af.getD r.1.toNat aw).av,I.eta (v.ag.getD (0:Int).toNat ar))>>=λL=>if (K.length+L.length<=eE:Bool) then some (K++L)else none else none else none else if (a.Kind=9:Bool) then wx ([],v.ag,(v.ag.length:Int),0,s.Types,a)>>=λO=>some O else some (decide (a.Kind=7))>>=λt115=>if t115 then if t115 then lp ([],v.ag,(v.ag.length:Int),0,s.Types,I.eta v,a)>>=λP=>some P else l7 (s,t,I.eta v)>>=λZ=>some Z.1 else if (a.Kind=8:Bool) then lp ([],v.ag,(v.ag.length:Int),0,s.Types,I.eta v,a)>>=λQ=>some Q else l7 (s,t,I.eta v)>>=λah=>some ah.1 else none
  partial_fixpoint
def ri:aj×List aR×Int×Int×List ai×I->Option aj
 |(x,t36,A,t38,b,f)=>
 if (t38<A:Bool) then if ay t38 t36.length then some (t36.getD t38.toNat aw)>>=λc=>if ay t38 f.ag.length then tm ((⟨c.ad,c.Name,c.av,c.b8,c.bu,I.eta c.bm⟩:aR),I.eta (f.ag.getD t38.toNat ar))>>=λS=>if !S then if ay t38 f.ag.length then lr ((⟨b⟩:aO),c.av,I.eta (f.ag.getD t38.toNat ar))>>=λU=>DD (c.ad,c.b8,U)>>=λE=>if (x.length+E.1.length<=eE:Bool) then ri (x++E.1,t36,A,aK .i64 t38 1,b,I.eta f)else none else none else ri (x,t36,A,aK .i64 t38 1,b,I.eta f)else none else none else some x
  partial_fixpoint
def wx:aj×List I×Int×Int×List ai×ai->Option aj
 |(R,t101,M,t103,B,D)=>
 if (t103<M:Bool) then if ay t103 t101.length then lr ((⟨B⟩:aO),D.aD,I.eta (t101.getD t103.toNat ar))>>=λF=>if ([1].length+F.length<=eE:Bool) then wx ([1]++F,t101,M,aK .i64 t103 1,B,D)else none else none else some R
  partial_fixpoint
def lp:aj×List I×Int×Int×List ai×I×ai->Option aj
 |(q,t118,y,t120,p,w,j)=>
 if (t120<y:Bool) then if ay t120 t118.length then some (t118.getD t120.toNat ar)>>=λN=>if (j.Kind=8:Bool) then if ay t120 w.aB.length then lr ((⟨p⟩:aO),j.Key,I.eta (w.aB.getD t120.toNat ar))>>=λW=>v7 W>>=λG=>if (q.length+G.length<=eE:Bool) then some (q++G)>>=λt139=>lr ((⟨p⟩:aO),j.aD,I.eta N)>>=λX=>v7 X>>=λH=>if (t139.length+H.length<=eE:Bool) then lp (t139++H,t118,y,aK .i64 t120 1,p,I.eta w,j)else none else none else none else lr ((⟨p⟩:aO),j.aD,I.eta N)>>=λY=>v7 Y>>=λJ=>if (q.length+J.length<=eE:Bool) then lp (q++J,t118,y,aK .i64 t120 1,p,I.eta w,j)else none else none else some q
  partial_fixpoint
end
theorem Xp:dD qV lr/\dN 222 0 [2] Bw lp/\dN 222 0 [1] Bv wx/\dN 222 0 [0] Bt ri:=lr.mutual_partial_correctness (dB qV) (dM 222 0 [2] Bw) (dM 222 0 [1] Bv) (dM 222 0 [0] Bt)
 (λ_ _ _ _ h0 h1 a b _ _ h=>dH h (.k l3 (.k Am (.k (b5 qV h0) (.k K5 .n)))) (.k (dX Bt b) (.k (dX Bv a) (.k (dX Bw h1) .n))))
 (λ_ _ h0 h1 _ _ h=>dW Bw h1 h (.k (b5 qV h0) (.k ZN .n)))
 (λ_ _ h0 a _ _ h=>dW Bv a h (.k (b5 qV h0) .n))
 (λ_ _ h0 b _ _ h=>dW Bt b h (.k HX (.k (b5 qV h0) (.k Ze .n))))
theorem Lt:aX qV lr:=b5 _ Xp.1
def n0:List aR×Int×Int×List ai×List ai×ao×I×ai×Int×Bool×Int×aj×Int×Int×Bool×Int×aj×Int×ao×List I×List bQ->Option ((Bool×List ai×List ai×I×ao×ao) ⊕ (List ai×List ai×ao×Int×Bool×Int×aj×Int×Int×Bool×Int×aj×Int×ao×List I×List bQ))
 |(t115,v,t117,c,e,f,b,j,k,l,m,n,o,p,q,r,s,t,g,u,i)=>
 if (t117<v:Bool) then if ay t117 t115.length then some (t115.getD t117.toNat aw)>>=λa=>gr (j,a.ad)>>=λw=>if w.2 then n0 (t115,v,aK .i64 t117 1,c,e,f,I.eta b,j,k,l,m,n,o,p,q,r,s,t,g,u,i)else if a.b8 then wo (a.ad,c,e,f,g)>>=λd=>some (.inl (d.2.1,d.2.2.1,d.2.2.2.1,I.eta d.1,d.2.2.2.2.1,d.2.2.2.2.2))else if ay t117 b.ag.length then tm ((⟨a.ad,a.Name,a.av,a.b8,a.bu,I.eta a.bm⟩:aR),I.eta (b.ag.getD t117.toNat ar))>>=λx=>if !x then if ay t117 b.ag.length then lr ((⟨c⟩:aO),a.av,I.eta (b.ag.getD t117.toNat ar))>>=λy=>some [(⟨a.ad,y⟩:bQ)]>>=λt163=>if room 24 (i++t163).length then n0 (t115,v,aK .i64 t117 1,c,e,f,I.eta b,j,k,l,m,n,o,p,q,r,s,t,g,u,i++t163)else none else none else n0 (t115,v,aK .i64 t117 1,c,e,f,I.eta b,j,k,l,m,n,o,p,q,r,s,t,g,u,i)else none else none else some (.inr (c,e,f,k,l,m,n,o,p,q,r,s,t,g,u,i))
  partial_fixpoint
theorem VT:cG 183 2 [1] QZ n0:= .rx n0.partial_correctness (.k l3 (.k Vp (.k HX (.k Lt .n))))
mutual
def rl:Int×Int×I×Int×List ai×List ai×ao×ao->Option (I×Bool×List ai×List ai×ao×ao)
 |(step,wt,v,rt,b,f,p,j)=>
 some [step]>>=λt20=>if room 8 (j++t20).length then tn (wt,I.eta v,rt,b,f,p,j++t20)>>=λr=>some (di .i64 (r.2.2.2.2.2.length:Int) 1)>>=λt42=>if d' 0 t42 r.2.2.2.2.2.length then if (t42.toNat<=r.2.2.2.2.2.length:Bool) then some (I.eta r.1,r.2.1,r.2.2.1,r.2.2.2.1,r.2.2.2.2.1,r.2.2.2.2.2.take t42.toNat)else none else none else none
  partial_fixpoint
def oi(t:Int×List I×Int×List ai×List ai×ao×ao):Option (List I×Bool×List ai×List ai×ao×ao):=
 match t with
 |(wt,l,rt,b,f,p,j)=>
 tM (wt,rt,l,(l.length:Int),0,b,f,p,[],j)>>=λo=>match o with
 |.inl w=>
 some ([],w.1,w.2.1,w.2.2.1,w.2.2.2.1,w.2.2.2.2)
 |.inr e=>
 some (e.2.2.2.1,true,e.1,e.2.1,e.2.2.1,e.2.2.2.2)
  partial_fixpoint
def tn:Int×I×Int×List ai×List ai×ao×ao->Option (I×Bool×List ai×List ai×ao×ao)
 |(wt,v,rt,b,f,p,j)=>
 if ay wt b.length then some (b.getD wt.toNat aG)>>=λc=>if ay rt f.length then some (f.getD rt.toNat aG)>>=λa=>if !(c.Kind=a.Kind:Bool) then tj (b,f,p,j)>>=λr=>some (I.eta r.1,r.2.1,r.2.2.1,r.2.2.2.1,r.2.2.2.2.2,r.2.2.2.2.1)else
 let bT:=λcS=>
 if !cS then tj (b,f,p,j)>>=λW=>some (I.eta W.1,W.2.1,W.2.2.1,W.2.2.2.1,W.2.2.2.2.2,W.2.2.2.2.1)else if (c.Kind=5:Bool) then y0 (c,I.eta v,a,b,f,p,j)>>=λP=>some (I.eta P.1,P.2.1,P.2.2.1,P.2.2.2.1,P.2.2.2.2.1,P.2.2.2.2.2)else if (c.Kind=6:Bool) then y6 (c,I.eta v,a,b,f,p,j)>>=λQ=>some (I.eta Q.1,Q.2.1,Q.2.2.1,Q.2.2.2.1,Q.2.2.2.2.1,Q.2.2.2.2.2)else if (c.Kind=8:Bool) then oi (c.Key,v.aB,a.Key,b,f,p,j)>>=λD=>if !D.2.1 then some ((⟨0,false,0,[],0,[],[],[]⟩:I),false,D.2.2.1,D.2.2.2.1,D.2.2.2.2.1,D.2.2.2.2.2)else oi (c.aD,v.ag,a.aD,D.2.2.1,D.2.2.2.1,D.2.2.2.2.1,D.2.2.2.2.2)>>=λG=>if !G.2.1 then some ((⟨0,false,0,[],0,[],[],[]⟩:I),false,G.2.2.1,G.2.2.2.1,G.2.2.2.2.1,G.2.2.2.2.2)else some ((⟨v.Kind,v.bS,v.bg,v.bt,v.ad,D.1,G.1,[]⟩:I),true,G.2.2.1,G.2.2.2.1,G.2.2.2.2.1,G.2.2.2.2.2)else oi (c.aD,v.ag,a.aD,b,f,p,j)>>=λH=>if !H.2.1 then some ((⟨0,false,0,[],0,[],[],[]⟩:I),false,H.2.2.1,H.2.2.2.1,H.2.2.2.2.1,H.2.2.2.2.2)else some ((⟨v.Kind,v.bS,v.bg,v.bt,v.ad,[],H.1,[]⟩:I),true,H.2.2.1,H.2.2.2.1,H.2.2.2.2.1,H.2.2.2.2.2)
 if (c.Kind=2:Bool) then bT (bif decide (a.bJ<=v.bg)then decide (v.bg<=a.bN)else false)else
 let bD:=λcs=>
 bT cs
 if (c.Kind=3:Bool) then bD (decide ((v.bt.length:Int)<=a.Max))else if (c.Kind=4:Bool) then s9 (a,v.ad)>>=λci=>bD (bif ci.2 then true else a.Open)else some (decide (c.Kind=7))>>=λt91=>
 let bv:=λcq=>
 let bs:=λ(_:Unit)=>
 if (c.Kind=5:Bool) then y0 (c,I.eta v,a,b,f,p,j)>>=λS=>some (I.eta S.1,S.2.1,S.2.2.1,S.2.2.2.1,S.2.2.2.2.1,S.2.2.2.2.2)else if (c.Kind=6:Bool) then y6 (c,I.eta v,a,b,f,p,j)>>=λU=>some (I.eta U.1,U.2.1,U.2.2.1,U.2.2.2.1,U.2.2.2.2.1,U.2.2.2.2.2)else if (c.Kind=8:Bool) then oi (c.Key,v.aB,a.Key,b,f,p,j)>>=λA=>if !A.2.1 then some ((⟨0,false,0,[],0,[],[],[]⟩:I),false,A.2.2.1,A.2.2.2.1,A.2.2.2.2.1,A.2.2.2.2.2)else oi (c.aD,v.ag,a.aD,A.2.2.1,A.2.2.2.1,A.2.2.2.2.1,A.2.2.2.2.2)>>=λB=>if !B.2.1 then some ((⟨0,false,0,[],0,[],[],[]⟩:I),false,B.2.2.1,B.2.2.2.1,B.2.2.2.2.1,B.2.2.2.2.2)else some ((⟨v.Kind,v.bS,v.bg,v.bt,v.ad,A.1,B.1,[]⟩:I),true,B.2.2.1,B.2.2.2.1,B.2.2.2.2.1,B.2.2.2.2.2)else oi (c.aD,v.ag,a.aD,b,f,p,j)>>=λE=>if !E.2.1 then some ((⟨0,false,0,[],0,[],[],[]⟩:I),false,E.2.2.1,E.2.2.2.1,E.2.2.2.2.1,E.2.2.2.2.2)else some ((⟨v.Kind,v.bS,v.bg,v.bt,v.ad,[],E.1,[]⟩:I),true,E.2.2.1,E.2.2.2.1,E.2.2.2.2.1,E.2.2.2.2.2)
 if cq then if !((v.ag.length:Int)<=a.Max:Bool) then tj (b,f,p,j)>>=λR=>some (I.eta R.1,R.2.1,R.2.2.1,R.2.2.2.1,R.2.2.2.2.2,R.2.2.2.2.1)else bs ()else bs ()
 if t91 then bv t91 else bv (decide (c.Kind=8))else none else none
  partial_fixpoint
def y0(t:ai×I×ai×List ai×List ai×ao×ao):Option (I×Bool×List ai×List ai×ao×ao):=
 match t with
 |(c,v,y,b,f,p,j)=>
 pz (y.af,(y.af.length:Int),0,b,f,p,c,I.eta v,y,0,false,0,[],0,v.Kind,false,0,[],0,j,[])>>=λo=>match o with
 |.inl w=>
 some (I.eta w.2.2.2.2.1,w.1,w.2.1,w.2.2.1,w.2.2.2.1,w.2.2.2.2.2)
 |.inr e=>
 n0 (e.2.2.2.1.af,(e.2.2.2.1.af.length:Int),0,e.1,e.2.1,e.2.2.1,I.eta e.2.2.2.2.1,e.2.2.2.2.2.1,e.2.2.2.2.2.2.1,e.2.2.2.2.2.2.2.1,e.2.2.2.2.2.2.2.2.1,e.2.2.2.2.2.2.2.2.2.1,e.2.2.2.2.2.2.2.2.2.2.1,e.2.2.2.2.2.2.2.2.2.2.2.1,e.2.2.2.2.2.2.2.2.2.2.2.2.1,e.2.2.2.2.2.2.2.2.2.2.2.2.2.1,e.2.2.2.2.2.2.2.2.2.2.2.2.2.2.1,e.2.2.2.2.2.2.2.2.2.2.2.2.2.2.2.1,e.2.2.2.2.2.2.2.2.2.2.2.2.2.2.2.2.1,e.2.2.2.2.2.2.2.2.2.2.2.2.2.2.2.2.2,[])>>=λb4=>match b4 with
 |.inl N=>
 some (I.eta N.2.2.2.1,N.1,N.2.1,N.2.2.1,N.2.2.2.2.2,N.2.2.2.2.1)
 |.inr x=>
 some ((⟨x.2.2.2.2.2.2.2.2.1,x.2.2.2.2.2.2.2.2.2.1,x.2.2.2.2.2.2.2.2.2.2.1,x.2.2.2.2.2.2.2.2.2.2.2.1,x.2.2.2.2.2.2.2.2.2.2.2.2.1,[],x.2.2.2.2.2.2.2.2.2.2.2.2.2.2.1,x.2.2.2.2.2.2.2.2.2.2.2.2.2.2.2⟩:I),true,x.1,x.2.1,x.2.2.1,x.2.2.2.2.2.2.2.2.2.2.2.2.2.1)
  partial_fixpoint
def y6:ai×I×ai×List ai×List ai×ao×ao->Option (I×Bool×List ai×List ai×ao×ao)
 |(c,v,y,b,f,p,j)=>
 gr (c,v.ad)>>=λr=>gr (y,v.ad)>>=λF=>if F.2 then if ay r.1 c.af.length then if ay 0 v.ag.length then if ay F.1 y.af.length then rl (v.ad,(c.af.getD r.1.toNat aw).av,I.eta (v.ag.getD (0:Int).toNat ar),(y.af.getD F.1.toNat aw).av,b,f,p,j)>>=λJ=>if !J.2.1 then some ((⟨0,false,0,[],0,[],[],[]⟩:I),false,J.2.2.1,J.2.2.2.1,J.2.2.2.2.1,J.2.2.2.2.2)else some ((⟨v.Kind,false,0,[],v.ad,[],[I.eta J.1],[]⟩:I),true,J.2.2.1,J.2.2.2.1,J.2.2.2.2.1,J.2.2.2.2.2)else none else none else none else if !y.Open then tj (b,f,p,j)>>=λO=>some (I.eta O.1,O.2.1,O.2.2.1,O.2.2.2.1,O.2.2.2.2.2,O.2.2.2.2.1)else if ay r.1 c.af.length then if ay 0 v.ag.length then lr ((⟨b⟩:aO),(c.af.getD r.1.toNat aw).av,I.eta (v.ag.getD (0:Int).toNat ar))>>=λL=>some ((⟨v.Kind,false,0,[],v.ad,[],[],[(⟨v.ad,L⟩:bQ)]⟩:I),true,b,f,p,j)else none else none
  partial_fixpoint
def tM:Int×Int×List I×Int×Int×List ai×List ai×ao×List I×ao->Option ((Bool×List ai×List ai×ao×ao) ⊕ (List ai×List ai×ao×List I×ao))
 |(b3,b1,t15,b2,t17,be,bf,bi,ap,br)=>
 if (t17<b2:Bool) then if ay t17 t15.length then rl (t17,b3,I.eta (t15.getD t17.toNat ar),b1,be,bf,bi,br)>>=λr=>if !r.2.1 then some (.inl (false,r.2.2.1,r.2.2.2.1,r.2.2.2.2.1,r.2.2.2.2.2))else some [I.eta r.1]>>=λt35=>if room 120 (ap++t35).length then tM (b3,b1,t15,b2,aK .i64 t17 1,r.2.2.1,r.2.2.2.1,r.2.2.2.2.1,ap++t35,r.2.2.2.2.2)else none else none else some (.inr (be,bf,bi,ap,br))
  partial_fixpoint
def pz:List aR×Int×Int×List ai×List ai×ao×ai×I×ai×Int×Bool×Int×aj×Int×Int×Bool×Int×aj×Int×ao×List I->Option ((Bool×List ai×List ai×ao×I×ao) ⊕ (List ai×List ai×ao×ai×I×ai×Int×Bool×Int×aj×Int×Int×Bool×Int×aj×Int×ao×List I))
 |(t25,bb,t27,Z,ah,am,K,M,ax,aC,aE,aL,a0,a1,a2,a3,a4,a5,a9,an,Y)=>
 if (t27<bb:Bool) then if ay t27 t25.length then some (t25.getD t27.toNat aw)>>=λa=>gr (K,a.ad)>>=λr=>if !r.2 then if !a.bu then wo (a.ad,Z,ah,am,an)>>=λF=>some (.inl (F.2.1,F.2.2.1,F.2.2.2.1,F.2.2.2.2.2,I.eta F.1,F.2.2.2.2.1))else km (I.eta a.bm)>>=λb7=>some [I.eta b7]>>=λt54=>if room 120 (Y++t54).length then pz (t25,bb,aK .i64 t27 1,Z,ah,am,K,I.eta M,ax,aC,aE,aL,a0,a1,a2,a3,a4,a5,a9,an,Y++t54)else none else if ay r.1 K.af.length then if ay r.1 M.ag.length then rl (a.ad,(K.af.getD r.1.toNat aw).av,I.eta (M.ag.getD r.1.toNat ar),a.av,Z,ah,am,an)>>=λq=>if ay r.1 K.af.length then some (K.af.getD r.1.toNat aw)>>=λX=>if ay r.1 M.ag.length then tm ((⟨X.ad,X.Name,X.av,X.b8,X.bu,I.eta X.bm⟩:aR),I.eta (M.ag.getD r.1.toNat ar))>>=λb0=>some (!q.2.1)>>=λt90=>(if(b0&&(!t90)) then tm ((⟨a.ad,a.Name,a.av,a.b8,a.bu,I.eta a.bm⟩:aR),I.eta q.1)else some false)>>=λce=>if(bif b0 then bif t90 then true else(!ce)else false) then wo (a.ad,q.2.2.1,q.2.2.2.1,q.2.2.2.2.1,q.2.2.2.2.2)>>=λL=>some (.inl (L.2.1,L.2.2.1,L.2.2.2.1,L.2.2.2.2.2,I.eta L.1,L.2.2.2.2.1))else if !q.2.1 then some (.inl (false,q.2.2.1,q.2.2.2.1,q.2.2.2.2.1,(⟨0,false,0,[],0,[],[],[]⟩:I),q.2.2.2.2.2))else some [I.eta q.1]>>=λt110=>if room 120 (Y++t110).length then pz (t25,bb,aK .i64 t27 1,q.2.2.1,q.2.2.2.1,q.2.2.2.2.1,K,I.eta M,ax,aC,aE,aL,a0,a1,a2,a3,a4,a5,a9,q.2.2.2.2.2,Y++t110)else none else none else none else none else none else none else some (.inr (Z,ah,am,K,I.eta M,ax,aC,aE,aL,a0,a1,a2,a3,a4,a5,a9,an,Y))
  partial_fixpoint
end
theorem WA:dD vt rl/\dD ya tn/\dD Cg oi/\dN 185 2 [0] By tM/\dD Cf y6/\dD Ce y0/\dN 183 2 [0] Bx pz:=rl.mutual_partial_correctness (dB vt) (dB ya) (dB Cg) (dM 185 2 [0] By) (dB Cf) (dB Ce) (dM 183 2 [0] Bx)
 (λ_ h1 _ _ h=>dH h (.k (b5 ya h1) .n))
 (λ_ _ _ c d bf _ _ h=>dH h (.k Lf (.k (b5 Ce bf) (.k (b5 Cf d) (.k (b5 Cg c) (.k DY .n))))))
 (λ_ a _ _ h=>dH h .n (.k (dX By a) .n))
 (λ_ _ h0 a _ _ h=>dW By a h (.k (b5 vt h0) .n))
 (λ_ h0 _ _ h=>dH h (.k l3 (.k (b5 vt h0) (.k Lf (.k Lt .n)))))
 (λ_ b _ _ h=>dH h .n (.k (dX Bx b) (.k VT .n)))
 (λ_ _ h0 b _ _ h=>dW Bx b h (.k l3 (.k Vp (.k Yx (.k (b5 vt h0) (.k HX .n))))))
theorem Xq:aX ya tn:=b5 _ WA.2.1
def zY:aO×Int×I×aO×Int->Option (I×Int)
 |(w,wt,v,r,rt)=>
 Dv (w,wt,I.eta v,r,rt)>>=λa=>if !(a=0:Bool) then some ((⟨0,false,0,[],0,[],[],[]⟩:I),a)else tn (wt,I.eta v,rt,w.Types,r.Types,[],[])>>=λb=>if !b.2.1 then some ((⟨0,false,0,[],0,[],[],[]⟩:I),12)else some (I.eta b.1,0)
theorem Yb:aX B8 zY:= .bd (.k ZK (.k Xq .n))
def pO:da×da×aj->Option (eU×Int)
 |(w,r,m)=>
 ta (w.cC,w.av,m)>>=λa=>if !(a.2=0:Bool) then some ((⟨(⟨0,false,0,[],0,[],[],[]⟩:I),(⟨0,false,0,[],0,[],[],[]⟩:I),[]⟩:eU),12)else wg (w.cC,w.av,I.eta a.1)>>=λe=>if !(e.2=0:Bool) then some ((⟨(⟨0,false,0,[],0,[],[],[]⟩:I),(⟨0,false,0,[],0,[],[],[]⟩:I),[]⟩:eU),12)else zY (w.cC,w.av,I.eta e.1,r.cC,r.av)>>=λf=>if !(f.2=0:Bool) then some ((⟨(⟨0,false,0,[],0,[],[],[]⟩:I),(⟨0,false,0,[],0,[],[],[]⟩:I),[]⟩:eU),12)else l7 (w.cC,w.av,I.eta a.1)>>=λc=>if !(c.2=0:Bool) then some ((⟨(⟨0,false,0,[],0,[],[],[]⟩:I),(⟨0,false,0,[],0,[],[],[]⟩:I),[]⟩:eU),3)else ta (r.cC,r.av,c.1)>>=λb=>if !(b.2=0:Bool) then some ((⟨(⟨0,false,0,[],0,[],[],[]⟩:I),(⟨0,false,0,[],0,[],[],[]⟩:I),[]⟩:eU),12)else l7 (r.cC,r.av,I.eta b.1)>>=λd=>if !(d.2=0:Bool) then some ((⟨(⟨0,false,0,[],0,[],[],[]⟩:I),(⟨0,false,0,[],0,[],[],[]⟩:I),[]⟩:eU),3)else some ((⟨I.eta a.1,I.eta b.1,d.1⟩:eU),0)
theorem Yc:aX F4 pO:= .bd (.k ZF (.k YW (.k Yb (.k K5 .n))))
def nr:da×da×aj->Option (eU×Int)
 |(w,r,m)=>
 Dt [w,r]>>=λb=>if !(b=0:Bool) then some ((⟨(⟨0,false,0,[],0,[],[],[]⟩:I),(⟨0,false,0,[],0,[],[],[]⟩:I),[]⟩:eU),b)else pO (w,r,m)>>=λa=>some ((⟨I.eta a.1.v,I.eta a.1.u,a.1.message⟩:eU),a.2)
theorem Mg:aX F1 nr:= .bd (.k Zz (.k Yc .n))
def HT:bQ×aR->Option (Bool×aR)
 |(f,b)=>
 some (decide (f.ad=b.ad),(⟨b.ad,b.Name,b.av,b.b8,b.bu,I.eta b.bm⟩:aR))
theorem VU:aX SX HT:= .bd
def pr:List bQ×Int×Int×aR->Option ((Int×aR) ⊕ (aR))
 |(b,c,t8,a)=>
 if (t8<c:Bool) then if ay t8 b.length then HT (b.getD t8.toNat bP,(⟨a.ad,a.Name,a.av,a.b8,a.bu,I.eta a.bm⟩:aR))>>=λr=>if r.1 then some (.inl (t8,(⟨r.2.ad,r.2.Name,r.2.av,r.2.b8,r.2.bu,I.eta r.2.bm⟩:aR)))else pr (b,c,aK .i64 t8 1,(⟨r.2.ad,r.2.Name,r.2.av,r.2.b8,r.2.bu,I.eta r.2.bm⟩:aR))else none else some (.inr (⟨a.ad,a.Name,a.av,a.b8,a.bu,I.eta a.bm⟩:aR))
  partial_fixpoint
theorem Wa:cG 168 1 [0] Q0 pr:= .rx pr.partial_correctness (.k VU .n)
def HR(d:List bQ×aR):Option (Int×aR):=
 match d with
 |(s,b)=>
 pr (s,(s.length:Int),0,(⟨b.ad,b.Name,b.av,b.b8,b.bu,I.eta b.bm⟩:aR))>>=λo=>match o with
 |.inl a=>
 some (a.1,(⟨a.2.ad,a.2.Name,a.2.av,a.2.b8,a.2.bu,I.eta a.2.bm⟩:aR))
 |.inr c=>
 some ((-1),(⟨c.ad,c.Name,c.av,c.b8,c.bu,I.eta c.bm⟩:aR))
theorem Wd:aX S4 HR:= .bd .n (.k Wa .n)
def C':List bQ×aR->Option (Bool×aR)
 |(s,b)=>
 HR (s,(⟨b.ad,b.Name,b.av,b.b8,b.bu,I.eta b.bm⟩:aR))>>=λr=>some (decide (0<=r.1),(⟨r.2.ad,r.2.Name,r.2.av,r.2.b8,r.2.bu,I.eta r.2.bm⟩:aR))
theorem Wb:aX SV C':= .bd (.k Wd .n)
def rW:ao×Int->Option ao
 |(path,n)=>
 eO 8 path>>=λr=>some [n]>>=λt8=>if room 8 (r++t8).length then some (r++t8)else none
theorem HN:aX Ul rW:= .bd (.k oe .n)
mutual
def Dh:ai×I×ai×I×ao×List ai×List ai×List ao->Option (List ai×List ai×List ao)
 |(x,v,y,u,path,b,q,B)=>
 iX (path,y.af,(y.af.length:Int),0,b,q,x,I.eta v,I.eta u,B)>>=λo=>some (o.1,o.2.1,o.2.2)
  partial_fixpoint
def kU:Int×I×Int×I×ao×List ai×List ai×List ao->Option (List ai×List ai×List ao)
 |(wt,v,rt,u,path,b,q,B)=>
 if ay wt b.length then some (b.getD wt.toNat aG)>>=λx=>if ay rt q.length then some (q.getD rt.toNat aG)>>=λa=>if (a.Kind=5:Bool) then Dh (x,I.eta v,a,I.eta u,path,b,q,B)>>=λr=>some (r.1,r.2.1,r.2.2)else if (a.Kind=6:Bool) then gr (x,u.ad)>>=λH=>gr (a,u.ad)>>=λD=>if(bif H.2 then D.2 else false) then if ay H.1 x.af.length then if ay 0 v.ag.length then if ay D.1 a.af.length then if ay 0 u.ag.length then rW (path,u.ad)>>=λO=>kU ((x.af.getD H.1.toNat aw).av,I.eta (v.ag.getD (0:Int).toNat ar),(a.af.getD D.1.toNat aw).av,I.eta (u.ag.getD (0:Int).toNat ar),O,b,q,B)>>=λF=>some (F.1,F.2.1,F.2.2)else none else none else none else none else some (b,q,B)else tN (path,(u.ag.length:Int),0,b,q,I.eta v,I.eta u,x,a,B)>>=λo=>some (o.1,o.2.1,o.2.2)else none else none
  partial_fixpoint
def iX:ao×List aR×Int×Int×List ai×List ai×ai×I×I×List ao->Option (List ai×List ai×List ao)
 |(p,t18,E,t20,t,w,e,c,f,j)=>
 if (t20<E:Bool) then if ay t20 t18.length then some (t18.getD t20.toNat aw)>>=λa=>gr (e,a.ad)>>=λr=>if !r.2 then C' (c.Rest,(⟨a.ad,a.Name,a.av,a.b8,a.bu,I.eta a.bm⟩:aR))>>=λM=>if !M.1 then rW (p,M.2.ad)>>=λQ=>some [Q]>>=λt48=>if room 24 (j++t48).length then iX (p,t18,E,aK .i64 t20 1,t,w,e,I.eta c,I.eta f,j++t48)else none else iX (p,t18,E,aK .i64 t20 1,t,w,e,I.eta c,I.eta f,j)else if ay r.1 e.af.length then some (e.af.getD r.1.toNat aw)>>=λK=>some (!K.bu)>>=λt59=>if(ay r.1 c.ag.length||(!(!t59))) then (if !t59 then nq (I.eta (c.ag.getD r.1.toNat ar),I.eta K.bm)else some false)>>=λD=>if(bif t59 then true else(!D)) then if ay r.1 c.ag.length then if ay t20 f.ag.length then rW (p,a.ad)>>=λR=>kU (K.av,I.eta (c.ag.getD r.1.toNat ar),a.av,I.eta (f.ag.getD t20.toNat ar),R,t,w,j)>>=λJ=>iX (p,t18,E,aK .i64 t20 1,J.1,J.2.1,e,I.eta c,I.eta f,J.2.2)else none else none else iX (p,t18,E,aK .i64 t20 1,t,w,e,I.eta c,I.eta f,j)else none else none else none else some (t,w,j)
  partial_fixpoint
def tN:ao×Int×Int×List ai×List ai×I×I×ai×ai×List ao->Option (List ai×List ai×List ao)
 |(p,N,t40,t,w,e,c,f,j,L)=>
 if (t40<N:Bool) then if ay t40 e.ag.length then if ay t40 c.ag.length then rW (p,t40)>>=λP=>kU (f.aD,I.eta (e.ag.getD t40.toNat ar),j.aD,I.eta (c.ag.getD t40.toNat ar),P,t,w,L)>>=λG=>tN (p,N,aK .i64 t40 1,G.1,G.2.1,I.eta e,I.eta c,f,j,G.2.2)else none else none else some (t,w,L)
  partial_fixpoint
end
theorem VV:dD Ct Dh/\dN 97 2 [0] yw iX/\dD pg kU/\dN 60 2 [0] yj tN:=Dh.mutual_partial_correctness (dB Ct) (dM 97 2 [0] yw) (dB pg) (dM 60 2 [0] yj)
 (λ_ h1 _ _ h=>dH h .n (.k (dX yw h1) .n))
 (λ_ _ h1 a _ _ h=>dW yw h1 h (.k l3 (.k Wb (.k HN (.k Hs (.k (b5 pg a) .n))))))
 (λ_ _ _ h0 a b _ _ h=>dH h (.k (b5 Ct h0) (.k l3 (.k HN (.k (b5 pg a) .n)))) (.k (dX yj b) .n))
 (λ_ _ a b _ _ h=>dW yj b h (.k HN (.k (b5 pg a) .n)))
theorem XO:aX pg kU:=b5 _ VV.2.2.1
def Ht:da×da×aj->Option (List ao×Int)
 |(w,r,m)=>
 nr (w,r,m)>>=λa=>if !(a.2=0:Bool) then some ([],a.2)else kU (w.av,I.eta a.1.v,r.av,I.eta a.1.u,[],w.cC.Types,r.cC.Types,[])>>=λb=>some (b.2.2,0)
theorem Y5:aX F0 Ht:= .bd (.k Mg (.k XO .n))
mutual
def rU:aO×Int×I×ao->Option (List ao)
 |(s,t,v,b)=>
 if ay t s.Types.length then some (s.Types.getD t.toNat aG)>>=λa=>some (decide (0<(v.Rest.length:Int)))>>=λt21=>(if !t21 then lx (a,I.eta v)else some false)>>=λr=>some (bif t21 then true else r)>>=λt26=>(if !t26 then xi (s,a,I.eta v)else some false)>>=λD=>if(bif t26 then true else D) then some [b]>>=λt35=>if room 24 t35.length then rZ (a,I.eta v)>>=λp=>rq (b,p,(p.length:Int),0,s.Types,I.eta v,t35)>>=λo=>some o else none else rZ (a,I.eta v)>>=λq=>rq (b,q,(q.length:Int),0,s.Types,I.eta v,[])>>=λB=>some B else none
  partial_fixpoint
def rq:ao×List h3×Int×Int×List ai×I×List ao->Option (List ao)
 |(path,t39,y,t41,j,c,e)=>
 if (t41<y:Bool) then if ay t41 t39.length then some (t39.getD t41.toNat zH)>>=λA=>if ay t41 c.ag.length then eO 8 path>>=λw=>some [A.number]>>=λt59=>if room 8 (w++t59).length then rU ((⟨j⟩:aO),A.t,I.eta (c.ag.getD t41.toNat ar),w++t59)>>=λx=>if room 24 (e++x).length then rq (path,t39,y,aK .i64 t41 1,j,I.eta c,e++x)else none else none else none else none else some e
  partial_fixpoint
end
theorem Yd:dD yt rU/\dN 93 1 [0] AB rq:=rU.mutual_partial_correctness (dB yt) (dM 93 1 [0] AB)
 (λ_ h1 _ _ h=>dH h (.k DZ (.k IU (.k Hr .n))) (.k (dX AB h1) .n))
 (λ_ _ h0 h1 _ _ h=>dW AB h1 h (.k oe (.k (b5 yt h0) .n)))
theorem Y6:aX yt rU:=b5 _ Yd.1
def pQ:ao×List h3×Int×Int×List ai×I×List ao->Option (List ao)
 |(d,t39,g,t41,c,a,b)=>
 if (t41<g:Bool) then if ay t41 t39.length then some (t39.getD t41.toNat zH)>>=λi=>if ay t41 a.ag.length then eO 8 d>>=λe=>some [i.number]>>=λt59=>if room 8 (e++t59).length then rU ((⟨c⟩:aO),i.t,I.eta (a.ag.getD t41.toNat ar),e++t59)>>=λf=>if room 24 (b++f).length then pQ (d,t39,g,aK .i64 t41 1,c,I.eta a,b++f)else none else none else none else none else some b
  partial_fixpoint
theorem X9:cG 93 0 [0] QS pQ:= .rx pQ.partial_correctness (.k oe (.k Y6 .n))
def zA:aO×Int×I×ao->Option (List ao)
 |(s,t,v,path)=>
 if ay t s.Types.length then some (s.Types.getD t.toNat aG)>>=λa=>some (decide (0<(v.Rest.length:Int)))>>=λt21=>(if !t21 then lx (a,I.eta v)else some false)>>=λr=>some (bif t21 then true else r)>>=λt26=>(if !t26 then xi (s,a,I.eta v)else some false)>>=λe=>if(bif t26 then true else e) then some [path]>>=λt35=>if room 24 t35.length then rZ (a,I.eta v)>>=λb=>pQ (path,b,(b.length:Int),0,s.Types,I.eta v,t35)>>=λo=>some o else none else rZ (a,I.eta v)>>=λc=>pQ (path,c,(c.length:Int),0,s.Types,I.eta v,[])>>=λd=>some d else none
theorem YY:aX Ui zA:= .bd (.k DZ (.k IU (.k Hr .n))) (.k X9 .n)
def wh:aO×Int×I->Option (List ao×Int)
 |(s,t,v)=>
 tb (s,t,I.eta v)>>=λr=>if !(r=0:Bool) then some ([],r)else zA (s,t,I.eta v,[])>>=λa=>some (a,0)
theorem YZ:aX Co wh:= .bd (.k K4 (.k YY .n))
def IX:da×da×aj->Option (List ao×Int)
 |(w,r,m)=>
 nr (w,r,m)>>=λa=>if !(a.2=0:Bool) then some ([],a.2)else wh (r.cC,r.av,I.eta a.1.u)>>=λb=>some (b.1,b.2)
theorem Zf:aX FZ IX:= .bd (.k Mg (.k YZ .n))
def nc(t:ai):Option ai:=
 if (t.Kind=1:Bool) then some (⟨t.Kind,[],0,0,0,[],[],0,0,false⟩:ai)else if (t.Kind=2:Bool) then some (⟨t.Kind,[],t.bJ,t.bN,0,[],[],0,0,false⟩:ai)else if (t.Kind=3:Bool) then some (⟨t.Kind,[],0,0,t.Max,[],[],0,0,false⟩:ai)else if (t.Kind=4:Bool) then some (⟨t.Kind,t.Name,0,0,0,t.bj,[],0,0,t.Open⟩:ai)else if (t.Kind=5:Bool) then some (⟨t.Kind,t.Name,0,0,0,[],t.af,0,0,false⟩:ai)else if (t.Kind=6:Bool) then some (⟨t.Kind,t.Name,0,0,0,[],t.af,0,0,t.Open⟩:ai)else if (t.Kind=7:Bool) then some (⟨t.Kind,[],0,0,t.Max,[],[],0,t.aD,false⟩:ai)else if (t.Kind=8:Bool) then some (⟨t.Kind,[],0,0,t.Max,[],[],t.Key,t.aD,false⟩:ai)else some (⟨t.Kind,[],0,0,0,[],[],0,t.aD,false⟩:ai)
theorem Xr:aX ag7 nc:= .bd
def zo:aR×aR->Option Bool
 |(a,b)=>
 some (bif bif bif bif decide (a.ad=b.ad)then decide (a.Name=b.Name)else false then decide (a.av=b.av)else false then fy a.b8 b.b8 else false then fy a.bu b.bu else false)>>=λt37=>(if t37 then jN ((⟨a.bm.Kind,a.bm.bS,a.bm.bg,a.bm.bt,a.bm.ad,a.bm.aB,a.bm.ag,a.bm.Rest⟩:I),(⟨b.bm.Kind,b.bm.bS,b.bm.bg,b.bm.bt,b.bm.ad,b.bm.aB,b.bm.ag,b.bm.Rest⟩:I))else some false)>>=λr=>some (bif t37 then r else false)
theorem VW:aX ahk zo:= .bd (.k zl .n)
def pw:Int×ai×ai->Option ((Bool) ⊕ (ai×ai))
 |(i,a,b)=>
 if (i<(a.bj.length:Int):Bool) then if ay i a.bj.length then some (a.bj.getD i.toNat dI)>>=λc=>if ay i b.bj.length then some (b.bj.getD i.toNat dI)>>=λd=>if !(hL c.ad d.ad&&(jx c.Name d.Name&&true)) then some (.inl false)else pw (aK .i64 i 1,a,b)else none else none else some (.inr (a,b))
  partial_fixpoint
theorem VN:cG 153 0 [0] Q1 pw:= .rx pw.partial_correctness
def px:Int×ai×ai->Option ((Bool) ⊕ (Unit))
 |(a,d,e)=>
 if (a<(d.af.length:Int):Bool) then if ay a d.af.length then some (d.af.getD a.toNat aw)>>=λb=>if ay a e.af.length then some (e.af.getD a.toNat aw)>>=λc=>zo ((⟨b.ad,b.Name,b.av,b.b8,b.bu,I.eta b.bm⟩:aR),(⟨c.ad,c.Name,c.av,c.b8,c.bu,I.eta c.bm⟩:aR))>>=λr=>if !r then some (.inl false)else px (aK .i64 a 1,d,e)else none else none else some (.inr ())
  partial_fixpoint
theorem VO:cG 153 0 [1] Q2 px:= .rx px.partial_correctness (.k VW .n)
def Di(g:ai×ai):Option Bool:=
 match g with
 |(a,b)=>
 if(bif bif bif bif bif bif bif bif bif (!(a.Kind=b.Kind:Bool))then true else(!(a.Name=b.Name:Bool))then true else(!(a.bJ=b.bJ:Bool))then true else(!(a.bN=b.bN:Bool))then true else(!(a.Max=b.Max:Bool))then true else(!(a.Key=b.Key:Bool))then true else(!(a.aD=b.aD:Bool))then true else(!(fy a.Open b.Open))then true else(!((a.bj.length:Int)=(b.bj.length:Int):Bool))then true else(!((a.af.length:Int)=(b.af.length:Int):Bool))) then some false else pw (0,(⟨a.Kind,a.Name,a.bJ,a.bN,a.Max,a.bj,a.af,a.Key,a.aD,a.Open⟩:ai),(⟨b.Kind,b.Name,b.bJ,b.bN,b.Max,b.bj,b.af,b.Key,b.aD,b.Open⟩:ai))>>=λo=>match o with
 |.inl d=>
 some d
 |.inr c=>
 px (0,c.1,c.2)>>=λe=>match e with
 |.inl f=>
 some f
 |.inr i=>
 some true
theorem WY:aX ag6 Di:= .bd .n (.k VN (.k VO .n))
def y7(b:Int):Option Bool:=
 some (bif bif bif decide (97<=b)then decide (b<=122)else false then true else bif decide (65<=b)then decide (b<=90)else false then true else decide (b=95))
theorem La:aX ahl y7:= .bd
def DO(b:Int):Option Bool:=
 some (bif decide (48<=b)then decide (b<=57)else false)
theorem Xs:aX ahm DO:= .bd
def p5:aj×Int->Option ((Bool) ⊕ (Unit))
 |(a,i)=>
 if (i<(a.length:Int):Bool) then if ay i a.length then y7 (fY a i)>>=λb=>some (!b)>>=λt27=>if(ay i a.length||(!t27)) then (if t27 then DO (fY a i)else some false)>>=λc=>if(bif t27 then(!c)else false) then some (.inl false)else p5 (a,aK .i64 i 1)else none else none else some (.inr ())
  partial_fixpoint
theorem WO:cG 155 0 [0] Q3 p5:= .rx p5.partial_correctness (.k La (.k Xs .n))
def te(s:aj):Option Bool:=
 some (bif decide (s=[])then true else decide (24<(s.length:Int)))>>=λt10=>if(ay 0 s.length||(!(!t10))) then (if !t10 then y7 (fY s 0)else some false)>>=λr=>if(bif t10 then true else(!r)) then some false else p5 (s,0)>>=λo=>match o with
 |.inl a=>
 some a
 |.inr b=>
 some true else none
theorem HV:aX ag8 te:= .bd (.k La .n) (.k WO .n)
def Ag:Int×Int->Option Bool
 |(a,n)=>
 some (bif bif decide (a<n)then decide (1<=n)else false then decide (n<=1000)else false)
theorem KW:aX ahn Ag:= .bd
def nY:List c1×Int×Int->Option ((Bool) ⊕ (List c1×Int))
 |(a,b,k)=>
 if (k<b:Bool) then if ay k a.length then if ay b a.length then if ((a.getD k.toNat dI).Name=(a.getD b.toNat dI).Name:Bool) then some (.inl false)else nY (a,b,aK .i64 k 1)else none else none else some (.inr (a,b))
  partial_fixpoint
theorem Wn:cG 156 0 [0,0] ON nY:= .rx nY.partial_correctness
def pA(g:List c1×Int×Int):Option ((Bool) ⊕ (List c1)):=
 match g with
 |(a,c,i)=>
 if (i<(a.length:Int):Bool) then if ay i a.length then Ag (c,(a.getD i.toNat dI).ad)>>=λr=>some (!r)>>=λt19=>if(ay i a.length||(!(!t19))) then (if !t19 then te (a.getD i.toNat dI).Name else some false)>>=λf=>if(bif t19 then true else(!f)) then some (.inl false)else nY (a,i,0)>>=λd=>match d with
 |.inl e=>
 some (.inl e)
 |.inr b=>
 if ay b.2 b.1.length then pA (b.1,(b.1.getD b.2.toNat dI).ad,aK .i64 b.2 1)else none else none else none else some (.inr a)
  partial_fixpoint
theorem VX:cG 156 0 [0] Q4 pA:= .rx pA.partial_correctness (.k KW (.k HV .n)) (.k Wn .n)
def y1(l:List c1):Option Bool:=
 pA (l,0,0)>>=λo=>match o with
 |.inl b=>
 some b
 |.inr a=>
 some (bif decide (1<=(a.length:Int))then decide ((a.length:Int)<=16)else false)
theorem WB:aX ag9 y1:= .bd .n (.k VX .n)
def nZ:List aR×Bool×Int×Int×aR->Option ((Bool) ⊕ (List aR×Bool×Int×aR))
 |(b,d,c,k,a)=>
 if (k<c:Bool) then if ay k b.length then if ((b.getD k.toNat aw).Name=a.Name:Bool) then some (.inl false)else nZ (b,d,c,aK .i64 k 1,(⟨a.ad,a.Name,a.av,a.b8,a.bu,I.eta a.bm⟩:aR))else none else some (.inr (b,d,c,(⟨a.ad,a.Name,a.av,a.b8,a.bu,I.eta a.bm⟩:aR)))
  partial_fixpoint
theorem Wo:cG 157 0 [0,0] OO nZ:= .rx nZ.partial_correctness
def pB(l:List aR×Bool×Int×Int):Option ((Bool) ⊕ (List aR×Bool)):=
 match l with
 |(b,d,e,i)=>
 if (i<(b.length:Int):Bool) then if ay i b.length then some (b.getD i.toNat aw)>>=λa=>Ag (e,a.ad)>>=λr=>some (!r)>>=λt23=>(if !t23 then te a.Name else some false)>>=λj=>if(bif bif bif t23 then true else(!j)then true else bif a.b8 then a.bu else false then true else bif (!d)then bif a.b8 then true else a.bu else false) then some (.inl false)else some (!a.bu)>>=λt52=>(if t52 then jN (I.eta a.bm,(⟨0,false,0,[],0,[],[],[]⟩:I))else some false)>>=λk=>if(bif t52 then(!k)else false) then some (.inl false)else nZ (b,d,i,0,(⟨a.ad,a.Name,a.av,a.b8,a.bu,I.eta a.bm⟩:aR))>>=λf=>match f with
 |.inl g=>
 some (.inl g)
 |.inr c=>
 pB (c.1,c.2.1,c.2.2.2.ad,aK .i64 c.2.2.1 1)else none else some (.inr (b,d))
  partial_fixpoint
theorem VY:cG 157 0 [0] R8 pB:= .rx pB.partial_correctness (.k KW (.k HV (.k zl .n))) (.k Wo .n)
def wq(c:List aR×Bool):Option Bool:=
 match c with
 |(l,record)=>
 pB (l,record,0,0)>>=λo=>match o with
 |.inl b=>
 some b
 |.inr a=>
 some (bif decide ((a.1.length:Int)<=16)then bif a.2 then true else decide (1<=(a.1.length:Int))else false)
theorem WC:aX ag' wq:= .bd .n (.k VY .n)
def hE(t:ai):Option Bool:=
 some (bif decide (t.Kind<1)then true else decide (9<t.Kind))>>=λt10=>(if !t10 then nc t else some aG)>>=λr=>(if !t10 then Di (t,r)else some false)>>=λc=>some (bif t10 then true else(!c))>>=λt17=>(if !t17 then kl t.Kind else some false)>>=λa=>(if((!t17)&&a) then te t.Name else some false)>>=λd=>if(bif t17 then true else bif a then(!d)else false) then some false else if (t.Kind=2:Bool) then some (decide (t.bJ<=t.bN))else if (t.Kind=3:Bool) then some (bif decide (0<=t.Max)then decide (t.Max<=200)else false)else if (t.Kind=4:Bool) then y1 t.bj>>=λe=>some e else some (decide (t.Kind=5))>>=λt54=>if t54 then if t54 then wq (t.af,decide (t.Kind=5))>>=λf=>some f else some (decide (t.Kind=7))>>=λt63=>if t63 then if t63 then some (bif decide (0<=t.Max)then decide (t.Max<=50)else false)else some true else if (t.Kind=8:Bool) then some (bif decide (0<=t.Max)then decide (t.Max<=50)else false)else some true else if (t.Kind=6:Bool) then wq (t.af,decide (t.Kind=5))>>=λg=>some g else some (decide (t.Kind=7))>>=λb=>if b then if b then some (bif decide (0<=t.Max)then decide (t.Max<=50)else false)else some true else if (t.Kind=8:Bool) then some (bif decide (0<=t.Max)then decide (t.Max<=50)else false)else some true
theorem Ye:aX agM hE:= .bd (.k Xr (.k WY (.k HW (.k HV (.k WB (.k WC .n))))))
def tT:Int×ai×ao->Option (ai×ao)
 |(i,a,b)=>
 if (i<(a.af.length:Int):Bool) then if ay i a.af.length then some [(a.af.getD i.toNat aw).av]>>=λt19=>if room 8 (b++t19).length then tT (aK .i64 i 1,a,b++t19)else none else none else some (a,b)
  partial_fixpoint
theorem WD:cG 114 0 [0] R9 tT:= .rx tT.partial_correctness
def DT(t:ai):Option ao:=
 tT (0,t,[])>>=λo=>if (o.1.Kind=8:Bool) then some [o.1.Key]>>=λt27=>if room 8 (o.2++t27).length then some (o.2++t27)>>=λl=>if(bif bif (o.1.Kind=7:Bool)then true else (o.1.Kind=8:Bool)then true else (o.1.Kind=9:Bool)) then some [o.1.aD]>>=λt45=>if room 8 (l++t45).length then some (l++t45)else none else some l else none else if(bif bif (o.1.Kind=7:Bool)then true else (o.1.Kind=8:Bool)then true else (o.1.Kind=9:Bool)) then some [o.1.aD]>>=λa=>if room 8 (o.2++a).length then some (o.2++a)else none else some o.2
theorem Xj:aX agN DT:= .bd .n (.k WD .n)
def n1:Int×Int×List ai×Int×aj×Int×Int×Int×List c1×List aR×Int×Int×Bool->Option ((Int) ⊕ (Int×List ai×Int×aj×Int×Int×Int×List c1×List aR×Int×Int×Bool))
 |(d,k,a,b,c,e,f,g,i,j,l,m,n)=>
 if (k<d:Bool) then kl b>>=λo=>if(ay k a.length||(!o)) then if(bif o then ((a.getD k.toNat aG).Name=c:Bool)else false) then some (.inl 1)else n1 (d,aK .i64 k 1,a,b,c,e,f,g,i,j,l,m,n)else none else some (.inr (d,a,b,c,e,f,g,i,j,l,m,n))
  partial_fixpoint
theorem VZ:cG 79 0 [0,0] QT n1:= .rx n1.partial_correctness (.k HW .n)
def q9:Int×ao×Int×List ai×Int×aj×Int×Int×Int×List c1×List aR×Int×Int×Bool->Option ((Int) ⊕ (Int×List ai×Int×aj×Int×Int×Int×List c1×List aR×Int×Int×Bool))
 |(o,l,a,b,c,d,e,f,g,i,j,k,m,n)=>
 if (a<(l.length:Int):Bool) then if ay a l.length then some (decide (l.getD a.toNat 0<0))>>=λt58=>if(ay a l.length||(!(!t58))) then if(bif t58 then true else ((b.length:Int)<=l.getD a.toNat 0:Bool)) then some (.inl 4)else q9 (o,l,aK .i64 a 1,b,c,d,e,f,g,i,j,k,m,n)else none else none else some (.inr (o,b,c,d,e,f,g,i,j,k,m,n))
  partial_fixpoint
theorem V0:cG 79 0 [1,0] QU q9:= .rx q9.partial_correctness
def re(m:Int×List ai):Option ((Int) ⊕ (Unit)):=
 match m with
 |(i,b)=>
 if (i<(b.length:Int):Bool) then if ay i b.length then some (b.getD i.toNat aG)>>=λc=>hE c>>=λr=>if !r then some (.inl 1)else n1 (i,0,b,c.Kind,c.Name,c.bJ,c.bN,c.Max,c.bj,c.af,c.Key,c.aD,c.Open)>>=λe=>match e with
 |.inl f=>
 some (.inl f)
 |.inr a=>
 DT (⟨a.2.2.1,a.2.2.2.1,a.2.2.2.2.1,a.2.2.2.2.2.1,a.2.2.2.2.2.2.1,a.2.2.2.2.2.2.2.1,a.2.2.2.2.2.2.2.2.1,a.2.2.2.2.2.2.2.2.2.1,a.2.2.2.2.2.2.2.2.2.2.1,a.2.2.2.2.2.2.2.2.2.2.2⟩:ai)>>=λk=>q9 (a.1,k,0,a.2.1,a.2.2.1,a.2.2.2.1,a.2.2.2.2.1,a.2.2.2.2.2.1,a.2.2.2.2.2.2.1,a.2.2.2.2.2.2.2.1,a.2.2.2.2.2.2.2.2.1,a.2.2.2.2.2.2.2.2.2.1,a.2.2.2.2.2.2.2.2.2.2.1,a.2.2.2.2.2.2.2.2.2.2.2)>>=λg=>match g with
 |.inl j=>
 some (.inl j)
 |.inr d=>
 some (decide (d.2.2.1=8))>>=λt71=>if(ay d.2.2.2.2.2.2.2.2.2.1 d.2.1.length||(!t71)) then (if t71 then zt (d.2.1.getD d.2.2.2.2.2.2.2.2.2.1.toNat aG).Kind else some false)>>=λl=>if(bif t71 then(!l)else false) then some (.inl 1)else re (aK .i64 d.1 1,d.2.1)else none else none else some (.inr ())
  partial_fixpoint
theorem WZ:cG 79 0 [0] Ud re:= .rx re.partial_correctness (.k Ye (.k Xj (.k Vo .n))) (.k VZ (.k V0 .n))
def wA(s:aO):Option Int:=
 if (32<(s.Types.length:Int):Bool) then some 3 else re (0,s.Types)>>=λo=>match o with
 |.inl a=>
 some a
 |.inr b=>
 some 0
theorem Lg:aX ahU wA:= .bd .n (.k WZ .n)
def kK:aO×Int->Option Int
 |(s,t)=>
 wA s>>=λr=>if !(r=0:Bool) then some r else if(bif (t<0:Bool)then true else ((s.Types.length:Int)<=t:Bool)) then some 4 else some 0
theorem HY:aX ahR kK:= .bd (.k Lg .n)
def DP:da×da->Option Int
 |(w,r)=>
 kK (w.cC,w.av)>>=λa=>if !(a=0:Bool) then some a else kK (r.cC,r.av)>>=λb=>some b
theorem Xt:aX ahJ DP:= .bd (.k HY .n)
def ho:ao×Int->Option cU
 |(path,a)=>
 if room 8 ([]++path).length then some (⟨(⟨0,false,0,[],0,[],[],[]⟩:I),(⟨[]++path,a⟩:iT),false⟩:cU)else none
theorem p8:aX ah0 ho:= .bd
def pC:aj×Int×Int->Option Int
 |(a,b,i)=>
 if (i<(a.length:Int):Bool) then if ay i a.length then pC (a,aK .u64 (gB .u64 b 256) (bY .u64 (fY a i)),aK .i64 i 1)else none else some b
  partial_fixpoint
theorem V1:cG 158 0 [0] Sa pC:= .rx pC.partial_correctness
def C5(s:aj):Option (Int×Int):=
 some (decide (0<(s.length:Int)))>>=λt8=>if(ay 0 s.length||(!t8)) then if(bif t8 then (fY s 0=0:Bool)else false) then some (0,2)else if (8<(s.length:Int):Bool) then some (0,7)else pC (s,0,0)>>=λo=>some (o,0)else none
theorem WE:aX aha C5:= .bd .n (.k V1 .n)
def y8(p:aj):Option (Int×Bool):=
 C5 p>>=λr=>some (r.1,decide (r.2=0))
theorem XP:aX agP y8:= .bd (.k WE .n)
def Dj(n:Int):Option Int:=
 if (b9 n 2=0:Bool) then some (bY .i64 (fB .u64 n 2))else some (di .i64 (di .i64 0 (bY .i64 (fB .u64 n 2))) 1)
theorem W0:aX agQ Dj:= .bd
def l4:ao×Int->Option ao
 |(path,step)=>
 if room 8 ([]++path).length then some ([]++path)>>=λl=>some [step]>>=λt9=>if room 8 (l++t9).length then some (l++t9)else none else none
theorem tx:aX agR l4:= .bd
def tf:aj×Int×Int×Int->Option ((Int×Int×Int) ⊕ (Unit))
 |(a,n,b,i)=>
 if (i<10:Bool) then if (i=(a.length:Int):Bool) then some (.inl (0,0,10))else if ay i a.length then some (bY .u64 (fY a i))>>=λt20=>if(bif (i=9:Bool)then (1<t20:Bool)else false) then some (.inl (0,0,7))else some (aK .u64 n (gB .u64 (b9 t20 128) b))>>=λt32=>if (t20<128:Bool) then if(bif (t20=0:Bool)then (0<i:Bool)else false) then some (.inl (0,0,2))else some (.inl (t32,aK .i64 i 1,0))else tf (a,t32,gB .u64 b 128,aK .i64 i 1)else none else some (.inr ())
  partial_fixpoint
theorem XQ:cG 199 0 [0] Sb tf:= .rx tf.partial_correctness
def vU(s:aj):Option (Int×Int×Int):=
 tf (s,0,1,0)>>=λo=>match o with
 |.inl a=>
 some (a.1,a.2.1,a.2.2)
 |.inr b=>
 some (0,0,7)
theorem Hv:aX aho vU:= .bd .n (.k XQ .n)
def zZ(a:aj):Option (Int×aj×Int):=
 vU a>>=λr=>if(bif bif (!(r.2.2=0:Bool))then true else (r.1<1:Bool)then true else (1000<r.1:Bool)) then some (0,[],12)else if d' r.2.1 (a.length:Int) a.length then some (bY .i64 r.1,et a r.2.1 (a.length:Int),0)else none
theorem Yf:aX ahb zZ:= .bd (.k Hv .n)
def om(v:I):Option cU:=
 some (⟨I.eta v,(⟨[],0⟩:iT),true⟩:cU)
theorem y9:aX agS om:= .bd
def z'(s:aj):Option (aj×aj×Bool):=
 vU s>>=λr=>if(bif (!(r.2.2=0:Bool))then true else (bY .u64 (di .i64 (s.length:Int) r.2.1)<r.1:Bool)) then some ([],[],false)else some (aK .i64 r.2.1 (bY .i64 r.1))>>=λt30=>if d' r.2.1 t30 s.length then some (aK .i64 r.2.1 (bY .i64 r.1))>>=λt36=>if d' t36 (s.length:Int) s.length then some (et s r.2.1 t30,et s t36 (s.length:Int),true)else none else none
theorem Lu:aX ahq z':= .bd (.k Hv .n)
def tO:aj×List aj->Option ((Int) ⊕ (List aj))
 |(b,a)=>
 if !(b=[]:Bool) then z' b>>=λr=>if !r.2.2 then some (.inl 12)else some [r.1]>>=λt20=>if room 16 (a++t20).length then tO (r.2.1,a++t20)else none else some (.inr a)
  partial_fixpoint
theorem W1:cG 160 0 [0] If tO:= .rx tO.partial_correctness (.k Lu .n)
def wB(c:aj):Option (List aj×Int):=
 tO (c,[])>>=λo=>match o with
 |.inl a=>
 some ([],a)
 |.inr b=>
 some (b,0)
theorem Lh:aX ahd wB:= .bd .n (.k W1 .n)
def rF:Int×ao×List aj×Int×List ai×ai×Int×Bool×Int×aj×Int×Int×Bool×Int×Bool×Int×aj×Int×List I->Option ((cU) ⊕ (Int×ao×List aj×List ai×ai×Int×Bool×Int×aj×Int×Int×Bool×Int×Bool×Int×aj×Int×List I))
 |(u,c,t,b,e,f,g,i,j,k,l,m,n,o,p,q,r,s,a)=>
 if (b<(a.length:Int):Bool) then some (di .i64 b 1)>>=λt87=>if ay t87 a.length then if (t87.toNat<a.length:Bool) then if ay b a.length then if (b.toNat<a.length:Bool) then n' (I.eta (a.getD t87.toNat ar),I.eta (a.getD b.toNat ar))>>=λv=>if (0<=v:Bool) then ho (c,1)>>=λd=>some (.inl (⟨I.eta d.Value,d.dL,d.cj⟩:cU))else rF (u,c,t,aK .i64 b 1,e,f,g,i,j,k,l,m,n,o,p,q,r,s,a)else none else none else none else none else some (.inr (u,c,t,e,f,g,i,j,k,l,m,n,o,p,q,r,s,a))
  partial_fixpoint
theorem Wj:cG 121 0 [1] Sc rF:= .rx rF.partial_correctness (.k Dd (.k p8 .n))
def q':aj×Int×List cP->Option ((Int) ⊕ (List cP))
 |(a,d,b)=>
 if !(a=[]:Bool) then vU a>>=λr=>if(bif bif (!(r.2.2=0:Bool))then true else (2001<r.1:Bool)then true else (bY .i64 (fB .u64 r.1 2)<=d:Bool)) then some (.inl 12)else if d' r.2.1 (a.length:Int) a.length then z' (et a r.2.1 (a.length:Int))>>=λc=>if !c.2.2 then some (.inl 12)else some (bY .i64 (fB .u64 r.1 2))>>=λt45=>some [(⟨t45,decide (b9 r.1 2=1),c.1⟩:cP)]>>=λt54=>if room 32 (b++t54).length then q' (c.2.1,t45,b++t54)else none else none else some (.inr b)
  partial_fixpoint
theorem WQ:cG 161 0 [0] Sd q':= .rx q'.partial_correctness (.k Hv (.k Lu .n))
def y'(c:aj):Option (List cP×Int):=
 q' (c,0,[])>>=λo=>match o with
 |.inl a=>
 some ([],a)
 |.inr b=>
 some (b,0)
theorem XR:aX ahe y':= .bd .n (.k WQ .n)
def p9:List cP×Int×Int->Option ((Int) ⊕ (Unit))
 |(a,b,i)=>
 if (i<(a.length:Int):Bool) then if ay i a.length then if ((a.getD i.toNat gm).ad=b:Bool) then some (.inl i)else p9 (a,b,aK .i64 i 1)else none else some (.inr ())
  partial_fixpoint
theorem W2:cG 162 0 [0] Se p9:= .rx p9.partial_correctness
def zf(b:List cP×Int):Option Int:=
 match b with
 |(l,id)=>
 p9 (l,id,0)>>=λo=>match o with
 |.inl a=>
 some a
 |.inr c=>
 some (-1)
theorem Xu:aX ahf zf:= .bd .n (.k W2 .n)
def p6:ao×List cP×Int×ai×Int×Bool×Int×aj×Int×Int×Bool×Int×Bool×Int×aj×Int×List I×List bQ->Option ((cU) ⊕ (Int×Bool×Int×aj×Int×Int×Bool×Int×Bool×Int×aj×Int×List I×List bQ))
 |(s,a,k,c,d,e,f,g,i,j,l,m,n,o,p,q,r,b)=>
 if (k<(a.length:Int):Bool) then if ay k a.length then fw (c,(a.getD k.toNat gm).ad)>>=λu=>if u.2 then p6 (s,a,aK .i64 k 1,c,d,e,f,g,i,j,l,m,n,o,p,q,r,b)else if ay k a.length then if(a.getD k.toNat gm).b8 then if ay k a.length then l4 (s,(a.getD k.toNat gm).ad)>>=λv=>ho (v,6)>>=λt=>some (.inl (⟨I.eta t.Value,t.dL,t.cj⟩:cU))else none else if ay k a.length then if ay k a.length then some [(⟨(a.getD k.toNat gm).ad,(a.getD k.toNat gm).Data⟩:bQ)]>>=λt135=>if room 24 (b++t135).length then p6 (s,a,aK .i64 k 1,c,d,e,f,g,i,j,l,m,n,o,p,q,r,b++t135)else none else none else none else none else none else some (.inr (d,e,f,g,i,j,l,m,n,o,p,q,r,b))
  partial_fixpoint
theorem WR:cG 122 0 [1] Sf p6:= .rx p6.partial_correctness (.k kh (.k tx (.k p8 .n)))
mutual
def jO:aO×Int×aj×Int×ao->Option cU
 |(s,t,p,w,path)=>
 if ay t s.Types.length then some (s.Types.getD t.toNat aG)>>=λc=>if (200<w:Bool) then ho (path,8)>>=λr=>some (⟨I.eta r.Value,r.dL,r.cj⟩:cU)else
 let i5:=λlm=>
 let i4:=λli=>
 let i3:=λle=>
 let i2:=λld=>
 let i1:=λlc=>
 if (c.Kind=6:Bool) then DQ (s,c,p,w,path)>>=λb3=>some (⟨I.eta b3.Value,b3.dL,b3.cj⟩:cU)else if (c.Kind=7:Bool) then DU (s,c,p,w,path)>>=λb4=>some (⟨I.eta b4.Value,b4.dL,b4.cj⟩:cU)else if (c.Kind=8:Bool) then Dc (s,c,p,w,path)>>=λb7=>some (⟨I.eta b7.Value,b7.dL,b7.cj⟩:cU)else if (c.Kind=5:Bool) then DL (s,c,p,w,path)>>=λce=>some (⟨I.eta ce.Value,ce.dL,ce.cj⟩:cU)else om (⟨c.Kind,lm,li,le,ld,[],lc,[]⟩:I)>>=λci=>some (⟨I.eta ci.Value,ci.dL,ci.cj⟩:cU)
 if(bif (c.Kind=9:Bool)then(!(p=[]:Bool))else false) then if ay 0 p.length then if !(fY p 0=1:Bool) then ho (path,1)>>=λb2=>some (⟨I.eta b2.Value,b2.dL,b2.cj⟩:cU)else if d' 1 (p.length:Int) p.length then l4 (path,0)>>=λkw=>jO (s,c.aD,et p 1 (p.length:Int),aK .i64 w 1,kw)>>=λN=>if !N.cj then some (⟨I.eta N.Value,N.dL,N.cj⟩:cU)else i1 [I.eta N.Value]else none else none else i1 []
 if (c.Kind=4:Bool) then y8 p>>=λS=>if(bif bif (!S.2)then true else (S.1<1:Bool)then true else (1000<S.1:Bool)) then ho (path,1)>>=λb0=>some (⟨I.eta b0.Value,b0.dL,b0.cj⟩:cU)else some (bY .i64 S.1)>>=λjp=>oh (c,jp)>>=λks=>if(bif (!ks.2)then(!c.Open)else false) then ho (path,4)>>=λb1=>some (⟨I.eta b1.Value,b1.dL,b1.cj⟩:cU)else i2 jp else i2 0
 if (c.Kind=3:Bool) then if (c.Max<(p.length:Int):Bool) then ho (path,3)>>=λbT=>some (⟨I.eta bT.Value,bT.dL,bT.cj⟩:cU)else i3 p else i3 []
 if (c.Kind=2:Bool) then y8 p>>=λi9=>if !i9.2 then ho (path,1)>>=λbs=>some (⟨I.eta bs.Value,bs.dL,bs.cj⟩:cU)else Dj i9.1>>=λbv=>if(bif (bv<c.bJ:Bool)then true else (c.bN<bv:Bool)) then ho (path,2)>>=λbD=>some (⟨I.eta bD.Value,bD.dL,bD.cj⟩:cU)else i4 bv else i4 0
 if (c.Kind=1:Bool) then if(bif (!(p=[]:Bool))then(!(p=[1]:Bool))else false) then ho (path,1)>>=λbf=>some (⟨I.eta bf.Value,bf.dL,bf.cj⟩:cU)else some (!(decide (p=[])))>>=λt44=>i5 t44 else i5 false else none
  partial_fixpoint
def Dc(f:aO×ai×aj×Int×ao):Option cU:=
 match f with
 |(s,c,p,w,path)=>
 wB p>>=λr=>if(bif (!(r.2=0:Bool))then true else (b9 (r.1.length:Int) 2=1:Bool)) then ho (path,1)>>=λA=>some (⟨I.eta A.Value,A.dL,A.cj⟩:cU)else if (c.Max<fB .i64 (r.1.length:Int) 2:Bool) then ho (path,3)>>=λq=>some (⟨I.eta q.Value,q.dL,q.cj⟩:cU)else s0 (w,path,r.1,0,s.Types,c,0,false,0,[],0,0,false,c.Kind,false,0,[],0,[])>>=λo=>match o with
 |.inl x=>
 some (⟨I.eta x.Value,x.dL,x.cj⟩:cU)
 |.inr a=>
 rF (a.1,a.2.1,a.2.2.1,1,a.2.2.2.1,a.2.2.2.2.1,a.2.2.2.2.2.1,a.2.2.2.2.2.2.1,a.2.2.2.2.2.2.2.1,a.2.2.2.2.2.2.2.2.1,a.2.2.2.2.2.2.2.2.2.1,a.2.2.2.2.2.2.2.2.2.2.1,a.2.2.2.2.2.2.2.2.2.2.2.1,a.2.2.2.2.2.2.2.2.2.2.2.2.1,a.2.2.2.2.2.2.2.2.2.2.2.2.2.1,a.2.2.2.2.2.2.2.2.2.2.2.2.2.2.1,a.2.2.2.2.2.2.2.2.2.2.2.2.2.2.2.1,a.2.2.2.2.2.2.2.2.2.2.2.2.2.2.2.2.1,a.2.2.2.2.2.2.2.2.2.2.2.2.2.2.2.2.2)>>=λa9=>match a9 with
 |.inl D=>
 some (⟨I.eta D.Value,D.dL,D.cj⟩:cU)
 |.inr e=>
 s3 (e.1,e.2.1,e.2.2.1,0,e.2.2.2.1,e.2.2.2.2.1,e.2.2.2.2.2.1,e.2.2.2.2.2.2.1,e.2.2.2.2.2.2.2.1,e.2.2.2.2.2.2.2.2.1,e.2.2.2.2.2.2.2.2.2.1,e.2.2.2.2.2.2.2.2.2.2.1,e.2.2.2.2.2.2.2.2.2.2.2.1,e.2.2.2.2.2.2.2.2.2.2.2.2.1,e.2.2.2.2.2.2.2.2.2.2.2.2.2.1,e.2.2.2.2.2.2.2.2.2.2.2.2.2.2.1,e.2.2.2.2.2.2.2.2.2.2.2.2.2.2.2.1,e.2.2.2.2.2.2.2.2.2.2.2.2.2.2.2.2.1,e.2.2.2.2.2.2.2.2.2.2.2.2.2.2.2.2.2,[])>>=λkk=>match kk with
 |.inl bb=>
 some (⟨I.eta bb.Value,bb.dL,bb.cj⟩:cU)
 |.inr E=>
 om (⟨E.2.2.2.2.2.2.2.1,E.2.2.2.2.2.2.2.2.1,E.2.2.2.2.2.2.2.2.2.1,E.2.2.2.2.2.2.2.2.2.2.1,E.2.2.2.2.2.2.2.2.2.2.2.1,E.2.2.2.2.2.2.2.2.2.2.2.2.1,E.2.2.2.2.2.2.2.2.2.2.2.2.2,[]⟩:I)>>=λj=>some (⟨I.eta j.Value,j.dL,j.cj⟩:cU)
  partial_fixpoint
def DU(f:aO×ai×aj×Int×ao):Option cU:=
 match f with
 |(s,c,p,w,path)=>
 wB p>>=λr=>if !(r.2=0:Bool) then ho (path,1)>>=λA=>some (⟨I.eta A.Value,A.dL,A.cj⟩:cU)else if (c.Max<(r.1.length:Int):Bool) then ho (path,3)>>=λq=>some (⟨I.eta q.Value,q.dL,q.cj⟩:cU)else tU (w,path,r.1,0,s.Types,c,0,false,0,[],0,0,false,c.Kind,false,0,[],0,[])>>=λo=>match o with
 |.inl x=>
 some (⟨I.eta x.Value,x.dL,x.cj⟩:cU)
 |.inr a=>
 om (⟨a.2.2.2.2.2.2.2.1,a.2.2.2.2.2.2.2.2.1,a.2.2.2.2.2.2.2.2.2.1,a.2.2.2.2.2.2.2.2.2.2.1,a.2.2.2.2.2.2.2.2.2.2.2.1,[],a.2.2.2.2.2.2.2.2.2.2.2.2,[]⟩:I)>>=λj=>some (⟨I.eta j.Value,j.dL,j.cj⟩:cU)
  partial_fixpoint
def DL(f:aO×ai×aj×Int×ao):Option cU:=
 match f with
 |(s,c,p,w,path)=>
 y' p>>=λr=>if !(r.2=0:Bool) then ho (path,1)>>=λA=>some (⟨I.eta A.Value,A.dL,A.cj⟩:cU)else mY (w,path,r.1,0,s.Types,c,0,false,0,[],0,0,false,c.Kind,false,0,[],0,[])>>=λo=>match o with
 |.inl x=>
 some (⟨I.eta x.Value,x.dL,x.cj⟩:cU)
 |.inr a=>
 p6 (a.1,a.2.1,0,a.2.2.1,a.2.2.2.1,a.2.2.2.2.1,a.2.2.2.2.2.1,a.2.2.2.2.2.2.1,a.2.2.2.2.2.2.2.1,a.2.2.2.2.2.2.2.2.1,a.2.2.2.2.2.2.2.2.2.1,a.2.2.2.2.2.2.2.2.2.2.1,a.2.2.2.2.2.2.2.2.2.2.2.1,a.2.2.2.2.2.2.2.2.2.2.2.2.1,a.2.2.2.2.2.2.2.2.2.2.2.2.2.1,a.2.2.2.2.2.2.2.2.2.2.2.2.2.2.1,a.2.2.2.2.2.2.2.2.2.2.2.2.2.2.2,[])>>=λa9=>match a9 with
 |.inl D=>
 some (⟨I.eta D.Value,D.dL,D.cj⟩:cU)
 |.inr e=>
 om (⟨e.2.2.2.2.2.2.2.1,e.2.2.2.2.2.2.2.2.1,e.2.2.2.2.2.2.2.2.2.1,e.2.2.2.2.2.2.2.2.2.2.1,e.2.2.2.2.2.2.2.2.2.2.2.1,[],e.2.2.2.2.2.2.2.2.2.2.2.2.1,e.2.2.2.2.2.2.2.2.2.2.2.2.2⟩:I)>>=λq=>some (⟨I.eta q.Value,q.dL,q.cj⟩:cU)
  partial_fixpoint
def DQ:aO×ai×aj×Int×ao->Option cU
 |(s,c,p,w,path)=>
 zZ p>>=λr=>if !(r.2.2=0:Bool) then ho (path,1)>>=λq=>some (⟨I.eta q.Value,q.dL,q.cj⟩:cU)else fw (c,r.1)>>=λj=>if(bif (!j.2)then(!c.Open)else false) then ho (path,5)>>=λP=>some (⟨I.eta P.Value,P.dL,P.cj⟩:cU)else if !j.2 then om (⟨c.Kind,false,0,[],r.1,[],[],[(⟨r.1,r.2.1⟩:bQ)]⟩:I)>>=λB=>some (⟨I.eta B.Value,B.dL,B.cj⟩:cU)else if ay j.1 c.af.length then l4 (path,r.1)>>=λbi=>jO (s,(c.af.getD j.1.toNat aw).av,r.2.1,aK .i64 w 1,bi)>>=λy=>if !y.cj then some (⟨I.eta y.Value,y.dL,y.cj⟩:cU)else om (⟨c.Kind,false,0,[],r.1,[],[I.eta y.Value],[]⟩:I)>>=λbr=>some (⟨I.eta br.Value,br.dL,br.cj⟩:cU)else none
  partial_fixpoint
def s0:Int×ao×List aj×Int×List ai×ai×Int×Bool×Int×aj×Int×Int×Bool×Int×Bool×Int×aj×Int×List I->Option ((cU) ⊕ (Int×ao×List aj×List ai×ai×Int×Bool×Int×aj×Int×Int×Bool×Int×Bool×Int×aj×Int×List I))
 |(a5,be,L,i,a1,a2,gl,gs,gt,g0,g1,g2,g3,g4,g5,g6,g7,g8,a3)=>
 if (gB .i64 2 i<(L.length:Int):Bool) then some (gB .i64 2 i)>>=λt57=>if ay t57 L.length then l4 (be,i)>>=λO=>jO ((⟨a1⟩:aO),a2.Key,L.getD t57.toNat [],aK .i64 a5 1,O)>>=λv=>if !v.cj then some (.inl (⟨I.eta v.Value,v.dL,v.cj⟩:cU))else some [I.eta v.Value]>>=λt74=>if room 120 (a3++t74).length then s0 (a5,be,L,aK .i64 i 1,a1,a2,gl,gs,gt,g0,g1,g2,g3,g4,g5,g6,g7,g8,a3++t74)else none else none else some (.inr (a5,be,L,a1,a2,gl,gs,gt,g0,g1,g2,g3,g4,g5,g6,g7,g8,a3))
  partial_fixpoint
def s3:Int×ao×List aj×Int×List ai×ai×Int×Bool×Int×aj×Int×Int×Bool×Int×Bool×Int×aj×Int×List I×List I->Option ((cU) ⊕ (Int×Bool×Int×aj×Int×Int×Bool×Int×Bool×Int×aj×Int×List I×List I))
 |(i6,i8,R,Q,g9,he,hk,hm,hs,ht,hu,hw,hH,h0,h1,ii,io,ip,i0,a4)=>
 if (gB .i64 2 Q<(R.length:Int):Bool) then some (aK .i64 (gB .i64 2 Q) 1)>>=λt112=>if ay t112 R.length then l4 (i8,Q)>>=λbi=>jO ((⟨g9⟩:aO),he.aD,R.getD t112.toNat [],aK .i64 i6 1,bi)>>=λy=>if !y.cj then some (.inl (⟨I.eta y.Value,y.dL,y.cj⟩:cU))else some [I.eta y.Value]>>=λt129=>if room 120 (a4++t129).length then s3 (i6,i8,R,aK .i64 Q 1,g9,he,hk,hm,hs,ht,hu,hw,hH,h0,h1,ii,io,ip,i0,a4++t129)else none else none else some (.inr (hk,hm,hs,ht,hu,hw,hH,h0,h1,ii,io,ip,i0,a4))
  partial_fixpoint
def tU:Int×ao×List aj×Int×List ai×ai×Int×Bool×Int×aj×Int×Int×Bool×Int×Bool×Int×aj×Int×List I->Option ((cU) ⊕ (Int×Bool×Int×aj×Int×Int×Bool×Int×Bool×Int×aj×Int×List I))
 |(H,i7,l,i,cq,cs,cS,dt,eq,es,ex,fd,ff,fo,fs,gc,gd,ge,U)=>
 if (i<(l.length:Int):Bool) then if ay i l.length then l4 (i7,i)>>=λO=>jO ((⟨cq⟩:aO),cs.aD,l.getD i.toNat [],aK .i64 H 1,O)>>=λv=>if !v.cj then some (.inl (⟨I.eta v.Value,v.dL,v.cj⟩:cU))else some [I.eta v.Value]>>=λt62=>if room 120 (U++t62).length then tU (H,i7,l,aK .i64 i 1,cq,cs,cS,dt,eq,es,ex,fd,ff,fo,fs,gc,gd,ge,U++t62)else none else none else some (.inr (cS,dt,eq,es,ex,fd,ff,fo,fs,gc,gd,ge,U))
  partial_fixpoint
def mY:Int×ao×List cP×Int×List ai×ai×Int×Bool×Int×aj×Int×Int×Bool×Int×Bool×Int×aj×Int×List I->Option ((cU) ⊕ (ao×List cP×ai×Int×Bool×Int×aj×Int×Int×Bool×Int×Bool×Int×aj×Int×List I))
 |(H,M,G,i,W,F,X,Y,Z,ah,am,an,ap,ax,aC,aE,aL,a0,K)=>
 if (i<(F.af.length:Int):Bool) then if ay i F.af.length then some (F.af.getD i.toNat aw)>>=λJ=>zf (G,J.ad)>>=λj=>if (j<0:Bool) then if !J.bu then l4 (M,J.ad)>>=λO=>ho (O,7)>>=λv=>some (.inl (⟨I.eta v.Value,v.dL,v.cj⟩:cU))else some [I.eta J.bm]>>=λt63=>if room 120 (K++t63).length then mY (H,M,G,aK .i64 i 1,W,F,X,Y,Z,ah,am,an,ap,ax,aC,aE,aL,a0,K++t63)else none else if ay j G.length then l4 (M,J.ad)>>=λP=>jO ((⟨W⟩:aO),J.av,(G.getD j.toNat gm).Data,aK .i64 H 1,P)>>=λB=>if !B.cj then some (.inl (⟨I.eta B.Value,B.dL,B.cj⟩:cU))else some [I.eta B.Value]>>=λt89=>if room 120 (K++t89).length then mY (H,M,G,aK .i64 i 1,W,F,X,Y,Z,ah,am,an,ap,ax,aC,aE,aL,a0,K++t89)else none else none else none else some (.inr (M,G,F,X,Y,Z,ah,am,an,ap,ax,aC,aE,aL,a0,K))
  partial_fixpoint
end
theorem WS:dD ph jO/\dD FX DL/\dN 122 0 [0] Bc mY/\dD FW Dc/\dN 121 0 [2] Bb s3/\dN 121 0 [0] Ba s0/\dD FV DU/\dN 120 0 [0] Bz tU/\dD FU DQ:=jO.mutual_partial_correctness (dB ph) (dB FX) (dM 122 0 [0] Bc) (dB FW) (dM 121 0 [2] Bb) (dM 121 0 [0] Ba) (dB FV) (dM 120 0 [0] Bz) (dB FU)
 (λ_ _ _ _ _ h0 h1 d e f _ _ h=>dH h (.k p8 (.k XP (.k W0 (.k zr (.k tx (.k (b5 ph h0) (.k (b5 FU f) (.k (b5 FV e) (.k (b5 FW d) (.k (b5 FX h1) (.k y9 .n))))))))))))
 (λ_ a _ _ h=>dH h (.k XR (.k p8 (.k y9 .n))) (.k (dX Bc a) (.k WR .n)))
 (λ_ _ h0 a _ _ h=>dW Bc a h (.k Xu (.k tx (.k p8 (.k (b5 ph h0) .n)))))
 (λ_ _ b bf _ _ h=>dH h (.k Lh (.k p8 (.k y9 .n))) (.k (dX Ba bf) (.k Wj (.k (dX Bb b) .n))))
 (λ_ _ h0 b _ _ h=>dW Bb b h (.k tx (.k (b5 ph h0) .n)))
 (λ_ _ h0 bf _ _ h=>dW Ba bf h (.k tx (.k (b5 ph h0) .n)))
 (λ_ c _ _ h=>dH h (.k Lh (.k p8 (.k y9 .n))) (.k (dX Bz c) .n))
 (λ_ _ h0 c _ _ h=>dW Bz c h (.k tx (.k (b5 ph h0) .n)))
 (λ_ h0 _ _ h=>dH h (.k Yf (.k p8 (.k kh (.k y9 (.k tx (.k (b5 ph h0) .n)))))))
theorem WG:aX ph jO:=b5 _ WS.1
def Hy:aO×Int×aj->Option (cU×Int)
 |(s,t,m)=>
 kK (s,t)>>=λr=>if !(r=0:Bool) then some ((⟨(⟨0,false,0,[],0,[],[],[]⟩:I),(⟨[],0⟩:iT),false⟩:cU),r)else if (4096<(m.length:Int):Bool) then ho ([],3)>>=λa=>some ((⟨I.eta a.Value,a.dL,a.cj⟩:cU),0)else jO (s,t,m,1,[])>>=λb=>some ((⟨I.eta b.Value,b.dL,b.cj⟩:cU),0)
theorem Yy:aX ahA Hy:= .bd (.k HY (.k p8 (.k WG .n)))
def tg:aO×Int×aj->Option (I×Int)
 |(s,t,m)=>
 Hy (s,t,m)>>=λr=>if(bif (r.2=0:Bool)then(!r.1.cj)else false) then some (I.eta r.1.Value,12)else some (I.eta r.1.Value,r.2)
theorem XS:aX ahh tg:= .bd (.k Yy .n)
def tz(v:I):Option Bool:=
 some (bif bif bif bif bif bif bif decide (v.Kind=1)then true else(!v.bS)then bif decide (v.Kind=2)then true else decide (v.bg=0)else false then bif decide (v.Kind=3)then true else decide (v.bt=[])else false then bif bif decide (v.Kind=4)then true else decide (v.Kind=6)then true else decide (v.ad=0)else false then bif decide (v.Kind=8)then true else decide ((v.aB.length:Int)=0)else false then bif decide (5<=v.Kind)then true else decide ((v.ag.length:Int)=0)else false then bif bif decide (v.Kind=5)then true else decide (v.Kind=6)then true else decide ((v.Rest.length:Int)=0)else false)
theorem Yz:aX agT tz:= .bd
def jr:Int×Bool->Option Bool
 |(n,a)=>
 some (bif bif (!a)then decide (1<=n)else false then decide (n<=1000)else false)
theorem KX:aX agU jr:= .bd
def kj:List bQ×Int×ai->Option ((Bool) ⊕ (Unit))
 |(a,i,b)=>
 if (i<(a.length:Int):Bool) then if ay i a.length then fw (b,(a.getD i.toNat bP).ad)>>=λr=>if ay i a.length then jr ((a.getD i.toNat bP).ad,r.2)>>=λc=>some (!c)>>=λt31=>some (decide (0<i))>>=λt34=>if(ay i a.length||(!((!t31)&&t34))) then some (di .i64 i 1)>>=λt43=>if(ay t43 a.length||(!((!t31)&&t34))) then if(bif t31 then true else bif t34 then ((a.getD i.toNat bP).ad<=(a.getD t43.toNat bP).ad:Bool)else false) then some (.inl false)else kj (a,aK .i64 i 1,b)else none else none else none else none else some (.inr ())
  partial_fixpoint
theorem WH:cG 126 0 [0] Sg kj:= .rx kj.partial_correctness (.k kh (.k KX .n))
def rr(b:ai×List bQ):Option Bool:=
 match b with
 |(t,l)=>
 kj (l,0,t)>>=λo=>match o with
 |.inl a=>
 some a
 |.inr c=>
 some true
theorem YA:aX agV rr:= .bd .n (.k WH .n)
def iA:Int×I->Option ((Bool) ⊕ (Unit))
 |(b,a)=>
 if (b<(a.aB.length:Int):Bool) then some (di .i64 b 1)>>=λt270=>if ay t270 a.aB.length then if ay b a.aB.length then n' (I.eta (a.aB.getD t270.toNat ar),I.eta (a.aB.getD b.toNat ar))>>=λc=>if (0<=c:Bool) then some (.inl false)else iA (aK .i64 b 1,I.eta a)else none else none else some (.inr ())
  partial_fixpoint
theorem XT:cG 91 0 [1] Ug iA:= .rx iA.partial_correctness (.k Dd .n)
mutual
def oB(c:aO×Int×List I×Bool):Option Bool:=
 match c with
 |(s,t,l,plain)=>
 kV (t,l,plain,0,s.Types)>>=λo=>match o with
 |.inl w=>
 some w
 |.inr L=>
 some true
  partial_fixpoint
def iB(c:aO×Int×I×Bool):Option Bool:=
 match c with
 |(s,t,v,plain)=>
 if(bif (t<0:Bool)then true else ((s.Types.length:Int)<=t:Bool)) then some false else if ay t s.Types.length then some (s.Types.getD t.toNat aG)>>=λa=>some (!(decide (v.Kind=a.Kind)))>>=λt34=>(if !t34 then tz (I.eta v)else some false)>>=λr=>if(bif bif t34 then true else(!r)then true else bif plain then (0<(v.Rest.length:Int):Bool)else false) then some false else if (a.Kind=1:Bool) then some true else if (a.Kind=2:Bool) then some (bif decide (a.bJ<=v.bg)then decide (v.bg<=a.bN)else false)else if (a.Kind=3:Bool) then some (decide ((v.bt.length:Int)<=a.Max))else if (a.Kind=4:Bool) then oh (a,v.ad)>>=λx=>some (bif a.Open then(!plain)else false)>>=λt91=>(if((!x.2)&&t91) then jr (v.ad,x.2)else some false)>>=λW=>some (bif x.2 then true else bif t91 then W else false)else if (a.Kind=5:Bool) then some (!(decide ((v.ag.length:Int)=(a.af.length:Int))))>>=λt107=>(if !t107 then rr (a,v.Rest)else some false)>>=λX=>if(bif t107 then true else(!X)) then some false else jP (plain,0,s.Types,I.eta v,a.Kind,a.Name,a.bJ,a.bN,a.Max,a.bj,a.af,a.Key,a.aD,a.Open)>>=λo=>match o with
 |.inl w=>
 some w
 |.inr L=>
 some true else if (a.Kind=6:Bool) then fw (a,v.ad)>>=λp=>if p.2 then some (bif decide ((v.ag.length:Int)=1)then decide ((v.Rest.length:Int)=0)else false)>>=λt156=>if(ay p.1 a.af.length||(!t156)) then if(ay 0 v.ag.length||(!t156)) then (if t156 then iB (s,(a.af.getD p.1.toNat aw).av,I.eta (v.ag.getD (0:Int).toNat ar),plain)else some false)>>=λY=>some (bif t156 then Y else false)else none else none else some (bif a.Open then(!plain)else false)>>=λt177=>(if t177 then jr (v.ad,p.2)else some false)>>=λO=>some (bif bif bif t177 then O else false then decide ((v.ag.length:Int)=0)else false then decide ((v.Rest.length:Int)=1)else false)>>=λt195=>if(ay 0 v.Rest.length||(!t195)) then some (bif t195 then decide ((v.Rest.getD (0:Int).toNat bP).ad=v.ad)else false)else none else if (a.Kind=7:Bool) then some (decide ((v.ag.length:Int)<=a.Max))>>=λt213=>(if t213 then oB (s,a.aD,v.ag,plain)else some false)>>=λP=>some (bif t213 then P else false)else if (a.Kind=8:Bool) then some (bif decide (a.Max<(v.aB.length:Int))then true else(!(decide ((v.ag.length:Int)=(v.aB.length:Int)))))>>=λt239=>(if !t239 then oB (s,a.Key,v.aB,plain)else some false)>>=λQ=>some (bif t239 then true else(!Q))>>=λt249=>(if !t249 then oB (s,a.aD,v.ag,plain)else some false)>>=λR=>if(bif t249 then true else(!R)) then some false else iA (1,I.eta v)>>=λM=>match M with
 |.inl N=>
 some N
 |.inr Z=>
 some true else some (decide ((v.ag.length:Int)<=1))>>=λt283=>(if t283 then oB (s,a.aD,v.ag,plain)else some false)>>=λS=>some (bif t283 then S else false)else none
  partial_fixpoint
def kV:Int×List I×Bool×Int×List ai->Option ((Bool) ⊕ (Unit))
 |(y,j,e,i,b)=>
 if (i<(j.length:Int):Bool) then if ay i j.length then iB ((⟨b⟩:aO),y,I.eta (j.getD i.toNat ar),e)>>=λr=>if !r then some (.inl false)else kV (y,j,e,aK .i64 i 1,b)else none else some (.inr ())
  partial_fixpoint
def jP:Bool×Int×List ai×I×Int×aj×Int×Int×Int×List c1×List aR×Int×Int×Bool->Option ((Bool) ⊕ (Unit))
 |(e,i,b,f,D,E,F,G,H,J,q,K,A,B)=>
 if (i<(f.ag.length:Int):Bool) then if ay i q.length then if ay i f.ag.length then iB ((⟨b⟩:aO),(q.getD i.toNat aw).av,I.eta (f.ag.getD i.toNat ar),e)>>=λU=>if !U then some (.inl false)else jP (e,aK .i64 i 1,b,I.eta f,D,E,F,G,H,J,q,K,A,B)else none else none else some (.inr ())
  partial_fixpoint
end
theorem Xv:dD FY oB/\dN 127 0 [0] Bd kV/\dD vv iB/\dN 91 0 [0] ys jP:=oB.mutual_partial_correctness (dB FY) (dM 127 0 [0] Bd) (dB vv) (dM 91 0 [0] ys)
 (λ_ h1 _ _ h=>dH h .n (.k (dX Bd h1) .n))
 (λ_ _ h1 a _ _ h=>dW Bd h1 h (.k (b5 vv a) .n))
 (λ_ _ _ h0 a b _ _ h=>dH h (.k Yz (.k zr (.k KX (.k YA (.k kh (.k (b5 vv a) (.k (b5 FY h0) .n))))))) (.k (dX ys b) (.k XT .n)))
 (λ_ _ a b _ _ h=>dW ys b h (.k (b5 vv a) .n))
theorem KN:aX vv iB:=b5 _ Xv.2.2.1
def vP:aO×Int×I->Option Bool
 |(s,t,v)=>
 iB (s,t,I.eta v,false)>>=λr=>some r
theorem Ll:aX ahV vP:= .bd (.k KN .n)
def rm:aO×Int×I->Option Int
 |(s,t,v)=>
 wA s>>=λr=>if !(r=0:Bool) then some r else if(bif (t<0:Bool)then true else ((s.Types.length:Int)<=t:Bool)) then some 4 else vP (s,t,I.eta v)>>=λa=>if !a then some 1 else some 0
theorem HZ:aX ahy rm:= .bd (.k Lg (.k Ll .n))
def DM(v:I):Option (Int×Bool×Int×aj×Int×List I×List I×List bQ):=
 if room 120 ([]++v.aB).length then if room 120 ([]++v.ag).length then if room 24 ([]++v.Rest).length then some (v.Kind,v.bS,v.bg,v.bt,v.ad,[]++v.aB,[]++v.ag,[]++v.Rest)else none else none else none
theorem XU:aX ah2 DM:= .bd
mutual
def p'(v:I):Option I:=
 DM (I.eta v)>>=λr=>if (r.1=5:Bool) then q7 (0,r.1,r.2.1,r.2.2.1,r.2.2.2.1,r.2.2.2.2.1,[],0,false,0,[],0,r.2.2.2.2.2.1,r.2.2.2.2.2.2.1)>>=λo=>some (⟨o.1,o.2.1,o.2.2.1,o.2.2.2.1,o.2.2.2.2.1,o.2.2.2.2.2.2.2.2.2.2.2.1,o.2.2.2.2.2.2.2.2.2.2.2.2,o.2.2.2.2.2.1⟩:I)else q7 (0,r.1,r.2.1,r.2.2.1,r.2.2.2.1,r.2.2.2.2.1,r.2.2.2.2.2.2.2,0,false,0,[],0,r.2.2.2.2.2.1,r.2.2.2.2.2.2.1)>>=λc=>some (⟨c.1,c.2.1,c.2.2.1,c.2.2.2.1,c.2.2.2.2.1,c.2.2.2.2.2.2.2.2.2.2.2.1,c.2.2.2.2.2.2.2.2.2.2.2.2,c.2.2.2.2.2.1⟩:I)
  partial_fixpoint
def q7:Int×Int×Bool×Int×aj×Int×List bQ×Int×Bool×Int×aj×Int×List I×List I->Option (Int×Bool×Int×aj×Int×List bQ×Int×Bool×Int×aj×Int×List I×List I)
 |(i,e,f,j,p,q,t,w,x,y,A,B,D,a)=>
 if (i<(a.length:Int):Bool) then if ay i a.length then if (i.toNat<a.length:Bool) then p' (I.eta (a.getD i.toNat ar))>>=λE=>if ay i a.length then if (i.toNat<a.length:Bool) then q7 (aK .i64 i 1,e,f,j,p,q,t,w,x,y,A,B,D,a.set i.toNat (I.eta E))else none else none else none else none else some (e,f,j,p,q,t,w,x,y,A,B,D,a)
  partial_fixpoint
end
theorem V2:dD Cn p'/\dN 56 0 [0] yi q7:=p'.mutual_partial_correctness (dB Cn) (dM 56 0 [0] yi)
 (λ_ h1 _ _ h=>dH h (.k XU .n) (.k (dX yi h1) .n))
 (λ_ _ h0 h1 _ _ h=>dW yi h1 h (.k (b5 Cn h0) .n))
theorem W3:aX Cn p':=b5 _ V2.1
def wC:aO×Int×I->Option Bool
 |(s,t,v)=>
 iB (s,t,I.eta v,true)>>=λr=>some r
theorem Li:aX ahH wC:= .bd (.k KN .n)
def wD:aO×Int×I->Option (I×Int)
 |(s,t,v)=>
 rm (s,t,I.eta v)>>=λr=>if !(r=0:Bool) then some ((⟨0,false,0,[],0,[],[],[]⟩:I),r)else p' (I.eta v)>>=λa=>wC (s,t,I.eta a)>>=λb=>if !b then some ((⟨0,false,0,[],0,[],[],[]⟩:I),12)else some (I.eta a,0)
theorem Xw:aX ahp wD:= .bd (.k HZ (.k W3 (.k Li .n)))
def DR:aO×Int×I×aO×Int->Option Int
 |(w,wt,v,r,rt)=>
 kK (w,wt)>>=λa=>if !(a=0:Bool) then some a else kK (r,rt)>>=λb=>if !(b=0:Bool) then some b else wC (w,wt,I.eta v)>>=λc=>if !c then some 1 else some 0
theorem Xx:aX ahz DR:= .bd (.k HY (.k Li .n))
def kT(path:ao):Option dE:=
 if room 8 ([]++path).length then some (⟨(⟨0,false,0,[],0,[],[],[]⟩:I),[]++path,false⟩:dE)else none
theorem Df:aX ahW kT:= .bd
def oz(v:I):Option dE:=
 some (⟨I.eta v,[],true⟩:dE)
theorem H2:aX ahZ oz:= .bd
def q2:ao×Int->Option ao
 |(path,step)=>
 if room 8 ([]++path).length then some ([]++path)>>=λl=>some [step]>>=λt9=>if room 8 (l++t9).length then some (l++t9)else none else none
theorem zj:aX ahY q2:= .bd
def tp:I×I->Option Bool
 |(a,b)=>
 jN (I.eta a,I.eta b)>>=λr=>some r
theorem Lj:aX ahi tp:= .bd (.k zl .n)
def wm:aR×I->Option Bool
 |(m,v)=>
 (if m.bu then tp (I.eta m.bm,I.eta v)else some false)>>=λr=>some (bif m.bu then r else false)
theorem Vn:aX agO wm:= .bd (.k Lj .n)
def n4:ao×Int×List ai×ai×I×ai×Int×Bool×Int×aj×Int×Bool×Int×Bool×Int×aj×Int×List I×List bQ->Option ((dE) ⊕ (Int×Bool×Int×aj×Int×Bool×Int×Bool×Int×aj×Int×List I×List bQ))
 |(u,i,e,c,b,f,g,j,k,l,m,n,o,p,q,r,s,t,d)=>
 if (i<(c.af.length:Int):Bool) then if ay i c.af.length then some (c.af.getD i.toNat aw)>>=λa=>fw (f,a.ad)>>=λw=>if w.2 then n4 (u,aK .i64 i 1,e,c,I.eta b,f,g,j,k,l,m,n,o,p,q,r,s,t,d)else if a.b8 then q2 (u,a.ad)>>=λx=>kT x>>=λv=>some (.inl (⟨I.eta v.Value,v.Path,v.cj⟩:dE))else if ay i b.ag.length then wm ((⟨a.ad,a.Name,a.av,a.b8,a.bu,I.eta a.bm⟩:aR),I.eta (b.ag.getD i.toNat ar))>>=λy=>if !y then if ay i b.ag.length then iP ((⟨e⟩:aO),a.av,I.eta (b.ag.getD i.toNat ar))>>=λz=>some [(⟨a.ad,z⟩:bQ)]>>=λt170=>if room 24 (d++t170).length then n4 (u,aK .i64 i 1,e,c,I.eta b,f,g,j,k,l,m,n,o,p,q,r,s,t,d++t170)else none else none else n4 (u,aK .i64 i 1,e,c,I.eta b,f,g,j,k,l,m,n,o,p,q,r,s,t,d)else none else none else some (.inr (g,j,k,l,m,n,o,p,q,r,s,t,d))
  partial_fixpoint
theorem WT:cG 84 0 [1] Uf n4:= .rx n4.partial_correctness (.k kh (.k zj (.k Df (.k Vn (.k De .n)))))
mutual
def nj(x:aO×Int×I×aO×Int×ao):Option dE:=
 match x with
 |(w,wt,v,r,rt,path)=>
 if ay wt w.Types.length then some (w.Types.getD wt.toNat aG)>>=λc=>if ay rt r.Types.length then some (r.Types.getD rt.toNat aG)>>=λe=>if !(c.Kind=e.Kind:Bool) then kT path>>=λt=>some (⟨I.eta t.Value,t.Path,t.cj⟩:dE)else if(bif (c.Kind=2:Bool)then bif (v.bg<e.bJ:Bool)then true else (e.bN<v.bg:Bool)else false) then kT path>>=λM=>some (⟨I.eta M.Value,M.Path,M.cj⟩:dE)else if(bif (c.Kind=3:Bool)then (e.Max<(v.bt.length:Int):Bool)else false) then kT path>>=λq=>some (⟨I.eta q.Value,q.Path,q.cj⟩:dE)else if (c.Kind=4:Bool) then oh (e,v.ad)>>=λO=>if(bif (!O.2)then(!e.Open)else false) then kT path>>=λp=>some (⟨I.eta p.Value,p.Path,p.cj⟩:dE)else if(bif bif (c.Kind=7:Bool)then true else (c.Kind=8:Bool)then (e.Max<(v.ag.length:Int):Bool)else false) then kT path>>=λG=>some (⟨I.eta G.Value,G.Path,G.cj⟩:dE)else if (c.Kind=6:Bool) then zg (w,c,I.eta v,r,e,path)>>=λD=>some (⟨I.eta D.Value,D.Path,D.cj⟩:dE)else if (c.Kind=5:Bool) then za (w,c,I.eta v,r,e,path)>>=λA=>some (⟨I.eta A.Value,A.Path,A.cj⟩:dE)else oa (path,0,w.Types,I.eta v,r.Types,0,false,0,[],0,false,c,e,v.Kind,v.bS,v.bg,v.bt,v.ad,v.Rest,[])>>=λo=>match o with
 |.inl J=>
 some (⟨I.eta J.Value,J.Path,J.cj⟩:dE)
 |.inr a=>
 ob (a.1,0,a.2.1,I.eta a.2.2.1,a.2.2.2.1,a.2.2.2.2.1,a.2.2.2.2.2.1,a.2.2.2.2.2.2.1,a.2.2.2.2.2.2.2.1,a.2.2.2.2.2.2.2.2.1,a.2.2.2.2.2.2.2.2.2.1,a.2.2.2.2.2.2.2.2.2.2.1,a.2.2.2.2.2.2.2.2.2.2.2.1,a.2.2.2.2.2.2.2.2.2.2.2.2.1,a.2.2.2.2.2.2.2.2.2.2.2.2.2.1,a.2.2.2.2.2.2.2.2.2.2.2.2.2.2.1,a.2.2.2.2.2.2.2.2.2.2.2.2.2.2.2.1,a.2.2.2.2.2.2.2.2.2.2.2.2.2.2.2.2.1,a.2.2.2.2.2.2.2.2.2.2.2.2.2.2.2.2.2.1,a.2.2.2.2.2.2.2.2.2.2.2.2.2.2.2.2.2.2,[])>>=λbr=>match br with
 |.inl K=>
 some (⟨I.eta K.Value,K.Path,K.cj⟩:dE)
 |.inr j=>
 oz (⟨j.2.2.2.2.2.2.1,j.2.2.2.2.2.2.2.1,j.2.2.2.2.2.2.2.2.1,j.2.2.2.2.2.2.2.2.2.1,j.2.2.2.2.2.2.2.2.2.2.1,j.2.2.2.2.2.2.2.2.2.2.2.2.1,j.2.2.2.2.2.2.2.2.2.2.2.2.2,j.2.2.2.2.2.2.2.2.2.2.2.1⟩:I)>>=λB=>some (⟨I.eta B.Value,B.Path,B.cj⟩:dE)else if(bif bif (c.Kind=7:Bool)then true else (c.Kind=8:Bool)then (e.Max<(v.ag.length:Int):Bool)else false) then kT path>>=λL=>some (⟨I.eta L.Value,L.Path,L.cj⟩:dE)else if (c.Kind=6:Bool) then zg (w,c,I.eta v,r,e,path)>>=λbD=>some (⟨I.eta bD.Value,bD.Path,bD.cj⟩:dE)else if (c.Kind=5:Bool) then za (w,c,I.eta v,r,e,path)>>=λbT=>some (⟨I.eta bT.Value,bT.Path,bT.cj⟩:dE)else oa (path,0,w.Types,I.eta v,r.Types,0,false,0,[],0,false,c,e,v.Kind,v.bS,v.bg,v.bt,v.ad,v.Rest,[])>>=λg7=>match g7 with
 |.inl bs=>
 some (⟨I.eta bs.Value,bs.Path,bs.cj⟩:dE)
 |.inr f=>
 ob (f.1,0,f.2.1,I.eta f.2.2.1,f.2.2.2.1,f.2.2.2.2.1,f.2.2.2.2.2.1,f.2.2.2.2.2.2.1,f.2.2.2.2.2.2.2.1,f.2.2.2.2.2.2.2.2.1,f.2.2.2.2.2.2.2.2.2.1,f.2.2.2.2.2.2.2.2.2.2.1,f.2.2.2.2.2.2.2.2.2.2.2.1,f.2.2.2.2.2.2.2.2.2.2.2.2.1,f.2.2.2.2.2.2.2.2.2.2.2.2.2.1,f.2.2.2.2.2.2.2.2.2.2.2.2.2.2.1,f.2.2.2.2.2.2.2.2.2.2.2.2.2.2.2.1,f.2.2.2.2.2.2.2.2.2.2.2.2.2.2.2.2.1,f.2.2.2.2.2.2.2.2.2.2.2.2.2.2.2.2.2.1,f.2.2.2.2.2.2.2.2.2.2.2.2.2.2.2.2.2.2,[])>>=λg8=>match g8 with
 |.inl bi=>
 some (⟨I.eta bi.Value,bi.Path,bi.cj⟩:dE)
 |.inr F=>
 oz (⟨F.2.2.2.2.2.2.1,F.2.2.2.2.2.2.2.1,F.2.2.2.2.2.2.2.2.1,F.2.2.2.2.2.2.2.2.2.1,F.2.2.2.2.2.2.2.2.2.2.1,F.2.2.2.2.2.2.2.2.2.2.2.2.1,F.2.2.2.2.2.2.2.2.2.2.2.2.2,F.2.2.2.2.2.2.2.2.2.2.2.1⟩:I)>>=λb0=>some (⟨I.eta b0.Value,b0.Path,b0.cj⟩:dE)else none else none
  partial_fixpoint
def za(x:aO×ai×I×aO×ai×ao):Option dE:=
 match x with
 |(w,c,v,r,y,path)=>
 p7 (path,0,w.Types,c,I.eta v,r.Types,y,0,false,0,[],0,false,v.Kind,false,0,[],0,[])>>=λo=>match o with
 |.inl J=>
 some (⟨I.eta J.Value,J.Path,J.cj⟩:dE)
 |.inr a=>
 n4 (a.1,0,a.2.1,a.2.2.1,I.eta a.2.2.2.1,a.2.2.2.2.1,a.2.2.2.2.2.1,a.2.2.2.2.2.2.1,a.2.2.2.2.2.2.2.1,a.2.2.2.2.2.2.2.2.1,a.2.2.2.2.2.2.2.2.2.1,a.2.2.2.2.2.2.2.2.2.2.1,a.2.2.2.2.2.2.2.2.2.2.2.1,a.2.2.2.2.2.2.2.2.2.2.2.2.1,a.2.2.2.2.2.2.2.2.2.2.2.2.2.1,a.2.2.2.2.2.2.2.2.2.2.2.2.2.2.1,a.2.2.2.2.2.2.2.2.2.2.2.2.2.2.2.1,a.2.2.2.2.2.2.2.2.2.2.2.2.2.2.2.2,[])>>=λbr=>match br with
 |.inl K=>
 some (⟨I.eta K.Value,K.Path,K.cj⟩:dE)
 |.inr j=>
 oz (⟨j.2.2.2.2.2.2.1,j.2.2.2.2.2.2.2.1,j.2.2.2.2.2.2.2.2.1,j.2.2.2.2.2.2.2.2.2.1,j.2.2.2.2.2.2.2.2.2.2.1,[],j.2.2.2.2.2.2.2.2.2.2.2.1,j.2.2.2.2.2.2.2.2.2.2.2.2⟩:I)>>=λt=>some (⟨I.eta t.Value,t.Path,t.cj⟩:dE)
  partial_fixpoint
def zg:aO×ai×I×aO×ai×ao->Option dE
 |(w,c,v,r,y,path)=>
 fw (c,v.ad)>>=λt=>fw (y,v.ad)>>=λO=>if(bif (!O.2)then(!y.Open)else false) then kT path>>=λp=>some (⟨I.eta p.Value,p.Path,p.cj⟩:dE)else if !O.2 then if ay t.1 c.af.length then if ay 0 v.ag.length then iP (w,(c.af.getD t.1.toNat aw).av,I.eta (v.ag.getD (0:Int).toNat ar))>>=λG=>oz (⟨v.Kind,false,0,[],v.ad,[],[],[(⟨v.ad,G⟩:bQ)]⟩:I)>>=λD=>some (⟨I.eta D.Value,D.Path,D.cj⟩:dE)else none else none else if ay t.1 c.af.length then if ay 0 v.ag.length then if ay O.1 y.af.length then q2 (path,v.ad)>>=λA=>nj (w,(c.af.getD t.1.toNat aw).av,I.eta (v.ag.getD (0:Int).toNat ar),r,(y.af.getD O.1.toNat aw).av,A)>>=λB=>if !B.cj then some (⟨I.eta B.Value,B.Path,B.cj⟩:dE)else oz (⟨v.Kind,false,0,[],v.ad,[],[I.eta B.Value],[]⟩:I)>>=λL=>some (⟨I.eta L.Value,L.Path,L.cj⟩:dE)else none else none else none
  partial_fixpoint
def oa:ao×Int×List ai×I×List ai×Int×Bool×Int×aj×Int×Bool×ai×ai×Int×Bool×Int×aj×Int×List bQ×List I->Option ((dE) ⊕ (ao×List ai×I×List ai×Int×Bool×Int×aj×Int×Bool×ai×ai×Int×Bool×Int×aj×Int×List bQ×List I))
 |(bv,i,a5,R,a9,ce,ci,cq,cs,cS,dt,bb,be,eq,es,ex,fd,ff,fo,bf)=>
 if (i<(R.aB.length:Int):Bool) then if ay i R.aB.length then q2 (bv,i)>>=λg9=>nj ((⟨a5⟩:aO),bb.Key,I.eta (R.aB.getD i.toNat ar),(⟨a9⟩:aO),be.Key,g9)>>=λU=>if !U.cj then some (.inl (⟨I.eta U.Value,U.Path,U.cj⟩:dE))else some [I.eta U.Value]>>=λt161=>if room 120 (bf++t161).length then oa (bv,aK .i64 i 1,a5,I.eta R,a9,ce,ci,cq,cs,cS,dt,bb,be,eq,es,ex,fd,ff,fo,bf++t161)else none else none else some (.inr (bv,a5,I.eta R,a9,ce,ci,cq,cs,cS,dt,bb,be,eq,es,ex,fd,ff,fo,bf))
  partial_fixpoint
def ob:ao×Int×List ai×I×List ai×Int×Bool×Int×aj×Int×Bool×ai×ai×Int×Bool×Int×aj×Int×List bQ×List I×List I->Option ((dE) ⊕ (Int×Bool×Int×aj×Int×Bool×Int×Bool×Int×aj×Int×List bQ×List I×List I))
 |(g6,S,fs,Y,gc,gd,ge,gl,gs,gt,g0,g1,g2,g3,g4,g5,b2,b3,b4,b7,ah)=>
 if (S<(Y.ag.length:Int):Bool) then if ay S Y.ag.length then q2 (g6,S)>>=λhe=>nj ((⟨fs⟩:aO),g1.aD,I.eta (Y.ag.getD S.toNat ar),(⟨gc⟩:aO),g2.aD,he)>>=λW=>if !W.cj then some (.inl (⟨I.eta W.Value,W.Path,W.cj⟩:dE))else some [I.eta W.Value]>>=λt194=>if room 120 (ah++t194).length then ob (g6,aK .i64 S 1,fs,I.eta Y,gc,gd,ge,gl,gs,gt,g0,g1,g2,g3,g4,g5,b2,b3,b4,b7,ah++t194)else none else none else some (.inr (gd,ge,gl,gs,gt,g0,g3,g4,g5,b2,b3,b4,b7,ah))
  partial_fixpoint
def p7:ao×Int×List ai×ai×I×List ai×ai×Int×Bool×Int×aj×Int×Bool×Int×Bool×Int×aj×Int×List I->Option ((dE) ⊕ (ao×List ai×ai×I×ai×Int×Bool×Int×aj×Int×Bool×Int×Bool×Int×aj×Int×List I))
 |(Z,k,X,E,H,am,N,an,ap,ax,aC,aE,aL,a0,a1,a2,a3,a4,Q)=>
 if (k<(N.af.length:Int):Bool) then if ay k N.af.length then some (N.af.getD k.toNat aw)>>=λe=>q2 (Z,e.ad)>>=λM=>fw (E,e.ad)>>=λq=>if(bif (!q.2)then(!e.bu)else false) then kT M>>=λb1=>some (.inl (⟨I.eta b1.Value,b1.Path,b1.cj⟩:dE))else if !q.2 then some [I.eta e.bm]>>=λt65=>if room 120 (Q++t65).length then p7 (Z,aK .i64 k 1,X,E,I.eta H,am,N,an,ap,ax,aC,aE,aL,a0,a1,a2,a3,a4,Q++t65)else none else if ay q.1 E.af.length then if ay q.1 H.ag.length then nj ((⟨X⟩:aO),(E.af.getD q.1.toNat aw).av,I.eta (H.ag.getD q.1.toNat ar),(⟨am⟩:aO),e.av,M)>>=λp=>if ay q.1 E.af.length then some (E.af.getD q.1.toNat aw)>>=λP=>if ay q.1 H.ag.length then wm ((⟨P.ad,P.Name,P.av,P.b8,P.bu,I.eta P.bm⟩:aR),I.eta (H.ag.getD q.1.toNat ar))>>=λG=>some (!p.cj)>>=λt99=>(if(G&&(!t99)) then wm ((⟨e.ad,e.Name,e.av,e.b8,e.bu,I.eta e.bm⟩:aR),I.eta p.Value)else some false)>>=λD=>if(bif G then bif t99 then true else(!D)else false) then kT M>>=λA=>some (.inl (⟨I.eta A.Value,A.Path,A.cj⟩:dE))else if !p.cj then some (.inl (⟨I.eta p.Value,p.Path,p.cj⟩:dE))else some [I.eta p.Value]>>=λt118=>if room 120 (Q++t118).length then p7 (Z,aK .i64 k 1,X,E,I.eta H,am,N,an,ap,ax,aC,aE,aL,a0,a1,a2,a3,a4,Q++t118)else none else none else none else none else none else none else some (.inr (Z,X,E,I.eta H,N,an,ap,ax,aC,aE,aL,a0,a1,a2,a3,a4,Q))
  partial_fixpoint
end
theorem XV:dD sU nj/\dN 47 0 [1] yh ob/\dN 47 0 [0] yg oa/\dD F6 za/\dN 84 0 [0] yq p7/\dD F5 zg:=nj.mutual_partial_correctness (dB sU) (dM 47 0 [1] yh) (dM 47 0 [0] yg) (dB F6) (dM 84 0 [0] yq) (dB F5)
 (λ_ _ _ _ h1 a c bf _ _ h=>dH h (.k Df (.k zr (.k (b5 F5 bf) (.k (b5 F6 c) (.k H2 .n))))) (.k (dX yg a) (.k (dX yh h1) .n)))
 (λ_ _ h0 h1 _ _ h=>dW yh h1 h (.k zj (.k (b5 sU h0) .n)))
 (λ_ _ h0 a _ _ h=>dW yg a h (.k zj (.k (b5 sU h0) .n)))
 (λ_ b _ _ h=>dH h (.k H2 .n) (.k (dX yq b) (.k WT .n)))
 (λ_ _ h0 b _ _ h=>dW yq b h (.k zj (.k kh (.k Df (.k (b5 sU h0) (.k Vn .n))))))
 (λ_ h0 _ _ h=>dH h (.k kh (.k Df (.k De (.k H2 (.k zj (.k (b5 sU h0) .n)))))))
theorem YB:aX sU nj:=b5 _ XV.1
def y2:aO×Int×I×aO×Int->Option (I×Int)
 |(w,wt,v,r,rt)=>
 DR (w,wt,I.eta v,r,rt)>>=λa=>if !(a=0:Bool) then some ((⟨0,false,0,[],0,[],[],[]⟩:I),a)else nj (w,wt,I.eta v,r,rt,[])>>=λb=>if !b.cj then some ((⟨0,false,0,[],0,[],[],[]⟩:I),12)else some (I.eta b.Value,0)
theorem WI:aX ahc y2:= .bd (.k Xx (.k YB .n))
mutual
def na:aO×Int×I->Option Int
 |(s,t,v)=>
 if ay t s.Types.length then hZ (0,0,s.Types,I.eta v,s.Types.getD t.toNat aG)>>=λo=>if (0<(o.2.aB.length:Int):Bool) then some (aK .i64 1 (iI o.1 1))else some (aK .i64 1 o.1)else none
  partial_fixpoint
def hZ:Int×Int×List ai×I×ai->Option (Int×I)
 |(f,i,e,a,c)=>
 if (i<(a.ag.length:Int):Bool) then if (c.Kind=5:Bool) then if ay i c.af.length then some (c.af.getD i.toNat aw)>>=λj=>if(ay i a.ag.length||(!j.bu)) then (if j.bu then jN (I.eta (a.ag.getD i.toNat ar),I.eta j.bm)else some false)>>=λr=>if(bif j.bu then r else false) then hZ (f,aK .i64 i 1,e,I.eta a,c)else if (c.Kind=6:Bool) then fw (c,a.ad)>>=λq=>if ay q.1 c.af.length then if ay i a.ag.length then na ((⟨e⟩:aO),(c.af.getD q.1.toNat aw).av,I.eta (a.ag.getD i.toNat ar))>>=λy=>hZ (iI f y,aK .i64 i 1,e,I.eta a,c)else none else none else if ay i a.ag.length then na ((⟨e⟩:aO),j.av,I.eta (a.ag.getD i.toNat ar))>>=λA=>hZ (iI f A,aK .i64 i 1,e,I.eta a,c)else none else none else none else if (c.Kind=6:Bool) then fw (c,a.ad)>>=λw=>if ay w.1 c.af.length then if ay i a.ag.length then na ((⟨e⟩:aO),(c.af.getD w.1.toNat aw).av,I.eta (a.ag.getD i.toNat ar))>>=λB=>hZ (iI f B,aK .i64 i 1,e,I.eta a,c)else none else none else if ay i a.ag.length then na ((⟨e⟩:aO),c.aD,I.eta (a.ag.getD i.toNat ar))>>=λx=>hZ (iI f x,aK .i64 i 1,e,I.eta a,c)else none else some (f,I.eta a)
  partial_fixpoint
end
theorem W4:dD Cl na/\dN 45 0 [0] yf hZ:=na.mutual_partial_correctness (dB Cl) (dM 45 0 [0] yf)
 (λ_ h1 _ _ h=>dH h .n (.k (dX yf h1) .n))
 (λ_ _ h0 h1 _ _ h=>dW yf h1 h (.k zl (.k kh (.k (b5 Cl h0) .n))))
theorem XW:aX Cl na:=b5 _ W4.1
def rj:aO×Int×I->Option (aj×Int)
 |(s,t,v)=>
 rm (s,t,I.eta v)>>=λr=>if !(r=0:Bool) then some ([],r)else iP (s,t,I.eta v)>>=λa=>some (decide (4096<(a.length:Int)))>>=λt23=>(if !t23 then na (s,t,I.eta v)else some 0)>>=λb=>if(bif t23 then true else (200<b:Bool)) then some ([],3)else some (a,0)
theorem XX:aX ag2 rj:= .bd (.k HZ (.k De (.k XW .n)))
def mZ:da×da×aj->Option (kY×Int)
 |(w,r,m)=>
 DP (w,r)>>=λf=>if !(f=0:Bool) then some ((⟨(⟨0,false,0,[],0,[],[],[]⟩:I),(⟨0,false,0,[],0,[],[],[]⟩:I),[]⟩:kY),f)else tg (w.cC,w.av,m)>>=λa=>if !(a.2=0:Bool) then some ((⟨(⟨0,false,0,[],0,[],[],[]⟩:I),(⟨0,false,0,[],0,[],[],[]⟩:I),[]⟩:kY),a.2)else wD (w.cC,w.av,I.eta a.1)>>=λe=>if !(e.2=0:Bool) then some ((⟨(⟨0,false,0,[],0,[],[],[]⟩:I),(⟨0,false,0,[],0,[],[],[]⟩:I),[]⟩:kY),e.2)else y2 (w.cC,w.av,I.eta e.1,r.cC,r.av)>>=λg=>if !(g.2=0:Bool) then some ((⟨(⟨0,false,0,[],0,[],[],[]⟩:I),(⟨0,false,0,[],0,[],[],[]⟩:I),[]⟩:kY),g.2)else rj (w.cC,w.av,I.eta a.1)>>=λc=>if !(c.2=0:Bool) then some ((⟨(⟨0,false,0,[],0,[],[],[]⟩:I),(⟨0,false,0,[],0,[],[],[]⟩:I),[]⟩:kY),c.2)else tg (r.cC,r.av,c.1)>>=λb=>if !(b.2=0:Bool) then some ((⟨(⟨0,false,0,[],0,[],[],[]⟩:I),(⟨0,false,0,[],0,[],[],[]⟩:I),[]⟩:kY),b.2)else rj (r.cC,r.av,I.eta b.1)>>=λd=>if !(d.2=0:Bool) then some ((⟨(⟨0,false,0,[],0,[],[],[]⟩:I),(⟨0,false,0,[],0,[],[],[]⟩:I),[]⟩:kY),d.2)else some ((⟨I.eta a.1,I.eta b.1,d.1⟩:kY),0)
theorem Vq:aX ahx mZ:= .bd (.k Xt (.k XS (.k Xw (.k WI (.k XX .n)))))
def mi:Int×Int×List ao×Int×List ai×I×List ao×ai->Option (Int×List ai×I×List ao×ai)
 |(e,n,l,k,b,c,a,d)=>
 if (k<(l.length:Int):Bool) then if ay k l.length then some (l.getD k.toNat [])>>=λf=>if room 8 ([n]++f).length then some [[n]++f]>>=λt87=>if room 24 (a++t87).length then mi (e,n,l,aK .i64 k 1,b,I.eta c,a++t87,d)else none else none else none else some (e,b,I.eta c,a,d)
  partial_fixpoint
theorem V3:cG 94 0 [0,0] QV mi:= .rx mi.partial_correctness
mutual
def ng:aO×Int×I->Option (List ao)
 |(s,t,v)=>
 if ay t s.Types.length then n5 (0,s.Types,I.eta v,[[]],s.Types.getD t.toNat aG)>>=λo=>some o else none
  partial_fixpoint
def n5:Int×List ai×I×List ao×ai->Option (List ao)
 |(i,e,c,f,a)=>
 if (i<(c.ag.length:Int):Bool) then if (a.Kind=5:Bool) then if ay i a.af.length then if ay i a.af.length then if (a.Kind=6:Bool) then fw (a,c.ad)>>=λr=>if ay r.1 a.af.length then if ay i c.ag.length then ng ((⟨e⟩:aO),(a.af.getD r.1.toNat aw).av,I.eta (c.ag.getD i.toNat ar))>>=λA=>mi (i,c.ad,A,0,e,I.eta c,f,a)>>=λj=>n5 (aK .i64 j.1 1,j.2.1,I.eta j.2.2.1,j.2.2.2.1,j.2.2.2.2)else none else none else if ay i c.ag.length then ng ((⟨e⟩:aO),(a.af.getD i.toNat aw).av,I.eta (c.ag.getD i.toNat ar))>>=λB=>mi (i,(a.af.getD i.toNat aw).ad,B,0,e,I.eta c,f,a)>>=λp=>n5 (aK .i64 p.1 1,p.2.1,I.eta p.2.2.1,p.2.2.2.1,p.2.2.2.2)else none else none else none else if (a.Kind=6:Bool) then fw (a,c.ad)>>=λy=>if ay y.1 a.af.length then if ay i c.ag.length then ng ((⟨e⟩:aO),(a.af.getD y.1.toNat aw).av,I.eta (c.ag.getD i.toNat ar))>>=λD=>mi (i,c.ad,D,0,e,I.eta c,f,a)>>=λq=>n5 (aK .i64 q.1 1,q.2.1,I.eta q.2.2.1,q.2.2.2.1,q.2.2.2.2)else none else none else if ay i c.ag.length then ng ((⟨e⟩:aO),a.aD,I.eta (c.ag.getD i.toNat ar))>>=λE=>mi (i,i,E,0,e,I.eta c,f,a)>>=λw=>n5 (aK .i64 w.1 1,w.2.1,I.eta w.2.2.1,w.2.2.2.1,w.2.2.2.2)else none else some f
  partial_fixpoint
end
theorem WJ:dD Cr ng/\dN 94 0 [0] yu n5:=ng.mutual_partial_correctness (dB Cr) (dM 94 0 [0] yu)
 (λ_ h1 _ _ h=>dH h .n (.k (dX yu h1) .n))
 (λ_ _ h0 h1 _ _ h=>dW yu h1 h (.k kh (.k (b5 Cr h0) .n)) (.k V3 .n))
theorem Xy:aX Cr ng:=b5 _ WJ.1
def nh:Int×ao×Int×List ai×I×Int×Bool×Int×aj×Int->Option ((Int×Int×Int×Bool×Int×aj×Int) ⊕ (Int×I×Int×Bool×Int×aj×Int))
 |(o,d,i,e,b,f,g,j,k,l)=>
 if (i<(d.length:Int):Bool) then if ay o e.length then some (e.getD o.toNat aG)>>=λc=>if ay i d.length then some (d.getD i.toNat 0)>>=λa=>if (c.Kind=5:Bool) then fw (c,a)>>=λm=>if m.2 then if ay m.1 c.af.length then if (m.1<0:Bool) then some (.inl (0,4,0,false,0,[],0))else if ay m.1 b.ag.length then nh ((c.af.getD m.1.toNat aw).av,d,aK .i64 i 1,e,I.eta (b.ag.getD m.1.toNat ar),f,g,j,k,l)else none else none else some (.inl (0,4,0,false,0,[],0))else if (c.Kind=6:Bool) then fw (c,a)>>=λn=>if(bif n.2 then (a=b.ad:Bool)else false) then if ay n.1 c.af.length then if ay 0 b.ag.length then nh ((c.af.getD n.1.toNat aw).av,d,aK .i64 i 1,e,I.eta (b.ag.getD (0:Int).toNat ar),f,g,j,k,l)else none else none else some (.inl (0,4,0,false,0,[],0))else some (decide (c.Kind=7))>>=λt80=>if t80 then if t80 then if(bif (0<=a:Bool)then (a<(b.ag.length:Int):Bool)else false) then if (a<0:Bool) then some (.inl (0,4,0,false,0,[],0))else if ay a b.ag.length then nh (c.aD,d,aK .i64 i 1,e,I.eta (b.ag.getD a.toNat ar),f,g,j,k,l)else none else some (.inl (0,4,0,false,0,[],0))else some (.inl (0,4,0,false,0,[],0))else some (decide (c.Kind=8))>>=λt81=>if t81 then if t81 then if(bif (0<=a:Bool)then (a<(b.ag.length:Int):Bool)else false) then if (a<0:Bool) then some (.inl (0,4,0,false,0,[],0))else if ay a b.ag.length then nh (c.aD,d,aK .i64 i 1,e,I.eta (b.ag.getD a.toNat ar),f,g,j,k,l)else none else some (.inl (0,4,0,false,0,[],0))else some (.inl (0,4,0,false,0,[],0))else if (c.Kind=9:Bool) then if(bif (0<=a:Bool)then (a<(b.ag.length:Int):Bool)else false) then if (a<0:Bool) then some (.inl (0,4,0,false,0,[],0))else if ay a b.ag.length then nh (c.aD,d,aK .i64 i 1,e,I.eta (b.ag.getD a.toNat ar),f,g,j,k,l)else none else some (.inl (0,4,0,false,0,[],0))else some (.inl (0,4,0,false,0,[],0))else none else none else some (.inr (o,I.eta b,f,g,j,k,l))
  partial_fixpoint
theorem Xz:cG 95 0 [0] Uj nh:= .rx nh.partial_correctness (.k kh .n)
def D2(c:aO×Int×I×ao):Option (I×Int×Int):=
 match c with
 |(s,t,v,path)=>
 vP (s,t,I.eta v)>>=λr=>if !r then some ((⟨0,false,0,[],0,[],[],[]⟩:I),0,1)else nh (t,path,0,s.Types,I.eta v,0,false,0,[],0)>>=λo=>match o with
 |.inl a=>
 some ((⟨a.2.2.1,a.2.2.2.1,a.2.2.2.2.1,a.2.2.2.2.2.1,a.2.2.2.2.2.2,[],[],[]⟩:I),a.1,a.2.1)
 |.inr b=>
 some (I.eta b.2.1,b.1,0)
theorem X':aX ah3 D2:= .bd (.k Ll .n) (.k Xz .n)
mutual
def qd(e:aO×Int×I):Option Bool:=
 match e with
 |(s,t,v)=>
 if ay t s.Types.length then some (s.Types.getD t.toNat aG)>>=λa=>some (decide (a.Kind=5))>>=λt19=>if t19 then if t19 then some (decide (0<(v.Rest.length:Int)))else if (a.Kind=4:Bool) then oh (a,v.ad)>>=λr=>some (!r.2)else if (a.Kind=8:Bool) then pD (0,s.Types,I.eta v,a)>>=λo=>match o with
 |.inl j=>
 some j
 |.inr y=>
 some false else some false else if (a.Kind=6:Bool) then some (decide (0<(v.Rest.length:Int)))else if (a.Kind=4:Bool) then oh (a,v.ad)>>=λw=>some (!w.2)else if (a.Kind=8:Bool) then pD (0,s.Types,I.eta v,a)>>=λp=>match p with
 |.inl q=>
 some q
 |.inr A=>
 some false else some false else none
  partial_fixpoint
def pD:Int×List ai×I×ai->Option ((Bool) ⊕ (Unit))
 |(i,b,c,f)=>
 if (i<(c.aB.length:Int):Bool) then if ay i c.aB.length then qd ((⟨b⟩:aO),f.Key,I.eta (c.aB.getD i.toNat ar))>>=λx=>if x then some (.inl true)else pD (aK .i64 i 1,b,I.eta c,f)else none else some (.inr ())
  partial_fixpoint
end
theorem WU:dD Cs qd/\dN 96 0 [0] yv pD:=qd.mutual_partial_correctness (dB Cs) (dM 96 0 [0] yv)
 (λ_ h1 _ _ h=>dH h (.k zr .n) (.k (dX yv h1) .n))
 (λ_ _ h0 h1 _ _ h=>dW yv h1 h (.k (b5 Cs h0) .n))
theorem WK:aX Cs qd:=b5 _ WU.1
def qa:Int×List ao×Int×List ai×I×List ao->Option (List ao)
 |(d,l,i,a,c,b)=>
 if (i<(l.length:Int):Bool) then if ay i l.length then D2 ((⟨a⟩:aO),d,I.eta c,l.getD i.toNat [])>>=λe=>qd ((⟨a⟩:aO),e.2.1,I.eta e.1)>>=λf=>if f then if ay i l.length then some [l.getD i.toNat []]>>=λt53=>if room 24 (b++t53).length then qa (d,l,aK .i64 i 1,a,I.eta c,b++t53)else none else none else qa (d,l,aK .i64 i 1,a,I.eta c,b)else none else some b
  partial_fixpoint
theorem W5:cG 59 0 [0] T6 qa:= .rx qa.partial_correctness (.k X' (.k WK .n))
def wE:aO×Int×I->Option (List ao×Int)
 |(s,t,v)=>
 rm (s,t,I.eta v)>>=λr=>if !(r=0:Bool) then some ([],r)else ng (s,t,I.eta v)>>=λa=>qa (t,a,0,s.Types,I.eta v,[])>>=λo=>some (o,0)
theorem XA:aX ahI wE:= .bd (.k HZ (.k Xy .n)) (.k W5 .n)
def Hz:da×da×aj->Option (List ao×Int)
 |(w,r,m)=>
 mZ (w,r,m)>>=λa=>if !(a.2=0:Bool) then some ([],a.2)else wE (r.cC,r.av,I.eta a.1.U)>>=λb=>some (b.1,b.2)
theorem YC:aX ahr Hz:= .bd (.k Vq (.k XA .n))
def pR:ao×Int->Option ao
 |(path,step)=>
 if room 8 ([]++path).length then some ([]++path)>>=λl=>some [step]>>=λt9=>if room 8 (l++t9).length then some (l++t9)else none else none
theorem HA:aX agH pR:= .bd
def qe:Int×Int×I->Option ((Bool) ⊕ (Unit))
 |(a,i,b)=>
 if (i<(b.Rest.length:Int):Bool) then if ay i b.Rest.length then if ((b.Rest.getD i.toNat bP).ad=a:Bool) then some (.inl true)else qe (a,aK .i64 i 1,I.eta b)else none else some (.inr ())
  partial_fixpoint
theorem WL:cG 101 0 [0] Sh qe:= .rx qe.partial_correctness
def DV(b:I×Int):Option Bool:=
 match b with
 |(v,id)=>
 qe (id,0,I.eta v)>>=λo=>match o with
 |.inl a=>
 some a
 |.inr c=>
 some false
theorem YD:aX agI DV:= .bd .n (.k WL .n)
mutual
def jQ:aO×aO×Int×Int×I×I×ao->Option (List ao)
 |(w,r,wt,rt,v,u,path)=>
 if ay wt w.Types.length then some (w.Types.getD wt.toNat aG)>>=λq=>if ay rt r.Types.length then some (r.Types.getD rt.toNat aG)>>=λD=>if (q.Kind=6:Bool) then fw (q,v.ad)>>=λM=>fw (D,v.ad)>>=λN=>if(bif M.2 then N.2 else false) then if ay M.1 q.af.length then if ay N.1 D.af.length then if ay 0 v.ag.length then if ay 0 u.ag.length then pR (path,v.ad)>>=λaC=>jQ (w,r,(q.af.getD M.1.toNat aw).av,(D.af.getD N.1.toNat aw).av,I.eta (v.ag.getD (0:Int).toNat ar),I.eta (u.ag.getD (0:Int).toNat ar),aC)>>=λaE=>some aE else none else none else none else none else some []else if !(q.Kind=5:Bool) then tP (path,0,w.Types,r.Types,I.eta v,I.eta u,q,D,[])>>=λo=>some o else iZ (path,0,w.Types,r.Types,I.eta v,I.eta u,q,D,[])>>=λY=>some Y else none else none
  partial_fixpoint
def tP:ao×Int×List ai×List ai×I×I×ai×ai×List ao->Option (List ao)
 |(S,i,O,P,F,J,Q,R,K)=>
 if (i<(F.ag.length:Int):Bool) then if ay i F.ag.length then if ay i J.ag.length then pR (S,i)>>=λaL=>jQ ((⟨O⟩:aO),(⟨P⟩:aO),Q.aD,R.aD,I.eta (F.ag.getD i.toNat ar),I.eta (J.ag.getD i.toNat ar),aL)>>=λU=>if room 24 (K++U).length then tP (S,aK .i64 i 1,O,P,I.eta F,I.eta J,Q,R,K++U)else none else none else none else some K
  partial_fixpoint
def iZ:ao×Int×List ai×List ai×I×I×ai×ai×List ao->Option (List ao)
 |(p,k,A,x,e,f,c,j,y)=>
 if (k<(j.af.length:Int):Bool) then if ay k j.af.length then some (j.af.getD k.toNat aw)>>=λt=>fw (c,t.ad)>>=λa=>some (!a.2)>>=λt139=>(if t139 then DV (I.eta e,t.ad)else some false)>>=λZ=>if(bif t139 then(!Z)else false) then pR (p,t.ad)>>=λah=>some [ah]>>=λt152=>if room 24 (y++t152).length then some (y++t152)>>=λL=>some (!a.2)>>=λt155=>if(ay a.1 c.af.length||(!(!t155))) then some (c.af.getD a.1.toNat aw)>>=λH=>if(ay a.1 c.af.length||(!((!t155)&&H.bu))) then if(ay a.1 e.ag.length||(!((!t155)&&H.bu))) then (if((!t155)&&H.bu) then tp (I.eta (c.af.getD a.1.toNat aw).bm,I.eta (e.ag.getD a.1.toNat ar))else some false)>>=λam=>if(bif t155 then true else bif H.bu then am else false) then iZ (p,aK .i64 k 1,A,x,I.eta e,I.eta f,c,j,L)else if ay a.1 c.af.length then if ay a.1 e.ag.length then if ay k f.ag.length then pR (p,t.ad)>>=λan=>jQ ((⟨A⟩:aO),(⟨x⟩:aO),(c.af.getD a.1.toNat aw).av,t.av,I.eta (e.ag.getD a.1.toNat ar),I.eta (f.ag.getD k.toNat ar),an)>>=λW=>if room 24 (L++W).length then iZ (p,aK .i64 k 1,A,x,I.eta e,I.eta f,c,j,L++W)else none else none else none else none else none else none else none else none else some (!a.2)>>=λB=>if(ay a.1 c.af.length||(!(!B))) then some (c.af.getD a.1.toNat aw)>>=λG=>if(ay a.1 c.af.length||(!((!B)&&G.bu))) then if(ay a.1 e.ag.length||(!((!B)&&G.bu))) then (if((!B)&&G.bu) then tp (I.eta (c.af.getD a.1.toNat aw).bm,I.eta (e.ag.getD a.1.toNat ar))else some false)>>=λap=>if(bif B then true else bif G.bu then ap else false) then iZ (p,aK .i64 k 1,A,x,I.eta e,I.eta f,c,j,y)else if ay a.1 c.af.length then if ay a.1 e.ag.length then if ay k f.ag.length then pR (p,t.ad)>>=λax=>jQ ((⟨A⟩:aO),(⟨x⟩:aO),(c.af.getD a.1.toNat aw).av,t.av,I.eta (e.ag.getD a.1.toNat ar),I.eta (f.ag.getD k.toNat ar),ax)>>=λX=>if room 24 (y++X).length then iZ (p,aK .i64 k 1,A,x,I.eta e,I.eta f,c,j,y++X)else none else none else none else none else none else none else none else none else some y
  partial_fixpoint
end
theorem WM:dD vu jQ/\dN 61 0 [1] yl iZ/\dN 61 0 [0] yk tP:=jQ.mutual_partial_correctness (dB vu) (dM 61 0 [1] yl) (dM 61 0 [0] yk)
 (λ_ _ _ h0 h1 a _ _ h=>dH h (.k kh (.k HA (.k (b5 vu h0) .n))) (.k (dX yk a) (.k (dX yl h1) .n)))
 (λ_ _ h0 h1 _ _ h=>dW yl h1 h (.k kh (.k YD (.k HA (.k Lj (.k (b5 vu h0) .n))))))
 (λ_ _ h0 a _ _ h=>dW yk a h (.k HA (.k (b5 vu h0) .n)))
theorem XB:aX vu jQ:=b5 _ WM.1
def Hw:da×da×aj->Option (List ao×Int)
 |(w,r,m)=>
 mZ (w,r,m)>>=λa=>if !(a.2=0:Bool) then some ([],a.2)else jQ (w.cC,r.cC,w.av,r.av,I.eta a.1.V,I.eta a.1.U,[])>>=λb=>some (b,0)
theorem XC:aX ahs Hw:= .bd (.k Vq (.k XB .n))
def Bj(c:nn):Option Bool:=
 tC c>>=λr=>zd ()>>=λi=>if(bif (!i)then true else(!r.2.2.2)) then zd ()>>=λj=>some j else IX (r.1,r.2.1,r.2.2.1)>>=λe=>Hz (r.1,r.2.1,r.2.2.1)>>=λa=>Ht (r.1,r.2.1,r.2.2.1)>>=λb=>Hw (r.1,r.2.1,r.2.2.1)>>=λd=>some (bif decide (e.2=a.2)then decide (b.2=d.2)else false)>>=λt64=>(if t64 then mm (e.1,a.1)else some false)>>=λf=>some (bif t64 then f else false)>>=λt69=>(if t69 then mm (b.1,d.1)else some false)>>=λg=>some (bif t69 then g else false)
theorem af6:aX mU Bj:= .bd (.k Yp (.k X3 (.k Zf (.k YC (.k Y5 (.k XC (.k Lc .n)))))))
end
section
open Go Go.Proofs.YtdjagncoefjfeaaGreat.Shv
set_option maxRecDepth 100000
def hy(s:aj):Nat->Nat->Nat->Int×Int×Int
 |0,_,_=>(0,0,10)
 |f+1,i,n=>
  if i<s.length then if i=9/\1<(s.getD i 0).toNat then(0,0,7)else if 128<=(s.getD i 0).toNat then hy s f (i+1) (n+((s.getD i 0).toNat%128)*2^(7*i))else if(s.getD i 0).toNat=0/\0<i then(0,0,2)else(((n+(s.getD i 0).toNat*2^(7*i):Nat):Int),((i+1:Nat):Int),0)else(0,0,10)
theorem UT{i:Nat}(h:i<=9):2^(7*i)<=9223372036854775808:=by
 have:2^(7*i)<=2^63:=xe (by omega) (by omega);omega
theorem UU(i:Nat):2^(7*(i+1))=2^(7*i)*128:=by rw[Nat.mul_add,Nat.pow_add]
theorem Hd{n i b:Nat}(aJ:n<2^(7*i)):n+(b%128)*2^(7*i)<2^(7*(i+1)):=by
 rw[UU];have:b%128*2^(7*i)<=127*2^(7*i):=eZ _ (by omega);omega
theorem yC{n i b:Nat}(d:i<=9)(aJ:n<2^(7*i))(c:b<128)(a:i=9->b<=1):b*2^(7*i)<18446744073709551616/\n+b*2^(7*i)<18446744073709551616:=by
 rcases Nat.lt_or_ge i 9 with h|h
 . have:2^(7*i)<=2^56:=xe (by omega) (by omega);have e:(2:Nat)^56=72057594037927936:=(by decide);have:b*2^(7*i)<=127*2^(7*i):=eZ _ (by omega);omega
 grind
theorem Si(s:aj):∀(f i n:Nat),i+f=10->n<2^(7*i)->∃o,s' (s,(n:Int),((min 10 s.length:Nat):Int),(i:Int))=some o/\(match o with|.inl x=>x|.inr _=>(0,0,10))=hy s f i n
 |0,i,n,h,aJ=>by
  refine⟨.inr (),?_,rfl⟩;rw[s'];grind
 |f+1,i,n,h,aJ=>by
  rw[s'];simp only[hy,aS,ak,uy];by_cases d:i<s.length
  . have e:=zS s i;generalize (s.getD i 0).toNat=b at e⊢;rw[bE,ae (aH d),ae d];have l:gB .i64 7 (i:Int)=((7*i:Nat):Int):=by rw[RE (by omega) (by omega)];norm_cast
    rw[l];have j:decide ((0:Int)<=((7*i:Nat):Int))=true:=by simp;omega
    by_cases c:i=9/\1<b
    . rw[ae c,ae (by obtain⟨h1,m⟩:=c;subst h1;simp;omega)];grind
    . rw[al c,al (by grind)];by_cases g:128<=b
      . rw[ae g,bE,ae j];have k:i=9->False:=λh1=>c ⟨h1,by omega⟩;have aC:b%128<128:=yS _ (by omega);have a:=yC (i:=i) (n:=n) (b:=b%128) (by omega) aJ aC (λh1=>(k h1).elim);rw[adr e,hz,OI (by omega) a.1,QN (by have:=UT (i:=i) (by omega);omega) a.1,RD aJ,bA (by omega)];exact Si s f (i+1) (n+b%128*2^(7*i)) (by omega) (Hd aJ)
      . rw[al g,cr];by_cases h0:b=0/\0<i
        . simp_all
        . rw[al h0,al (by grind),ae j];have a:=yC (i:=i) (n:=n) (b:=b) (by omega) aJ (by omega) (λh1=>by omega);rw[hz,OI (by omega) a.1,QN (by have:=UT (i:=i) (by omega);omega) a.1,RD aJ,bA (by omega)];grind
  . rw[cr,al d];grind
theorem Sj(s:aj):EI s=some (hy s 10 0 0):=by
 obtain⟨o,h1,a⟩:=Si s 10 0 0 rfl (by decide);rw[EI];have:ja 10 (s.length:Int)=((min 10 s.length:Nat):Int):=Jy 10 s.length;grind
theorem NS(s:aj):∀(f i n:Nat),i<=s.length->i+f=10->n<2^(7*i)->∃o,tf (s,(n:Int),(if i<10 then((2^(7*i):Nat):Int)else gB .u64 ((2^(7*9):Nat):Int) 128),(i:Int))=some o/\(i<10->(match o with|.inl x=>x|.inr _=>(0,0,7))=hy s f i n)
 |0,i,n,p,h,aJ=>by
  refine⟨.inr (),?_,λr=>by omega⟩;rw[tf];grind
 |f+1,i,n,p,h,aJ=>by
  rw[tf];simp only[hy,aS,ak,uy];rw[ae (show decide ((i:Int)<10)=true by simp;omega),ae (show i<10 by omega)];by_cases e:i<s.length
  . have m:=zS s i;generalize (s.getD i 0).toNat=b at m⊢;rw[cr,ae (aH e),ae e,hz];by_cases d:i=9/\1<b
    . rw[ae d,ae (by obtain⟨h1,k⟩:=d;subst h1;simp;omega)];grind
    . rw[al d,al (by grind)];have j:b9 (b:Int) 128=((b%128:Nat):Int):=A0 (b:=128);have aC:b%128<128:=yS _ (by omega);by_cases g:128<=b
      . rw[ae g,cr];have l:i=9->False:=λh1=>d ⟨h1,by omega⟩;have c:=yC (i:=i) (n:=n) (b:=b%128) (by omega) aJ aC (λh1=>(l h1).elim);rw[j,uE c.1,sH c.2,bA (by omega)];obtain⟨o,h1,k⟩:=NS s f (i+1) (n+b%128*2^(7*i)) (by omega) (by omega) (Hd aJ);have t:gB .u64 ((2^(7*i):Nat):Int) 128=((2^(7*(i+1)):Nat):Int):=by
         have:=uE (a:=2^(7*i)) (b:=128) (by
          have:2^(7*i)<=2^56:=xe (by omega) (by omega)
          omega)
         grind
        grind
      . rw[al g,bE];have q:b%128=b:=oV (by omega);have c:=yC (i:=i) (n:=n) (b:=b) (by omega) aJ (by omega) (λh1=>by omega);by_cases h0:b=0/\0<i
        . simp_all
        . rw[al h0,al (by grind)];rw[j,q,uE c.1,sH c.2,bA (by omega)];grind
  . rw[bE,al e];grind
theorem JQ(s:aj):vU s=some (hy s 10 0 0):=by
 obtain⟨o,h1,a⟩:=NS s 10 0 0 (by omega) rfl (by decide);rw[vU];grind
theorem OP(s:aj):∀(f i n:Nat),i<=s.length->i+f=10->n<2^(7*i)->(∃e:Int,e≠0/\hy s f i n=(0,0,e))\/∃m k:Nat,hy s f i n=((m:Int),(k:Int),0)/\i<k/\k<=s.length/\m<18446744073709551616
 |0,i,n,l,h,aJ=>.inl ⟨10,by decide,rfl⟩
 |f+1,i,n,l,h,aJ=>by
  simp only[hy];have g:=zS s i;generalize (s.getD i 0).toNat=b at g⊢;by_cases c:i<s.length
  . rw[ae c];by_cases d:i=9/\1<b
    . simp_all
    . rw[al d];by_cases a:128<=b
      . rw[ae a];rcases OP s f (i+1) (n+b%128*2^(7*i)) (by omega) (by omega) (Hd aJ)with h|⟨m,k,h1,o,p,q⟩
        . exact .inl h
        grind
      . rw[al a];by_cases h0:b=0/\0<i
        . simp_all
        . rw[al h0];have j:=yC (i:=i) (n:=n) (b:=b) (by omega) aJ (by omega) (λh1=>by omega);exact .inr ⟨_,i+1,rfl,by omega,by omega,j.2⟩
  . rw[al c];exact .inl ⟨10,by decide,rfl⟩
theorem lR(s:aj):(∃e:Int,e≠0/\hy s 10 0 0=(0,0,e))\/∃m k:Nat,hy s 10 0 0=((m:Int),(k:Int),0)/\0<k/\k<=s.length/\m<18446744073709551616:=
 OP s 10 0 0 (by omega) rfl (by decide)
theorem oN{s:aj}{e:Int}(he:e≠0)(h:hy s 10 0 0=(0,0,e)):rY s=some (0,[],false):=by
 rw[rY,Sj,h];grind
theorem mf{s:aj}{m k:Nat}(h:hy s 10 0 0=((m:Int),(k:Int),0))(a:k<=s.length):rY s=some ((m:Int),s.drop k,true):=by
 rw[rY,Sj,h];simp only[aS,ak];rw[bz,ae (jW a (eI _)),oM]
def dP:Option (aj×aj)->aj×aj×Bool
 |none=>([],[],false)
 |some (a,b)=>(a,b,true)
def iw(s:aj):Option (aj×aj):=
 match hy s 10 0 0 with
 |(m,k,e)=>if e=0/\m.toNat+k.toNat<=s.length then some ((s.drop k.toNat).take m.toNat,(s.drop k.toNat).drop m.toNat)else none
theorem oI{s a b:aj}(h:iw s=some (a,b)):a.length+b.length<s.length:=by
 unfold iw at h;rcases lR s with⟨e,he,c⟩|⟨m,k,c,f,d,g⟩
 . grind
 grind
theorem mg{s:aj}(hs:s.length<=1000000:=by omega):zz s=some (dP (iw s)):=by
 rw[zz];unfold iw;rcases lR s with⟨e,he,b⟩|⟨m,k,b,f,d,g⟩
 . rw[oN he b,b];simp[he,dP]
 . rw[mf b d,b];simp only[aS,ak,oU,uM,mA];rw[hz];by_cases c:m+k<=s.length
   . rw[cr,ae (show d' 0 (m:Int) (s.length-k)=true from jW (a:=0) (by omega) (by omega)),ae (jW (by omega) (eI _)),ae c];have:((s.length-k:Nat):Int)=((s.drop k).length:Int):=by simp
     rw[this,oM,uz];rfl
   . rw[bE,al c];rfl
theorem Sk{s:aj}(hs:s.length<=1000000):z' s=some (dP (iw s)):=by
 rw[z',JQ];unfold iw;rcases lR s with⟨e,he,a⟩|⟨m,k,a,g,f,i⟩
 . rw[a];simp[he,dP]
 . rw[a];simp only[aS,ak,oU,uM];have c:di .i64 (s.length:Int) (k:Int)=((s.length-k:Nat):Int):=by rw[hJ (by omega) (by omega)];omega
   rw[c,hz];by_cases b:m+k<=s.length
   . rw[cr,ae b];have d:bY .i64 (m:Int)=(m:Int):=jF;rw[d,wV (by omega),ae (jW (by omega) (by omega)),ae (jW (by omega) (eI _)),oM];have:et s (k:Int) ((k+m:Nat):Int)=(s.drop k).take m:=by
      unfold et;rw[oU,oU,List.drop_take];grind
     rw[this,uT];rfl
   . rw[bE,al b];rfl
theorem Jz:∀(n:Nat) (s:aj) (b:List aj),s.length<=n->s.length+b.length<=100000->∃o,hD (s,b)=some o/\∀l,o= .inr l->l.length<=s.length+b.length:=by
 intro n;induction n with
 |zero=>
  intro s b h1 a;have:s=[]:=j4 (by omega);subst this;refine⟨.inr b,?_,λl ah=>by cases ah;omega⟩;rw[hD];rw[bz]
 |succ n ih=>
  intro s b h1 a;rw[hD,mg];simp only[aS,ak];by_cases hs:s=[]
  . grind
  . have d:(!(decide (s=[])))=true:=(by simp[hs]);rw[ae d];cases g:iw s with
    |none=>exact⟨.inl 12,rfl,λl ah=>by cases ah⟩
    |some p=>
     obtain⟨x,y⟩:=p;have ah:=oI g;have f:room 16 (b++[(dP (some (x,y))).1]).length=true:=cV;have aJ:¬((!(dP (some (x,y))).2.2)=true):=(by simp[dP]);rw[al aJ,ae f];obtain⟨o,c,bf⟩:=ih y (b++[x]) (by omega) (by simp;omega);exact⟨o,c,λl e=>by have:=bf l e;simp at this;omega⟩
theorem acW{s:aj}(h:s.length<=90000):∃o,lv s=some o/\o.1.length<=s.length:=by
 obtain⟨o,h1,a⟩:=Jz s.length s [] (eI _) (by simp;omega);rw[lv,h1];cases o with
 |inl e=>exact⟨_,rfl,by simp⟩
 |inr l=>exact⟨_,rfl,by have:=a l rfl;simpa using this⟩
theorem adW:∀(n:Nat) (s:aj) (b:List aj),s.length<=n->s.length+b.length<=100000->tO (s,b)=hD (s,b):=by
 intro n;induction n with
 |zero=>
  intro s b h1 d;have:s=[]:=j4 (by omega);subst this;rw[hD,tO,bz,bz]
 |succ n ih=>
  intro s b h1 d;rw[hD,tO,mg,Sk (by omega)];simp only[aS,ak];by_cases hs:s=[]
  . grind
  . have a:(!(decide (s=[])))=true:=(by simp[hs]);rw[ae a,ae a];cases e:iw s with
    |none=>rfl
    |some p=>
     obtain⟨x,y⟩:=p;have ah:=oI e;have c:room 16 (b++[(dP (some (x,y))).1]).length=true:=cV;have aJ:¬((!(dP (some (x,y))).2.2)=true):=(by simp[dP]);rw[al aJ,ae c,al aJ,ae c];exact ih y (b++[x]) (by omega) (by simp;omega)
theorem acX{s:aj}(h:s.length<=90000):wB s=lv s:=by
 rw[lv,wB,adW s.length s [] (eI _) (by simp;omega)]<;>rfl
theorem NT:∀(n:Nat) (s:aj) (last:Nat) (b:List cP),s.length<=n->s.length+b.length<=100000->∃o,f' ((last:Int),s,b)=some o/\∀l,o= .inr l->l.length<=s.length+b.length:=by
 intro n;induction n with
 |zero=>
  intro s last b h1 c;have:s=[]:=j4 (by omega);subst this;refine⟨.inr b,?_,λl ah=>by cases ah;omega⟩;rw[f'];rw[bz]
 |succ n ih=>
  intro s last b h1 c;rw[f'];by_cases hs:s=[]
  . subst hs;exact⟨.inr b,by rw[bz],λl ah=>by cases ah;omega⟩
  . have f:(!(decide (s=[])))=true:=(by simp[hs]);rw[ae f];rcases lR s with⟨e,he,a⟩|⟨m,k,a,v,g,j⟩
    . rw[oN he a];exact⟨.inl 12,rfl,λl ah=>by cases ah⟩
    . rw[mf a g];simp only[aS,ak];rw[uW j];by_cases u:m/2<=last\/1000<m/2
      . exact⟨.inl 12,by rw[bE],λl ah=>by cases ah⟩
      . have t:bY .i64 ((m/2:Nat):Int)=((m/2:Nat):Int):=jF;rw[cr,t,mg (by simp;omega)];simp only[ak];cases q:iw (s.drop k)with
        |none=>exact⟨.inl 12,rfl,λl ah=>by cases ah⟩
        |some p=>
         obtain⟨x,y⟩:=p;have ah:=oI q;rw[mA]at ah;have r:room 32 (b++[(⟨((m/2:Nat):Int),decide (b9 (m:Int) 2=1),(dP (some (x,y))).1⟩:cP)]).length=true:=cV;have aJ:¬((!(dP (some (x,y))).2.2)=true):=(by simp[dP]);rw[al aJ,ae r];obtain⟨o,d,bf⟩:=ih y (m/2) (b++[(⟨((m/2:Nat):Int),decide (b9 (m:Int) 2=1),x⟩:cP)]) (by omega) (by simp;omega);exact⟨o,d,λl i=>by have:=bf l i;simp at this;omega⟩
theorem acs{s:aj}(h:s.length<=90000):∃o,l5 s=some o/\o.1.length<=s.length:=by
 obtain⟨o,h1,b⟩:=NT s.length s 0 [] (eI _) (by simp;omega);have a:f' (0,s,[])=some o:=h1;rw[l5,a];cases o with
 |inl e=>exact⟨_,rfl,by simp⟩
 |inr l=>exact⟨_,rfl,by have:=b l rfl;simpa using this⟩
theorem acY:∀(n:Nat) (s:aj) (last:Nat) (b:List cP),s.length<=n->s.length+b.length<=100000->q' (s,(last:Int),b)=f' ((last:Int),s,b):=by
 intro n;induction n with
 |zero=>
  intro s last b h1 j;have:s=[]:=j4 (by omega);subst this;rw[f',q',bz,bz]
 |succ n ih=>
  intro s last b h1 j;rw[f',q',JQ];by_cases hs:s=[]
  . simp_all
  . have c:(!(decide (s=[])))=true:=(by simp[hs]);rw[ae c,ae c];rcases lR s with⟨e,he,a⟩|⟨m,k,a,t,d,l⟩
    . rw[oN he a,a];simp_all
    . rw[mf a d,a];simp only[aS,ak];rw[uW l];by_cases r:m/2<=last\/1000<m/2
      . have aM:(bif bif (!true)then true else decide (((m/2:Nat):Int)<=(last:Int))then true else decide (1000<((m/2:Nat):Int)))=true:=by simp;omega
        rw[ae aM];rw[ae];by_cases q:2001<m
        . simp;omega
        . have g:bY .i64 ((m/2:Nat):Int)=((m/2:Nat):Int):=jF;grind
      . have g:bY .i64 ((m/2:Nat):Int)=((m/2:Nat):Int):=jF;have i:¬(bif bif (!true)then true else decide (((m/2:Nat):Int)<=(last:Int))then true else decide (1000<((m/2:Nat):Int)))=true:=by simp;omega
        rw[g,cr,ae (jW d (eI _)),oM,Sk (by simp;omega),al i,mg (by simp;omega)];simp only[ak];cases o:iw (s.drop k)with
        |none=>rfl
        |some p=>
         obtain⟨x,y⟩:=p;have ah:=oI o;rw[mA]at ah;have f:room 32 (b++[(⟨((m/2:Nat):Int),decide (b9 (m:Int) 2=1),(dP (some (x,y))).1⟩:cP)]).length=true:=cV;have aJ:¬((!(dP (some (x,y))).2.2)=true):=(by simp[dP]);rw[al aJ,ae f,al aJ,ae f];exact ih y (m/2) (b++[(⟨((m/2:Nat):Int),decide (b9 (m:Int) 2=1),x⟩:cP)]) (by omega) (by simp;omega)
theorem acu{s:aj}(h:s.length<=90000):y' s=l5 s:=by
 have h1:q' (s,0,[])=f' (0,s,[]):=acY s.length s 0 [] (eI _) (by simp;omega);rw[l5,y',h1]<;>rfl
theorem aeU(s:aj):∃o,mb s=some o:=by
 rw[mb];rcases lR s with⟨e,he,a⟩|⟨m,k,a,d,b,f⟩
 . rw[oN he a];exact⟨_,rfl⟩
 . rw[mf a b];simp only[aS,ak];by_cases c:m<1\/1000<m
   . exact⟨(0,[],12),by rw[bE]⟩
   . rw[cr];exact⟨_,rfl⟩
theorem aeV(s:aj):∃o,mb s=some o/\zZ s=some o:=by
 rw[mb,zZ,JQ];rcases lR s with⟨e,he,a⟩|⟨m,k,a,d,b,f⟩
 . rw[oN he a,a];simp_all
 . rw[mf a b,a];simp only[aS,ak];by_cases c:m<1\/1000<m
   . exact⟨(0,[],12),by rw[bE],by rw[bE]⟩
   . rw[cr,cr,ae (jW b (eI _)),oM];grind
def ey(n:Nat):aj:=if n<128 then[UInt8.ofNat n]else UInt8.ofNat (n%128+128)::ey (n/128)
termination_by n
decreasing_by omega
theorem xj{n:Nat}(h:n<128):ey n=[UInt8.ofNat n]:=by rw[ey,ae h]
theorem xt{n:Nat}(h:¬n<128):ey n=UInt8.ofNat (n%128+128)::ey (n/128):=by rw[ey,al h]
theorem adX{a:Nat}(h:a<256):sd .u8 (a:Int) 128=((a%128+128:Nat):Int):=by
 have key:∀a:Nat,a<256->sd .u8 a 128=a%128+128:=by decide+kernel
 grind
theorem xO(n:Nat):bY .u8 (n:Int)=((n%256:Nat):Int):=by rfl
theorem aje(n:Nat):lO .u64 (n:Int) 7=((n/128:Nat):Int):=by
 unfold lO;have:(2^min (7:Int).toNat IntKind.u64.bits)=128:=by rfl
 grind
theorem abX(m:Nat)(l:ao):strOf ((m:Int)::l)=UInt8.ofNat m::strOf l:=rfl
theorem DE(a b:ao):strOf (a++b)=strOf a++strOf b:=qC
variable{α:Type}{p N:aj}{x:Option Bool}{names:List aj}{q:Bool}{f:aR×aR->Option Bool}{v:I}{t:ai}{S:List c1}{K E H M id:Int}{c:List aR}{ts:List ai}{L':Nat->Option (Int ⊕ Unit)}{o:Option (Int×Bool)}{L:Option (Bool ⊕ Unit)}{a:List α}
theorem Hu:∀(l:List α) (i:Nat) (x:α),i<l.length->(l.set i x).take (i+1)=l.take i++[x]
 |[],i,x,h=>by grind
 |a::l,0,x,h=>by rfl
 |a::l,i+1,x,h=>by simp[Hu l i x (by grind)]
theorem Sl:∀(f n i:Nat) (b:ao),i+f=9->n<128*128^f->b.length=10->∃(d c:Nat) (a:ao),tc ((n:Int),(i:Int),b)=some ((d:Int),(c:Int),a)/\d<128/\c<=9/\a.length=10/\strOf (a.take c)++[UInt8.ofNat d]=strOf (b.take i)++ey n
 |f,n,i,b,e,aJ,l=>by
  rw[tc];by_cases hs:n<128
  . rw[al (by grind)];grind[xj]
  . rw[ae (by grind),ae (aH (by
     omega)),ae (by
     grind)]
    match f,e,aJ with
    |0,e,aJ=>grind
    |f+1,e,aJ=>
     rw[aje,bA (by omega),xO,adX (yS _ (by simp))];have aC:n/128<128*128^f:=(by omega);obtain⟨d,c,a,h1,g,j,k,bf⟩:=Sl f _ (i+1) (b.set i _) (by omega) aC (by grind);refine⟨d,c,a,h1,g,j,k,?_⟩;rw[bf,Hu _ _ _ (by omega),DE,xt hs];have m:strOf [n%128+128]=[UInt8.ofNat _]:=rfl;grind
theorem ug{n:Nat}(aJ:n<18446744073709551616:=by omega):qg (n:Int)=some (ey n):=by
 obtain⟨a,e,f,h1,g,i,j,bf⟩:=Sl 9 n 0 [0,0,0,0,0,0,0,0,0,0] rfl (by grind) rfl;rw[qg];have b:tc (n,0,[0,0,0,0,0,0,0,0,0,0])=some _:=h1;rw[b];simp only[aS,ak];have d:d' 0 (e+1:Nat) 10=true:=jW (by simp) (by omega);rw[ae (aH (by omega)),ae (by grind),bA (by omega),ae d,ae (by grind[xG]),aV,xO];have:a%256=a:=oV (by omega);rw[this];simp;rw[Hu _ _ _ (by omega),DE];have c:strOf [a]=[UInt8.ofNat a]:=rfl;rw[c,bf];rfl
theorem NU:∀(f n:Nat) (b:ao),n<128^f->n<18446744073709551616->b.length+f<=1000->∃(c:Nat) (a:ao),nl ((n:Int),b)=some ((c:Int),a)/\c<128/\a.length<=1000/\strOf a++[UInt8.ofNat c]=strOf b++ey n
 |f,n,b,aJ,l,m=>by
  rw[nl];by_cases hs:n<128
  . rw[al (by grind)];grind[xj]
  . rw[ae (by grind)]
    match f,aJ with
    |0,aJ=>grind
    |f+1,aJ=>
     have k:b9 (n:Int) 128=((n%128:Nat):Int):=A0 (b:=128);have i:aK .u64 _ 128=((n%128+128:Nat):Int):=sH (b:=128) (by omega);have j:fB .u64 (n:Int) 128=((n/128:Nat):Int):=by
      grind[fB,Int.tdiv_eq_ediv_of_nonneg,lf]
     simp only[aS,ak];rw[k,i,j,xO,ae (cV (by simp) (by grind))];have aC:n/128<128^f:=(by omega);obtain⟨c,a,h1,d,e,g⟩:=NU f (n/128) (b++[(((n%128+128)%256:Nat):Int)]) aC (by omega) (by grind);refine⟨c,a,h1,d,e,?_⟩;rw[g,DE,xt hs];have o:strOf [((n%128+128:Nat):Int)]=[UInt8.ofNat (n%128+128)]:=rfl;grind
theorem zT{n:Nat}(aJ:n<18446744073709551616:=by omega):rv (n:Int)=some (ey n):=by
 obtain⟨a,d,h1,e,f,b⟩:=NU 10 n [] (by grind) aJ (by simp);rw[rv,h1];simp only[aS,ak];rw[ae (cV (by simp) (by grind)),xO,DE];have:a%256=a:=oV (by omega);rw[this];have c:strOf [a]=[UInt8.ofNat a]:=rfl;rw[c,b];rfl
theorem JA:∀(f n:Nat),n<128^(f+1)->(ey n).length<=f+1
 |f,n,aJ=>by
  by_cases hs:n<128
  . grind[xj]
  . rw[xt hs]
    match f,aJ with
    |0,aJ=>grind
    |f+1,aJ=>
     have:=JA f (n/128) (by omega);grind
theorem ko{n:Nat}(aJ:n<18446744073709551616):(ey n).length<=10:=JA 9 n (by grind)
theorem rL(n:Nat):0<(ey n).length:=by
 grind[ey]
theorem l8{n:Nat}(h:n<256):(UInt8.ofNat n).toNat=n:=by simp_all
theorem Sm:∀(f i acc n:Nat) (pre a:aj),i+f=10->pre.length=i->n*2^(7*i)<18446744073709551616->(n=0->i=0)->hy (pre++(ey n++a)) f i acc=(((acc+n*2^(7*i):Nat):Int),((i+(ey n).length:Nat):Int),0)
 |0,i,acc,n,pre,a,d,g,aJ,h0=>by grind
 |f+1,i,acc,n,pre,a,d,g,aJ,h0=>by
  have e:i<(pre++(ey n++a)).length:=by
   grind[rL]
  have b:∀(x:UInt8) (r:aj),ey n=x::r->(pre++(ey n++a)).getD i 0=x:=by grind
  simp only[hy];rw[ae e];by_cases hs:n<128
  . rw[b _ _ (xj hs),l8 (by omega),al (by
     grind),bl,al (by
     grind),xj hs]
    rfl
  . have j:i<9:=(by grind);rw[b _ _ (xt hs),l8 (by omega),bl,hQ];have k:n%128*2^(7*i)+n/128*2^(7*(i+1))=n*2^(7*i):=by
     rw[UU];have h1:n/128*(2^(7*i)*128)=(n/128*128)*2^(7*i):=(by grind);rw[h1,<-im];grind
    have c:n/128*2^(7*(i+1))<18446744073709551616:=(by omega);have:=Sm f _ (acc+n%128*2^(7*i)) _ (pre++[UInt8.ofNat (n%128+128)]) a (by omega) (by grind) c (by omega);have es:pre++(ey n++a)=pre++[UInt8.ofNat (n%128+128)]++(ey (n/128)++a):=by rw[xt hs];simp
    grind
theorem Ks{n:Nat}(aJ:n<18446744073709551616)(a:aj):hy (ey n++a) 10 0 0=((n:Int),((ey n).length:Int),0):=by
 have:=Sm 10 0 0 n [] a rfl rfl (by grind) (λ_=>rfl);grind
def dg(p:aj):aj:=ey p.length++p
theorem ga{n:Nat}(h:n<=9223372036854775807:=by omega):decide (n<=eE)=true:=by
 grind[eE]
theorem Eu(h:p.length<=1152921504606846976:=by omega):rV p=some (dg p):=by
 rw[rV,hz,ug];simp only[aS,ak];have:=ko (n:=p.length) (by omega);rw[ae (ga)];rfl
theorem Ez(h:p.length<=1152921504606846976:=by omega):rp p=some (dg p):=by
 rw[rp,hz,zT];simp only[aS,ak];have:=ko (n:=p.length) (by omega);rw[ae (ga)];rfl
def fr(id:Nat)(c:Bool)(p:aj):aj:=ey (2*id+(if c then 1 else 0))++dg p
theorem MQ(h:p.length<=1152921504606846976):(dg p).length<=p.length+10:=by
 grind[ko,dg]
theorem JB{id:Nat}{c:Bool}(f:id<=4611686018427387903)(h:p.length<=1152921504606846900:=by omega):wa ((id:Int),c,p)=some (fr id c p):=by
 rw[wa];have e:gB .u64 2 (bY .u64 id)=(2*id:Nat):=by rw[hz];exact uE (a:=2) (by omega)
 simp only[aS,ak];rw[e,Eu];have ah:=MQ (p:=p) (by omega);cases c with
 |true=>
  have d:aK .u64 _ 1=(2*id+1:Nat):=sH (b:=1) (by omega);rw[d,ug];have:=ko (n:=2*id+1) (by omega);simp only[ak];rw[ae (ga)];rfl
 |false=>
  rw[ug];have:=ko (n:=2*id) (by omega);simp only[ak];rw[ae (ga)];rfl
theorem MY{id:Nat}{c:Bool}(e:id<=4611686018427387903)(h:p.length<=1152921504606846900):ze ((id:Int),c,p)=some (fr id c p):=by
 rw[ze];have d:bY .u64 (gB .i64 2 id)=(2*id:Nat):=by
  rw[RE (by omega) (by omega)];have:(2:Int)*id=(2*id:Nat):=by rfl
  rw[this];exact hz
 simp only[aS,ak];rw[d,Ez];have ah:=MQ (p:=p) (by omega);cases c with
 |true=>
  have a:aK _ _ 1=(2*id+1:Nat):=sH (b:=1) (by omega);rw[a,zT];have:=ko (n:=2*id+1) (by omega);simp only[ak];rw[ae (ga)];rfl
 |false=>
  rw[zT];have:=ko (n:=2*id) (by omega);simp only[ak];rw[ae (ga)];rfl
theorem MZ{a:aj}(h:p.length<=100000):iw (dg p++a)=some (p,a):=by
 unfold iw dg;rw[gg,Ks (by omega)];simp;grind
theorem aa8{id:Nat}{c:Bool}{a:aj}{last:Nat}{b:List cP}(h1:last<id)(m:id<=1000)(h:(fr id c p++a).length<=100000)(k:b.length<=90000):
 f' ((last:Int),fr id c p++a,b)=f' ((id:Int),a,b++[⟨(id:Int),c,p⟩]):=by
 have f:p.length<=100000:=by
  grind[fr,dg,List.length_append]
 have n:fr id c p++a≠[]:=by
  intro l;grind[rL,fr,List.length_append,List.length_nil]
 have aq:hy (fr id c p++a) 10 0 0=(((2*id+(if c then 1 else 0):Nat):Int),((ey (2*id+(if c then 1 else 0))).length:Int),0):=by
  grind[fr,List.append_assoc,Ks]
 have aJ:=mf aq (by grind[fr]);have d:(fr id c p++a).drop (ey (2*id+(if c then 1 else 0))).length=dg p++a:=by
  grind[fr]
 rw[d]at aJ;have e:(2*id+(if c then 1 else 0))/2=id:=by grind
 have i:decide (b9 ((2*id+(if c then 1 else 0):Nat):Int) 2=1)=c:=by
  have:b9 _ 2=(((2*id+(if c then 1 else 0))%2:Nat):Int):=A0 (b:=2);grind
 rw[f',ae (by grind),aJ];simp only[aS,ak];rw[uW (by omega),e,al (by grind),i,mg (by grind),MZ f];simp only[ak];have j:bY .i64 (id:Int)=(id:Int):=jF (by simp);have o:¬((!(dP (some (p,a))).2.2)=true):=by simp[dP]
 rw[j];have g:room 32 (b++[(⟨(id:Int),c,(dP (some (p,a))).1⟩:cP)]).length=true:=cV (by simp) (by grind);rw[ae g];rfl
inductive bC:I->Prop
 |mk (v:I) (hs:v.bt.length<=reachBytes) (h1:v.aB.length<=reachBytes) (aiw:v.ag.length<=reachBytes) (ajP:v.Rest.length<=reachBytes)
  (hk:∀x,x∈v.aB->bC x) (Cy:∀x,x∈v.ag->bC x) (ajX:∀x,x∈v.Rest->x.Data.length<=reachBytes)
  (cZ: -9223372036854775808<=v.Kind/\v.Kind<=9223372036854775807) (aj3: -9223372036854775808<=v.bg/\v.bg<=9223372036854775807) (aj4: -9223372036854775808<=v.ad/\v.ad<=9223372036854775807)
  (aj5:∀x,x∈v.Rest->-9223372036854775808<=x.ad/\x.ad<=9223372036854775807):bC v
theorem dx{n:Nat}(h:n<=reachBytes):n<9223372036854775807:=Nat.lt_of_le_of_lt h (by decide)
theorem scan{c:Type}(L:Nat->Option c)(n:Nat)(p:Nat->Bool)(a b:c)(f:∀i,i<n->L i=if p i then L (i+1)else some a)(e:L n=some b):
 (L 0=some b/\∀j,j<n->p j=true)\/(L 0=some a/\∃j,j<n/\p j=false):=by
 have key:∀k i,i+k=n->(L i=some b/\∀j,i<=j->j<n->p j=true)\/(L i=some a/\∃j,j<n/\p j=false):=by
  intro k;induction k<;>grind
 rcases key n 0 (by simp)with⟨h1,d⟩|h
 all_goals grind
theorem dd{l:List α}{i:Nat}(h:i<l.length)(d:α):l.getD i d=l[i]:=by grind
theorem zB{b:List α}{p:Nat->Bool}(ah:a.length=b.length)(d:∀(i:Nat) (h1:i<a.length) (c:i<b.length),p i=true↔a[i]=b[i]):
 (∀j,j<a.length->p j=true)↔a=b:=by
 grind[List.ext_getElem]
def eX{α:Type}(o:Option Bool)(a b:α):Prop:=∃r,o=some r/\(r=true↔a=b)
theorem eX.GN{b:List α}{p:Nat->Bool}(ah:a.length=b.length)(e:∀(i:Nat) (h1:i<a.length) (c:i<b.length),p i=true↔a[i]=b[i]){o:Option Bool}
 (h:(o=some true/\∀j,j<a.length->p j=true)\/(o=some false/\∃j,j<a.length/\p j=false)):eX o a b:=by
 rcases h with⟨h1,c⟩|⟨h1,j,c,f⟩
 . exact⟨true,h1,by simp[(zB ah e).1 c]⟩
 . refine⟨false,h1,?_⟩;grind
theorem Sn{a b:bQ}:(hL a.ad b.ad&&(jx a.Data b.Data&&true))=true↔a=b:=by cases a;cases b;simp[hL,jx]
theorem Sp{a b:c1}:(hL a.ad b.ad&&(jx a.Name b.Name&&true))=true↔a=b:=by
 cases a;cases b;simp[hL,jx]
theorem xu{b:List α}(h:¬a.length=b.length):eX (some false) a b:=⟨false,rfl,by grind⟩
theorem Sq{a b:List bQ}(d:a.length<=reachBytes):eX (zk (a,b)) a b:=by
 rw[zk];by_cases ah:a.length=b.length
 . have f:=dx d;have:=scan (λi=>sX (a,b,(a.length:Int),(i:Int))) a.length (λi=>hL (a.getD i bP).ad (b.getD i bP).ad&&(jx (a.getD i bP).Data (b.getD i bP).Data&&true)) (.inl false) (.inr ())
    (λi e=>by
     rw[sX,ae (by grind),ae (aH e)];simp[aS,ak,aV];rw[ae (aH (by omega)),bA (by omega)]
     grind)
    (by simp_all[sX])
   refine eX.GN (p:=λi=>hL (a.getD i bP).ad (b.getD i bP).ad&&(jx (a.getD i bP).Data (b.getD i bP).Data&&true)) ah (λi h1 c=>by simp only[dd h1,dd c];exact Sn) ?_;grind
 . rw[ae (by grind)];exact xu ah
theorem aeW{a b:List c1}(d:a.length<=reachBytes):eX (Da (a,b)) a b:=by
 rw[Da];by_cases ah:a.length=b.length
 . have f:=dx d;have:=scan (λi=>sW (a,b,(a.length:Int),(i:Int))) a.length (λi=>hL (a.getD i dI).ad (b.getD i dI).ad&&(jx (a.getD i dI).Name (b.getD i dI).Name&&true)) (.inl false) (.inr ())
    (λi e=>by
     rw[sW,ae (aH e)];simp;rw[ae (aH (by omega)),bA (by omega)]
     grind)
    (by simp_all[sW])
   refine eX.GN (p:=λi=>hL (a.getD i dI).ad (b.getD i dI).ad&&(jx (a.getD i dI).Name (b.getD i dI).Name&&true)) ah (λi h1 c=>by simp only[dd h1,dd c];exact Sp) ?_;grind
 . rw[ae (by grind)];exact xu ah
theorem Eb(v:I):(⟨v.Kind,v.bS,v.bg,v.bt,v.ad,v.aB,v.ag,v.Rest⟩:I)=v:=by cases v;rfl
theorem Nl{a b:I}:a=b↔a.Kind=b.Kind/\a.bS=b.bS/\a.bg=b.bg/\a.bt=b.bt/\a.ad=b.ad/\a.Rest=b.Rest/\a.aB=b.aB/\a.ag=b.ag:=by
 constructor
 . grind
 . cases a;cases b;grind
section
variable {f:I×I->Option Bool}
theorem H8 {a b:List I}(ah:a.length=b.length)(ih:∀x,x∈a->∀y,eX (f (x,y)) x y)(L:Nat->Option (Bool ⊕ Unit))
 (l:∀i,i<a.length->L i=(f (I.eta (a.getD i ar),I.eta (b.getD i ar))>>=λr=>if !r then some (.inl false)else L (i+1)))
 (e:L a.length=some (.inr ())):eX (L 0>>=λo=>match o with|.inl x=>some x|.inr _=>some true) a b:=by
 have d:∀(i:Nat) (h1:i<a.length) (c:i<b.length),eX (f (I.eta (a.getD i ar),I.eta (b.getD i ar))) a[i] b[i]:=by
  grind[dd,I.aP]
 have:=scan L a.length (λi=>(f (I.eta (a.getD i ar),I.eta (b.getD i ar))).getD false) (.inl false) (.inr ())
  (λi g=>by
   obtain⟨r,h1,c⟩:=d i g (by omega)
   grind) e
 refine eX.GN ah (λi h1 c=>?_) ?_ (p:=λi=>(f (I.eta (a.getD i ar),I.eta (b.getD i ar))).getD false)
 . obtain⟨r,j,k⟩:=d i h1 c;grind
 grind
end
theorem Qc{a b:List I}(c:a.length<=reachBytes)(ih:∀x,x∈a->∀y,eX (nq (x,y)) x y):eX (vJ (a,b)) a b:=by
 rw[vJ];by_cases ah:a.length=b.length
 . rw[al (by grind)];have e:=dx c;exact H8 ah ih (λi=>vH (b,a,a.length,i))
    (λi d=>by
     rw[vH,ae (by grind),ae (aH d),ae (aH (by omega)),bA (by omega)]
     rfl)
    (by grind[vH])
 . rw[ae (by grind)];exact xu ah
theorem Qd{a b:List I}(c:a.length<=reachBytes)(ih:∀x,x∈a->∀y,eX (l9 (x,y)) x y):eX (yI (a,b)) a b:=by
 rw[yI];by_cases ah:a.length=b.length
 . rw[al (by grind)];have e:=dx c;exact H8 ah ih (λi=>vI (b,a,a.length,i))
    (λi d=>by
     rw[vI,ae (by grind),ae (aH d),ae (aH (by omega)),bA (by omega)]
     rfl)
    (by simp_all[vI])
 . rw[ae (by grind)];exact xu ah
theorem Qe{a b:List I}(c:a.length<=reachBytes)(ih:∀x,x∈a->∀y,eX (jN (x,y)) x y):eX (zm (a,b)) a b:=by
 rw[zm];by_cases ah:a.length=b.length
 . rw[al (by grind)];have e:=dx c;exact H8 ah ih (λi=>vL (a,b,i))
    (λi d=>by
     rw[vL,ae (by grind),ae (aH d),ae (aH (by omega)),bA (by omega)]
     rfl)
    (by grind[vL])
 . rw[ae (by grind)];exact xu ah
theorem three{a b:I}{bf:Bool}(lJ:bf=true↔a.Kind=b.Kind/\a.bS=b.bS/\a.bg=b.bg/\a.bt=b.bt/\a.ad=b.ad){y z:Option Bool}(e:eX x a.Rest b.Rest)(g:eX y a.aB b.aB)(j:eX z a.ag b.ag):
 eX (some bf>>=λt37=>(if t37 then x else some false)>>=λr=>some (bif t37 then r else false)>>=λt44=>(if t44 then y else some false)>>=λl=>some (bif t44 then l else false)>>=λt51=>(if t51 then z else some false)>>=λm=>some (bif t51 then m else false)) a b:=by
 obtain⟨c,f,o⟩:=e;obtain⟨d,i,p⟩:=g;obtain⟨n,k,q⟩:=j;subst f;subst i;subst k;refine⟨bf&&c&&d&&n,?_,?_⟩
 . cases bf<;>cases c<;>cases d<;>rfl
 grind[Nl]
theorem Uu{a b:I}:(bif bif bif bif decide (a.Kind=b.Kind)then fy a.bS b.bS else false then decide (a.bg=b.bg)else false then decide (a.bt=b.bt)else false then decide (a.ad=b.ad)else false)=true↔a.Kind=b.Kind/\a.bS=b.bS/\a.bg=b.bg/\a.bt=b.bt/\a.ad=b.ad:=by
 grind[fy]
theorem MR{a:I}(h:bC a):∀b,eX (nq (a,b)) a b:=by
 induction h with
 |mk a hs h1 c d i g j cZ k l m f e=>
  intro b;rw[nq];exact three Uu (Sq d) (Qc h1 f) (Qc c e)
theorem EK{a:I}(h:bC a):∀b,eX (l9 (a,b)) a b:=by
 induction h with
 |mk a hs h1 c d i g j cZ k l m f e=>
  intro b;rw[l9];exact three Uu (Sq d) (Qd h1 f) (Qd c e)
theorem Fh{a:I}(h:bC a):∀b,eX (jN (a,b)) a b:=by
 induction h with
 |mk a hs h1 d g t s u cZ y z A o n=>
  intro b;rw[jN];by_cases bf:a.Kind=b.Kind/\a.bS=b.bS/\a.bg=b.bg/\a.bt=b.bt/\a.ad=b.ad/\a.Rest.length=b.Rest.length
  . obtain⟨aM,q,c2,h5,lJ,mU⟩:=bf;rw[al (by grind[fy])];have v:=dx g;have f:=scan (λi=>pt ((i:Int),a,b)) a.Rest.length (λi=>hL (a.Rest.getD i bP).ad (b.Rest.getD i bP).ad&&(jx (a.Rest.getD i bP).Data (b.Rest.getD i bP).Data&&true)) (.inl false) (.inr (a,b))
     (λi k=>by
      rw[pt,ae (aH k)];simp only[aS,ak,aV,I.aP];rw[ae (aH (by omega)),bA (by omega)]
      grind)
     (by rw[pt,bz,I.aP,I.aP])
    have h0:pt (((0:Nat):Int),a,b)=pt (0,a,b):=rfl;simp only[h0]at f;rw[Eb,Eb];have l:∀(i:Nat) (h1:i<a.Rest.length) (d:i<b.Rest.length),(hL (a.Rest.getD i bP).ad (b.Rest.getD i bP).ad&&(jx (a.Rest.getD i bP).Data (b.Rest.getD i bP).Data&&true))=true↔a.Rest[i]=b.Rest[i]:=λi h1 d=>by grind[dd,Sn]
    rcases f with⟨c,e⟩|⟨c,j,e,r⟩
    . have w:=(zB mU l).1 e;rw[c];obtain⟨ky,k1,k2⟩:=Qe (a:=a.aB) (b:=b.aB) h1 o;obtain⟨p,m,x⟩:=Qe (a:=a.ag) (b:=b.ag) d n;simp only[aS,ak];rw[k1,m];refine⟨ky&&p,by cases ky<;>rfl,?_⟩;simp_all[Nl,c7]
    . rw[c];refine⟨false,rfl,?_⟩;grind
  . rw[ae]
    . refine⟨false,rfl,?_⟩;grind
    . simp only[CM,fy];grind
def qo(c:Int):Bool:=decide (c=95\/(97<=c/\c<=122)\/(65<=c/\c<=90))
def Be(c:Int):Bool:=decide (48<=c/\c<=57)
theorem Ec(c:Int):Ad c=some (qo c):=by
 rw[Ad];unfold qo;grind
theorem Nn(c:Int):y7 c=some (qo c):=by
 rw[y7];unfold qo;grind
theorem acZ(c:Int):Ds c=some (Be c):=by
 rw[Ds];unfold Be;grind
theorem ac0(c:Int):DO c=some (Be c):=by
 rw[DO];unfold Be;grind
theorem OQ{f:Type}(A B cu:Bool)(a b:Option f)(c:cu=true):
 (some A>>=λd=>some (!d)>>=λt26=>if(cu||(!t26)) then(if t26 then some B else some false)>>=λe=>if(bif t26 then(!e)else false) then a else b else none)=if(A||B) then b else a:=by
 subst c;cases A<;>cases B<;>rfl
theorem Qf(s:aj):∃r,kL s=some r/\te s=some r:=by
 rw[kL,te];simp only[aS,ak];by_cases d:s=[]\/24<s.length
 . have ht:(bif decide (s=[])then true else decide (24<(s.length:Int)))=true:=(by grind);rw[ht];simp_all
 . have f:s≠[]:=λh=>d (.inl h);have l:s.length<=24:=(by omega);have ht:(bif decide (s=[])then true else decide (24<(s.length:Int)))=false:=(by grind);have g:0<s.length:=xf.2 f;have e:ay 0 s.length=true:=aH (k:=0) g;simp only[ht,e,w7,bM,en,ak,Ec,Nn,dU];cases ah:qo (fY s 0)with
   |false=>exact⟨false,rfl,rfl⟩
   |true=>
    rw[bz,bz];let p:Nat->Bool:=λi=>qo (fY s i)||Be (fY s i);have s1:=scan (λi=>l1 (s,(s.length:Int),(i:Int))) s.length p (.inl false) (.inr ())
     (λi a=>by
      rw[l1,bE,ae (aH a),Ec,acZ,bA (by omega)]
      exact OQ _ _ _ _ _ (aH a))
     (by rw[l1,bz])
    have b:=scan (λi=>p5 (s,(i:Int))) s.length p (.inl false) (.inr ())
     (λi a=>by
      rw[p5,bE,ae (aH a),Nn,ac0,bA (by omega)]
      exact OQ _ _ _ _ _ (aH a))
     (by rw[p5,bz])
    have aM:l1 (s,(s.length:Int),((0:Nat):Int))=l1 (s,(s.length:Int),0):=rfl;have c:p5 (s,((0:Nat):Int))=p5 (s,0):=rfl;simp only[aM,c]at s1 b;rcases s1 with⟨a1,a2⟩|⟨a1,j,a2,a3⟩<;>rcases b with⟨b1,b2⟩|⟨b1,k,b2,b3⟩
    . simp_all
    . grind
    . grind
    simp_all
def nm(s:aj):Bool:=(kL s).getD false
theorem tJ(s:aj):kL s=some (nm s):=by
 obtain⟨r,h1,_⟩:=Qf s;unfold nm;rw[h1];rfl
theorem AZ(s:aj):te s=some (nm s):=by
 obtain⟨r,h1,a⟩:=Qf s;unfold nm;rw[h1,a];rfl
theorem Gn{s:aj}(h:nm s=true):s≠[]:=by
 rintro rfl
 unfold nm at h;rw[kL]at h;simp at h
def kr(l:ao)(names:List aj)(i:Nat):Bool:=
 decide (1<=l.getD i 0)&&decide (l.getD i 0<=1000)&&(decide (i=0)||decide (l.getD (i-1) 0<l.getD i 0))&&nm (names.getD i []) && !((names.take i).contains (names.getD i []))
def lN(l:List aj):List aj:=l.foldl iN []
theorem ac1(ks:List aj)(a s:aj):jz (iN ks a) s=(jz ks s||decide (a=s)):=by
 unfold iN;split
 . grind
 . simp[jz,List.any_append]
theorem MS(l:List aj)(s:aj):jz (lN l) s=l.contains s:=by
 have key:∀(l:List aj) (ks:List aj),jz (l.foldl iN ks) s=(jz ks s||l.contains s):=by
  intro l;induction l with
  |nil=>intro ks;simp
  |cons a r ih=>
   intro ks;rw[List.foldl_cons,ih,ac1,Bool.or_assoc];grind
 have:=key l [];simpa[lN,jz]using this
theorem MT{l:List aj}{i:Nat}(h:i<l.length):iN (lN (l.take i)) (l.getD i [])=lN (l.take (i+1)):=by
 unfold lN;rw[GH,List.foldl_append,fb h,dd h];rfl
theorem adY{g:Type}(A a b C cu H N:Bool)(c d:Option g)(e:cu=true)(f:a=true->b=true):
 (if(b||(!((!A)&&a))) then
  some (bif A then true else bif a then C else false)>>=λt34=>
  if(cu||(!(!t34))) then
   some (bif t34 then true else H)>>=λt42=>
   if(cu||(!(!t42))) then
    (if !t42 then some N else some false)>>=λr=>
    if(bif t42 then true else(!r)) then c else(if cu then d else none)
   else none
  else none
 else none)=if !A&&(!a || !C)&&N && !H then d else c:=by
 subst e;cases a with
 |true=>have:=f rfl;subst this;cases A<;>cases C<;>cases H<;>cases N<;>rfl
 |false=>cases A<;>cases b<;>cases C<;>cases H<;>cases N<;>rfl
theorem Sr{l:ao}(ah:l.length<=reachBytes)(aJ:names.length=l.length):∃r,zI (l,names)=some r/\(r=true↔(∀i,i<l.length->kr l names i=true)/\l.length<=16):=by
 rw[zI];have m:=dx ah;have b:=scan (λi=>pS (l,names,l,(l.length:Int),(i:Int),lN (names.take i))) l.length (kr l names) (.inl false) (.inr l)
  (λi d=>by
   have a:i<names.length:=(by omega);rw[pS,bE,ae (aH d)];simp only[aV];rw[tJ,bA (by omega),MT a,MS];have f:0<i->di .i64 (i:Int) 1=((i-1:Nat):Int):=by intro h;rw[hJ (by omega) (by omega)];omega
   refine(adY (bif decide (l.getD i 0<1)then true else decide (1000<l.getD i 0)) (decide ((0:Int)<(i:Int))) (ay (di .i64 (i:Int) 1) l.length) (decide (l.getD i 0<=l.getD (di .i64 (i:Int) 1).toNat 0)) (ay (i:Int) names.length) ((names.take i).contains (names.getD i [])) (nm (names.getD i [])) _ _ (aH a) (λg=>?_)).trans ?_
   . have e:0<i:=by simp at g;omega
     rw[f e];exact aH (by omega)
   . have:(!(bif decide (l.getD i 0<1)then true else decide (1000<l.getD i 0))&&(!(decide ((0:Int)<(i:Int))) || !(decide (l.getD i 0<=l.getD (di .i64 (i:Int) 1).toNat 0)))&&nm (names.getD i []) && !((names.take i).contains (names.getD i [])))=kr l names i:=by
      unfold kr;grind
     rw[this])
  (by rw[pS,bz])
 have cQ:pS (l,names,l,(l.length:Int),((0:Nat):Int),lN (names.take 0))=pS (l,names,l,(l.length:Int),0,[]):=rfl;simp only[cQ]at b;rcases b with⟨h1,c⟩|⟨h1,j,c,k⟩
 . rw[h1];refine⟨decide ((l.length:Int)<=16),rfl,?_⟩;grind
 . rw[h1];refine⟨false,rfl,?_⟩;grind
theorem C1{k n:Nat}(a:k<=16)(h:n*24<=reachBytes:=by simp;omega):room k n=true:=by
 unfold room hF dT;unfold reachBytes at h;simp only[c7,e4];have:(2*n+192)*k<=(2*n+192)*16:=Nat.mul_le_mul_left _ a;omega
theorem xl(l:List α)(i:Nat)(d:α)(h:i<l.length):l.take i++[l.getD i d]=l.take (i+1):=by simp_all
theorem iE{a:Type}(f:α->a)(l:List α)(i:Nat)(d:α)(e:a)(h:i<l.length):(l.map f).getD i e=f (l.getD i d):=by grind
theorem pV{l:List aj}{i:Nat}{s:aj}(b:i<=l.length:=by simp;omega):(l.take i).contains s=true↔∃k,k<i/\l.getD k []=s:=by
 rw[List.contains_iff_mem];constructor
 . intro h;obtain⟨k,a,he⟩:=e3 h;rw[uQ]at a;refine⟨k,by omega,?_⟩;grind
 . rintro ⟨k,a,he⟩
   rw[<-he,dd (by omega)];have:(l.take i)[k]'(by rw[uQ];omega)=l[k]:=List.getElem_take;grind
def lZ(l:ao)(i:Nat):Int:=if i=0 then 0 else l.getD (i-1) 0
theorem Qg{l:ao}{i:Nat}(e:i<l.length)(aJ:names.length=l.length):
 kr l names i=(decide (lZ l i<l.getD i 0)&&decide (1<=l.getD i 0)&&decide (l.getD i 0<=1000)&&nm (names.getD i []) && !((names.take i).contains (names.getD i []))):=by
 unfold kr lZ;generalize l.getD i 0=x;generalize l.getD (i-1) 0=y;generalize nm (names.getD i [])=a;generalize (names.take i).contains (names.getD i [])=b;by_cases h0:i=0
 . subst h0;by_cases h1:1<=x
   . have:decide ((0:Int)<x)=true:=by simp;omega
     simp[h1,this]
   . simp[h1]
 . simp only[h0,b6,c6,Bool.false_or];by_cases h1:1<=x<;>by_cases c:x<=1000<;>by_cases d:y<x<;>simp[h1,c,d]
theorem MU(l:List c1)(ah:l.length*24<=reachBytes):∀(k i:Nat),i+k=l.length->rk (l,l,(l.length:Int),(i:Int),(l.map (·.ad)).take i,(l.map (·.Name)).take i)=some (l,l.map (·.ad),l.map (·.Name))
 |0,i,h=>by
  have:i=l.length:=by omega
  subst this;rw[rk,bz];rw[uO (by simp),uO (by simp)]
 |k+1,i,h=>by
  have b:l.length<9223372036854775807:=by unfold reachBytes at ah;omega
  have a:i<l.length:=by omega
  rw[rk,bE,ae (aH a)];simp only[aS,ak,aV];rw[<-iE (·.ad) l i dI 0 a,<-iE (·.Name) l i dI [] a,xl _ _ _ (by simpa using a),xl _ _ _ (by simpa using a)];rw[ae (C1 (by omega)),ae (C1 (by omega)),bA (by omega)];exact MU l ah k (i+1) (by omega)
theorem Qh{l:List c1}(ah:l.length*24<=reachBytes):∃r,vV l=some r/\(r=true↔0<l.length/\(∀i,i<l.length->kr (l.map (·.ad)) (l.map (·.Name)) i=true)/\l.length<=16):=by
 have h:=MU l ah l.length 0 (by omega);have a:rk (l,l,(l.length:Int),0,[],[])=some (l,l.map (·.ad),l.map (·.Name)):=h;rw[vV,a];simp only[aS,ak];obtain⟨r,h1,b⟩:=Sr (l:=l.map (·.ad)) (names:=l.map (·.Name)) (by simp;unfold reachBytes at*;omega) (by simp);rw[jc]at b;grind
theorem U2(a b:Int):Ag (a,b)=some (decide (a<b)&&decide (1<=b)&&decide (b<=1000)):=by
 rw[Ag];grind
theorem abY(l:List c1)(ah:l.length<=reachBytes)(i:Nat)(b:i<l.length):
 nY (l,(i:Int),0)=some (if((l.map (·.Name)).take i).contains ((l.map (·.Name)).getD i []) then .inl false else .inr (l,(i:Int))):=by
 have f:=dx ah;have d:=scan (λk=>nY (l,(i:Int),(k:Int))) i (λk=>!(decide ((l.getD k dI).Name=(l.getD i dI).Name))) (.inl false) (.inr (l,(i:Int)))
  (λk c=>by
   rw[nY,bE,ae (aH (by omega)),ae (aH b),bA (by omega)]
   grind)
  (by rw[nY,bz])
 have cQ:nY (l,(i:Int),((0:Nat):Int))=nY (l,(i:Int),0):=rfl;simp only[cQ]at d;rw[iE (·.Name) l i dI [] b];rcases d with⟨h1,a⟩|⟨h1,j,a,e⟩
 . rw[h1,al];rw[pV]
   rintro ⟨k,c,he⟩
   rw[iE (·.Name) l k dI [] (by omega)]at he;have:=a k c;rw[he]at this;simp at this
 . rw[h1,ae];rw[pV];refine⟨j,a,?_⟩;rw[iE (·.Name) l j dI [] (by omega)];simpa using e
theorem adZ{l:List c1}(ah:l.length<=reachBytes):∃r,y1 l=some r/\(r=true↔0<l.length/\(∀i,i<l.length->kr (l.map (·.ad)) (l.map (·.Name)) i=true)/\l.length<=16):=by
 have f:=dx ah;have b:=scan (λi=>pA (l,lZ (l.map (·.ad)) i,(i:Int))) l.length (kr (l.map (·.ad)) (l.map (·.Name))) (.inl false) (.inr l)
  (λi a=>by
   rw[pA,bE,ae (aH a),U2,abY l ah i a,Qg (by simpa using a) (by simp)];simp only[aS,ak,aV];rw[<-iE (·.ad) l i dI 0 a,<-iE (·.Name) l i dI [] a,AZ];generalize (decide (lZ (l.map (·.ad)) i<(l.map (·.ad)).getD i 0)&&decide (1<=(l.map (·.ad)).getD i 0)&&decide ((l.map (·.ad)).getD i 0<=1000))=q;rw[ae (by rw[aH a];rfl)];cases q with
   |false=>rfl
   |true=>
    simp only[de,en,bM,ak,nC];cases nm ((l.map (·.Name)).getD i [])with
    |false=>rfl
    |true=>
     simp only[de,dU,bW,b6,nC];cases e:((l.map (·.Name)).take i).contains ((l.map (·.Name)).getD i [])with
     |true=>simp
     |false=>
      simp only[bW,b6,en,bM];rw[ae (aH a),bA (by omega)];have:lZ (l.map (·.ad)) (i+1)=(l.getD i dI).ad:=by
       unfold lZ;grind
      grind)
  (by rw[pA,bz])
 have cQ:pA (l,lZ (l.map (·.ad)) 0,((0:Nat):Int))=pA (l,0,0):=rfl;simp only[cQ]at b;rw[y1];rcases b with⟨h1,c⟩|⟨h1,j,c,d⟩
 . rw[h1];refine⟨_,rfl,?_⟩;grind
 . rw[h1];refine⟨false,rfl,?_⟩;grind
theorem acv{l:List c1}(ah:l.length*24<=reachBytes):∃r,vV l=some r/\y1 l=some r:=by
 obtain⟨r,h1,a⟩:=Qh ah;obtain⟨q,b,c⟩:=adZ (l:=l) (by unfold reachBytes at*;omega);grind
structure eW (t:ai):Prop where
 syms:t.bj.length*24<=reachBytes
 ha:t.af.length*24<=reachBytes
 iG:∀m,m∈t.af->bC m.bm
theorem ig{n:Nat}(h:n*24<=reachBytes):n<=reachBytes:=by unfold reachBytes at*;omega
theorem abZ{a b:aR}:a=b↔a.ad=b.ad/\a.Name=b.Name/\a.av=b.av/\a.b8=b.b8/\a.bu=b.bu/\a.bm=b.bm:=by cases a;cases b;simp
theorem gw(x:aR):(⟨x.ad,x.Name,x.av,x.b8,x.bu,I.eta x.bm⟩:aR)=x:=by cases x;simp[I.aP]
theorem Uv{a b:aR}:(bif bif bif bif decide (a.ad=b.ad)then decide (a.Name=b.Name)else false then decide (a.av=b.av)else false then fy a.b8 b.b8 else false then fy a.bu b.bu else false)=true↔a.ad=b.ad/\a.Name=b.Name/\a.av=b.av/\a.b8=b.b8/\a.bu=b.bu:=by
 simp only[CM,fy];grind
theorem U9{a b:aR}(f:q=true↔a.ad=b.ad/\a.Name=b.Name/\a.av=b.av/\a.b8=b.b8/\a.bu=b.bu)(g:eX x a.bm b.bm):
 eX (some q>>=λt37=>(if t37 then x else some false)>>=λr=>some (bif t37 then r else false)) a b:=by
 obtain⟨d,h1,e⟩:=g;subst h1;refine⟨q&&d,by cases q<;>cases d<;>rfl,?_⟩;rw[abZ,c7,f,e];constructor
 . rintro ⟨⟨a1,a2,a3,a4,a5⟩,c⟩;exact⟨a1,a2,a3,a4,a5,c⟩
 . rintro ⟨a1,a2,a3,a4,a5,c⟩;exact⟨⟨a1,a2,a3,a4,a5⟩,c⟩
theorem acw{a:aR}(h:bC a.bm)(b:aR):eX (Ac (a,b)) a b:=by
 rw[Ac];simp only[Eb,I.aP];exact U9 Uv (EK h _)
theorem acx{a:aR}(h:bC a.bm)(b:aR):eX (zo (a,b)) a b:=by
 rw[zo];simp only[Eb,I.aP];exact U9 Uv (Fh h _)
theorem M0{m:Type}{g:m}{a b:List aR}(ah:a.length=b.length)(ih:∀x,x∈a->∀y,eX (f (x,y)) x y)(L:Nat->Option (Bool ⊕ m))
 (q:∀i,i<a.length->L i=(f (a.getD i aw,b.getD i aw)>>=λr=>if !r then some (.inl false)else L (i+1)))
 (n:L a.length=some (.inr g)):(L 0=some (.inr g)/\a=b)\/(L 0=some (.inl false)/\a≠b):=by
 have k:∀(i:Nat) (h1:i<a.length) (c:i<b.length),eX (f (a.getD i aw,b.getD i aw)) a[i] b[i]:=by grind
 have l:∀(i:Nat) (h1:i<a.length) (c:i<b.length),(f (a.getD i aw,b.getD i aw)).getD false=true↔a[i]=b[i]:=by
  intro i h1 c;obtain⟨r,d,p⟩:=k i h1 c;grind
 have:=scan L a.length (λi=>(f (a.getD i aw,b.getD i aw)).getD false) (.inl false) (.inr g)
  (λi o=>by
   obtain⟨r,h1,c⟩:=k i o (by omega)
   grind) n
 rcases this with⟨h1,c⟩|⟨h1,j,c,d⟩
 . exact .inl ⟨h1,(zB ah l).1 c⟩
 . refine .inr ⟨h1,λe=>?_⟩;have:=(zB ah l).2 e j c;rw[d]at this;cases this
theorem ZQ{a b:List aR}(d:a.length<=reachBytes)(e:∀m,m∈a->bC m.bm):eX (C8 (a,b)) a b:=by
 rw[C8];by_cases ah:a.length=b.length
 . rw[cr];have l:=dx d;have hs:=M0 (g:=()) ah (f:=Ac) (λx k y=>acw (e x k) y) (λi=>pk (b,a,(a.length:Int),(i:Int)))
    (λi j=>by
     rw[pk,bE,ae (aH j)];simp only[aS,ak,aV,gw]
     rw[ae (aH (by omega)),bA (by omega)])
    (by rw[pk,bz])
   have cQ:pk (b,a,(a.length:Int),((0:Nat):Int))=pk (b,a,(a.length:Int),0):=rfl;simp only[cQ]at hs;rcases hs with⟨h1,c⟩|⟨h1,c⟩
   . rw[h1];exact⟨true,rfl,by simp[c]⟩
   . rw[h1];exact⟨false,rfl,by simp[c]⟩
 . rw[bE];exact xu ah
theorem Ol{a b:ai}:a=b↔a.Kind=b.Kind/\a.Name=b.Name/\a.bJ=b.bJ/\a.bN=b.bN/\a.Max=b.Max/\a.Key=b.Key/\a.aD=b.aD/\a.Open=b.Open/\a.bj=b.bj/\a.af=b.af:=by
 cases a;cases b;grind
theorem aeX{a b:ai}:(bif bif bif bif bif bif bif decide (a.Kind=b.Kind)then decide (a.Name=b.Name)else false then decide (a.bJ=b.bJ)else false then decide (a.bN=b.bN)else false then decide (a.Max=b.Max)else false then decide (a.Key=b.Key)else false then decide (a.aD=b.aD)else false then fy a.Open b.Open else false)=true↔
 a.Kind=b.Kind/\a.Name=b.Name/\a.bJ=b.bJ/\a.bN=b.bN/\a.Max=b.Max/\a.Key=b.Key/\a.aD=b.aD/\a.Open=b.Open:=by
 simp only[CM,fy];by_cases h1:a.Kind=b.Kind<;>by_cases c:a.Name=b.Name<;>by_cases d:a.bJ=b.bJ<;>by_cases e:a.bN=b.bN<;>simp[h1,c,d,e];by_cases bf:a.Max=b.Max<;>by_cases f:a.Key=b.Key<;>by_cases g:a.aD=b.aD<;>simp[bf,f,g]
theorem iU{a:ai}(h:eW a)(b:ai):eX (h2 (a,b)) a b:=by
 rw[h2];obtain⟨d,s1,g⟩:=aeW (a:=a.bj) (b:=b.bj) (ig h.syms);obtain⟨c,e,f⟩:=ZQ (a:=a.af) (b:=b.af) (ig h.ha) h.iG;have e8:=aeX (a:=a) (b:=b);generalize (bif bif bif bif bif bif bif decide (a.Kind=b.Kind)then decide (a.Name=b.Name)else false then decide (a.bJ=b.bJ)else false then decide (a.bN=b.bN)else false then decide (a.Max=b.Max)else false then decide (a.Key=b.Key)else false then decide (a.aD=b.aD)else false then fy a.Open b.Open else false)=q at e8⊢;simp only[aS,ak];rw[s1,e];refine⟨q&&d&&c,by cases q<;>cases d<;>cases c<;>rfl,?_⟩;rw[Ol,c7,c7,e8,g,f];grind
theorem D3(a:ai):(⟨a.Kind,a.Name,a.bJ,a.bN,a.Max,a.bj,a.af,a.Key,a.aD,a.Open⟩:ai)=a:=by cases a;rfl
theorem qp{a:ai}(h:eW a)(b:ai):eX (Di (a,b)) a b:=by
 rw[Di];simp only[D3];by_cases bf:(a.Kind=b.Kind/\a.Name=b.Name/\a.bJ=b.bJ/\a.bN=b.bN/\a.Max=b.Max/\a.Key=b.Key/\a.aD=b.aD/\a.Open=b.Open)/\a.bj.length=b.bj.length/\a.af.length=b.af.length
 . obtain⟨⟨aM,l,c2,h5,lJ,mU,T9,e8⟩,Cq,B6⟩:=bf;rw[al (by simp[aM,l,c2,h5,lJ,mU,T9,e8,Cq,B6,fy])];have v:=dx (ig h.syms);have w:=dx (ig h.ha);have k:=scan (λi=>pw ((i:Int),a,b)) a.bj.length (λi=>hL (a.bj.getD i dI).ad (b.bj.getD i dI).ad&&(jx (a.bj.getD i dI).Name (b.bj.getD i dI).Name&&true)) (.inl false) (.inr (a,b))
    (λi n=>by
     rw[pw,bE,ae (aH n)];simp only[aS,ak,aV];rw[ae (aH (by omega)),bA (by omega)]
     grind)
    (by rw[pw,bz])
   have h0:pw (((0:Nat):Int),a,b)=pw (0,a,b):=rfl;simp only[h0]at k;have o:∀(i:Nat) (h1:i<a.bj.length) (e:i<b.bj.length),(hL (a.bj.getD i dI).ad (b.bj.getD i dI).ad&&(jx (a.bj.getD i dI).Name (b.bj.getD i dI).Name&&true))=true↔a.bj[i]=b.bj[i]:=λi h1 e=>by rw[dd h1,dd e];exact Sp
   rcases k with⟨c,d⟩|⟨c,j,d,u⟩
   . have z:=(zB Cq o).1 d;rw[c];simp only[aS,ak];have hs:=M0 (g:=()) B6 (f:=zo) (λx p y=>acx (h.iG x p) y) (λi=>px ((i:Int),a,b))
      (λi m=>by
       rw[px,bE,ae (aH m)];simp only[aS,ak,aV,gw]
       rw[ae (aH (by omega)),bA (by omega)])
      (by rw[px,bz])
     have cQ:px (((0:Nat):Int),a,b)=px (0,a,b):=rfl;simp only[cQ]at hs;rcases hs with⟨k1,k2⟩|⟨k1,k2⟩
     . rw[k1];refine⟨true,rfl,?_⟩;rw[Ol];grind
     . rw[k1];refine⟨false,rfl,?_⟩;grind
   . rw[c];refine⟨false,rfl,?_⟩;grind
 . rw[ae]
   . refine⟨false,rfl,?_⟩;grind
   . simp only[CM,fy];by_cases q:a.Kind=b.Kind<;>by_cases r:a.Name=b.Name<;>by_cases s:a.bJ=b.bJ<;>by_cases t:a.bN=b.bN<;>simp[q,r,s,t];grind
def qw(v:I):Bool:=(l9 (v,ar)).getD false
theorem ad0(h:bC v):l9 (v,ar)=some (qw v):=by
 obtain⟨r,h1,a⟩:=EK h ar;unfold qw;rw[h1];rfl
theorem ad1(h:bC v):jN (v,ar)=some (qw v):=by
 obtain⟨r,h1,b⟩:=EK h ar;obtain⟨q,a,c⟩:=Fh h ar;unfold qw;rw[h1,a];grind
theorem ac2(h:bC v):DA v=some (qw v):=by
 rw[DA,I.aP];have:=ad0 h;unfold ar at this;grind
def mQ(a:Bool)(m:aR):Bool:=(a&&(m.b8||m.bu))||(m.b8&&m.bu)||(!m.bu && !qw m.bm)
theorem aZ{l:List α}{i:Nat}(h:i<l.length)(d:α):l.getD i d∈l:=by grind
theorem MV(h:eW t):∃r,tD t=some r/\(r=true↔(∀i,i<t.af.length->mQ (decide (t.Kind=6)) (t.af.getD i aw)=false)/\(t.Kind=5\/0<t.af.length)/\(∀i,i<t.af.length->kr (t.af.map (·.ad)) (t.af.map (·.Name)) i=true)/\t.af.length<=16):=by
 have n:t.af.length<9223372036854775807:=dx (ig h.ha);have c:=scan (λi=>pJ (t.af,(t.af.length:Int),(i:Int),t,(t.af.map (·.ad)).take i,(t.af.map (·.Name)).take i)) t.af.length (λi=>!(mQ (decide (t.Kind=6)) (t.af.getD i aw))) (.inl false) (.inr (t,t.af.map (·.ad),t.af.map (·.Name)))
  (λi a=>by
   have k:=ac2 (h.iG _ (aZ a aw));rw[pJ,bE,ae (aH a)];simp only[aS,ak,aV,I.aP];rw[<-iE (·.ad) t.af i aw 0 a,<-iE (·.Name) t.af i aw [] a,xl _ _ _ (by simpa using a),xl _ _ _ (by simpa using a)];have f:((t.af.map (·.ad)).take (i+1)).length*24<=reachBytes:=by
    refine fg (eZ _ ?_) h.ha;simp;omega
   have g:((t.af.map (·.Name)).take (i+1)).length*24<=reachBytes:=(by grind);rw[ae (C1 (by omega) f),ae (C1 (by omega) g),bA (by omega),k];unfold mQ
   grind)
  (by
   rw[pJ,bz]
   rw[uO (by simp),uO (by simp)])
 have cQ:pJ (t.af,(t.af.length:Int),((0:Nat):Int),t,(t.af.map (·.ad)).take 0,(t.af.map (·.Name)).take 0)=pJ (t.af,(t.af.length:Int),0,t,[],[]):=rfl;simp only[cQ]at c;rw[tD];obtain⟨r,h1,e⟩:=Sr (l:=t.af.map (·.ad)) (names:=t.af.map (·.Name)) (by simpa using ig h.ha) (by simp);rw[jc]at e;rcases c with⟨b,d⟩|⟨b,j,d,m⟩
 . rw[b];simp only[aS,ak];rw[h1];refine⟨(bif decide (t.Kind=5)then true else decide (0<((t.af.map (·.ad)).length:Int)))&&r,?_,?_⟩
   . grind
   grind
 grind
theorem ab0(l:List aR)(record:Bool)(ah:l.length<=reachBytes)(i:Nat)(e:i<l.length):
 nZ (l,record,(i:Int),0,l.getD i aw)=some (if((l.map (·.Name)).take i).contains ((l.map (·.Name)).getD i []) then .inl false else .inr (l,record,(i:Int),l.getD i aw)):=by
 have f:=dx ah;have c:=scan (λk=>nZ (l,record,(i:Int),(k:Int),l.getD i aw)) i (λk=>!(decide ((l.getD k aw).Name=(l.getD i aw).Name))) (.inl false) (.inr (l,record,(i:Int),l.getD i aw))
  (λk b=>by
   rw[nZ,bE,ae (aH (by omega)),bA (by omega)];simp only[aV,gw]
   grind)
  (by rw[nZ,bz,gw])
 have cQ:nZ (l,record,(i:Int),((0:Nat):Int),l.getD i aw)=nZ (l,record,(i:Int),0,l.getD i aw):=rfl;simp only[cQ]at c;rw[iE (·.Name) l i aw [] e];rcases c with⟨h1,a⟩|⟨h1,j,a,d⟩
 . rw[h1,al];rw[pV]
   rintro ⟨k,b,he⟩
   rw[iE (·.Name) l k aw [] (by omega)]at he;have:=a k b;rw[he]at this;simp at this
 . rw[h1,ae];rw[pV];refine⟨j,a,?_⟩;rw[iE (·.Name) l j aw [] (by omega)];simpa using d
theorem ab1{l:List aR}{record:Bool}(ah:l.length<=reachBytes)(f:∀m,m∈l->bC m.bm):∃r,wq (l,record)=some r/\(r=true↔(∀i,i<l.length->mQ (!record) (l.getD i aw)=false)/\(record=true\/0<l.length)/\(∀i,i<l.length->kr (l.map (·.ad)) (l.map (·.Name)) i=true)/\l.length<=16):=by
 have n:=dx ah;have b:=scan (λi=>pB (l,record,lZ (l.map (·.ad)) i,(i:Int))) l.length (λi=>kr (l.map (·.ad)) (l.map (·.Name)) i && !(mQ (!record) (l.getD i aw))) (.inl false) (.inr (l,record))
  (λi a=>by
   have c:=ad1 (f _ (aZ a aw));unfold ar at c;rw[pB,bE,ae (aH a)];simp only[aS,ak,aV,I.aP,gw,Qg (l:=l.map (·.ad)) (names:=l.map (·.Name)) (i:=i) (by simpa using a) (by simp)];rw[ab0 l record ah i a,c];have e:lZ (l.map (·.ad)) (i+1)=(l.getD i aw).ad:=by
    unfold lZ;grind
   rw[<-iE (·.ad) l i aw 0 a,<-iE (·.Name) l i aw [] a,U2,AZ];simp only[ak];generalize (decide (lZ (l.map (·.ad)) i<(l.map (·.ad)).getD i 0)&&decide (1<=(l.map (·.ad)).getD i 0)&&decide ((l.map (·.ad)).getD i 0<=1000))=q;cases q with
   |false=>simp
   |true=>
    simp only[de,en,bM,ak,nC];cases nm ((l.map (·.Name)).getD i [])with
    |false=>simp
    |true=>
     simp only[de,nC,jd,dU];unfold mQ;cases record<;>cases (l.getD i aw).b8<;>cases (l.getD i aw).bu<;>cases qw (l.getD i aw).bm <;>
      simp only[de,en,Bool.or_self,Bool.and_self,Bool.or_true,w7,CO,Bool.and_false,Bool.false_and,nC,Bool.false_or,jd,ed,dU,bM,b6,bW,ak] <;>
      first
       |rfl
       |(cases k:((l.map (·.Name)).take i).contains ((l.map (·.Name)).getD i [])with
        |true=>simp
        |false=>
         simp only[bW,b6,en,bM];rw[bA (by omega),e]
         try rfl))
  (by rw[pB,bz])
 have cQ:pB (l,record,lZ (l.map (·.ad)) 0,((0:Nat):Int))=pB (l,record,0,0):=rfl;simp only[cQ]at b;rw[wq];rcases b with⟨h1,d⟩|⟨h1,j,d,g⟩
 . rw[h1];refine⟨_,rfl,?_⟩;grind
 . rw[h1];refine⟨false,rfl,?_⟩;grind
theorem No(h:eW t)(d:t.Kind=5\/t.Kind=6):∃r,tD t=some r/\wq (t.af,decide (t.Kind=5))=some r:=by
 obtain⟨r,h1,a⟩:=MV h;obtain⟨q,b,c⟩:=ab1 (l:=t.af) (record:=decide (t.Kind=5)) (ig h.ha) h.iG;have e:(!(decide (t.Kind=5)))=decide (t.Kind=6):=by grind
 grind
theorem eW.plain{k l h m kk e:Int}{n:aj}{a:List aR}{o:Bool}(aI:S.length*24<=reachBytes)(c:a.length*24<=reachBytes)(f:∀x,x∈a->bC x.bm):eW ⟨k,n,l,h,m,S,a,kk,e,o⟩:=⟨aI,c,f⟩
theorem ain{L:Int}{d:Bool}(h:eW (⟨1,N,L,H,M,S,c,K,E,d⟩:ai)):∃r,gv (⟨1,N,L,H,M,S,c,K,E,d⟩:ai)=some r/\hE (⟨1,N,L,H,M,S,c,K,E,d⟩:ai)=some r/\(r=true->N=[]):=by
 obtain⟨a,a1,a2⟩:=iU (a:=(⟨0,N,L,H,M,S,c,K,E,d⟩:ai)) ⟨h.syms,h.ha,h.iG⟩ (⟨0,[],0,0,0,[],[],0,0,false⟩:ai);obtain⟨b,b1,b2⟩:=qp h (⟨1,[],0,0,0,[],[],0,0,false⟩:ai);have e:a=b:=by grind
 subst e;refine⟨a,by simp[gv,a1],by simp[hE,nc,kl,b1];try (cases a<;>rfl),λf=>?_⟩;grind
theorem aio{L:Int}{d:Bool}(h:eW (⟨2,N,L,H,M,S,c,K,E,d⟩:ai)):∃r,gv (⟨2,N,L,H,M,S,c,K,E,d⟩:ai)=some r/\hE (⟨2,N,L,H,M,S,c,K,E,d⟩:ai)=some r/\(r=true->N=[]):=by
 obtain⟨a,a1,a2⟩:=iU (a:=(⟨0,N,0,0,M,S,c,K,E,d⟩:ai)) ⟨h.syms,h.ha,h.iG⟩ (⟨0,[],0,0,0,[],[],0,0,false⟩:ai);obtain⟨b,b1,b2⟩:=qp h (⟨2,[],L,H,0,[],[],0,0,false⟩:ai);have e:a=b:=by grind
 subst e;refine⟨decide (L<=H)&&a,?_,?_,λf=>?_⟩
 . simp only[gv];grind
 . simp only[hE];generalize decide (L<=H)=q;simp[nc,kl,b1];grind
 grind
theorem aip{L:Int}{d:Bool}(h:eW (⟨3,N,L,H,M,S,c,K,E,d⟩:ai)):∃r,gv (⟨3,N,L,H,M,S,c,K,E,d⟩:ai)=some r/\hE (⟨3,N,L,H,M,S,c,K,E,d⟩:ai)=some r/\(r=true->N=[]):=by
 obtain⟨a,a1,a2⟩:=iU (a:=(⟨0,N,L,H,0,S,c,K,E,d⟩:ai)) ⟨h.syms,h.ha,h.iG⟩ (⟨0,[],0,0,0,[],[],0,0,false⟩:ai);obtain⟨b,b1,b2⟩:=qp h (⟨3,[],0,0,M,[],[],0,0,false⟩:ai);have e:a=b:=by grind
 subst e;refine⟨(bif decide (0<=M)then decide (M<=200)else false)&&a,?_,?_,λf=>?_⟩
 . simp only[gv];grind
 . simp only[hE];generalize (bif decide (0<=M)then decide (M<=200)else false)=q;simp[nc,kl,b1];grind
 grind
theorem aiq{L:Int}{d:Bool}(h:eW (⟨4,N,L,H,M,S,c,K,E,d⟩:ai)):∃r,gv (⟨4,N,L,H,M,S,c,K,E,d⟩:ai)=some r/\hE (⟨4,N,L,H,M,S,c,K,E,d⟩:ai)=some r/\(r=true->N≠[]):=by
 obtain⟨a,a1,a2⟩:=iU (a:=(⟨0,[],L,H,M,[],c,K,E,false⟩:ai)) ⟨(by simp),h.ha,h.iG⟩ (⟨0,[],0,0,0,[],[],0,0,false⟩:ai);obtain⟨b,b1,b2⟩:=qp h (⟨4,N,0,0,0,S,[],0,0,d⟩:ai);have g:a=b:=by grind
 subst g;obtain⟨q,i,f⟩:=acv (l:=S) h.syms;refine⟨nm N&&q&&a,?_,?_,λe=>?_⟩
 . simp only[gv];simp[a1,i,tJ];grind
 . simp only[hE]
   try simp at f
   simp[nc,kl,b1,f,AZ];grind
 . simp only[c7]at e;exact Gn e.1.1
theorem air{L:Int}{d:Bool}(h:eW (⟨5,N,L,H,M,S,c,K,E,d⟩:ai)):∃r,gv (⟨5,N,L,H,M,S,c,K,E,d⟩:ai)=some r/\hE (⟨5,N,L,H,M,S,c,K,E,d⟩:ai)=some r/\(r=true->N≠[]):=by
 obtain⟨a,a1,a2⟩:=iU (a:=(⟨0,[],L,H,M,S,[],K,E,(bif d then decide ((5:Int)=5)else false)⟩:ai)) ⟨h.syms,(by simp),(by simp)⟩ (⟨0,[],0,0,0,[],[],0,0,false⟩:ai);obtain⟨b,b1,b2⟩:=qp h (⟨5,N,0,0,0,[],c,0,0,false⟩:ai);have i:a=b:=by grind
 subst i;obtain⟨q,f,g⟩:=No h (by simp);refine⟨nm N&&q&&a,?_,?_,λe=>?_⟩
 . simp only[gv]
   try simp at a1
   try simp at f
   simp[a1,f,tJ];grind
 . simp only[hE]
   try simp at g
   simp[nc,kl,b1,g,AZ];grind
 . simp only[c7]at e;exact Gn e.1.1
theorem ais{L:Int}{d:List aR}{c:Bool}(h:eW (⟨6,N,L,H,M,S,d,K,E,c⟩:ai)):∃r,gv (⟨6,N,L,H,M,S,d,K,E,c⟩:ai)=some r/\hE (⟨6,N,L,H,M,S,d,K,E,c⟩:ai)=some r/\(r=true->N≠[]):=by
 obtain⟨a,a1,a2⟩:=iU (a:=(⟨0,[],L,H,M,S,[],K,E,(bif c then decide ((6:Int)=5)else false)⟩:ai)) ⟨h.syms,(by simp),(by simp)⟩ (⟨0,[],0,0,0,[],[],0,0,false⟩:ai);obtain⟨b,b1,b2⟩:=qp h (⟨6,N,0,0,0,[],d,0,0,c⟩:ai);have i:a=b:=by grind
 subst i;obtain⟨q,f,g⟩:=No h (by simp);refine⟨nm N&&q&&a,?_,?_,λe=>?_⟩
 . simp only[gv]
   try simp at a1
   try simp at f
   simp[a1,f,tJ];grind
 . simp only[hE]
   try simp at g
   simp[nc,kl,b1,g,AZ];grind
 . simp only[c7]at e;exact Gn e.1.1
theorem ait{L:Int}{d:Bool}(h:eW (⟨7,N,L,H,M,S,c,K,E,d⟩:ai)):∃r,gv (⟨7,N,L,H,M,S,c,K,E,d⟩:ai)=some r/\hE (⟨7,N,L,H,M,S,c,K,E,d⟩:ai)=some r/\(r=true->N=[]):=by
 obtain⟨a,a1,a2⟩:=iU (a:=(⟨0,N,L,H,0,S,c,K,0,d⟩:ai)) ⟨h.syms,h.ha,h.iG⟩ (⟨0,[],0,0,0,[],[],0,0,false⟩:ai);obtain⟨b,b1,b2⟩:=qp h (⟨7,[],0,0,M,[],[],0,E,false⟩:ai);have e:a=b:=by grind
 subst e;refine⟨(bif decide (0<=M)then decide (M<=50)else false)&&a,?_,?_,λf=>?_⟩
 . simp only[gv];grind
 . simp only[hE];generalize (bif decide (0<=M)then decide (M<=50)else false)=q;simp[nc,kl,b1];grind
 grind
theorem aiu{L:Int}{d:Bool}(h:eW (⟨8,N,L,H,M,S,c,K,E,d⟩:ai)):∃r,gv (⟨8,N,L,H,M,S,c,K,E,d⟩:ai)=some r/\hE (⟨8,N,L,H,M,S,c,K,E,d⟩:ai)=some r/\(r=true->N=[]):=by
 obtain⟨a,a1,a2⟩:=iU (a:=(⟨0,N,L,H,0,S,c,0,0,d⟩:ai)) ⟨h.syms,h.ha,h.iG⟩ (⟨0,[],0,0,0,[],[],0,0,false⟩:ai);obtain⟨b,b1,b2⟩:=qp h (⟨8,[],0,0,M,[],[],K,E,false⟩:ai);have e:a=b:=by grind
 subst e;refine⟨(bif decide (0<=M)then decide (M<=50)else false)&&a,?_,?_,λf=>?_⟩
 . simp only[gv];grind
 . simp only[hE];generalize (bif decide (0<=M)then decide (M<=50)else false)=q;simp[nc,kl,b1];grind
 grind
theorem aiv{L:Int}{d:Bool}(h:eW (⟨9,N,L,H,M,S,c,K,E,d⟩:ai)):∃r,gv (⟨9,N,L,H,M,S,c,K,E,d⟩:ai)=some r/\hE (⟨9,N,L,H,M,S,c,K,E,d⟩:ai)=some r/\(r=true->N=[]):=by
 obtain⟨a,a1,a2⟩:=iU (a:=(⟨0,N,L,H,M,S,c,K,0,d⟩:ai)) ⟨h.syms,h.ha,h.iG⟩ (⟨0,[],0,0,0,[],[],0,0,false⟩:ai);obtain⟨b,b1,b2⟩:=qp h (⟨9,[],0,0,0,[],[],0,E,false⟩:ai);have e:a=b:=by grind
 subst e;refine⟨a,by simp[gv,a1],by simp[hE,nc,kl,b1];try (cases a<;>rfl),λf=>?_⟩;grind
def kR(k:Int):Bool:=bif bif decide (k=4)then true else decide (k=5)then true else decide (k=6)
theorem Np(h:eW t):∃r,gv t=some r/\hE t=some r/\(r=true->1<=t.Kind/\t.Kind<=9/\kR t.Kind=!(decide (t.Name=[]))):=by
 by_cases b:1<=t.Kind/\t.Kind<=9
 . obtain⟨a,N,L,H,M,S,c,K,E,d⟩:=t;simp at b;have:a=1\/a=2\/a=3\/a=4\/a=5\/a=6\/a=7\/a=8\/a=9:=(by omega);rcases this with rfl|rfl|rfl|rfl|rfl|rfl|rfl|rfl|rfl
   . grind[ain,kR]
   . grind[aio,kR]
   . grind[aip,kR]
   . grind[aiq,kR]
   . grind[air,kR]
   . grind[ais,kR]
   . grind[ait,kR]
   . grind[aiu,kR]
   grind[aiv,kR]
 . refine⟨false,?_,?_,λh=>by grind⟩
   . have e:∀k,1<=k->k<=9->¬t.Kind=k:=λk h1 f e=>b (by omega);simp_all[gv]
   . have e:(bif decide (t.Kind<1)then true else decide (9<t.Kind))=true:=(by grind);rw[hE,e];rfl
def fm(t:ai):ao:=t.af.map (·.av)++(if t.Kind=8 then[t.Key]else[])++(if 7<=t.Kind then[t.aD]else[])
theorem wG{k n:Nat}(a:k<=16){m:Nat}(h:m*24<=reachBytes)(aJ:n<=m+2):room k n=true:=by
 unfold room hF dT;unfold reachBytes at h;simp;have:(2*n+192)*k<=(2*n+192)*16:=Nat.mul_le_mul_left _ a;omega
theorem Mu(t:ai)(h:t.af.length*24<=reachBytes):∀(k i:Nat),i+k=t.af.length->tE (t.af,(t.af.length:Int),(i:Int),t,(t.af.map (·.av)).take i)=some (t,t.af.map (·.av))
 |0,i,a=>by grind[tE,List.take_of_length_le]
 |k+1,i,a=>by
  have b:=dx (ig h);have aC:i<t.af.length:=by omega
  rw[tE,ae (by grind),ae (aH aC)];simp only[aS,ak,aV];rw[<-iE (·.av) _ i _ 0 aC,xl _ _ _ (by grind),bA (by omega),ae (wG (by simp) h (by grind))];exact Mu t h k _ (by omega)
theorem ad2(h:t.af.length*24<=reachBytes):Ev t=some (fm t):=by
 have h0:=Mu t h t.af.length 0 (by simp);rw[Ev];unfold fm;have a:room 8 (t.af.map (·.av)++[t.Key]).length=true:=wG (by simp) h (by simp);have b:room 8 (t.af.map (·.av)++[t.Key]++[t.aD]).length=true:=wG (m:=t.af.length) (by simp) h (by simp);grind
theorem Mv(t:ai)(h:t.af.length*24<=reachBytes):∀(k i:Nat),i+k=t.af.length->tT ((i:Int),t,(t.af.map (·.av)).take i)=some (t,t.af.map (·.av))
 |0,i,a=>by grind[tT,List.take_of_length_le]
 |k+1,i,a=>by
  have b:=dx (ig h);have aC:i<t.af.length:=by omega
  rw[tT,ae (by grind),ae (aH aC)];simp only[aS,ak,aV];rw[<-iE (·.av) _ i _ 0 aC,xl _ _ _ (by grind),bA (by omega),ae (wG (by simp) h (by grind))];exact Mv t h k _ (by omega)
theorem afl(h:t.af.length*24<=reachBytes)(a:t.Kind<=9):DT t=some (fm t):=by
 have h0:=Mv t h t.af.length 0 (by simp);rw[DT];unfold fm;have b:room 8 (t.af.map (·.av)++[t.Key]).length=true:=wG (by simp) h (by simp);have c:room 8 (t.af.map (·.av)++[t.Key]++[t.aD]).length=true:=wG (m:=t.af.length) (by simp) h (by simp);grind
theorem afm(k:Int):kl k=some (kR k):=rfl
def s7(k:Int):Bool:=bif decide (1<=k)then decide (k<=4)else false
def mE(n:Nat)(u:Int):Bool:=bif decide (u<0)then true else decide ((n:Int)<=u)
def u1(ts:List ai)(i:Nat):Option Int:=
 let t:=ts.getD i aG
 if !((gv t).getD false)then some 1 else if !(decide (t.Name=[]))&&((ts.map (·.Name)).take i).contains t.Name then some 1 else if(fm t).any (mE ts.length)then some 4 else if decide (t.Kind=8) && !(s7 (ts.getD t.Key.toNat aG).Kind)then some 1 else none
theorem JC{i:Nat}{r:Bool}(cS:ts.getD i aG=t)(f1:gv t=some r):
 u1 ts i=if !r then some 1 else if !(t.Name=[]:Bool)&&((ts.map (·.Name)).take i).contains t.Name then some 1 else if(fm t).any (mE ts.length) then some 4 else if((t.Kind=8:Bool) && !(s7 (ts.getD t.Key.toNat aG).Kind)) then some 1 else none:=by
 grind[u1]
theorem Om{c:Type}(L:Nat->Option c)(l:ao)(q:Int->Bool)(a b:c)(f:∀i,i<l.length->L i=if q (l.getD i 0)then some a else L (i+1))(d:L l.length=some b):
 L 0=some (if l.any q then a else b):=by
 have:=scan L l.length (λi=>!(q (l.getD i 0))) a _ (λi e=>by grind) d;grind[List.getElem_of_mem]
theorem Nq(h:t.af.length*24<=reachBytes):(fm t).length<9223372036854775807:=by
 grind[fm,reachBytes]
theorem afL{L:Nat->Option (Int ⊕ Unit)}{n:Nat}{step:Nat->Option Int}
 (h:∀i,i<n->L i=match step i with|some e=>some (.inl e)|none=>L (i+1))(he:L n=some (.inr ()))
 (a:∀i,i<n->L' i=match step i with|some e=>some (.inl e)|none=>L' (i+1))(f:L' n=some (.inr ())):∃o,L 0=some o/\L' 0=some o/\((o= .inr ()/\∀i,i<n->step i=none)\/∃i e,i<n/\step i=some e/\o= .inl e):=by
 have key:∀k i,i+k=n->∃o,L i=some o/\L' i=some o/\((o= .inr ()/\∀m,i<=m->m<n->step m=none)\/∃m e,m<n/\step m=some e/\o= .inl e):=by
  intro k;induction k with
  |zero=>grind
  |succ k ih=>
   intro i g;rw[a i (by omega)];cases j:step i with
   |some e=>grind
   |none=>
    obtain⟨o,b,c,d⟩:=ih (i+1) (by omega);grind
 obtain⟨o,b,c,d⟩:=key n 0 (by simp);grind
theorem Ss(b:(fm t).any (mE ts.length)=false)(a:t.Kind=8):ay t.Key ts.length=true:=by
 grind[fm,mE,ay]
theorem afM(ts:List ai)(t:ai)(i:Nat)(d:i<ts.length)(f:ts.length<9223372036854775807):
 n1 ((i:Int),0,ts,t.Kind,t.Name,t.bJ,t.bN,t.Max,t.bj,t.af,t.Key,t.aD,t.Open)=some (if(kR t.Kind&&((ts.map (·.Name)).take i).contains t.Name) then .inl 1 else .inr ((i:Int),ts,t.Kind,t.Name,t.bJ,t.bN,t.Max,t.bj,t.af,t.Key,t.aD,t.Open)):=by
 have b:=scan (λk=>n1 (i,k,ts,t.Kind,t.Name,t.bJ,t.bN,t.Max,t.bj,t.af,t.Key,t.aD,t.Open)) i (λk=>!(bif kR t.Kind then decide ((ts.getD k aG).Name=t.Name)else false)) (.inl 1) (.inr (i,ts,t.Kind,t.Name,t.bJ,t.bN,t.Max,t.bj,t.af,t.Key,t.aD,t.Open))
  (λk e=>by
   rw[n1,ae (by grind),afm];simp only[aS,ak];rw[ae (by grind[aH]),bA (by omega)]
   grind)
  (by simp_all[n1])
 have cQ:n1 ((i:Int),(0:Nat),ts,t.Kind,t.Name,t.bJ,t.bN,t.Max,t.bj,t.af,t.Key,t.aD,t.Open)=n1 ((i:Int),0,ts,t.Kind,t.Name,t.bJ,t.bN,t.Max,t.bj,t.af,t.Key,t.aD,t.Open):=rfl;simp at b;rcases b with⟨h1,a⟩|⟨h1,j,a,c⟩
 . rw[h1,al];rw[c7,pV (by grind)];grind
 . rw[h1,ae];rw[c7,pV (by grind)];cases aJ:kR _ with
   |false=>grind
   |true=>
    refine⟨rfl,j,a,?_⟩;grind
theorem afN(ts:List ai)(t:ai)(i:Nat)(l:ao)(ah:l.length<9223372036854775807):
 q9 ((i:Int),l,0,ts,t.Kind,t.Name,t.bJ,t.bN,t.Max,t.bj,t.af,t.Key,t.aD,t.Open)=some (if l.any (mE ts.length) then .inl 4 else .inr ((i:Int),ts,t.Kind,t.Name,t.bJ,t.bN,t.Max,t.bj,t.af,t.Key,t.aD,t.Open)):=
 Om (λj=>q9 (i,l,j,ts,t.Kind,t.Name,t.bJ,t.bN,t.Max,t.bj,t.af,t.Key,t.aD,t.Open)) l _ _ _
  (λj a=>by
   rw[q9,ae (by grind),ae (aH a)];simp only[aS,ak];rw[ae (by grind[aH]),bA (by omega)]
   rfl)
  (by grind[q9])
theorem ab2{s:aO}(hs:s.Types.length<=reachBytes)(ht:∀t,t∈s.Types->eW t):∃e,pZ s=some e/\wA s=some e/\(e=0->s.Types.length<=32/\∀i,i<s.Types.length->u1 s.Types i=none)/\((s.Types.length<=32/\∀i,i<s.Types.length->u1 s.Types i=none)->e=0)/\e≠12:=by
 rw[pZ,wA];by_cases y:32<s.Types.length
 . exact⟨3,by grind,by grind,λh=>(by grind),λh=>absurd h.1 (by omega),by simp⟩
 . rw[al (by grind),al (by grind)];have u:s.Types.length<9223372036854775807:=(by omega);have:=afL (L:=λi=>ry (s.Types,(s.Types.length:Int),(i:Int),s.Types,lN ((s.Types.map (·.Name)).take i))) (L':=λi=>re ((i:Int),s.Types)) (n:=s.Types.length) (step:=u1 s.Types)
    (λi b=>by
     have a:=ht _ (aZ b aG);obtain⟨r,f1,f2,f3⟩:=Np a;rw[ry,ae (by grind),ae (aH b)];simp only[aS,ak,aV];generalize cS:s.Types.getD i aG=t at*;rw[JC cS f1,f1];simp only[ak,MS];cases r with
     |false=>rfl
     |true=>
      by_cases f:(!(decide (t.Name=[]))&&((s.Types.map (·.Name)).take i).contains t.Name)=true
      . grind
      . have l:¬((bif (!(decide (t.Name=[])))then((s.Types.map (·.Name)).take i).contains t.Name else false)=true):=(by grind);rw[al (show ¬((bif (!true)then true else bif (!(decide (t.Name=[])))then((s.Types.map (·.Name)).take i).contains t.Name else false)=true)from l),al f,ad2 a.ha];simp only[ak];have z:=Nq a.ha;have m:=Om (λj=>pK (s.Types,(s.Types.length:Int),(i:Int),fm t,((fm t).length:Int),(j:Int),s.Types,iN (lN ((s.Types.map (·.Name)).take i)) t.Name,t.Kind,t.Name,t.bJ,t.bN,t.Max,t.bj,t.af,t.Key,t.aD,t.Open)) (fm t) (mE s.Types.length) (.inl 4)
         (.inr (s.Types,(s.Types.length:Int),(i:Int),s.Types,iN (lN ((s.Types.map (·.Name)).take i)) t.Name,t.Kind,t.Name,t.bJ,t.bN,t.Max,t.bj,t.af,t.Key,t.aD,t.Open))
         (λj p=>by
          rw[pK,ae (by grind),ae (aH p),bA (by omega)]
          rfl)
         (by simp_all[pK,al])
        have cQ:pK (s.Types,(s.Types.length:Int),(i:Int),fm t,((fm t).length:Int),((0:Nat):Int),s.Types,iN (lN ((s.Types.map (·.Name)).take i)) t.Name,t.Kind,t.Name,t.bJ,t.bN,t.Max,t.bj,t.af,t.Key,t.aD,t.Open)=pK (s.Types,(s.Types.length:Int),(i:Int),fm t,((fm t).length:Int),0,s.Types,iN _ t.Name,t.Kind,t.Name,t.bJ,t.bN,t.Max,t.bj,t.af,t.Key,t.aD,t.Open):=rfl;rw[<-cQ,m];cases d:(fm t).any (mE s.Types.length)with
        |true=>rfl
        |false=>
         simp only[bW,b6,ak];have v:iN (lN ((s.Types.map (·.Name)).take i)) t.Name=lN ((s.Types.map (·.Name)).take (i+1)):=by
          grind[MT]
         rw[v,bA (by omega)];by_cases c:t.Kind=8
         . have q:=Ss d c;simp only[c,dc,ed,nC,s7];grind
         grind)
    (by simp_all[ry,al])
    (λi b=>by
     have a:=ht _ (aZ b aG);obtain⟨r,f1,f2,f3⟩:=Np a;rw[re,ae (by grind),ae (aH b)];simp only[aS,ak,aV];generalize cS:s.Types.getD i aG=t at*;rw[JC cS f1,f2,afM s.Types t i b u];simp only[ak];cases r with
     |false=>rfl
     |true=>
      obtain⟨k1,k2,k3⟩:=f3 rfl;rw[al (show ¬((!true)=true) by simp),k3];cases f:(!(decide (t.Name=[]))&&((s.Types.map (·.Name)).take i).contains t.Name)with
      |true=>rfl
      |false=>
       simp only[bW,b6,D3];rw[afl a.ha k2];simp only[ak];rw[afN s.Types t i (fm t) (Nq a.ha)];cases d:(fm t).any (mE s.Types.length)with
       |true=>rfl
       |false=>
        simp only[bW,b6,ak];rw[bA (by omega)];by_cases c:t.Kind=8
        . have q:=Ss d c;rw[ae (by grind)];simp only[c,dc,bM,zt,ak,ed,nC];show(if !(s7 (s.Types.getD t.Key.toNat aG).Kind) then some (.inl 1)else re (((i+1:Nat):Int),s.Types))=_;grind
        grind)
    (by simp_all[re,al])
   obtain⟨o,h1,x,g⟩:=this;have w:ry (s.Types,(s.Types.length:Int),0,s.Types,[])=some o:=h1;rcases g with⟨rfl,k⟩|⟨i,e,k,bf,rfl⟩
   . simp_all
   grind[u1]
theorem ns{d:Type}(L:Nat->Option d)(n:Nat)(q:Nat->Bool)(a:Nat->d)(c:d)(g:∀i,i<n->L i=if q i then some (a i)else L (i+1))(e:L n=some c):
 (∃j,j<n/\q j=true/\(∀k,k<j->q k=false)/\L 0=some (a j))\/((∀k,k<n->q k=false)/\L 0=some c):=by
 have key:∀k i,i+k=n->(∀m,m<i->q m=false)->L 0=L i->(∃j,j<n/\q j=true/\(∀k,k<j->q k=false)/\L 0=some (a j))\/((∀k,k<n->q k=false)/\L 0=some c):=by
  intro k;induction k with
  |zero=> intro i f b h0; have:i = n:= by omega
          subst this;exact .inr ⟨b,by rw[h0,e]⟩
  |succ k ih=>
   intro i f b h0;rw[g i (by omega)]at h0;grind
 exact key n 0 (by omega) (λm b=>by omega) rfl
def uh(l:List aR)(id:Int)(r:Int×Bool):Prop:=(∃j:Nat,j<l.length/\(l.getD j aw).ad=id/\(∀k,k<j->(l.getD k aw).ad≠id)/\r=((j:Int),true))\/((∀k,k<l.length->(l.getD k aw).ad≠id)/\r=(0,false))
theorem Ir{l:List aR}{r q:Int×Bool}(h1:uh l id r)(a:uh l id q):r=q:=by
 rcases h1 with⟨j,a1,a2,a3,rfl⟩|⟨a1,rfl⟩<;>rcases a with⟨k,b1,b2,b3,rfl⟩|⟨b1,rfl⟩
 . grind
 . grind
 . grind
 . rfl
theorem vW(ah:t.af.length<9223372036854775807):∃r,gr (t,id)=some r/\uh t.af id r:=by
 rw[gr,Hk];have h:=ns (λi=>pn (t.af,(t.af.length:Int),(i:Int),id)) t.af.length (λi=>decide ((t.af.getD i aw).ad=id)) (λi=>.inl ((i:Int),id)) (.inr id)
  (λi e=>by
   rw[pn,bE,ae (aH e)];simp only[aS,ak,aV,gw,HD]
   rw[bA (by omega)])
  (by rw[pn,bz])
 have cQ:pn (t.af,(t.af.length:Int),((0:Nat):Int),id)=pn (t.af,(t.af.length:Int),0,id):=rfl;simp only[cQ]at h;rcases h with⟨j,h1,c,d,a⟩|⟨h1,a⟩
 . rw[a];refine⟨((j:Int),true),?_,.inl ⟨j,h1,by simpa using c,λk b=>by simpa using d k b,rfl⟩⟩;have aM:iI (j:Int) 0=(j:Int):=by unfold iI;omega
   simp_all
 . rw[a];exact⟨(0,false),rfl,.inr ⟨λk b=>by simpa using h1 k b,rfl⟩⟩
theorem Ah(ah:t.af.length<9223372036854775807):∃r,fw (t,id)=some r/\uh t.af id r:=by
 rw[fw];have h:=ns (λi=>p3 (id,(i:Int),t)) t.af.length (λi=>decide ((t.af.getD i aw).ad=id)) (λi=>.inl ((i:Int),true)) (.inr ())
  (λi e=>by
   rw[p3,bE,ae (aH e),bA (by omega)]
   grind)
  (by rw[p3,bz])
 have cQ:p3 (id,((0:Nat):Int),t)=p3 (id,0,t):=rfl;simp only[cQ]at h;rcases h with⟨j,h1,c,d,a⟩|⟨h1,a⟩
 . rw[a];exact⟨((j:Int),true),rfl,.inl ⟨j,h1,by simpa using c,λk b=>by simpa using d k b,rfl⟩⟩
 . rw[a];exact⟨(0,false),rfl,.inr ⟨λk b=>by simpa using h1 k b,rfl⟩⟩
theorem ma(id:Int)(ah:t.af.length<9223372036854775807):∃r,gr (t,id)=some r/\fw (t,id)=some r/\uh t.af id r:=by
 obtain⟨r,h1,a⟩:=vW (id:=id) ah;obtain⟨q,c,b⟩:=Ah (id:=id) ah;have:=Ir a b;grind
def wH(l:List c1)(id:Int)(r:Int×Bool):Prop:=(∃j:Nat,j<l.length/\(l.getD j dI).ad=id/\(∀k,k<j->(l.getD k dI).ad≠id)/\r=((j:Int),true))\/((∀k,k<l.length->(l.getD k dI).ad≠id)/\r=(0,false))
theorem aa9{l:List c1}{r q:Int×Bool}(h1:wH l id r)(a:wH l id q):r=q:=by
 rcases h1 with⟨j,a1,a2,a3,rfl⟩|⟨a1,rfl⟩<;>rcases a with⟨k,b1,b2,b3,rfl⟩|⟨b1,rfl⟩
 . grind
 . grind
 . grind
 . rfl
theorem p0(id:Int)(ah:t.bj.length<9223372036854775807):∃r,s9 (t,id)=some r/\oh (t,id)=some r/\wH t.bj id r:=by
 rw[s9,Hj,oh];have h:=ns (λi=>nX (t.bj,(t.bj.length:Int),(i:Int),id)) t.bj.length (λi=>decide ((t.bj.getD i dI).ad=id)) (λi=>.inl ((i:Int),id)) (.inr id)
  (λi f=>by
   rw[nX,bE,ae (aH f)];simp only[aS,ak,aV,HC]
   rw[bA (by omega)])
  (by rw[nX,bz])
 have cQ:nX (t.bj,(t.bj.length:Int),((0:Nat):Int),id)=nX (t.bj,(t.bj.length:Int),0,id):=rfl;have g:=ns (λi=>n3 (id,(i:Int),t)) t.bj.length (λi=>decide ((t.bj.getD i dI).ad=id)) (λi=>.inl ((i:Int),true)) (.inr ())
  (λi f=>by
   rw[n3,bE,ae (aH f),bA (by omega)]
   grind)
  (by rw[n3,bz])
 have m:n3 (id,((0:Nat):Int),t)=n3 (id,0,t):=rfl;simp only[cQ]at h;simp only[m]at g;have n:∃r,(nX (t.bj,(t.bj.length:Int),0,id)>>=λo=>match o with|.inl c=>some (c.1,c.2)|.inr l=>some ((-1),l))>>=(λr=>some (iI r.1 0,decide (0<=r.1)))=some r/\wH t.bj id r:=by
  rcases h with⟨j,h1,d,e,a⟩|⟨h1,a⟩
  . rw[a];refine⟨((j:Int),true),?_,.inl ⟨j,h1,by simpa using d,λk b=>by simpa using e k b,rfl⟩⟩;have aM:iI (j:Int) 0=(j:Int):=by unfold iI;omega
    simp_all
  . rw[a];exact⟨(0,false),rfl,.inr ⟨λk b=>by simpa using h1 k b,rfl⟩⟩
 have du:∃r,(n3 (id,0,t)>>=λo=>match o with|.inl c=>some (c.1,c.2)|.inr l=>some (0,false))=some r/\wH t.bj id r:=by
  rcases g with⟨j,h1,d,e,a⟩|⟨h1,a⟩
  . rw[a];exact⟨((j:Int),true),rfl,.inl ⟨j,h1,by simpa using d,λk b=>by simpa using e k b,rfl⟩⟩
  . rw[a];exact⟨(0,false),rfl,.inr ⟨λk b=>by simpa using h1 k b,rfl⟩⟩
 obtain⟨r,a1,a2⟩:=n;obtain⟨q,b1,b2⟩:=du;have:=aa9 a2 b2;grind
def gF(n:Int):Int:=if 0<=n then 2*n else -2*n-1
theorem Qi{a b:Int}(h:gF a=gF b):a=b:=by
 unfold gF at h;split at h<;>split at h<;>omega
def cy(n:Int):Prop:= -9223372036854775808<=n/\n<=9223372036854775807
theorem ui{n:Int}(h:cy n):wu n=some (gF n):=by
 obtain⟨h1,f⟩:=h;rw[wu];unfold gF;by_cases h0:0<=n
 . rw[ae (by simp[h0]),ae h0];obtain⟨k,rfl⟩:∃k:Nat,n=(k:Int):=⟨n.toNat,by omega⟩
   rw[hz];have:=uE (a:=2) (b:=k) (by omega);grind
 . rw[al (by simp[h0]),al h0];rw[kp (by omega) (by omega),hJ (by omega) (by omega)];obtain⟨k,e⟩:∃k:Nat,0-(n+1)=(k:Int):=⟨(0-(n+1)).toNat,by omega⟩
   rw[e,hz];have c:=uE (a:=2) (b:=k) (by omega);have d:gB .u64 2 (k:Int)=((2*k:Nat):Int):=c;rw[d];have g:=sH (a:=2*k) (b:=1) (by omega);grind
theorem ac3(a:Nat)(h:a<18446744073709551616):u7 .u64 (a:Int) 0=(a:Int):=by
 have e:(BitVec.ofInt 64 (a:Int) ^^^ BitVec.ofInt 64 (0:Int)).toNat=a:=by grind
 show IntKind.u64.wrap (((BitVec.ofInt 64 (a:Int) ^^^ BitVec.ofInt 64 (0:Int)).toNat:Nat):Int)=_;rw[e];exact lf (by omega) (by omega)
theorem ac4(a:Nat)(h:a<18446744073709551616):u7 .u64 (a:Int) 18446744073709551615=((18446744073709551615-a:Nat):Int):=by
 have e:(BitVec.ofInt 64 (a:Int) ^^^ BitVec.ofInt 64 (18446744073709551615:Int)).toNat=18446744073709551615-a:=by
  have h1:BitVec.ofInt 64 (18446744073709551615:Int)=BitVec.allOnes 64:=by decide
  rw[h1,xd,BitVec.xor_allOnes,BitVec.toNat_not,yL,Hf,oV h]
 all_goals (try omega)
 show IntKind.u64.wrap (((BitVec.ofInt 64 (a:Int) ^^^ BitVec.ofInt 64 (18446744073709551615:Int)).toNat:Nat):Int)=_;rw[e];exact lf (by omega) (by omega)
theorem ajd{n:Int}(h:cy n):lO .i64 n 63=if 0<=n then 0 else -1:=by
 obtain⟨h1,a⟩:=h;unfold lO;have e:((2:Int)^min (63:Int).toNat IntKind.i64.bits)=9223372036854775808:=by decide
 grind
theorem E2{n:Int}(h:cy n):vY n=some (gF n):=by
 rw[vY,ajd h];obtain⟨h1,a⟩:=h;unfold gF;have hs:∀m:Int,nG .u64 m 1=IntKind.u64.wrap (m*2):=by
  intro m;unfold nG;rfl
 rw[hs]
 congr 1
 by_cases h0:0<=n
 . rw[ae h0,ae h0];obtain⟨k,rfl⟩:∃k:Nat,n=(k:Int):=⟨n.toNat,by omega⟩
   rw[hz,lf (by omega) (by omega)];have:bY .u64 0=0:=(by decide);rw[this];have:=ac3 (2*k) (by omega);grind
 . rw[al h0,al h0];have:bY .u64 (-1)=18446744073709551615:=(by decide);rw[this];obtain⟨k,b⟩:∃k:Nat,n+9223372036854775808=(k:Int):=⟨(n+9223372036854775808).toNat,by omega⟩
   have e:IntKind.u64.wrap (bY .u64 n*2)=((2*k:Nat):Int):=by
    unfold bY;rw[IntKind.wrap_u64,IntKind.wrap_u64];omega
   rw[e,ac4 _ (by omega)];omega
theorem agC(a b:Int):Ew (a,b)=some (if a<b then -1 else if b<a then 1 else 0):=by
 rw[Ew];simp only[Ea,aS,ak,dc,de,bW,b6];grind
theorem SK(a b:Int):Aj (a,b)=some (if a<b then -1 else if b<a then 1 else 0):=by
 rw[Aj];simp only[Ex,aS,ak,dc,de,bW,b6];grind
theorem agD(a b:aj):Du (a,b)=some (if Op.bytesLess a b then -1 else if(Op.bytesLess a b||(a=b:Bool))then 0 else 1):=by
 rw[Du];simp only[Ey,aS,ak,dc,de,bW,b6];grind
theorem aiY(a b:Int):E1 [a,b]=some (if a≠0 then a else b):=by
 rw[E1];have h0:rH (0,[a,b],((2:Nat):Int),((0:Nat):Int))=if a≠0 then some (.inl a)else(if b≠0 then some (.inl b)else some (.inr 0)):=by
  rw[rH,ae (by decide),ae (show ay ((0:Nat):Int) ([a,b]:ao).length=true from aH (k:=0) (n:=2) (by omega))];simp only[aS,ak,aV,mw];by_cases c:a=0
  . rw[al (by simp[c]),al (by simp[c])];have aM:aK .i64 ((0:Nat):Int) 1=((1:Nat):Int):=bA (by omega);rw[aM,rH,ae (by decide),ae (show ay ((1:Nat):Int) ([a,b]:ao).length=true from aH (k:=1) (n:=2) (by omega))];simp only[aS,ak,aV,CG,mw];by_cases d:b=0
    . rw[al (by simp[d]),al (by simp[d])];have e:aK .i64 ((1:Nat):Int) 1=((2:Nat):Int):=bA (by omega);rw[e,rH,al (by decide)]
    grind
  grind
 grind
theorem Mh:∀a:aj,Op.bytesLess a a=false
 |[]=>rfl
 |x::r=>by
  simp[Op.bytesLess,Mh r]
theorem DF{a b:I}(c:cy a.bg)(d:cy b.bg):∃r,pT (a,b)=some r/\n' (a,b)=some r:=by
 rw[pT,n'];by_cases e:a.Kind=b.Kind
 . rw[al (show ¬((!(decide (a.Kind=b.Kind)))=true) by simp[e]),al (show ¬((!(decide (a.Kind=b.Kind)))=true) by simp[e])];by_cases k1:a.Kind=1
   . rw[ae (show decide (a.Kind=1)=true by simp[k1]),ae (show decide (a.Kind=1)=true by simp[k1])];simp only[kJ];cases fy a.bS b.bS<;>cases b.bS<;>exact⟨_,rfl,rfl⟩
   . rw[al (show ¬(decide (a.Kind=1)=true) by simp[k1]),al (show ¬(decide (a.Kind=1)=true) by simp[k1])];by_cases k2:a.Kind=2
     . rw[ae (show decide (a.Kind=2)=true by simp[k2]),ae (show decide (a.Kind=2)=true by simp[k2]),E2 c,E2 d,ui c,ui d];simp only[aS,ak,agC,kJ];by_cases he:a.bg=b.bg
       . grind
       . have g:gF a.bg≠gF b.bg:=λh=>he (Qi h);grind
     . rw[al (show ¬(decide (a.Kind=2)=true) by simp[k2]),al (show ¬(decide (a.Kind=2)=true) by simp[k2])];by_cases k3:a.Kind=3
       . rw[ae (show decide (a.Kind=3)=true by simp[k3]),ae (show decide (a.Kind=3)=true by simp[k3])];simp only[aS,ak,SK,agD,aiY,kJ];by_cases ah:a.bt.length=b.bt.length
         . have f:¬((!(decide ((a.bt.length:Int)=(b.bt.length:Int))))=true):=by simp;omega
           rw[al f,ah];have aM:¬((b.bt.length:Int)<(b.bt.length:Int)):=(by omega);simp only[aM,b6,ne_eq,not_true_eq_false];by_cases he:a.bt=b.bt
           . rw[he,Mh];grind
           grind
         grind
       . rw[al (show ¬(decide (a.Kind=3)=true) by simp[k3]),al (show ¬(decide (a.Kind=3)=true) by simp[k3])];by_cases k4:a.Kind=4
         . rw[ae (show decide (a.Kind=4)=true by simp[k4]),ae (show decide (a.Kind=4)=true by simp[k4])];simp only[aS,ak,SK,kJ];grind
         simp_all
 simp_all
def Mi(a b:Option Bool):Prop:=∃r,a=some r/\b=some r
theorem JR {b c:Type}(L:Nat->Option (Bool ⊕ b))(L':Nat->Option (Bool ⊕ c))(n:Nat)(p:Nat->Bool)(g:b)(a:c)
 (h:∀i,i<n->L i=if p i then L (i+1)else some (.inl false))(he:L n=some (.inr g))
 (d:∀i,i<n->L' i=if p i then L' (i+1)else some (.inl false))(e:L' n=some (.inr a)):
 (L 0=some (.inr g)/\L' 0=some (.inr a)/\∀j,j<n->p j=true)\/(L 0=some (.inl false)/\L' 0=some (.inl false)/\∃j,j<n/\p j=false):=by
 rcases scan L n p (.inl false) (.inr g) h he with⟨a1,a2⟩|⟨a1,j,a2,a3⟩<;>rcases scan L' n p (.inl false) (.inr a) d e with⟨b1,b2⟩|⟨b1,k,b2,b3⟩
 . exact .inl ⟨a1,b1,a2⟩
 . have:=a2 k b2;rw[b3]at this;cases this
 . have:=b2 j a2;rw[a3]at this;cases this
 . exact .inr ⟨a1,b1,j,a2,a3⟩
def oy(k:Int):Prop:=1<=k/\k<=9
theorem aa'(a:oy v.Kind):∃p,DB v=some p/\tz v=some p/\(p=true->v.Kind≠5->v.Kind≠6->v.Rest=[]):=by
 obtain⟨K,B,cu,S,ad,c,b,R⟩:=v;simp only at a;rw[DB,I.aP,tz];have:K=1\/K=2\/K=3\/K=4\/K=5\/K=6\/K=7\/K=8\/K=9:=by unfold oy at a;omega
 have d:∀(x:Int),decide (x=x)=true:=λx=>by simp
 rcases this with rfl|rfl|rfl|rfl|rfl|rfl|rfl|rfl|rfl
 all_goals
  refine⟨_,rfl,?_,?_⟩
  . simp[EJ,fy]
    try (cases B<;>simp)
  . simp[EJ,fy]
section
variable {ts:List ai}(aJ:ts.length<9223372036854775807)(cS:∀t,t∈ts->eW t)(bD:∀t,t∈ts->oy t.Kind)
def Fit(ts:List ai)(x:I):Prop:=∀t plain,Mi (kn ((⟨ts⟩:aO),t,x,plain)) (iB ((⟨ts⟩:aO),t,x,plain))
theorem Nr{l:List I}(ah:l.length<=reachBytes)(ih:∀x,x∈l->Fit ts x)(t:Int)(plain:Bool):
 Mi (r4 ((⟨ts⟩:aO),t,l,plain)) (oB ((⟨ts⟩:aO),t,l,plain)):=by
 have g:=dx ah;let p:Nat->Bool:=λi=>(kn ((⟨ts⟩:aO),t,l.getD i ar,plain)).getD false;have c:∀i,i<l.length->kn ((⟨ts⟩:aO),t,l.getD i ar,plain)=some (p i)/\iB ((⟨ts⟩:aO),t,l.getD i ar,plain)=some (p i):=by
  intro i a;obtain⟨r,h1,f⟩:=ih _ (aZ a ar) t plain;grind
 have b:=ns (λi=>rB (l,(l.length:Int),(i:Int),ts,t,plain)) l.length (λi=>!(p i)) (λi=>.inl ((i:Int),ts,t,plain)) (.inr (ts,t,plain))
  (λi a=>by
   rw[rB,bE,ae (aH a),IT];simp only[I.aP,aV];rw[(c i a).1,bA (by omega)]
   rfl)
  (by rw[rB,bz])
 have hs:=scan (λi=>kV (t,l,plain,(i:Int),ts)) l.length p (.inl false) (.inr ())
  (λi a=>by
   rw[kV,bE,ae (aH a)];simp only[I.aP,aV];rw[(c i a).2,bA (by omega)]
   grind)
  (by rw[kV,bz])
 have aM:rB (l,(l.length:Int),((0:Nat):Int),ts,t,plain)=rB (l,(l.length:Int),0,ts,t,plain):=rfl;have d:kV (t,l,plain,((0:Nat):Int),ts)=kV (t,l,plain,0,ts):=rfl;simp only[aM]at b;simp only[d]at hs;rw[r4,C9,Hh,oB];rcases b with⟨j,a1,a2,a3,a4⟩|⟨a1,a4⟩<;>rcases hs with⟨b1,b2⟩|⟨b1,k,b2,b3⟩
 . have:=b2 j a1;simp[this]at a2
 . rw[a4,b1];refine⟨false,?_,rfl⟩;have e:decide ((0:Int)<=(j:Int))=true:=(by simp);simp only[aS,ak,e,de]
 . rw[a4,b1];exact⟨true,rfl,rfl⟩
 . have:=a1 k b2;simp[b3]at this
def G0(t:ai)(l:List bQ)(i:Nat):Bool:=
 !((gr (t,(l.getD i bP).ad)).getD (0,false)).2&&(decide (1<=(l.getD i bP).ad)&&decide ((l.getD i bP).ad<=1000))&&(decide (i=0)||decide ((l.getD (i-1) bP).ad<(l.getD i bP).ad))
theorem ac5{l:Type}(gO f b:Bool)(a:Int)(e C:Int->Bool)(g i:Option l)(j:b=true->e a=true):
 ((if !gO then some f else some false)>>=λk=>some (bif gO then true else(!k))>>=λt131=>some b>>=λt134=>some a>>=λt141=>
  if(e t141||(!((!t131)&&t134))) then if(bif t131 then true else bif t134 then C t141 else false) then g else i else none)=if !gO&&f&&(!b || !(C a)) then i else g:=by
 simp only[aS,ak];generalize C a=c;cases b with
 |true=>rw[j rfl];cases gO<;>cases f<;>cases c<;>rfl
 |false=>generalize e a=d;cases gO<;>cases f<;>cases d<;>cases c<;>rfl
theorem M1{n:Type}(b g e:Bool)(a:Int)(f C:Int->Bool)(i j:Option n)(k:g=true)(l:e=true->f a=true):
 (some b>>=λm=>some (!m)>>=λt31=>some e>>=λt34=>
  if(g||(!((!t31)&&t34))) then some a>>=λt43=>if(f t43||(!((!t31)&&t34))) then if(bif t31 then true else bif t34 then C t43 else false) then i else j else none else none)=if(b&&(!e || !(C a))) then j else i:=by
 subst k;simp only[aS,ak];generalize C a=c;cases e with
 |true=>rw[l rfl];cases b<;>cases c<;>rfl
 |false=>generalize f a=d;cases b<;>cases d<;>cases c<;>rfl
theorem rI{i:Nat}(h:0<i)(a:i<9223372036854775807):di .i64 (i:Int) 1=((i-1:Nat):Int):=by
 rw[hJ (by omega) (by omega)];omega
theorem ai6(ht:t.af.length<9223372036854775807)(v:I)(ah:v.Rest.length<=reachBytes)(plain:Bool)(ts:List ai):
 let inr:=(plain,ts,v.Kind,v.bS,v.bg,v.bt,v.ad,v.aB,v.ag,v.Rest,t.Kind,t.Name,t.bJ,t.bN,t.Max,t.bj,t.af,t.Key,t.aD,t.Open)
 ((lu (plain,v.Rest,(v.Rest.length:Int),0,ts,v,t.Kind,t.Name,t.bJ,t.bN,t.Max,t.bj,t.af,t.Key,t.aD,t.Open)=some (.inr inr)/\rr (t,v.Rest)=some true)\/
  (lu (plain,v.Rest,(v.Rest.length:Int),0,ts,v,t.Kind,t.Name,t.bJ,t.bN,t.Max,t.bj,t.af,t.Key,t.aD,t.Open)=some (.inl false)/\rr (t,v.Rest)=some false)):=by
 intro inr;have k:=dx ah;have d:∀i,i<v.Rest.length->∀r,gr (t,(v.Rest.getD i bP).ad)=some r->G0 t v.Rest i=(!r.2&&(bif decide (1<=(v.Rest.getD i bP).ad)then decide ((v.Rest.getD i bP).ad<=1000)else false)&&(!(decide ((0:Int)<(i:Int))) || !(decide ((v.Rest.getD i bP).ad<=(v.Rest.getD (di .i64 (i:Int) 1).toNat bP).ad)))):=by
  intro i a r g;unfold G0;rw[g,yO];generalize (v.Rest.getD i bP).ad=x;by_cases h0:i=0
  . grind
  . have c:decide ((0:Int)<(i:Int))=true:=by simp;omega
    rw[c,rI (by omega) (by omega),aV];grind
 have h:=JR (λi=>lu (plain,v.Rest,(v.Rest.length:Int),(i:Int),ts,v,t.Kind,t.Name,t.bJ,t.bN,t.Max,t.bj,t.af,t.Key,t.aD,t.Open)) (λi=>kj (v.Rest,(i:Int),t)) v.Rest.length (G0 t v.Rest) inr ()
  (λi a=>by
   obtain⟨r,h1,_,_⟩:=ma (t:=t) (v.Rest.getD i bP).ad ht;rw[lu,bE,ae (aH a),d i a r h1];simp only[aV,D3,I.aP,zJ,aS,ak];rw[h1,bA (by omega)]
   exact ac5 r.2 (bif decide (1<=(v.Rest.getD i bP).ad)then decide ((v.Rest.getD i bP).ad<=1000)else false) (decide ((0:Int)<(i:Int))) (di .i64 (i:Int) 1) (λj=>ay j v.Rest.length) (λj=>decide ((v.Rest.getD i bP).ad<=(v.Rest.getD j.toNat bP).ad)) _ _ (λc=>by
    have:0<i:=by simp at c;omega
    show ay _ _=true
    rw[rI this (by omega)];exact aH (by omega)))
  (by rw[lu,bz])
  (λi a=>by
   obtain⟨r,h1,b,_⟩:=ma (t:=t) (v.Rest.getD i bP).ad ht;rw[kj,bE,ae (aH a),d i a r h1];simp only[aV];rw[b,bA (by omega)];have f:jr ((v.Rest.getD i bP).ad,r.2)=some ((!r.2)&&(bif decide (1<=(v.Rest.getD i bP).ad)then decide ((v.Rest.getD i bP).ad<=1000)else false)):=by
    rw[jr];grind
   show(if ay (i:Int) v.Rest.length then jr ((v.Rest.getD i bP).ad,r.2)>>=_ else none)=_;rw[ae (aH a),f]
   exact M1 ((!r.2)&&(bif decide (1<=(v.Rest.getD i bP).ad)then decide ((v.Rest.getD i bP).ad<=1000)else false)) (ay (i:Int) v.Rest.length) (decide ((0:Int)<(i:Int))) (di .i64 (i:Int) 1) (λj=>ay j v.Rest.length) (λj=>decide ((v.Rest.getD i bP).ad<=(v.Rest.getD j.toNat bP).ad)) _ _ (aH a) (λc=>by
    have:0<i:=by simp at c;omega
    show ay _ _=true
    rw[rI this (by omega)];exact aH (by omega)))
  (by rw[kj,bz])
 have aM:lu (plain,v.Rest,(v.Rest.length:Int),((0:Nat):Int),ts,v,t.Kind,t.Name,t.bJ,t.bN,t.Max,t.bj,t.af,t.Key,t.aD,t.Open)=lu (plain,v.Rest,(v.Rest.length:Int),0,ts,v,t.Kind,t.Name,t.bJ,t.bN,t.Max,t.bj,t.af,t.Key,t.aD,t.Open):=rfl;have e:kj (v.Rest,((0:Nat):Int),t)=kj (v.Rest,0,t):=rfl;simp only[aM,e]at h;rw[rr];rcases h with⟨h1,b,_⟩|⟨h1,b,_⟩
 . exact .inl ⟨h1,by rw[b];rfl⟩
 . exact .inr ⟨h1,by rw[b];rfl⟩
end
theorem ab3(ah:v.ag.length=t.af.length)(d:t.af.length<9223372036854775807)(ih:∀x,x∈v.ag->Fit ts x)(plain:Bool):
 (pU (plain,t.af,(t.af.length:Int),0,ts,v.Kind,v.bS,v.bg,v.bt,v.ad,v.aB,v.ag,v.Rest)=some (.inr ())/\jP (plain,0,ts,v,t.Kind,t.Name,t.bJ,t.bN,t.Max,t.bj,t.af,t.Key,t.aD,t.Open)=some (.inr ()))\/
 (pU (plain,t.af,(t.af.length:Int),0,ts,v.Kind,v.bS,v.bg,v.bt,v.ad,v.aB,v.ag,v.Rest)=some (.inl false)/\jP (plain,0,ts,v,t.Kind,t.Name,t.bJ,t.bN,t.Max,t.bj,t.af,t.Key,t.aD,t.Open)=some (.inl false)):=by
 let p:Nat->Bool:=λi=>(kn (⟨ts⟩,(t.af.getD i aw).av,v.ag.getD i ar,plain)).getD false;have c:∀i,i<t.af.length->kn (⟨ts⟩,(t.af.getD i aw).av,v.ag.getD i ar,plain)=some (p i)/\iB (⟨ts⟩,(t.af.getD i aw).av,v.ag.getD i ar,plain)=some (p i):=by
  intro i a;obtain⟨r,h1,b⟩:=ih _ (aZ (by omega:i<v.ag.length) ar) (t.af.getD i aw).av plain;grind
 have h:=JR (λi=>pU (plain,t.af,t.af.length,i,ts,v.Kind,v.bS,v.bg,v.bt,v.ad,v.aB,v.ag,v.Rest)) (λi=>jP (plain,i,ts,v,t.Kind,t.Name,t.bJ,t.bN,t.Max,t.bj,t.af,t.Key,t.aD,t.Open)) _ p () ()
  (λi a=>by
   rw[pU,ae (aH a),ae (aH (by omega))]
   grind[aV,I.aP,bA])
  (by simp_all[pU])
  (λi a=>by
   rw[jP,ae (aH a),ae (aH (by omega))]
   grind[aV,I.aP,bA])
  (by simp_all[jP,al])
 grind
theorem wW(h:bC v):cy v.bg:=by cases h with|mk _ _ _ _ _ _ _ _ cZ a=>exact a
theorem acy{ts:List ai}{t:ai}(j:v.aB.length<9223372036854775807)(d:∀x,x∈v.aB->bC x)(plain:Bool):
 let inr:=(plain,ts,v,t.Kind,t.Name,t.bJ,t.bN,t.Max,t.bj,t.af,t.Key,t.aD,t.Open)
 (l6 (plain,1,ts,v,t.Kind,t.Name,t.bJ,t.bN,t.Max,t.bj,t.af,t.Key,t.aD,t.Open)=some (.inr inr)/\iA (1,v)=some (.inr ()))\/
 (l6 (plain,1,ts,v,t.Kind,t.Name,t.bJ,t.bN,t.Max,t.bj,t.af,t.Key,t.aD,t.Open)=some (.inl false)/\iA (1,v)=some (.inl false)):=by
 intro inr;by_cases h0:v.aB.length=0
 . left;refine⟨?_,?_⟩
   . rw[l6,al (by grind),I.aP]
   simp_all[iA,al]
 let c:=λi=>(pT (v.aB.getD i ar,v.aB.getD (i+1) ar)).getD 0;have g:∀i,i+1<v.aB.length->pT (v.aB.getD i ar,v.aB.getD (i+1) ar)=some (c i)/\n' (v.aB.getD i ar,v.aB.getD (i+1) ar)=some (c i):=by
  intro i a;obtain⟨r,h1,f⟩:=DF (wW (d _ (aZ (by omega:i<v.aB.length) ar))) (wW (d _ (aZ a ar)));grind
 have h:=JR (λi=>l6 (plain,((i+1:Nat):Int),ts,v,t.Kind,t.Name,t.bJ,t.bN,t.Max,t.bj,t.af,t.Key,t.aD,t.Open)) (λi=>iA ((i+1:Nat),v)) (v.aB.length-1) (λi=>!(decide (0<=c i))) inr ()
  (λi a=>by
   have hs:=rI (i:=i+1) (by simp) (by omega);have b:di .i64 ((i+1:Nat):Int) 1=(i:Int):=(by grind);rw[l6];simp only[aS,ak];rw[b,ae (aH (by omega)),ae (aH (by omega))];simp only[aV,I.aP]
   grind[bA])
  (by
   have e:v.aB.length-1+1=v.aB.length:=by omega
   rw[e,l6,bz,I.aP])
  (λi a=>by
   have hs:=rI (i:=i+1) (by simp) (by omega);have b:di .i64 ((i+1:Nat):Int) 1=(i:Int):=(by grind);rw[iA];simp only[aS,ak];rw[b,ae (aH (by omega)),ae (aH (by omega))];simp only[aV,I.aP]
   grind[bA])
  (by
   have e:v.aB.length-1+1=v.aB.length:=by omega
   simp_all[iA,al])
 grind
theorem Mw{c:Type}{b:List c}(h:decide ((a.length:Int)=(b.length:Int))=true):a.length=b.length:=by grind
theorem Uz{r:Int×Bool}(d:o=some r)(a plain f:Bool):
 (o>>=λb=>some (bif a then(!plain)else false)>>=λt85=>(if((!b.2)&&t85) then some f else some false)>>=λc=>some (bif b.2 then true else bif t85 then c else false))=some (r.2||(a && !plain&&f)):=by
 grind
theorem Gd{r:Int×Bool}(d:o=some r)(b plain f:Bool)(F:Bool->Option Bool)(bn:F false=some f):
 (o>>=λa=>some (bif b then(!plain)else false)>>=λt85=>(if((!a.2)&&t85) then F a.2 else some false)>>=λc=>some (bif a.2 then true else bif t85 then c else false))=some (r.2||(b && !plain&&f)):=by
 grind
theorem k7{o:Option Bool}{r:Bool}(b:o=some r)(q:Bool):(some q>>=λt244=>(if t244 then o else some false)>>=λa=>some (bif t244 then a else false))=some (q&&r):=by grind
theorem Ge(c a b f:Bool){d:Option Bool}(g:c=true->d=some f)(h1:c=true->a=true/\b=true):(some c>>=λt188=>if(a||(!t188))then if(b||(!t188))then(if t188 then d else some false)>>=λe=>some (bif t188 then e else false)else none else none)=some (c&&f):=by grind
theorem aiB(A b q m:Bool){a:Option Bool}(e:a=some q)(d:A=true->L=some (if m then .inr ()else .inl false)):
 (if(bif (bif false then true else(!true))then true else b) then some false else some (!A)>>=λt107=>(if !t107 then a else some false)>>=λc=>if(bif t107 then true else(!c)) then some false else L>>=λo=>match o with|.inl x=>some x|.inr _=>some true)=some (A && !b&&q&&m):=by
 grind
theorem Gf(g f b a cu E:Bool)(h1:a=true->cu=true):(some g>>=λt209=>(if t209 then some f else some false)>>=λc=>some (bif bif bif t209 then c else false then b else false then a else false)>>=λt226=>if(cu||(!t226))then some (bif t226 then E else false)else none)=some (g&&f&&b&&a&&E):=by grind
theorem UA(c:Bool){b a:Option Bool}{k i:Bool}(f:b=some k)(e:a=some i)(d:L=some (if q then .inr ()else .inl false)):
 (some c>>=λt239=>(if !t239 then b else some false)>>=λl=>some (bif t239 then true else(!l))>>=λt249=>(if !t249 then a else some false)>>=λm=>if(bif t249 then true else(!m)) then some false else L>>=λg=>match g with|.inl j=>some j|.inr _=>some true)=some (!c&&k&&q&&i):=by
 subst f;subst e;subst d;cases c<;>cases k<;>cases q<;>cases i<;>rfl
theorem JS(aJ:ts.length<9223372036854775807)(cS:∀t,t∈ts->eW t)(bD:∀t,t∈ts->oy t.Kind)(az:bC v):Fit ts v:=by
 induction az with
 |mk v hs h1 Q T ak aM aQ cZ aT aU aW aA P=>
  intro t plain;rw[kn,iB];by_cases F:(bif decide (t<0)then true else decide (((⟨ts⟩:aO).Types.length:Int)<=t))=true
  . rw[ae F,ae F];exact⟨false,rfl,rfl⟩
  . rw[al F,al F];have aP:0<=t/\t<ts.length:=(by grind);obtain⟨j,rfl⟩:∃j:Nat,t=(j:Int):=⟨t.toNat,by omega⟩
    have C:j<ts.length:=(by omega);rw[ae (aH C),ae (aH C)];simp only[aV,I.aP];have O:=cS _ (aZ C aG);have G:=bD _ (aZ C aG);generalize ts.getD j aG=x at O G⊢;have D:=dx (ig O.ha);have X:=dx (ig O.syms);by_cases y:v.Kind=x.Kind
    . obtain⟨p,aB,aC,aD⟩:=aa' (v:=v) (by rw[y];exact G);rw[aB,aC];cases p with
      |false=>exact⟨false,by simp[y],by simp[y]⟩
      |true=>
       have J:=Nr (ts:=ts) Q P;have am:=Nr (ts:=ts) h1 aA;obtain⟨K,N,L,H,M,S,d,l,E,e⟩:=x;obtain⟨u,B,cu,n,ad,g,c,R⟩:=v;simp only at y;subst y;have w:=aD rfl;simp only at w G D X h1 Q T;have aj:u=1\/u=2\/u=3\/u=4\/u=5\/u=6\/u=7\/u=8\/u=9:=by unfold oy at G;omega
       rcases aj with rfl|rfl|rfl|rfl|rfl|rfl|rfl|rfl|rfl
       . obtain rfl:R=[]:=w (by decide) (by decide);cases plain<;>exact⟨true,rfl,rfl⟩
       . obtain rfl:R=[]:=w (by decide) (by decide);cases plain<;>exact⟨_,rfl,rfl⟩
       . obtain rfl:R=[]:=w (by decide) (by decide);cases plain<;>exact⟨_,rfl,rfl⟩
       . obtain rfl:R=[]:=w (by decide) (by decide);obtain⟨r,o,s,_⟩:=p0 (t:=⟨4,N,L,H,M,S,d,l,E,e⟩) ad X;have A:jr (ad,false)=some (bif decide (1<=ad)then decide (ad<=1000)else false):=(by rfl);cases plain
         . exact⟨_,Uz o e false _,Gd s e false _ (λb=>jr (ad,b)) A⟩
         . exact⟨_,Uz o e true _,Gd s e true _ (λb=>jr (ad,b)) A⟩
       ·
        have aR:=ai6 (t:=⟨5,N,L,H,M,S,d,l,E,e⟩) D ⟨5,B,cu,n,ad,g,c,R⟩ T plain ts;have au:decide ((c.length:Int)=(d.length:Int))=true->_:=λz=>ab3 (ts:=ts) (t:=⟨5,N,L,H,M,S,d,l,E,e⟩) (v:=⟨5,B,cu,n,ad,g,c,R⟩) (Mw z) D P plain;have ax:∃q:Bool,lu (plain,R,(R.length:Int),0,ts,⟨5,B,cu,n,ad,g,c,R⟩,5,N,L,H,M,S,d,l,E,e)=some (if q then .inr (plain,ts,5,B,cu,n,ad,g,c,R,5,N,L,H,M,S,d,l,E,e)else .inl false)/\rr (⟨5,N,L,H,M,S,d,l,E,e⟩,R)=some q:=(by grind);obtain⟨q,aX,aE⟩:=ax;have ap:∃m:Bool,decide ((c.length:Int)=(d.length:Int))=true->(pU (plain,d,(d.length:Int),0,ts,5,B,cu,n,ad,g,c,R)=some (if m then .inr ()else .inl false)/\jP (plain,0,ts,⟨5,B,cu,n,ad,g,c,R⟩,5,N,L,H,M,S,d,l,E,e)=some (if m then .inr ()else .inl false)):=by
         cases z:decide ((c.length:Int)=(d.length:Int))with
         |false=>exact⟨true,λh=>by cases h⟩
         |true=>
          rcases au z with⟨a,b⟩|⟨a,b⟩
          . simp_all
          simp_all
        obtain⟨m,ao⟩:=ap;refine⟨(decide ((c.length:Int)=(d.length:Int))) && !(bif plain then decide (0<(R.length:Int))else false)&&q&&m,?_,?_⟩
        . show(if(bif (!((c.length:Int)=(d.length:Int):Bool))then true else bif plain then (0<(R.length:Int):Bool)else false) then some false else lu (plain,R,(R.length:Int),0,ts,⟨5,B,cu,n,ad,g,c,R⟩,5,N,L,H,M,S,d,l,E,e)>>=_)=_;grind
        . exact aiB (decide ((c.length:Int)=(d.length:Int))) (bif plain then decide (0<(R.length:Int))else false) q m aE (λz=>(ao z).2)
       ·
        obtain⟨r,o,s,A⟩:=ma (t:=⟨6,N,L,H,M,S,d,l,E,e⟩) ad D;have aN:∀b,b=false->jr (ad,b)=some (bif decide (1<=ad)then decide (ad<=1000)else false):=by
         intro b ah;subst ah;rfl
        have ag:∃f:Bool,(bif decide ((c.length:Int)=1)then decide ((R.length:Int)=0)else false)=true->(kn ((⟨ts⟩:aO),(d.getD r.1.toNat aw).av,c.getD (0:Int).toNat ar,plain)=some f/\iB ((⟨ts⟩:aO),(d.getD r.1.toNat aw).av,c.getD (0:Int).toNat ar,plain)=some f):=by
         by_cases ab:c.length=1
         . obtain⟨f,f1,f2⟩:=P (c.getD 0 ar) (aZ (by omega:0<c.length) ar) (d.getD r.1.toNat aw).av plain;grind
         grind
        obtain⟨f,V⟩:=ag;have W:r.2=true->(bif decide ((c.length:Int)=1)then decide ((R.length:Int)=0)else false)=true->ay r.1 d.length=true/\ay 0 c.length=true:=by
         intro af aL;constructor
         . rcases A with⟨k,k1,_,_,rfl⟩|⟨_,rfl⟩
           . exact aH k1
           . cases af
         . by_cases ab:c.length=1
           . exact aH (k:=0) (by omega)
           grind
        have U:decide ((R.length:Int)=1)=true->ay 0 R.length=true:=by
         intro h;have:=gP h;exact aH (k:=0) (by omega)
        obtain⟨aa,ky⟩:=r;refine⟨if ky then(bif decide ((c.length:Int)=1)then decide ((R.length:Int)=0)else false)&&f else(bif e then(!plain)else false)&&(bif decide (1<=ad)then decide (ad<=1000)else false)&&decide ((c.length:Int)=0)&&decide ((R.length:Int)=1)&&decide ((R.getD (0:Int).toNat bP).ad=ad),?_,?_⟩
        . show(gr (⟨6,N,L,H,M,S,d,l,E,e⟩,ad)>>=_)=_;rw[o];cases ky with
          |true=>exact Ge _ (ay aa d.length) (ay 0 c.length) f (λh=>(V h).1) (W rfl)
          |false=>exact Gf (bif e then(!plain)else false) (bif decide (1<=ad)then decide (ad<=1000)else false) (decide ((c.length:Int)=0)) (decide ((R.length:Int)=1)) (ay 0 R.length) (decide ((R.getD (0:Int).toNat bP).ad=ad)) U
        . show(if(bif (bif false then true else(!true))then true else(bif plain then (0<(R.length:Int):Bool)else false)) then some false else fw (⟨6,N,L,H,M,S,d,l,E,e⟩,ad)>>=_)=_;rw[s];cases aK:(bif plain then decide (0<(R.length:Int))else false)with
          |true=>
           have aq:plain=true:=(by grind);subst aq;have aI:decide ((R.length:Int)=0)=false:=(by grind);grind
          |false=>
           cases ky with
           |true=>exact Ge _ (ay aa d.length) (ay 0 c.length) f (λh=>(V h).2) (W rfl)
           |false=>exact Gf (bif e then(!plain)else false) (bif decide (1<=ad)then decide (ad<=1000)else false) (decide ((c.length:Int)=0)) (decide ((R.length:Int)=1)) (ay 0 R.length) (decide ((R.getD (0:Int).toNat bP).ad=ad)) U
       . obtain rfl:R=[]:=w (by decide) (by decide);obtain⟨r,o,s⟩:=J E plain;cases plain
         . exact⟨_,k7 o _,k7 s _⟩
         . exact⟨_,k7 o _,k7 s _⟩
       . obtain rfl:R=[]:=w (by decide) (by decide);obtain⟨k,k1,k2⟩:=am l plain;obtain⟨i,aS,Y⟩:=J E plain;have an:=acy (ts:=ts) (t:=⟨8,N,L,H,M,S,d,l,E,e⟩) (v:=⟨8,B,cu,n,ad,g,c,[]⟩) (dx h1) ak plain;obtain⟨q,aY,Z⟩:∃q:Bool,l6 (plain,1,ts,⟨8,B,cu,n,ad,g,c,[]⟩,8,N,L,H,M,S,d,l,E,e)=some (if q then .inr (plain,ts,⟨8,B,cu,n,ad,g,c,[]⟩,8,N,L,H,M,S,d,l,E,e)else .inl false)/\iA (1,⟨8,B,cu,n,ad,g,c,[]⟩)=some (if q then .inr ()else .inl false):=by
          rcases an with⟨a,b⟩|⟨a,b⟩
          . simp_all
          simp_all
         refine⟨!(bif decide (M<(g.length:Int))then true else(!(decide ((c.length:Int)=(g.length:Int)))))&&k&&q&&i,?_,?_⟩
         . show(some (bif decide (M<(g.length:Int))then true else(!(decide ((c.length:Int)=(g.length:Int)))))>>=λt270=>(if !t270 then r4 ((⟨ts⟩:aO),l,g,plain)else some false)>>=λaF=>if(bif t270 then true else(!aF)) then some false else l6 (plain,1,ts,⟨8,B,cu,n,ad,g,c,[]⟩,8,N,L,H,M,S,d,l,E,e)>>=_)=_;grind
         . cases plain
           . exact UA (bif decide (M<(g.length:Int))then true else(!(decide ((c.length:Int)=(g.length:Int))))) k2 Y Z
           . exact UA (bif decide (M<(g.length:Int))then true else(!(decide ((c.length:Int)=(g.length:Int))))) k2 Y Z
       . obtain rfl:R=[]:=w (by decide) (by decide);obtain⟨r,o,s⟩:=J E plain;cases plain
         . exact⟨_,k7 o _,k7 s _⟩
         . exact⟨_,k7 o _,k7 s _⟩
    . exact⟨false,by simp[y],by simp[y]⟩
theorem xv{U:cJ}{t:aN}{l:List (t.den U.D)}(h:WF U ⟨.slice t,l⟩):l.length<=reachBytes/\l.length*t.bytes U<=reachBytes/\∀x,x∈l->∀c,c∈t.row U x->WF U c:=by cases h with|slice t l h1 a b=>exact⟨h1,a,b⟩
theorem Mx(s:aO):(⟨s.Types⟩:aO)=s:=by cases s;rfl
def gR(n:Nat):aj:=if n=0 then[]else gR (n/256)++[UInt8.ofNat (n%256)]
termination_by n
decreasing_by omega
theorem On:∀(l:List α) (k:Nat) (x:α),k<l.length->(l.set k x).drop k=x::l.drop (k+1)
 |[],k,x,h=>by simp at h
 |a::l,0,x,h=>by simp
 |a::l,k+1,x,h=>by simp[On l k x (by simpa using h)]
theorem ajf(n:Nat):lO .u64 (n:Int) 8=((n/256:Nat):Int):=by
 unfold lO;have:((2:Int)^min (8:Int).toNat IntKind.u64.bits)=256:=by decide
 grind
theorem St:∀(i n:Nat) (b:ao),n<256^i->i<=8->b.length=8->∃(c:Nat) (a:ao),td ((n:Int),(i:Int),b)=some ((c:Int),a)/\c<=8/\a.length=8/\strOf (a.drop c)=gR n++strOf (b.drop i)
 |i,n,b,aJ,d,e=>by
  rw[td];by_cases h0:n=0
  . subst h0;rw[bz];refine⟨i,b,rfl,d,e,?_⟩;rw[gR,ae rfl];rfl
  . rw[bE]
    match i,aJ,d with
    |0,aJ,d=>simp at aJ;omega
    |i+1,aJ,d=>
     have hs:di .i64 ((i+1:Nat):Int) 1=(i:Int):=by rw[hJ (by omega) (by omega)];omega
     simp only[aS,ak];rw[hs,ae (aH (by omega)),ae (by simp[e];omega),ajf,xO,aV];have aC:n/256<256^i:=(by omega);obtain⟨c,a,h1,f,g,j⟩:=St i (n/256) (b.set i ((n%256:Nat):Int)) aC (by omega) (by simp[e]);refine⟨c,a,h1,f,g,?_⟩;rw[j,On _ _ _ (by omega),abX]
     conv=>rhs;rw[gR,al h0]
     grind
theorem E3{n:Nat}(aJ:n<18446744073709551616):zK (n:Int)=some (gR n):=by
 have e:(256:Nat)^8=18446744073709551616:=by decide
 obtain⟨c,d,h1,k,a,g⟩:=St 8 n [0,0,0,0,0,0,0,0] (by rw[e];exact aJ) (by omega) rfl;have f:td ((n:Int),8,[0,0,0,0,0,0,0,0])=some ((c:Int),d):=h1;rw[zK,f];simp only[aS,ak,aV];have j:d' (c:Int) 8 8=true:=jW (b:=8) (by omega) (by omega);have i:(8:Int).toNat=8:=rfl;rw[ae j,i,ae (by simp[xG,a];omega)];rw[uO (by simp[a]),g];simp[strOf]
theorem xw:∀(f n:Nat),n<256^f->(gR n).length<=f
 |0,n,h=>by
  have:n=0:=by simpa using h
  subst this;rw[gR,ae rfl];simp
 |f+1,n,h=>by
  rw[gR];split
  . simp
  . have:=xw f (n/256) (by omega);simp;omega
theorem Ns:∀(f n:Nat) (a:aj),n<256^f->n<18446744073709551616->a.length+f<=1000->wv ((n:Int),a)=some (gR n++a)
 |f,n,a,aJ,j,c=>by
  rw[wv];by_cases h0:n=0
  . subst h0;rw[bz,gR,ae rfl];rfl
  . rw[bE]
    match f,aJ,c with
    |0,aJ,c=>simp at aJ;omega
    |f+1,aJ,c=>
     have i:b9 (n:Int) 256=((n%256:Nat):Int):=A0 (b:=256);have g:fB .u64 (n:Int) 256=((n/256:Nat):Int):=by
      unfold fB;have e:(n:Int).tdiv 256=((n/256:Nat):Int):=by rw[Int.tdiv_eq_ediv_of_nonneg (by omega)];omega
      rw[e];exact lf (by omega) (by omega)
     have d:strOf [((n%256%256:Nat):Int)]=[UInt8.ofNat (n%256)]:=by
      have:n%256%256=n%256:=(by omega);rw[this];rfl
     simp only[aS,ak];rw[i,g,xO,d,ae (ga (by simp;omega))];have aC:n/256<256^f:=(by omega);rw[Ns f (n/256) _ aC (by omega) (by simp;omega)]
     conv=>rhs;rw[gR,al h0]
     grind
theorem Nt{n:Nat}(aJ:n<18446744073709551616):zX (n:Int)=some (gR n):=by
 have e:(256:Nat)^8=18446744073709551616:=by decide
 rw[zX,Ns 8 n [] (by rw[e];exact aJ) aJ (by simp)];simp
end
end Go.Proofs.YtdjagncoefjfeaaGreat
