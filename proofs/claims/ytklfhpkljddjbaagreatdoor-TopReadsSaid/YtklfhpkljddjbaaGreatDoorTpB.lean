/- The functions of the program as functions of Lean, that its code does what they say, and what they answer; part B. -/
import Derived.Test.YtklfhpkljddjbaaGreatDoorTpA

namespace Go.Proofs.YtklfhpkljddjbaaGreatDoor
set_option linter.all false
section
open Go Go.Proofs.YtklfhpkljddjbaaGreatDoor.Shv
open Tryz
set_option maxRecDepth 100000
def nE:List aU×Int×Int×List aj×List aj×au×aa×aj×Int×Bool×Int×ar×Int×Int×Bool×Int×ar×Int×au×List aa×List cG->Option ((Bool×List aj×List aj×aa×au×au) ⊕ (List aj×List aj×au×Int×Bool×Int×ar×Int×Int×Bool×Int×ar×Int×au×List aa×List cG))
 |(t115,v,t117,c,e,f,b,j,k,l,m,n,o,p,q,r,s,t,g,u,i)=>
 if (t117<v:Bool) then if aQ t117 t115.length then some (t115.getD t117.toNat aG)>>=λa=>gH (j,a.ah)>>=λw=>if w.2 then nE (t115,v,aT .i64 t117 1,c,e,f,aa.eta b,j,k,l,m,n,o,p,q,r,s,t,g,u,i)else if a.cu then vi (a.ah,c,e,f,g)>>=λd=>some (.inl (d.2.1,d.2.2.1,d.2.2.2.1,aa.eta d.1,d.2.2.2.2.1,d.2.2.2.2.2))else if aQ t117 b.aq.length then tl ((⟨a.ah,a.Name,a.aB,a.cu,a.b8,aa.eta a.bU⟩:aU),aa.eta (b.aq.getD t117.toNat aH))>>=λx=>if !x then if aQ t117 b.aq.length then lf ((⟨c⟩:bq),a.aB,aa.eta (b.aq.getD t117.toNat aH))>>=λy=>some [(⟨a.ah,y⟩:cG)]>>=λt163=>if room 24 (i++t163).length then nE (t115,v,aT .i64 t117 1,c,e,f,aa.eta b,j,k,l,m,n,o,p,q,r,s,t,g,u,i++t163)else none else none else nE (t115,v,aT .i64 t117 1,c,e,f,aa.eta b,j,k,l,m,n,o,p,q,r,s,t,g,u,i)else none else none else some (.inr (c,e,f,k,l,m,n,o,p,q,r,s,t,g,u,i))
  partial_fixpoint
theorem Vt:c5 116 2 [1] Pb nE:= .rx nE.partial_correctness (.k kg (.k R5 (.k Hk (.k RF .n))))
mutual
def q6:Int×Int×aa×Int×List aj×List aj×au×au->Option (aa×Bool×List aj×List aj×au×au)
 |(step,wt,v,rt,b,f,p,j)=>
 some [step]>>=λt20=>if room 8 (j++t20).length then tm (wt,aa.eta v,rt,b,f,p,j++t20)>>=λr=>some (dY .i64 (r.2.2.2.2.2.length:Int) 1)>>=λt42=>if eH 0 t42 r.2.2.2.2.2.length then if (t42.toNat<=r.2.2.2.2.2.length:Bool) then some (aa.eta r.1,r.2.1,r.2.2.1,r.2.2.2.1,r.2.2.2.2.1,r.2.2.2.2.2.take t42.toNat)else none else none else none
  partial_fixpoint
def nK(t:Int×List aa×Int×List aj×List aj×au×au):Option (List aa×Bool×List aj×List aj×au×au):=
 match t with
 |(wt,l,rt,b,f,p,j)=>
 s9 (wt,rt,l,(l.length:Int),0,b,f,p,[],j)>>=λo=>match o with
 |.inl w=>
 some ([],w.1,w.2.1,w.2.2.1,w.2.2.2.1,w.2.2.2.2)
 |.inr e=>
 some (e.2.2.2.1,true,e.1,e.2.1,e.2.2.1,e.2.2.2.2)
  partial_fixpoint
def tm:Int×aa×Int×List aj×List aj×au×au->Option (aa×Bool×List aj×List aj×au×au)
 |(wt,v,rt,b,f,p,j)=>
 if aQ wt b.length then some (b.getD wt.toNat aM)>>=λc=>if aQ rt f.length then some (f.getD rt.toNat aM)>>=λa=>if !(c.Kind=a.Kind:Bool) then ti (b,f,p,j)>>=λr=>some (aa.eta r.1,r.2.1,r.2.2.1,r.2.2.2.1,r.2.2.2.2.2,r.2.2.2.2.1)else
 let bj:=λci=>
 if !ci then ti (b,f,p,j)>>=λU=>some (aa.eta U.1,U.2.1,U.2.2.1,U.2.2.2.1,U.2.2.2.2.2,U.2.2.2.2.1)else if (c.Kind=5:Bool) then x1 (c,aa.eta v,a,b,f,p,j)>>=λO=>some (aa.eta O.1,O.2.1,O.2.2.1,O.2.2.2.1,O.2.2.2.2.1,O.2.2.2.2.2)else if (c.Kind=6:Bool) then x7 (c,aa.eta v,a,b,f,p,j)>>=λP=>some (aa.eta P.1,P.2.1,P.2.2.1,P.2.2.2.1,P.2.2.2.2.1,P.2.2.2.2.2)else if (c.Kind=8:Bool) then nK (c.Key,v.aJ,a.Key,b,f,p,j)>>=λD=>if !D.2.1 then some ((⟨0,false,0,[],0,[],[],[]⟩:aa),false,D.2.2.1,D.2.2.2.1,D.2.2.2.2.1,D.2.2.2.2.2)else nK (c.aK,v.aq,a.aK,D.2.2.1,D.2.2.2.1,D.2.2.2.2.1,D.2.2.2.2.2)>>=λG=>if !G.2.1 then some ((⟨0,false,0,[],0,[],[],[]⟩:aa),false,G.2.2.1,G.2.2.2.1,G.2.2.2.2.1,G.2.2.2.2.2)else some ((⟨v.Kind,v.b9,v.bw,v.bH,v.ah,D.1,G.1,[]⟩:aa),true,G.2.2.1,G.2.2.2.1,G.2.2.2.2.1,G.2.2.2.2.2)else nK (c.aK,v.aq,a.aK,b,f,p,j)>>=λH=>if !H.2.1 then some ((⟨0,false,0,[],0,[],[],[]⟩:aa),false,H.2.2.1,H.2.2.2.1,H.2.2.2.2.1,H.2.2.2.2.2)else some ((⟨v.Kind,v.b9,v.bw,v.bH,v.ah,[],H.1,[]⟩:aa),true,H.2.2.1,H.2.2.2.1,H.2.2.2.2.1,H.2.2.2.2.2)
 if (c.Kind=2:Bool) then bj (bif decide (a.bT<=v.bw)then decide (v.bw<=a.bW)else false)else
 let bi:=λce=>
 bj ce
 if (c.Kind=3:Bool) then bi (decide ((v.bH.length:Int)<=a.Max))else if (c.Kind=4:Bool) then pa (a,v.ah)>>=λb2=>bi (bif b2.2 then true else a.Open)else some (decide (c.Kind=7))>>=λt91=>
 let bh:=λb'=>
 let be:=λ(_:Unit)=>
 if (c.Kind=5:Bool) then x1 (c,aa.eta v,a,b,f,p,j)>>=λR=>some (aa.eta R.1,R.2.1,R.2.2.1,R.2.2.2.1,R.2.2.2.2.1,R.2.2.2.2.2)else if (c.Kind=6:Bool) then x7 (c,aa.eta v,a,b,f,p,j)>>=λS=>some (aa.eta S.1,S.2.1,S.2.2.1,S.2.2.2.1,S.2.2.2.2.1,S.2.2.2.2.2)else if (c.Kind=8:Bool) then nK (c.Key,v.aJ,a.Key,b,f,p,j)>>=λA=>if !A.2.1 then some ((⟨0,false,0,[],0,[],[],[]⟩:aa),false,A.2.2.1,A.2.2.2.1,A.2.2.2.2.1,A.2.2.2.2.2)else nK (c.aK,v.aq,a.aK,A.2.2.1,A.2.2.2.1,A.2.2.2.2.1,A.2.2.2.2.2)>>=λB=>if !B.2.1 then some ((⟨0,false,0,[],0,[],[],[]⟩:aa),false,B.2.2.1,B.2.2.2.1,B.2.2.2.2.1,B.2.2.2.2.2)else some ((⟨v.Kind,v.b9,v.bw,v.bH,v.ah,A.1,B.1,[]⟩:aa),true,B.2.2.1,B.2.2.2.1,B.2.2.2.2.1,B.2.2.2.2.2)else nK (c.aK,v.aq,a.aK,b,f,p,j)>>=λE=>if !E.2.1 then some ((⟨0,false,0,[],0,[],[],[]⟩:aa),false,E.2.2.1,E.2.2.2.1,E.2.2.2.2.1,E.2.2.2.2.2)else some ((⟨v.Kind,v.b9,v.bw,v.bH,v.ah,[],E.1,[]⟩:aa),true,E.2.2.1,E.2.2.2.1,E.2.2.2.2.1,E.2.2.2.2.2)
 if b' then if !((v.aq.length:Int)<=a.Max:Bool) then ti (b,f,p,j)>>=λQ=>some (aa.eta Q.1,Q.2.1,Q.2.2.1,Q.2.2.2.1,Q.2.2.2.2.2,Q.2.2.2.2.1)else be ()else be ()
 if t91 then bh t91 else bh (decide (c.Kind=8))else none else none
  partial_fixpoint
def x1(t:aj×aa×aj×List aj×List aj×au×au):Option (aa×Bool×List aj×List aj×au×au):=
 match t with
 |(c,v,y,b,f,p,j)=>
 oZ (y.af,(y.af.length:Int),0,b,f,p,c,aa.eta v,y,0,false,0,[],0,v.Kind,false,0,[],0,j,[])>>=λo=>match o with
 |.inl w=>
 some (aa.eta w.2.2.2.2.1,w.1,w.2.1,w.2.2.1,w.2.2.2.1,w.2.2.2.2.2)
 |.inr e=>
 nE (e.2.2.2.1.af,(e.2.2.2.1.af.length:Int),0,e.1,e.2.1,e.2.2.1,aa.eta e.2.2.2.2.1,e.2.2.2.2.2.1,e.2.2.2.2.2.2.1,e.2.2.2.2.2.2.2.1,e.2.2.2.2.2.2.2.2.1,e.2.2.2.2.2.2.2.2.2.1,e.2.2.2.2.2.2.2.2.2.2.1,e.2.2.2.2.2.2.2.2.2.2.2.1,e.2.2.2.2.2.2.2.2.2.2.2.2.1,e.2.2.2.2.2.2.2.2.2.2.2.2.2.1,e.2.2.2.2.2.2.2.2.2.2.2.2.2.2.1,e.2.2.2.2.2.2.2.2.2.2.2.2.2.2.2.1,e.2.2.2.2.2.2.2.2.2.2.2.2.2.2.2.2.1,e.2.2.2.2.2.2.2.2.2.2.2.2.2.2.2.2.2,[])>>=λbV=>match bV with
 |.inl M=>
 some (aa.eta M.2.2.2.1,M.1,M.2.1,M.2.2.1,M.2.2.2.2.2,M.2.2.2.2.1)
 |.inr x=>
 some ((⟨x.2.2.2.2.2.2.2.2.1,x.2.2.2.2.2.2.2.2.2.1,x.2.2.2.2.2.2.2.2.2.2.1,x.2.2.2.2.2.2.2.2.2.2.2.1,x.2.2.2.2.2.2.2.2.2.2.2.2.1,[],x.2.2.2.2.2.2.2.2.2.2.2.2.2.2.1,x.2.2.2.2.2.2.2.2.2.2.2.2.2.2.2⟩:aa),true,x.1,x.2.1,x.2.2.1,x.2.2.2.2.2.2.2.2.2.2.2.2.2.1)
  partial_fixpoint
def x7:aj×aa×aj×List aj×List aj×au×au->Option (aa×Bool×List aj×List aj×au×au)
 |(c,v,y,b,f,p,j)=>
 gH (c,v.ah)>>=λr=>gH (y,v.ah)>>=λF=>if F.2 then if aQ r.1 c.af.length then if aQ 0 v.aq.length then if aQ F.1 y.af.length then q6 (v.ah,(c.af.getD r.1.toNat aG).aB,aa.eta (v.aq.getD (0:Int).toNat aH),(y.af.getD F.1.toNat aG).aB,b,f,p,j)>>=λI=>if !I.2.1 then some ((⟨0,false,0,[],0,[],[],[]⟩:aa),false,I.2.2.1,I.2.2.2.1,I.2.2.2.2.1,I.2.2.2.2.2)else some ((⟨v.Kind,false,0,[],v.ah,[],[aa.eta I.1],[]⟩:aa),true,I.2.2.1,I.2.2.2.1,I.2.2.2.2.1,I.2.2.2.2.2)else none else none else none else if !y.Open then ti (b,f,p,j)>>=λN=>some (aa.eta N.1,N.2.1,N.2.2.1,N.2.2.2.1,N.2.2.2.2.2,N.2.2.2.2.1)else if aQ r.1 c.af.length then if aQ 0 v.aq.length then lf ((⟨b⟩:bq),(c.af.getD r.1.toNat aG).aB,aa.eta (v.aq.getD (0:Int).toNat aH))>>=λK=>some ((⟨v.Kind,false,0,[],v.ah,[],[],[(⟨v.ah,K⟩:cG)]⟩:aa),true,b,f,p,j)else none else none
  partial_fixpoint
def s9:Int×Int×List aa×Int×Int×List aj×List aj×au×List aa×au->Option ((Bool×List aj×List aj×au×au) ⊕ (List aj×List aj×au×List aa×au))
 |(bR,bv,t15,bM,t17,a5,a8,a9,am,ba)=>
 if (t17<bM:Bool) then if aQ t17 t15.length then q6 (t17,bR,aa.eta (t15.getD t17.toNat aH),bv,a5,a8,a9,ba)>>=λr=>if !r.2.1 then some (.inl (false,r.2.2.1,r.2.2.2.1,r.2.2.2.2.1,r.2.2.2.2.2))else some [aa.eta r.1]>>=λt35=>if room 120 (am++t35).length then s9 (bR,bv,t15,bM,aT .i64 t17 1,r.2.2.1,r.2.2.2.1,r.2.2.2.2.1,am++t35,r.2.2.2.2.2)else none else none else some (.inr (a5,a8,a9,am,ba))
  partial_fixpoint
def oZ:List aU×Int×Int×List aj×List aj×au×aj×aa×aj×Int×Bool×Int×ar×Int×Int×Bool×Int×ar×Int×au×List aa->Option ((Bool×List aj×List aj×au×aa×au) ⊕ (List aj×List aj×au×aj×aa×aj×Int×Bool×Int×ar×Int×Int×Bool×Int×ar×Int×au×List aa))
 |(t25,a4,t27,Y,Z,ae,J,L,an,ap,av,ax,aE,aF,aZ,a0,a1,a2,a3,ag,X)=>
 if (t27<a4:Bool) then if aQ t27 t25.length then some (t25.getD t27.toNat aG)>>=λa=>gH (J,a.ah)>>=λr=>if !r.2 then if !a.b8 then vi (a.ah,Y,Z,ae,ag)>>=λF=>some (.inl (F.2.1,F.2.2.1,F.2.2.2.1,F.2.2.2.2.2,aa.eta F.1,F.2.2.2.2.1))else kh (aa.eta a.bU)>>=λb0=>some [aa.eta b0]>>=λt54=>if room 120 (X++t54).length then oZ (t25,a4,aT .i64 t27 1,Y,Z,ae,J,aa.eta L,an,ap,av,ax,aE,aF,aZ,a0,a1,a2,a3,ag,X++t54)else none else if aQ r.1 J.af.length then if aQ r.1 L.aq.length then q6 (a.ah,(J.af.getD r.1.toNat aG).aB,aa.eta (L.aq.getD r.1.toNat aH),a.aB,Y,Z,ae,ag)>>=λq=>if aQ r.1 J.af.length then some (J.af.getD r.1.toNat aG)>>=λW=>if aQ r.1 L.aq.length then tl ((⟨W.ah,W.Name,W.aB,W.cu,W.b8,aa.eta W.bU⟩:aU),aa.eta (L.aq.getD r.1.toNat aH))>>=λbs=>some (!q.2.1)>>=λt90=>(if(bs&&(!t90)) then tl ((⟨a.ah,a.Name,a.aB,a.cu,a.b8,aa.eta a.bU⟩:aU),aa.eta q.1)else some false)>>=λb1=>if(bif bs then bif t90 then true else(!b1)else false) then vi (a.ah,q.2.2.1,q.2.2.2.1,q.2.2.2.2.1,q.2.2.2.2.2)>>=λK=>some (.inl (K.2.1,K.2.2.1,K.2.2.2.1,K.2.2.2.2.2,aa.eta K.1,K.2.2.2.2.1))else if !q.2.1 then some (.inl (false,q.2.2.1,q.2.2.2.1,q.2.2.2.2.1,(⟨0,false,0,[],0,[],[],[]⟩:aa),q.2.2.2.2.2))else some [aa.eta q.1]>>=λt110=>if room 120 (X++t110).length then oZ (t25,a4,aT .i64 t27 1,q.2.2.1,q.2.2.2.1,q.2.2.2.2.1,J,aa.eta L,an,ap,av,ax,aE,aF,aZ,a0,a1,a2,a3,q.2.2.2.2.2,X++t110)else none else none else none else none else none else none else some (.inr (Y,Z,ae,J,aa.eta L,an,ap,av,ax,aE,aF,aZ,a0,a1,a2,a3,ag,X))
  partial_fixpoint
end
theorem Vb:fc qc q6/\fc si tm/\fc uQ nK/\fW 118 2 [0] zs s9/\fc uP x7/\fc uO x1/\fW 116 2 [0] zr oZ:=q6.mutual_partial_correctness (e2 qc) (e2 si) (e2 uQ) (fU 118 2 [0] zs) (e2 uP) (e2 uO) (fU 116 2 [0] zr)
 (λ_ h1 _ _ h=>fl h (.k (c4 si h1) .n))
 (λ_ _ _ c d bj _ _ h=>fl h (.k Sa (.k (c4 uO bj) (.k (c4 uP d) (.k (c4 uQ c) (.k yc .n))))))
 (λ_ a _ _ h=>fl h .n (.k (gF zs a) .n))
 (λ_ _ h0 a _ _ h=>gE zs a h (.k (c4 qc h0) .n))
 (λ_ h0 _ _ h=>fl h (.k kg (.k (c4 qc h0) (.k Sa (.k RF .n)))))
 (λ_ b _ _ h=>fl h .n (.k (gF zr b) (.k Vt .n)))
 (λ_ _ h0 b _ _ h=>gE zr b h (.k kg (.k R5 (.k W' (.k (c4 qc h0) (.k Hk .n))))))
theorem Wi:bm si tm:=c4 _ Vb.2.1
def q':bq×Int×aa×bq×Int->Option (aa×Int)
 |(w,wt,v,r,rt)=>
 DS (w,wt,aa.eta v,r,rt)>>=λa=>if !(a=0:Bool) then some ((⟨0,false,0,[],0,[],[],[]⟩:aa),a)else tm (wt,aa.eta v,rt,w.Types,r.Types,[],[])>>=λb=>if !b.2.1 then some ((⟨0,false,0,[],0,[],[],[]⟩:aa),12)else some (aa.eta b.1,0)
theorem G':bm BK q':= .bC (.k WQ (.k Wi .n))
def nH:List aU×Int×Int×List aj×aj×List aj×aj->Option ((Int) ⊕ (aj×aj))
 |(t21,f,t23,c,a,d,e)=>
 if (t23<f:Bool) then if aQ t23 t21.length then some (t21.getD t23.toNat aG)>>=λb=>gH (a,b.ah)>>=λg=>if !g.2 then if !b.b8 then some (.inl 7)else nH (t21,f,aT .i64 t23 1,c,a,d,e)else if aQ g.1 a.af.length then some (a.af.getD g.1.toNat aG)>>=λi=>if !i.b8 then nH (t21,f,aT .i64 t23 1,c,a,d,e)else if !b.b8 then some (.inl 7)else q' ((⟨c⟩:bq),i.aB,aa.eta i.bU,(⟨d⟩:bq),b.aB)>>=λj=>some (!(decide (j.2=0)))>>=λt63=>(if !t63 then lR (aa.eta j.1,aa.eta b.bU)else some false)>>=λk=>if(bif t63 then true else(!k)) then some (.inl 10)else nH (t21,f,aT .i64 t23 1,c,a,d,e)else none else none else some (.inr (a,e))
  partial_fixpoint
theorem Vc:c5 89 0 [0] Qg nH:= .rx nH.partial_correctness (.k kg (.k G' (.k DT .n)))
def q2:List aU×Int×Int×aj->Option ((Int) ⊕ (Unit))
 |(t73,b,t75,a)=>
 if (t75<b:Bool) then if aQ t75 t73.length then some (t73.getD t75.toNat aG)>>=λc=>gH (a,c.ah)>>=λd=>if(bif (!d.2)then c.cu else false) then some (.inl 6)else q2 (t73,b,aT .i64 t75 1,a)else none else some (.inr ())
  partial_fixpoint
theorem Vd:c5 89 0 [1] Qh q2:= .rx q2.partial_correctness (.k kg .n)
def C3(f:bq×aj×bq×aj):Option Int:=
 match f with
 |(w,e,r,y)=>
 nH (y.af,(y.af.length:Int),0,w.Types,e,r.Types,y)>>=λo=>match o with
 |.inl b=>
 some b
 |.inr a=>
 q2 (a.1.af,(a.1.af.length:Int),0,a.2)>>=λc=>match c with
 |.inl d=>
 some d
 |.inr g=>
 some 0
theorem Ww:bm Cc C3:= .bC .n (.k Vc (.k Vd .n))
def H0:bq×Int×bq×Int->Option Int
 |(w,wt,r,rt)=>
 if aQ wt w.Types.length then some (w.Types.getD wt.toNat aM)>>=λa=>if aQ rt r.Types.length then some (r.Types.getD rt.toNat aM)>>=λb=>if !(a.Kind=b.Kind:Bool) then some 9 else if(bif (a.Kind=2:Bool)then bif (a.bT<b.bT:Bool)then true else (b.bW<a.bW:Bool)else false) then some 2 else if(bif bif (a.Kind=3:Bool)then true else (a.Kind=7:Bool)then (b.Max<a.Max:Bool)else false) then some 3 else some (decide (a.Kind=8))>>=λt63=>if(aQ a.Key w.Types.length||(!t63)) then (if t63 then yW (w.Types.getD a.Key.toNat aM)else some 0)>>=λc=>if(bif t63 then (b.Max<dU a.Max c:Bool)else false) then some 3 else some (decide (a.Kind=4))>>=λt82=>(if t82 then yb (a,b)else some false)>>=λd=>if(bif t82 then(!d)else false) then some 4 else some (decide (a.Kind=6))>>=λt92=>(if t92 then yb (a,b)else some false)>>=λe=>if(bif t92 then(!e)else false) then some 5 else if (a.Kind=5:Bool) then C3 (w,a,r,b)>>=λf=>some f else some 0 else none else none else none
theorem V2:bm BQ H0:= .bC (.k WO (.k Wu (.k Ww .n)))
def vf:Int×Int×List bt->Option (List bt)
 |(i,j,a)=>
 if (i<j:Bool) then if aQ j a.length then if (j.toNat<a.length:Bool) then if aQ i a.length then if (i.toNat<a.length:Bool) then if aQ i a.length then if (i.toNat<a.length:Bool) then some (a.set i.toNat (a.getD j.toNat dN))>>=λl=>if aQ j l.length then if (j.toNat<l.length:Bool) then vf (aT .i64 i 1,dY .i64 j 1,l.set j.toNat (a.getD i.toNat dN))else none else none else none else none else none else none else none else none else some a
  partial_fixpoint
theorem Uo:c5 42 1 [0] P3 vf:= .rx vf.partial_correctness
def Dk(b:List bt):Option (List bt):=
 vf (0,dY .i64 (b.length:Int) 1,b)>>=λo=>some o
theorem VA:bm BR Dk:= .bC .n (.k Uo .n)
def vj:Int×Int×List bt×au×List bt->Option (Int×List bt)
 |(i,d,a,b,c)=>
 if (0<=i:Bool) then if aQ i a.length then if (i.toNat<a.length:Bool) then some [a.getD i.toNat dN]>>=λt55=>if room 16 (c++t55).length then if aQ i b.length then if (i.toNat<b.length:Bool) then vj (b.getD i.toNat 0,d,a,b,c++t55)else none else none else none else none else none else some (d,c)
  partial_fixpoint
theorem Ve:c5 18 0 [0,0] Og vj:= .rx vj.partial_correctness
def q7:Int×Int×bY×bY×List bt×au->Option ((Int×Int×List bt) ⊕ (Unit))
 |(i,t28,c,d,a,e)=>
 if (t28<i:Bool) then if aQ t28 a.length then if (t28.toNat<a.length:Bool) then H0 (c.eX,(a.getD t28.toNat dN).bQ,d.eX,(a.getD t28.toNat dN).bF)>>=λf=>if (f=0:Bool) then q7 (i,aT .i64 t28 1,c,d,a,e)else vj (t28,f,a,e,[])>>=λb=>Dk b.2>>=λg=>if((g.length=b.2.length:Bool)&&true) then some (.inl (b.1,0,g))else none else none else none else some (.inr ())
  partial_fixpoint
theorem Wj:c5 18 0 [0] PX q7:= .rx q7.partial_correctness (.k V2 (.k VA .n)) (.k Ve .n)
def Hy(d:bY×bY):Option (List bt×Int×Int):=
 match d with
 |(w,r)=>
 DR (w,r)>>=λc=>if !(c=0:Bool) then some ([],0,c)else HU (w,r)>>=λb=>q7 ((b.1.length:Int),0,w,r,b.1,b.2)>>=λo=>match o with
 |.inl a=>
 some (a.2.2,a.1,a.2.1)
 |.inr e=>
 some ([],0,15)
theorem Xd:bm Bo Hy:= .bC (.k WN (.k Wt .n)) (.k Wj .n)
def CV:bY×bY->Option (Bool×Int)
 |(w,r)=>
 Hy (w,r)>>=λa=>if (a.2.2=15:Bool) then some (true,0)else if (a.2.2=0:Bool) then some (false,0)else some (false,a.2.2)
theorem Vf:bm ja CV:= .bC (.k Xd .n)
end
section
open Go Go.Proofs.YtklfhpkljddjbaaGreatDoor.Shv
open Tryz
set_option maxRecDepth 100000

end
section
open Go Go.Proofs.YtklfhpkljddjbaaGreatDoor.Shv
open Tryz
set_option maxRecDepth 100000
def hz:Int×List aj×au×Int×au->Option (aa×Bool×List aj×Int×au×au)
 |(c,b,e,f,a)=>
 tF 8 a>>=λr=>if((r.1.length=a.length:Bool)&&true) then some ((⟨0,false,0,[],0,[],[],[]⟩:aa),false,b,c,r.1,r.2)else none
theorem qy:bm AW hz:= .bC (.k kU .n)
def o8:ar×Int×Int×Int->Option Int
 |(a,b,c,t18)=>
 if (t18<c:Bool) then if aQ t18 a.length then o8 (a,rD .u64 (ni .u64 b 8) (b7 .u64 (h4 a t18)),c,aT .i64 t18 1)else none else some b
  partial_fixpoint
theorem Wk:c5 104 0 [0] Pc o8:= .rx o8.partial_correctness
def yj(s:ar):Option (Int×Int):=
 some (!(decide (s=[])))>>=λt7=>if(aQ 0 s.length||(!t7)) then if(bif t7 then (h4 s 0=0:Bool)else false) then some (0,2)else if (8<(s.length:Int):Bool) then some (0,7)else o8 (s,0,(s.length:Int),0)>>=λo=>some (o,0)else none
theorem Xe:bm AX yj:= .bC .n (.k Wk .n)
def C6(n:Int):Option Int:=
 some (ud .i64 (b7 .i64 (lC .u64 n 1)) (dY .i64 0 (b7 .i64 (AN .u64 n 1))))
theorem V3:bm AY C6:= .bC
def qo:List ar×Int×List aj×au×Int×aj×Int×Bool×Int×ar×Int×Int×Bool×Int×ar×Int×au×List aa->Option ((Bool×List aj×Int×aa×au×au) ⊕ (List ar×List aj×au×Int×aj×Int×Bool×Int×ar×Int×Int×Bool×Int×ar×Int×au×List aa))
 |(t,b,d,e,f,i,j,k,l,m,n,o,p,q,r,s,g,a)=>
 if (b<(a.length:Int):Bool) then some (dY .i64 b 1)>>=λt86=>if aQ t86 a.length then if (t86.toNat<a.length:Bool) then if aQ b a.length then if (b.toNat<a.length:Bool) then ri (aa.eta (a.getD t86.toNat aH),aa.eta (a.getD b.toNat aH))>>=λu=>if (0<=u:Bool) then hz (1,d,e,f,g)>>=λc=>some (.inl (c.2.1,c.2.2.1,c.2.2.2.1,aa.eta c.1,c.2.2.2.2.1,c.2.2.2.2.2))else qo (t,aT .i64 b 1,d,e,f,i,j,k,l,m,n,o,p,q,r,s,g,a)else none else none else none else none else some (.inr (t,d,e,f,i,j,k,l,m,n,o,p,q,r,s,g,a))
  partial_fixpoint
theorem Ur:c5 110 2 [1] Ox qo:= .rx qo.partial_correctness (.k RO (.k qy .n))
def sJ:ar×Int×Int×Int->Option ((Int×Int×Int) ⊕ (Unit))
 |(a,n,b,t11)=>
 if (t11<b:Bool) then if aQ t11 a.length then some (h4 a t11)>>=λt16=>if(bif (t11=9:Bool)then (1<t16:Bool)else false) then some (.inl (0,0,7))else if (128<=t16:Bool) then some (ky .i64 7 t11)>>=λt41=>if (0<=t41:Bool) then sJ (a,rD .u64 n (ni .u64 (b7 .u64 (AN .u8 t16 127)) t41),b,aT .i64 t11 1)else none else if(bif (t16=0:Bool)then (0<t11:Bool)else false) then some (.inl (0,0,2))else some (ky .i64 7 t11)>>=λt21=>if (0<=t21:Bool) then some (.inl (rD .u64 n (ni .u64 (b7 .u64 t16) t21),aT .i64 t11 1,0))else none else none else some (.inr ())
  partial_fixpoint
theorem WU:c5 243 0 [0] Pd sJ:= .rx sJ.partial_correctness
def DJ(s:ar):Option (Int×Int×Int):=
 sJ (s,0,dU 10 (s.length:Int),0)>>=λo=>match o with
 |.inl a=>
 some (a.1,a.2.1,a.2.2)
 |.inr b=>
 some (0,0,10)
theorem Xp:bm BL DJ:= .bC .n (.k WU .n)
def qG(s:ar):Option (Int×ar×Bool):=
 DJ s>>=λr=>if !(r.2.2=0:Bool) then some (0,[],false)else if eH r.2.1 (s.length:Int) s.length then some (r.1,eZ s r.2.1 (s.length:Int),true)else none
theorem HF:bm BB qG:= .bC (.k Xp .n)
def yz(s:ar):Option (ar×ar×Bool):=
 qG s>>=λr=>if(bif (!r.2.2)then true else (b7 .u64 (r.2.1.length:Int)<r.1:Bool)) then some ([],[],false)else if eH 0 r.1 r.2.1.length then if eH r.1 (r.2.1.length:Int) r.2.1.length then some (eZ r.2.1 0 r.1,eZ r.2.1 r.1 (r.2.1.length:Int),true)else none else none
theorem SV:bm BC yz:= .bC (.k HF .n)
def im:ar×List ar->Option ((Int) ⊕ (List ar))
 |(s,a)=>
 if !(s=[]:Bool) then yz s>>=λr=>if !r.2.2 then some (.inl 12)else some [r.1]>>=λt22=>if room 16 (a++t22).length then im (r.2.1,a++t22)else none else some (.inr a)
  partial_fixpoint
theorem V4:c5 153 0 [0] Ow im:= .rx im.partial_correctness (.k SV .n)
def nS(kG:ar):Option (List ar×Int):=
 im (kG,[])>>=λo=>match o with
 |.inl a=>
 some ([],a)
 |.inr b=>
 some (b,0)
theorem SJ:bm Bg nS:= .bC .n (.k V4 .n)
mutual
def jA(v:aa):Option aa:=
 fv 120 v.aJ>>=λr=>fv 120 v.aq>>=λW=>fv 24 v.Rest>>=λX=>sC ((r.length:Int),0,v.Kind,v.b9,v.bw,v.bH,v.ah,0,false,0,[],0,r,W,X)>>=λo=>sD ((o.2.2.2.2.2.2.2.2.2.2.2.1.length:Int),0,o.1,o.2.1,o.2.2.1,o.2.2.2.1,o.2.2.2.2.1,o.2.2.2.2.2.1,o.2.2.2.2.2.2.1,o.2.2.2.2.2.2.2.1,o.2.2.2.2.2.2.2.2.1,o.2.2.2.2.2.2.2.2.2.1,o.2.2.2.2.2.2.2.2.2.2.2.1,o.2.2.2.2.2.2.2.2.2.2.1,o.2.2.2.2.2.2.2.2.2.2.2.2)>>=λa=>some (⟨a.1,a.2.1,a.2.2.1,a.2.2.2.1,a.2.2.2.2.1,a.2.2.2.2.2.2.2.2.2.2.1,a.2.2.2.2.2.2.2.2.2.2.2.1,a.2.2.2.2.2.2.2.2.2.2.2.2⟩:aa)
  partial_fixpoint
def sC:Int×Int×Int×Bool×Int×ar×Int×Int×Bool×Int×ar×Int×List aa×List aa×List cG->Option (Int×Bool×Int×ar×Int×Int×Bool×Int×ar×Int×List aa×List aa×List cG)
 |(S,t22,j,p,q,t,w,x,y,A,B,D,c,E,F)=>
 if (t22<S:Bool) then if aQ t22 c.length then if (t22.toNat<c.length:Bool) then jA (aa.eta (c.getD t22.toNat aH))>>=λY=>if aQ t22 c.length then if (t22.toNat<c.length:Bool) then sC (S,aT .i64 t22 1,j,p,q,t,w,x,y,A,B,D,c.set t22.toNat (aa.eta Y),E,F)else none else none else none else none else some (j,p,q,t,w,x,y,A,B,D,c,E,F)
  partial_fixpoint
def sD:Int×Int×Int×Bool×Int×ar×Int×Int×Bool×Int×ar×Int×List aa×List aa×List cG->Option (Int×Bool×Int×ar×Int×Int×Bool×Int×ar×Int×List aa×List aa×List cG)
 |(U,t37,G,H,I,J,K,L,M,N,O,P,e,Q,R)=>
 if (t37<U:Bool) then if aQ t37 e.length then if (t37.toNat<e.length:Bool) then jA (aa.eta (e.getD t37.toNat aH))>>=λZ=>if aQ t37 e.length then if (t37.toNat<e.length:Bool) then sD (U,aT .i64 t37 1,G,H,I,J,K,L,M,N,O,P,e.set t37.toNat (aa.eta Z),Q,R)else none else none else none else none else some (G,H,I,J,K,L,M,N,O,P,Q,e,R)
  partial_fixpoint
end
theorem V5:fc qa jA/\fW 157 0 [1] y8 sD/\fW 157 0 [0] y7 sC:=jA.mutual_partial_correctness (e2 qa) (fU 157 0 [1] y8) (fU 157 0 [0] y7)
 (λ_ _ h1 a _ _ h=>fl h (.k kZ (.k lZ .n)) (.k (gF y7 a) (.k (gF y8 h1) .n)))
 (λ_ _ h0 h1 _ _ h=>gE y8 h1 h (.k (c4 qa h0) .n))
 (λ_ _ h0 a _ _ h=>gE y7 a h (.k (c4 qa h0) .n))
theorem WV:bm qa jA:=c4 _ V5.1
def Hh:c7×aU->Option (Bool×aU)
 |(f,b)=>
 some (decide (f.ah=b.ah),(⟨b.ah,b.Name,b.aB,b.cu,b.b8,aa.eta b.bU⟩:aU))
theorem Vu:bm Bj Hh:= .bC
def oW:List c7×Int×Int×aU->Option ((Int×aU) ⊕ (aU))
 |(b,c,t8,a)=>
 if (t8<c:Bool) then if aQ t8 b.length then Hh (b.getD t8.toNat lV,(⟨a.ah,a.Name,a.aB,a.cu,a.b8,aa.eta a.bU⟩:aU))>>=λr=>if r.1 then some (.inl (t8,(⟨r.2.ah,r.2.Name,r.2.aB,r.2.cu,r.2.b8,aa.eta r.2.bU⟩:aU)))else oW (b,c,aT .i64 t8 1,(⟨r.2.ah,r.2.Name,r.2.aB,r.2.cu,r.2.b8,aa.eta r.2.bU⟩:aU))else none else some (.inr (⟨a.ah,a.Name,a.aB,a.cu,a.b8,aa.eta a.bU⟩:aU))
  partial_fixpoint
theorem UH:c5 155 1 [0] Oz oW:= .rx oW.partial_correctness (.k Vu .n)
def yo(d:List c7×aU):Option (Int×aU):=
 match d with
 |(s,b)=>
 oW (s,(s.length:Int),0,(⟨b.ah,b.Name,b.aB,b.cu,b.b8,aa.eta b.bU⟩:aU))>>=λo=>match o with
 |.inl a=>
 some (a.1,(⟨a.2.ah,a.2.Name,a.2.aB,a.2.cu,a.2.b8,aa.eta a.2.bU⟩:aU))
 |.inr c=>
 some ((-1),(⟨c.ah,c.Name,c.aB,c.cu,c.b8,aa.eta c.bU⟩:aU))
theorem UM:bm Bi yo:= .bC .n (.k UH .n)
def oY:List c7×Int×Int×List aj×au×Int×aj×Int×Bool×Int×ar×Int×Int×Bool×Int×ar×Int×au×List aa×List cG->Option ((Bool×List aj×Int×aa×au×au) ⊕ (List aj×au×Int×Int×Bool×Int×ar×Int×Int×Bool×Int×ar×Int×au×List aa×List cG))
 |(t117,u,t119,d,e,f,i,j,k,l,m,n,o,p,q,r,s,b,t,g)=>
 if (t119<u:Bool) then if aQ t119 t117.length then some (t117.getD t119.toNat lV)>>=λc=>gH (i,c.ah)>>=λv=>if v.2 then oY (t117,u,aT .i64 t119 1,d,e,f,i,j,k,l,m,n,o,p,q,r,s,b,t,g)else if c.cu then some [c.ah]>>=λt140=>if room 8 (b++t140).length then hz (6,d,e,f,b++t140)>>=λa=>some (dY .i64 (a.2.2.2.2.1.length:Int) 1)>>=λt159=>if eH 0 t159 a.2.2.2.2.1.length then if (t159.toNat<=a.2.2.2.2.1.length:Bool) then some (.inl (false,a.2.2.1,a.2.2.2.1,aa.eta a.1,a.2.2.2.2.1.take t159.toNat,a.2.2.2.2.2))else none else none else none else some [(⟨c.ah,c.Data⟩:cG)]>>=λt171=>if room 24 (g++t171).length then oY (t117,u,aT .i64 t119 1,d,e,f,i,j,k,l,m,n,o,p,q,r,s,b,t,g++t171)else none else none else some (.inr (d,e,f,j,k,l,m,n,o,p,q,r,s,b,t,g))
  partial_fixpoint
theorem Vm:c5 111 2 [1] OA oY:= .rx oY.partial_correctness (.k kg (.k qy .n))
def hA:Int×ar×List c7->Option ((Int) ⊕ (List c7))
 |(last,s,a)=>
 if !(s=[]:Bool) then qG s>>=λr=>if(bif bif (!r.2.2)then true else (iC .u64 r.1 2<=last:Bool)then true else (1000<iC .u64 r.1 2:Bool)) then some (.inl 12)else yz r.2.1>>=λb=>if !b.2.2 then some (.inl 12)else some [(⟨b7 .i64 (iC .u64 r.1 2),decide (cd r.1 2=1),b.1⟩:c7)]>>=λt50=>if room 32 (a++t50).length then hA (iC .u64 r.1 2,b.2.1,a++t50)else none else some (.inr a)
  partial_fixpoint
theorem VQ:c5 154 0 [0] Oy hA:= .rx hA.partial_correctness (.k HF (.k SV .n))
def pd(kG:ar):Option (List c7×Int):=
 hA (0,kG,[])>>=λo=>match o with
 |.inl a=>
 some ([],a)
 |.inr b=>
 some (b,0)
theorem WW:bm Bh pd:= .bC .n (.k VQ .n)
def pw(kG:ar):Option (Int×ar×Int):=
 qG kG>>=λr=>if(bif bif (!r.2.2)then true else (r.1<1:Bool)then true else (1000<r.1:Bool)) then some (0,[],12)else some (b7 .i64 r.1,r.2.1,0)
theorem Xq:bm Bf pw:= .bC (.k HF .n)
mutual
def ys(A:aj×ar×List aj×au×Int×au):Option (aa×Bool×List aj×au×Int×au):=
 match A with
 |(c,p,b,f,j,e)=>
 nS p>>=λr=>if(bif (!(r.2=0:Bool))then true else(!(cd (r.1.length:Int) 2=0:Bool))) then hz (1,b,f,j,e)>>=λy=>some (aa.eta y.1,y.2.1,y.2.2.1,y.2.2.2.2.2,y.2.2.2.1,y.2.2.2.2.1)else if (c.Max<iC .i64 (r.1.length:Int) 2:Bool) then hz (3,b,f,j,e)>>=λw=>some (aa.eta w.1,w.2.1,w.2.2.1,w.2.2.2.2.2,w.2.2.2.1,w.2.2.2.2.1)else s4 (r.1,0,b,f,j,c,0,false,0,[],0,c.Kind,false,0,[],0,e,[])>>=λo=>match o with
 |.inl x=>
 some (aa.eta x.2.2.2.2.1,x.1,x.2.1,x.2.2.1,x.2.2.2.1,x.2.2.2.2.2)
 |.inr a=>
 qo (a.1,1,a.2.1,a.2.2.1,a.2.2.2.1,a.2.2.2.2.1,a.2.2.2.2.2.1,a.2.2.2.2.2.2.1,a.2.2.2.2.2.2.2.1,a.2.2.2.2.2.2.2.2.1,a.2.2.2.2.2.2.2.2.2.1,a.2.2.2.2.2.2.2.2.2.2.1,a.2.2.2.2.2.2.2.2.2.2.2.1,a.2.2.2.2.2.2.2.2.2.2.2.2.1,a.2.2.2.2.2.2.2.2.2.2.2.2.2.1,a.2.2.2.2.2.2.2.2.2.2.2.2.2.2.1,a.2.2.2.2.2.2.2.2.2.2.2.2.2.2.2.1,a.2.2.2.2.2.2.2.2.2.2.2.2.2.2.2.2)>>=λbj=>match bj with
 |.inl E=>
 some (aa.eta E.2.2.2.1,E.1,E.2.1,E.2.2.2.2.2,E.2.2.1,E.2.2.2.2.1)
 |.inr v=>
 s5 (v.1,1,v.2.1,v.2.2.1,v.2.2.2.1,v.2.2.2.2.1,v.2.2.2.2.2.1,v.2.2.2.2.2.2.1,v.2.2.2.2.2.2.2.1,v.2.2.2.2.2.2.2.2.1,v.2.2.2.2.2.2.2.2.2.1,v.2.2.2.2.2.2.2.2.2.2.1,v.2.2.2.2.2.2.2.2.2.2.2.1,v.2.2.2.2.2.2.2.2.2.2.2.2.1,v.2.2.2.2.2.2.2.2.2.2.2.2.2.1,v.2.2.2.2.2.2.2.2.2.2.2.2.2.2.1,v.2.2.2.2.2.2.2.2.2.2.2.2.2.2.2.1,v.2.2.2.2.2.2.2.2.2.2.2.2.2.2.2.2,[])>>=λh1=>match h1 with
 |.inl J=>
 some (aa.eta J.2.2.2.2.1,J.1,J.2.1,J.2.2.1,J.2.2.2.1,J.2.2.2.2.2)
 |.inr F=>
 some ((⟨F.2.2.2.2.2.2.2.2.1,F.2.2.2.2.2.2.2.2.2.1,F.2.2.2.2.2.2.2.2.2.2.1,F.2.2.2.2.2.2.2.2.2.2.2.1,F.2.2.2.2.2.2.2.2.2.2.2.2.1,F.2.2.2.2.2.2.2.2.2.2.2.2.2.2.1,F.2.2.2.2.2.2.2.2.2.2.2.2.2.2.2,[]⟩:aa),true,F.1,F.2.1,F.2.2.1,F.2.2.2.2.2.2.2.2.2.2.2.2.2.1)
  partial_fixpoint
def CX(A:aj×ar×List aj×au×Int×au):Option (aa×Bool×List aj×au×Int×au):=
 match A with
 |(c,p,b,f,j,e)=>
 nS p>>=λr=>if !(r.2=0:Bool) then hz (1,b,f,j,e)>>=λy=>some (aa.eta y.1,y.2.1,y.2.2.1,y.2.2.2.2.2,y.2.2.2.1,y.2.2.2.2.1)else if (c.Max<(r.1.length:Int):Bool) then hz (3,b,f,j,e)>>=λw=>some (aa.eta w.1,w.2.1,w.2.2.1,w.2.2.2.2.2,w.2.2.2.1,w.2.2.2.2.1)else ta (r.1,(r.1.length:Int),0,b,f,j,c,0,false,0,[],0,c.Kind,false,0,[],0,e,[])>>=λo=>match o with
 |.inl x=>
 some (aa.eta x.2.2.2.2.1,x.1,x.2.1,x.2.2.1,x.2.2.2.1,x.2.2.2.2.2)
 |.inr a=>
 some ((⟨a.2.2.2.2.2.2.2.2.1,a.2.2.2.2.2.2.2.2.2.1,a.2.2.2.2.2.2.2.2.2.2.1,a.2.2.2.2.2.2.2.2.2.2.2.1,a.2.2.2.2.2.2.2.2.2.2.2.2.1,[],a.2.2.2.2.2.2.2.2.2.2.2.2.2.2,[]⟩:aa),true,a.1,a.2.1,a.2.2.1,a.2.2.2.2.2.2.2.2.2.2.2.2.2.1)
  partial_fixpoint
def iK:Int×Int×ar×List aj×au×Int×au->Option (aa×Bool×List aj×au×Int×au)
 |(step,t,p,b,f,j,e)=>
 some [step]>>=λt18=>if room 8 (e++t18).length then o0 (t,p,b,f,j,e++t18)>>=λr=>some (dY .i64 (r.2.2.2.2.2.length:Int) 1)>>=λt39=>if eH 0 t39 r.2.2.2.2.2.length then if (t39.toNat<=r.2.2.2.2.2.length:Bool) then some (aa.eta r.1,r.2.1,r.2.2.1,r.2.2.2.1,r.2.2.2.2.1,r.2.2.2.2.2.take t39.toNat)else none else none else none
  partial_fixpoint
def o0:Int×ar×List aj×au×Int×au->Option (aa×Bool×List aj×au×Int×au)
 |(t,p,b,f,j,e)=>
 if (200<=(e.length:Int):Bool) then hz (8,b,f,j,e)>>=λr=>some (aa.eta r.1,r.2.1,r.2.2.1,r.2.2.2.2.2,r.2.2.2.1,r.2.2.2.2.1)else if aQ t b.length then some (b.getD t.toNat aM)>>=λc=>if (c.Kind=1:Bool) then some (decide (p=[1]))>>=λt50=>if(bif (!(p=[]:Bool))then(!t50)else false) then hz (1,b,f,j,e)>>=λQ=>some (aa.eta Q.1,Q.2.1,Q.2.2.1,Q.2.2.2.2.2,Q.2.2.2.1,Q.2.2.2.2.1)else some ((⟨c.Kind,t50,0,[],0,[],[],[]⟩:aa),true,b,f,j,e)else if (c.Kind=2:Bool) then yj p>>=λH=>if !(H.2=0:Bool) then hz (1,b,f,j,e)>>=λq=>some (aa.eta q.1,q.2.1,q.2.2.1,q.2.2.2.2.2,q.2.2.2.1,q.2.2.2.2.1)else C6 H.1>>=λbv=>if(bif (bv<c.bT:Bool)then true else (c.bW<bv:Bool)) then hz (2,b,f,j,e)>>=λK=>some (aa.eta K.1,K.2.1,K.2.2.1,K.2.2.2.2.2,K.2.2.2.1,K.2.2.2.2.1)else some ((⟨c.Kind,false,bv,[],0,[],[],[]⟩:aa),true,b,f,j,e)else if (c.Kind=3:Bool) then if (c.Max<(p.length:Int):Bool) then hz (3,b,f,j,e)>>=λB=>some (aa.eta B.1,B.2.1,B.2.2.1,B.2.2.2.2.2,B.2.2.2.1,B.2.2.2.2.1)else some ((⟨c.Kind,false,0,p,0,[],[],[]⟩:aa),true,b,f,j,e)else if (c.Kind=4:Bool) then yj p>>=λax=>if(bif bif (!(ax.2=0:Bool))then true else (ax.1<1:Bool)then true else (1000<ax.1:Bool)) then hz (1,b,f,j,e)>>=λM=>some (aa.eta M.1,M.2.1,M.2.2.1,M.2.2.2.2.2,M.2.2.2.1,M.2.2.2.2.1)else some (b7 .i64 ax.1)>>=λt130=>pa (c,t130)>>=λio=>if(bif (!io.2)then(!c.Open)else false) then hz (4,b,f,j,e)>>=λN=>some (aa.eta N.1,N.2.1,N.2.2.1,N.2.2.2.2.2,N.2.2.2.1,N.2.2.2.2.1)else some ((⟨c.Kind,false,0,[],t130,[],[],[]⟩:aa),true,b,f,j,e)else if (c.Kind=9:Bool) then if (p=[]:Bool) then some ((⟨c.Kind,false,0,[],0,[],[],[]⟩:aa),true,b,f,j,e)else if aQ 0 p.length then if !(h4 p 0=1:Bool) then hz (1,b,f,j,e)>>=λO=>some (aa.eta O.1,O.2.1,O.2.2.1,O.2.2.2.2.2,O.2.2.2.1,O.2.2.2.2.1)else if eH 1 (p.length:Int) p.length then iK (0,c.aK,eZ p 1 (p.length:Int),b,f,j,e)>>=λP=>some ((⟨c.Kind,false,0,[],0,[],[aa.eta P.1],[]⟩:aa),P.2.1,P.2.2.1,P.2.2.2.1,P.2.2.2.2.1,P.2.2.2.2.2)else none else none else if (c.Kind=6:Bool) then CW (c,p,b,f,j,e)>>=λR=>some (aa.eta R.1,R.2.1,R.2.2.1,R.2.2.2.1,R.2.2.2.2.1,R.2.2.2.2.2)else if (c.Kind=7:Bool) then CX (c,p,b,f,j,e)>>=λS=>some (aa.eta S.1,S.2.1,S.2.2.1,S.2.2.2.1,S.2.2.2.2.1,S.2.2.2.2.2)else if (c.Kind=8:Bool) then ys (c,p,b,f,j,e)>>=λU=>some (aa.eta U.1,U.2.1,U.2.2.1,U.2.2.2.1,U.2.2.2.2.1,U.2.2.2.2.2)else yu (c,p,b,f,j,e)>>=λW=>some (aa.eta W.1,W.2.1,W.2.2.1,W.2.2.2.1,W.2.2.2.2.1,W.2.2.2.2.2)else none
  partial_fixpoint
def yu(A:aj×ar×List aj×au×Int×au):Option (aa×Bool×List aj×au×Int×au):=
 match A with
 |(c,p,b,f,j,e)=>
 pd p>>=λr=>if !(r.2=0:Bool) then hz (1,b,f,j,e)>>=λy=>some (aa.eta y.1,y.2.1,y.2.2.1,y.2.2.2.2.2,y.2.2.2.1,y.2.2.2.2.1)else mz (r.1,c.af,(c.af.length:Int),0,b,f,j,c,0,false,0,[],0,c.Kind,false,0,[],0,e,[])>>=λo=>match o with
 |.inl x=>
 some (aa.eta x.2.2.2.2.1,x.1,x.2.1,x.2.2.1,x.2.2.2.1,x.2.2.2.2.2)
 |.inr a=>
 oY (a.1,(a.1.length:Int),0,a.2.1,a.2.2.1,a.2.2.2.1,a.2.2.2.2.1,a.2.2.2.2.2.1,a.2.2.2.2.2.2.1,a.2.2.2.2.2.2.2.1,a.2.2.2.2.2.2.2.2.1,a.2.2.2.2.2.2.2.2.2.1,a.2.2.2.2.2.2.2.2.2.2.1,a.2.2.2.2.2.2.2.2.2.2.2.1,a.2.2.2.2.2.2.2.2.2.2.2.2.1,a.2.2.2.2.2.2.2.2.2.2.2.2.2.1,a.2.2.2.2.2.2.2.2.2.2.2.2.2.2.1,a.2.2.2.2.2.2.2.2.2.2.2.2.2.2.2.1,a.2.2.2.2.2.2.2.2.2.2.2.2.2.2.2.2,[])>>=λbj=>match bj with
 |.inl E=>
 some (aa.eta E.2.2.2.1,E.1,E.2.1,E.2.2.2.2.2,E.2.2.1,E.2.2.2.2.1)
 |.inr v=>
 some ((⟨v.2.2.2.2.2.2.2.2.1,v.2.2.2.2.2.2.2.2.2.1,v.2.2.2.2.2.2.2.2.2.2.1,v.2.2.2.2.2.2.2.2.2.2.2.1,v.2.2.2.2.2.2.2.2.2.2.2.2.1,[],v.2.2.2.2.2.2.2.2.2.2.2.2.2.2.1,v.2.2.2.2.2.2.2.2.2.2.2.2.2.2.2⟩:aa),true,v.1,v.2.1,v.2.2.1,v.2.2.2.2.2.2.2.2.2.2.2.2.2.1)
  partial_fixpoint
def CW:aj×ar×List aj×au×Int×au->Option (aa×Bool×List aj×au×Int×au)
 |(c,p,b,f,j,e)=>
 pw p>>=λr=>if !(r.2.2=0:Bool) then hz (1,b,f,j,e)>>=λL=>some (aa.eta L.1,L.2.1,L.2.2.1,L.2.2.2.2.2,L.2.2.2.1,L.2.2.2.2.1)else gH (c,r.1)>>=λbs=>if bs.2 then if aQ bs.1 c.af.length then iK (r.1,(c.af.getD bs.1.toNat aG).aB,r.2.1,b,f,j,e)>>=λH=>some ((⟨c.Kind,false,0,[],r.1,[],[aa.eta H.1],[]⟩:aa),H.2.1,H.2.2.1,H.2.2.2.1,H.2.2.2.2.1,H.2.2.2.2.2)else none else if !c.Open then hz (5,b,f,j,e)>>=λD=>some (aa.eta D.1,D.2.1,D.2.2.1,D.2.2.2.2.2,D.2.2.2.1,D.2.2.2.2.1)else some ((⟨c.Kind,false,0,[],r.1,[],[],[(⟨r.1,r.2.1⟩:cG)]⟩:aa),true,b,f,j,e)
  partial_fixpoint
def s4:List ar×Int×List aj×au×Int×aj×Int×Bool×Int×ar×Int×Int×Bool×Int×ar×Int×au×List aa->Option ((Bool×List aj×au×Int×aa×au) ⊕ (List ar×List aj×au×Int×aj×Int×Bool×Int×ar×Int×Int×Bool×Int×ar×Int×au×List aa))
 |(ag,i,g3,g4,g5,bh,g6,g7,g8,g9,he,hk,hm,hs,ht,hu,hw,bi)=>
 if (i<(ag.length:Int):Bool) then if aQ i ag.length then iK (iC .i64 i 2,bh.Key,ag.getD i.toNat [],g3,g4,g5,hw)>>=λq=>if !q.2.1 then some (.inl (false,q.2.2.1,q.2.2.2.1,q.2.2.2.2.1,aa.eta q.1,q.2.2.2.2.2))else some [aa.eta q.1]>>=λt73=>if room 120 (bi++t73).length then s4 (ag,aT .i64 i 2,q.2.2.1,q.2.2.2.1,q.2.2.2.2.1,bh,g6,g7,g8,g9,he,hk,hm,hs,ht,hu,q.2.2.2.2.2,bi++t73)else none else none else some (.inr (ag,g3,g4,g5,bh,g6,g7,g8,g9,he,hk,hm,hs,ht,hu,hw,bi))
  partial_fixpoint
def s5:List ar×Int×List aj×au×Int×aj×Int×Bool×Int×ar×Int×Int×Bool×Int×ar×Int×au×List aa×List aa->Option ((Bool×List aj×au×Int×aa×au) ⊕ (List aj×au×Int×Int×Bool×Int×ar×Int×Int×Bool×Int×ar×Int×au×List aa×List aa))
 |(av,ae,hH,bR,bV,b0,b1,b2,b',ce,ci,cp,cs,cT,dt,ee,eq,es,aE)=>
 if (ae<(av.length:Int):Bool) then if aQ ae av.length then iK (iC .i64 ae 2,b0.aK,av.getD ae.toNat [],hH,bR,bV,eq)>>=λB=>if !B.2.1 then some (.inl (false,B.2.2.1,B.2.2.2.1,B.2.2.2.2.1,aa.eta B.1,B.2.2.2.2.2))else some [aa.eta B.1]>>=λt125=>if room 120 (aE++t125).length then s5 (av,aT .i64 ae 2,B.2.2.1,B.2.2.2.1,B.2.2.2.2.1,b0,b1,b2,b',ce,ci,cp,cs,cT,dt,ee,B.2.2.2.2.2,es,aE++t125)else none else none else some (.inr (hH,bR,bV,b1,b2,b',ce,ci,cp,cs,cT,dt,ee,eq,es,aE))
  partial_fixpoint
def ta:List ar×Int×Int×List aj×au×Int×aj×Int×Bool×Int×ar×Int×Int×Bool×Int×ar×Int×au×List aa->Option ((Bool×List aj×au×Int×aa×au) ⊕ (List aj×au×Int×Int×Bool×Int×ar×Int×Int×Bool×Int×ar×Int×au×List aa))
 |(t38,h0,t40,ex,eG,fd,ff,fo,fs,gc,gd,ge,gl,gs,gt,g0,g1,g2,aF)=>
 if (t40<h0:Bool) then if aQ t40 t38.length then iK (t40,ff.aK,t38.getD t40.toNat [],ex,eG,fd,g2)>>=λq=>if !q.2.1 then some (.inl (false,q.2.2.1,q.2.2.2.1,q.2.2.2.2.1,aa.eta q.1,q.2.2.2.2.2))else some [aa.eta q.1]>>=λt60=>if room 120 (aF++t60).length then ta (t38,h0,aT .i64 t40 1,q.2.2.1,q.2.2.2.1,q.2.2.2.2.1,ff,fo,fs,gc,gd,ge,gl,gs,gt,g0,g1,q.2.2.2.2.2,aF++t60)else none else none else some (.inr (ex,eG,fd,fo,fs,gc,gd,ge,gl,gs,gt,g0,g1,g2,aF))
  partial_fixpoint
def mz:List c7×List aU×Int×Int×List aj×au×Int×aj×Int×Bool×Int×ar×Int×Int×Bool×Int×ar×Int×au×List aa->Option ((Bool×List aj×au×Int×aa×au) ⊕ (List c7×List aj×au×Int×aj×Int×Bool×Int×ar×Int×Int×Bool×Int×ar×Int×au×List aa))
 |(I,t39,bM,t41,am,an,ap,aZ,a0,a1,a2,a3,a4,a5,a8,a9,ba,be,Y,Z)=>
 if (t41<bM:Bool) then if aQ t41 t39.length then some (t39.getD t41.toNat aG)>>=λX=>yo (I,(⟨X.ah,X.Name,X.aB,X.cu,X.b8,aa.eta X.bU⟩:aU))>>=λw=>if (0<=w.1:Bool) then if aQ w.1 I.length then iK (w.2.ah,w.2.aB,(I.getD w.1.toNat lV).Data,am,an,ap,Y)>>=λG=>if !G.2.1 then some (.inl (false,G.2.2.1,G.2.2.2.1,G.2.2.2.2.1,aa.eta G.1,G.2.2.2.2.2))else some [aa.eta G.1]>>=λt102=>if room 120 (Z++t102).length then mz (I,t39,bM,aT .i64 t41 1,G.2.2.1,G.2.2.2.1,G.2.2.2.2.1,aZ,a0,a1,a2,a3,a4,a5,a8,a9,ba,be,G.2.2.2.2.2,Z++t102)else none else none else if w.2.b8 then jA (aa.eta w.2.bU)>>=λii=>some [aa.eta ii]>>=λt113=>if room 120 (Z++t113).length then mz (I,t39,bM,aT .i64 t41 1,am,an,ap,aZ,a0,a1,a2,a3,a4,a5,a8,a9,ba,be,Y,Z++t113)else none else some [w.2.ah]>>=λt55=>if room 8 (Y++t55).length then hz (7,am,an,ap,Y++t55)>>=λD=>some (dY .i64 (D.2.2.2.2.1.length:Int) 1)>>=λt74=>if eH 0 t74 D.2.2.2.2.1.length then if (t74.toNat<=D.2.2.2.2.1.length:Bool) then some (.inl (false,D.2.2.1,D.2.2.2.2.2,D.2.2.2.1,aa.eta D.1,D.2.2.2.2.1.take t74.toNat))else none else none else none else none else some (.inr (I,am,an,ap,aZ,a0,a1,a2,a3,a4,a5,a8,a9,ba,be,Y,Z))
  partial_fixpoint
end
theorem Vn:fc uM ys/\fW 110 2 [2] zL s5/\fc mM iK/\fc sg o0/\fc uN yu/\fW 111 2 [0] y9 mz/\fc uL CX/\fW 109 2 [0] zt ta/\fc uK CW/\fW 110 2 [0] zu s4:=ys.mutual_partial_correctness (e2 uM) (fU 110 2 [2] zL) (e2 mM) (e2 sg) (e2 uN) (fU 111 2 [0] y9) (e2 uL) (fU 109 2 [0] zt) (e2 uK) (fU 110 2 [0] zu)
 (λ_ _ h1 c _ _ h=>fl h (.k SJ (.k qy .n)) (.k (gF zu c) (.k Ur (.k (gF zL h1) .n))))
 (λ_ _ h1 a _ _ h=>gE zL h1 h (.k (c4 mM a) .n))
 (λ_ d _ _ h=>fl h (.k (c4 sg d) .n))
 (λ_ _ _ _ _ h0 a e f g _ _ h=>fl h (.k qy (.k Xe (.k V3 (.k yc (.k (c4 mM a) (.k (c4 uK g) (.k (c4 uL f) (.k (c4 uM h0) (.k (c4 uN e) .n))))))))))
 (λ_ bj _ _ h=>fl h (.k WW (.k qy .n)) (.k (gF y9 bj) (.k Vm .n)))
 (λ_ _ a bj _ _ h=>gE y9 bj h (.k UM (.k (c4 mM a) (.k WV (.k qy .n)))))
 (λ_ b _ _ h=>fl h (.k SJ (.k qy .n)) (.k (gF zt b) .n))
 (λ_ _ a b _ _ h=>gE zt b h (.k (c4 mM a) .n))
 (λ_ a _ _ h=>fl h (.k Xq (.k qy (.k kg (.k (c4 mM a) .n)))))
 (λ_ _ a c _ _ h=>gE zu c h (.k (c4 mM a) .n))
theorem VB:bm sg o0:=c4 _ Vn.2.2.2.1
def I2:bq×Int×ar->Option (aa×lT×Int)
 |(s,t,m)=>
 nR s>>=λr=>if !(r=0:Bool) then some ((⟨0,false,0,[],0,[],[],[]⟩:aa),(⟨[],0⟩:lT),r)else if(bif (t<0:Bool)then true else ((s.Types.length:Int)<=t:Bool)) then some ((⟨0,false,0,[],0,[],[],[]⟩:aa),(⟨[],0⟩:lT),4)else if (4096<(m.length:Int):Bool) then some ((⟨0,false,0,[],0,[],[],[]⟩:aa),(⟨[],3⟩:lT),12)else o0 (t,m,s.Types,[],0,[])>>=λa=>if !a.2.1 then some ((⟨0,false,0,[],0,[],[],[]⟩:aa),(⟨a.2.2.2.1,a.2.2.2.2.1⟩:lT),12)else some (aa.eta a.1,(⟨[],0⟩:lT),0)
theorem X9:bm BF I2:= .bC (.k sG (.k VB .n))
def nP:bq×Int×ar->Option (aa×Int)
 |(s,t,m)=>
 I2 (s,t,m)>>=λr=>some (aa.eta r.1,r.2.2)
theorem RP:bm qe nP:= .bC (.k X9 .n)
def iJ:Int×List aj×au×Bool->Option (Int×List aj×au×Bool)
 |(n,b,a,c)=>
 if ((a.length:Int)=0:Bool) then some (0,b,a,c)else if aQ 0 a.length then if !(n=0:Bool) then if eH 1 (a.length:Int) a.length then some (cd (b7 .i64 (a.getD (0:Int).toNat 0)) n,b,eZ a 1 (a.length:Int),c)else none else none else none
theorem s6:bm aeS iJ:= .bC
def s3:ar×Int×List aj×au×Bool->Option (ar×List aj×au×Bool)
 |(b,n,c,d,e)=>
 if (0<n:Bool) then iJ (3,c,d,e)>>=λa=>some (mT (b7 .i32 (aT .i64 97 a.1)))>>=λt21=>if (b.length+t21.length<=ft:Bool) then s3 (b++t21,dY .i64 n 1,a.2.1,a.2.2.1,a.2.2.2)else none else some (b,c,d,e)
  partial_fixpoint
theorem UQ:c5 44 1 [0] P4 s3:= .rx s3.partial_correctness (.k s6 .n)
def Dj:Int×List aj×au×Bool->Option (ar×List aj×au×Bool)
 |(most,b,a,c)=>
 iJ (aT .i64 (dU most 3) 1,b,a,c)>>=λr=>s3 ([],r.1,r.2.1,r.2.2.1,r.2.2.2)>>=λo=>some (o.1,o.2.1,o.2.2.1,o.2.2.2)
theorem Vv:bm aeT Dj:= .bC (.k s6 .n) (.k UQ .n)
def vg:List aj×au×Bool->Option (Bool×List aj×au×Bool)
 |(b,c,a)=>
 if a then iJ (4,b,c,a)>>=λr=>some (bif a then decide (r.1=3)else false,r.2.1,r.2.2.1,r.2.2.2)else some (bif a then false else false,b,c,a)
theorem VC:bm aeU vg:= .bC (.k s6 .n)
def o2:Int×Int×aj->Option ((Int×Bool) ⊕ (Unit))
 |(a,i,b)=>
 if (i<(b.af.length:Int):Bool) then if aQ i b.af.length then if ((b.af.getD i.toNat aG).ah=a:Bool) then some (.inl (i,true))else o2 (a,aT .i64 i 1,b)else none else some (.inr ())
  partial_fixpoint
theorem VD:c5 132 0 [0] OB o2:= .rx o2.partial_correctness
def x8(b:aj×Int):Option (Int×Bool):=
 match b with
 |(t,id)=>
 o2 (id,0,t)>>=λo=>match o with
 |.inl a=>
 some (a.1,a.2)
 |.inr c=>
 some (0,false)
theorem UR:bm aey x8:= .bC .n (.k VD .n)
def nG:Int×Int×aj->Option ((Int×Bool) ⊕ (Unit))
 |(a,i,b)=>
 if (i<(b.bo.length:Int):Bool) then if aQ i b.bo.length then if ((b.bo.getD i.toNat fE).ah=a:Bool) then some (.inl (i,true))else nG (a,aT .i64 i 1,b)else none else some (.inr ())
  partial_fixpoint
theorem VE:c5 133 0 [0] OC nG:= .rx nG.partial_correctness
def CY(b:aj×Int):Option (Int×Bool):=
 match b with
 |(t,id)=>
 nG (id,0,t)>>=λo=>match o with
 |.inl a=>
 some (a.1,a.2)
 |.inr c=>
 some (0,false)
theorem US:bm aez CY:= .bC .n (.k VE .n)
def C4:aj×Int->Option Bool
 |(t,n)=>
 x8 (t,n)>>=λr=>CY (t,n)>>=λa=>some (bif r.2 then true else a.2)
theorem VR:bm ae5 C4:= .bC (.k UR (.k US .n))
def vd:Int×List aj×au×Bool×aj->Option (Int×List aj×au×Bool)
 |(a,b,c,d,e)=>
 C4 (e,a)>>=λf=>if f then vd (aT .i64 a 1,b,c,d,e)else some (a,b,c,d)
  partial_fixpoint
theorem UP:c5 46 1 [0] P5 vd:= .rx vd.partial_correctness (.k VR .n)
def qn:aj×List aj×au×Bool->Option (Int×List aj×au×Bool)
 |(t,b,a,c)=>
 iJ (14,b,a,c)>>=λr=>vd (aT .i64 1 r.1,r.2.1,r.2.2.1,r.2.2.2,t)>>=λo=>some (o.1,o.2.1,o.2.2.1,o.2.2.2)
theorem Uk:bm aeV qn:= .bC (.k s6 .n) (.k UP .n)
def vh:Int×List aj×au×Bool->Option (cG×List aj×au×Bool)
 |(n,b,a,c)=>
 some [[],[1],[97],[3,1,2]]>>=λt6=>iJ (4,b,a,c)>>=λr=>if aQ r.1 t6.length then some ((⟨n,t6.getD r.1.toNat []⟩:cG),r.2.1,r.2.2.1,r.2.2.2)else none
theorem VF:bm aeW vh:= .bC (.k s6 .n)
def kf:Bool×Bool->Option Int
 |(b,a)=>
 if a then some 0 else if b then some (-1)else some 1
theorem Wl:bm aeA kf:= .bC
def x9(n:Int):Option Int:=
 if (0<=n:Bool) then some (ky .u64 2 (b7 .u64 n))else some (aT .u64 (ky .u64 2 (b7 .u64 (dY .i64 0 (aT .i64 n 1)))) 1)
theorem UT:bm aeB x9:= .bC
def tc:aa×aa->Option Int
 |(a,b)=>
 if !(a.Kind=b.Kind:Bool) then some 0 else if (a.Kind=1:Bool) then kf (b.b9,gr a.b9 b.b9)>>=λr=>some r else if (a.Kind=2:Bool) then x9 a.bw>>=λc=>x9 b.bw>>=λd=>kf (decide (c<d),decide (a.bw=b.bw))>>=λe=>some e else if (a.Kind=3:Bool) then if !((a.bH.length:Int)=(b.bH.length:Int):Bool) then kf (decide ((a.bH.length:Int)<(b.bH.length:Int)),false)>>=λf=>some f else kf (Op.bytesLess a.bH b.bH,decide (a.bH=b.bH))>>=λg=>some g else if (a.Kind=4:Bool) then kf (decide (a.ah<b.ah),decide (a.ah=b.ah))>>=λi=>some i else some 0
theorem R7:bm ae6 tc:= .bC (.k Wl (.k UT .n))
def q4:Int×aa×aa×aa×Int×Bool×Int×ar×Int->Option (Int×aa×aa×aa×Int×Bool×Int×ar×Int)
 |(b,a,c,d,e,f,g,i,j)=>
 some (decide (b<(a.aJ.length:Int)))>>=λt12=>if(aQ b a.aJ.length||(!t12)) then (if t12 then tc (aa.eta (a.aJ.getD b.toNat aH),aa.eta c)else some 0)>>=λk=>if(bif t12 then (k<0:Bool)else false) then q4 (aT .i64 b 1,aa.eta a,aa.eta c,aa.eta d,e,f,g,i,j)else some (b,aa.eta a,aa.eta c,aa.eta d,e,f,g,i,j)else none
  partial_fixpoint
theorem UU:c5 48 0 [0] P6 q4:= .rx q4.partial_correctness (.k R7 .n)
def C7:aa×aa×aa->Option aa
 |(v,key,item)=>
 q4 (0,aa.eta v,aa.eta key,aa.eta item,0,false,0,[],0)>>=λo=>some (decide (o.1<(o.2.1.aJ.length:Int)))>>=λt29=>if(aQ o.1 o.2.1.aJ.length||(!t29)) then (if t29 then tc (aa.eta (o.2.1.aJ.getD o.1.toNat aH),aa.eta o.2.2.1)else some 0)>>=λr=>if(bif t29 then (r=0:Bool)else false) then some (aa.eta o.2.1)else if eH 0 o.1 o.2.1.aJ.length then some (eZ o.2.1.aJ 0 o.1)>>=λt45=>if room 120 ([]++t45).length then some ([]++t45)>>=λl=>some [aa.eta o.2.2.1]>>=λt48=>if room 120 (l++t48).length then some (l++t48)>>=λa=>if eH o.1 (o.2.1.aJ.length:Int) o.2.1.aJ.length then some (eZ o.2.1.aJ o.1 (o.2.1.aJ.length:Int))>>=λt53=>if room 120 (a++t53).length then if eH 0 o.1 o.2.1.aq.length then some (eZ o.2.1.aq 0 o.1)>>=λt60=>if room 120 ([]++t60).length then some ([]++t60)>>=λb=>some [aa.eta o.2.2.2.1]>>=λt63=>if room 120 (b++t63).length then some (b++t63)>>=λc=>if eH o.1 (o.2.1.aq.length:Int) o.2.1.aq.length then some (eZ o.2.1.aq o.1 (o.2.1.aq.length:Int))>>=λt68=>if room 120 (c++t68).length then some (⟨o.2.1.Kind,o.2.1.b9,o.2.1.bw,o.2.1.bH,o.2.1.ah,a++t53,c++t68,o.2.1.Rest⟩:aa)else none else none else none else none else none else none else none else none else none else none else none
theorem V6:bm aeX C7:= .bC (.k R7 .n) (.k UU .n)
mutual
def jS:Int×List aj×au×Bool->Option (aa×List aj×au×Bool)
 |(t,b,e,f)=>
 if aQ t b.length then some (b.getD t.toNat aM)>>=λa=>if (a.Kind=1:Bool) then iJ (2,b,e,f)>>=λr=>some ((⟨a.Kind,decide (r.1=1),0,[],0,[],[],[]⟩:aa),r.2.1,r.2.2.1,r.2.2.2)else if (a.Kind=2:Bool) then iJ (256,b,e,f)>>=λbe=>some (aT .i64 (dY .i64 a.bW a.bT) 1)>>=λt51=>if !(t51=0:Bool) then some ((⟨a.Kind,false,aT .i64 a.bT (cd be.1 t51),[],0,[],[],[]⟩:aa),be.2.1,be.2.2.1,be.2.2.2)else none else if (a.Kind=3:Bool) then Dj (a.Max,b,e,f)>>=λaE=>some ((⟨a.Kind,false,0,aE.1,0,[],[],[]⟩:aa),aE.2.1,aE.2.2.1,aE.2.2.2)else if (a.Kind=4:Bool) then iJ ((a.bo.length:Int),b,e,f)>>=λp=>if aQ p.1 a.bo.length then some (a.bo.getD p.1.toNat fE)>>=λg9=>if a.Open then vg (p.2.1,p.2.2.1,p.2.2.2)>>=λA=>if(bif a.Open then A.1 else false) then qn (a,A.2.1,A.2.2.1,A.2.2.2)>>=λa5=>some ((⟨a.Kind,false,0,[],a5.1,[],[],[]⟩:aa),a5.2.1,a5.2.2.1,a5.2.2.2)else some ((⟨a.Kind,false,0,[],g9.ah,[],[],[]⟩:aa),A.2.1,A.2.2.1,A.2.2.2)else if(bif a.Open then false else false) then qn (a,p.2.1,p.2.2.1,p.2.2.2)>>=λa8=>some ((⟨a.Kind,false,0,[],a8.1,[],[],[]⟩:aa),a8.2.1,a8.2.2.1,a8.2.2.2)else some ((⟨a.Kind,false,0,[],g9.ah,[],[],[]⟩:aa),p.2.1,p.2.2.1,p.2.2.2)else none else if (a.Kind=5:Bool) then my (0,b,e,f,0,false,0,[],0,a.Kind,a.Name,a.bT,a.bW,a.Max,a.bo,a.af,a.Key,a.aK,a.Open,a.Kind,false,0,[],0,[])>>=λo=>vg (o.1,o.2.1,o.2.2.1)>>=λB=>if B.1 then qn ((⟨o.2.2.2.2.2.2.2.2.1,o.2.2.2.2.2.2.2.2.2.1,o.2.2.2.2.2.2.2.2.2.2.1,o.2.2.2.2.2.2.2.2.2.2.2.1,o.2.2.2.2.2.2.2.2.2.2.2.2.1,o.2.2.2.2.2.2.2.2.2.2.2.2.2.1,o.2.2.2.2.2.2.2.2.2.2.2.2.2.2.1,o.2.2.2.2.2.2.2.2.2.2.2.2.2.2.2.1,o.2.2.2.2.2.2.2.2.2.2.2.2.2.2.2.2.1,o.2.2.2.2.2.2.2.2.2.2.2.2.2.2.2.2.2.1⟩:aj),B.2.1,B.2.2.1,B.2.2.2)>>=λa9=>vh (a9.1,a9.2.1,a9.2.2.1,a9.2.2.2)>>=λba=>some ((⟨o.2.2.2.2.2.2.2.2.2.2.2.2.2.2.2.2.2.2.1,o.2.2.2.2.2.2.2.2.2.2.2.2.2.2.2.2.2.2.2.1,o.2.2.2.2.2.2.2.2.2.2.2.2.2.2.2.2.2.2.2.2.1,o.2.2.2.2.2.2.2.2.2.2.2.2.2.2.2.2.2.2.2.2.2.1,o.2.2.2.2.2.2.2.2.2.2.2.2.2.2.2.2.2.2.2.2.2.2.1,[],o.2.2.2.2.2.2.2.2.2.2.2.2.2.2.2.2.2.2.2.2.2.2.2,[ba.1]⟩:aa),ba.2.1,ba.2.2.1,ba.2.2.2)else some ((⟨o.2.2.2.2.2.2.2.2.2.2.2.2.2.2.2.2.2.2.1,o.2.2.2.2.2.2.2.2.2.2.2.2.2.2.2.2.2.2.2.1,o.2.2.2.2.2.2.2.2.2.2.2.2.2.2.2.2.2.2.2.2.1,o.2.2.2.2.2.2.2.2.2.2.2.2.2.2.2.2.2.2.2.2.2.1,o.2.2.2.2.2.2.2.2.2.2.2.2.2.2.2.2.2.2.2.2.2.2.1,[],o.2.2.2.2.2.2.2.2.2.2.2.2.2.2.2.2.2.2.2.2.2.2.2,[]⟩:aa),B.2.1,B.2.2.1,B.2.2.2)else if (a.Kind=6:Bool) then if a.Open then vg (b,e,f)>>=λD=>if(bif a.Open then D.1 else false) then qn (a,D.2.1,D.2.2.1,D.2.2.2)>>=λae=>vh (ae.1,ae.2.1,ae.2.2.1,ae.2.2.2)>>=λbh=>some ((⟨a.Kind,false,0,[],ae.1,[],[],[bh.1]⟩:aa),bh.2.1,bh.2.2.1,bh.2.2.2)else iJ ((a.af.length:Int),D.2.1,D.2.2.1,D.2.2.2)>>=λag=>if aQ ag.1 a.af.length then some (a.af.getD ag.1.toNat aG)>>=λhe=>jS (he.aB,ag.2.1,ag.2.2.1,ag.2.2.2)>>=λbi=>some ((⟨a.Kind,false,0,[],he.ah,[],[aa.eta bi.1],[]⟩:aa),bi.2.1,bi.2.2.1,bi.2.2.2)else none else if(bif a.Open then false else false) then qn (a,b,e,f)>>=λam=>vh (am.1,am.2.1,am.2.2.1,am.2.2.2)>>=λbj=>some ((⟨a.Kind,false,0,[],am.1,[],[],[bj.1]⟩:aa),bj.2.1,bj.2.2.1,bj.2.2.2)
 else iJ ((a.af.length:Int),b,e,f)>>=λan=>if aQ an.1 a.af.length then some (a.af.getD an.1.toNat aG)>>=λhk=>jS (hk.aB,an.2.1,an.2.2.1,an.2.2.2)>>=λbs=>some ((⟨a.Kind,false,0,[],hk.ah,[],[aa.eta bs.1],[]⟩:aa),bs.2.1,bs.2.2.1,bs.2.2.2)else none else if (a.Kind=7:Bool) then iJ (aT .i64 (dU a.Max 3) 1,b,e,f)>>=λbv=>ql (bv.1,bv.2.1,bv.2.2.1,bv.2.2.2,0,false,0,[],0,a.Kind,a.Name,a.bT,a.bW,a.Max,a.bo,a.af,a.Key,a.aK,a.Open,a.Kind,false,0,[],0,[])>>=λv=>some ((⟨v.2.2.2.2.2.2.2.2.1,v.2.2.2.2.2.2.2.2.2.1,v.2.2.2.2.2.2.2.2.2.2.1,v.2.2.2.2.2.2.2.2.2.2.2.1,v.2.2.2.2.2.2.2.2.2.2.2.2.1,[],v.2.2.2.2.2.2.2.2.2.2.2.2.2,[]⟩:aa),v.1,v.2.1,v.2.2.1)else if (a.Kind=8:Bool) then iJ (aT .i64 (dU a.Max 3) 1,b,e,f)>>=λaF=>qm (aF.1,aF.2.1,aF.2.2.1,aF.2.2.2,0,false,0,[],0,a.Kind,a.Name,a.bT,a.bW,a.Max,a.bo,a.af,a.Key,a.aK,a.Open,a.Kind,false,0,[],0,[],[],[])>>=λj=>some ((⟨j.2.2.2.2.2.2.2.2.1,j.2.2.2.2.2.2.2.2.2.1,j.2.2.2.2.2.2.2.2.2.2.1,j.2.2.2.2.2.2.2.2.2.2.2.1,j.2.2.2.2.2.2.2.2.2.2.2.2.1,j.2.2.2.2.2.2.2.2.2.2.2.2.2.1,j.2.2.2.2.2.2.2.2.2.2.2.2.2.2.1,j.2.2.2.2.2.2.2.2.2.2.2.2.2.2.2⟩:aa),j.1,j.2.1,j.2.2.1)else iJ (2,b,e,f)>>=λx=>if (x.1=1:Bool) then jS (a.aK,x.2.1,x.2.2.1,x.2.2.2)>>=λaZ=>some ((⟨a.Kind,false,0,[],0,[],[aa.eta aZ.1],[]⟩:aa),aZ.2.1,aZ.2.2.1,aZ.2.2.2)else some ((⟨a.Kind,false,0,[],0,[],[],[]⟩:aa),x.2.1,x.2.2.1,x.2.2.2)else none
  partial_fixpoint
def my:Int×List aj×au×Bool×Int×Bool×Int×ar×Int×Int×ar×Int×Int×Int×List dO×List aU×Int×Int×Bool×Int×Bool×Int×ar×Int×List aa->Option (List aj×au×Bool×Int×Bool×Int×ar×Int×Int×ar×Int×Int×Int×List dO×List aU×Int×Int×Bool×Int×Bool×Int×ar×Int×List aa)
 |(i,ap,av,ax,F,G,H,I,J,K,L,M,N,O,P,c,Q,R,S,U,W,X,Y,Z,q)=>
 if (i<(c.length:Int):Bool) then if aQ i c.length then some (c.getD i.toNat aG)>>=λbR=>if bR.b8 then iJ (3,ap,av,ax)>>=λy=>if(bif bR.b8 then (y.1=0:Bool)else false) then if aQ i c.length then some [aa.eta (c.getD i.toNat aG).bU]>>=λt113=>if room 120 (q++t113).length then my (aT .i64 i 1,y.2.1,y.2.2.1,y.2.2.2,F,G,H,I,J,K,L,M,N,O,P,c,Q,R,S,U,W,X,Y,Z,q++t113)else none else none else if aQ i c.length then jS ((c.getD i.toNat aG).aB,y.2.1,y.2.2.1,y.2.2.2)>>=λa0=>some [aa.eta a0.1]>>=λt126=>if room 120 (q++t126).length then my (aT .i64 i 1,a0.2.1,a0.2.2.1,a0.2.2.2,F,G,H,I,J,K,L,M,N,O,P,c,Q,R,S,U,W,X,Y,Z,q++t126)else none else none else if(bif bR.b8 then false else false) then if aQ i c.length then some [aa.eta (c.getD i.toNat aG).bU]>>=λg7=>if room 120 (q++g7).length then my (aT .i64 i 1,ap,av,ax,F,G,H,I,J,K,L,M,N,O,P,c,Q,R,S,U,W,X,Y,Z,q++g7)else none else none else if aQ i c.length then jS ((c.getD i.toNat aG).aB,ap,av,ax)>>=λa1=>some [aa.eta a1.1]>>=λg8=>if room 120 (q++g8).length then my (aT .i64 i 1,a1.2.1,a1.2.2.1,a1.2.2.2,F,G,H,I,J,K,L,M,N,O,P,c,Q,R,S,U,W,X,Y,Z,q++g8)else none else none else none else some (ap,av,ax,F,G,H,I,J,K,L,M,N,O,P,c,Q,R,S,U,W,X,Y,Z,q)
  partial_fixpoint
def ql:Int×List aj×au×Bool×Int×Bool×Int×ar×Int×Int×ar×Int×Int×Int×List dO×List aU×Int×Int×Bool×Int×Bool×Int×ar×Int×List aa->Option (List aj×au×Bool×Int×Bool×Int×ar×Int×Int×Bool×Int×ar×Int×List aa)
 |(n,ge,gl,gs,gt,g0,g1,g2,g3,ii,io,ip,i0,i1,i2,i3,i4,g4,i5,g5,bV,b0,b1,b2,bM)=>
 if (0<n:Bool) then jS (g4,ge,gl,gs)>>=λa2=>some [aa.eta a2.1]>>=λt193=>if room 120 (bM++t193).length then ql (dY .i64 n 1,a2.2.1,a2.2.2.1,a2.2.2.2,gt,g0,g1,g2,g3,ii,io,ip,i0,i1,i2,i3,i4,g4,i5,g5,bV,b0,b1,b2,bM++t193)else none else some (ge,gl,gs,gt,g0,g1,g2,g3,g5,bV,b0,b1,b2,bM)
  partial_fixpoint
def qm:Int×List aj×au×Bool×Int×Bool×Int×ar×Int×Int×ar×Int×Int×Int×List dO×List aU×Int×Int×Bool×Int×Bool×Int×ar×Int×List aa×List aa×List cG->Option (List aj×au×Bool×Int×Bool×Int×ar×Int×Int×Bool×Int×ar×Int×List aa×List aa×List cG)
 |(g6,b',ce,ci,cp,cs,cT,dt,ee,hm,hs,ht,hu,hw,hH,h0,eq,es,h1,ex,eG,fd,ff,fo,fs,gc,gd)=>
 if (0<g6:Bool) then jS (eq,b',ce,ci)>>=λa3=>jS (es,a3.2.1,a3.2.2.1,a3.2.2.2)>>=λa4=>C7 ((⟨ex,eG,fd,ff,fo,fs,gc,gd⟩:aa),aa.eta a3.1,aa.eta a4.1)>>=λw=>qm (dY .i64 g6 1,a4.2.1,a4.2.2.1,a4.2.2.2,cp,cs,cT,dt,ee,hm,hs,ht,hu,hw,hH,h0,eq,es,h1,w.Kind,w.b9,w.bw,w.bH,w.ah,w.aJ,w.aq,w.Rest)else some (b',ce,ci,cp,cs,cT,dt,ee,ex,eG,fd,ff,fo,fs,gc,gd)
  partial_fixpoint
end
theorem Ul:fc sd jS/\fW 19 1 [2] xI qm/\fW 19 1 [1] xH ql/\fW 19 1 [0] xG my:=jS.mutual_partial_correctness (e2 sd) (fU 19 1 [2] xI) (fU 19 1 [1] xH) (fU 19 1 [0] xG)
 (λ_ _ _ _ h0 h1 a b _ _ h=>fl h (.k s6 (.k Vv (.k VC (.k Uk (.k VF (.k (c4 sd h0) .n)))))) (.k (gF xG b) (.k (gF xH a) (.k (gF xI h1) .n))))
 (λ_ _ h0 h1 _ _ h=>gE xI h1 h (.k (c4 sd h0) (.k V6 .n)))
 (λ_ _ h0 a _ _ h=>gE xH a h (.k (c4 sd h0) .n))
 (λ_ _ h0 b _ _ h=>gE xG b h (.k s6 (.k (c4 sd h0) .n)))
theorem Vo:bm sd jS:=c4 _ Ul.1
def C5:bq×Int×au->Option aa
 |(s,t,a)=>
 some (dU 60 (a.length:Int))>>=λt12=>if eH 0 t12 a.length then jS (t,s.Types,eZ a 0 t12,false)>>=λr=>some (aa.eta r.1)else none
theorem VS:bm xM C5:= .bC (.k Vo .n)
def vr(r:bY):Option Int:=
 nR r.eX>>=λa=>if !(a=0:Bool) then some a else if(bif (r.aB<0:Bool)then true else ((r.eX.Types.length:Int)<=r.aB:Bool)) then some 4 else some 0
theorem WX:bm aeu vr:= .bC (.k sG .n)
def mA:List bY×Int×Int->Option ((Int) ⊕ (Unit))
 |(t6,a,t8)=>
 if (t8<a:Bool) then if aQ t8 t6.length then vr (t6.getD t8.toNat q1)>>=λr=>if !(r=0:Bool) then some (.inl r)else mA (t6,a,aT .i64 t8 1)else none else some (.inr ())
  partial_fixpoint
theorem VT:c5 60 0 [0] Qa mA:= .rx mA.partial_correctness (.k WX .n)
def DU(l:List bY):Option Int:=
 mA (l,(l.length:Int),0)>>=λo=>match o with
 |.inl a=>
 some a
 |.inr b=>
 some 0
theorem WY:bm aeY DU:= .bC .n (.k VT .n)
def DV:bq×Int->Option Int
 |(s,t)=>
 nR s>>=λr=>if !(r=0:Bool) then some r else if(bif (t<0:Bool)then true else ((s.Types.length:Int)<=t:Bool)) then some 4 else some 0
theorem WZ:bm aeE DV:= .bC (.k sG .n)
def DW:bq×Int×aa->Option Int
 |(s,t,v)=>
 DV (s,t)>>=λr=>if !(r=0:Bool) then some r else sR (s,t,aa.eta v)>>=λa=>if !a then some 1 else some 0
theorem W0:bm aeD DW:= .bC (.k WZ (.k Sw .n))
def mE:aj×aa->Option Bool
 |(a,v)=>
 if !(a.Kind=4:Bool) then some false else pa (a,v.ah)>>=λr=>some (!r.2)
theorem SK:bm aeF mE:= .bC (.k yc .n)
def D4:aa×List aj×aj->Option (Bool×List aj×aj)
 |(k,b,a)=>
 if aQ a.Key b.length then mE (b.getD a.Key.toNat aM,aa.eta k)>>=λr=>some (r,b,a)else none
theorem WE:bm aeJ D4:= .bC (.k SK .n)
def oV:List aa×Int×Int×List aj×aj->Option ((Int×List aj×aj) ⊕ (List aj×aj))
 |(a,d,t8,b,c)=>
 if (t8<d:Bool) then if aQ t8 a.length then D4 (aa.eta (a.getD t8.toNat aH),b,c)>>=λr=>if r.1 then some (.inl (t8,r.2.1,r.2.2))else oV (a,d,aT .i64 t8 1,r.2.1,r.2.2)else none else some (.inr (b,c))
  partial_fixpoint
theorem UF:c5 237 2 [0] M1 oV:= .rx oV.partial_correctness (.k WE .n)
def Hf(e:List aa×List aj×aj):Option (Int×List aj×aj):=
 match e with
 |(s,b,d)=>
 oV (s,(s.length:Int),0,b,d)>>=λo=>match o with
 |.inl a=>
 some (a.1,a.2.1,a.2.2)
 |.inr c=>
 some ((-1),c.1,c.2)
theorem UK:bm adx Hf:= .bC .n (.k UF .n)
def Hb:List aa×List aj×aj->Option (Bool×List aj×aj)
 |(s,b,a)=>
 Hf (s,b,a)>>=λr=>some (decide (0<=r.1),r.2.1,r.2.2)
theorem UG:bm ady Hb:= .bC (.k UK .n)
def DK:bq×aj×aa->Option Bool
 |(s,a,v)=>
 Hb (v.aJ,s.Types,a)>>=λr=>some r.1
theorem Xr:bm aeG DK:= .bC (.k UG .n)
def nM:Int×Int×aj×aa×List iu->Option (List iu)
 |(d,t12,a,c,b)=>
 if (t12<d:Bool) then if (a.Kind=5:Bool) then if aQ t12 a.af.length then if aQ t12 a.af.length then some [(⟨(a.af.getD t12.toNat aG).aB,(a.af.getD t12.toNat aG).ah⟩:iu)]>>=λt40=>if room 16 (b++t40).length then nM (d,aT .i64 t12 1,a,aa.eta c,b++t40)else none else none else none else if (a.Kind=6:Bool) then gH (a,c.ah)>>=λr=>if aQ r.1 a.af.length then some [(⟨(a.af.getD r.1.toNat aG).aB,c.ah⟩:iu)]>>=λt61=>if room 16 (b++t61).length then nM (d,aT .i64 t12 1,a,aa.eta c,b++t61)else none else none else some [(⟨a.aK,t12⟩:iu)]>>=λt22=>if room 16 (b++t22).length then nM (d,aT .i64 t12 1,a,aa.eta c,b++t22)else none else some b
  partial_fixpoint
theorem Xf:c5 217 0 [0] OD nM:= .rx nM.partial_correctness (.k kg .n)
def Dx:aj×aa->Option (List iu)
 |(a,v)=>
 nM ((v.aq.length:Int),0,a,aa.eta v,[])>>=λo=>some o
theorem X':bm aeH Dx:= .bC .n (.k Xf .n)
mutual
def lS(p:bq×Int×aa):Option (aa×Bool):=
 match p with
 |(s,t,v)=>
 if aQ t s.Types.length then some (s.Types.getD t.toNat aM)>>=λe=>mE (e,aa.eta v)>>=λr=>(if !r then DK (s,e,aa.eta v)else some false)>>=λM=>if(bif bif r then true else M then true else bif (e.Kind=6:Bool)then ((v.aq.length:Int)=0:Bool)else false) then some ((⟨0,false,0,[],0,[],[],[]⟩:aa),false)else fv 120 v.aJ>>=λN=>Dx (e,aa.eta v)>>=λJ=>re (J,(J.length:Int),0,s.Types,aa.eta v,0,false,0,[],0,v.Kind,v.b9,v.bw,v.bH,v.ah,N,[])>>=λo=>match o with
 |.inl c=>
 some ((⟨c.2.1,c.2.2.1,c.2.2.2.1,c.2.2.2.2.1,c.2.2.2.2.2,[],[],[]⟩:aa),c.1)
 |.inr a=>
 some ((⟨a.2.2.2.2.2.1,a.2.2.2.2.2.2.1,a.2.2.2.2.2.2.2.1,a.2.2.2.2.2.2.2.2.1,a.2.2.2.2.2.2.2.2.2.1,a.2.2.2.2.2.2.2.2.2.2.1,a.2.2.2.2.2.2.2.2.2.2.2,[]⟩:aa),true)else none
  partial_fixpoint
def re:List iu×Int×Int×List aj×aa×Int×Bool×Int×ar×Int×Int×Bool×Int×ar×Int×List aa×List aa->Option ((Bool×Int×Bool×Int×ar×Int) ⊕ (Int×Bool×Int×ar×Int×Int×Bool×Int×ar×Int×List aa×List aa))
 |(t49,L,t51,q,f,w,x,y,A,B,D,E,F,G,H,I,j)=>
 if (t51<L:Bool) then if aQ t51 t49.length then if aQ t51 f.aq.length then lS ((⟨q⟩:bq),(t49.getD t51.toNat Iz).t,aa.eta (f.aq.getD t51.toNat aH))>>=λK=>if !K.2 then some (.inl (false,0,false,0,[],0))else some [aa.eta K.1]>>=λt74=>if room 120 (j++t74).length then re (t49,L,aT .i64 t51 1,q,aa.eta f,w,x,y,A,B,D,E,F,G,H,I,j++t74)else none else none else none else some (.inr (w,x,y,A,B,D,E,F,G,H,I,j))
  partial_fixpoint
end
theorem W1:fc Bk lS/\fW 159 0 [0] y' re:=lS.mutual_partial_correctness (e2 Bk) (fU 159 0 [0] y')
 (λ_ h1 _ _ h=>fl h (.k SK (.k Xr (.k kZ (.k X' .n)))) (.k (gF y' h1) .n))
 (λ_ _ h0 h1 _ _ h=>gE y' h1 h (.k (c4 Bk h0) .n))
theorem Ya:bm Bk lS:=c4 _ W1.1
def Dy:bq×Int×aa->Option (aa×Int)
 |(s,t,v)=>
 DW (s,t,aa.eta v)>>=λr=>if !(r=0:Bool) then some ((⟨0,false,0,[],0,[],[],[]⟩:aa),r)else lS (s,t,aa.eta v)>>=λa=>if !a.2 then some ((⟨0,false,0,[],0,[],[],[]⟩:aa),12)else some (aa.eta a.1,0)
theorem Yb:bm aev Dy:= .bC (.k W0 (.k Ya .n))
def H2:bY×bY×ar->Option (jz×Int)
 |(w,r,m)=>
 nP (w.eX,w.aB,m)>>=λa=>if !(a.2=0:Bool) then some ((⟨(⟨0,false,0,[],0,[],[],[]⟩:aa),(⟨0,false,0,[],0,[],[],[]⟩:aa),[]⟩:jz),12)else Dy (w.eX,w.aB,aa.eta a.1)>>=λe=>if !(e.2=0:Bool) then some ((⟨(⟨0,false,0,[],0,[],[],[]⟩:aa),(⟨0,false,0,[],0,[],[],[]⟩:aa),[]⟩:jz),12)else q' (w.eX,w.aB,aa.eta e.1,r.eX,r.aB)>>=λf=>if !(f.2=0:Bool) then some ((⟨(⟨0,false,0,[],0,[],[],[]⟩:aa),(⟨0,false,0,[],0,[],[],[]⟩:aa),[]⟩:jz),12)else lg (w.eX,w.aB,aa.eta a.1)>>=λc=>if !(c.2=0:Bool) then some ((⟨(⟨0,false,0,[],0,[],[],[]⟩:aa),(⟨0,false,0,[],0,[],[],[]⟩:aa),[]⟩:jz),3)else nP (r.eX,r.aB,c.1)>>=λb=>if !(b.2=0:Bool) then some ((⟨(⟨0,false,0,[],0,[],[],[]⟩:aa),(⟨0,false,0,[],0,[],[],[]⟩:aa),[]⟩:jz),12)else lg (r.eX,r.aB,aa.eta b.1)>>=λd=>if !(d.2=0:Bool) then some ((⟨(⟨0,false,0,[],0,[],[],[]⟩:aa),(⟨0,false,0,[],0,[],[],[]⟩:aa),[]⟩:jz),3)else some ((⟨aa.eta a.1,aa.eta b.1,d.1⟩:jz),0)
theorem V7:bm aeZ H2:= .bC (.k RP (.k Yb (.k G' (.k HY .n))))
def Ii:bY×bY×ar->Option (jz×Int)
 |(w,r,m)=>
 DU [w,r]>>=λb=>if !(b=0:Bool) then some ((⟨(⟨0,false,0,[],0,[],[],[]⟩:aa),(⟨0,false,0,[],0,[],[],[]⟩:aa),[]⟩:jz),b)else H2 (w,r,m)>>=λa=>some ((⟨aa.eta a.1.v,aa.eta a.1.u,a.1.message⟩:jz),a.2)
theorem Yc:bm aeI Ii:= .bC (.k WY (.k V7 .n))
def C8:bY×bY×ar->Option (ar×Int)
 |(w,r,m)=>
 Ii (w,r,m)>>=λa=>some (a.1.message,a.2)
theorem V8:bm FR C8:= .bC (.k Yc .n)
def DX:bq×Int×aa×bq×Int×aa->Option Bool
 |(w,wt,v,r,rt,u)=>
 q' (w,wt,aa.eta v,r,rt)>>=λa=>some (decide (a.2=0))>>=λt25=>(if t25 then lR (aa.eta a.1,aa.eta u)else some false)>>=λb=>some (bif t25 then b else false)
theorem W2:bm aet DX:= .bC (.k G' (.k DT .n))
def oX:Int×aa×aa->Option ((Bool) ⊕ (aa×aa))
 |(i,a,b)=>
 if (i<(a.Rest.length:Int):Bool) then if aQ i a.Rest.length then some (a.Rest.getD i.toNat ec)>>=λc=>if aQ i b.Rest.length then some (b.Rest.getD i.toNat ec)>>=λd=>if !(eh c.ah d.ah&&(kv c.Data d.Data&&true)) then some (.inl false)else oX (aT .i64 i 1,aa.eta a,aa.eta b)else none else none else some (.inr (aa.eta a,aa.eta b))
  partial_fixpoint
theorem Us:c5 26 0 [0] PY oX:= .rx oX.partial_correctness
mutual
def qw(e:aa×aa):Option Bool:=
 match e with
 |(a,b)=>
 if(bif bif bif bif bif (!(a.Kind=b.Kind:Bool))then true else(!(gr a.b9 b.b9))then true else(!(a.bw=b.bw:Bool))then true else(!(a.bH=b.bH:Bool))then true else(!(a.ah=b.ah:Bool))then true else(!((a.Rest.length:Int)=(b.Rest.length:Int):Bool))) then some false else oX (0,(⟨a.Kind,a.b9,a.bw,a.bH,a.ah,a.aJ,a.aq,a.Rest⟩:aa),(⟨b.Kind,b.b9,b.bw,b.bH,b.ah,b.aJ,b.aq,b.Rest⟩:aa))>>=λo=>match o with
 |.inl p=>
 some p
 |.inr c=>
 yr (c.1.aJ,c.2.aJ)>>=λr=>(if r then yr (c.1.aq,c.2.aq)else some false)>>=λq=>some (bif r then q else false)
  partial_fixpoint
def yr(e:List aa×List aa):Option Bool:=
 match e with
 |(a,b)=>
 if !((a.length:Int)=(b.length:Int):Bool) then some false else ve (a,b,0)>>=λo=>match o with
 |.inl p=>
 some p
 |.inr c=>
 some true
  partial_fixpoint
def ve:List aa×List aa×Int->Option ((Bool) ⊕ (Unit))
 |(f,j,i)=>
 if (i<(f.length:Int):Bool) then if aQ i f.length then if aQ i j.length then qw (aa.eta (f.getD i.toNat aH),aa.eta (j.getD i.toNat aH))>>=λr=>if !r then some (.inl false)else ve (f,j,aT .i64 i 1)else none else none else some (.inr ())
  partial_fixpoint
end
theorem Vp:fc BO qw/\fc Gb yr/\fW 66 0 [0] xL ve:=qw.mutual_partial_correctness (e2 BO) (e2 Gb) (fU 66 0 [0] xL)
 (λ_ h1 _ _ h=>fl h (.k (c4 Gb h1) .n) (.k Us .n))
 (λ_ a _ _ h=>fl h .n (.k (gF xL a) .n))
 (λ_ _ h0 a _ _ h=>gE xL a h (.k (c4 BO h0) .n))
theorem VG:bm BO qw:=c4 _ Vp.1
def C2:aa×aa->Option Bool
 |(a,b)=>
 qw (aa.eta a,aa.eta b)>>=λr=>some r
theorem Wm:bm uR C2:= .bC (.k VG .n)
def z8:mB×au->Option Bool
 |(c,e)=>
 yd c>>=λr=>C1 ()>>=λl=>if(bif bif (!l)then true else(!r.2.2)then true else (60<(e.length:Int):Bool)) then C1 ()>>=λm=>some m else CV (r.1,r.2.1)>>=λd=>C5 (r.1.eX,r.1.aB,e)>>=λi=>lg (r.1.eX,r.1.aB,aa.eta i)>>=λa=>if(bif bif (!(d.2=0:Bool))then true else(!d.1)then true else(!(a.2=0:Bool))) then some (decide (d.2=0))else nP (r.2.1.eX,r.2.1.aB,a.1)>>=λb=>C8 (r.1,r.2.1,a.1)>>=λf=>nP (r.2.1.eX,r.2.1.aB,f.1)>>=λg=>some (bif bif decide (b.2=0)then decide (f.2=0)else false then decide (g.2=0)else false)>>=λt104=>(if t104 then DX (r.1.eX,r.1.aB,aa.eta i,r.2.1.eX,r.2.1.aB,aa.eta b.1)else some false)>>=λj=>some (bif t104 then j else false)>>=λt117=>(if t117 then C2 (aa.eta b.1,aa.eta g.1)else some false)>>=λk=>some (bif t117 then k else false)
theorem aeg:bm dw z8:= .bC (.k VM (.k UY (.k Vf (.k VS (.k HY (.k RP (.k V8 (.k W2 (.k Wm .n)))))))))
structure ahC where
 Value:aa
 Path:au
 aaZ:Bool
structure ahD where
 Value:aa
 ahB:lT
 aaZ:Bool
structure RK where
 S:en
 T:Int
 C:au
structure W3 where
 D:RK
 L:List la
def CZ(b:Int):Option Bool:=
 some (bif bif bif decide (97<=b)then decide (b<=122)else false then true else bif decide (65<=b)then decide (b<=90)else false then true else decide (b=95))
def Ha(b:Int):Option Bool:=
 some (bif decide (48<=b)then decide (b<=57)else false)
def tb:ar×Int->Option ((Bool) ⊕ (Unit))
 |(a,i)=>
 if (i<(a.length:Int):Bool) then if aQ i a.length then CZ (h4 a i)>>=λb=>some (!b)>>=λt27=>if(aQ i a.length||(!t27)) then (if t27 then Ha (h4 a i)else some false)>>=λc=>if(bif t27 then(!c)else false) then some (.inl false)else tb (a,aT .i64 i 1)else none else none else some (.inr ())
  partial_fixpoint
def Ry(s:ar):Option Bool:=
 some (bif decide (s=[])then true else decide (24<(s.length:Int)))>>=λt10=>if(aQ 0 s.length||(!(!t10))) then (if !t10 then CZ (h4 s 0)else some false)>>=λr=>if(bif t10 then true else(!r)) then some false else tb (s,0)>>=λo=>match o with
   |.inl a=>
    some a
   |.inr b=>
    some true else none
end
section
open Go Go.Proofs.YtklfhpkljddjbaaGreatDoor.Shv
set_option maxRecDepth 100000
def ig(s:ar):Nat->Nat->Nat->Int×Int×Int
 |0,_,_=>(0,0,10)
 |f+1,i,n=>
  if i<s.length then if i=9/\1<(s.getD i 0).toNat then(0,0,7)else if 128<=(s.getD i 0).toNat then ig s f (i+1) (n+((s.getD i 0).toNat%128)*2^(7*i))else if(s.getD i 0).toNat=0/\0<i then(0,0,2)else(((n+(s.getD i 0).toNat*2^(7*i):Nat):Int),((i+1:Nat):Int),0)else(0,0,10)
theorem Q3{i:Nat}(h:i<=9):2^(7*i)<=9223372036854775808:=by
 have:2^(7*i)<=2^63:=Cz (by omega) (by omega);omega
theorem Q4(i:Nat):2^(7*(i+1))=2^(7*i)*128:=by rw[Nat.mul_add,Nat.pow_add]
theorem Rg{n i b:Nat}(aN:n<2^(7*i)):n+(b%128)*2^(7*i)<2^(7*(i+1)):=by
 rw[Q4];have:b%128*2^(7*i)<=127*2^(7*i):=eM _ (by omega);omega
theorem Gi{n i b:Nat}(d:i<=9)(aN:n<2^(7*i))(c:b<128)(a:i=9->b<=1):b*2^(7*i)<18446744073709551616/\n+b*2^(7*i)<18446744073709551616:=by
 rcases Nat.lt_or_ge i 9 with h|h
 . have:2^(7*i)<=2^56:=Cz (by omega) (by omega);have e:(2:Nat)^56=72057594037927936:=(by decide);have:b*2^(7*i)<=127*2^(7*i):=eM _ (by omega);omega
 grind
theorem OJ(s:ar):∀(f i n:Nat),i+f=10->n<2^(7*i)->∃o,sJ (s,(n:Int),((min 10 s.length:Nat):Int),(i:Int))=some o/\(match o with|.inl x=>x|.inr _=>(0,0,10))=ig s f i n
 |0,i,n,h,aN=>by
  refine⟨.inr (),?_,rfl⟩;rw[sJ];grind
 |f+1,i,n,h,aN=>by
  rw[sJ];simp only[ig,bg,ay,yF];by_cases d:i<s.length
  . have e:=JB s i;generalize (s.getD i 0).toNat=b at e⊢;rw[dc,ad (bu d),ad d];have l:ky .i64 7 (i:Int)=((7*i:Nat):Int):=by rw[adZ (by omega) (by omega)];norm_cast
    rw[l];have j:decide ((0:Int)<=((7*i:Nat):Int))=true:=by simp;omega
    by_cases c:i=9/\1<b
    . rw[ad c,ad (by obtain⟨h1,m⟩:=c;subst h1;simp;omega)];grind
    . rw[ao c,ao (by grind)];by_cases g:128<=b
      . rw[ad g,dc,ad j];have k:i=9->False:=λh1=>c ⟨h1,by omega⟩;have aE:b%128<128:=Nat.mod_lt _ (by omega);have a:=Gi (i:=i) (n:=n) (b:=b%128) (by omega) aN aE (λh1=>(k h1).elim);rw[aa8 e,j8,L6 (by omega) a.1,Ob (by have:=Q3 (i:=i) (by omega);omega) a.1,OV aN,cg];exact OJ s f (i+1) (n+b%128*2^(7*i)) (by omega) (Rg aN)
      . rw[ao g,ev];by_cases h0:b=0/\0<i
        . simp_all
        . rw[ao h0,ao (by grind),ad j];have a:=Gi (i:=i) (n:=n) (b:=b) (by omega) aN (by omega) (λh1=>by omega);rw[j8,L6 (by omega) a.1,Ob (by have:=Q3 (i:=i) (by omega);omega) a.1,OV aN,cg];grind
  . rw[ev,ao d];grind
theorem OK(s:ar):DJ s=some (ig s 10 0 0):=by
 obtain⟨o,h1,a⟩:=OJ s 10 0 0 rfl (by decide);rw[DJ];have:dU 10 (s.length:Int)=((min 10 s.length:Nat):Int):=Lz 10 s.length;grind
theorem M3(s:ar):∀(f i n:Nat),i<=s.length->i+f=10->n<2^(7*i)->(∃e:Int,e≠0/\ig s f i n=(0,0,e))\/∃m k:Nat,ig s f i n=((m:Int),(k:Int),0)/\i<k/\k<=s.length/\m<18446744073709551616
 |0,i,n,l,h,aN=>.inl ⟨10,by decide,rfl⟩
 |f+1,i,n,l,h,aN=>by
  simp only[ig];have g:=JB s i;generalize (s.getD i 0).toNat=b at g⊢;by_cases c:i<s.length
  . rw[ad c];by_cases d:i=9/\1<b
    . simp_all
    . rw[ao d];by_cases a:128<=b
      . rw[ad a];rcases M3 s f (i+1) (n+b%128*2^(7*i)) (by omega) (by omega) (Rg aN)with h|⟨m,k,h1,o,p,q⟩
        . exact .inl h
        grind
      . rw[ao a];by_cases h0:b=0/\0<i
        . simp_all
        . rw[ao h0];have j:=Gi (i:=i) (n:=n) (b:=b) (by omega) aN (by omega) (λh1=>by omega);exact .inr ⟨_,i+1,rfl,by omega,by omega,j.2⟩
  . rw[ao c];exact .inl ⟨10,by decide,rfl⟩
theorem ou(s:ar):(∃e:Int,e≠0/\ig s 10 0 0=(0,0,e))\/∃m k:Nat,ig s 10 0 0=((m:Int),(k:Int),0)/\0<k/\k<=s.length/\m<18446744073709551616:=
 M3 s 10 0 0 (by simp) rfl (by simp)
theorem qV{s:ar}{e:Int}(he:e≠0)(h:ig s 10 0 0=(0,0,e)):qG s=some (0,[],false):=by
 grind[qG,OK]
theorem n5{s:ar}{m k:Nat}(h:ig s 10 0 0=((m:Int),(k:Int),0))(a:k<=s.length):qG s=some ((m:Int),s.drop k,true):=by
 grind[qG,OK,mU,sv]
def eu:Option (ar×ar)->ar×ar×Bool
 |none=>([],[],false)
 |some (a,b)=>(a,b,true)
def jK(s:ar):Option (ar×ar):=
 match ig s 10 0 0 with
 |(m,k,e)=>if e=0/\m.toNat+k.toNat<=s.length then some ((s.drop k.toNat).take m.toNat,(s.drop k.toNat).drop m.toNat)else none
theorem qQ{s a b:ar}(h:jK s=some (a,b)):a.length+b.length<s.length:=by
 unfold jK at h;rcases ou s with⟨e,he,c⟩|⟨m,k,c,f,d,g⟩
 . grind
 grind
theorem n9{s:ar}(hs:s.length<=1000000:=by omega):yz s=some (eu (jK s)):=by
 rw[yz];unfold jK;rcases ou s with⟨e,he,b⟩|⟨m,k,b,f,d,g⟩
 . rw[qV he b,b];simp[he,eu]
 . rw[n5 b d,b];simp only[bg,ay,gR,true_and,l9];rw[j8];by_cases c:m+k<=s.length
   . rw[ev,ad (show eH 0 m _=true from mU (a:=0) (by omega) (by omega)),ad (mU (by omega) (eB _)),ad c];have:(s.length-k:Nat)=(s.drop k).length:=(by simp);rw[this,sv,we];rfl
   . rw[dc,ao c];rfl
theorem Jm:∀(n:Nat) (s:ar) (b:List ar),s.length<=n->s.length+b.length<=100000->∃o,im (s,b)=some o/\∀l,o= .inr l->l.length<=s.length+b.length:=by
 intro n;induction n with
 |zero=>
  simp_all[im]
 |succ n ih=>
  intro s b h1 f;rw[im,n9];simp only[bg,ay];by_cases hs:s=[]
  . grind
  . have c:(!(decide (s=[])))=true:=(by grind);rw[ad c];cases e:jK s with
    |none=>exact⟨.inl 12,rfl,λl ae=>by grind⟩
    |some p=>
     obtain⟨x,y⟩:=p;have ae:=qQ e;have d:room 16 (b++[(eu (some (x,y))).1]).length=true:=dv (by simp) (by grind);have aN:¬((!(eu (some (x,y))).2.2)=true):=(by simp[eu]);rw[ad d];obtain⟨o,a,bj⟩:=ih y (b++[x]) (by omega) (by grind);exact⟨o,a,λl g=>by grind⟩
theorem aaJ{s:ar}(h:s.length<=90000):∃o,nS s=some o/\o.1.length<=s.length:=by
 obtain⟨o,h1,a⟩:=Jm _ s [] (eB _) (by grind);rw[nS];cases o<;>simp_all
theorem L9:∀(n:Nat) (s:ar) (last:Nat) (b:List c7),s.length<=n->s.length+b.length<=100000->∃o,hA ((last:Int),s,b)=some o/\∀l,o= .inr l->l.length<=s.length+b.length:=by
 intro n;induction n with
 |zero=>
  simp_all[kz,hA,ao]
 |succ n ih=>
  intro s last b h1 q;rw[hA];by_cases hs:s=[]
  . simp_all
  . have d:(!(decide (s=[])))=true:=(by grind);rw[ad d];rcases ou s with⟨e,he,a⟩|⟨m,k,a,t,f,g⟩
    . rw[qV he a];simp_all
    . rw[n5 a f];simp only[bg,ay];rw[Ae g];by_cases r:m/2<=last\/1000<m/2
      . exact⟨.inl 12,by grind,λl ae=>by grind⟩
      . have j:b7 .i64 _=((m/2:Nat):Int):=nj;rw[ao (by grind),j,n9 (by grind)];simp only[ay];cases ai:jK _ with
        |none=>exact⟨.inl 12,rfl,λl ae=>by grind⟩
        |some p=>
         obtain⟨x,y⟩:=p;have ae:=qQ ai;rw[l9]at ae;have i:room 32 (b++[(⟨((m/2:Nat):Int),decide (cd (m:Int) 2=1),(eu (some (x,y))).1⟩:c7)]).length=true:=dv (by simp) (by grind);have aN:¬((!(eu (some (x,y))).2.2)=true):=(by simp[eu]);rw[ao aN,ad i];obtain⟨o,c,bj⟩:=ih y (m/2) (b++[(⟨((m/2:Nat):Int),decide (cd (m:Int) 2=1),x⟩:c7)]) (by omega) (by grind);exact⟨o,c,λl u=>by grind⟩
theorem aad{s:ar}(h:s.length<=90000):∃o,pd s=some o/\o.1.length<=s.length:=by
 obtain⟨o,h1,a⟩:=L9 _ s 0 [] (eB _) (by grind);rw[pd];cases o<;>simp_all
theorem adA(s:ar):∃o,pw s=some o:=by
 rw[pw];rcases ou s with⟨e,he,a⟩|⟨m,k,a,d,b,f⟩
 . rw[qV he a];simp
 . rw[n5 a b];simp only[bg,ay];by_cases c:m<1\/1000<m
   . exact⟨(0,[],12),by grind⟩
   . rw[ao (by grind)];simp
def dL(n:Nat):ar:=if n<128 then[UInt8.ofNat n]else UInt8.ofNat (n%128+128)::dL (n/128)
termination_by n
decreasing_by omega
theorem qN{n:Nat}(h:n<128):dL n=[UInt8.ofNat n]:=by rw[dL,ad h]
theorem pA{n:Nat}(h:¬n<128):dL n=UInt8.ofNat (n%128+128)::dL (n/128):=by rw[dL,ao h]
theorem ac4{a:Nat}(h:a<256):rD .u8 (a:Int) 128=((a%128+128:Nat):Int):=by
 have key:∀a:Nat,a<256->rD .u8 a 128=a%128+128:=by decide+kernel
 grind
theorem Ki(n:Nat):b7 .u8 (n:Int)=((n%256:Nat):Int):=by rfl
theorem agE(n:Nat):lC .u64 (n:Int) 7=((n/128:Nat):Int):=by
 unfold lC;have:(2^min (7:Int).toNat IntKind.u64.bits)=128:=by rfl
 grind
theorem Zg(m:Nat)(l:au):strOf ((m:Int)::l)=UInt8.ofNat m::strOf l:=rfl
theorem Sx(a b:au):strOf (a++b)=strOf a++strOf b:=rB
variable{α c:Type}{p:Nat->Bool}{a v:aa}{x:Option Bool}{f:aU×aU->Option Bool}{t:aj}{q:Int×Bool}{id:Int}
theorem HG:∀(l:List α) (i:Nat) (x:α),i<l.length->(l.set i x).take (i+1)=l.take i++[x]
 |[],i,x,h=>by grind
 |a::l,0,x,h=>by rfl
 |a::l,i+1,x,h=>by simp[HG l i x (by grind)]
theorem OL:∀(f n i:Nat) (b:au),i+f=9->n<128*128^f->b.length=10->∃(cT c:Nat) (a:au),sH ((n:Int),(i:Int),b)=some ((cT:Int),(c:Int),a)/\cT<128/\c<=9/\a.length=10/\strOf (a.take c)++[UInt8.ofNat cT]=strOf (b.take i)++dL n
 |f,n,i,b,d,aN,k=>by
  rw[sH];by_cases hs:n<128
  . rw[ao (by grind)];grind[qN]
  . rw[ad (by grind),ad (bu (by
     omega)),ad (by
     grind)]
    match f,d,aN with
    |0,d,aN=>grind
    |f+1,d,aN=>
     rw[agE,cg,Ki,ac4 (Nat.mod_lt _ (by simp))];have aE:n/128<128*128^f:=(by omega);obtain⟨cT,c,a,h1,e,g,j,bj⟩:=OL f _ (i+1) (b.set i _) (by omega) aE (by grind);refine⟨cT,c,a,h1,e,g,j,?_⟩;rw[bj,HG _ _ _ (by omega),Sx,pA hs];have l:strOf [n%128+128]=[UInt8.ofNat _]:=rfl;grind
theorem po{n:Nat}(aN:n<18446744073709551616:=by omega):pv (n:Int)=some (dL n):=by
 obtain⟨cT,d,e,h1,f,g,i,bj⟩:=OL 9 n 0 [0,0,0,0,0,0,0,0,0,0] rfl (by grind) rfl;rw[pv];have a:sH (n,0,[0,0,0,0,0,0,0,0,0,0])=some _:=h1;rw[a];simp only[bg,ay];have c:eH 0 (d+1:Nat) 10=true:=mU (by simp) (by omega);rw[ad (hY),ad (by grind),cg,ad c,ad (by grind[wX]),bx,Ki];have:cT%256=cT:=rv (by omega);rw[this];simp;rw[HG _ _ _ (by omega),Sx];have b:strOf [cT]=[UInt8.ofNat cT]:=rfl;rw[b,bj];rfl
theorem Jn:∀(f n:Nat),n<128^(f+1)->(dL n).length<=f+1
 |f,n,aN=>by
  by_cases hs:n<128
  . grind[qN]
  . rw[pA hs]
    match f,aN with
    |0,aN=>grind
    |f+1,aN=>
     have:=Jn f (n/128) (by omega);grind
theorem nW{n:Nat}(aN:n<18446744073709551616):(dL n).length<=10:=Jn 9 n (by grind)
theorem nZ(n:Nat):0<(dL n).length:=by
 grind[dL]
theorem nT{n:Nat}(h:n<256):(UInt8.ofNat n).toNat=n:=by simp_all
theorem OM:∀(f i acc n:Nat) (pre rest:ar),i+f=10->pre.length=i->n*2^(7*i)<18446744073709551616->(n=0->i=0)->ig (pre++(dL n++rest)) f i acc=(((acc+n*2^(7*i):Nat):Int),((i+(dL n).length:Nat):Int),0)
 |0,i,acc,n,pre,rest,c,ai,aN,h0=>by grind
 |f+1,i,acc,n,pre,rest,c,ai,aN,h0=>by
  have d:i<(pre++(dL n++rest)).length:=by
   grind[nZ]
  have a:∀(x:UInt8) (r:ar),dL n=x::r->(pre++(dL n++rest)).getD i 0=x:=by grind
  simp only[ig];rw[ad d];by_cases hs:n<128
  . rw[a _ _ (qN hs),nT (by omega),ao (by
     grind),a',ao (by
     grind),qN hs]
    rfl
  . have e:i<9:=(by grind);rw[a _ _ (pA hs),nT (by omega),a',ad (by simp)];have g:n%128*2^(7*i)+n/128*2^(7*(i+1))=n*2^(7*i):=by
     rw[Q4];have h1:n/128*(2^(7*i)*128)=(n/128*128)*2^(7*i):=(by grind);rw[h1,<-h'];grind
    have b:n/128*2^(7*(i+1))<18446744073709551616:=(by omega);have:=OM f _ (acc+n%128*2^(7*i)) _ (pre++[UInt8.ofNat (n%128+128)]) rest (by omega) (by grind) b (by omega);have es:pre++(dL n++rest)=pre++[UInt8.ofNat (n%128+128)]++(dL (n/128)++rest):=by rw[pA hs];simp
    grind
theorem JK{n:Nat}(aN:n<18446744073709551616)(rest:ar):ig (dL n++rest) 10 0 0=((n:Int),((dL n).length:Int),0):=by
 have:=OM 10 0 0 n [] rest rfl rfl (by grind) (λ_=>rfl);grind
def c8(p:ar):ar:=dL p.length++p
theorem js{n:Nat}(h:n<=9223372036854775807:=by omega):decide (n<=ft)=true:=by
 grind[ft]
theorem Ej{p:ar}(h:p.length<=1152921504606846976:=by omega):qE p=some (c8 p):=by
 rw[qE,j8,po];simp only[bg,ay];have:=nW (n:=p.length) (by omega);rw[ad (js)];rfl
def eS(id:Nat)(c:Bool)(p:ar):ar:=dL (2*id+(if c then 1 else 0))++c8 p
theorem Zh{p:ar}(h:p.length<=1152921504606846976):(c8 p).length<=p.length+10:=by
 grind[nW,c8]
theorem Jo{id:Nat}{c:Bool}{p:ar}(hid:id<=4611686018427387903)(h:p.length<=1152921504606846900:=by omega):vX ((id:Int),c,p)=some (eS id c p):=by
 rw[vX];have e:ky .u64 2 (b7 .u64 id)=(2*id:Nat):=by rw[j8];exact Gv (a:=2) (by omega)
 simp only[bg,ay];rw[e,Ej];have ae:=Zh (p:=p) (by omega);cases c with
 |true=>
  have d:aT .u64 _ 1=(2*id+1:Nat):=PJ (b:=1) (by omega);rw[d,po];have:=nW (n:=2*id+1) (by omega);simp only[ay];rw[ad (js)];rfl
 |false=>
  rw[po];have:=nW (n:=2*id) (by omega);simp only[ay];rw[ad (js)];rfl
theorem T7{p rest:ar}(h:p.length<=100000):jK (c8 p++rest)=some (p,rest):=by
 unfold jK c8;rw[kD,JK (by omega)];simp;grind
theorem YX{id:Nat}{c:Bool}{p rest:ar}{last:Nat}{b:List c7}(h1:last<id)(hid:id<=1000)(h:(eS id c p++rest).length<=100000)(j:b.length<=90000):
 hA ((last:Int),eS id c p++rest,b)=hA ((id:Int),rest,b++[⟨(id:Int),c,p⟩]):=by
 have e:p.length<=100000:=by
  grind[eS,c8,List.length_append]
 have l:eS id c p++rest≠[]:=by
  intro k;grind[nZ,eS,List.length_append,List.length_nil]
 have al:ig (eS id c p++rest) 10 0 0=(((2*id+(if c then 1 else 0):Nat):Int),((dL (2*id+(if c then 1 else 0))).length:Int),0):=by
  grind[eS,List.append_assoc,JK]
 have aN:=n5 al (by grind[eS]);have a:(eS id c p++rest).drop (dL (2*id+(if c then 1 else 0))).length=c8 p++rest:=by
  grind[eS]
 rw[a]at aN;have d:(2*id+(if c then 1 else 0))/2=id:=by grind
 have g:decide (cd ((2*id+(if c then 1 else 0):Nat):Int) 2=1)=c:=by
  have:cd _ 2=(((2*id+(if c then 1 else 0))%2:Nat):Int):=agv (b:=2);grind
 rw[hA,ad (by grind),aN];simp only[bg,ay];rw[Ae (by omega),d,ao (by grind),g,n9 (by grind),T7 e];simp only[ay];have i:b7 .i64 (id:Int)=(id:Int):=nj (by simp);have m:¬((!(eu (some (p,rest))).2.2)=true):=by simp[eu]
 rw[i];have f:room 32 (b++[(⟨(id:Int),c,(eu (some (p,rest))).1⟩:c7)]).length=true:=dv (by simp) (by grind);rw[ad f];rfl
inductive cf:aa->Prop
 |mk (v:aa) (hs:v.bH.length<=reachBytes) (h1:v.aJ.length<=reachBytes) (afr:v.aq.length<=reachBytes) (ahF:v.Rest.length<=reachBytes)
  (hk:∀x,x∈v.aJ->cf x) (Cn:∀x,x∈v.aq->cf x) (ahN:∀x,x∈v.Rest->x.Data.length<=reachBytes)
  (cI: -9223372036854775808<=v.Kind/\v.Kind<=9223372036854775807) (ahS: -9223372036854775808<=v.bw/\v.bw<=9223372036854775807) (ahT: -9223372036854775808<=v.ah/\v.ah<=9223372036854775807)
  (ahU:∀x,x∈v.Rest->-9223372036854775808<=x.ah/\x.ah<=9223372036854775807):cf v
theorem gq{n:Nat}(h:n<=reachBytes):n<9223372036854775807:=Nat.lt_of_le_of_lt h (by decide)
theorem scan(L:Nat->Option c)(n:Nat)(p:Nat->Bool)(a b:c)(f:∀i,i<n->L i=if p i then L (i+1)else some a)(e:L n=some b):
 (L 0=some b/\∀j,j<n->p j=true)\/(L 0=some a/\∃j,j<n/\p j=false):=by
 have key:∀k i,i+k=n->(L i=some b/\∀j,i<=j->j<n->p j=true)\/(L i=some a/\∃j,j<n/\p j=false):=by
  intro k;induction k<;>grind
 rcases key n 0 (by simp)with⟨h1,d⟩|h
 all_goals grind
theorem ey{l:List α}{i:Nat}(h:i<l.length)(d:α):l.getD i d=l[i]:=by grind
theorem Dz{a b:List α}(ae:a.length=b.length)(ai:∀(i:Nat) (h1:i<a.length) (c:i<b.length),p i=true↔a[i]=b[i]):
 (∀j,j<a.length->p j=true)↔a=b:=by
 grind[List.ext_getElem]
def eR{α:Type}(o:Option Bool)(a b:α):Prop:=∃r,o=some r/\(r=true↔a=b)
theorem eR.GP{a b:List α}(ae:a.length=b.length)(ai:∀(i:Nat) (h1:i<a.length) (c:i<b.length),p i=true↔a[i]=b[i]){o:Option Bool}
 (h:(o=some true/\∀j,j<a.length->p j=true)\/(o=some false/\∃j,j<a.length/\p j=false)):eR o a b:=by
 rcases h with⟨h1,c⟩|⟨h1,j,c,e⟩
 . exact⟨true,h1,by simp[(Dz ae ai).1 c]⟩
 . refine⟨false,h1,?_⟩;grind
theorem ON{a b:cG}:(eh a.ah b.ah&&(kv a.Data b.Data&&true))=true↔a=b:=by cases a;cases b;simp[eh,kv]
theorem adB{a b:dO}:(eh a.ah b.ah&&(kv a.Name b.Name&&true))=true↔a=b:=by
 cases a;cases b;simp[eh,kv]
theorem vK{a b:List α}(h:¬a.length=b.length):eR (some false) a b:=⟨false,rfl,by grind⟩
theorem OO{a b:List cG}(d:a.length<=reachBytes):eR (yp (a,b)) a b:=by
 rw[yp];by_cases ae:a.length=b.length
 . have f:=gq d;have:=scan (λi=>sZ (a,b,(a.length:Int),(i:Int))) a.length (λi=>eh (a.getD i ec).ah (b.getD i ec).ah&&(kv (a.getD i ec).Data (b.getD i ec).Data&&true)) (.inl false) (.inr ())
    (λi e=>by
     rw[sZ,ad (by grind),ad (bu e)];simp[bg,ay,bx];rw[ad (hY),cg]
     grind)
    (by simp_all[sZ])
   refine eR.GP (p:=λi=>eh (a.getD i ec).ah (b.getD i ec).ah&&(kv (a.getD i ec).Data (b.getD i ec).Data&&true)) ae (λi h1 c=>by simp only[ey h1,ey c];exact ON) ?_;grind
 . rw[ad (by grind)];exact vK ae
theorem adC{a b:List dO}(d:a.length<=reachBytes):eR (Dh (a,b)) a b:=by
 rw[Dh];by_cases ae:a.length=b.length
 . have f:=gq d;have:=scan (λi=>sq (a,b,(a.length:Int),(i:Int))) a.length (λi=>eh (a.getD i fE).ah (b.getD i fE).ah&&(kv (a.getD i fE).Name (b.getD i fE).Name&&true)) (.inl false) (.inr ())
    (λi e=>by
     rw[sq,ad (bu e)];simp;rw[ad (hY),cg]
     grind)
    (by simp_all[sq])
   refine eR.GP (p:=λi=>eh (a.getD i fE).ah (b.getD i fE).ah&&(kv (a.getD i fE).Name (b.getD i fE).Name&&true)) ae (λi h1 c=>by simp only[ey h1,ey c];exact adB) ?_;grind
 . rw[ad (by grind)];exact vK ae
theorem JE(v:aa):(⟨v.Kind,v.b9,v.bw,v.bH,v.ah,v.aJ,v.aq,v.Rest⟩:aa)=v:=by cases v;rfl
theorem L'{b:aa}:a=b↔a.Kind=b.Kind/\a.b9=b.b9/\a.bw=b.bw/\a.bH=b.bH/\a.ah=b.ah/\a.Rest=b.Rest/\a.aJ=b.aJ/\a.aq=b.aq:=by
 constructor
 . grind
 . cases a;cases b;grind
section
variable {f:aa×aa->Option Bool}
theorem IB {a b:List aa}(ae:a.length=b.length)(ih:∀x,x∈a->∀y,eR (f (x,y)) x y)(L:Nat->Option (Bool ⊕ Unit))
 (l:∀i,i<a.length->L i=(f (aa.eta (a.getD i aH),aa.eta (b.getD i aH))>>=λr=>if !r then some (.inl false)else L (i+1)))
 (e:L a.length=some (.inr ())):eR (L 0>>=λo=>match o with|.inl x=>some x|.inr _=>some true) a b:=by
 have d:∀(i:Nat) (h1:i<a.length) (c:i<b.length),eR (f (aa.eta (a.getD i aH),aa.eta (b.getD i aH))) a[i] b[i]:=by
  grind[ey,aa.bO]
 have:=scan L a.length (λi=>(f (aa.eta (a.getD i aH),aa.eta (b.getD i aH))).getD false) (.inl false) (.inr ())
  (λi g=>by
   obtain⟨r,h1,c⟩:=d i g (by omega)
   grind) e
 refine eR.GP ae (λi h1 c=>?_) ?_ (p:=λi=>(f (aa.eta (a.getD i aH),aa.eta (b.getD i aH))).getD false)
 . obtain⟨r,j,k⟩:=d i h1 c;grind
 grind
end
theorem Oi{a b:List aa}(c:a.length<=reachBytes)(ih:∀x,x∈a->∀y,eR (lR (x,y)) x y):eR (vc (a,b)) a b:=by
 rw[vc];by_cases ae:a.length=b.length
 . rw[ao (by grind)];have e:=gq c;exact IB ae ih (λi=>va (b,a,a.length,i))
    (λi d=>by
     rw[va,ad (by grind),ad (bu d),ad (hY),cg]
     rfl)
    (by grind[va])
 . rw[ad (by grind)];exact vK ae
theorem Oj{a b:List aa}(c:a.length<=reachBytes)(ih:∀x,x∈a->∀y,eR (mG (x,y)) x y):eR (yn (a,b)) a b:=by
 rw[yn];by_cases ae:a.length=b.length
 . rw[ao (by grind)];have e:=gq c;exact IB ae ih (λi=>vb (b,a,a.length,i))
    (λi d=>by
     rw[vb,ad (by grind),ad (bu d),ad (hY),cg]
     rfl)
    (by simp_all[vb])
 . rw[ad (by grind)];exact vK ae
theorem Nw{a b:List aa}(c:a.length<=reachBytes)(ih:∀x,x∈a->∀y,eR (qw (x,y)) x y):eR (yr (a,b)) a b:=by
 rw[yr];by_cases ae:a.length=b.length
 . rw[ao (by grind)];have e:=gq c;exact IB ae ih (λi=>ve (a,b,i))
    (λi d=>by
     rw[ve,ad (by grind),ad (bu d),ad (hY),cg]
     rfl)
    (by grind[ve])
 . rw[ad (by grind)];exact vK ae
theorem three{b:aa}{bj:Bool}(iv:bj=true↔a.Kind=b.Kind/\a.b9=b.b9/\a.bw=b.bw/\a.bH=b.bH/\a.ah=b.ah){y z:Option Bool}(I:eR x a.Rest b.Rest)(ag:eR y a.aJ b.aJ)(g:eR z a.aq b.aq):
 eR (some bj>>=λt37=>(if t37 then x else some false)>>=λr=>some (bif t37 then r else false)>>=λt44=>(if t44 then y else some false)>>=λj=>some (bif t44 then j else false)>>=λt51=>(if t51 then z else some false)>>=λk=>some (bif t51 then k else false)) a b:=by
 obtain⟨c,e,m⟩:=I;obtain⟨d,f,n⟩:=ag;obtain⟨l,i,o⟩:=g;subst e;subst f;subst i;refine⟨bj&&c&&d&&l,?_,?_⟩
 . cases bj<;>cases c<;>cases d<;>rfl
 grind[L']
theorem Qv{b:aa}:(bif bif bif bif decide (a.Kind=b.Kind)then gr a.b9 b.b9 else false then decide (a.bw=b.bw)else false then decide (a.bH=b.bH)else false then decide (a.ah=b.ah)else false)=true↔a.Kind=b.Kind/\a.b9=b.b9/\a.bw=b.bw/\a.bH=b.bH/\a.ah=b.ah:=by
 grind[gr]
theorem Lf(h:cf a):∀b,eR (lR (a,b)) a b:=by
 induction h with
 |mk a hs h1 c d i g j cI k l m f e=>
  intro b;rw[lR];exact three Qv (OO d) (Oi h1 f) (Oi c e)
theorem IC(h:cf a):∀b,eR (mG (a,b)) a b:=by
 induction h with
 |mk a hs h1 c d i g j cI k l m f e=>
  intro b;rw[mG];exact three Qv (OO d) (Oj h1 f) (Oj c e)
theorem ac5(h:cf a):∀b,eR (qw (a,b)) a b:=by
 induction h with
 |mk a hs h1 c e p o q cI u v w l k=>
  intro b;rw[qw];by_cases bj:a.Kind=b.Kind/\a.b9=b.b9/\a.bw=b.bw/\a.bH=b.bH/\a.ah=b.ah/\a.Rest.length=b.Rest.length
  . obtain⟨aC,n,dw,h8,iv,ja⟩:=bj;rw[ao (by grind[gr])];have r:=gq e;have d:=scan (λi=>oX ((i:Int),a,b)) a.Rest.length (λi=>eh (a.Rest.getD i ec).ah (b.Rest.getD i ec).ah&&(kv (a.Rest.getD i ec).Data (b.Rest.getD i ec).Data&&true)) (.inl false) (.inr (a,b))
     (λi f=>by
      rw[oX,ad (bu f)];simp only[bg,ay,bx,aa.bO];rw[ad (hY),cg]
      grind)
     (by rw[oX,c2,aa.bO,aa.bO])
    have h0:oX (((0:Nat):Int),a,b)=oX (0,a,b):=rfl;simp only[h0]at d;rw[JE,JE];have ai:∀(i:Nat) (h1:i<a.Rest.length) (c:i<b.Rest.length),(eh (a.Rest.getD i ec).ah (b.Rest.getD i ec).ah&&(kv (a.Rest.getD i ec).Data (b.Rest.getD i ec).Data&&true))=true↔a.Rest[i]=b.Rest[i]:=λi h1 c=>by grind[ey,ON]
    rcases d with⟨g1,g2⟩|⟨g1,j,g2,g3⟩
    . have s:=(Dz ja ai).1 g2;rw[g1];obtain⟨oo,k1,k2⟩:=Nw (a:=a.aJ) (b:=b.aJ) h1 l;obtain⟨m,g,t⟩:=Nw (a:=a.aq) (b:=b.aq) c k;simp only[bg,ay];rw[k1,g];refine⟨oo&&m,by cases oo<;>rfl,?_⟩;simp_all[L',cK]
    . rw[g1];refine⟨false,rfl,?_⟩;grind
  . rw[ad]
    . refine⟨false,rfl,?_⟩;grind
    . simp only[GM,gr];grind
def pD(c:Int):Bool:=decide (c=95\/(97<=c/\c<=122)\/(65<=c/\c<=90))
def z'(c:Int):Bool:=decide (48<=c/\c<=57)
theorem EE(c:Int):yf c=some (pD c):=by
 rw[yf];unfold pD;grind
theorem Ma(c:Int):CZ c=some (pD c):=by
 rw[CZ];unfold pD;grind
theorem aaK(c:Int):CR c=some (z' c):=by
 rw[CR];unfold z';grind
theorem aaL(c:Int):Ha c=some (z' c):=by
 rw[Ha];unfold z';grind
theorem M4{f:Type}(A B cN:Bool)(a b:Option f)(c:cN=true):
 (some A>>=λd=>some (!d)>>=λt26=>if(cN||(!t26)) then(if t26 then some B else some false)>>=λe=>if(bif t26 then(!e)else false) then a else b else none)=if(A||B) then b else a:=by
 subst c;cases A<;>cases B<;>rfl
theorem ac6(s:ar):∃r,lh s=some r/\Ry s=some r:=by
 rw[lh,Ry];simp only[bg,ay];by_cases d:s=[]\/24<s.length
 . have ht:(bif decide (s=[])then true else decide (24<(s.length:Int)))=true:=(by grind);rw[ht];simp_all
 . have f:s≠[]:=λh=>d (.inl h);have m:s.length<=24:=(by omega);have ht:(bif decide (s=[])then true else decide (24<(s.length:Int)))=false:=(by grind);have g:0<s.length:=tQ.2 f;have e:aQ 0 s.length=true:=bu (k:=0) g;simp only[ht,e,wF,cm,gg,ay,EE,Ma,jg];cases ae:pD (h4 s 0)with
   |false=>exact⟨false,rfl,rfl⟩
   |true=>
    rw[c2,c2];let p:Nat->Bool:=λi=>pD (h4 s i)||z' (h4 s i);have s1:=scan (λi=>lN (s,(s.length:Int),(i:Int))) s.length p (.inl false) (.inr ())
     (λi a=>by
      rw[lN,dc,ad (bu a),EE,aaK,cg]
      exact M4 _ _ _ _ _ (bu a))
     (by rw[lN,c2])
    have b:=scan (λi=>tb (s,(i:Int))) s.length p (.inl false) (.inr ())
     (λi a=>by
      rw[tb,dc,ad (bu a),Ma,aaL,cg]
      exact M4 _ _ _ _ _ (bu a))
     (by rw[tb,c2])
    have aC:lN (s,(s.length:Int),((0:Nat):Int))=lN (s,(s.length:Int),0):=rfl;have c:tb (s,((0:Nat):Int))=tb (s,0):=rfl;simp only[aC,c]at s1 b;rcases s1 with⟨a1,a2⟩|⟨a1,j,a2,a3⟩<;>rcases b with⟨b1,b2⟩|⟨b1,k,b2,l⟩
    . simp_all
    . grind
    . grind
    simp_all
def nm(s:ar):Bool:=(lh s).getD false
theorem Cp(s:ar):lh s=some (nm s):=by
 obtain⟨r,h1,_⟩:=ac6 s;unfold nm;rw[h1];rfl
def pJ(l:au)(names:List ar)(i:Nat):Bool:=
 decide (1<=l.getD i 0)&&decide (l.getD i 0<=1000)&&(decide (i=0)||decide (l.getD (i-1) 0<l.getD i 0))&&nm (names.getD i []) && !((names.take i).contains (names.getD i []))
def lB(l:List ar):List ar:=l.foldl iH []
theorem aaM(ks:List ar)(a s:ar):gu (iH ks a) s=(gu ks s||decide (a=s)):=by
 unfold iH;split
 . grind
 . simp[gu,List.any_append]
theorem Lg(l:List ar)(s:ar):gu (lB l) s=l.contains s:=by
 have key:∀(l:List ar) (ks:List ar),gu (l.foldl iH ks) s=(gu ks s||l.contains s):=by
  intro l;induction l with
  |nil=>intro ks;simp
  |cons a r ih=>
   intro ks;rw[rz,ih,aaM,Bool.or_assoc];grind
 have:=key l [];simpa[lB,gu]using this
theorem Lh{l:List ar}{i:Nat}(h:i<l.length):iH (lB (l.take i)) (l.getD i [])=lB (l.take (i+1)):=by
 unfold lB;rw[GK,List.foldl_append,eC h,ey h];rfl
theorem ac7{g:Type}(A a b C cN H N:Bool)(c d:Option g)(e:cN=true)(f:a=true->b=true):
 (if(b||(!((!A)&&a))) then
  some (bif A then true else bif a then C else false)>>=λt34=>
  if(cN||(!(!t34))) then
   some (bif t34 then true else H)>>=λt42=>
   if(cN||(!(!t42))) then
    (if !t42 then some N else some false)>>=λr=>
    if(bif t42 then true else(!r)) then c else(if cN then d else none)
   else none
  else none
 else none)=if !A&&(!a || !C)&&N && !H then d else c:=by
 subst e;cases a with
 |true=>have:=f rfl;subst this;cases A<;>cases C<;>cases H<;>cases N<;>rfl
 |false=>cases A<;>cases b<;>cases C<;>cases H<;>cases N<;>rfl
theorem OP{l:au}{names:List ar}(ae:l.length<=reachBytes)(aN:names.length=l.length):∃r,yG (l,names)=some r/\(r=true↔(∀i,i<l.length->pJ l names i=true)/\l.length<=16):=by
 rw[yG];have m:=gq ae;have b:=scan (λi=>o' (l,names,l,(l.length:Int),(i:Int),lB (names.take i))) l.length (pJ l names) (.inl false) (.inr l)
  (λi d=>by
   have a:i<names.length:=(by omega);rw[o',dc,ad (bu d)];simp only[bx];rw[Cp,cg,Lh a,Lg];have f:0<i->dY .i64 (i:Int) 1=((i-1:Nat):Int):=by intro h;rw[kY];omega
   refine(ac7 (bif decide (l.getD i 0<1)then true else decide (1000<l.getD i 0)) (decide ((0:Int)<(i:Int))) (aQ (dY .i64 (i:Int) 1) l.length) (decide (l.getD i 0<=l.getD (dY .i64 (i:Int) 1).toNat 0)) (aQ (i:Int) names.length) ((names.take i).contains (names.getD i [])) (nm (names.getD i [])) _ _ (bu a) (λg=>?_)).trans ?_
   . have e:0<i:=by simp at g;omega
     rw[f e];exact hY
   . have:(!(bif decide (l.getD i 0<1)then true else decide (1000<l.getD i 0))&&(!(decide ((0:Int)<(i:Int))) || !(decide (l.getD i 0<=l.getD (dY .i64 (i:Int) 1).toNat 0)))&&nm (names.getD i []) && !((names.take i).contains (names.getD i [])))=pJ l names i:=by
      unfold pJ;grind
     rw[this])
  (by rw[o',c2])
 have ds:o' (l,names,l,(l.length:Int),((0:Nat):Int),lB (names.take 0))=o' (l,names,l,(l.length:Int),0,[]):=rfl;simp only[ds]at b;rcases b with⟨h1,c⟩|⟨h1,j,c,k⟩
 . rw[h1];refine⟨decide ((l.length:Int)<=16),rfl,?_⟩;grind
 . rw[h1];refine⟨false,rfl,?_⟩;grind
theorem EH{k n:Nat}(a:k<=16)(h:n*24<=reachBytes:=by simp;omega):room k n=true:=by
 unfold room gJ c1;unfold reachBytes at h;simp only[cK,e9];have:(2*n+192)*k<=(2*n+192)*16:=Nat.mul_le_mul_left _ a;omega
theorem yM(l:List α)(i:Nat)(d:α)(h:i<l.length):l.take i++[l.getD i d]=l.take (i+1):=by simp_all
theorem sw{a:Type}(f:α->a)(l:List α)(i:Nat)(d:α)(e:a)(h:i<l.length):(l.map f).getD i e=f (l.getD i d):=by grind
theorem SX{l:List ar}{i:Nat}{s:ar}(b:i<=l.length):(l.take i).contains s=true↔∃k,k<i/\l.getD k []=s:=by
 rw[List.contains_iff_mem];constructor
 . intro h;obtain⟨k,a,he⟩:=gQ h;rw[ry]at a;refine⟨k,by omega,?_⟩;grind
 . rintro ⟨k,a,he⟩
   rw[<-he,ey (by omega)];have:(l.take i)[k]'(by rw[ry];omega)=l[k]:=List.getElem_take;grind
theorem Li(l:List dO)(ae:l.length*24<=reachBytes):∀(k i:Nat),i+k=l.length->q5 (l,l,(l.length:Int),(i:Int),(l.map (·.ah)).take i,(l.map (·.Name)).take i)=some (l,l.map (·.ah),l.map (·.Name))
 |0,i,h=>by
  have:i=l.length:=by omega
  subst this;rw[q5,c2];rw[tP (by simp),tP (by simp)]
 |k+1,i,h=>by
  have b:l.length<9223372036854775807:=by unfold reachBytes at ae;omega
  have a:i<l.length:=by omega
  rw[q5,dc,ad (bu a)];simp only[bg,ay,bx];rw[<-sw (·.ah) l i fE 0 a,<-sw (·.Name) l i fE [] a,yM _ _ _ (by simpa using a),yM _ _ _ (by simpa using a)];rw[ad (EH (by omega)),ad (EH (by omega)),cg];exact Li l ae k (i+1) (by omega)
theorem ac8{l:List dO}(ae:l.length*24<=reachBytes):∃r,yg l=some r/\(r=true↔0<l.length/\(∀i,i<l.length->pJ (l.map (·.ah)) (l.map (·.Name)) i=true)/\l.length<=16):=by
 have h:=Li l ae l.length 0 (by omega);have a:q5 (l,l,(l.length:Int),0,[],[])=some (l,l.map (·.ah),l.map (·.Name)):=h;rw[yg,a];simp only[bg,ay];obtain⟨r,h1,b⟩:=OP (l:=l.map (·.ah)) (names:=l.map (·.Name)) (by simp;unfold reachBytes at*;omega) (by simp);rw[jH]at b;grind
structure iY (t:aj):Prop where
 syms:t.bo.length*24<=reachBytes
 og:t.af.length*24<=reachBytes
 oR:∀m,m∈t.af->cf m.bU
theorem mS{n:Nat}(h:n*24<=reachBytes):n<=reachBytes:=by unfold reachBytes at*;omega
theorem Zi{a b:aU}:a=b↔a.ah=b.ah/\a.Name=b.Name/\a.aB=b.aB/\a.cu=b.cu/\a.b8=b.b8/\a.bU=b.bU:=by cases a;cases b;simp
theorem mH(x:aU):(⟨x.ah,x.Name,x.aB,x.cu,x.b8,aa.eta x.bU⟩:aU)=x:=by cases x;simp[aa.bO]
theorem afp{a b:aU}:(bif bif bif bif decide (a.ah=b.ah)then decide (a.Name=b.Name)else false then decide (a.aB=b.aB)else false then gr a.cu b.cu else false then gr a.b8 b.b8 else false)=true↔a.ah=b.ah/\a.Name=b.Name/\a.aB=b.aB/\a.cu=b.cu/\a.b8=b.b8:=by
 simp only[GM,gr];grind
theorem ahk{a b:aU}{q:Bool}(f:q=true↔a.ah=b.ah/\a.Name=b.Name/\a.aB=b.aB/\a.cu=b.cu/\a.b8=b.b8)(I:eR x a.bU b.bU):
 eR (some q>>=λt37=>(if t37 then x else some false)>>=λr=>some (bif t37 then r else false)) a b:=by
 obtain⟨d,h1,e⟩:=I;subst h1;refine⟨q&&d,by cases q<;>cases d<;>rfl,?_⟩;rw[Zi,cK,f,e];constructor
 . rintro ⟨⟨a1,a2,a3,a4,a5⟩,c⟩;exact⟨a1,a2,a3,a4,a5,c⟩
 . rintro ⟨a1,a2,a3,a4,a5,c⟩;exact⟨⟨a1,a2,a3,a4,a5⟩,c⟩
theorem aae{a:aU}(h:cf a.bU)(b:aU):eR (ye (a,b)) a b:=by
 rw[ye];simp only[JE,aa.bO];exact ahk afp (IC h _)
theorem YY{l:Type}{g:l}{a b:List aU}(ae:a.length=b.length)(ih:∀x,x∈a->∀y,eR (f (x,y)) x y)(L:Nat->Option (Bool ⊕ l))
 (p:∀i,i<a.length->L i=(f (a.getD i aG,b.getD i aG)>>=λr=>if !r then some (.inl false)else L (i+1)))
 (m:L a.length=some (.inr g)):(L 0=some (.inr g)/\a=b)\/(L 0=some (.inl false)/\a≠b):=by
 have k:∀(i:Nat) (h1:i<a.length) (c:i<b.length),eR (f (a.getD i aG,b.getD i aG)) a[i] b[i]:=by grind
 have ai:∀(i:Nat) (h1:i<a.length) (c:i<b.length),(f (a.getD i aG,b.getD i aG)).getD false=true↔a[i]=b[i]:=by
  intro i h1 c;obtain⟨r,d,o⟩:=k i h1 c;grind
 have:=scan L a.length (λi=>(f (a.getD i aG,b.getD i aG)).getD false) (.inl false) (.inr g)
  (λi n=>by
   obtain⟨r,h1,c⟩:=k i n (by omega)
   grind) m
 rcases this with⟨h1,c⟩|⟨h1,j,c,d⟩
 . exact .inl ⟨h1,(Dz ae ai).1 c⟩
 . refine .inr ⟨h1,λe=>?_⟩;have:=(Dz ae ai).2 e j c;rw[d]at this;cases this
theorem Xs{a b:List aU}(d:a.length<=reachBytes)(e:∀m,m∈a->cf m.bU):eR (Df (a,b)) a b:=by
 rw[Df];by_cases ae:a.length=b.length
 . rw[ev];have k:=gq d;have hs:=YY (g:=()) ae (f:=ye) (λx I y=>aae (e x I) y) (λi=>pg (b,a,(a.length:Int),(i:Int)))
    (λi j=>by
     rw[pg,dc,ad (bu j)];simp only[bg,ay,bx,mH]
     rw[ad (hY),cg])
    (by rw[pg,c2])
   have ds:pg (b,a,(a.length:Int),((0:Nat):Int))=pg (b,a,(a.length:Int),0):=rfl;simp only[ds]at hs;rcases hs with⟨h1,c⟩|⟨h1,c⟩
   . rw[h1];exact⟨true,rfl,by simp[c]⟩
   . rw[h1];exact⟨false,rfl,by simp[c]⟩
 . rw[dc];exact vK ae
theorem aaN{a b:aj}:a=b↔a.Kind=b.Kind/\a.Name=b.Name/\a.bT=b.bT/\a.bW=b.bW/\a.Max=b.Max/\a.Key=b.Key/\a.aK=b.aK/\a.Open=b.Open/\a.bo=b.bo/\a.af=b.af:=by
 cases a;cases b;grind
theorem adD{a b:aj}:(bif bif bif bif bif bif bif decide (a.Kind=b.Kind)then decide (a.Name=b.Name)else false then decide (a.bT=b.bT)else false then decide (a.bW=b.bW)else false then decide (a.Max=b.Max)else false then decide (a.Key=b.Key)else false then decide (a.aK=b.aK)else false then gr a.Open b.Open else false)=true↔
 a.Kind=b.Kind/\a.Name=b.Name/\a.bT=b.bT/\a.bW=b.bW/\a.Max=b.Max/\a.Key=b.Key/\a.aK=b.aK/\a.Open=b.Open:=by
 simp only[GM,gr];by_cases h1:a.Kind=b.Kind<;>by_cases c:a.Name=b.Name<;>by_cases d:a.bT=b.bT<;>by_cases e:a.bW=b.bW<;>simp[h1,c,d,e];by_cases bj:a.Max=b.Max<;>by_cases f:a.Key=b.Key<;>by_cases g:a.aK=b.aK<;>simp[bj,f,g]
theorem pE{a:aj}(h:iY a)(b:aj):eR (hO (a,b)) a b:=by
 rw[hO];obtain⟨d,s1,g⟩:=adC (a:=a.bo) (b:=b.bo) (mS h.syms);obtain⟨c,e,f⟩:=Xs (a:=a.af) (b:=b.af) (mS h.og) h.oR;have e8:=adD (a:=a) (b:=b);generalize (bif bif bif bif bif bif bif decide (a.Kind=b.Kind)then decide (a.Name=b.Name)else false then decide (a.bT=b.bT)else false then decide (a.bW=b.bW)else false then decide (a.Max=b.Max)else false then decide (a.Key=b.Key)else false then decide (a.aK=b.aK)else false then gr a.Open b.Open else false)=q at e8⊢;simp only[bg,ay];rw[s1,e];refine⟨q&&d&&c,by cases q<;>cases d<;>cases c<;>rfl,?_⟩;rw[aaN,cK,cK,e8,g,f];grind
theorem M5(a:aj):(⟨a.Kind,a.Name,a.bT,a.bW,a.Max,a.bo,a.af,a.Key,a.aK,a.Open⟩:aj)=a:=by cases a;rfl
def wo(v:aa):Bool:=(mG (v,aH)).getD false
theorem ac9(h:cf v):mG (v,aH)=some (wo v):=by
 obtain⟨r,h1,a⟩:=IC h aH;unfold wo;rw[h1];rfl
theorem aaO(h:cf v):D2 v=some (wo v):=by
 rw[D2,aa.bO];have:=ac9 h;unfold aH at this;grind
def uD(a:Bool)(m:aU):Bool:=(a&&(m.cu||m.b8))||(m.cu&&m.b8)||(!m.b8 && !wo m.bU)
theorem br{l:List α}{i:Nat}(h:i<l.length)(d:α):l.getD i d∈l:=by grind
theorem Zj(h:iY t):∃r,vn t=some r/\(r=true↔(∀i,i<t.af.length->uD (decide (t.Kind=6)) (t.af.getD i aG)=false)/\(t.Kind=5\/0<t.af.length)/\(∀i,i<t.af.length->pJ (t.af.map (·.ah)) (t.af.map (·.Name)) i=true)/\t.af.length<=16):=by
 have g:t.af.length<9223372036854775807:=gq (mS h.og);have b:=scan (λi=>o6 (t.af,(t.af.length:Int),(i:Int),t,(t.af.map (·.ah)).take i,(t.af.map (·.Name)).take i)) t.af.length (λi=>!(uD (decide (t.Kind=6)) (t.af.getD i aG))) (.inl false) (.inr (t,t.af.map (·.ah),t.af.map (·.Name)))
  (λi a=>by
   have f:=aaO (h.oR _ (br a aG));rw[o6,dc,ad (bu a)];simp only[bg,ay,bx,aa.bO];rw[<-sw (·.ah) t.af i aG 0 a,<-sw (·.Name) t.af i aG [] a,yM _ _ _ (by simpa using a),yM _ _ _ (by simpa using a)];have d:((t.af.map (·.ah)).take (i+1)).length*24<=reachBytes:=by
    refine fQ (eM _ ?_) h.og;simp;omega
   have e:((t.af.map (·.Name)).take (i+1)).length*24<=reachBytes:=(by grind);rw[ad (EH (by omega) d),ad (EH (by omega) e),cg,f];unfold uD
   grind)
  (by
   rw[o6,c2]
   rw[tP (by simp),tP (by simp)])
 have ds:o6 (t.af,(t.af.length:Int),((0:Nat):Int),t,(t.af.map (·.ah)).take 0,(t.af.map (·.Name)).take 0)=o6 (t.af,(t.af.length:Int),0,t,[],[]):=rfl;simp only[ds]at b;rw[vn];obtain⟨r,h1,c⟩:=OP (l:=t.af.map (·.ah)) (names:=t.af.map (·.Name)) (by simpa using mS h.og) (by simp);rw[jH]at c;rcases b with⟨g1,g2⟩|⟨g1,j,g2,g3⟩
 . rw[g1];simp only[bg,ay];rw[h1];refine⟨(bif decide (t.Kind=5)then true else decide (0<((t.af.map (·.ah)).length:Int)))&&r,?_,?_⟩
   . grind
   grind
 grind
theorem iY.plain{k l h m kk e:Int}{n:ar}{S:List dO}{a:List aU}{o:Bool}(aA:S.length*24<=reachBytes)(c:a.length*24<=reachBytes)(f:∀x,x∈a->cf x.bU):iY ⟨k,n,l,h,m,S,a,kk,e,o⟩:=⟨aA,c,f⟩
def fI(t:aj):au:=t.af.map (·.aB)++(if t.Kind=8 then[t.Key]else[])++(if 7<=t.Kind then[t.aK]else[])
theorem Ko{k n:Nat}(a:k<=16){m:Nat}(h:m*24<=reachBytes)(aN:n<=m+2):room k n=true:=by
 unfold room gJ c1;unfold reachBytes at h;simp;have:(2*n+192)*k<=(2*n+192)*16:=Nat.mul_le_mul_left _ a;omega
theorem Lj(t:aj)(h:t.af.length*24<=reachBytes):∀(k i:Nat),i+k=t.af.length->sF (t.af,(t.af.length:Int),(i:Int),t,(t.af.map (·.aB)).take i)=some (t,t.af.map (·.aB))
 |0,i,a=>by grind[sF,List.take_of_length_le]
 |k+1,i,a=>by
  have b:=gq (mS h);have aE:i<t.af.length:=by omega
  rw[sF,ad (by grind),ad (bu aE)];simp only[bg,ay,bx];rw[<-sw (·.aB) _ i _ 0 aE,yM _ _ _ (by grind),cg,ad (Ko (by simp) h (by grind))];exact Lj t h k _ (by omega)
theorem ac'(h:t.af.length*24<=reachBytes):Dt t=some (fI t):=by
 have h0:=Lj t h t.af.length 0 (by simp);rw[Dt];unfold fI;have a:room 8 (t.af.map (·.aB)++[t.Key]).length=true:=Ko (by simp) h (by simp);have b:room 8 (t.af.map (·.aB)++[t.Key]++[t.aK]).length=true:=Ko (m:=t.af.length) (by simp) h (by simp);grind
def zV(n:Nat)(u:Int):Bool:=bif decide (u<0)then true else decide ((n:Int)<=u)
theorem aaP(L:Nat->Option c)(l:au)(q:Int->Bool)(a b:c)(f:∀i,i<l.length->L i=if q (l.getD i 0)then some a else L (i+1))(d:L l.length=some b):
 L 0=some (if l.any q then a else b):=by
 have:=scan L l.length (λi=>!(q (l.getD i 0))) a _ (λi e=>by grind) d;grind[List.getElem_of_mem]
theorem aaf(h:t.af.length*24<=reachBytes):(fI t).length<9223372036854775807:=by
 grind[fI,reachBytes]
theorem adE{ts:List aj}(b:(fI t).any (zV ts.length)=false)(a:t.Kind=8):aQ t.Key ts.length=true:=by
 grind[fI,zV,aQ]
theorem vB{d:Type}(L:Nat->Option d)(n:Nat)(q:Nat->Bool)(a:Nat->d)(c:d)(g:∀i,i<n->L i=if q i then some (a i)else L (i+1))(e:L n=some c):
 (∃j,j<n/\q j=true/\(∀k,k<j->q k=false)/\L 0=some (a j))\/((∀k,k<n->q k=false)/\L 0=some c):=by
 have key:∀k i,i+k=n->(∀m,m<i->q m=false)->L 0=L i->(∃j,j<n/\q j=true/\(∀k,k<j->q k=false)/\L 0=some (a j))\/((∀k,k<n->q k=false)/\L 0=some c):=by
  intro k;induction k with
  |zero=> intro i f b h0; have:i = n:= by omega
          subst this;exact .inr ⟨b,by rw[h0,e]⟩
  |succ k ih=>
   intro i f b h0;rw[g i (by omega)]at h0;grind
 exact key n 0 (by omega) (λm b=>by omega) rfl
def tH(l:List aU)(id:Int)(r:Int×Bool):Prop:=(∃j:Nat,j<l.length/\(l.getD j aG).ah=id/\(∀k,k<j->(l.getD k aG).ah≠id)/\r=((j:Int),true))\/((∀k,k<l.length->(l.getD k aG).ah≠id)/\r=(0,false))
theorem T8{l:List aU}{r:Int×Bool}(h1:tH l id r)(a:tH l id q):r=q:=by
 rcases h1 with⟨j,a1,a2,a3,rfl⟩|⟨a1,rfl⟩<;>rcases a with⟨k,b1,b2,b,rfl⟩|⟨b1,rfl⟩
 . grind
 . grind
 . grind
 . rfl
theorem rf(ae:t.af.length<9223372036854775807):∃r,gH (t,id)=some r/\tH t.af id r:=by
 rw[gH,He];have h:=vB (λi=>oU (t.af,(t.af.length:Int),(i:Int),id)) t.af.length (λi=>decide ((t.af.getD i aG).ah=id)) (λi=>.inl ((i:Int),id)) (.inr id)
  (λi e=>by
   rw[oU,dc,ad (bu e)];simp only[bg,ay,bx,mH,HX]
   rw[cg])
  (by rw[oU,c2])
 have ds:oU (t.af,(t.af.length:Int),((0:Nat):Int),id)=oU (t.af,(t.af.length:Int),0,id):=rfl;simp only[ds]at h;rcases h with⟨j,h1,c,d,a⟩|⟨h1,a⟩
 . rw[a];refine⟨((j:Int),true),?_,.inl ⟨j,h1,by simpa using c,λk b=>by simpa using d k b,rfl⟩⟩;have aC:l7 (j:Int) 0=(j:Int):=by unfold l7;omega
   simp_all
 . rw[a];exact⟨(0,false),rfl,.inr ⟨λk b=>by simpa using h1 k b,rfl⟩⟩
theorem WG(ae:t.af.length<9223372036854775807):∃r,x8 (t,id)=some r/\tH t.af id r:=by
 rw[x8];have h:=vB (λi=>o2 (id,(i:Int),t)) t.af.length (λi=>decide ((t.af.getD i aG).ah=id)) (λi=>.inl ((i:Int),true)) (.inr ())
  (λi e=>by
   rw[o2,dc,ad (bu e),cg]
   grind)
  (by rw[o2,c2])
 have ds:o2 (id,((0:Nat):Int),t)=o2 (id,0,t):=rfl;simp only[ds]at h;rcases h with⟨j,h1,c,d,a⟩|⟨h1,a⟩
 . rw[a];exact⟨((j:Int),true),rfl,.inl ⟨j,h1,by simpa using c,λk b=>by simpa using d k b,rfl⟩⟩
 . rw[a];exact⟨(0,false),rfl,.inr ⟨λk b=>by simpa using h1 k b,rfl⟩⟩
theorem T9(id:Int)(ae:t.af.length<9223372036854775807):∃r,gH (t,id)=some r/\x8 (t,id)=some r/\tH t.af id r:=by
 obtain⟨r,h1,a⟩:=rf (id:=id) ae;obtain⟨q,c,b⟩:=WG (id:=id) ae;have:=T8 a b;grind
def wq(l:List dO)(id:Int)(r:Int×Bool):Prop:=(∃j:Nat,j<l.length/\(l.getD j fE).ah=id/\(∀k,k<j->(l.getD k fE).ah≠id)/\r=((j:Int),true))\/((∀k,k<l.length->(l.getD k fE).ah≠id)/\r=(0,false))
theorem Ym{l:List dO}{r:Int×Bool}(h1:wq l id r)(a:wq l id q):r=q:=by
 rcases h1 with⟨j,a1,a2,a3,rfl⟩|⟨a1,rfl⟩<;>rcases a with⟨k,b1,b2,b,rfl⟩|⟨b1,rfl⟩
 . grind
 . grind
 . grind
 . rfl
theorem v'(id:Int)(ae:t.bo.length<9223372036854775807):∃r,pa (t,id)=some r/\CY (t,id)=some r/\wq t.bo id r:=by
 rw[pa,Hd,CY];have h:=vB (λi=>nC (t.bo,(t.bo.length:Int),(i:Int),id)) t.bo.length (λi=>decide ((t.bo.getD i fE).ah=id)) (λi=>.inl ((i:Int),id)) (.inr id)
  (λi f=>by
   rw[nC,dc,ad (bu f)];simp only[bg,ay,bx,HV]
   rw[cg])
  (by rw[nC,c2])
 have ds:nC (t.bo,(t.bo.length:Int),((0:Nat):Int),id)=nC (t.bo,(t.bo.length:Int),0,id):=rfl;have g:=vB (λi=>nG (id,(i:Int),t)) t.bo.length (λi=>decide ((t.bo.getD i fE).ah=id)) (λi=>.inl ((i:Int),true)) (.inr ())
  (λi f=>by
   rw[nG,dc,ad (bu f),cg]
   grind)
  (by rw[nG,c2])
 have m:nG (id,((0:Nat):Int),t)=nG (id,0,t):=rfl;simp only[ds]at h;simp only[m]at g;have n:∃r,(nC (t.bo,(t.bo.length:Int),0,id)>>=λo=>match o with|.inl c=>some (c.1,c.2)|.inr l=>some ((-1),l))>>=(λr=>some (l7 r.1 0,decide (0<=r.1)))=some r/\wq t.bo id r:=by
  rcases h with⟨j,h1,d,e,a⟩|⟨h1,a⟩
  . rw[a];refine⟨((j:Int),true),?_,.inl ⟨j,h1,by simpa using d,λk b=>by simpa using e k b,rfl⟩⟩;have aC:l7 (j:Int) 0=(j:Int):=by unfold l7;omega
    simp_all
  . rw[a];exact⟨(0,false),rfl,.inr ⟨λk b=>by simpa using h1 k b,rfl⟩⟩
 have c9:∃r,(nG (id,0,t)>>=λo=>match o with|.inl c=>some (c.1,c.2)|.inr l=>some (0,false))=some r/\wq t.bo id r:=by
  rcases g with⟨j,h1,d,e,a⟩|⟨h1,a⟩
  . rw[a];exact⟨((j:Int),true),rfl,.inl ⟨j,h1,by simpa using d,λk b=>by simpa using e k b,rfl⟩⟩
  . rw[a];exact⟨(0,false),rfl,.inr ⟨λk b=>by simpa using h1 k b,rfl⟩⟩
 obtain⟨r,a1,a2⟩:=n;obtain⟨q,b1,b2⟩:=c9;have:=Ym a2 b2;grind
def gA(n:Int):Int:=if 0<=n then 2*n else -2*n-1
theorem Nx{a b:Int}(h:gA a=gA b):a=b:=by
 unfold gA at h;split at h<;>split at h<;>omega
def cq(n:Int):Prop:= -9223372036854775808<=n/\n<=9223372036854775807
theorem wu{n:Int}(h:cq n):x9 n=some (gA n):=by
 obtain⟨h1,f⟩:=h;rw[x9];unfold gA;by_cases h0:0<=n
 . rw[ad (by simp[h0]),ad h0];obtain⟨k,rfl⟩:∃k:Nat,n=(k:Int):=⟨n.toNat,by omega⟩
   rw[j8];have:=Gv (a:=2) (b:=k) (by omega);grind
 . rw[ao (by simp[h0]),ao h0];rw[jX,kY];obtain⟨k,e⟩:∃k:Nat,0-(n+1)=(k:Int):=⟨(0-(n+1)).toNat,by omega⟩
   rw[e,j8];have c:=Gv (a:=2) (b:=k) (by omega);have d:ky .u64 2 (k:Int)=((2*k:Nat):Int):=c;rw[d];have g:=PJ (a:=2*k) (b:=1) (by omega);grind
theorem abX(a:Nat)(h:a<18446744073709551616):ud .u64 (a:Int) 0=(a:Int):=by
 have e:(BitVec.ofInt 64 (a:Int) ^^^ BitVec.ofInt 64 (0:Int)).toNat=a:=by grind
 show IntKind.u64.wrap (((BitVec.ofInt 64 (a:Int) ^^^ BitVec.ofInt 64 (0:Int)).toNat:Nat):Int)=_;rw[e];exact me (by omega) (by omega)
theorem abY(a:Nat)(h:a<18446744073709551616):ud .u64 (a:Int) 18446744073709551615=((18446744073709551615-a:Nat):Int):=by
 have e:(BitVec.ofInt 64 (a:Int) ^^^ BitVec.ofInt 64 (18446744073709551615:Int)).toNat=18446744073709551615-a:=by
  have h1:BitVec.ofInt 64 (18446744073709551615:Int)=BitVec.allOnes 64:=by decide
  rw[h1,wN,BitVec.xor_allOnes,BitVec.toNat_not,zx,Ia,rv h]
 all_goals (try omega)
 show IntKind.u64.wrap (((BitVec.ofInt 64 (a:Int) ^^^ BitVec.ofInt 64 (18446744073709551615:Int)).toNat:Nat):Int)=_;rw[e];exact me (by omega) (by omega)
theorem agD{n:Int}(h:cq n):lC .i64 n 63=if 0<=n then 0 else -1:=by
 obtain⟨h1,a⟩:=h;unfold lC;have e:((2:Int)^min (63:Int).toNat IntKind.i64.bits)=9223372036854775808:=by decide
 grind
theorem wv{n:Int}(h:cq n):vp n=some (gA n):=by
 rw[vp,agD h];obtain⟨h1,a⟩:=h;unfold gA;have hs:∀m:Int,ni .u64 m 1=IntKind.u64.wrap (m*2):=by
  intro m;unfold ni;rfl
 rw[hs]
 congr 1
 by_cases h0:0<=n
 . rw[ad h0,ad h0];obtain⟨k,rfl⟩:∃k:Nat,n=(k:Int):=⟨n.toNat,by omega⟩
   rw[j8,me (by omega) (by omega)];have:b7 .u64 0=0:=(by decide);rw[this];have:=abX (2*k) (by omega);grind
 . rw[ao h0,ao h0];have:b7 .u64 (-1)=18446744073709551615:=(by decide);rw[this];obtain⟨k,b⟩:∃k:Nat,n+9223372036854775808=(k:Int):=⟨(n+9223372036854775808).toNat,by omega⟩
   have e:IntKind.u64.wrap (b7 .u64 n*2)=((2*k:Nat):Int):=by
    unfold b7;rw[IntKind.wrap_u64,IntKind.wrap_u64];omega
   rw[e,abY _ (by omega)];omega
theorem PR(a b:Int):Du (a,b)=some (if a<b then -1 else if b<a then 1 else 0):=by
 rw[Du];simp only[ED,bg,ay,dB,ez,cJ,cE];grind
theorem AS(a b:Int):yV (a,b)=some (if a<b then -1 else if b<a then 1 else 0):=by
 rw[yV];simp only[Dv,bg,ay,dB,ez,cJ,cE];grind
theorem PS(a b:ar):CS (a,b)=some (if Op.bytesLess a b then -1 else if(Op.bytesLess a b||(a=b:Bool))then 0 else 1):=by
 rw[CS];simp only[Dw,bg,ay,dB,ez,cJ,cE];grind
theorem QW(a b:Int):Fc [a,b]=some (if a≠0 then a else b):=by
 rw[Fc];have h0:qP (0,[a,b],((2:Nat):Int),((0:Nat):Int))=if a≠0 then some (.inl a)else(if b≠0 then some (.inl b)else some (.inr 0)):=by
  rw[qP,ad (by decide),ad (show aQ ((0:Nat):Int) ([a,b]:au).length=true from bu (k:=0) (n:=2) (by omega))];simp only[bg,ay,bx,tR];by_cases c:a=0
  . rw[ao (by simp[c]),ao (by simp[c])];have aC:aT .i64 ((0:Nat):Int) 1=((1:Nat):Int):=cg;rw[aC,qP,ad (by decide),ad (show aQ ((1:Nat):Int) ([a,b]:au).length=true from bu (k:=1) (n:=2) (by omega))];simp only[bg,ay,bx,List.getD_cons_succ,tR];by_cases d:b=0
    . rw[ao (by simp[d]),ao (by simp[d])];have e:aT .i64 ((1:Nat):Int) 1=((2:Nat):Int):=cg;rw[e,qP,ao (by decide)]
    grind
  grind
 grind
theorem HH:∀a:ar,Op.bytesLess a a=false
 |[]=>rfl
 |x::r=>by
  simp[Op.bytesLess,HH r]
theorem IJ{b:aa}(c:cq a.bw)(d:cq b.bw):∃r,ri (a,b)=some r/\tc (a,b)=some r:=by
 rw[ri,tc];by_cases e:a.Kind=b.Kind
 . rw[ao (show ¬((!(decide (a.Kind=b.Kind)))=true) by simp[e]),ao (show ¬((!(decide (a.Kind=b.Kind)))=true) by simp[e])];by_cases k1:a.Kind=1
   . rw[ad (show decide (a.Kind=1)=true by simp[k1]),ad (show decide (a.Kind=1)=true by simp[k1])];simp only[kf];cases gr a.b9 b.b9<;>cases b.b9<;>exact⟨_,rfl,rfl⟩
   . rw[ao (show ¬(decide (a.Kind=1)=true) by simp[k1]),ao (show ¬(decide (a.Kind=1)=true) by simp[k1])];by_cases k2:a.Kind=2
     . rw[ad (show decide (a.Kind=2)=true by simp[k2]),ad (show decide (a.Kind=2)=true by simp[k2]),wv c,wv d,wu c,wu d];simp only[bg,ay,PR,kf];by_cases he:a.bw=b.bw
       . grind
       . have g:gA a.bw≠gA b.bw:=λh=>he (Nx h);grind
     . rw[ao (show ¬(decide (a.Kind=2)=true) by simp[k2]),ao (show ¬(decide (a.Kind=2)=true) by simp[k2])];by_cases k3:a.Kind=3
       . rw[ad (show decide (a.Kind=3)=true by simp[k3]),ad (show decide (a.Kind=3)=true by simp[k3])];simp only[bg,ay,AS,PS,QW,kf];by_cases ae:a.bH.length=b.bH.length
         . have f:¬((!(decide ((a.bH.length:Int)=(b.bH.length:Int))))=true):=by simp;omega
           rw[ao f,ae];have aC:¬((b.bH.length:Int)<(b.bH.length:Int)):=(by omega);simp only[aC,cE,ne_eq,not_true_eq_false];by_cases he:a.bH=b.bH
           . rw[he,HH];grind
           grind
         grind
       . rw[ao (show ¬(decide (a.Kind=3)=true) by simp[k3]),ao (show ¬(decide (a.Kind=3)=true) by simp[k3])];by_cases k4:a.Kind=4
         . rw[ad (show decide (a.Kind=4)=true by simp[k4]),ad (show decide (a.Kind=4)=true by simp[k4])];simp only[bg,ay,AS,kf];grind
         simp_all
 simp_all
def u'(k:Int):Prop:=1<=k/\k<=9
section
variable {ts:List aj}(aN:ts.length<9223372036854775807)(ee:∀t,t∈ts->iY t)(bM:∀t,t∈ts->u' t.Kind)
theorem abZ{l:Type}(gb f b:Bool)(a:Int)(e C:Int->Bool)(g i:Option l)(j:b=true->e a=true):
 ((if !gb then some f else some false)>>=λk=>some (bif gb then true else(!k))>>=λt131=>some b>>=λt134=>some a>>=λt141=>
  if(e t141||(!((!t131)&&t134))) then if(bif t131 then true else bif t134 then C t141 else false) then g else i else none)=if !gb&&f&&(!b || !(C a)) then i else g:=by
 simp only[bg,ay];generalize C a=c;cases b with
 |true=>rw[j rfl];cases gb<;>cases f<;>cases c<;>rfl
 |false=>generalize e a=d;cases gb<;>cases f<;>cases d<;>cases c<;>rfl
theorem JF{i:Nat}(h:0<i)(a:i<9223372036854775807:=by omega):dY .i64 (i:Int) 1=((i-1:Nat):Int):=by
 rw[kY];omega
end
theorem EA(h:cf v):cq v.bw:=by cases h with|mk _ _ _ _ _ _ _ _ cI a=>exact a
theorem k7{o:Option Bool}{r:Bool}(b:o=some r)(q:Bool):(some q>>=λt244=>(if t244 then o else some false)>>=λa=>some (bif t244 then a else false))=some (q&&r):=by grind
theorem vL{U:cF}{t:aD}{l:List (t.den U.D)}(h:WF U ⟨.slice t,l⟩):l.length<=reachBytes/\l.length*t.bytes U<=reachBytes/\∀x,x∈l->∀c,c∈t.row U x->WF U c:=by cases h with|slice t l h1 a b=>exact⟨h1,a,b⟩
theorem Lk(s:bq):(⟨s.Types⟩:bq)=s:=by cases s;rfl
def fk(n:Nat):ar:=if n=0 then[]else fk (n/256)++[UInt8.ofNat (n%256)]
termination_by n
decreasing_by omega
theorem M6:∀(l:List α) (k:Nat) (x:α),k<l.length->(l.set k x).drop k=x::l.drop (k+1)
 |[],k,x,h=>by simp at h
 |a::l,0,x,h=>by simp
 |a::l,k+1,x,h=>by simp[M6 l k x (by simpa using h)]
theorem agF(n:Nat):lC .u64 (n:Int) 8=((n/256:Nat):Int):=by
 unfold lC;have:((2:Int)^min (8:Int).toNat IntKind.u64.bits)=256:=by decide
 grind
theorem OQ:∀(i n:Nat) (b:au),n<256^i->i<=8->b.length=8->∃(c:Nat) (a:au),sI ((n:Int),(i:Int),b)=some ((c:Int),a)/\c<=8/\a.length=8/\strOf (a.drop c)=fk n++strOf (b.drop i)
 |i,n,b,aN,d,e=>by
  rw[sI];by_cases h0:n=0
  . subst h0;rw[c2];refine⟨i,b,rfl,d,e,?_⟩;rw[fk,ad rfl];rfl
  . rw[dc]
    match i,aN,d with
    |0,aN,d=>simp at aN;omega
    |i+1,aN,d=>
     have hs:dY .i64 ((i+1:Nat):Int) 1=(i:Int):=by rw[kY];omega
     simp only[bg,ay];rw[hs,ad (hY),ad (by simp[e];omega),agF,Ki,bx];have aE:n/256<256^i:=(by omega);obtain⟨c,a,h1,f,g,j⟩:=OQ i (n/256) (b.set i ((n%256:Nat):Int)) aE (by omega) (by simp[e]);refine⟨c,a,h1,f,g,?_⟩;rw[j,M6 _ _ _ (by omega),Zg]
     conv=>rhs;rw[fk,ao h0]
     grind
theorem EM{n:Nat}(aN:n<18446744073709551616):yH (n:Int)=some (fk n):=by
 have e:(256:Nat)^8=18446744073709551616:=by decide
 obtain⟨c,d,h1,k,a,g⟩:=OQ 8 n [0,0,0,0,0,0,0,0] (by rw[e];exact aN) (by omega) rfl;have f:sI ((n:Int),8,[0,0,0,0,0,0,0,0])=some ((c:Int),d):=h1;rw[yH,f];simp only[bg,ay,bx];have j:eH (c:Int) 8 8=true:=mU (b:=8) (by omega) (by omega);have i:(8:Int).toNat=8:=rfl;rw[ad j,i,ad (by simp[wX,a];omega)];rw[tP (by simp[a]),g];simp[strOf]
theorem vM:∀(f n:Nat),n<256^f->(fk n).length<=f
 |0,n,h=>by
  have:n=0:=by simpa using h
  subst this;rw[fk,ad rfl];simp
 |f+1,n,h=>by
  rw[fk];split
  . simp
  . have:=vM f (n/256) (by omega);simp;omega
end
section
open Go Go.Proofs.YtklfhpkljddjbaaGreatDoor.Shv Go.Sort
set_option maxRecDepth 100000
variable{α:Type}{v:aa}{ms:List aU}{id t code:Int}{P:Prop}{o:Option Bool}{L:Nat->Option (Bool ⊕ Unit)}{ts:List aj}{pl:Bool}{x:aj}
section
variable {α:Type}
theorem M7{c:Type}[Inhabited α][Inhabited c]{lt:α->α->Bool}{d:c->c->Bool}(g:α->c)(h:∀a b,d (g a) (g b)=lt a b):∀l,hl d (l.map g)=(hl lt l).map g
 |[]=>rfl
 |x::l=>by
  have key:∀r,oc d (g x) (r.map g)=(oc lt x r).map g:=by
   intro r;induction r with
   |nil=>rfl
   |cons y r ih=>
    grind[oc]
  simp[hl];rw[M7 g h l,key]
theorem Mb[Inhabited α]{lt:α->α->Bool}:∀{l:List α},l.Pairwise (λx y=>lt x y=true\/lt y x=true)->kp lt l=true
 |[],_=>rfl
 |x::l,h=>by
  rw[h9]at h;simp[kp];exact⟨h.1,Mb h.2⟩
end
mutual
def wt:aa->Nat
 |⟨_,_,_,s,_,ks,a,r⟩=>10+s.length+(r.map λx=>x.Data.length+1).sum+da ks+da a
def da:List aa->Nat
 |[]=>0
 |v::l=>wt v+da l
end
structure Fd where
 id:Nat
 c:Bool
 p:ar
instance:Inhabited Fd:=⟨⟨0,false,[]⟩⟩
def fx(a b:Fd):Bool:=decide (a.id<b.id)
def Fd.text(f:Fd):ar:=eS f.id f.c f.p
def gv:List ar->List ar->ar
 |k::ks,v::vs=>c8 k++(c8 v++gv ks vs)
 |_,_=>[]
def cD(l:List aU)(id:Int):Option aU:=l.find? λm=>decide (m.ah=id)
open Classical in
noncomputable def c6 (m:aU)(v:aa):Bool:=m.b8&&decide (m.bU=v)
def pS(r:cG):Fd:=⟨r.ah.toNat,false,r.Data⟩
mutual
noncomputable def bE (ts:List aj)(t:Int):aa->ar
 |⟨_,b,i,s,id,ks,a,r⟩=>
  let x:=ts.getD t.toNat aM
  if x.Kind=1 then(if b then[1]else[])
  else if x.Kind=2 then fk (gA i).toNat
  else if x.Kind=3 then s
  else if x.Kind=4 then fk id.toNat
  else if x.Kind=5 then(hl fx (df ts x.af a++r.map pS)).flatMap Fd.text
  else if x.Kind=6 then dL id.toNat++(match cD x.af id with
   |some m=>(bG ts m.aB a).headD []
   |none=>(r.map cG.Data).headD [])
  else if x.Kind=7 then(bG ts x.aK a).flatMap c8
  else if x.Kind=8 then gv (bG ts x.Key ks) (bG ts x.aK a)
  else match bG ts x.aK a with
   |[]=>[]
   |p::_=>1::p
noncomputable def bG (ts:List aj)(t:Int):List aa->List ar
 |[]=>[]
 |v::l=>bE ts t v::bG ts t l
noncomputable def df (ts:List aj):List aU->List aa->List Fd
 |m::ms,v::l=>if c6 m v then df ts ms l else⟨m.ah.toNat,m.cu,bE ts m.aB v⟩::df ts ms l
 |_,_=>[]
end
mutual
noncomputable def ej (ts:List aj)(t:Int):aa->Nat
 |⟨_,_,_,_,id,ks,a,_⟩=>
  let x:=ts.getD t.toNat aM
  1+max (if ks=[]then 0 else 1) (if x.Kind=5 then hV ts x.af a
   else if x.Kind=6 then(match cD x.af id with
    |some m=>eU ts m.aB a
    |none=>0)
   else eU ts x.aK a)
noncomputable def eU (ts:List aj)(t:Int):List aa->Nat
 |[]=>0
 |v::l=>max (ej ts t v) (eU ts t l)
noncomputable def hV (ts:List aj):List aU->List aa->Nat
 |m::ms,v::l=>if c6 m v then hV ts ms l else max (ej ts m.aB v) (hV ts ms l)
 |_,_=>0
end
def cC(n:Int):Prop:=1<=n/\n<=1000
def lp(ms:List aU)(r:List cG):Prop:=r.Pairwise (λa b=>a.ah<b.ah)/\∀x,x∈r->cC x.ah/\cD ms x.ah=none
def iE(a b:aa):Int:=(ri (a,b)).getD 0
def km(ks:List aa):Prop:=∀i,i+1<ks.length->iE (ks.getD i aH) (ks.getD (i+1) aH)<0
mutual
def cB(ts:List aj)(pl:Bool)(t:Int):aa->Prop
 |⟨k,b,i,s,id,ks,a,r⟩=>
  let x:=ts.getD t.toNat aM
  (0<=t/\t<ts.length/\k=x.Kind/\(pl=true->r=[]))/\
  (k=1/\i=0/\s=[]/\id=0/\ks=[]/\a=[]/\r=[]\/
  k=2/\b=false/\s=[]/\id=0/\ks=[]/\a=[]/\r=[]/\x.bT<=i/\i<=x.bW\/
  k=3/\b=false/\i=0/\id=0/\ks=[]/\a=[]/\r=[]/\(s.length:Int)<=x.Max\/
  k=4/\b=false/\i=0/\s=[]/\ks=[]/\a=[]/\r=[]/\((∃y,y∈x.bo/\y.ah=id)\/x.Open=true/\pl=false/\cC id)\/
  k=5/\b=false/\i=0/\s=[]/\id=0/\ks=[]/\lp x.af r/\iT ts pl x.af a\/
  k=6/\b=false/\i=0/\s=[]/\ks=[]/\(match cD x.af id with
   |some m=>r=[]/\a.length=1/\e1 ts pl m.aB a
   |none=>x.Open=true/\pl=false/\cC id/\a=[]/\∃d,r=[⟨id,d⟩])\/
  k=7/\b=false/\i=0/\s=[]/\id=0/\ks=[]/\r=[]/\(a.length:Int)<=x.Max/\e1 ts pl x.aK a\/
  k=8/\b=false/\i=0/\s=[]/\id=0/\r=[]/\(ks.length:Int)<=x.Max/\a.length=ks.length/\e1 ts pl x.Key ks/\e1 ts pl x.aK a/\km ks\/
  k=9/\b=false/\i=0/\s=[]/\id=0/\ks=[]/\r=[]/\a.length<=1/\e1 ts pl x.aK a)
def e1(ts:List aj)(pl:Bool)(t:Int):List aa->Prop
 |[]=>True
 |v::l=>cB ts pl t v/\e1 ts pl t l
def iT(ts:List aj)(pl:Bool):List aU->List aa->Prop
 |m::ms,v::l=>cB ts pl m.aB v/\iT ts pl ms l
 |[],[]=>True
 |_,_=>False
end
theorem gY(v:aa):wt v=10+v.bH.length+(v.Rest.map λx=>x.Data.length+1).sum+da v.aJ+da v.aq:=by cases v;rfl
theorem iM(v:aa)(l:List aa):da (v::l)=wt v+da l:=by rfl
theorem hC:da []=0:=by rfl
theorem gM:∀{l:List aa} {x:aa},x∈l->wt x<=da l
 |y::l,x,h=>by
  rw[iM];rcases dK.1 h with rfl|h
  . simp
  . have:=gM h;omega
theorem Ll{p:ar}(h:p.length<1152921504606846976):(c8 p).length<=p.length+10:=by
 grind[nW,c8]
theorem M8{f:Fd}(h:f.p.length<1152921504606846976)(a:f.id<=9223372036854775807):f.text.length<=f.p.length+20:=by
 grind[Ll,nW,Fd.text,eS]
theorem HI{c:Type}{f:α->List c}{a b:List α}(h:a.Perm b):(a.flatMap f).length=(b.flatMap f).length:=(h.flatMap_right f).length_eq
theorem Aa{n:Int}(h:cq n):(gA n).toNat<18446744073709551616:=by
 grind[gA,cq]
section
variable {ts:List aj}
def AH(ts:List aj)(v:aa):Prop:=∀t,(bE ts t v).length+20<=21*wt v
theorem JG:∀{l:List aa} {t:Int},da l<=1099511627776->(∀x,x∈l->AH ts x)->((bG ts t l).flatMap c8).length<=21*da l
 |[],t,_,_=>by grind[bG]
 |v::l,t,a,h=>by
  rw[bG];rw[iM]at a⊢;have h1:=h v (.head _) t;have b:=JG (t:=t) (by omega) λx I=>h x (.tail _ I);grind[Ll]
theorem hZ:∀{l:List aa} {t:Int},(bG ts t l).length=l.length
 |[],t=>by rfl
 |v::l,t=>by rw[bG,gS,gS,hZ]
theorem EF:∀{l:List aa} {t:Int},bG ts t l=l.map (bE ts t)
 |[],t=>by rfl
 |v::l,t=>by rw[bG,List.map,EF]
theorem D8:∀(a b:List ar),(gv a b).length<=(a.flatMap c8).length+(b.flatMap c8).length
 |[],b=>by simp[gv]
 |k::ks,[]=>by simp[gv]
 |k::ks,v::vs=>by
  have:=D8 ks vs;simp only[gv,hJ,dD];omega
theorem Mc:∀{ms:List aU} {l:List aa},da l<=1099511627776->(∀m,m∈ms->m.ah<=1000)->(∀x,x∈l->AH ts x)->((df ts ms l).flatMap Fd.text).length<=21*da l
 |[],l,_,_,_=>by grind[df]
 |m::ms,[],_,_,_=>by grind[df]
 |m::ms,v::l,b,a,h=>by
  rw[iM]at b⊢;rw[df];have h1:=h v (.head _) m.aB;have c:=Mc (by omega) (λx I=>a x (.tail _ I)) λx I=>h x (.tail _ I);grind[M8]
theorem M9:∀{l:List cG},(∀x,x∈l->x.Data.length<=reachBytes/\x.ah<=9223372036854775807)->True->((l.map pS).flatMap Fd.text).length<=21*(l.map λx=>x.Data.length+1).sum
 |[],_,_=>by simp
 |r::l,h,_=>by
  have h1:=h r (.head _);have b:=M9 (λx I=>h x (.tail _ I)) trivial;unfold reachBytes at h1;have a:=M8 (f:=pS r) (by show r.Data.length<_;omega) (by show r.ah.toNat<=_;omega);have c:(pS r).text.length<=r.Data.length+20:=a;grind
def PF(ts:List aj):Prop:=∀x,x∈ts->∀m,m∈x.af->m.ah<=1000
theorem Yn(l:List α)(i:Nat)(d:α):l.getD i d∈l\/l.getD i d=d:=by grind
theorem Md{l:List ar}{n:Nat}(h:∀x,x∈l->x.length<=n):(l.headD []).length<=n:=by
 cases l<;>grind
theorem Ny:∀{l:aY} {n:Nat},n∈l->n<=l.sum
 |a::l,n,h=>by
  rw[zC];rcases dK.1 h with rfl|h
  . simp
  . have:=Ny h;omega
theorem ab0(d:PF ts)(h:cf v):wt v<=1099511627776->AH ts v:=by
 induction h with
 |mk v hs h1 y z C B f cI l G n j g=>
  intro D t;have E:=gY v;have c:∀x,x∈v.aJ->AH ts x:=λx I=>j x I (by have:=gM I;omega);have a:=λx I=>g x I (by have:=gM I;omega);have u:=λt=>JG (t:=t) (by omega) c;have ux:=λt=>JG (t:=t) (by omega) a;have I:∀m,m∈(ts.getD t.toNat aM).af->m.ah<=1000:=by
   rcases Yn ts t.toNat aM with h|h
   . exact d _ h
   . rw[h];intro m e;cases e
  have w:=λt=>by
   have:((bG ts t v.aq).headD []).length<=21*da v.aq:=Md λp ai=>by
    rw[EF]at ai;obtain⟨x,I,rfl⟩:=eA.1 ai;have:=a x I t;have:=gM I;omega
   omega
  have fC:=M9 (λx I=>⟨f x I,(n x I).2⟩) trivial;have q:=Mc (by omega) I a;have o:((v.Rest.map cG.Data).headD []).length<=(v.Rest.map λx=>x.Data.length+1).sum:=Md λp ai=>by
   obtain⟨x,I,rfl⟩:=eA.1 ai;have:x.Data.length+1<=(v.Rest.map λx=>x.Data.length+1).sum:=Ny (eA.2 ⟨x,I,rfl⟩);omega
  obtain⟨K,b,i,s,id,ks,k,r⟩:=v;simp only at*;rw[bE];have F:=vM 8 _ (Aa l);have hid:id.toNat<18446744073709551616:=by omega
  have A:=vM 8 _ hid;have ai:=nW hid;generalize ts.getD t.toNat aM=x at*;split
  . grind
  . split
    . omega
    . split
      . omega
      . split
        . omega
        . split
          . rw[HI (mK _ _),List.flatMap_append,dD];omega
          . split
            . grind
            . split
              . grind
              . split
                . have:=D8 (bG ts x.Key ks) (bG ts x.aK k);grind
                grind
end
theorem adF(v:aa):10<=wt v:=by grind[gY]
section
variable {ts:List aj}
theorem yN:∀{ms:List aU} {l:List aa} {x:Fd},x∈df ts ms l->∃m,m∈ms/\x.id=m.ah.toNat
 |[],l,x,h=>by
  grind[df]
 |m::ms,[],x,h=>by
  grind[df]
 |m::ms,v::l,x,h=>by
  rw[df]at h;split at h
  . obtain⟨b,h1,a⟩:=yN h;grind
  . rcases dK.1 h with rfl|h
    . simp
    . obtain⟨b,h1,a⟩:=yN h;grind
noncomputable def fF (ts:List aj)(ms:List aU)(l:List aa)(r:List cG):List Fd:=df ts ms l++r.map pS
def ha(ms:List aU):Prop:=ms.Pairwise (λa b=>a.ah<b.ah)/\∀m,m∈ms->cC m.ah
theorem ada(h:ha ms):ms.Pairwise (λa b=>a.ah.toNat≠b.ah.toNat):=by
 refine h.1.imp_of_mem λ{a b} d c aE=>?_;have:=h.2 b c;grind[cC]
theorem JH:∀{ms:List aU} {l:List aa},ms.Pairwise (λa b=>a.ah.toNat≠b.ah.toNat)->(df ts ms l).Pairwise (λa b=>a.id≠b.id)
 |[],l,_=>by
  simp_all[df]
 |m::ms,[],_=>by
  simp_all[df]
 |m::ms,v::l,h=>by
  rw[h9]at h;rw[df];split
  . exact JH h.2
  . rw[h9];refine⟨λx I=>?_,JH h.2⟩;grind[yN]
theorem sS(h:cD ms id=none):∀m,m∈ms->m.ah≠id:=by
 grind[cD]
theorem yX{l:List aa}{r:List cG}(h:ha ms)(c:lp ms r):kp fx (fF ts ms l r)=true:=by
 apply Mb;have key:(fF ts ms l r).Pairwise (λa b=>a.id≠b.id):=by
  unfold fF;rw[GG];refine⟨JH (ada h),?_,?_⟩
  . rw[l8];refine c.1.imp_of_mem λ{a b} i e aE=>?_;have:=(c.2 b e).1;show a.ah.toNat≠b.ah.toNat;grind[cC]
  . intro x I y ag;obtain⟨m,h1,f⟩:=yN I;obtain⟨q,d,rfl⟩:=eA.1 ag;have g:=sS (c.2 q d).2 m h1;have:=(c.2 q d).1;show x.id≠q.ah.toNat;grind[cC]
 grind[fx]
theorem Sy{l:List aa}{r:List cG}(h:ha ms)(b:lp ms r){x:Fd}(I:x∈fF ts ms l r):1<=x.id/\x.id<=1000:=by
 rcases fH.1 I with I|I
 . obtain⟨m,h1,c⟩:=yN I;have:=h.2 m h1;grind[cC]
 . obtain⟨q,a,rfl⟩:=eA.1 I;have:=(b.2 q a).1;unfold cC at*;show 1<=q.ah.toNat/\q.ah.toNat<=1000;omega
theorem adb:SWO fx:=by refine⟨λx=>?_,λx y z h1 a=>?_,λx y z h1 a=>?_⟩<;>simp[fx]at*<;>omega
end
section
variable {ts:List aj}{pl:Bool}
theorem cO:∀{l:List aa} {t:Int},e1 ts pl t l↔∀x,x∈l->cB ts pl t x
 |[],t=>by grind[e1]
 |v::l,t=>by
  rw[e1,cO];simp
theorem h3:∀{ms:List aU} {l:List aa},iT ts pl ms l↔l.length=ms.length/\∀i,i<ms.length->cB ts pl (ms.getD i aG).aB (l.getD i aH)
 |[],[]=>by
  grind[iT]
 |[],v::l=>by
  grind[iT]
 |m::ms,[]=>by
  grind[iT]
 |m::ms,v::l=>by
  rw[iT,h3];constructor
  . grind
  . rintro ⟨h1,a⟩
    exact⟨a 0 (by simp),by grind,λi b=>a (i+1) (by grind)⟩
end
def eW(o:Option Bool)(P:Prop):Prop:=∃r,o=some r/\(r=true↔P)
variable{Q:Prop}
theorem eW.imp(h:eW o P)(e:P↔Q):eW o Q:=by grind
theorem eW.of{b:Bool}(e:b=true↔P):eW (some b) P:=⟨b,rfl,e⟩
theorem eW.loop{n:Nat}{p:Nat->Bool}{g:Unit}{o:Option (Bool ⊕ Unit)}(h0:o=L 0)(e:∀i,i<n->L i=if p i then L (i+1)else some (.inl false))(c:L n=some (.inr g)):
 eW (o>>=λo=>match o with|.inl x=>some x|.inr _=>some true) (∀i,i<n->p i=true):=by
 subst h0;rcases scan L n p _ _ e c with⟨h1,a⟩|⟨h1,j,a,f⟩
 . rw[h1];exact⟨true,rfl,by grind⟩
 . rw[h1];refine⟨false,rfl,?_⟩;grind
theorem D9(f:α->Int)(d:α):∀l:List α,l.Pairwise (λa b=>f a<f b)↔∀i,i+1<l.length->f (l.getD i d)<f (l.getD (i+1) d)
 |[]=>by simp
 |[a]=>by simp
 |a::b::l=>by
  rw[h9,D9 f d _];constructor
  . rintro ⟨h1,c⟩ i e
    cases i<;>simp_all
  . intro h;have c:∀i,i+1<(b::l).length->f ((b::l).getD i d)<f ((b::l).getD _ d):=λi e=>h (i+1) (by simpa using e);have h0:=h 0 (by simp);have g:=(D9 f d _).2 c;rw[h9]at g;grind
section
variable {ts:List aj}
theorem DA{l:List aU}{r:Int×Bool}(h:tH l id r):(r.2=true/\∃j:Nat,j<l.length/\r.1=(j:Int)/\cD l id=some (l.getD j aG)/\(l.getD j aG).ah=id)\/(r.2=false/\cD l id=none):=by
 rcases h with⟨j,h1,a,b,rfl⟩|⟨h1,rfl⟩
 . refine .inl ⟨rfl,j,h1,rfl,?_,a⟩;unfold cD;rw[Gx];refine⟨by grind,j,h1,(ey h1 _).symm,λk c=>?_⟩;grind
 grind[cD,List.getElem_of_mem]
theorem eI(pl:Bool)(t:Int)(v:aa):cB ts pl t v↔
 (0<=t/\t<ts.length/\v.Kind=(ts.getD t.toNat aM).Kind/\(pl=true->v.Rest=[]))/\
 (v.Kind=1/\v.bw=0/\v.bH=[]/\v.ah=0/\v.aJ=[]/\v.aq=[]/\v.Rest=[]\/
 v.Kind=2/\v.b9=false/\v.bH=[]/\v.ah=0/\v.aJ=[]/\v.aq=[]/\v.Rest=[]/\(ts.getD t.toNat aM).bT<=v.bw/\v.bw<=(ts.getD t.toNat aM).bW\/
 v.Kind=3/\v.b9=false/\v.bw=0/\v.ah=0/\v.aJ=[]/\v.aq=[]/\v.Rest=[]/\(v.bH.length:Int)<=(ts.getD t.toNat aM).Max\/
 v.Kind=4/\v.b9=false/\v.bw=0/\v.bH=[]/\v.aJ=[]/\v.aq=[]/\v.Rest=[]/\((∃y,y∈(ts.getD t.toNat aM).bo/\y.ah=v.ah)\/(ts.getD t.toNat aM).Open=true/\pl=false/\cC v.ah)\/
 v.Kind=5/\v.b9=false/\v.bw=0/\v.bH=[]/\v.ah=0/\v.aJ=[]/\lp (ts.getD t.toNat aM).af v.Rest/\iT ts pl (ts.getD t.toNat aM).af v.aq\/
 v.Kind=6/\v.b9=false/\v.bw=0/\v.bH=[]/\v.aJ=[]/\(match cD (ts.getD t.toNat aM).af v.ah with
  |some m=>v.Rest=[]/\v.aq.length=1/\e1 ts pl m.aB v.aq
  |none=>(ts.getD t.toNat aM).Open=true/\pl=false/\cC v.ah/\v.aq=[]/\∃d,v.Rest=[⟨v.ah,d⟩])\/
 v.Kind=7/\v.b9=false/\v.bw=0/\v.bH=[]/\v.ah=0/\v.aJ=[]/\v.Rest=[]/\(v.aq.length:Int)<=(ts.getD t.toNat aM).Max/\e1 ts pl (ts.getD t.toNat aM).aK v.aq\/
 v.Kind=8/\v.b9=false/\v.bw=0/\v.bH=[]/\v.ah=0/\v.Rest=[]/\(v.aJ.length:Int)<=(ts.getD t.toNat aM).Max/\v.aq.length=v.aJ.length/\e1 ts pl (ts.getD t.toNat aM).Key v.aJ/\e1 ts pl (ts.getD t.toNat aM).aK v.aq/\km v.aJ\/
 v.Kind=9/\v.b9=false/\v.bw=0/\v.bH=[]/\v.ah=0/\v.aJ=[]/\v.Rest=[]/\v.aq.length<=1/\e1 ts pl (ts.getD t.toNat aM).aK v.aq):=by
 cases v;rfl
end
def FJ(v:aa):Prop:=(v.Kind=1\/v.b9=false)/\(v.Kind=2\/v.bw=0)/\(v.Kind=3\/v.bH=[])/\((v.Kind=4\/v.Kind=6)\/v.ah=0)/\(v.Kind=8\/v.aJ=[])/\(5<=v.Kind\/v.aq=[])/\((v.Kind=5\/v.Kind=6)\/v.Rest=[])
theorem AM{q:Bool}(c:q=true↔Q)(a:eW o P):eW (some q>>=λt244=>(if t244 then o else some false)>>=λb=>some (bif t244 then b else false)) (Q/\P):=by
 obtain⟨r,rfl,h⟩:=a;refine⟨q&&r,by cases q<;>cases r<;>rfl,?_⟩;grind
theorem ID{l:List dO}{r:Int×Bool}(h:wq l id r):r.2=true↔∃y,y∈l/\y.ah=id:=by
 rcases h with⟨j,h1,a,b,rfl⟩|⟨h1,rfl⟩
 . grind
 . constructor
   . grind
   . rintro ⟨y,ag,he⟩
     obtain⟨i,c,rfl⟩:=gQ ag;grind
theorem Zk(h:FJ v)(a:u' v.Kind):y2 v=some true:=by
 obtain⟨K,B,cN,S,ah,c,b,R⟩:=v;unfold u' at a;unfold FJ at h;simp only at a h;rw[y2,aa.bO];have:K=1\/K=2\/K=3\/K=4\/K=5\/K=6\/K=7\/K=8\/K=9:=by omega
 rcases this with rfl|rfl|rfl|rfl|rfl|rfl|rfl|rfl|rfl
 all_goals
  simp at h;simp[IA,gr,h]
def AG(ts:List aj)(x:aa):Prop:=∀t pl,cB ts pl t x->pt ((⟨ts⟩:bq),t,x,pl)=some true
theorem ab1{l:List aa}(ae:l.length<=reachBytes)(ih:∀x,x∈l->AG ts x)(h:e1 ts pl t l):qM ((⟨ts⟩:bq),t,l,pl)=some true:=by
 have d:=gq ae;have key:∀k i:Nat,i+k=l.length->qk (l,(l.length:Int),(i:Int),ts,t,pl)=some (.inr (ts,t,pl)):=by
  intro k;induction k with
  |zero=>intro i b;rw[qk,ev]
  |succ k c=>
   intro i b;have a:=br (by omega:i<l.length) aH;rw[qk,dc,ad (hY),II];simp only[aa.bO,bx];rw[ih _ a t pl (cO.1 h _ a),cg];exact c (i+1) (by omega)
 have h0:=key l.length 0 (by omega);have ds:qk (l,(l.length:Int),((0:Nat):Int),ts,t,pl)=qk (l,(l.length:Int),0,ts,t,pl):=rfl;rw[ds]at h0;rw[qM,Dg,Hg,h0];rfl
theorem M'(I:x.af.length<9223372036854775807)(ae:v.Rest.length<=reachBytes)(h:lp x.af v.Rest)(pl:Bool)(ts:List aj):∀k i:Nat,i+k=v.Rest.length->
 pb (pl,v.Rest,(v.Rest.length:Int),(i:Int),ts,v,x.Kind,x.Name,x.bT,x.bW,x.Max,x.bo,x.af,x.Key,x.aK,x.Open)=some (.inr (pl,ts,v.Kind,v.b9,v.bw,v.bH,v.ah,v.aJ,v.aq,v.Rest,x.Kind,x.Name,x.bT,x.bW,x.Max,x.bo,x.af,x.Key,x.aK,x.Open))
 |0,i,d=>by rw[pb,ev]
 |k+1,i,d=>by
  have n:=gq ae;have aE:i<v.Rest.length:=by omega
  obtain⟨r,l,m⟩:=rf (t:=x) (id:=(v.Rest.getD i ec).ah) I;obtain⟨c,g⟩:=h.2 _ (br aE ec);have e:r.2=false:=by
   rcases DA m with⟨_,j,_,_,q,_⟩|⟨q,_⟩
   . rw[g]at q;cases q
   . exact q
  rw[pb,dc,ad (bu aE)];simp only[bx,M5,aa.bO,sQ,bg,ay];rw[l,cg]
  refine (abZ r.2 (bif decide (1<=(v.Rest.getD i ec).ah) then decide ((v.Rest.getD i ec).ah<=1000) else false) (decide ((0:Int)<(i:Int))) (dY .i64 (i:Int) 1) (λj=>aQ j v.Rest.length) (λj=>decide ((v.Rest.getD i ec).ah<=(v.Rest.getD j.toNat ec).ah)) _ _ (λf=>by
   have:0<i:=by simp at f;omega
   show aQ _ _=true
   rw[JF this];exact hY)).trans ?_
  unfold cC at c;rw[ad]
  . exact M' I ae h pl ts k (i+1) (by omega)
  . simp only[e,c.1,c.2,dB,ib,gg,Bool.and_self,Bool.true_and];by_cases h0:i=0
    . simp[h0]
    . have a:=(D9 (λa:cG=>a.ah) ec v.Rest).1 h.1 (i-1) (by omega);rw[show i-1+1=i by omega]at a;rw[JF (by omega),bx];have b:¬(v.Rest.getD i ec).ah<=(v.Rest.getD (i-1) ec).ah:=(by omega);simp only[b,ew,gg,zE]
theorem Me(c:x.af.length<9223372036854775807)(ih:∀y,y∈v.aq->AG ts y)(h:iT ts pl x.af v.aq):∀k i:Nat,i+k=x.af.length->
 rj (pl,x.af,(x.af.length:Int),(i:Int),ts,v.Kind,v.b9,v.bw,v.bH,v.ah,v.aJ,v.aq,v.Rest)=some (.inr ())
 |0,i,b=>by rw[rj,ev]
 |k+1,i,b=>by
  obtain⟨h1,a⟩:=h3.1 h;have aE:i<x.af.length:=by omega
  rw[rj,dc,ad (bu aE),ad (hY)];simp only[aa.bO,bx];rw[ih _ (br (by omega:i<v.aq.length) aH) _ pl (a i aE),cg];exact Me c ih h k (i+1) (by omega)
theorem Na(d:v.aJ.length<9223372036854775807)(a:∀y,y∈v.aJ->cf y)(h:km v.aJ)(pl:Bool):∀k i:Nat,v.aJ.length-1-i=k->
 pc (pl,((i+1:Nat):Int),ts,v,x.Kind,x.Name,x.bT,x.bW,x.Max,x.bo,x.af,x.Key,x.aK,x.Open)=some (.inr (pl,ts,v,x.Kind,x.Name,x.bT,x.bW,x.Max,x.bo,x.af,x.Key,x.aK,x.Open))
 |0,i,c=>by rw[pc,ev,aa.bO]
 |k+1,i,c=>by
  have aE:i+1<v.aJ.length:=by omega
  have e:dY .i64 ((i+1:Nat):Int) 1=(i:Int):=by rw[JF (by simp)];rfl
  obtain⟨r,b,_⟩:=IJ (EA (a _ (br (by omega:i<v.aJ.length) aH))) (EA (a _ (br aE aH)));have f:r<0:=by
   have:=h i aE;unfold iE at this
   rwa [b]at this
  rw[pc,dc];simp only[bg,ay];rw[e,ad (hY),ad (bu aE)];simp only[bx,aa.bO];rw[b];simp only[ay];rw[ev,cg];exact Na d a h pl k (i+1) (by omega)
theorem Ek(ee:∀t,t∈ts->iY t)(bM:∀t,t∈ts->u' t.Kind)(M:cf v):AG ts v:=by
 induction M with
 |mk v hs h1 s E J S U cI V W X Q m=>
  intro t pl H;obtain⟨⟨g1,g2,g3,g4⟩,G⟩:=(eI _ _ _).1 H;obtain⟨j,rfl⟩:∃j:Nat,t=(j:Int):=⟨t.toNat,by omega⟩
  have u:j<ts.length:=by omega
  have aC:¬((j:Int)<0):=by omega
  have D:¬(((⟨ts⟩:bq).Types.length:Int)<=(j:Int)):=by simp;omega
  rw[pt,ao (by simp only[aC,ew,jg,D];simp),ad (bu u)];simp only[bx,aa.bO]at*;have B:=ee _ (br u aM);have N:=bM _ (br u aM);generalize ts.getD j aM=x at*;have w:=gq (mS B.og);have L:=gq (mS B.syms);have ai:y2 v=some true:=Zk (by unfold FJ;grind) (by rw[g3];exact N);have n:∀{l:List aa} {t:Int},l.length<=reachBytes->(∀y,y∈l->AG ts y)->e1 ts pl t l->qM ((⟨ts⟩:bq),t,l,pl)=some true:=λa b c=>ab1 a b c;simp only[bg,ay,g3,dB,ez,gg,cm,ai,jg,cJ,cE];rcases G with c|c|c|c|c|c|c|c|c
  . have k:x.Kind=1:=(by omega);simp[k]
  . have k:x.Kind=2:=(by omega);simp[k,c]
  . have k:x.Kind=3:=(by omega);simp[k,c]
  . have k:x.Kind=4:=(by omega);obtain⟨r,A,_,I⟩:=v' (t:=x) v.ah L;have hs:=ID I;obtain⟨_,_,_,_,_,_,_,c⟩:=c;simp only[k,Int.reduceEq,ew,dB,cJ,cE,cm,A,ay];rcases c with c|⟨f,e,g⟩
    . rw[hs.2 c];simp
    . unfold cC at g;cases T:r.2<;>simp[f,e,g,sQ]
  . have k:x.Kind=5:=(by omega);obtain⟨_,_,_,_,_,_,f,e⟩:=c;have ae:=(h3.1 e).1;have K:(bif pl then decide (0<(v.Rest.length:Int))else false)=false:=by
     cases pl with
     |false=>rfl
     |true=>simp[g4 rfl]
    have a:=M' w E f pl ts v.Rest.length 0 (by omega);have b:=Me (ts:=ts) w m e x.af.length 0 (by omega);have a0:pb (pl,v.Rest,(v.Rest.length:Int),((0:Nat):Int),ts,v,x.Kind,x.Name,x.bT,x.bW,x.Max,x.bo,x.af,x.Key,x.aK,x.Open)=pb (pl,v.Rest,(v.Rest.length:Int),0,ts,v,x.Kind,x.Name,x.bT,x.bW,x.Max,x.bo,x.af,x.Key,x.aK,x.Open):=rfl;have b0:rj (pl,x.af,(x.af.length:Int),((0:Nat):Int),ts,v.Kind,v.b9,v.bw,v.bH,v.ah,v.aJ,v.aq,v.Rest)=rj (pl,x.af,(x.af.length:Int),0,ts,v.Kind,v.b9,v.bw,v.bH,v.ah,v.aJ,v.aq,v.Rest):=rfl;rw[a0]at a;rw[b0]at b;rw[ao (by simp[k]),ao (by simp[k]),ao (by simp[k]),ad (by simp[k]),ao (by rw[K];simp[ae]),a];simp only[ay];rw[b];rfl
  . have k:x.Kind=6:=(by omega);obtain⟨_,_,_,_,_,c⟩:=c;obtain⟨r,A,R⟩:=rf (t:=x) (id:=v.ah) w;rw[ao (by simp[k]),ao (by simp[k]),ao (by simp[k]),ao (by simp[k]),ad (by simp[k]),A];simp only[ay];rcases DA R with⟨q,i,O,P,z,_⟩|⟨q,z⟩
    . rw[z]at c;obtain⟨f,e,g⟩:=c;have ag:=br (show 0<v.aq.length by omega) aH;have:=m _ ag _ pl (cO.1 g _ ag);have t0:(0:Int).toNat=0:=rfl;rw[ad q];simp only[P,f,e,bu O,bx,t0,kE,Int.natCast_one,Int.natCast_zero,dB,ib,wF,cm,ez,show aQ 0 1=true from rfl,ay,this]
    . rw[z]at c;obtain⟨f,e,g,o,d,p⟩:=c;unfold cC at g;simp[q,f,e,g,o,p,sQ,aQ]
  . have k:x.Kind=7:=(by omega);obtain⟨_,_,_,_,_,_,_,f,e⟩:=c;have:=n s m e;simp[k,f,this]
  . have k:x.Kind=8:=(by omega);obtain⟨_,_,_,_,_,_,f,e,g,o,p⟩:=c;have a:=n h1 Q g;have b:=n s m o;have d:=Na (ts:=ts) (x:=x) (v:=v) (gq h1) J p pl (v.aJ.length-1) 0 (by omega);have d0:pc (pl,((0+1:Nat):Int),ts,v,x.Kind,x.Name,x.bT,x.bW,x.Max,x.bo,x.af,x.Key,x.aK,x.Open)=pc (pl,1,ts,v,x.Kind,x.Name,x.bT,x.bW,x.Max,x.bo,x.af,x.Key,x.aK,x.Open):=rfl;rw[d0]at d;have F:(bif decide (x.Max<(v.aJ.length:Int))then true else(!(decide ((v.aq.length:Int)=(v.aJ.length:Int)))))=false:=by simp[e];omega
    rw[ao (by simp[k]),ao (by simp[k]),ao (by simp[k]),ao (by simp[k]),ao (by simp[k]),ao (by simp[k]),ad (by simp[k]),F];simp only[gg,cm,a,ay,ez,jg,cJ,cE];rw[d];simp only[ay];rw[b];rfl
  . have k:x.Kind=9:=(by omega);obtain⟨_,_,_,_,_,_,_,f,e⟩:=c;have:=n s m e;have C:(v.aq.length:Int)<=1:=(by omega);simp[k,C,this]
theorem agx{n:Nat}(h:n<=70368744177664):room 1 n=true:=by
 unfold room gJ c1;grind
theorem Ol{n:Nat}(h:n<=2199023255552:=by simp;omega):room 24 n=true:=by
 unfold room gJ c1;grind
theorem bws{s b:ar}(h:b.length+s.length<=70368744177664:=by omega):s0 (s,b)=some ((s.length:Int),b++s):=by
 rw[s0];simp only[bg,ay];rw[ad (by simp),ad (agx h)];rfl
theorem FM(b:ar):yq b=some b:=by rw[yq,ad (by simp[eh])]
theorem ade(a b:Nat):l7 (a:Int) (b:Int)=((max a b:Nat):Int):=by unfold l7;omega
theorem hQ{l:List α}{i:Nat}(h:i<l.length)(d:α):l.drop i=l.getD i d::l.drop (i+1):=by simp_all
def jc(f:Fd):fZ:=⟨(f.id:Int),f.text⟩
theorem Zl{m:aU}(a:cf m.bU)(v:aa):C' (m,v)=some (c6 m v):=by
 rw[C'];unfold c6;cases c:m.b8 with
 |false=>simp
 |true=>
  obtain⟨r,h1,b⟩:=Lf a v;simp only[aa.bO];grind
section
variable {ts:List aj}
def p8(ts:List aj)(x:aa)(t:Int):Prop:=∀L D:Nat,1<=L->L+wt x<=1125899906842624->jT (t,x,(L:Int),ts,(D:Int))=some (bE ts t x,ts,((max D (L+ej ts t x-1):Nat):Int))
theorem Mf:∀{ms:List aU} {l:List aa},(df ts ms l).length<=ms.length
 |[],l=>by
  rw[df]
  . simp
  grind
 |m::ms,[]=>by
  rw[df]
  . simp
  grind
 |m::ms,v::l=>by
  rw[df];have:=Mf (ms:=ms) (l:=l);grind
theorem qW(t:Int)(v:aa):1<=ej ts t v:=by
 cases v;rw[ej];omega
theorem Om{a:List aU}(p:a.length<=1000)(d:∀m,m∈a->cf m.bU)(hid:∀m,m∈a->cC m.ah)(ae:v.aq.length=a.length)(e:∀x,x∈v.aq->∀t,(bE ts t x).length<=70368744177664)
 (g:∀i,i<a.length->c6 (a.getD i aG) (v.aq.getD i aH)=false->p8 ts (v.aq.getD i aH) (a.getD i aG).aB)(L:Nat)(l:1<=L)(o:L+da v.aq<1125899906842624):
 ∀(k i:Nat) (D:Nat) (acc:List fZ),i+k=a.length->L<=D->acc.length+k<=100000->
 qq ((L:Int),a,(a.length:Int),(i:Int),ts,(D:Int),v,acc)=some (ts,((max D (L+hV ts (a.drop i) (v.aq.drop i)):Nat):Int),v,acc++(df ts (a.drop i) (v.aq.drop i)).map jc)
 |0,i,D,acc,r,j,q=>by
  rw[qq,ev,aa.bO,hI (by omega:a.length<=i)];rw[hV,df]
  . simp;omega
  . grind
  grind
 |k+1,i,D,acc,r,j,q=>by
  have aE:i<a.length:=by omega
  have b:i<v.aq.length:=by omega
  rw[qq,dc,ad (bu aE)];simp only[bg,ay,bx,aa.bO,mH];rw[ad (bu b),Zl (d _ (br aE aG))];rw[hQ aE aG,hQ b aH,hV,df];have u:=Om p d hid ae e g L l o k (i+1);cases s:c6 (a.getD i aG) (v.aq.getD i aH)with
  |true=>
   simp only[ay,ez,cJ,cE,cm];rw[cg];grind
  |false=>
   have f:v.aq.getD i aH∈v.aq:=br b aH;have z:=gM f;have eO:=g i aE s (L+1) D (by omega) (by omega);have w:=qW (ts:=ts) (a.getD i aG).aB (v.aq.getD i aH);have c:=hid _ (br aE aG);obtain⟨n,aN⟩:∃n:Nat,(a.getD i aG).ah=(n:Int):=⟨(a.getD i aG).ah.toNat,by unfold cC at c;omega⟩
   simp only[ay,gg,cm,cJ,cE];have y:=e _ f (a.getD i aG).aB;have aC:aT .i64 (L:Int) 1=((L+1:Nat):Int):=cg;rw[ad (bu b),aC,eO];simp only[ay];rw[aN,Jo (by unfold cC at c;omega)];simp only[ay];rw[ad (Ol),cg,u _ _ (by omega) (by omega) (by simp;omega)];have:(⟨(n:Int),eS n (a.getD i aG).cu (bE ts (a.getD i aG).aB (v.aq.getD i aH))⟩:fZ)=jc ⟨(n:Int).toNat,(a.getD i aG).cu,bE ts (a.getD i aG).aB (v.aq.getD i aH)⟩:=(by rfl);simp_all
theorem On{R:List cG}(b:∀x,x∈R->cC x.ah/\x.Data.length<=reachBytes)(c:R.length<=2199023255552)(D:Int):∀(k i:Nat) (acc:List fZ),i+k=R.length->acc.length+k<=2199023255552->
 qp (R,(R.length:Int),(i:Int),ts,D,acc)=some (ts,D,acc++((R.drop i).map pS).map jc)
 |0,i,acc,f,d=>by
  rw[qp,ev,hI (by omega:R.length<=i)];simp
 |k+1,i,acc,f,d=>by
  have aE:i<R.length:=by omega
  obtain⟨a,e⟩:=b _ (br aE ec);obtain⟨n,aN⟩:∃n:Nat,(R.getD i ec).ah=(n:Int):=⟨(R.getD i ec).ah.toNat,by unfold cC at a;omega⟩
  unfold reachBytes at e;rw[qp,dc,ad (bu aE)];simp only[bg,ay,bx];rw[aN,Jo (by unfold cC at a;omega)];simp only[ay];rw[ad (Ol),cg,On b c D k (i+1) _ (by omega) (by simp;omega),hQ aE ec];have:(⟨(n:Int),eS n false (R.getD i ec).Data⟩:fZ)=jc (pS (R.getD i ec)):=by
   show _=(⟨(((R.getD i ec).ah.toNat:Nat):Int),eS (R.getD i ec).ah.toNat false (R.getD i ec).Data⟩:fZ);grind
  grind
theorem Oo{l:List Fd}(D:Int):∀(k i:Nat) (b:ar),i+k=l.length->l.length<=2199023255552->b.length+((l.drop i).flatMap Fd.text).length<=70368744177664->
 s7 ((l.length:Int),(i:Int),ts,D,l.map jc,b)=some (ts,D,b++(l.drop i).flatMap Fd.text)
 |0,i,b,c,_,a=>by
  rw[s7,ev,hI (by omega:l.length<=i)];simp
 |k+1,i,b,c,ae,a=>by
  have aE:i<l.length:=by omega
  rw[s7,dc,ad (bu (by simp;omega)),dc];rw[hQ aE default]at a⊢;simp only[hJ,dD]at a⊢;have al:(l.map jc).getD i vW=jc (l.getD i default):=sw jc l i default vW aE;simp only[bx,al];have:(jc (l.getD i default)).text=(l.getD i default).text:=rfl;rw[this,bws];simp only[bg,ay];rw[cg,Oo D k (i+1) _ (by omega) ae (by rw[dD];omega)];simp
end
structure kQ (ts:List aj):Prop where
 n:ts.length<=1000
 T:∀t,t∈ts->iY t
 K:∀t,t∈ts->u' t.Kind
 M:PF ts
 A:∀x,x∈ts->(x.Kind=5\/x.Kind=6)->ha x.af/\x.af.length<=16
 S:∀x,x∈ts->x.Kind=4->∀y,y∈x.bo->cC y.ah
 mn:∀x,x∈ts->x.Kind=8->1<=(ts.getD x.Key.toNat aM).Kind/\(ts.getD x.Key.toNat aM).Kind<=4
section
variable {ts:List aj}
theorem xa{t:Int}{v:aa}(h:(ts.getD t.toNat aM).Kind=1):bE ts t v=if v.b9 then[1]else[]:=by cases v;rw[bE];simp only[h];rfl
theorem xc{t:Int}{v:aa}(h:(ts.getD t.toNat aM).Kind=2):bE ts t v=fk (gA v.bw).toNat:=by cases v;rw[bE];simp only[h];rfl
theorem xd{t:Int}{v:aa}(h:(ts.getD t.toNat aM).Kind=3):bE ts t v=v.bH:=by cases v;rw[bE];simp only[h];rfl
theorem xe{t:Int}{v:aa}(h:(ts.getD t.toNat aM).Kind=4):bE ts t v=fk v.ah.toNat:=by cases v;rw[bE];simp only[h];rfl
theorem xf{t:Int}{v:aa}(h:(ts.getD t.toNat aM).Kind=5):bE ts t v=(hl fx (fF ts (ts.getD t.toNat aM).af v.aq v.Rest)).flatMap Fd.text:=by cases v;rw[bE];simp only[h];rfl
theorem rM{t:Int}{v:aa}(h:(ts.getD t.toNat aM).Kind=6):bE ts t v=dL v.ah.toNat++(match cD (ts.getD t.toNat aM).af v.ah with
 |some m=>(bG ts m.aB v.aq).headD []
 |none=>(v.Rest.map cG.Data).headD []):=by
 cases v;rw[bE];simp only[h];rfl
theorem rN{t:Int}{v:aa}(h:(ts.getD t.toNat aM).Kind=7):bE ts t v=(bG ts (ts.getD t.toNat aM).aK v.aq).flatMap c8:=by cases v;rw[bE];simp only[h];rfl
theorem rO{t:Int}{v:aa}(h:(ts.getD t.toNat aM).Kind=8):bE ts t v=gv (bG ts (ts.getD t.toNat aM).Key v.aJ) (bG ts (ts.getD t.toNat aM).aK v.aq):=by cases v;rw[bE];simp only[h];rfl
theorem rP{t:Int}{v:aa}(h:(ts.getD t.toNat aM).Kind=9):bE ts t v=match bG ts (ts.getD t.toNat aM).aK v.aq with
 |[]=>[]
 |p::_=>1::p:=by
 cases v;rw[bE];simp only[h];rfl
theorem tx(t:Int)(v:aa):ej ts t v=1+max (if v.aJ=[]then 0 else 1) (if(ts.getD t.toNat aM).Kind=5 then hV ts (ts.getD t.toNat aM).af v.aq
 else if(ts.getD t.toNat aM).Kind=6 then(match cD (ts.getD t.toNat aM).af v.ah with
  |some m=>eU ts m.aB v.aq
  |none=>0)
 else eU ts (ts.getD t.toNat aM).aK v.aq):=by
 cases v;rw[ej];try rfl
theorem vC{t:Int}{v:aa}(c:v.aJ=[])(b:v.aq=[]):ej ts t v=1:=by
 rw[tx,c,b];have h1:eU ts (ts.getD t.toNat aM).aK []=0:=by rw[eU]
 have a:hV ts (ts.getD t.toNat aM).af []=0:=by rw[hV];intros;simp_all
 rw[h1,a]
 have d:(match cD (ts.getD t.toNat aM).af v.ah with
  |some m=>eU ts m.aB []
  |none=>0)=0:=by
  split
  . rw[eU]
  . rfl
 grind
theorem Mg(b:¬x.Kind=8)(d:∀y,y∈v.aq->(bE ts x.aK y).length<=1000000000000000)(e:∀y,y∈v.aq->p8 ts y x.aK)(ae:v.aq.length<=reachBytes)(L:Nat)(g:1<=L)(j:L+da v.aq<1125899906842624):
 ∀(k i D:Nat) (acc:ar),i+k=v.aq.length->L<=D->acc.length+((bG ts x.aK (v.aq.drop i)).flatMap c8).length<=70368744177664->
 lY ((L:Int),v.aq,(v.aq.length:Int),(i:Int),ts,(D:Int),v,x,acc)=some (ts,((max D (L+eU ts x.aK (v.aq.drop i)):Nat):Int),acc++(bG ts x.aK (v.aq.drop i)).flatMap c8)
 |0,i,D,acc,l,f,c=>by
  rw[lY,ev,hI (by omega:v.aq.length<=i),eU,bG];simp;omega
 |k+1,i,D,acc,l,f,c=>by
  have aE:i<v.aq.length:=by omega
  have n:=gq ae;have a:v.aq.getD i aH∈v.aq:=br aE aH;have o:=gM a;rw[hQ aE aH,bG,hJ,dD]at c;have ai:=d _ a;have eO:=e _ a (L+1) D (by omega) (by omega);have m:=qW (ts:=ts) x.aK (v.aq.getD i aH);have aC:aT .i64 (L:Int) 1=((L+1:Nat):Int):=cg;rw[lY,dc,ad (bu aE)];simp only[bg,ay,bx,aa.bO];rw[ao (by simp[b]),aC,eO];simp only[ay];rw[Ej];simp only[ay];rw[bws];simp only[ay];rw[cg,Mg b d e ae L g j k (i+1) _ _ (by omega) (by omega) (by rw[dD];omega),hQ aE aH,eU,bG,hJ,kD];grind
theorem Nb(d:x.Kind=8)(r:v.aq.length=v.aJ.length)(g:∀y,y∈v.aq->(bE ts x.aK y).length<=1000000000000000)(j:∀y,y∈v.aJ->(bE ts x.Key y).length<=1000000000000000)
 (l:∀y,y∈v.aq->p8 ts y x.aK)(m:∀y,y∈v.aJ->p8 ts y x.Key)(h1:∀y,y∈v.aJ->ej ts x.Key y=1)(ae:v.aq.length<=reachBytes)(L:Nat)(o:1<=L)(p:L+da v.aq+da v.aJ<1125899906842624):
 ∀(k i D:Nat) (acc:ar),i+k=v.aq.length->L<=D->acc.length+(gv (bG ts x.Key (v.aJ.drop i)) (bG ts x.aK (v.aq.drop i))).length<=70368744177664->
 lY ((L:Int),v.aq,(v.aq.length:Int),(i:Int),ts,(D:Int),v,x,acc)=some (ts,((max D (L+max (if v.aJ.drop i=[]then 0 else 1) (eU ts x.aK (v.aq.drop i))):Nat):Int),acc++gv (bG ts x.Key (v.aJ.drop i)) (bG ts x.aK (v.aq.drop i)))
 |0,i,D,acc,q,n,f=>by
  rw[lY,ev,hI (by omega:v.aq.length<=i),hI (by omega:v.aJ.length<=i),eU,bG,bG,gv]
  . simp;omega
  grind
 |k+1,i,D,acc,q,n,f=>by
  have aE:i<v.aq.length:=by omega
  have a:i<v.aJ.length:=by omega
  have u:=gq ae;have c:v.aq.getD i aH∈v.aq:=br aE aH;have b:v.aJ.getD i aH∈v.aJ:=br a aH;have w:=gM c;have z:=gM b;rw[hQ aE aH,hQ a aH,bG,bG,gv,dD,dD]at f;have ai:=g _ c;have t:=j _ b;have e:=m _ b (L+1) D (by omega) (by omega);rw[h1 _ b]at e;have eO:=l _ c (L+1) (max D (L+1+1-1)) (by omega) (by omega);have s:=qW (ts:=ts) x.aK (v.aq.getD i aH);have aC:aT .i64 (L:Int) 1=((L+1:Nat):Int):=cg;rw[lY,dc,ad (bu aE)];simp only[bg,ay,bx,aa.bO];rw[ad (by simp[d]),ad (bu a),aC,e];simp only[ay];rw[Ej];simp only[ay];rw[bws];simp only[ay];rw[eO];simp only[ay];rw[Ej];simp only[ay];rw[bws (by rw[dD];omega)];simp only[ay];rw[cg,Nb d r g j l m h1 ae L o p k (i+1) _ _ (by omega) (by omega) (by rw[dD,dD];omega),hQ aE aH,hQ a aH,eU,bG,bG,gv,kD,kD];grind
end
section
variable {ts:List aj}(H:kQ ts)
theorem JL(H:kQ ts)(a:cf v)(b:wt v<=1099511627776)(t:Int):(bE ts t v).length<=23089744183296:=by
 have:=ab0 H.M a b t;omega
theorem aag{l:List aa}{r:List cG}(h:ha ms)(d:lp ms r):Hp ((fF ts ms l r).map jc)=some ((hl fx (fF ts ms l r)).map jc):=by
 have e:∀a b,lD (jc a) (jc b)=fx a b:=λa b=>by unfold lD fx jc;simp
 have f:SWO lD:=by refine⟨λx=>?_,λx y z h1 c=>?_,λx y z h1 c=>?_⟩<;>simp[lD]at*<;>omega
 have ai:kp lD ((fF ts ms l r).map jc)=true:=by
  have h0:=yX (ts:=ts) (l:=l) h d;generalize fF ts ms l r=q at h0;induction q with
  |nil=>rfl
  |cons a q ih=>
   grind[kp]
 grind[Hp,Oc,M7]
theorem Ct{D L b w:Nat}(h:w=1+b):max (max D L) (L+b)=max D (L+w-1):=by omega
theorem agd{D L b w:Nat}(h:w=1+b):max (max D L) (L+1+b-1)=max D (L+w-1):=by omega
theorem QM{b w:Nat}(h:w=1+max 0 b):w=1+b:=by omega
theorem adf(k:∀m,m∈x.af->cf m.bU)(c:ha x.af)(J:x.af.length<=16)(b:lp x.af v.Rest)(o:v.aq.length=x.af.length)
 (s:∀y,y∈v.Rest->y.Data.length<=reachBytes)(H:∀x,x∈v.aq->∀t,(bE ts t x).length<=23089744183296)
 (j:∀i,i<x.af.length->p8 ts (v.aq.getD i aH) (x.af.getD i aG).aB)
 (I:((hl fx (fF ts x.af v.aq v.Rest)).flatMap Fd.text).length<=23089744183296)
 (L D:Nat)(f:1<=L)(C:L<=D)(E:L+da v.aq<1125899906842624)(G:(v.Rest.map λx=>x.Data.length+1).sum<=1099511627776):
 CT (x,v,(L:Int),ts,(D:Int))=some ((hl fx (fF ts x.af v.aq v.Rest)).flatMap Fd.text,ts,((max D (L+hV ts x.af v.aq):Nat):Int)):=by
 have r:=c.2;have g:∀y,y∈v.Rest->cC y.ah/\y.Data.length<=reachBytes:=λy ag=>⟨(b.2 y ag).1,s y ag⟩
 have F:v.Rest.length<=(v.Rest.map λx=>x.Data.length+1).sum:=by
  generalize v.Rest=R;induction R with
  |nil=>simp
  |cons a R ih=>grind
 have K:=Mf (ts:=ts) (ms:=x.af) (l:=v.aq);have u:=Om (by omega) k r o (λy ag t=>by grind) (λi n _=>j i n) L f (by omega) x.af.length 0 D [] (by simp) (by omega) (by grind);have w:qq ((L:Int),x.af,x.af.length,0,ts,D,v,[])=_:=u;rw[CT];simp only[aa.bO];rw[w];simp only[bg,ay,j2,iP];generalize ((max D (L+hV ts x.af v.aq):Nat):Int)=d;have A:=On (ts:=ts) g (by omega) d v.Rest.length 0 ((df ts x.af v.aq).map jc) (by simp) (by grind);have B:qp (v.Rest,(v.Rest.length:Int),0,ts,d,(df ts x.af v.aq).map jc)=_:=A;rw[B];simp only[ay,j2];rw[<-rB];have hs:=aag (ts:=ts) (l:=v.aq) c b;have ds:df ts x.af v.aq++v.Rest.map pS=fF ts x.af v.aq v.Rest:=rfl;rw[ds];generalize fF ts x.af v.aq v.Rest=q at*;rw[hs];simp only[ay];have e:=mK fx q;rw[ad (by simp[e.length_eq])];have p:(hl fx q).length<=2199023255552:=by rw[e.length_eq];grind
 generalize hl fx q=z at*;have M:=Oo (ts:=ts) (l:=z) d z.length 0 [] (gx _) p (by grind);simp_all[FM]
theorem aah(s:x.af.length<9223372036854775807)(u:ha x.af)(G: -9223372036854775808<=v.ah/\v.ah<=9223372036854775807)
 (b:match cD x.af v.ah with
  |some m=>v.Rest=[]/\v.aq.length=1/\e1 ts false m.aB v.aq
  |none=>x.Open=true/\True/\cC v.ah/\v.aq=[]/\∃d,v.Rest=[⟨v.ah,d⟩])
 (z:∀y,y∈v.Rest->y.Data.length<=reachBytes)(p:∀x,x∈v.aq->∀t,(bE ts t x).length<=23089744183296)
 (o:∀x,x∈v.aq->∀t,cB ts false t x->p8 ts x t)
 (L D:Nat)(C:1<=L)(B:L<=D)(E:L+da v.aq<1125899906842624):
 x0 (x,v,(L:Int),ts,(D:Int)) = some (dL v.ah.toNat++(match cD x.af v.ah with
  |some m=>(bG ts m.aB v.aq).headD []
  |none=>(v.Rest.map cG.Data).headD []),ts,((max D (L+(match cD x.af v.ah with
  |some m=>eU ts m.aB v.aq
  |none=>0)):Nat):Int)):=by
 obtain⟨r,j,_,c⟩:=T9 (t:=x) v.ah s;rcases DA c with⟨e,q,i,A,a,H⟩|⟨e,a⟩
 . rw[a]at b;rw[a];obtain⟨d1,d2,d3⟩:=b;have l:=u.2 _ (br i aG);obtain⟨n,aN⟩:∃n:Nat,v.ah=(n:Int):=⟨v.ah.toNat,by grind[cC]⟩
   rw[x0];simp only[aa.bO];rw[j,aN,j8 (by grind),po (by grind)];simp only[bg,ay];rw[ao (by grind),A,ad (bu i)]
   match l:v.aq,d2 with
   |[y],_=>
    have ag:y∈v.aq:=(by grind);have g:aQ 0 [y].length=true:=bu (k:=0) (by simp);have F:=gM ag;have c:=cO.1 d3 y ag;have eO:=o y ag _ c (L+1) D (by simp) (by omega);have aC:aT .i64 (L:Int) 1=((L+1:Nat):Int):=cg;rw[ad g,aC];simp only[bx,CI,tR];rw[eO];have ai:=p y ag (x.af.getD q aG).aB;have w:=nW (n:=n) (by grind);simp only[ay];rw[ad (js)];grind[qW,eU,bG]
 . rw[a]at b;rw[a];obtain⟨d1,d2,d3,d4,d,d5⟩:=b;obtain⟨n,aN⟩:∃n:Nat,v.ah=(n:Int):=⟨v.ah.toNat,by grind[cC]⟩
   have f:=z ⟨v.ah,d⟩ (by grind);simp only at f;unfold reachBytes at f;have w:=nW (n:=n) (by grind);rw[x0];rw[j,d5,aN,j8 (by grind),po (by grind)];simp only[bg,ay];have g:aQ 0 ([⟨(n:Int),d⟩]:List cG).length=true:=bu (k:=0) (by simp);simp only[CI,tR];rw[ad (js)];grind
set_option maxHeartbeats 400000 in
theorem adg(H:kQ ts)(aR:cf v):wt v<=1099511627776->∀t,cB ts false t v->p8 ts v t:=by
 induction aR with
 |mk v hs h1 K az Z G P cI V au aX aW aV=>
  intro aU t o L D F a0;have aE:cf v:= .mk v hs h1 K az Z G P cI V au aX;have a3:=gY v;have C:=λx I t=>JL H (G x I) (by have:=gM I;omega) t;have aP:∀x,x∈v.aJ->∀t,(bE ts t x).length<=23089744183296:=λx I t=>JL H (Z x I) (by have:=gM I;omega) t;have B:∀x,x∈v.aq->∀t,cB ts false t x->p8 ts x t:=λx I t=>aV x I (by have:=gM I;omega) t;have aF:=λx I t=>aW x I (by have:=gM I;omega) t;have N:=JL H aE aU t;obtain⟨⟨g1,g2,g3,_⟩,o⟩:=(eI _ _ _).1 o;obtain⟨j,rfl⟩:∃j:Nat,t=(j:Int):=⟨t.toNat,by omega⟩
  have Y:j<ts.length:=by omega
  rw[jT];simp only[bg,ay];rw[ad (bu Y),ade];simp only[bx,aa.bO]at o g3⊢;have E:=br Y aM;have u:=tx (ts:=ts) (j:Int) v;have aS:=@xa ts (j:Int) v;have ak:=@xc ts (j:Int) v;have al:=@xd ts (j:Int) v;have am:=@xe ts (j:Int) v;have Q:=@xf ts (j:Int) v;have an:=@rM ts (j:Int) v;have R:=@rN ts (j:Int) v;have U:=@rO ts (j:Int) v;have ap:=@rP ts (j:Int) v;simp only[bx]at u aS ak al am Q an R U ap;have W:=H.A _ E;have aD:=H.mn _ E;have aA:=H.S _ E;generalize ts.getD j aM=x at*;have ab:¬x.Kind=5->¬x.Kind=6->v.aJ=[]->ej ts (j:Int) v=1+eU ts x.aK v.aq:=λa b c=>by grind
  have J:v.aJ=[]->v.aq=[]->max D (L+ej ts (j:Int) v-1)=max D L:=λa b=>by rw[vC a b];omega
  rcases o with⟨k,p,q,r,g,f,s⟩|⟨k,p,q,r,g,f,s,l,w⟩|⟨k,p,q,r,g,f,s,l⟩|⟨k,p,q,r,g,f,s,l⟩|⟨k,p,q,r,g,f,s,l⟩|⟨k,p,q,r,g,f⟩|⟨k,p,q,r,g,f,s,l,w⟩|⟨k,p,q,r,g,f,s,l,w,av,aZ⟩|⟨k,p,q,r,g,f,s,l,w⟩<;>rw[k]at g3
  . grind
  . have d:=g3.symm;rw[ao (by simp[d]),ad (by simp[d]),ak d,J g f,wv V];simp only[ay];have ar:=Aa V;obtain⟨n,aN⟩:∃n:Nat,gA v.bw=(n:Int):=⟨(gA v.bw).toNat,by unfold gA;split<;>omega⟩
    rw[aN,gR]at ar;rw[aN,EM ar];rfl
  . have d:=g3.symm;rw[ao (by simp[d]),ao (by simp[d]),ad (by simp[d]),al d,J g f]
  . have d:=g3.symm;rw[ao (by simp[d]),ao (by simp[d]),ao (by simp[d]),ad (by simp[d]),am d,J g f]
    obtain⟨n,aN⟩:∃n:Nat,v.ah=(n:Int):=⟨v.ah.toNat,by
     rcases l with⟨y,ag,he⟩|⟨_,_,he⟩
     . have:=aA d y ag;unfold cC at this;omega
     . unfold cC at he;omega⟩
    rw[aN,j8,EM (by omega),gR];rfl
  . have d:=g3.symm;rw[ao (by simp[d]),ao (by simp[d]),ao (by simp[d]),ao (by simp[d]),ad (by simp[d]),Q d];obtain⟨O,aj⟩:=W (.inl d);obtain⟨aI,aL⟩:=h3.1 l;rw[adf (H.T _ E).oR O aj s aI (λy ag=>P y ag) C (λi G=>B _ (br (by omega) aH) _ (aL i G)) (by rw[<-Q d];exact N) L (max D L) F (by omega) (by omega) (by omega)];simp only[ay];rw[ad d,ad f]at u;have e:max (max D L) (L+hV ts x.af v.aq)=max D (L+ej ts (j:Int) v-1):=Ct (QM u);rw[e]
  . have d:=g3.symm;rw[ao (by simp[d]),ao (by simp[d]),ao (by simp[d]),ao (by simp[d]),ao (by simp[d]),ad (by simp[d]),an d];obtain⟨O,aj⟩:=W (.inr d);rw[ao (show ¬x.Kind=5 by omega),ad d,ad g]at u;rw[aah (gq (mS (H.T _ E).og)) O au f (λy ag=>P y ag) C B L (max D L) F (by omega) (by omega)];simp only[ay]
    exact dd (λz:Nat=>some (dL v.ah.toNat++(match cD x.af v.ah with
     |some m=>(bG ts m.aB v.aq).headD []
     |none=>(v.Rest.map cG.Data).headD []),ts,(z:Int))) (Ct (D:=D) (L:=L) (QM u))
  . have d:=g3.symm;rw[ao (by simp[d]),ao (by simp[d]),ao (by simp[d]),ao (by simp[d]),ao (by simp[d]),ao (by simp[d]),ao (by simp[d])];have o:=cO.1 w;rw[R d]at N;have:=Mg (x:=x) (v:=v) (by omega) (λy ag=>by have:=C y ag x.aK;omega) (λy ag=>B y ag x.aK (o y ag)) K L F (by omega) v.aq.length 0 (max D L) [] (by omega) (by omega) (by simp only[j2,kE];omega);have h0:lY ((L:Int),v.aq,(v.aq.length:Int),0,ts,((max D L:Nat):Int),v,x,[])=_:=this;rw[h0];simp only[ay,FM];have ae:=ab (by omega) (by omega) f;have e:max (max D L) (L+eU ts x.aK v.aq)=max D (L+ej ts (j:Int) v-1):=Ct ae;rw[R d,j2,iP,e]
  . have d:=g3.symm;rw[ao (by simp[d]),ao (by simp[d]),ao (by simp[d]),ao (by simp[d]),ao (by simp[d]),ao (by simp[d]),ao (by simp[d])];have o:=cO.1 av;have X:=cO.1 w;rw[U d]at N;obtain⟨a4,a5⟩:=aD d;have aO:∀y,y∈v.aJ->ej ts x.Key y=1:=λy ag=>by
     obtain⟨⟨_,_,aY,_⟩,b⟩:=(eI _ _ _).1 (X y ag);apply vC<;>grind
    have:=Nb (x:=x) (v:=v) d l (λy ag=>by have:=C y ag x.aK;omega) (λy ag=>by have:=aP y ag x.Key;omega) (λy ag=>B y ag x.aK (o y ag)) (λy ag=>aF y ag x.Key (X y ag)) aO K L F (by omega) v.aq.length 0 (max D L) [] (by omega) (by omega) (by simp only[j2,kE];omega);have h0:lY ((L:Int),v.aq,(v.aq.length:Int),0,ts,((max D L:Nat):Int),v,x,[])=_:=this;rw[h0];simp only[ay,FM];rw[ao (show ¬x.Kind=5 by omega),ao (show ¬x.Kind=6 by omega)]at u;simp only[j2,iP];have e:max (max D L) _=max D (L+ej ts (j:Int) v-1):=Ct u;rw[U d,e]
  . have d:=g3.symm;rw[ao (by simp[d]),ao (by simp[d]),ao (by simp[d]),ao (by simp[d]),ao (by simp[d]),ao (by simp[d]),ad (by simp[d]),ap d];have o:=cO.1 w
    match M:v.aq,l with
    |[],_=>rw[ad (by simp),J f M,bG]
    |[y],_=>
     have ag:y∈v.aq:=by rw[M];exact .head _
     have aG:aQ 0 ([y]:List aa).length=true:=bu (k:=0) (by simp);rw[c2,ad aG];have a2:=gM ag;have eO:=B y ag x.aK (o y ag) (L+1) (max D L) (by omega) (by omega);have aC:aT .i64 (L:Int) 1=((L+1:Nat):Int):=cg;rw[aC];simp only[CI,tR];rw[eO];have ai:=C y ag x.aK;simp only[ay];rw[ad (js (by simp;omega))];have ae:=ab (by omega) (by omega) f;rw[M]at ae;have a1:=qW (ts:=ts) x.aK y;have ax:eU ts x.aK [y]=ej ts x.aK y:=by
      have ds:eU ts x.aK []=0:=by rw[eU]
      rw[eU,ds];omega
     have aw:bG ts x.aK [y]=[bE ts x.aK y]:=by rw[bG,bG]
     rw[ax]at ae;have e:max (max D L) (L+1+ej ts x.aK y-1)=max D (L+ej ts (j:Int) v-1):=agd ae;rw[aw,e];rfl
    |a::b::c,h=>simp at h
end
theorem eW.pV{a b:α}(h:eR o a b):eW o (a=b):=h
theorem FL{j k l:Option Bool}{f g i:Prop}(h1:eW j f)(d:eW k g)(e:eW l i):
 eW (j>>=λm=>(if m then k else some false)>>=λn=>some (bif m then n else false)>>=λt53=>(if t53 then l else some false)>>=λo=>some (bif t53 then o else false)) (f/\g/\i):=by
 obtain⟨a,rfl,h1⟩:=h1;obtain⟨b,rfl,d⟩:=d;obtain⟨c,rfl,e⟩:=e;rw[<-h1,<-d,<-e];cases a<;>cases b<;>cases c<;>exact⟨_,rfl,by simp⟩
theorem Oq(h:eW o P):eW (o>>=λr=>some r) P:=by grind
def pq(b:Bool)(a:List aU):Prop:=(∀m,m∈a->uD b m=false)/\(b=false\/0<a.length)/\ha a/\(∀m,m∈a->nm m.Name=true)/\(a.map (·.Name)).Nodup/\a.length<=16
def Ab(S:List dO):Prop:=0<S.length/\(S.Pairwise (λa b=>a.ah<b.ah)/\∀y,y∈S->cC y.ah)/\(∀y,y∈S->nm y.Name=true)/\(S.map (·.Name)).Nodup/\S.length<=16
theorem Zm{l:List ar}:l.Nodup↔∀i,i<l.length->(l.take i).contains (l.getD i [])=false:=by
 grind[List.pairwise_iff_getElem,SX]
theorem Nz(f:α->Int)(g:α->ar)(d:α)(l:List α):(∀i,i<l.length->pJ (l.map f) (l.map g) i=true)↔(l.Pairwise (λa b=>f a<f b)/\∀x,x∈l->cC (f x))/\(∀x,x∈l->nm (g x)=true)/\(l.map g).Nodup:=by
 rw[D9 f d,Zm];have key:∀i,i<l.length->(pJ (l.map f) (l.map g) i=true↔cC (f (l.getD i d))/\(i=0\/f (l.getD (i-1) d)<f (l.getD i d))/\nm (g (l.getD i d))=true/\((l.map g).take i).contains ((l.map g).getD i [])=false):=by
  grind[pJ,cC]
 constructor
 . intro h;refine⟨⟨λi c=>?_,λx I=>?_⟩,λx I=>?_,λi c=>?_⟩
   . grind
   . grind[List.getElem_of_mem]
   . grind[List.getElem_of_mem]
   grind
 . rintro ⟨⟨h1,j⟩,k,m⟩ i c
   refine(key i c).2 ⟨j _ (br c d),?_,k _ (br c d),m i (by grind)⟩;by_cases h0:i=0
   . omega
   . have e:i-1+1=i:=(by omega);grind
theorem Mh{t:aj}(h:iY t):eW (vn t) ((∀m,m∈t.af->uD (decide (t.Kind=6)) m=false)/\(t.Kind=5\/0<t.af.length)/\ha t.af/\(∀m,m∈t.af->nm m.Name=true)/\(t.af.map (·.Name)).Nodup/\t.af.length<=16):=by
 obtain⟨r,h1,a⟩:=Zj h;refine⟨r,h1,a.trans ?_⟩;rw[Nz _ _ aG];grind[List.getElem_of_mem,ha]
theorem aai{l:List dO}(ae:l.length*24<=reachBytes):eW (yg l) (Ab l):=by
 obtain⟨r,h1,a⟩:=ac8 ae;refine⟨r,h1,a.trans ?_⟩;rw[Nz _ _ fE];grind[Ab]
def gB(t:aj):Prop:=
 (t.Kind=1/\t.Name=[]/\t.bT=0/\t.bW=0/\t.Max=0/\t.bo=[]/\t.af=[]/\t.Key=0/\t.aK=0/\t.Open=false)\/
 (t.Kind=2/\t.Name=[]/\t.bT<=t.bW/\t.Max=0/\t.bo=[]/\t.af=[]/\t.Key=0/\t.aK=0/\t.Open=false)\/
 (t.Kind=3/\t.Name=[]/\t.bT=0/\t.bW=0/\(0<=t.Max/\t.Max<=200)/\t.bo=[]/\t.af=[]/\t.Key=0/\t.aK=0/\t.Open=false)\/
 (t.Kind=4/\nm t.Name=true/\t.bT=0/\t.bW=0/\t.Max=0/\Ab t.bo/\t.af=[]/\t.Key=0/\t.aK=0)\/
 (t.Kind=5/\nm t.Name=true/\t.bT=0/\t.bW=0/\t.Max=0/\t.bo=[]/\pq false t.af/\t.Key=0/\t.aK=0/\t.Open=false)\/
 (t.Kind=6/\nm t.Name=true/\t.bT=0/\t.bW=0/\t.Max=0/\t.bo=[]/\pq true t.af/\t.Key=0/\t.aK=0)\/
 (t.Kind=7/\t.Name=[]/\t.bT=0/\t.bW=0/\(0<=t.Max/\t.Max<=50)/\t.bo=[]/\t.af=[]/\t.Key=0/\t.Open=false)\/
 (t.Kind=8/\t.Name=[]/\t.bT=0/\t.bW=0/\(0<=t.Max/\t.Max<=50)/\t.bo=[]/\t.af=[]/\t.Open=false)\/
 (t.Kind=9/\t.Name=[]/\t.bT=0/\t.bW=0/\t.Max=0/\t.bo=[]/\t.af=[]/\t.Key=0/\t.Open=false)
theorem aaj{t:aj}(h:iY t):eW (Ds t) (gB t):=by
 obtain⟨d,N,L,H,M,S,c,K,E,b⟩:=t;have aA:=h.syms;have e:=h.og;have f:=h.oR;simp only at aA e f;by_cases k1:d=1
 . subst k1;have a:=pE (a:=(⟨0,N,L,H,M,S,c,K,E,b⟩:aj)) ⟨aA,e,f⟩ (⟨0,[],0,0,0,[],[],0,0,false⟩:aj);refine(Oq (eW.pV a)).imp ?_;unfold gB;simp
 by_cases k2:d=2
 . subst k2;have a:=pE (a:=(⟨0,N,0,0,M,S,c,K,E,b⟩:aj)) ⟨aA,e,f⟩ (⟨0,[],0,0,0,[],[],0,0,false⟩:aj);refine(AM (q:=decide (L<=H)) (Q:=L<=H) (by simp) (eW.pV a)).imp ?_;unfold gB;grind
 by_cases k3:d=3
 . subst k3;have a:=pE (a:=(⟨0,N,L,H,0,S,c,K,E,b⟩:aj)) ⟨aA,e,f⟩ (⟨0,[],0,0,0,[],[],0,0,false⟩:aj);refine(AM (Q:=0<=M/\M<=200) (by by_cases g:0<=M<;>simp[g]) (eW.pV a)).imp ?_;unfold gB;grind
 by_cases k4:d=4
 . subst k4;have a:=pE (a:=(⟨0,[],L,H,M,[],c,K,E,false⟩:aj)) ⟨by simp,e,f⟩ (⟨0,[],0,0,0,[],[],0,0,false⟩:aj);refine(FL (⟨nm N,Cp N,Iff.rfl⟩:eW (lh N) (nm N=true)) (aai aA) (eW.pV a)).imp (Q:=gB ⟨4,N,L,H,M,S,c,K,E,b⟩) ?_;unfold gB;grind
 by_cases k5:d=5
 . subst k5;have a:=pE (a:=(⟨0,[],L,H,M,S,[],K,E,bif b then decide ((5:Int)=5)else false⟩:aj)) ⟨aA,by simp,by simp⟩ (⟨0,[],0,0,0,[],[],0,0,false⟩:aj);refine(FL (⟨nm N,Cp N,Iff.rfl⟩:eW (lh N) (nm N=true)) (Mh h) (eW.pV a)).imp ?_;unfold gB pq;grind
 by_cases k6:d=6
 . subst k6;have a:=pE (a:=(⟨0,[],L,H,M,S,[],K,E,bif b then decide ((6:Int)=5)else false⟩:aj)) ⟨aA,by simp,by simp⟩ (⟨0,[],0,0,0,[],[],0,0,false⟩:aj);refine(FL (⟨nm N,Cp N,Iff.rfl⟩:eW (lh N) (nm N=true)) (Mh h) (eW.pV a)).imp (Q:=gB ⟨6,N,L,H,M,S,c,K,E,b⟩) ?_;unfold gB pq;grind
 by_cases k7:d=7
 . subst k7;have a:=pE (a:=(⟨0,N,L,H,0,S,c,K,0,b⟩:aj)) ⟨aA,e,f⟩ (⟨0,[],0,0,0,[],[],0,0,false⟩:aj);refine(AM (Q:=0<=M/\M<=50) (by by_cases g:0<=M<;>simp[g]) (eW.pV a)).imp (Q:=gB ⟨7,N,L,H,M,S,c,K,E,b⟩) ?_;unfold gB;grind
 by_cases k8:d=8
 . subst k8;have a:=pE (a:=(⟨0,N,L,H,0,S,c,0,0,b⟩:aj)) ⟨aA,e,f⟩ (⟨0,[],0,0,0,[],[],0,0,false⟩:aj);refine(AM (q:=bif decide (0<=M)then decide (M<=50)else false) (Q:=0<=M/\M<=50) (by by_cases g:0<=M<;>simp[g]) (eW.pV a)).imp (Q:=gB ⟨8,N,L,H,M,S,c,K,E,b⟩) ?_;unfold gB;grind
 by_cases k9:d=9
 . subst k9;have a:=pE (a:=(⟨0,N,L,H,M,S,c,K,0,b⟩:aj)) ⟨aA,e,f⟩ (⟨0,[],0,0,0,[],[],0,0,false⟩:aj);refine(Oq (eW.pV a)).imp (Q:=gB ⟨9,N,L,H,M,S,c,K,E,b⟩) ?_;unfold gB;simp
 refine⟨false,by simp[Ds,k1,k2,k3,k4,k5,k6,k7,k8,k9],?_⟩;unfold gB;grind
structure p7 (ts:List aj):Prop where
 n:ts.length<=32
 F:∀t,t∈ts->gB t
 D:∀i,i<ts.length->(!(decide ((ts.getD i aM).Name=[]))&&((ts.map (·.Name)).take i).contains (ts.getD i aM).Name)=false
 U:∀t,t∈ts->∀u,u∈fI t->0<=u/\u<ts.length
 mn:∀t,t∈ts->t.Kind=8->1<=(ts.getD t.Key.toNat aM).Kind/\(ts.getD t.Key.toNat aM).Kind<=4
theorem sV(ee:∀t,t∈ts->iY t)(h:p7 ts):nR (⟨ts⟩:bq)=some 0/\True:=by
 refine⟨?_,trivial⟩;have aN:=h.n;have key:∀k i:Nat,i+k=ts.length->q9 (ts,(ts.length:Int),(i:Int),ts,lB ((ts.map (·.Name)).take i))=some (.inr ()):=by
  intro k;induction k with
  |zero=>intro i g;rw[q9,ev]
  |succ k ih=>
   intro i g;have aE:i<ts.length:=(by omega);have a:=br aE aM;have c:=ee _ a;obtain⟨r,f1,f2⟩:=aaj c;have p:r=true:=f2.2 (h.F _ a);subst p;have u:=h.D i aE;have v:=h.U _ a;have e:=h.mn _ a;rw[q9,dc,ad (bu aE)];simp only[bg,ay,bx];have q:iH (lB ((ts.map (·.Name)).take i)) (ts.getD i aM).Name=lB ((ts.map (·.Name)).take (i+1)):=by
    grind[Lh]
   generalize ts.getD i aM=t at*;rw[f1];simp only[ay,Lg];have f:¬((bif (!(decide (t.Name=[])))then((ts.map (·.Name)).take i).contains t.Name else false)=true):=(by grind);rw[ao (show ¬((bif (!true)then true else bif (!(decide (t.Name=[])))then((ts.map (·.Name)).take i).contains t.Name else false)=true)from f),ac' c.og];simp only[ay];have w:=aaf c.og;have d:(fI t).any (zV ts.length)=false:=(by grind[List.any_eq_false,zV]);have l:=aaP (λj=>o7 (ts,(ts.length:Int),(i:Int),fI t,((fI t).length:Int),(j:Int),ts,iH (lB ((ts.map (·.Name)).take i)) t.Name,t.Kind,t.Name,t.bT,t.bW,t.Max,t.bo,t.af,t.Key,t.aK,t.Open)) (fI t) (zV ts.length) (.inl 4)
    (.inr (ts,(ts.length:Int),(i:Int),ts,iH (lB ((ts.map (·.Name)).take i)) t.Name,t.Kind,t.Name,t.bT,t.bW,t.Max,t.bo,t.af,t.Key,t.aK,t.Open))
    (λj m=>by
     rw[o7,ad (by grind),ad (bu m),cg]
     rfl)
    (by simp_all[o7,ao])
   have ds:o7 (ts,(ts.length:Int),(i:Int),fI t,((fI t).length:Int),((0:Nat):Int),ts,iH (lB ((ts.map (·.Name)).take i)) t.Name,t.Kind,t.Name,t.bT,t.bW,t.Max,t.bo,t.af,t.Key,t.aK,t.Open)=o7 (ts,(ts.length:Int),(i:Int),fI t,((fI t).length:Int),0,ts,iH _ t.Name,t.Kind,t.Name,t.bT,t.bW,t.Max,t.bo,t.af,t.Key,t.aK,t.Open):=rfl;rw[<-ds,l,d];simp only[cJ,cE,ay];rw[q,cg,ih (i+1) (by omega)];by_cases b:t.Kind=8
   . have o:=adE d b;have s:=e b;simp only[b,dB,o];grind
   grind
 have h0:q9 (ts,(ts.length:Int),0,ts,[])=some (.inr ()):=key ts.length 0 (by omega);rw[nR,ev];simp only[];rw[h0];rfl
theorem p7.ie(ee:∀t,t∈ts->iY t)(h:p7 ts):kQ ts:=by
 refine⟨by have:=h.n;omega,ee,λt ht=>?_,λt ht m c=>?_,λt ht e=>?_,λt ht e y ag=>?_,h.mn⟩
 . have:=h.F t ht;grind[gB,u']
 . have:=h.F t ht;unfold gB at this;have:pq false t.af\/pq true t.af:=(by grind);rcases this with a|a
   . exact(a.2.2.1.2 m c).2
   . exact(a.2.2.1.2 m c).2
 . have:=h.F t ht;unfold gB at this;have:pq false t.af\/pq true t.af:=(by grind);rcases this with a|a
   . exact⟨a.2.2.1,a.2.2.2.2.2⟩
   . exact⟨a.2.2.1,a.2.2.2.2.2⟩
 . have:=h.F t ht;unfold gB at this;have:Ab t.bo:=(by grind);exact this.2.1.2 y ag
def adG(ts:List aj)(ms:List aU):Prop:=∀m,m∈ms->m.b8=true->cB ts true m.aB m.bU
theorem adk{t u:aD}{r:List aD}{h:aP bP.D (t::u::r)}(b:Ok bP (t::u::r) h):∀d,d∈t.row bP h.1->WF bP d:=λd a=>b ⟨t,h.1⟩ (GI ..) d a
theorem adl{t u:aD}{r:List aD}{h:aP bP.D (t::u::r)}(e:Ok bP (t::u::r) h):Ok bP (u::r) h.2:=λc a d b=>e c (Cy _ a) d b
theorem adh(H:kQ ts)(b:cf v)(c:wt v<=1099511627776)(a:cB ts false t v):
 jT (t,v,1,ts,0)=some (bE ts t v,ts,((ej ts t v:Nat):Int)):=by
 have h:=adg H b c t a 1 0 (by omega) (by omega);have ai:=qW (ts:=ts) t v;have e:max 0 (1+ej ts t v-1)=ej ts t v:=by omega
 rw[e]at h;exact h
noncomputable def qg (ts:List aj)(t:Int)(v:aa):ar×Int:=
 if 4096<(bE ts t v).length\/200<ej ts t v then([],3)else(bE ts t v,0)
abbrev fq:=dk
abbrev eJ:=bp
abbrev aep:=iL
theorem wB{a:Int}(h:¬a=0):(!(decide (a=0)))=true:=by grind
theorem hc{x m:Int}(h:0<=x:=by omega)(a:0<=m:=by omega):cd x m=x%m:=by grind[cd]
theorem adm{x:Int}(h:0<=x)(a:x<=255):iC .u8 x 4=x/4:=by
 grind[iC,IntKind.wrap_u8]
theorem kr{x:Int}(h:cq x):b7 .i64 x=x:=by
 grind[b7,cq,IntKind.wrap_i64]
theorem Kq{k:Int}(h:0<=k/\k<=25):mT (b7 .i32 (aT .i64 97 k))=[UInt8.ofNat (97+k.toNat)]:=by
 have key:∀k:Nat,k<26->mT (b7 .i32 (aT .i64 97 k))=[UInt8.ofNat (97+k)]:=by decide+kernel
 grind
theorem adn{k:Int}(h:0<=k/\k<=25):mT (b7 .i32 (aT .i64 65 k))=[UInt8.ofNat (65+k.toNat)]:=by
 have key:∀k:Nat,k<26->mT (b7 .i32 (aT .i64 65 k))=[UInt8.ofNat (65+k)]:=by decide+kernel
 grind
theorem Lm{s:ar}(h0:s≠[])(ae:s.length<=24)(h:∀i:Nat,i<s.length->pD (h4 s i)=true):nm s=true:=by
 have key:∀k i,i+k=s.length->lN (s,s.length,i)=some (.inr ()):=by
  intro k;induction k with
  |zero=>simp_all[lN]
  |succ k ih=>
   intro i b;rw[lN,ad (by grind),ad (hY),EE,h i (by omega)];simp only[bg,ay];rw[ad (by simp),cg];exact ih _ (by omega)
 have a:=tQ.2 h0;have c:=bu a;have d:=key s.length 0 (by simp);grind[nm,lh,EE]
theorem ado{c:Nat}(h:65<=c/\c<=90\/97<=c/\c<=122):nm [UInt8.ofNat c]=true:=by
 grind[Lm,yF,nT,pD]
theorem Ot{b c:Nat}(a:97<=b/\b<=122)(h:97<=c/\c<=122):nm [UInt8.ofNat b,UInt8.ofNat c]=true:=by
 grind[Lm,yF,nT,pD]
def db(x:Int):Prop:=0<=x/\x<=255
structure oH (x:fq):Prop where
 k:db x.Kind
 a:db x.A
 b:db x.B
 c:db x.C
 p:∀q,q∈x.cY->db q.ah/\db q.aB/\db q.g'
 l:x.cY.length<=reachBytes
def ef(aF:List fq)(i:Int):Int:=1+(aF.getD i.toNat eJ).Kind%9
section
variable {aF:List fq}(cp:∀x,x∈aF->oH x)(bj:aF.length<=5)
include cp bj in
theorem rk{i:Int}(h0:0<=i)(h1:i<aF.length):q8 ((⟨aF⟩:en),i)=some (ef aF i)/\1<=ef aF i/\ef aF i<=9:=by
 obtain⟨j,rfl⟩:∃j:Nat,i=j:=⟨i.toNat,by omega⟩
 have I:=(cp _ (br (by omega:j<aF.length) eJ)).k;unfold ef;obtain⟨a,b⟩:=I;refine⟨?_,by omega,by omega⟩;rw[q8,ad (bu (by omega:j<aF.length)),bx,hc a (by simp),kr ⟨by omega,by omega⟩,jX]
def FH(aF:List fq)(i u:Int):Prop:=0<=u/\u<aF.length/\(7<=ef aF u\/u<i)
include cp bj in
theorem Mi:∀(k i:Nat),i+k=aF.length->nF ((aF.length:Int),(i:Int),aF)=some (.inr ())\/∃u:Int,nF ((aF.length:Int),(i:Int),aF)=some (.inl u)/\0<=u/\u<aF.length/\7<=ef aF u
 |0,i,a=>.inl (by grind[nF])
 |k+1,i,a=>by
  obtain⟨e,_,_⟩:=rk cp bj (i:=i) (by simp) (by omega);rw[nF,ad (by grind),e];simp[x5];by_cases b:7<=ef aF i
  . grind
  . rw[ao (by grind),cg];exact Mi k _ (by omega)
include cp bj in
theorem aak(h1:1<=aF.length){i:Int}(n:0<=i/\i<aF.length)(k:db code):∃u,x6 ((⟨aF⟩:en),i,code)=some u/\(u<0\/FH aF i u):=by
 have l:b7 .i64 code=code:=kr ⟨by grind[db],by grind[db]⟩;obtain⟨g,m⟩:=k;have d:0<=code%(aF.length:Int):=lz _ (by omega);have f:code%aF.length<aF.length:=lx _ (by omega);rw[x6];simp only[bg,ay];rw[ad (wB (by omega)),l,hc g (by simp)];obtain⟨e,_,_⟩:=rk cp bj d f;rw[e];simp only[ay,x5];by_cases j:7<=ef aF (code%aF.length)
 . rw[ad (by grind)];exact⟨_,rfl,.inr ⟨d,f,.inl j⟩⟩
 . by_cases aE:code%aF.length<i
   . rw[ad (by grind)];exact⟨_,rfl,.inr ⟨d,f,.inr aE⟩⟩
   . rw[ao (by grind)];by_cases ai:0<i
     . rw[ad (by grind),ad (by grind),hc d];have a0:0<=code%aF.length%i:=lz _ (by omega);have a1:code%(aF.length:Int)%i<i:=lx _ (by omega);exact⟨_,rfl,.inr ⟨a0,by omega,.inr a1⟩⟩
     . rw[ao (by grind)];have h0:=Mi cp bj aF.length 0 (by simp);have ds:nF (aF.length,(0:Nat),aF)=nF ((aF.length:Int),0,aF):=rfl;rw[ds]at h0;rcases h0 with h|⟨u,h,a,b,c⟩
       . grind
       . rw[h];exact⟨u,rfl,.inr ⟨a,b,.inl c⟩⟩
def oF(aF:List fq)(u:Int):Prop:=0<=u/\u<aF.length/\1<=ef aF u/\ef aF u<=4
include cp bj in
theorem Ou{code:Int}(l:db code)(h1:1<=aF.length):∀(k i:Nat),i+k=aF.length->(nJ (code,(aF.length:Int),(i:Int),aF)=some (.inr ())/\∀m:Nat,i<=m->m<aF.length->¬oF aF ((code+m)%(aF.length:Int)))\/∃u:Int,nJ (code,(aF.length:Int),(i:Int),aF)=some (.inl u)/\oF aF u
 |0,i,n=>.inl ⟨by simp_all[nJ],λm a b=>by omega⟩
 |k+1,i,n=>by
  obtain⟨f,g⟩:=l;have c:0<=(code+i)%aF.length:=lz _ (by omega);have d:(code+i)%aF.length<aF.length:=lx _ (by omega);obtain⟨e,aC,qe⟩:=rk cp bj c d;rw[nJ,ad (by grind),ad (wB (by omega)),kr ⟨by omega,by omega⟩,jX,hc (by omega) (by simp)];simp;rw[e];simp only[ay,Hj];by_cases j:ef aF ((code+i)%aF.length)<=4
  . rw[ad (by grind)];exact .inr ⟨_,rfl,c,d,aC,j⟩
  . rw[ao (by grind),cg];rcases Ou ⟨f,g⟩ h1 k (i+1) (by omega)with⟨a,b⟩|h
    . refine .inl ⟨a,λm p q=>?_⟩;by_cases o:m=i
      . rintro ⟨_,_,_,h⟩;grind
      grind
    grind
include cp bj in
theorem Ov(b:db code)(h1:1<=aF.length):∃u,sE ((⟨aF⟩:en),code)=some u/\((u= -1/\∀w,¬oF aF w)\/oF aF u):=by
 rw[sE];have h0:=Ou cp bj b h1 aF.length 0 (by simp);have ds:nJ (code,aF.length,(0:Nat),aF)=nJ (code,(aF.length:Int),0,aF):=rfl;rw[ds]at h0;rcases h0 with⟨h,a⟩|⟨u,h,a⟩
 . rw[h];refine⟨-1,rfl,.inl ⟨rfl,λw c=>?_⟩⟩;have d:=c;obtain⟨iU,i,_⟩:=d;have f:0<=(w-code)%aF.length:=lz _ (by omega);have g:(w-code)%aF.length<aF.length:=lx _ (by omega);have e:(code+((w-code)%(aF.length:Int)).toNat)%aF.length=w:=by
    grind[Int.add_emod_emod,Int.emod_eq_of_lt]
   grind
 grind
theorem Ks{x:fq}(h:oH x):o9 x=some (x.A%7-3):=by
 have:=h.a;rw[o9,hc this.1 (by simp),kr ⟨by omega,by omega⟩,kY]
theorem NA{x:fq}(h:oH x):tn x=some (x.A%7-3+x.B%6):=by
 have a:=h.b;rw[tn,Ks h];simp;rw[hc a.1 (by simp),kr ⟨by omega,by omega⟩,jX]
def uq(l:au)(n:Int):Prop:=l.Pairwise (· < ·)/\∀x,x∈l->1<=x/\x<=n
theorem Ku{x:fq}:∀(k i:Nat) (acc:au),i+k=6->uq acc i->acc.length<=i->∃l,o5 ((i:Int),x,acc)=some l/\uq l 6/\l.length<=6
 |0,i,acc,e,c,ae=>⟨acc,by simp_all[o5,ao],⟨c.1,λy ag=>by have:=c.2 y ag;omega⟩,by omega⟩
 |k+1,i,acc,e,c,ae=>by
  have d:uq acc (i+1:Int):=⟨c.1,λy ag=>by have:=c.2 y ag;omega⟩
  rw[o5,ad (by grind),ad (by rfl)];simp only[bg,ay];rw[cg];split
  . rw[ad (dv (by simp) (by grind))];refine Ku k (i+1) _ (by omega) ⟨?_,λy ag=>?_⟩ (by grind)
    . rw[GG];refine⟨c.1,by simp,λa h1 b f=>?_⟩;have:=c.2 a h1;grind
    . rcases fH.1 ag with h|h
      . have:=c.2 y h;omega
      grind
  . exact Ku k _ _ (by omega) d (by omega)
theorem adp(x:fq):∃l,nL x=some l/\uq l 6/\1<=l.length/\l.length<=6:=by
 obtain⟨l,h1,c,d⟩:=Ku 6 0 [] (by rfl) ⟨.nil,λy ag=>by grind⟩ (by simp);have b:o5 (0,x,[])=some l:=h1;rw[nL,b];cases l with
 |nil=>
  exact⟨_,rfl,⟨by simp,λy ag=>by grind⟩,by simp,by simp⟩
 |cons a l=>grind
def j0(x:fq):au:=(nL x).getD []
theorem u5(x:fq):nL x=some (j0 x)/\uq (j0 x) 6/\1<=(j0 x).length/\(j0 x).length<=6:=by
 obtain⟨l,h1,a⟩:=adp x;grind[j0]
def mm(k:Int)(x:fq)(key:Prop)(v:aa):Prop:=
 v.aJ=[]/\v.aq=[]/\v.Rest=[]/\
 (k=1/\v.Kind=1/\v.bw=0/\v.bH=[]/\v.ah=0\/
  k=2/\v.Kind=2/\v.b9=false/\v.bH=[]/\v.ah=0/\x.A%7-3<=v.bw/\v.bw<=x.A%7-3+x.B%6\/
  k=3/\v.Kind=3/\v.b9=false/\v.bw=0/\v.ah=0/\(v.bH.length:Int)<=x.A%4\/
  k=4/\v.Kind=4/\v.b9=false/\v.bw=0/\v.bH=[]/\v.ah∈j0 x\/
  7<=k/\v.b9=false/\v.bw=0/\v.bH=[]/\v.ah=0/\(v.Kind=k/\(k=8->key)\/k=8/\v.Kind=7/\¬key))
def Init(aF:List fq)(t:Int)(v:aa):Prop:=mm (ef aF t) (aF.getD t.toNat eJ) (∃w,oF aF w) v
include cp bj in
theorem Zn(h1:1<=aF.length)(ht:0<=t/\t<aF.length)(m:db code):∃r,yw ((⟨aF⟩:en),t,code)=some r/\(r.2=false->r.1=aH)/\(r.2=true->Init aF t r.1):=by
 obtain⟨j,rfl⟩:∃j:Nat,t=(j:Int):=⟨t.toNat,by omega⟩
 have d:j<aF.length:=by omega
 have I:=cp _ (br d eJ);obtain⟨e,k1,k9⟩:=rk cp bj ht.1 ht.2;obtain⟨u,v,y⟩:=Ov cp bj (code:=0) ⟨by simp,by simp⟩ h1;obtain⟨c,F⟩:=m;rw[yw,ad (bu d)];simp only[bg,ay,bx];rw[e];unfold Init;simp only[bx];have p:=u5 (aF.getD j eJ);generalize ef aF (j:Int)=k at*;generalize aF.getD j eJ=x at*;have l:=I.a;have G:=I.b;have n:k=1\/k=2\/k=3\/k=4\/k=5\/k=6\/k=7\/k=8\/k=9:=by omega
 rcases n with rfl|rfl|rfl|rfl|rfl|rfl|rfl|rfl|rfl
 . exact⟨_,rfl,λh=>(by cases h),λ_=>by unfold mm;simp⟩
 . have el:=Ks I;have i:=NA I;have aC:aT .i64 (dY .i64 (x.A%7-3+x.B%6) (x.A%7-3)) 1=x.B%6+1:=by rw[kY,jX];omega
   have f:cd (b7 .i64 code) (x.B%6+1)=code%(x.B%6+1):=by rw[kr ⟨by omega,by omega⟩,hc c]
   have D:0<=code%(x.B%6+1):=lz _ (by omega);have E:code%(x.B%6+1)<x.B%6+1:=lx _ (by omega);have dw:aT .i64 (x.A%7-3) (code%(x.B%6+1))=x.A%7-3+code%(x.B%6+1):=jX;simp only[Int.reduceEq,ew,dB,cJ,cE,cm,ay,jg,ib];rw[el];rw[i];simp only[ay];rw[aC,dc,f,dw];exact⟨_,rfl,λh=>(by cases h),λ_=>by unfold mm;simp;omega⟩
 . simp only[Int.reduceEq,ew,dB,cJ,cE,cm,ay,jg,ib];rw[hc l.1,hc c];by_cases g:0<x.A%4
   . by_cases g2:code%2=1
     . rw[ad (by simp[g,g2])];exact⟨_,rfl,λh=>(by cases h),λ_=>by unfold mm;simp;omega⟩
     . rw[ao (by simp[g2])];exact⟨_,rfl,λh=>(by cases h),λ_=>by unfold mm;simp;omega⟩
   . rw[ao (by simp[g])];exact⟨_,rfl,λh=>(by cases h),λ_=>by unfold mm;simp;omega⟩
 . obtain⟨C,H,J,K⟩:=p;simp only[Int.reduceEq,ew,dB,cJ,cE,cm,ay,jg,ib];rw[C];simp only[bg,ay];have D:0<=code%((j0 x).length:Int):=lz _ (by omega);have E:code%((j0 x).length:Int)<((j0 x).length:Int):=lx _ (by omega);rw[ad (wB (by omega)),kr ⟨by omega,by omega⟩,hc c];obtain⟨q,s⟩:∃q:Nat,code%((j0 x).length:Int)=(q:Int):=⟨(code%((j0 x).length:Int)).toNat,by omega⟩
   rw[s,ad (hY),bx];exact⟨_,rfl,λh=>(by cases h),λ_=>by unfold mm;simp;rw[<-List.getD_eq_getElem?_getD];exact br (by omega) 0⟩
 . exact⟨_,rfl,λ_=>rfl,λh=>by cases h⟩
 . exact⟨_,rfl,λ_=>rfl,λh=>by cases h⟩
 . exact⟨_,rfl,λh=>(by cases h),λ_=>by unfold mm;simp⟩
 . simp only[Int.reduceEq,ew,dB,cJ,cE,cm,ay,jg,ib];rw[v];rcases y with⟨rfl,a⟩|a
   . exact⟨_,rfl,λh=>(by cases h),λ_=>by unfold mm;simp;exactλw z=>a w z⟩
   . have o:¬u<0:=by have:=a.1;omega
     simp only[bg,ay];rw[ao (by simp[o])];exact⟨_,rfl,λh=>(by cases h),λ_=>by unfold mm;simp;exact⟨u,a⟩⟩
 . exact⟨_,rfl,λh=>(by cases h),λ_=>by unfold mm;simp⟩
structure uu (aF:List fq)(i:Int)(record:Bool)(m:aU):Prop where
 id:1<=m.ah/\m.ah<=12
 name:m.Name=[UInt8.ofNat 109,UInt8.ofNat (97+m.ah.toNat)]
 rK:FH aF i m.aB
 eL:m.cu=true->m.b8=false
 un:record=false->m.cu=false/\m.b8=false
 QO:m.b8=false->m.bU=aH
 jZ:m.b8=true->Init aF m.aB m.bU
include cp bj in
theorem Nc(h1:1<=aF.length){i:Int}(f:0<=i/\i<aF.length){x:fq}(I:oH x)(c:Bool){id:Int}(hid:1<=id/\id<=12){acc:List aU}(o:acc.length<=12):
 ∀(k j:Nat),j+k=x.cY.length->∃l,qt (i,c,id,(j:Int),aF,x,acc)=some (i,c,id,aF,x,acc++l)/\l.length<=1/\∀m,m∈l->m.ah=id/\uu aF i c m
 |0,j,q=>⟨[],by rw[qt,ev];simp,by simp,λm s=>by cases s⟩
 |k+1,j,q=>by
  have aE:j<x.cY.length:=by omega
  have J:=gq I.l;obtain⟨A,B,C⟩:=I.p _ (br aE aep);obtain⟨u,w,K⟩:=aak cp bj h1 f B;rw[qt,dc,ad (bu aE)];simp only[bg,ay,bx];have z:x6 ((⟨aF⟩:en),i,(x.cY.getD j iL).aB)=some u:=w;rw[z];simp only[ay];generalize ai:x.cY.getD j iL=p;have L:db p.ah:=by rw[<-ai];exact A
  have D:db p.g':=by rw[<-ai];exact C
  obtain⟨f1,f2⟩:=D;have aC:cd p.g' 4=p.g'%4:=hc f1;have n:iC .u8 p.g' 4=p.g'/4:=adm f1 f2;have H:=Nc h1 f I c hid o k (j+1) (by omega);by_cases g:(bif (!(decide (aT .i64 1 (b7 .i64 (cd p.ah 12))=id)))then true else decide (u<0))=true
  . rw[ad g,cg];exact H
  . rw[ao g];have d:FH aF i u:=(by grind);have v:=Kq (k:=id) ⟨by omega,by omega⟩;rw[v];have t:([109]++[UInt8.ofNat (97+id.toNat)]:ar)=[UInt8.ofNat 109,UInt8.ofNat (97+id.toNat)]:=rfl;rw[ad (js (by simp)),t,aC,n];obtain⟨r,E,F,G⟩:=Zn cp bj h1 ⟨d.1,d.2.1⟩ (code:=p.g'/4) ⟨by omega,by omega⟩;have e:∀m:aU,room 160 (acc++[m]).length=true:=λm=>dv;have done:∀m:aU,m.ah=id->uu aF i c m->∃l,(some (i,c,id,aF,x,acc++[m]):Option (Int×Bool×Int×List fq×fq×List aU))=some (i,c,id,aF,x,acc++l)/\l.length<=1/\∀m,m∈l->m.ah=id/\uu aF i c m:=λm a b=>⟨[m],rfl,by simp,λy ag=>by grind⟩
    cases c with
    |false=>
     simp only[jg,cJ,cE];rw[ad (e _)];exact done _ rfl ⟨hid,rfl,d,λh=>(by cases h),λ_=>⟨rfl,rfl⟩,λ_=>rfl,λh=>by cases h⟩
    |true=>
     simp only[ib];by_cases g1:p.g'%4=1
     . rw[ad (by simpa using g1),ev,ad (e _)];exact done _ rfl ⟨hid,rfl,d,λ_=>rfl,λh=>(by cases h),λ_=>rfl,λh=>by cases h⟩
     . rw[ao (by simpa using g1)];by_cases g2:2<=p.g'%4
       . rw[ad (by simpa using g2),E];simp only[ay,aa.bO];rw[ad (e _)];exact done _ rfl ⟨hid,rfl,d,λh=>(by cases h),λh=>(by cases h),F,G⟩
       . rw[ao (by simpa using g2),ad (e _)];exact done _ rfl ⟨hid,rfl,d,λh=>(by cases h),λh=>(by cases h),λ_=>rfl,λh=>by cases h⟩
def uv(aF:List fq)(i:Int)(c:Bool)(l:List aU):Prop:=l.Pairwise (λa b=>a.ah<b.ah)/\(∀m,m∈l->uu aF i c m)/\l.length<=12
include cp bj in
theorem Nd(h1:1<=aF.length){i:Int}(g:0<=i/\i<aF.length){x:fq}(I:oH x)(d:Bool):∀(k id:Nat) (acc:List aU),id+k=13->1<=id->
 acc.Pairwise (λa b=>a.ah<b.ah)->(∀m,m∈acc->uu aF i d m/\m.ah<id)->acc.length<id->∃l,qx (i,d,(id:Int),aF,x,acc)=some l/\uv aF i d l
 |0,id,acc,n,h0,e,f,ae=>⟨acc,by rw[qx,ev],e,λm j=>(f m j).1,by omega⟩
 |k+1,id,acc,n,h0,e,f,ae=>by
  rw[qx,dc];obtain⟨l,o,l2,s⟩:=Nc cp bj h1 g I d (id:=(id:Int)) ⟨by omega,by omega⟩ (acc:=acc) (by omega) x.cY.length 0 (by omega);have p:qt (i,d,(id:Int),0,aF,x,acc)=_:=o;rw[p];simp only[bg,ay];rw[cg];refine Nd h1 g I d k (id+1) _ (by omega) (by omega) ?_ (λm j=>?_) (by simp;omega)
  . rw[GG];refine⟨e,?_,λa q b r=>?_⟩
    . match l,l2 with
      |[],_=>exact .nil
      |[a],_=>simp
      |a::b::c,h=>simp at h
    grind
  grind
include cp bj in
theorem Nf(h1:1<=aF.length){i:Int}(c:0<=i/\i<aF.length)(a:Bool):∃l,td ((⟨aF⟩:en),i,a)=some l/\uv aF i a l:=by
 obtain⟨j,rfl⟩:∃j:Nat,i=(j:Int):=⟨i.toNat,by omega⟩
 have b:j<aF.length:=by omega
 have I:=cp _ (br b eJ);obtain⟨l,e,l2⟩:=Nd cp bj h1 c I a 12 1 [] (by omega) (by omega) .nil (λm d=>by cases d) (by simp);refine⟨l,?_,l2⟩;have f:qx ((j:Int),a,1,aF,aF.getD j eJ,[])=some l:=e;rw[td,ad (bu b),bx];grind
def pY(l:au):List dO:=l.map λj=>⟨j,[UInt8.ofNat 115,UInt8.ofNat (97+j.toNat)]⟩
theorem NB{l:au}(ae:l.length<=6)(o:∀x,x∈l->1<=x/\x<=6)(n i:Int)(b:List fq)(b1:Int)(b2:ar)(a c d e f:Int)(g:Bool)(m:List aj):∀(k j:Nat) (acc:List dO),j+k=l.length->acc.length<=j->
 o3 (n,i,l,(j:Int),b,b1,b2,a,c,d,e,f,g,m,acc)=some (n,i,b,b1,b2,a,c,d,e,f,g,m,acc++pY (l.drop j))
 |0,j,acc,q,p=>by
  rw[o3,ev,hI (by omega:l.length<=j)];simp[pY]
 |k+1,j,acc,q,p=>by
  have aE:j<l.length:=by omega
  have I:=o _ (br aE 0);rw[o3,dc,ad (bu aE),ad (bu aE)];simp only[bg,ay,bx];rw[Kq ⟨by omega,by omega⟩,ad (js (by simp)),ad (dv),cg,NB ae o n i b b1 b2 a c d e f g m k (j+1) _ (by omega) (by simp;omega),hQ aE 0];simp[pY]
def fr(aF:List fq)(i:Int)(t:aj):Prop:=
 let x:=aF.getD i.toNat eJ;let n:=(aF.length:Int)
 let a:=[UInt8.ofNat (65+i.toNat)]
 (ef aF i=1/\t=⟨1,[],0,0,0,[],[],0,0,false⟩)\/
 (ef aF i=2/\t=⟨2,[],x.A%7-3,x.A%7-3+x.B%6,0,[],[],0,0,false⟩)\/
 (ef aF i=3/\t=⟨3,[],0,0,x.A%4,[],[],0,0,false⟩)\/
 (ef aF i=4/\∃o,t=⟨4,a,0,0,0,pY (j0 x),[],0,0,o⟩)\/
 (ef aF i=5/\∃l,uv aF i true l/\t=⟨5,a,0,0,0,[],l,0,0,false⟩)\/
 (ef aF i=6/\t=⟨5,a,0,0,0,[],[],0,0,false⟩)\/
 (ef aF i=6/\∃l o,uv aF i false l/\0<l.length/\t=⟨6,a,0,0,0,[],l,0,0,o⟩)\/
 (ef aF i=7/\t=⟨7,[],0,0,x.A%4,[],[],0,x.C%n,false⟩)\/
 (ef aF i=8/\(∀w,¬oF aF w)/\t=⟨7,[],0,0,x.A%4,[],[],0,x.C%n,false⟩)\/
 (ef aF i=8/\∃k,oF aF k/\t=⟨8,[],0,0,x.A%4,[],[],k,x.C%n,false⟩)\/
 (ef aF i=9/\t=⟨9,[],0,0,0,[],[],0,x.C%n,false⟩)
include cp bj in
theorem QS(h1:1<=aF.length):∀(k i:Nat) (acc:List aj),i+k=aF.length->acc.length=i->(∀j,j<i->fr aF (j:Int) (acc.getD j aM))->
 ∃l,fD ((aF.length:Int),(i:Int),aF,acc)=some l/\l.length=aF.length/\∀j,j<aF.length->fr aF (j:Int) (l.getD j aM)
 |0,i,acc,D,ae,v=>⟨acc,by rw[fD,ev],by omega,λj E=>v j (by omega)⟩
 |k+1,i,acc,D,ae,v=>by
  have aE:i<aF.length:=by omega
  have I:=cp _ (br aE eJ);obtain⟨e,k1,k9⟩:=rk cp bj (i:=(i:Int)) (by omega) (by omega);have next:∀t:aj,fr aF (i:Int) t->∃l,(if room 120 (acc++[t]).length then fD ((aF.length:Int),aT .i64 (i:Int) 1,aF,acc++[t])else none)=some l/\l.length=aF.length/\∀j,j<aF.length->fr aF (j:Int) (l.getD j aM):=by
   intro t ht;rw[ad (dv),cg];refine QS h1 k (i+1) _ (by omega) (by simp;omega) λj E=>?_;grind
  rw[fD,dc,ad (bu aE)];simp only[bg,ay,bx];rw[e];simp only[ay,G8];have p:=adn (k:=(i:Int)) ⟨by omega,by omega⟩;have ee:∀t,fr aF (i:Int) t->fr aF (i:Int) t:=λt h=>h;have⟨r,dQ,s⟩:db (aF.getD i eJ).A/\db (aF.getD i eJ).B/\db (aF.getD i eJ).C:=⟨I.a,I.b,I.c⟩
  have m:(!(decide ((aF.length:Int)=0)))=true:=wB (by omega);have n:b7 .i64 (cd (aF.getD i eJ).A 4)=(aF.getD i eJ).A%4:=by
   unfold db at r;rw[hc r.1,kr ⟨by omega,by omega⟩]
  have o:cd (b7 .i64 (aF.getD i eJ).C) (aF.length:Int)=(aF.getD i eJ).C%(aF.length:Int):=by
   unfold db at s;rw[kr ⟨by omega,by omega⟩,hc s.1]
  have z:ef aF (i:Int)=1\/ef aF (i:Int)=2\/ef aF (i:Int)=3\/ef aF (i:Int)=4\/ef aF (i:Int)=5\/ef aF (i:Int)=6\/ef aF (i:Int)=7\/ef aF (i:Int)=8\/ef aF (i:Int)=9:=by omega
  rcases z with d|d|d|d|d|d|d|d|d<;>rw[d] <;>
   simp only[Int.reduceEq,ew,dB,cJ,cE,cm,ay,jg,ib]
  . exact next _ (by unfold fr;simp[d])
  . have el:=Ks I;have w:=NA I;have y:o9 (aF.getD i bp)=_:=el;have x:tn (aF.getD i bp)=_:=w;rw[y];simp only[ay];rw[x];simp only[ay];exact next _ (by unfold fr;simp only[bx];exact .inr (.inl ⟨d,by first|trivial|rfl⟩))
  . have f:b7 .i64 (cd (aF.getD i bp).A 4)=_:=n;rw[f];exact next _ (by unfold fr;simp only[bx];exact .inr (.inr (.inl ⟨d,by first|trivial|rfl⟩)))
  . obtain⟨G,J,O,K⟩:=u5 (aF.getD i eJ);have H:nL (aF.getD i bp)=_:=G;rw[H];simp only[ay];have hs:=NB (l:=j0 (aF.getD i eJ)) K J.2 (aF.length:Int) (i:Int) aF 4 (mT (b7 .i32 (aT .i64 65 (i:Int)))) 0 0 0 0 0 (decide (cd (aF.getD i eJ).B 2=1)) acc (j0 (aF.getD i eJ)).length 0 [] (by omega) (by simp);have F:o3 ((aF.length:Int),(i:Int),j0 (aF.getD i eJ),0,aF,4,mT (b7 .i32 (aT .i64 65 (i:Int))),0,0,0,0,0,decide (cd (aF.getD i bp).B 2=1),acc,[])=_:=hs;rw[F];simp only[ay,j2,iP];rw[p];exact next _ (by unfold fr;simp only[bx];exact .inr (.inr (.inr (.inl ⟨d,_,rfl⟩))))
  . obtain⟨l,q,l2⟩:=Nf cp bj h1 (i:=(i:Int)) ⟨by omega,by omega⟩ true;rw[q];simp only[ay];rw[p];exact next _ (by unfold fr;simp only[bx];exact .inr (.inr (.inr (.inr (.inl ⟨d,l,l2,rfl⟩)))))
  . obtain⟨l,q,l2⟩:=Nf cp bj h1 (i:=(i:Int)) ⟨by omega,by omega⟩ false;rw[q];simp only[ay];rw[p];by_cases h0:l.length=0
    . rw[ad (by simp[h0])];exact next _ (by unfold fr;simp only[bx];exact .inr (.inr (.inr (.inr (.inr (.inl ⟨d,by first|trivial|rfl⟩))))))
    . rw[ao (by simp;intro h;rw[h]at h0;simp at h0)];exact next _ (by unfold fr;simp only[bx];exact .inr (.inr (.inr (.inr (.inr (.inr (.inl ⟨d,l,_,l2,by omega,rfl⟩)))))))
  . have f:b7 .i64 (cd (aF.getD i bp).A 4)=_:=n;have g:cd (b7 .i64 (aF.getD i bp).C) (aF.length:Int)=_:=o;rw[ad m,f,g];exact next _ (by unfold fr;simp only[bx];exact .inr (.inr (.inr (.inr (.inr (.inr (.inr (.inl ⟨d,by first|trivial|rfl⟩))))))))
  . have f:b7 .i64 (cd (aF.getD i bp).A 4)=_:=n;have g:cd (b7 .i64 (aF.getD i bp).C) (aF.length:Int)=_:=o;obtain⟨u,L,N⟩:=Ov cp bj dQ h1;have M:sE ((⟨aF⟩:en),(aF.getD i bp).B)=some u:=L;rw[M];simp only[ay];rw[ad m,f,g];rcases N with⟨rfl,a⟩|a
    . rw[ad (by simp)];exact next _ (by unfold fr;simp only[bx];exact .inr (.inr (.inr (.inr (.inr (.inr (.inr (.inr (.inl ⟨d,a,by first|trivial|rfl⟩)))))))))
    . rw[ao (by have:=a.1;simp;omega)];exact next _ (by unfold fr;simp only[bx];exact .inr (.inr (.inr (.inr (.inr (.inr (.inr (.inr (.inr (.inl ⟨d,u,a,rfl⟩))))))))))
  . have g:cd (b7 .i64 (aF.getD i bp).C) (aF.length:Int)=_:=o;rw[ad m,g];exact next _ (by unfold fr;simp only[bx];exact .inr (.inr (.inr (.inr (.inr (.inr (.inr (.inr (.inr (.inr ⟨d,by first|trivial|rfl⟩))))))))))
end
def um(d:en):Prop:=d.eE.length<=reachBytes/\∀x,x∈d.eE->oH x
theorem of_eq{d:en}(a:um d):ra d=some (⟨[]⟩,false)\/∃l,ra d=some (⟨l⟩,true)/\1<=d.eE.length/\d.eE.length<=5/\l.length=d.eE.length/\∀j,j<d.eE.length->fr d.eE (j:Int) (l.getD j aM):=by
 rw[ra];simp only[bg,ay];by_cases h:1<=d.eE.length/\d.eE.length<=5
 . obtain⟨l,c,l2,e⟩:=QS a.2 h.2 h.1 d.eE.length 0 [] (by omega) rfl (λj b=>by omega);grind
 grind
structure cX (ts:List aj):Prop where
 cI:1<=ts.length
 dV:ts.length<=5
 T:∀t,t∈ts->iY t
 V:p7 ts
 D:∀t,t∈ts->adG ts t.af
 R:∀i:Nat,i<ts.length->∀m,m∈(ts.getD i aM).af->0<=m.aB/\m.aB<ts.length/\(7<=(ts.getD m.aB.toNat aM).Kind\/m.aB<i)
 L:∀t,t∈ts->t.Kind=2->-3<=t.bT/\t.bW<=8
 M:∀t,t∈ts->t.Max<=3
 cN:∀t,t∈ts->(∀m,m∈t.af->m.ah<=12)/\(∀y,y∈t.bo->y.ah<=6)/\t.af.length<=12
 W:∀t,t∈ts->∀m,m∈t.af->m.b8=true->wt m.bU<=13
theorem pB(d:v.aJ=[])(c:v.aq=[])(e:v.Rest=[])(hs:v.bH.length<=1000)(cI:cq v.Kind)(a:cq v.bw)(b:cq v.ah):cf v:=by
 refine .mk v (by grind[reachBytes]) (by grind) (by grind) (by grind) (λx I=>?_) (λx I=>?_) (λx I=>?_) cI a b (λx I=>?_)
 all_goals grind
theorem QV:cf aH:=pB rfl rfl rfl (by simp[aH]) (by grind[cq,aH]) (by grind[cq,aH]) (by grind[cq,aH])
theorem NC(b:v.aJ=[])(a:v.aq=[])(c:v.Rest=[]):wt v=10+v.bH.length:=by
 grind[gY,hC]
section
variable {aF:List fq}(cp:∀x,x∈aF->oH x)(bj:aF.length<=5)(h1:1<=aF.length){l:List aj}(ae:l.length=aF.length)(ee:∀j,j<aF.length->fr aF (j:Int) (l.getD j aM))
include cp bj in
theorem ND(ht:0<=t/\t<aF.length)(h:Init aF t v):cf v/\wt v<=13:=by
 obtain⟨a,b,c,h⟩:=h;obtain⟨j,rfl⟩:∃j:Nat,t=j:=⟨t.toNat,by omega⟩
 obtain⟨_,k1,k9⟩:=rk cp bj ht.1 ht.2;rw[bx]at h;have d:=(u5 (aF.getD j eJ)).2.1.2;rw[NC a b c];have hs:v.bH.length<=3:=by grind
 refine⟨pB a b c (by omega) ?_ ?_ ?_,by omega⟩
 . unfold cq;rcases h with h|h|h|h|h<;>omega
 . unfold cq;rcases h with⟨_,_,e,_⟩|⟨_,_,_,_,_,e⟩|⟨_,_,_,e,_⟩|⟨_,_,_,e,_⟩|⟨_,_,e,_⟩<;>omega
 . unfold cq;grind
include cp bj in
theorem Ln{i:Int}{r:Bool}{e:List aU}(h:uv aF i r e):pq (!r) e\/(r=false/\e=[]):=by
 obtain⟨a,b,c⟩:=h;by_cases h0:r=false/\e=[]
 . grind
 left;refine⟨λm d=>?_,?_,⟨a,λm d=>?_⟩,λm d=>?_,?_,by omega⟩
 . have q:=b m d;unfold uD;have n:m.b8=false->wo m.bU=true:=λh=>by
    rw[q.QO h];have g:=IC QV aH;obtain⟨w,p,s⟩:=g;grind[wo]
   have k:=q.eL;have l:=q.un;grind
 . grind
 . have:=(b m d).id;exact⟨by omega,by omega⟩
 . have q:=b m d;have:=q.id;rw[q.name];exact Ot (by simp) (by omega)
 . unfold List.Nodup;rw[l8];refine a.imp_of_mem λ{x y} I ag aE=>?_;have j:=b x I;have f:=b y ag;have o:=f.id;rw[j.name,f.name];grind[nT]
theorem Lo{l:au}(h:uq l 6)(h1:1<=l.length)(a:l.length<=6):Ab (pY l)/\(∀y,y∈pY l->y.ah<=6):=by
 unfold pY;refine⟨⟨by grind,⟨?_,λy ag=>?_⟩,λy ag=>?_,?_,by grind⟩,λy ag=>?_⟩
 . rw[l8];exact h.1
 . obtain⟨x,I,rfl⟩:=eA.1 ag;have:=h.2 x I;exact⟨this.1,by grind⟩
 . obtain⟨x,I,rfl⟩:=eA.1 ag;have:=h.2 x I;exact Ot (by simp) (by omega)
 . unfold List.Nodup;rw[l8,l8];refine h.1.imp_of_mem λ{x y} I ag aE=>?_;have b:=h.2 y ag;grind[nT]
 . obtain⟨x,I,rfl⟩:=eA.1 ag;exact(h.2 x I).2
theorem NF{i:Int}{t:aj}(h:fr aF i t):(ef aF i<=5\/ef aF i=7\/ef aF i=9->t.Kind=ef aF i)/\(ef aF i=6->t.Kind=5\/t.Kind=6)/\(ef aF i=8->(t.Kind=8/\∃w,oF aF w)\/(t.Kind=7/\¬∃w,oF aF w)):=by
 rcases h with⟨k,rfl⟩|⟨k,rfl⟩|⟨k,rfl⟩|⟨k,_,rfl⟩|⟨k,_,_,rfl⟩|⟨k,rfl⟩|⟨k,_,_,_,_,rfl⟩|⟨k,rfl⟩|⟨k,a,rfl⟩|⟨k,w,a,rfl⟩|⟨k,rfl⟩<;>simp[k]
 . omega
 grind
theorem IE{i:Int}{t:aj}(h:fr aF i t):t.af=[]\/∃r,uv aF i r t.af:=by
 rcases h with⟨k,rfl⟩|⟨k,rfl⟩|⟨k,rfl⟩|⟨k,_,rfl⟩|⟨k,_,a,rfl⟩|⟨k,rfl⟩|⟨k,_,_,a,_,rfl⟩|⟨k,rfl⟩|⟨k,a,rfl⟩|⟨k,w,a,rfl⟩|⟨k,rfl⟩
 all_goals grind
include cp bj h1 ae ee in
theorem ab2:cX l:=by
 have p:∀{P:aj->Prop},(∀j,j<aF.length->P (l.getD j aM))->∀t,t∈l->P t:=λai t ht=>by
  obtain⟨i,n,rfl⟩:=gQ ht;grind
 have I:∀j,j<aF.length->oH (aF.getD j eJ):=λj d=>cp _ (br d eJ);have D:∀j,j<aF.length->∀m,m∈(l.getD j aM).af->∃r,uu aF (j:Int) r m:=λj d m f=>by
  rcases IE (ee j d)with h|⟨r,_,h,_⟩
  . grind
  grind
 have Y:∀t,t∈l->iY t:=p λj d=>by
  have f:=D j d;have ht:=ee j d;have ad:(l.getD j aM).af.length<=12:=by
   rcases IE ht with h|⟨r,_,_,h⟩
   . rw[h];simp
   . exact h
  have ae:(l.getD j aM).bo.length<=6:=by
   have n:=(u5 (aF.getD j eJ)).2.2.2;unfold fr at ht;rcases ht with⟨k,e⟩|⟨k,e⟩|⟨k,e⟩|⟨k,_,e⟩|⟨k,_,_,e⟩|⟨k,e⟩|⟨k,_,_,_,_,e⟩|⟨k,e⟩|⟨k,_,e⟩|⟨k,_,_,e⟩|⟨k,e⟩<;>rw[e]
   case inr.inr.inr.inl=>simp only[bx,pY,jH];exact n
   all_goals simp
  refine⟨by unfold reachBytes;omega,by unfold reachBytes;omega,λm X=>?_⟩;obtain⟨r,q⟩:=f m X;by_cases B:m.b8=true
  . exact(ND cp bj ⟨q.rK.1,q.rK.2.1⟩ (q.jZ B)).1
  . rw[q.QO (by simpa using B)];exact QV
 have am:∀u:Int,0<=u->u<aF.length->7<=ef aF u->7<=(l.getD u.toNat aM).Kind:=λu h0 A H=>by
  obtain⟨j,rfl⟩:∃j:Nat,u=(j:Int):=⟨u.toNat,by omega⟩
  rw[bx];obtain⟨_,_,k9⟩:=rk cp bj h0 A;obtain⟨a,b,c⟩:=NF (ee j (by omega));omega
 have Z:p7 l:=by
  refine⟨by omega,p λj d=>?_,λj d=>?_,p λj d=>?_,p λj d E=>?_⟩
  . have ht:=ee j d;have hid:=u5 (aF.getD j eJ);have z:=(I j d).a;have J:=(I j d).b;have F:nm [UInt8.ofNat (65+j)]=true:=ado (by omega);unfold db at z J;unfold fr at ht;simp only[bx]at ht;generalize [UInt8.ofNat (65+j)]=ao at F ht;unfold gB;rcases ht with⟨k,e⟩|⟨k,e⟩|⟨k,e⟩|⟨k,_,e⟩|⟨k,g,a,e⟩|⟨k,e⟩|⟨k,g,_,a,a0,e⟩|⟨k,e⟩|⟨k,_,e⟩|⟨k,_,_,e⟩|⟨k,e⟩<;>rw[e]
    . simp
    . simp;omega
    . simp;omega
    . simp;exact⟨F,(Lo hid.2.1 hid.2.2.1 hid.2.2.2).1⟩
    . simp;refine⟨F,?_⟩;rcases Ln cp bj a with h|⟨h,_⟩
      . exact h
      . cases h
    . simp;exact⟨F,λm f=>(by cases f),.inl rfl,⟨.nil,λm f=>by cases f⟩,λm f=>(by cases f),by simp,by simp⟩
    . simp;refine⟨F,?_⟩;rcases Ln cp bj a with h|⟨_,h⟩
      . exact h
      grind
    . simp;omega
    . simp;omega
    . simp;omega
    . simp
  ·
   have S:∀k,k<aF.length->(l.getD k aM).Name=[]\/(l.getD k aM).Name=[UInt8.ofNat (65+k)]:=λk Q=>by
    have ht:=ee k Q;unfold fr at ht;simp only[bx]at ht;rcases ht with⟨k,e⟩|⟨k,e⟩|⟨k,e⟩|⟨k,_,e⟩|⟨k,g,a,e⟩|⟨k,e⟩|⟨k,g,_,a,a0,e⟩|⟨k,e⟩|⟨k,_,e⟩|⟨k,_,_,e⟩|⟨k,e⟩<;>rw[e]<;>simp
   rcases S j (by omega)with h|h
   . rw[h];simp
   . rw[h];simp only[Bool.and_eq_false_iff];right;apply Bool.eq_false_iff.2;intro K;obtain⟨k,Q,he⟩:=(SX (by simp;omega)).1 K;have al:(l.map (·.Name)).getD k []=(l.getD k aM).Name:=sw (·.Name) l k aM [] (by omega);rw[al]at he;rcases S k (by omega)with N|N
     . grind
     . rw[N]at he;simp only[List.cons.injEq,tL]at he;have s:=dd UInt8.toNat he;rw[nT (by omega),nT (by omega)]at s;omega
  . intro u A;have f:=D j d;have K:=(I j d).c;unfold db at K;have T:0<=(aF.getD j eJ).C%(aF.length:Int):=lz _ (by omega);have U:(aF.getD j eJ).C%(aF.length:Int)<aF.length:=lx _ (by omega);have ht:=ee j d;unfold fr at ht;simp only[bx]at ht;generalize (aF.getD j eJ).C%(aF.length:Int)=ab at T U ht;unfold fI at A;simp only[fH,eA]at A;rcases A with(⟨m,h,rfl⟩|h)|h
    . obtain⟨r,q⟩:=f m h;have:=q.rK.1;have:=q.rK.2.1;omega
    . split at h
      . rename_i E;have:u=(l.getD j aM).Key:=(by simpa using h);rw[this];rcases ht with⟨k,e⟩|⟨k,e⟩|⟨k,e⟩|⟨k,_,e⟩|⟨k,g,a,e⟩|⟨k,e⟩|⟨k,g,_,a,a0,e⟩|⟨k,e⟩|⟨k,_,e⟩|⟨k,w,a,e⟩|⟨k,e⟩<;>rw[e]at E⊢<;>simp at E⊢;obtain⟨iU,aa,_⟩:=a;omega
      . cases h
    . split at h
      . rename_i H;have:u=(l.getD j aM).aK:=(by simpa using h);rw[this];rcases ht with⟨k,e⟩|⟨k,e⟩|⟨k,e⟩|⟨k,_,e⟩|⟨k,g,a,e⟩|⟨k,e⟩|⟨k,g,_,a,a0,e⟩|⟨k,e⟩|⟨k,_,e⟩|⟨k,w,a,e⟩|⟨k,e⟩<;>rw[e]at H⊢<;>simp at H⊢<;>omega
      . cases h
  . have ht:=ee j d;unfold fr at ht;simp only[bx]at ht;rcases ht with⟨k,e⟩|⟨k,e⟩|⟨k,e⟩|⟨k,_,e⟩|⟨k,g,a,e⟩|⟨k,e⟩|⟨k,g,_,a,a0,e⟩|⟨k,e⟩|⟨k,_,e⟩|⟨k,w,a,e⟩|⟨k,e⟩<;>rw[e]at E⊢<;>simp at E⊢;obtain⟨iU,aa,ar,au⟩:=a;obtain⟨q,rfl⟩:∃q:Nat,w=(q:Int):=⟨w.toNat,by omega⟩
    obtain⟨a,_,_⟩:=NF (ee q (by omega));have:=a (.inl (by omega));simp_all
 refine⟨by omega,by omega,Y,Z,p λj d m f B=>?_,λj d m f=>?_,p λj d O=>?_,p λj d=>?_,p λj d=>⟨λm f=>?_,λy ag=>?_,?_⟩,p λj d m f B=>?_⟩
 . obtain⟨r,q⟩:=D j d m f;have n:=q.jZ B;obtain⟨L,M,_⟩:=q.rK;generalize m.bU=v at n;obtain⟨u,A⟩:∃u:Nat,m.aB=(u:Int):=⟨m.aB.toNat,by omega⟩
   rw[A]at n L M⊢;have ht:=ee u (by omega);obtain⟨a,b,c,n⟩:=n;rw[eI];simp only[bx]at n⊢;unfold fr at ht;simp only[bx]at ht;have W:((l.length:Nat):Int)=aF.length:=(by omega);rw[W];generalize l.getD u aM=x at ht⊢;rw[a,b,c];have aq:∀t,e1 l true t []:=λt=>by rw[e1];trivial
   have ak:km []:=λi n=>by simp at n
   have R:=I u (by omega);generalize aF.getD u eJ=an at ht n R;rcases n with⟨k,aC,s,dw,h8⟩|⟨k,aC,s,dw,h8,iv,ja⟩|⟨k,aC,s,dw,h8,iv⟩|⟨k,aC,s,dw,h8,iv⟩|⟨k,aC,s,dw,h8,iv⟩
   . rw[k]at ht;grind
   . rw[k]at ht;grind
   . rw[k]at ht;grind
   . rw[k]at ht;simp only[Int.reduceEq,false_and,true_and,tN,false_or]at ht;obtain⟨o,rfl⟩:=ht;rw[aC,s,dw,h8];simp;refine⟨by omega,⟨v.ah,[UInt8.ofNat 115,UInt8.ofNat (97+v.ah.toNat)]⟩,?_,rfl⟩;unfold pY;grind
   . rw[aC,s,dw,h8];have k9:ef aF (u:Int)<=9:=(rk cp bj L M).2.2;have V:ef aF (u:Int)=7\/ef aF (u:Int)=8\/ef aF (u:Int)=9:=(by omega);have z:=R.a;unfold db at z;rcases V with G|G|G
     . rw[G]at ht iv;grind
     . rw[G]at ht iv;grind
     . rw[G]at ht iv;grind
 . obtain⟨r,q⟩:=D j (by omega) m f;obtain⟨L,M,ap⟩:=q.rK;grind
 . have ht:=ee j d;have z:=(I j d).a;have J:=(I j d).b;unfold db at z J;unfold fr at ht;simp only[bx]at ht;rcases ht with⟨k,e⟩|⟨k,e⟩|⟨k,e⟩|⟨k,_,e⟩|⟨k,g,a,e⟩|⟨k,e⟩|⟨k,g,_,a,a0,e⟩|⟨k,e⟩|⟨k,_,e⟩|⟨k,w,a,e⟩|⟨k,e⟩<;>rw[e]at O⊢<;>simp at O⊢;omega
 . have ht:=ee j d;have z:=(I j d).a;unfold db at z;unfold fr at ht;simp only[bx]at ht;rcases ht with⟨k,e⟩|⟨k,e⟩|⟨k,e⟩|⟨k,_,e⟩|⟨k,g,a,e⟩|⟨k,e⟩|⟨k,g,_,a,a0,e⟩|⟨k,e⟩|⟨k,_,e⟩|⟨k,w,a,e⟩|⟨k,e⟩<;>rw[e]<;>simp<;>omega
 . obtain⟨r,q⟩:=D j d m f;exact q.id.2
 . have ht:=ee j d;have hid:=u5 (aF.getD j eJ);unfold fr at ht;simp only[bx]at ht;rcases ht with⟨k,e⟩|⟨k,e⟩|⟨k,e⟩|⟨k,_,e⟩|⟨k,g,a,e⟩|⟨k,e⟩|⟨k,g,_,a,a0,e⟩|⟨k,e⟩|⟨k,_,e⟩|⟨k,w,a,e⟩|⟨k,e⟩<;>rw[e]at ag<;>simp at ag;exact(Lo hid.2.1 hid.2.2.1 hid.2.2.2).2 y ag
 . rcases IE (ee j d)with h|⟨r,_,_,h⟩
   . rw[h];simp
   . exact h
 . obtain⟨r,q⟩:=D j d m f;exact(ND cp bj ⟨q.rK.1,q.rK.2.1⟩ (q.jZ B)).2
end
theorem GO{d:en}(g:um d):ra d=some (⟨[]⟩,false)\/∃l,ra d=some (⟨l⟩,true)/\cX l:=by
 rcases of_eq g with h|⟨l,a,b,c,e,f⟩
 . grind
 . exact .inr ⟨l,a,ab2 g.2 c b e f⟩
end
end Go.Proofs.YtklfhpkljddjbaaGreatDoor
