/- The functions of the program as functions of Lean, that its code does what they say, and what they answer; part B. -/
import Derived.Test.YtfcnkdegapjgnaaGreatDoorTrA

namespace Go.Proofs.YtfcnkdegapjgnaaGreatDoor
set_option linter.all false
section
open Go Go.Proofs.YtfcnkdegapjgnaaGreatDoor.Shv
open Tryz
set_option maxRecDepth 100000
def ng(o:Int×List aY×List aY×Int×Int×Int×ah×List aY×I):Option (Int×List aY×List aY×Int×Int×ah×List aY×I):=
 match o with
 |(i,d,a,g,c,j,k,b,f)=>
 if decide (j<(a.length:Int))=true then if aB g b.length=true then if decide (g.toNat<b.length)=true then some (b.getD g.toNat dU).P>>=λt125=>if aB c d.length=true then uz (d.getD c.toNat dU).P>>=λm=>if decide (t125.length+m.length<=dK)=true then some (t125++m)>>=λt132=>if aB j a.length=true then uz (a.getD j.toNat dU).P>>=λn=>if decide (t132.length+n.length<=dK)=true then some (t132++n)>>=λt139=>if decide ((t139.length:Int)<=i)=true then if aB j a.length=true then nO (I.eta f,I.eta (a.getD j.toNat dU).V)>>=λe=>if room 120 ([]++f.aE).length=true then some ([]++f.aE)>>=λl=>if aB c d.length=true then some [I.eta (d.getD c.toNat dU).V]>>=λt160=>if room 120 (l++t160).length=true then some [(⟨(⟨e.Kind,e.b',e.bq,e.bA,e.af,l++t160,e.al,e.Rest⟩:I),t139⟩:aY)]>>=λt167=>if room 136 (b++t167).length=true then ng (i,d,a,g,c,aM .i64 j 1,k,b++t167,I.eta f)
 else none
 else none
 else none
 else none
 else none
 else ng (i,d,a,g,c,aM .i64 j 1,k,b,I.eta f)
 else none
 else none
 else none
 else none
 else none
 else none
 else some (i,d,a,g,c,k,b,I.eta f)
  partial_fixpoint
theorem TE:ck 46 0 [0,0,0] Kn ng:= .rx ng.partial_correctness (.k Rb (.k uu .n))
def mB(l:Int×List aY×List aY×Int×Int×ah×List aY×I):Option (Int×List aY×List aY×Int×ah×List aY):=
 match l with
 |(i,c,g,f,k,e,d,b)=>
 if(bif decide (k<(c.length:Int))then decide ((d.length:Int)<=3000)else false)=true then some (decide (0<(b.aE.length:Int)))>>=λt97=>some (c' .i64 (b.aE.length:Int) 1)>>=λt104=>if(aB t104 b.aE.length||(!t97))=true then if(aB k c.length||(!t97))=true then (if t97=true then nI (I.eta (b.aE.getD t104.toNat aK),I.eta (c.getD k.toNat dU).V)else some 0)>>=λj=>if(bif t97 then decide (0<=j)else false)=true then mB (i,c,g,f,aM .i64 k 1,e,d,I.eta b)
 else ng (i,c,g,f,k,0,e,d,I.eta b)>>=λa=>mB (a.1,a.2.1,a.2.2.1,a.2.2.2.1,aM .i64 a.2.2.2.2.1 1,a.2.2.2.2.2.1,a.2.2.2.2.2.2.1,I.eta a.2.2.2.2.2.2.2)
 else none
 else none
 else some (i,c,g,f,e,d)
  partial_fixpoint
theorem Vi:ck 46 0 [0,0] LC mB:= .rx mB.partial_correctness (.k BC .n) (.k TE .n)
def nJ(g:Int×List aY×List aY×Int×ah×List aY):Option (List aY):=
 match g with
 |(f,e,d,i,c,a)=>
 if(bif decide (i<(a.length:Int))then decide ((a.length:Int)<=3000)else false)=true then if aB i a.length=true then if decide (i.toNat<a.length)=true then if decide (((a.getD i.toNat dU).V.al.length:Int)=c.Max)=true then nJ (f,e,d,aM .i64 i 1,c,a)
 else mB (f,e,d,i,0,c,a,I.eta (a.getD i.toNat dU).V)>>=λb=>nJ (b.1,b.2.1,b.2.2.1,aM .i64 b.2.2.2.1 1,b.2.2.2.2.1,b.2.2.2.2.2)
 else none
 else none
 else some a
  partial_fixpoint
theorem Uv:ck 46 0 [0] O9 nJ:= .rx nJ.partial_correctness .n (.k Vi .n)
def Bj(c:List UInt8×List UInt8):Option (Bool):=
 match c with
 |(a,b)=>
 some (bif decide ((a.length:Int)<(b.length:Int))then true else bif decide ((a.length:Int)=(b.length:Int))then Op.bytesLess a b else false)
theorem Q4:bd ae4 Bj:= .bt
def pd(c:cJ×cJ):Option (cJ):=
 match c with
 |(a,b)=>
 some (!a.Found)>>=λt7=>some (bif a.ew then(!b.ew)else false)>>=λt18=>some (fc a.ew b.ew)>>=λt24=>(if((!t7)&&b.Found&&(!t18)&&t24)=true then Bj (b.fx,a.fx)else some false)>>=λr=>if(bif t7 then true else bif b.Found then bif t18 then true else bif t24 then r else false else false)=true then some (⟨b.Found,b.ew,b.fx,I.eta b.Value⟩:cJ)
 else some (⟨a.Found,a.ew,a.fx,I.eta a.Value⟩:cJ)
theorem QZ:bd aeF pd:= .bt (.k Q4 .n)
def jF(q:Int×List cJ×ah×Int×Bool×Int×List UInt8×Int×Int×Bool×Int×List UInt8×Int×List I):Option ((Bool×List cJ×Int×Bool×Int×List UInt8×Int) ⊕ (List cJ×Int×Bool×Int×List UInt8×Int×Int×Bool×Int×List UInt8×Int×List I)):=
 match q with
 |(i,a,c,e,f,g,j,k,l,m,n,o,p,d)=>
 if decide (i<(c.ae.length:Int))=true then if aB i c.ae.length=true then some (c.ae.getD i.toNat au)>>=λb=>if b.bD=true then some [I.eta b.bk]>>=λt42=>if room 120 (d++t42).length=true then jF (aM .i64 i 1,a,c,e,f,g,j,k,l,m,n,o,p,d++t42)
 else none
 else if aB b.av a.length=true then if decide (b.av.toNat<a.length)=true then if(a.getD b.av.toNat eL).ew=true then some (.inl (true,a,0,false,0,[],0))
 else if aB b.av a.length=true then if decide (b.av.toNat<a.length)=true then some [I.eta (a.getD b.av.toNat eL).Value]>>=λt32=>if room 120 (d++t32).length=true then jF (aM .i64 i 1,a,c,e,f,g,j,k,l,m,n,o,p,d++t32)
 else none
 else none
 else none
 else none
 else none
 else none
 else some (.inr (a,e,f,g,j,k,l,m,n,o,p,d))
  partial_fixpoint
theorem TO:ck 274 1 [0] NK jF:= .rx jF.partial_correctness
def um(e:ah×List cJ):Option (I×Bool×List cJ):=
 match e with
 |(d,b)=>
 jF (0,b,d,0,false,0,[],0,d.Kind,false,0,[],0,[])>>=λo=>match o with
 |.inl a=>
 some ((⟨a.2.2.1,a.2.2.2.1,a.2.2.2.2.1,a.2.2.2.2.2.1,a.2.2.2.2.2.2,[],[],[]⟩:I),a.1,a.2.1)
 |.inr c=>
 some ((⟨c.2.2.2.2.2.2.1,c.2.2.2.2.2.2.2.1,c.2.2.2.2.2.2.2.2.1,c.2.2.2.2.2.2.2.2.2.1,c.2.2.2.2.2.2.2.2.2.2.1,[],c.2.2.2.2.2.2.2.2.2.2.2,[]⟩:I),false,c.1)
theorem Vj:bd aeP um:= .bt .n (.k TO .n)
def qK(p:List UInt8):Option (List UInt8):=
 nT (bW .u64 (p.length:Int))>>=λr=>if decide (r.length+p.length<=dK)=true then some (r++p)
 else none
theorem FC:bd aey qK:= .bt (.k xh .n)
def ux(e:Int×Bool×List UInt8):Option (List UInt8):=
 match e with
 |(id,d,p)=>
 some (bW .u64 (iq .i64 2 id))>>=λt10=>if d=true then nT (aM .u64 t10 1)>>=λr=>qK p>>=λa=>if decide (r.length+a.length<=dK)=true then some (r++a)
 else none
 else nT t10>>=λb=>qK p>>=λc=>if decide (b.length+c.length<=dK)=true then some (b++c)
 else none
theorem Fw:bd aeo ux:= .bt (.k xh (.k FC .n))
def my(g:List UInt8×Int×Int×List ah×I×ah):Option (List UInt8×Int×List ah×I×ah):=
 match g with
 |(c,b,k,d,a,e)=>
 if decide (k<(a.Rest.length:Int))=true then if aB k a.Rest.length=true then if decide ((a.Rest.getD k.toNat b8).af=b)=true then if aB k a.Rest.length=true then ux (b,false,(a.Rest.getD k.toNat b8).Data)>>=λf=>if decide (c.length+f.length<=dK)=true then my (c++f,b,aM .i64 k 1,d,I.eta a,e)
 else none
 else none
 else my (c,b,aM .i64 k 1,d,I.eta a,e)
 else none
 else some (c,b,d,I.eta a,e)
  partial_fixpoint
theorem TP:ck 280 0 [0,2] Ld my:= .rx my.partial_correctness (.k Fw .n)
mutual
def lD(f:bh×Int×I):Option (List UInt8):=
 match f with
 |(s,t,v)=>
 if aB t s.Types.length=true then some (s.Types.getD t.toNat ar)>>=λa=>if decide (a.Kind=1)=true then if v.b'=true then some [1]
 else some []
 else if decide (a.Kind=2)=true then pc v.bq>>=λr=>oH r>>=λY=>some Y
 else if decide (a.Kind=3)=true then some v.bA
 else if decide (a.Kind=4)=true then oH (bW .u64 v.af)>>=λao=>some ao
 else if decide (a.Kind=9)=true then if decide ((v.al.length:Int)=0)=true then some []
 else if aB 0 v.al.length=true then lD (s,a.aH,I.eta (v.al.getD (0:Int).toNat aK))>>=λO=>if decide ([1].length+O.length<=dK)=true then some ([1]++O)
 else none
 else none
 else if decide (a.Kind=6)=true then if decide (0<(v.Rest.length:Int))=true then nT (bW .u64 v.af)>>=λP=>if aB 0 v.Rest.length=true then some (v.Rest.getD (0:Int).toNat b8)>>=λU=>if decide (P.length+U.Data.length<=dK)=true then some (P++U.Data)
 else none
 else none
 else mC (a,v.af)>>=λQ=>nT (bW .u64 v.af)>>=λR=>if aB Q.1 a.ae.length=true then if aB 0 v.al.length=true then lD (s,(a.ae.getD Q.1.toNat au).av,I.eta (v.al.getD (0:Int).toNat aK))>>=λS=>if decide (R.length+S.length<=dK)=true then some (R++S)
 else none
 else none
 else none
 else if decide (a.Kind=7)=true then rV ([],0,s.Types,I.eta v,a)>>=λo=>some o
 else if decide (a.Kind=8)=true then rW ([],0,s.Types,I.eta v,a)>>=λW=>some W
 else o3 ([],1,s.Types,I.eta v,a)>>=λX=>some X
 else none
  partial_fixpoint
def rV(f:List UInt8×Int×List ah×I×ah):Option (List UInt8):=
 match f with
 |(G,i,b,A,J)=>
 if decide (i<(A.al.length:Int))=true then if aB i A.al.length=true then lD ((⟨b⟩:bh),J.aH,I.eta (A.al.getD i.toNat aK))>>=λZ=>qK Z>>=λK=>if decide (G.length+K.length<=dK)=true then rV (G++K,aM .i64 i 1,b,I.eta A,J)
 else none
 else none
 else some G
  partial_fixpoint
def rW(f:List UInt8×Int×List ah×I×ah):Option (List UInt8):=
 match f with
 |(H,p,E,g,F)=>
 if decide (p<(g.al.length:Int))=true then if aB p g.aE.length=true then lD ((⟨E⟩:bh),F.Key,I.eta (g.aE.getD p.toNat aK))>>=λad=>qK ad>>=λL=>if decide (H.length+L.length<=dK)=true then some (H++L)>>=λt144=>if aB p g.al.length=true then lD ((⟨E⟩:bh),F.aH,I.eta (g.al.getD p.toNat aK))>>=λam=>qK am>>=λM=>if decide (t144.length+M.length<=dK)=true then rW (t144++M,aM .i64 p 1,E,I.eta g,F)
 else none
 else none
 else none
 else none
 else some H
  partial_fixpoint
def o3(f:List UInt8×Int×List ah×I×ah):Option (List UInt8):=
 match f with
 |(y,id,B,c,j)=>
 if decide (id<=1000)=true then mC (j,id)>>=λe=>if e.2=true then if aB e.1 j.ae.length=true then some (j.ae.getD e.1.toNat au)>>=λD=>some (!D.bD)>>=λt175=>if(aB e.1 c.al.length||(!(!t175)))=true then (if(!t175)=true then jG (I.eta (c.al.getD e.1.toNat aK),I.eta D.bk)else some false)>>=λan=>if(bif t175 then true else(!an))=true then if aB e.1 c.al.length=true then lD ((⟨B⟩:bh),D.av,I.eta (c.al.getD e.1.toNat aK))>>=λap=>ux (id,D.bQ,ap)>>=λN=>if decide (y.length+N.length<=dK)=true then my (y++N,id,0,B,I.eta c,j)>>=λq=>o3 (q.1,aM .i64 q.2.1 1,q.2.2.1,I.eta q.2.2.2.1,q.2.2.2.2)
 else none
 else none
 else my (y,id,0,B,I.eta c,j)>>=λw=>o3 (w.1,aM .i64 w.2.1 1,w.2.2.1,I.eta w.2.2.2.1,w.2.2.2.2)
 else none
 else none
 else my (y,id,0,B,I.eta c,j)>>=λx=>o3 (x.1,aM .i64 x.2.1 1,x.2.2.1,I.eta x.2.2.2.1,x.2.2.2.2)
 else some y
  partial_fixpoint
end
theorem Vk:eD ry lD/\eX 280 0 [2] yZ o3/\eX 280 0 [1] yY rW/\eX 280 0 [0] yX rV:=lD.mutual_partial_correctness (ez ry) (eW 280 0 [2] yZ) (eW 280 0 [1] yY) (eW 280 0 [0] yX)
 (λ_ _ _ _ h0 h1 a b _ _ h=>eH h (.k BD (.k Bi (.k (cB ry h0) (.k xh (.k xD .n))))) (.k (fa yX b) (.k (fa yY a) (.k (fa yZ h1) .n))))
 (λ_ _ h0 h1 _ _ h=>e' yZ h1 h (.k xD (.k xz (.k (cB ry h0) (.k Fw .n)))) (.k TP .n))
 (λ_ _ h0 a _ _ h=>e' yY a h (.k (cB ry h0) (.k FC .n)))
 (λ_ _ h0 b _ _ h=>e' yX b h (.k (cB ry h0) (.k FC .n)))
theorem Uw:bd ry lD:=cB _ Vk.1
def uy(a:bh×Int×I):Option (cJ):=
 match a with
 |(s,t,v)=>
 lD (s,t,I.eta v)>>=λr=>if decide (4096<(r.length:Int))=true then some (⟨true,true,[],(⟨0,false,0,[],0,[],[],[]⟩:I)⟩:cJ)
 else some (⟨true,false,r,I.eta v⟩:cJ)
theorem Q5:bd aeQ uy:= .bt (.k Uw .n)
def j6(p:Int×Int×List cJ×List ah×Bool×Bool×List UInt8×Int×Bool×Int×List UInt8×Int×ah):Option ((List cJ×Bool×Bool×List UInt8×Int×Bool×Int×List UInt8×Int) ⊕ (Int×List cJ×List ah×Bool×Bool×List UInt8×Int×Bool×Int×List UInt8×Int×ah)):=
 match p with
 |(o,i,b,d,e,f,g,j,k,l,m,n,a)=>
 if decide (i<(a.ae.length:Int))=true then if aB i a.ae.length=true then some (!(a.ae.getD i.toNat au).bD)>>=λt35=>if(aB i a.ae.length||(!t35))=true then some (a.ae.getD i.toNat au)>>=λc=>if(aB c.av b.length||(!t35))=true then if(decide (c.av.toNat<b.length)||(!t35))=true then if(bif t35 then(!(b.getD c.av.toNat eL).Found)else false)=true then some (.inl (b,false,false,[],0,false,0,[],0))
 else j6 (o,aM .i64 i 1,b,d,e,f,g,j,k,l,m,n,a)
 else none
 else none
 else none
 else none
 else some (.inr (o,b,d,e,f,g,j,k,l,m,n,a))
  partial_fixpoint
theorem TQ:ck 255 1 [0] NL j6:= .rx j6.partial_correctness
def mz(D:Int×Int×List cJ×List ah×Bool×Bool×List UInt8×Int×Bool×Int×List UInt8×Int×ah×Bool×Bool×List UInt8×Int×Bool×Int×List UInt8×Int×List I×List I×List cF):Option (List cJ×Bool×Bool×List UInt8×Int×Bool×Int×List UInt8×Int×Bool×Bool×List UInt8×Int×Bool×Int×List UInt8×Int×List I×List I×List cF):=
 match D with
 |(C,f,a,i,j,k,l,m,n,o,p,q,e,r,s,t,u,v,w,x,y,z,A,B)=>
 if decide (f<(e.ae.length:Int))=true then if aB f e.ae.length=true then some (e.ae.getD f.toNat au)>>=λd=>if aB d.av a.length=true then if decide (d.av.toNat<a.length)=true then if(bif (a.getD d.av.toNat eL).Found then(!(a.getD d.av.toNat eL).ew)else false)=true then if aB f e.ae.length=true then uy ((⟨i⟩:bh),C,(⟨e.Kind,false,0,[],(e.ae.getD f.toNat au).af,[],[I.eta (a.getD d.av.toNat eL).Value],[]⟩:I))>>=λg=>pd ((⟨r,s,t,(⟨u,v,w,x,y,z,A,B⟩:I)⟩:cJ),(⟨g.Found,g.ew,g.fx,I.eta g.Value⟩:cJ))>>=λb=>mz (C,aM .i64 f 1,a,i,j,k,l,m,n,o,p,q,e,b.Found,b.ew,b.fx,b.Value.Kind,b.Value.b',b.Value.bq,b.Value.bA,b.Value.af,b.Value.aE,b.Value.al,b.Value.Rest)
 else none
 else pd ((⟨r,s,t,(⟨u,v,w,x,y,z,A,B⟩:I)⟩:cJ),(⟨(a.getD d.av.toNat eL).Found,(a.getD d.av.toNat eL).ew,(a.getD d.av.toNat eL).fx,I.eta (a.getD d.av.toNat eL).Value⟩:cJ))>>=λc=>mz (C,aM .i64 f 1,a,i,j,k,l,m,n,o,p,q,e,c.Found,c.ew,c.fx,c.Value.Kind,c.Value.b',c.Value.bq,c.Value.bA,c.Value.af,c.Value.aE,c.Value.al,c.Value.Rest)
 else none
 else none
 else none
 else some (a,j,k,l,m,n,o,p,q,r,s,t,u,v,w,x,y,z,A,B)
  partial_fixpoint
theorem TR:ck 255 1 [1] NM mz:= .rx mz.partial_correctness (.k Q5 (.k QZ .n))
def BK(a:ah):Option (I):=
 if decide (a.Kind=2)=true then if decide (0<a.bz)=true then if decide (a.bx<0)=true then some (⟨a.Kind,false,a.bx,[],0,[],[],[]⟩:I)
 else some (⟨a.Kind,false,a.bz,[],0,[],[],[]⟩:I)
 else if decide (a.bx<0)=true then some (⟨a.Kind,false,a.bx,[],0,[],[],[]⟩:I)
 else some (⟨a.Kind,false,0,[],0,[],[],[]⟩:I)
 else if decide (a.Kind=4)=true then if aB 0 a.a7.length=true then some (⟨a.Kind,false,0,[],(a.a7.getD (0:Int).toNat dm).af,[],[],[]⟩:I)
 else none
 else some (⟨a.Kind,false,0,[],0,[],[],[]⟩:I)
theorem Ux:bd aeR BK:= .bt
def o'(j:bh×Int×List cJ):Option (cJ×List cJ):=
 match j with
 |(s,t,b)=>
 if aB t s.Types.length=true then some (s.Types.getD t.toNat ar)>>=λe=>if decide (e.Kind=5)=true then j6 (t,0,b,s.Types,false,false,[],0,false,0,[],0,e)>>=λo=>match o with
 |.inl c=>
 some ((⟨c.2.1,c.2.2.1,c.2.2.2.1,(⟨c.2.2.2.2.1,c.2.2.2.2.2.1,c.2.2.2.2.2.2.1,c.2.2.2.2.2.2.2.1,c.2.2.2.2.2.2.2.2,[],[],[]⟩:I)⟩:cJ),c.1)
 |.inr d=>
 um (d.2.2.2.2.2.2.2.2.2.2.2,d.2.1)>>=λr=>if(decide (r.2.2.length=d.2.1.length)&&true)=true then if r.2.1=true then some ((⟨true,true,[],(⟨0,false,0,[],0,[],[],[]⟩:I)⟩:cJ),r.2.2)
 else uy ((⟨d.2.2.1⟩:bh),d.1,I.eta r.1)>>=λf=>some ((⟨f.Found,f.ew,f.fx,I.eta f.Value⟩:cJ),r.2.2)
 else none
 else if(!(decide (e.Kind=6)))=true then BK e>>=λi=>uy (s,t,I.eta i)>>=λg=>some ((⟨g.Found,g.ew,g.fx,I.eta g.Value⟩:cJ),b)
 else mz (t,0,b,s.Types,false,false,[],0,false,0,[],0,e,false,false,[],0,false,0,[],0,[],[],[])>>=λa=>some ((⟨a.2.2.2.2.2.2.2.2.2.1,a.2.2.2.2.2.2.2.2.2.2.1,a.2.2.2.2.2.2.2.2.2.2.2.1,(⟨a.2.2.2.2.2.2.2.2.2.2.2.2.1,a.2.2.2.2.2.2.2.2.2.2.2.2.2.1,a.2.2.2.2.2.2.2.2.2.2.2.2.2.2.1,a.2.2.2.2.2.2.2.2.2.2.2.2.2.2.2.1,a.2.2.2.2.2.2.2.2.2.2.2.2.2.2.2.2.1,a.2.2.2.2.2.2.2.2.2.2.2.2.2.2.2.2.2.1,a.2.2.2.2.2.2.2.2.2.2.2.2.2.2.2.2.2.2.1,a.2.2.2.2.2.2.2.2.2.2.2.2.2.2.2.2.2.2.2⟩:I)⟩:cJ),a.1)
 else none
theorem UD:bd DS o':= .bt (.k Vj (.k Q5 (.k Ux .n))) (.k TQ (.k TR .n))
theorem ac1:∀h o,jF h=some o->Sum.elim (λa=>a.2.1) (λa=>a.1) o=h.2.1:=
 jF.partial_correctness (λh o=>Sum.elim (λa=>a.2.1) (λa=>a.1) o=h.2.1) (λf ih h r b=>by
 obtain⟨i,c,d,e,g,j,k,l,m,n,p,q,s,t⟩:=h
 simp only[bind,Option.bind]at b
 repeat' (first|split at b|(dsimp only at b;split at b))
 all_goals first|exact(ih _ _ b).trans rfl|(cases b;done)|(cases b;rfl))
theorem NO:∀h o,j6 h=some o->Sum.elim (λa=>a.1) (λa=>a.2.1) o=h.2.2.1:=
 j6.partial_correctness (λh o=>Sum.elim (λa=>a.1) (λa=>a.2.1) o=h.2.2.1) (λf ih h r b=>by
 obtain⟨t,i,b1,b2,e,g,j,k,l,m,n,c,d⟩:=h
 simp only[bind,Option.bind]at b
 repeat' (first|split at b|(dsimp only at b;split at b))
 all_goals first|exact(ih _ _ b).trans rfl|(cases b;done)|(cases b;rfl))
theorem ac2:∀h o,mz h=some o->o.1=h.2.2.1:=
 mz.partial_correctness (λh o=>o.1=h.2.2.1) (λf ih h r a=>by
 obtain⟨t,i,b1,b2,u,v,w,x,y,z,A,b,c,d,e,g,j,k,l,m,n,p,q,s⟩:=h
 simp only[bind,Option.bind]at a
 repeat' (first|split at a|(dsimp only at a;split at a))
 all_goals first|exact(ih _ _ a).trans rfl|(cases a;done)|(cases a;rfl))
theorem ac3(h:ah×List cJ)(o:I×Bool×List cJ)(c:um h=some o):o.2.2=h.2:=by
 obtain⟨x,b⟩:=h
 unfold um at c
 obtain⟨a,d,c⟩:=jt.1 c
 have:=ac1 _ _ d
 cases a<;>(cases c;exact this)
theorem ac4(h:bh×Int×List cJ)(o:cJ×List cJ)(a:o' h=some o):o.2=h.2.2:=by
 obtain⟨s,t,b⟩:=h
 unfold o' at a
 simp only[bind,Option.bind]at a
 repeat' (first|split at a|(dsimp only at a;split at a))
 all_goals try dsimp only at a
 all_goals first
 |(cases a;done)
 |(cases a;rfl)
 |(have h1:=ac2 _ _ ‹_›;cases a;exact h1)
 |(have h1:=NO _ _ ‹j6 _=some _›;cases a;exact h1)
 |(have h1:=NO _ _ ‹j6 _=some _›;have c:=ac3 _ _ ‹um _=some _›;cases a;exact c.trans h1)
theorem U4(h:bh×Int×List cJ)(o:cJ×List cJ)(a:o' h=some o):(DS.s (U:=cT) o').rest o=(DS.s (U:=cT) o').hc h:=by
 show[(0,ct.arr (U:=cT) (.nm 16) o.2)]=[(0,ct.arr (U:=cT) (.nm 16) h.2.2)]
 rw[ac4 h o a]
def qa(e:Int×Int×List ah×List cJ):Option (Int×List ah×List cJ):=
 match e with
 |(d,i,b,a)=>
 if decide (i<(b.length:Int))=true then if aB i a.length=true then if decide (i.toNat<a.length)=true then o' ((⟨b⟩:bh),i,a)>>=λr=>if(decide (r.2.length=a.length)&&true)=true then pd ((⟨(a.getD i.toNat eL).Found,(a.getD i.toNat eL).ew,(a.getD i.toNat eL).fx,I.eta (a.getD i.toNat eL).Value⟩:cJ),(⟨r.1.Found,r.1.ew,r.1.fx,I.eta r.1.Value⟩:cJ))>>=λc=>if aB i r.2.length=true then if decide (i.toNat<r.2.length)=true then qa (d,aM .i64 i 1,b,r.2.set i.toNat (⟨c.Found,c.ew,c.fx,I.eta c.Value⟩:cJ))
 else none
 else none
 else none
 else none
 else none
 else some (d,b,a)
  partial_fixpoint
theorem TS:ck 225 0 [0,0] Kt qa:= .rx qa.partial_correctness (.afT UD U4 (.k QZ .n))
def qi(d:Int×List ah×List cJ):Option (List cJ):=
 match d with
 |(k,b,c)=>
 if decide (k<=(b.length:Int))=true then qa (k,0,b,c)>>=λa=>qi (aM .i64 a.1 1,a.2.1,a.2.2)
 else some c
  partial_fixpoint
theorem U5:ck 225 0 [0] NN qi:= .rx qi.partial_correctness .n (.k TS .n)
def BL(s:bh):Option (List cJ):=
 some (s.Types.length:Int)>>=λt8=>if pB 144 t8=true then qi (0,s.Types,List.replicate t8.toNat eL)>>=λo=>some o
 else none
theorem Uy:bd aex BL:= .bt .n (.k U5 .n)
def Bp(a:bh×Int):Option (Int):=
 match a with
 |(s,t)=>
 rK s>>=λr=>if(!(decide (r=0)))=true then some r
 else if(bif decide (t<0)then true else decide ((s.Types.length:Int)<=t))=true then some 4
 else some 0
theorem Wl:bd aew Bp:= .bt (.k Q3 .n)
def E1(c:bh×Int):Option (cJ×Int):=
 match c with
 |(s,t)=>
 Bp (s,t)>>=λr=>if(!(decide (r=0)))=true then some ((⟨false,false,[],(⟨0,false,0,[],0,[],[],[]⟩:I)⟩:cJ),r)
 else BL s>>=λb=>if aB t b.length=true then some (b.getD t.toNat eL)>>=λa=>if(!a.Found)=true then some ((⟨false,false,[],(⟨0,false,0,[],0,[],[],[]⟩:I)⟩:cJ),10)
 else some ((⟨a.Found,a.ew,a.fx,I.eta a.Value⟩:cJ),0)
 else none
theorem Vo:bd aen E1:= .bt (.k Wl (.k Uy .n))
def E2(a:bh×Int):Option (Int×Int):=
 match a with
 |(s,t)=>
 E1 (s,t)>>=λr=>if(!(decide (r.2=0)))=true then some (0,r.2)
 else if r.1.ew=true then some (4097,0)
 else some ((r.1.fx.length:Int),0)
theorem Vp:bd aec E2:= .bt (.k Vo .n)
def nP(a:bh×Int):Option (Int):=
 match a with
 |(s,t)=>
 E2 (s,t)>>=λr=>some r.1
theorem Rc:bd afd nP:= .bt (.k Vp .n)
def FF(c:Int×Bool×List UInt8):Option (List UInt8×Int):=
 match c with
 |(id,b,a)=>
 if(bif decide (id<1)then true else decide (1000<id))=true then some ([],7)
 else if decide (4096<(a.length:Int))=true then some ([],3)
 else ux (id,b,a)>>=λr=>some (r,0)
theorem VB:bd aef FF:= .bt (.k Fw .n)
def qH(a:aO×List UInt8):Option (List UInt8):=
 match a with
 |(m,p)=>
 FF (m.af,m.bQ,p)>>=λr=>some r.1
theorem Fx:bd afg qH:= .bt (.k VB .n)
def oE(b:bh×aO):Option (Int):=
 match b with
 |(s,m)=>
 if m.bD=true then some 0
 else qH ((⟨m.af,m.Name,m.av,m.bQ,m.bD,I.eta m.bk⟩:aO),[])>>=λr=>nP (s,m.av)>>=λa=>some (aM .i64 (r.length:Int) a)
theorem Q6:bd aff oE:= .bt (.k Fx (.k Rc .n))
def qj(f:Int×Int×Int×List ah×ah):Option (Int×Int×List ah×ah):=
 match f with
 |(d,e,i,c,b)=>
 if decide (i<(b.ae.length:Int))=true then if aB i b.ae.length=true then some (b.ae.getD i.toNat au)>>=λa=>oE ((⟨c⟩:bh),(⟨a.af,a.Name,a.av,a.bQ,a.bD,I.eta a.bk⟩:aO))>>=λr=>qj (d,aM .i64 e r,aM .i64 i 1,c,b)
 else none
 else some (d,e,c,b)
  partial_fixpoint
theorem U6:ck 47 0 [0] O' qj:= .rx qj.partial_correctness (.k Q6 .n)
def j5(q:Int×Int×Int×Int×List aY×Int×Int×List ah×ah×List aY×aO×List aY):Option (Int×Int×Int×Int×List aY×Int×List ah×ah×List aY×aO×List aY):=
 match q with
 |(f,g,m,l,b,d,j,i,k,c,a,e)=>
 if decide (j<(b.length:Int))=true then if(aB j b.length||(!a.bD))=true then (if a.bD=true then jG (I.eta (b.getD j.toNat dU).V,I.eta a.bk)else some false)>>=λo=>if(bif a.bD then o else false)=true then j5 (f,g,m,l,b,d,aM .i64 j 1,i,k,c,(⟨a.af,a.Name,a.av,a.bQ,a.bD,I.eta a.bk⟩:aO),e)
 else if aB d c.length=true then if decide (d.toNat<c.length)=true then some (c.getD d.toNat dU).P>>=λt136=>if aB j b.length=true then qH ((⟨a.af,a.Name,a.av,a.bQ,a.bD,I.eta a.bk⟩:aO),(b.getD j.toNat dU).P)>>=λn=>if decide (t136.length+n.length<=dK)=true then some (t136++n)>>=λt144=>if decide (aM .i64 (t144.length:Int) g<=f)=true then if aB d c.length=true then if decide (d.toNat<c.length)=true then if aB j b.length=true then nO (I.eta (c.getD d.toNat dU).V,I.eta (b.getD j.toNat dU).V)>>=λp=>some [(⟨I.eta p,t144⟩:aY)]>>=λt165=>if room 136 (e++t165).length=true then j5 (f,g,m,l,b,d,aM .i64 j 1,i,k,c,(⟨a.af,a.Name,a.av,a.bQ,a.bD,I.eta a.bk⟩:aO),e++t165)
 else none
 else none
 else none
 else none
 else j5 (f,g,m,l,b,d,aM .i64 j 1,i,k,c,(⟨a.af,a.Name,a.av,a.bQ,a.bD,I.eta a.bk⟩:aO),e)
 else none
 else none
 else none
 else none
 else none
 else some (f,g,m,l,b,d,i,k,c,(⟨a.af,a.Name,a.av,a.bQ,a.bD,I.eta a.bk⟩:aO),e)
  partial_fixpoint
theorem Uk:ck 47 0 [0,0,1] Jy j5:= .rx j5.partial_correctness (.k xz (.k Fx (.k uu .n)))
def kU(p:Int×Int×Int×Int×List aY×Int×List ah×ah×List aY×aO×List aY):Option (Int×Int×Int×Int×List ah×ah×List aY):=
 match p with
 |(j,l,m,i,n,k,f,g,d,c,e)=>
 if(bif decide (k<(d.length:Int))then decide ((e.length:Int)<=3000)else false)=true then if c.bD=true then if aB k d.length=true then if decide (k.toNat<d.length)=true then nO (I.eta (d.getD k.toNat dU).V,I.eta c.bk)>>=λo=>if aB k d.length=true then if decide (k.toNat<d.length)=true then some [(⟨I.eta o,(d.getD k.toNat dU).P⟩:aY)]>>=λt112=>if room 136 (e++t112).length=true then j5 (j,l,m,i,n,k,0,f,g,d,(⟨c.af,c.Name,c.av,c.bQ,c.bD,I.eta c.bk⟩:aO),e++t112)>>=λa=>kU (a.1,a.2.1,a.2.2.1,a.2.2.2.1,a.2.2.2.2.1,aM .i64 a.2.2.2.2.2.1 1,a.2.2.2.2.2.2.1,a.2.2.2.2.2.2.2.1,a.2.2.2.2.2.2.2.2.1,(⟨a.2.2.2.2.2.2.2.2.2.1.af,a.2.2.2.2.2.2.2.2.2.1.Name,a.2.2.2.2.2.2.2.2.2.1.av,a.2.2.2.2.2.2.2.2.2.1.bQ,a.2.2.2.2.2.2.2.2.2.1.bD,I.eta a.2.2.2.2.2.2.2.2.2.1.bk⟩:aO),a.2.2.2.2.2.2.2.2.2.2)
 else none
 else none
 else none
 else none
 else none
 else j5 (j,l,m,i,n,k,0,f,g,d,(⟨c.af,c.Name,c.av,c.bQ,c.bD,I.eta c.bk⟩:aO),e)>>=λb=>kU (b.1,b.2.1,b.2.2.1,b.2.2.2.1,b.2.2.2.2.1,aM .i64 b.2.2.2.2.2.1 1,b.2.2.2.2.2.2.1,b.2.2.2.2.2.2.2.1,b.2.2.2.2.2.2.2.2.1,(⟨b.2.2.2.2.2.2.2.2.2.1.af,b.2.2.2.2.2.2.2.2.2.1.Name,b.2.2.2.2.2.2.2.2.2.1.av,b.2.2.2.2.2.2.2.2.2.1.bQ,b.2.2.2.2.2.2.2.2.2.1.bD,I.eta b.2.2.2.2.2.2.2.2.2.1.bk⟩:aO),b.2.2.2.2.2.2.2.2.2.2)
 else some (j,l,m,i,f,g,e)
  partial_fixpoint
theorem TT:ck 47 0 [0,1] LD kU:= .rx kU.partial_correctness (.k uu .n) (.k Uk .n)
def kV(i:Int×List aY×Int×Int×ah×List aY):Option (Int×List aY×Int×ah×List aY):=
 match i with
 |(d,c,b,k,e,a)=>
 if decide (k<(c.length:Int))=true then if aB b a.length=true then if decide (b.toNat<a.length)=true then some (a.getD b.toNat dU).P>>=λt62=>if aB k c.length=true then uz (c.getD k.toNat dU).P>>=λf=>if decide (t62.length+f.length<=dK)=true then some (t62++f)>>=λt69=>if decide ((t69.length:Int)<=d)=true then if aB b a.length=true then if decide (b.toNat<a.length)=true then if aB k c.length=true then nO (I.eta (a.getD b.toNat dU).V,I.eta (c.getD k.toNat dU).V)>>=λg=>some [(⟨I.eta g,t69⟩:aY)]>>=λt88=>if room 136 (a++t88).length=true then kV (d,c,b,aM .i64 k 1,e,a++t88)
 else none
 else none
 else none
 else none
 else kV (d,c,b,aM .i64 k 1,e,a)
 else none
 else none
 else none
 else none
 else some (d,c,b,e,a)
  partial_fixpoint
theorem U7:ck 45 0 [0,0] LB kV:= .rx kV.partial_correctness (.k Rb (.k uu .n))
def kW(f:Int×List aY×Int×ah×List aY):Option (List aY):=
 match f with
 |(e,d,i,c,a)=>
 if(bif decide (i<(a.length:Int))then decide ((a.length:Int)<=3000)else false)=true then if aB i a.length=true then if decide (i.toNat<a.length)=true then if decide (((a.getD i.toNat dU).V.al.length:Int)=c.Max)=true then kW (e,d,aM .i64 i 1,c,a)
 else kV (e,d,i,0,c,a)>>=λb=>kW (b.1,b.2.1,aM .i64 b.2.2.1 1,b.2.2.2.1,b.2.2.2.2)
 else none
 else none
 else some a
  partial_fixpoint
theorem UO:ck 45 0 [0] O8 kW:= .rx kW.partial_correctness .n (.k U7 .n)
mutual
def kX(f:bh×Int×Int):Option (List aY):=
 match f with
 |(s,t,n)=>
 if aB t s.Types.length=true then some (s.Types.getD t.toNat ar)>>=λa=>if decide (a.Kind=1)=true then if decide (0<n)=true then some [(⟨(⟨a.Kind,true,0,[],0,[],[],[]⟩:I),[1]⟩:aY)]>>=λt42=>if room 136 ([(⟨(⟨a.Kind,false,0,[],0,[],[],[]⟩:I),[]⟩:aY)]++t42).length=true then some ([(⟨(⟨a.Kind,false,0,[],0,[],[],[]⟩:I),[]⟩:aY)]++t42)
 else none
 else some [(⟨(⟨a.Kind,false,0,[],0,[],[],[]⟩:I),[]⟩:aY)]
 else if decide (a.Kind=2)=true then BG (a,n)>>=λr=>some r
 else if decide (a.Kind=3)=true then BJ (a,n)>>=λy=>some y
 else if decide (a.Kind=4)=true then o2 (n,0,a,[])>>=λo=>some o
 else if decide (a.Kind=9)=true then if decide (0<n)=true then kX (s,a.aH,c' .i64 n 1)>>=λA=>qh (A,0,a,[(⟨(⟨a.Kind,false,0,[],0,[],[],[]⟩:I),[]⟩:aY)])>>=λG=>some G
 else some [(⟨(⟨a.Kind,false,0,[],0,[],[],[]⟩:I),[]⟩:aY)]
 else if decide (a.Kind=6)=true then o4 (n,0,s.Types,a,[])>>=λg=>some g
 else if decide (a.Kind=7)=true then FH (s,a,n)>>=λB=>some B
 else if decide (a.Kind=8)=true then E3 (s,a,n)>>=λD=>some D
 else BM (s,a,n)>>=λH=>some H
 else none
  partial_fixpoint
def FH(f:bh×ah×Int):Option (List aY):=
 match f with
 |(s,a,n)=>
 if(bif decide (n=0)then true else decide (a.Max=0))=true then some [(⟨(⟨a.Kind,false,0,[],0,[],[],[]⟩:I),[]⟩:aY)]
 else kX (s,a.aH,c' .i64 n 1)>>=λr=>kW (n,r,0,a,[(⟨(⟨a.Kind,false,0,[],0,[],[],[]⟩:I),[]⟩:aY)])>>=λo=>some o
  partial_fixpoint
def E3(f:bh×ah×Int):Option (List aY):=
 match f with
 |(s,a,n)=>
 nP (s,a.Key)>>=λr=>nP (s,a.aH)>>=λy=>if(bif decide (n<aM .i64 (aM .i64 2 r) y)then true else decide (a.Max=0))=true then some [(⟨(⟨a.Kind,false,0,[],0,[],[],[]⟩:I),[]⟩:aY)]
 else nP (s,a.aH)>>=λA=>kX (s,a.Key,c' .i64 (c' .i64 n 2) A)>>=λB=>nP (s,a.Key)>>=λD=>kX (s,a.aH,c' .i64 (c' .i64 n 2) D)>>=λH=>nJ (n,B,H,0,a,[(⟨(⟨a.Kind,false,0,[],0,[],[],[]⟩:I),[]⟩:aY)])>>=λo=>some o
  partial_fixpoint
def BM(f:bh×ah×Int):Option (List aY):=
 match f with
 |(s,a,n)=>
 qj (n,0,0,s.Types,a)>>=λo=>if decide (o.1<o.2.1)=true then some []
 else nj (o.1,o.2.1,c' .i64 o.1 o.2.1,0,o.2.2.1,o.2.2.2,[(⟨(⟨o.2.2.2.Kind,false,0,[],0,[],[],[]⟩:I),[]⟩:aY)])>>=λG=>some G
  partial_fixpoint
def o4(f:Int×Int×List ah×ah×List aY):Option (List aY):=
 match f with
 |(F,q,j,p,E)=>
 if(bif decide (q<(p.ae.length:Int))then decide ((E.length:Int)<=3000)else false)=true then if aB q p.ae.length=true then nT (bW .u64 (p.ae.getD q.toNat au).af)>>=λJ=>if decide (F<(J.length:Int))=true then o4 (F,aM .i64 q 1,j,p,E)
 else if aB q p.ae.length=true then kX ((⟨j⟩:bh),(p.ae.getD q.toNat au).av,c' .i64 F (J.length:Int))>>=λM=>p' (F,q,J,M,0,j,p,E)>>=λe=>o4 (e.1,aM .i64 e.2.1 1,e.2.2.1,e.2.2.2.1,e.2.2.2.2)
 else none
 else none
 else some E
  partial_fixpoint
def nj(f:Int×Int×Int×Int×List ah×ah×List aY):Option (List aY):=
 match f with
 |(L,N,K,x,v,w,j)=>
 if(bif decide (x<(w.ae.length:Int))then decide ((j.length:Int)<=3000)else false)=true then if aB x w.ae.length=true then some (w.ae.getD x.toNat au)>>=λc=>oE ((⟨v⟩:bh),(⟨c.af,c.Name,c.av,c.bQ,c.bD,I.eta c.bk⟩:aO))>>=λy=>some (c' .i64 N y)>>=λt67=>oE ((⟨v⟩:bh),(⟨c.af,c.Name,c.av,c.bQ,c.bD,I.eta c.bk⟩:aO))>>=λA=>qH ((⟨c.af,c.Name,c.av,c.bQ,c.bD,I.eta c.bk⟩:aO),[])>>=λB=>some (c' .i64 (aM .i64 K A) (B.length:Int))>>=λt76=>if decide (0<=t76)=true then kX ((⟨v⟩:bh),c.av,t76)>>=λD=>kU (L,t67,K,x,D,0,v,w,j,(⟨c.af,c.Name,c.av,c.bQ,c.bD,I.eta c.bk⟩:aO),[])>>=λg=>nj (g.1,g.2.1,g.2.2.1,aM .i64 g.2.2.2.1 1,g.2.2.2.2.1,g.2.2.2.2.2.1,g.2.2.2.2.2.2)
 else kU (L,t67,K,x,[],0,v,w,j,(⟨c.af,c.Name,c.av,c.bQ,c.bD,I.eta c.bk⟩:aO),[])>>=λe=>nj (e.1,e.2.1,e.2.2.1,aM .i64 e.2.2.2.1 1,e.2.2.2.2.1,e.2.2.2.2.2.1,e.2.2.2.2.2.2)
 else none
 else some j
  partial_fixpoint
end
theorem UE:eD p1 kX/\eD DW BM/\eX 47 0 [1] wE nj/\eD DV E3/\eD DU FH/\eX 18 0 [2] wv o4:=kX.mutual_partial_correctness (ez p1) (ez DW) (eW 47 0 [1] wE) (ez DV) (ez DU) (eW 18 0 [2] wv)
 (λ_ _ _ _ _ h0 h1 b c bf _ _ h=>eH h (.k UN (.k Uu (.k (cB p1 h0) (.k (cB DU c) (.k (cB DV b) (.k (cB DW h1) .n)))))) (.k U2 (.k U3 (.k (fa wv bf) .n))))
 (λ_ a _ _ h=>eH h .n (.k U6 (.k (fa wE a) .n)))
 (λ_ _ h0 a _ _ h=>e' wE a h (.k Q6 (.k Fx (.k (cB p1 h0) .n))) (.k TT .n))
 (λ_ h0 _ _ h=>eH h (.k Rc (.k (cB p1 h0) .n)) (.k Uv .n))
 (λ_ h0 _ _ h=>eH h (.k (cB p1 h0) .n) (.k UO .n))
 (λ_ _ h0 bf _ _ h=>e' wv bf h (.k xh (.k (cB p1 h0) .n)) (.k TN .n))
theorem Uz:bd p1 kX:=cB _ UE.1
def rU(i:List aY×List aY×Int×Int×List aY):Option (List aY×List aY×Int×Int×List aY):=
 match i with
 |(a,c,b,d,e)=>
 some (decide (b<(a.length:Int)))>>=λt33=>if(aB b a.length||(!t33))=true then if(aB d c.length||(!t33))=true then (if t33=true then Bj ((a.getD b.toNat dU).P,(c.getD d.toNat dU).P)else some false)>>=λg=>if(bif t33 then g else false)=true then if aB b a.length=true then some (a.getD b.toNat dU)>>=λf=>some [(⟨I.eta f.V,f.P⟩:aY)]>>=λt52=>if room 136 (e++t52).length=true then rU (a,c,aM .i64 b 1,d,e++t52)
 else none
 else none
 else some (a,c,b,d,e)
 else none
 else none
  partial_fixpoint
theorem TF:ck 19 0 [0,0] LG rU:= .rx rU.partial_correctness (.k Q4 .n)
def ql(g:List aY×List aY×Int×Int×List aY):Option (List aY×Int×List aY):=
 match g with
 |(b,c,e,k,d)=>
 if decide (k<(c.length:Int))=true then rU (b,c,e,k,d)>>=λa=>if aB a.2.2.2.1 a.2.1.length=true then some (a.2.1.getD a.2.2.2.1.toNat dU)>>=λf=>some [(⟨I.eta f.V,f.P⟩:aY)]>>=λt61=>if room 136 (a.2.2.2.2++t61).length=true then ql (a.1,a.2.1,a.2.2.1,aM .i64 a.2.2.2.1 1,a.2.2.2.2++t61)
 else none
 else none
 else some (b,e,d)
  partial_fixpoint
theorem UF:ck 19 0 [0] OQ ql:= .rx ql.partial_correctness .n (.k TF .n)
def pe(l:List aY):Option (List aY):=
 if decide ((l.length:Int)<2)=true then some l
 else some (fY .i64 (l.length:Int) 2)>>=λt15=>if ed 0 t15 l.length=true then pe (eI l 0 t15)>>=λr=>some (fY .i64 (l.length:Int) 2)>>=λt21=>if ed t21 (l.length:Int) l.length=true then pe (eI l t21 (l.length:Int))>>=λa=>ql (r,a,0,0,[])>>=λo=>if ed o.2.1 (o.1.length:Int) o.1.length=true then some (eI o.1 o.2.1 (o.1.length:Int))>>=λt66=>if room 136 (o.2.2++t66).length=true then some (o.2.2++t66)
 else none
 else none
 else none
 else none
  partial_fixpoint
theorem VZ:bd aep pe:= .rx pe.partial_correctness (λ_ h=>(.k h .n)) (.k UF .n)
def BN(c:bh×Int×Int):Option (List aY×Int):=
 match c with
 |(s,t,n)=>
 Bh (s,t)>>=λr=>if(!(decide (r=0)))=true then some ([],r)
 else if(bif decide (n<0)then true else decide (12<n))=true then some ([],7)
 else kX (s,t,n)>>=λa=>if decide (3000<(a.length:Int))=true then some ([],3)
 else pe a>>=λb=>some (b,0)
theorem UA:bd jQ BN:= .bt (.k VA (.k Uz (.k VZ .n)))
def xq(a:bh×Int):Option (Int):=
 match a with
 |(s,t)=>
 sa s>>=λr=>if(!(decide (r=0)))=true then some r
 else if(bif decide (t<0)then true else decide ((s.Types.length:Int)<=t))=true then some 4
 else some 0
theorem Wm:bd ae5 xq:= .bt (.k Fg .n)
def FW(a:bh×Int×I):Option (Bool):=
 match a with
 |(s,t,v)=>
 jJ (s,t,I.eta v,true)>>=λr=>some r
theorem W8:bd ae6 FW:= .bt (.k Tf .n)
def Bw(d:bh×Int×I×bh×Int):Option (Int):=
 match d with
 |(w,wt,v,r,rt)=>
 xq (w,wt)>>=λa=>if(!(decide (a=0)))=true then some a
 else xq (r,rt)>>=λb=>if(!(decide (b=0)))=true then some b
 else FW (w,wt,I.eta v)>>=λc=>if(!c)=true then some 1
 else some 0
theorem Wa:bd aes Bw:= .bt (.k Wm (.k W8 .n))
def rL(d:List ah×List ah×List Int×List Int):Option (I×Bool×List ah×List ah×List Int×List Int):=
 match d with
 |(b,c,e,a)=>
 sR 8 a>>=λr=>if(decide (r.1.length=a.length)&&true)=true then some ((⟨0,false,0,[],0,[],[],[]⟩:I),false,b,c,r.1,r.2)
 else none
theorem Q7:bd ae7 rL:= .bt (.k A9 .n)
def uq(d:Int×List ah×List ah×List Int×List Int):Option (I×Bool×List ah×List ah×List Int×List Int):=
 match d with
 |(id,b,c,e,a)=>
 sR 8 a>>=λr=>if(decide (r.1.length=a.length)&&true)=true then some [id]>>=λt13=>if room 8 (r.2++t13).length=true then some ((⟨0,false,0,[],0,[],[],[]⟩:I),false,b,c,r.1,r.2++t13)
 else none
 else none
theorem Ru:bd afh uq:= .bt (.k A9 .n)
mutual
def j'(v:I):Option (I):=
 fR 120 v.aE>>=λr=>fR 120 v.al>>=λW=>fR 24 v.Rest>>=λX=>rM ((r.length:Int),0,v.Kind,v.b',v.bq,v.bA,v.af,0,false,0,[],0,r,W,X)>>=λo=>rN ((o.2.2.2.2.2.2.2.2.2.2.2.1.length:Int),0,o.1,o.2.1,o.2.2.1,o.2.2.2.1,o.2.2.2.2.1,o.2.2.2.2.2.1,o.2.2.2.2.2.2.1,o.2.2.2.2.2.2.2.1,o.2.2.2.2.2.2.2.2.1,o.2.2.2.2.2.2.2.2.2.1,o.2.2.2.2.2.2.2.2.2.2.2.1,o.2.2.2.2.2.2.2.2.2.2.1,o.2.2.2.2.2.2.2.2.2.2.2.2)>>=λa=>some (⟨a.1,a.2.1,a.2.2.1,a.2.2.2.1,a.2.2.2.2.1,a.2.2.2.2.2.2.2.2.2.2.1,a.2.2.2.2.2.2.2.2.2.2.2.1,a.2.2.2.2.2.2.2.2.2.2.2.2⟩:I)
  partial_fixpoint
def rM(f:Int×Int×Int×Bool×Int×List UInt8×Int×Int×Bool×Int×List UInt8×Int×List I×List I×List cF):Option (Int×Bool×Int×List UInt8×Int×Int×Bool×Int×List UInt8×Int×List I×List I×List cF):=
 match f with
 |(S,t22,g,j,p,q,t,w,x,y,A,B,c,D,E)=>
 if decide (t22<S)=true then if aB t22 c.length=true then if decide (t22.toNat<c.length)=true then j' (I.eta (c.getD t22.toNat aK))>>=λY=>if aB t22 c.length=true then if decide (t22.toNat<c.length)=true then rM (S,aM .i64 t22 1,g,j,p,q,t,w,x,y,A,B,c.set t22.toNat (I.eta Y),D,E)
 else none
 else none
 else none
 else none
 else some (g,j,p,q,t,w,x,y,A,B,c,D,E)
  partial_fixpoint
def rN(f:Int×Int×Int×Bool×Int×List UInt8×Int×Int×Bool×Int×List UInt8×Int×List I×List I×List cF):Option (Int×Bool×Int×List UInt8×Int×Int×Bool×Int×List UInt8×Int×List I×List I×List cF):=
 match f with
 |(U,t37,F,G,H,J,K,L,M,N,O,P,e,Q,R)=>
 if decide (t37<U)=true then if aB t37 e.length=true then if decide (t37.toNat<e.length)=true then j' (I.eta (e.getD t37.toNat aK))>>=λZ=>if aB t37 e.length=true then if decide (t37.toNat<e.length)=true then rN (U,aM .i64 t37 1,F,G,H,J,K,L,M,N,O,P,e.set t37.toNat (I.eta Z),Q,R)
 else none
 else none
 else none
 else none
 else some (F,G,H,J,K,L,M,N,O,P,Q,e,R)
  partial_fixpoint
end
theorem Vq:eD wO j'/\eX 93 0 [1] wQ rN/\eX 93 0 [0] wP rM:=j'.mutual_partial_correctness (ez wO) (eW 93 0 [1] wQ) (eW 93 0 [0] wP)
 (λ_ _ h1 a _ _ h=>eH h (.k Fz (.k FA .n)) (.k (fa wP a) (.k (fa wQ h1) .n)))
 (λ_ _ h0 h1 _ _ h=>e' wQ h1 h (.k (cB wO h0) .n))
 (λ_ _ h0 a _ _ h=>e' wP a h (.k (cB wO h0) .n))
theorem Wn:bd wO j':=cB _ Vq.1
def sw(a:aO×I):Option (Bool):=
 match a with
 |(m,item)=>
 (if m.bD=true then nq (I.eta item,I.eta m.bk)else some false)>>=λr=>some (bif m.bD then r else false)
theorem Fy:bd afi sw:= .bt (.k Fm .n)
def Cm(c:Int×Bool×List UInt8):Option (List UInt8×Int):=
 match c with
 |(id,b,a)=>
 if(bif decide (id<1)then true else decide (1000<id))=true then some ([],7)
 else if decide (4096<(a.length:Int))=true then some ([],3)
 else uG (id,b,a)>>=λr=>some (r,0)
theorem Xs:bd aeg Cm:= .bt (.k Fi .n)
def uE(p:List UInt8):Option (List UInt8):=
 oQ (bW .u64 (p.length:Int))>>=λr=>if decide (r.length+p.length<=dK)=true then some (r++p)
 else none
theorem Wb:bd aeh uE:= .bt (.k xy .n)
mutual
def k0(e:bh×Int×I):Option (List UInt8):=
 match e with
 |(s,t,v)=>
 if aB t s.Types.length=true then some (s.Types.getD t.toNat ar)>>=λa=>if decide (a.Kind=5)=true then qu ([],a.ae,(a.ae.length:Int),0,s.Types,I.eta v)>>=λo=>some o
 else if decide (a.Kind=6)=true then hB (a,v.af)>>=λr=>oQ (bW .u64 v.af)>>=λJ=>if aB r.1 a.ae.length=true then if aB 0 v.al.length=true then k0 (s,(a.ae.getD r.1.toNat au).av,I.eta (v.al.getD (0:Int).toNat aK))>>=λK=>if decide (J.length+K.length<=dK)=true then some (J++K)
 else none
 else none
 else none
 else if decide (a.Kind=9)=true then uw ([],v.al,(v.al.length:Int),0,s.Types,a)>>=λN=>some N
 else some (decide (a.Kind=7))>>=λt115=>if t115=true then if t115=true then kZ ([],v.al,(v.al.length:Int),0,s.Types,I.eta v,a)>>=λO=>some O
 else xu (s,t,I.eta v)>>=λY=>some Y.1
 else if decide (a.Kind=8)=true then kZ ([],v.al,(v.al.length:Int),0,s.Types,I.eta v,a)>>=λP=>some P
 else xu (s,t,I.eta v)>>=λZ=>some Z.1
 else none
  partial_fixpoint
def qu(e:List UInt8×List aO×Int×Int×List ah×I):Option (List UInt8):=
 match e with
 |(w,t36,y,t38,b,f)=>
 if decide (t38<y)=true then if aB t38 t36.length=true then some (t36.getD t38.toNat au)>>=λc=>if aB t38 f.al.length=true then sw ((⟨c.af,c.Name,c.av,c.bQ,c.bD,I.eta c.bk⟩:aO),I.eta (f.al.getD t38.toNat aK))>>=λR=>if(!R)=true then if aB t38 f.al.length=true then k0 ((⟨b⟩:bh),c.av,I.eta (f.al.getD t38.toNat aK))>>=λS=>Cm (c.af,c.bQ,S)>>=λD=>if decide (w.length+D.1.length<=dK)=true then qu (w++D.1,t36,y,aM .i64 t38 1,b,I.eta f)
 else none
 else none
 else qu (w,t36,y,aM .i64 t38 1,b,I.eta f)
 else none
 else none
 else some w
  partial_fixpoint
def uw(e:List UInt8×List I×Int×Int×List ah×ah):Option (List UInt8):=
 match e with
 |(Q,t101,L,t103,A,B)=>
 if decide (t103<L)=true then if aB t103 t101.length=true then k0 ((⟨A⟩:bh),B.aH,I.eta (t101.getD t103.toNat aK))>>=λE=>if decide ([1].length+E.length<=dK)=true then uw ([1]++E,t101,L,aM .i64 t103 1,A,B)
 else none
 else none
 else some Q
  partial_fixpoint
def kZ(e:List UInt8×List I×Int×Int×List ah×I×ah):Option (List UInt8):=
 match e with
 |(p,t118,x,t120,j,q,g)=>
 if decide (t120<x)=true then if aB t120 t118.length=true then some (t118.getD t120.toNat aK)>>=λM=>if decide (g.Kind=8)=true then if aB t120 q.aE.length=true then k0 ((⟨j⟩:bh),g.Key,I.eta (q.aE.getD t120.toNat aK))>>=λU=>uE U>>=λF=>if decide (p.length+F.length<=dK)=true then some (p++F)>>=λt139=>k0 ((⟨j⟩:bh),g.aH,I.eta M)>>=λW=>uE W>>=λG=>if decide (t139.length+G.length<=dK)=true then kZ (t139++G,t118,x,aM .i64 t120 1,j,I.eta q,g)
 else none
 else none
 else none
 else k0 ((⟨j⟩:bh),g.aH,I.eta M)>>=λX=>uE X>>=λH=>if decide (p.length+H.length<=dK)=true then kZ (p++H,t118,x,aM .i64 t120 1,j,I.eta q,g)
 else none
 else none
 else some p
  partial_fixpoint
end
theorem VC:eD rB k0/\eX 96 0 [2] wU kZ/\eX 96 0 [1] wT uw/\eX 96 0 [0] wS qu:=k0.mutual_partial_correctness (ez rB) (eW 96 0 [2] wU) (eW 96 0 [1] wT) (eW 96 0 [0] wS)
 (λ_ _ _ _ h0 h1 a b _ _ h=>eH h (.k oG (.k xy (.k (cB rB h0) (.k WA .n)))) (.k (fa wS b) (.k (fa wT a) (.k (fa wU h1) .n))))
 (λ_ _ h0 h1 _ _ h=>e' wU h1 h (.k (cB rB h0) (.k Wb .n)))
 (λ_ _ h0 a _ _ h=>e' wT a h (.k (cB rB h0) .n))
 (λ_ _ h0 b _ _ h=>e' wS b h (.k Fy (.k (cB rB h0) (.k Xs .n))))
theorem Rl:bd rB k0:=cB _ VC.1
def nF(z:List aO×Int×Int×List ah×List ah×List Int×I×ah×Int×Bool×Int×List UInt8×Int×Int×Bool×Int×List UInt8×Int×List Int×List I×List cF):Option ((Bool×List ah×List ah×I×List Int×List Int) ⊕ (List ah×List ah×List Int×Int×Bool×Int×List UInt8×Int×Int×Bool×Int×List UInt8×Int×List Int×List I×List cF)):=
 match z with
 |(t115,v,t117,c,e,f,b,j,k,l,m,n,o,p,q,r,s,t,g,u,i)=>
 if decide (t117<v)=true then if aB t117 t115.length=true then some (t115.getD t117.toNat au)>>=λa=>hB (j,a.af)>>=λw=>if w.2=true then nF (t115,v,aM .i64 t117 1,c,e,f,I.eta b,j,k,l,m,n,o,p,q,r,s,t,g,u,i)
 else if a.bQ=true then uq (a.af,c,e,f,g)>>=λd=>some (.inl (d.2.1,d.2.2.1,d.2.2.2.1,I.eta d.1,d.2.2.2.2.1,d.2.2.2.2.2))
 else if aB t117 b.al.length=true then sw ((⟨a.af,a.Name,a.av,a.bQ,a.bD,I.eta a.bk⟩:aO),I.eta (b.al.getD t117.toNat aK))>>=λx=>if(!x)=true then if aB t117 b.al.length=true then k0 ((⟨c⟩:bh),a.av,I.eta (b.al.getD t117.toNat aK))>>=λy=>some [(⟨a.af,y⟩:cF)]>>=λt163=>if room 24 (i++t163).length=true then nF (t115,v,aM .i64 t117 1,c,e,f,I.eta b,j,k,l,m,n,o,p,q,r,s,t,g,u,i++t163)
 else none
 else none
 else nF (t115,v,aM .i64 t117 1,c,e,f,I.eta b,j,k,l,m,n,o,p,q,r,s,t,g,u,i)
 else none
 else none
 else some (.inr (c,e,f,k,l,m,n,o,p,q,r,s,t,g,u,i))
  partial_fixpoint
theorem U8:ck 53 2 [1] Pb nF:= .rx nF.partial_correctness (.k oG (.k Ru (.k Fy (.k Rl .n))))
mutual
def qI(q:Int×Int×I×Int×List ah×List ah×List Int×List Int):Option (I×Bool×List ah×List ah×List Int×List Int):=
 match q with
 |(step,wt,v,rt,b,f,j,g)=>
 some [step]>>=λt20=>if room 8 (g++t20).length=true then sx (wt,I.eta v,rt,b,f,j,g++t20)>>=λr=>some (c' .i64 (r.2.2.2.2.2.length:Int) 1)>>=λt42=>if ed 0 t42 r.2.2.2.2.2.length=true then if decide (t42.toNat<=r.2.2.2.2.2.length)=true then some (I.eta r.1,r.2.1,r.2.2.1,r.2.2.2.1,r.2.2.2.2.1,r.2.2.2.2.2.take t42.toNat)
 else none
 else none
 else none
  partial_fixpoint
def nM(q:Int×List I×Int×List ah×List ah×List Int×List Int):Option (List I×Bool×List ah×List ah×List Int×List Int):=
 match q with
 |(wt,l,rt,b,f,j,g)=>
 rZ (wt,rt,l,(l.length:Int),0,b,f,j,[],g)>>=λo=>match o with
 |.inl t=>
 some ([],t.1,t.2.1,t.2.2.1,t.2.2.2.1,t.2.2.2.2)
 |.inr e=>
 some (e.2.2.2.1,true,e.1,e.2.1,e.2.2.1,e.2.2.2.2)
  partial_fixpoint
def sx(q:Int×I×Int×List ah×List ah×List Int×List Int):Option (I×Bool×List ah×List ah×List Int×List Int):=
 match q with
 |(wt,v,rt,b,f,j,g)=>
 if aB wt b.length=true then some (b.getD wt.toNat ar)>>=λc=>if aB rt f.length=true then some (f.getD rt.toNat ar)>>=λa=>if(!(decide (c.Kind=a.Kind)))=true then rL (b,f,j,g)>>=λr=>some (I.eta r.1,r.2.1,r.2.2.1,r.2.2.2.1,r.2.2.2.2.2,r.2.2.2.2.1)
 else
 let bH:=λc0=>
 if(!c0)=true then rL (b,f,j,g)>>=λU=>some (I.eta U.1,U.2.1,U.2.2.1,U.2.2.2.1,U.2.2.2.2.2,U.2.2.2.2.1)
 else if decide (c.Kind=5)=true then xJ (c,I.eta v,a,b,f,j,g)>>=λO=>some (I.eta O.1,O.2.1,O.2.2.1,O.2.2.2.1,O.2.2.2.2.1,O.2.2.2.2.2)
 else if decide (c.Kind=6)=true then xd (c,I.eta v,a,b,f,j,g)>>=λP=>some (I.eta P.1,P.2.1,P.2.2.1,P.2.2.2.1,P.2.2.2.2.1,P.2.2.2.2.2)
 else if decide (c.Kind=8)=true then nM (c.Key,v.aE,a.Key,b,f,j,g)>>=λB=>if(!B.2.1)=true then some ((⟨0,false,0,[],0,[],[],[]⟩:I),false,B.2.2.1,B.2.2.2.1,B.2.2.2.2.1,B.2.2.2.2.2)
 else nM (c.aH,v.al,a.aH,B.2.2.1,B.2.2.2.1,B.2.2.2.2.1,B.2.2.2.2.2)>>=λF=>if(!F.2.1)=true then some ((⟨0,false,0,[],0,[],[],[]⟩:I),false,F.2.2.1,F.2.2.2.1,F.2.2.2.2.1,F.2.2.2.2.2)
 else some ((⟨v.Kind,v.b',v.bq,v.bA,v.af,B.1,F.1,[]⟩:I),true,F.2.2.1,F.2.2.2.1,F.2.2.2.2.1,F.2.2.2.2.2)
 else nM (c.aH,v.al,a.aH,b,f,j,g)>>=λG=>if(!G.2.1)=true then some ((⟨0,false,0,[],0,[],[],[]⟩:I),false,G.2.2.1,G.2.2.2.1,G.2.2.2.2.1,G.2.2.2.2.2)
 else some ((⟨v.Kind,v.b',v.bq,v.bA,v.af,[],G.1,[]⟩:I),true,G.2.2.1,G.2.2.2.1,G.2.2.2.2.1,G.2.2.2.2.2)
 if decide (c.Kind=2)=true then bH (bif decide (a.bz<=v.bq)then decide (v.bq<=a.bx)else false)
 else
 let bv:=λcP=>
 bH cP
 if decide (c.Kind=3)=true then bv (decide ((v.bA.length:Int)<=a.Max))
 else if decide (c.Kind=4)=true then uC (a,v.af)>>=λcm=>bv (bif cm.2 then true else a.Open)
 else some (decide (c.Kind=7))>>=λt91=>
 let br:=λcs=>
 let bi:=λ(_:Unit)=>
 if decide (c.Kind=5)=true then xJ (c,I.eta v,a,b,f,j,g)>>=λR=>some (I.eta R.1,R.2.1,R.2.2.1,R.2.2.2.1,R.2.2.2.2.1,R.2.2.2.2.2)
 else if decide (c.Kind=6)=true then xd (c,I.eta v,a,b,f,j,g)>>=λS=>some (I.eta S.1,S.2.1,S.2.2.1,S.2.2.2.1,S.2.2.2.2.1,S.2.2.2.2.2)
 else if decide (c.Kind=8)=true then nM (c.Key,v.aE,a.Key,b,f,j,g)>>=λx=>if(!x.2.1)=true then some ((⟨0,false,0,[],0,[],[],[]⟩:I),false,x.2.2.1,x.2.2.2.1,x.2.2.2.2.1,x.2.2.2.2.2)
 else nM (c.aH,v.al,a.aH,x.2.2.1,x.2.2.2.1,x.2.2.2.2.1,x.2.2.2.2.2)>>=λA=>if(!A.2.1)=true then some ((⟨0,false,0,[],0,[],[],[]⟩:I),false,A.2.2.1,A.2.2.2.1,A.2.2.2.2.1,A.2.2.2.2.2)
 else some ((⟨v.Kind,v.b',v.bq,v.bA,v.af,x.1,A.1,[]⟩:I),true,A.2.2.1,A.2.2.2.1,A.2.2.2.2.1,A.2.2.2.2.2)
 else nM (c.aH,v.al,a.aH,b,f,j,g)>>=λD=>if(!D.2.1)=true then some ((⟨0,false,0,[],0,[],[],[]⟩:I),false,D.2.2.1,D.2.2.2.1,D.2.2.2.2.1,D.2.2.2.2.2)
 else some ((⟨v.Kind,v.b',v.bq,v.bA,v.af,[],D.1,[]⟩:I),true,D.2.2.1,D.2.2.2.1,D.2.2.2.2.1,D.2.2.2.2.2)
 if cs=true then if(!(decide ((v.al.length:Int)<=a.Max)))=true then rL (b,f,j,g)>>=λQ=>some (I.eta Q.1,Q.2.1,Q.2.2.1,Q.2.2.2.1,Q.2.2.2.2.2,Q.2.2.2.2.1)
 else bi ()
 else bi ()
 if t91=true then br t91
 else br (decide (c.Kind=8))
 else none
 else none
  partial_fixpoint
def xJ(q:ah×I×ah×List ah×List ah×List Int×List Int):Option (I×Bool×List ah×List ah×List Int×List Int):=
 match q with
 |(c,v,y,b,f,j,g)=>
 o5 (y.ae,(y.ae.length:Int),0,b,f,j,c,I.eta v,y,0,false,0,[],0,v.Kind,false,0,[],0,g,[])>>=λo=>match o with
 |.inl t=>
 some (I.eta t.2.2.2.2.1,t.1,t.2.1,t.2.2.1,t.2.2.2.1,t.2.2.2.2.2)
 |.inr e=>
 nF (e.2.2.2.1.ae,(e.2.2.2.1.ae.length:Int),0,e.1,e.2.1,e.2.2.1,I.eta e.2.2.2.2.1,e.2.2.2.2.2.1,e.2.2.2.2.2.2.1,e.2.2.2.2.2.2.2.1,e.2.2.2.2.2.2.2.2.1,e.2.2.2.2.2.2.2.2.2.1,e.2.2.2.2.2.2.2.2.2.2.1,e.2.2.2.2.2.2.2.2.2.2.2.1,e.2.2.2.2.2.2.2.2.2.2.2.2.1,e.2.2.2.2.2.2.2.2.2.2.2.2.2.1,e.2.2.2.2.2.2.2.2.2.2.2.2.2.2.1,e.2.2.2.2.2.2.2.2.2.2.2.2.2.2.2.1,e.2.2.2.2.2.2.2.2.2.2.2.2.2.2.2.2.1,e.2.2.2.2.2.2.2.2.2.2.2.2.2.2.2.2.2,[])>>=λb3=>match b3 with
 |.inl M=>
 some (I.eta M.2.2.2.1,M.1,M.2.1,M.2.2.1,M.2.2.2.2.2,M.2.2.2.2.1)
 |.inr w=>
 some ((⟨w.2.2.2.2.2.2.2.2.1,w.2.2.2.2.2.2.2.2.2.1,w.2.2.2.2.2.2.2.2.2.2.1,w.2.2.2.2.2.2.2.2.2.2.2.1,w.2.2.2.2.2.2.2.2.2.2.2.2.1,[],w.2.2.2.2.2.2.2.2.2.2.2.2.2.2.1,w.2.2.2.2.2.2.2.2.2.2.2.2.2.2.2⟩:I),true,w.1,w.2.1,w.2.2.1,w.2.2.2.2.2.2.2.2.2.2.2.2.2.1)
  partial_fixpoint
def xd(q:ah×I×ah×List ah×List ah×List Int×List Int):Option (I×Bool×List ah×List ah×List Int×List Int):=
 match q with
 |(c,v,y,b,f,j,g)=>
 hB (c,v.af)>>=λr=>hB (y,v.af)>>=λE=>if E.2=true then if aB r.1 c.ae.length=true then if aB 0 v.al.length=true then if aB E.1 y.ae.length=true then qI (v.af,(c.ae.getD r.1.toNat au).av,I.eta (v.al.getD (0:Int).toNat aK),(y.ae.getD E.1.toNat au).av,b,f,j,g)>>=λH=>if(!H.2.1)=true then some ((⟨0,false,0,[],0,[],[],[]⟩:I),false,H.2.2.1,H.2.2.2.1,H.2.2.2.2.1,H.2.2.2.2.2)
 else some ((⟨v.Kind,false,0,[],v.af,[],[I.eta H.1],[]⟩:I),true,H.2.2.1,H.2.2.2.1,H.2.2.2.2.1,H.2.2.2.2.2)
 else none
 else none
 else none
 else if(!y.Open)=true then rL (b,f,j,g)>>=λN=>some (I.eta N.1,N.2.1,N.2.2.1,N.2.2.2.1,N.2.2.2.2.2,N.2.2.2.2.1)
 else if aB r.1 c.ae.length=true then if aB 0 v.al.length=true then k0 ((⟨b⟩:bh),(c.ae.getD r.1.toNat au).av,I.eta (v.al.getD (0:Int).toNat aK))>>=λK=>some ((⟨v.Kind,false,0,[],v.af,[],[],[(⟨v.af,K⟩:cF)]⟩:I),true,b,f,j,g)
 else none
 else none
  partial_fixpoint
def rZ(q:Int×Int×List I×Int×Int×List ah×List ah×List Int×List I×List Int):Option ((Bool×List ah×List ah×List Int×List Int) ⊕ (List ah×List ah×List Int×List I×List Int)):=
 match q with
 |(b2,b0,t15,b1,t17,a9,be,bf,an,bg)=>
 if decide (t17<b1)=true then if aB t17 t15.length=true then qI (t17,b2,I.eta (t15.getD t17.toNat aK),b0,a9,be,bf,bg)>>=λr=>if(!r.2.1)=true then some (.inl (false,r.2.2.1,r.2.2.2.1,r.2.2.2.2.1,r.2.2.2.2.2))
 else some [I.eta r.1]>>=λt35=>if room 120 (an++t35).length=true then rZ (b2,b0,t15,b1,aM .i64 t17 1,r.2.2.1,r.2.2.2.1,r.2.2.2.2.1,an++t35,r.2.2.2.2.2)
 else none
 else none
 else some (.inr (a9,be,bf,an,bg))
  partial_fixpoint
def o5(q:List aO×Int×Int×List ah×List ah×List Int×ah×I×ah×Int×Bool×Int×List UInt8×Int×Int×Bool×Int×List UInt8×Int×List Int×List I):Option ((Bool×List ah×List ah×List Int×I×List Int) ⊕ (List ah×List ah×List Int×ah×I×ah×Int×Bool×Int×List UInt8×Int×Int×Bool×Int×List UInt8×Int×List Int×List I)):=
 match q with
 |(t25,a5,t27,Y,Z,ad,J,L,ao,ap,ax,aG,aI,aP,a0,a1,a2,a3,a4,am,X)=>
 if decide (t27<a5)=true then if aB t27 t25.length=true then some (t25.getD t27.toNat au)>>=λa=>hB (J,a.af)>>=λr=>if(!r.2)=true then if(!a.bD)=true then uq (a.af,Y,Z,ad,am)>>=λE=>some (.inl (E.2.1,E.2.2.1,E.2.2.2.1,E.2.2.2.2.2,I.eta E.1,E.2.2.2.2.1))
 else j' (I.eta a.bk)>>=λce=>some [I.eta ce]>>=λt54=>if room 120 (X++t54).length=true then o5 (t25,a5,aM .i64 t27 1,Y,Z,ad,J,I.eta L,ao,ap,ax,aG,aI,aP,a0,a1,a2,a3,a4,am,X++t54)
 else none
 else if aB r.1 J.ae.length=true then if aB r.1 L.al.length=true then qI (a.af,(J.ae.getD r.1.toNat au).av,I.eta (L.al.getD r.1.toNat aK),a.av,Y,Z,ad,am)>>=λp=>if aB r.1 J.ae.length=true then some (J.ae.getD r.1.toNat au)>>=λW=>if aB r.1 L.al.length=true then sw ((⟨W.af,W.Name,W.av,W.bQ,W.bD,I.eta W.bk⟩:aO),I.eta (L.al.getD r.1.toNat aK))>>=λbR=>some (!p.2.1)>>=λt90=>(if(bR&&(!t90))=true then sw ((⟨a.af,a.Name,a.av,a.bQ,a.bD,I.eta a.bk⟩:aO),I.eta p.1)else some false)>>=λci=>if(bif bR then bif t90 then true else(!ci)else false)=true then uq (a.af,p.2.2.1,p.2.2.2.1,p.2.2.2.2.1,p.2.2.2.2.2)>>=λK=>some (.inl (K.2.1,K.2.2.1,K.2.2.2.1,K.2.2.2.2.2,I.eta K.1,K.2.2.2.2.1))
 else if(!p.2.1)=true then some (.inl (false,p.2.2.1,p.2.2.2.1,p.2.2.2.2.1,(⟨0,false,0,[],0,[],[],[]⟩:I),p.2.2.2.2.2))
 else some [I.eta p.1]>>=λt110=>if room 120 (X++t110).length=true then o5 (t25,a5,aM .i64 t27 1,p.2.2.1,p.2.2.2.1,p.2.2.2.2.1,J,I.eta L,ao,ap,ax,aG,aI,aP,a0,a1,a2,a3,a4,p.2.2.2.2.2,X++t110)
 else none
 else none
 else none
 else none
 else none
 else none
 else some (.inr (Y,Z,ad,J,I.eta L,ao,ap,ax,aG,aI,aP,a0,a1,a2,a3,a4,am,X))
  partial_fixpoint
end
theorem UB:eD wR qI/\eD Aj sx/\eD DZ nM/\eX 55 2 [0] wG rZ/\eD DY xd/\eD DX xJ/\eX 53 2 [0] wF o5:=qI.mutual_partial_correctness (ez wR) (ez Aj) (ez DZ) (eW 55 2 [0] wG) (ez DY) (ez DX) (eW 53 2 [0] wF)
 (λ_ h1 _ _ h=>eH h (.k (cB Aj h1) .n))
 (λ_ _ _ c d bf _ _ h=>eH h (.k Q7 (.k (cB DX bf) (.k (cB DY d) (.k (cB DZ c) (.k E5 .n))))))
 (λ_ a _ _ h=>eH h .n (.k (fa wG a) .n))
 (λ_ _ h0 a _ _ h=>e' wG a h (.k (cB wR h0) .n))
 (λ_ h0 _ _ h=>eH h (.k oG (.k (cB wR h0) (.k Q7 (.k Rl .n)))))
 (λ_ b _ _ h=>eH h .n (.k (fa wF b) (.k U8 .n)))
 (λ_ _ h0 b _ _ h=>e' wF b h (.k oG (.k Ru (.k Wn (.k (cB wR h0) (.k Fy .n))))))
theorem VD:bd Aj sx:=cB _ UB.2.1
def xk(c:bh×Int×I×bh×Int):Option (I×Int):=
 match c with
 |(w,wt,v,r,rt)=>
 Bw (w,wt,I.eta v,r,rt)>>=λa=>if(!(decide (a=0)))=true then some ((⟨0,false,0,[],0,[],[],[]⟩:I),a)
 else sx (wt,I.eta v,rt,w.Types,r.Types,[],[])>>=λb=>if(!b.2.1)=true then some ((⟨0,false,0,[],0,[],[],[]⟩:I),12)
 else some (I.eta b.1,0)
theorem QP:bd ou xk:= .bt (.k Wa (.k VD .n))
def A6(d:bh×Int×I×bh×Int×I):Option (Bool):=
 match d with
 |(w,wt,v,r,rt,c)=>
 xk (w,wt,I.eta v,r,rt)>>=λa=>some (decide (a.2=0))>>=λt25=>(if t25=true then nq (I.eta a.1,I.eta c)else some false)>>=λb=>some (bif t25 then b else false)
theorem Wc:bd wu A6:= .bt (.k QP (.k Fm .n))
def qb(j:Int×List aY×Int×Int×List ah×List ah):Option ((Bool) ⊕ (Unit)):=
 match j with
 |(t,t44,f,t46,b,a)=>
 if decide (t46<f)=true then if aB t46 t44.length=true then some (t44.getD t46.toNat dU)>>=λe=>xk ((⟨b⟩:bh),t,I.eta e.V,(⟨a⟩:bh),t)>>=λc=>Bv ((⟨a⟩:bh),t,e.P)>>=λd=>some (decide (c.2=0))>>=λt69=>some (!(decide (d.2=0)))>>=λt72=>(if(t69&&(!t72))=true then Bc (I.eta c.1,I.eta d.1)else some false)>>=λg=>if(bif t69 then bif t72 then true else(!g)else false)=true then some (.inl false)
 else some (!(decide (c.2=0)))>>=λt81=>some (!(decide (c.2=12)))>>=λt84=>some (decide (d.2=0))>>=λt87=>(if(t81&&(!t84)&&t87)=true then A6 ((⟨b⟩:bh),t,I.eta e.V,(⟨a⟩:bh),t,I.eta d.1)else some false)>>=λi=>if(bif t81 then bif t84 then true else bif t87 then i else false else false)=true then some (.inl false)
 else qb (t,t44,f,aM .i64 t46 1,b,a)
 else none
 else some (.inr ())
  partial_fixpoint
theorem TU:ck 3 0 [0] O2 qb:= .rx qb.partial_correctness (.k QP (.k V' (.k Vt (.k Wc .n))))
def zh(c:lH):Option (Bool):=
 sH c>>=λr=>xg ()>>=λd=>if(bif (!d)then true else(!r.2.2.2.2))=true then xg ()>>=λe=>some e
 else BN (r.1,r.2.2.1,3)>>=λa=>if(bif (!(decide (a.2=0)))then true else decide (300<(a.1.length:Int)))=true then some true
 else qb (r.2.2.1,a.1,(a.1.length:Int),0,r.1.Types,r.2.1.Types)>>=λo=>match o with
 |.inl b=>
 some b
 |.inr f=>
 some true
theorem adH:bd cz zh:= .bt (.k WY (.k V1 (.k UA .n))) (.k TU .n)
end
section
open Go Go.Proofs.YtfcnkdegapjgnaaGreatDoor.Shv
set_option maxRecDepth 100000
def jx(s:List UInt8):Nat->Nat->Nat->Int×Int×Int
 |0,_,_=>(0,0,10)
 |f+1,i,n=>
  if i<s.length then if i=9/\1<(s.getD i 0).toNat then(0,0,7)
   else if 128<=(s.getD i 0).toNat then jx s f (i+1) (n+((s.getD i 0).toNat%128)*2^(7*i))
   else if(s.getD i 0).toNat=0/\0<i then(0,0,2)
   else(((n+(s.getD i 0).toNat*2^(7*i):Nat):Int),((i+1:Nat):Int),0)
  else(0,0,10)
theorem Qg{i:Nat}(h:i<=9):2^(7*i)<=9223372036854775808:=by
 have:2^(7*i)<=2^63:=AI (by omega) (by omega);omega
theorem Qh(i:Nat):2^(7*(i+1))=2^(7*i)*128:=by rw[Nat.mul_add,Nat.pow_add]
theorem QF{n i b:Nat}(aA:n<2^(7*i)):n+(b%128)*2^(7*i)<2^(7*(i+1)):=by
 rw[Qh];have:b%128*2^(7*i)<=127*2^(7*i):=et _ (by omega);omega
theorem D1{n i b:Nat}(hi:i<=9)(aA:n<2^(7*i))(c:b<128)(a:i=9->b<=1):b*2^(7*i)<18446744073709551616/\n+b*2^(7*i)<18446744073709551616:=by
 rcases Nat.lt_or_ge i 9 with h|h
 . have:2^(7*i)<=2^56:=AI (by omega) (by omega);have e:(2:Nat)^56=72057594037927936:=by decide
   have:b*2^(7*i)<=127*2^(7*i):=et _ (by omega);omega
 grind
theorem NP(s:List UInt8):∀(f i n:Nat),i+f=10->n<2^(7*i)->∃o,r8 (s,(n:Int),((min 10 s.length:Nat):Int),(i:Int))=some o/\(match o with|.inl x=>x|.inr _=>(0,0,10))=jx s f i n
 |0,i,n,h,aA=>by
  refine⟨.inr (),?_,rfl⟩;rw[r8]
  grind
 |f+1,i,n,h,aA=>by
  rw[r8];simp only[jx,aV,ak,yH];by_cases hi:i<s.length
  . have d:=Hg s i;generalize (s.getD i 0).toNat=b at d⊢;rw[ab (by simp;omega),ab (aN hi),ab hi];have k:iq .i64 7 (i:Int)=((7*i:Nat):Int):=by rw[Mn (by omega) (by omega)];norm_cast
    rw[k];have g:decide ((0:Int)<=((7*i:Nat):Int))=true:=by simp;omega
    by_cases c:i=9/\1<b
    . rw[ab c,ab (by obtain⟨h1,l⟩:=c;subst h1;simp;omega)]
      grind
    . rw[ag c,ag (by grind)];by_cases e:128<=b
      . rw[ab e,ab (by simp;omega),ab g];have j:i=9->False:=λh1=>c ⟨h1,by omega⟩
        have aI:b%128<128:=Nat.mod_lt _ (by omega);have a:=D1 (i:=i) (n:=n) (b:=b%128) (by omega) aA aI (λh1=>(j h1).elim);rw[abN d,h9 (by omega),K4 (by omega) a.1,Lu (by have:=Qg (i:=i) (by omega);omega) a.1,Mm aA,bB (by omega)];exact NP s f (i+1) (n+b%128*2^(7*i)) (by omega) (QF aA)
      . rw[ag e,ag (by simp;omega)];by_cases h0:b=0/\0<i
        . simp_all
        . rw[ag h0,ag (by grind),ab g];have a:=D1 (i:=i) (n:=n) (b:=b) (by omega) aA (by omega) (λh1=>by omega);rw[h9 (by omega),K4 (by omega) a.1,Lu (by have:=Qg (i:=i) (by omega);omega) a.1,Mm aA,bB (by omega)]
          grind
  . rw[ag (by simp;omega),ag hi]
    grind
theorem NQ(s:List UInt8):B9 s=some (jx s 10 0 0):=by
 obtain⟨o,h1,a⟩:=NP s 10 0 0 rfl (by decide);rw[B9];have:dD 10 (s.length:Int)=((min 10 s.length:Nat):Int):=Gx 10 s.length
 grind
theorem Ku(s:List UInt8):∀(f i n:Nat),i<=s.length->i+f=10->n<2^(7*i)->(∃e:Int,e≠0/\jx s f i n=(0,0,e))\/∃m k:Nat,jx s f i n=((m:Int),(k:Int),0)/\i<k/\k<=s.length/\m<18446744073709551616
 |0,i,n,j,h,aA=>.inl ⟨10,by decide,rfl⟩
 |f+1,i,n,j,h,aA=>by
  simp only[jx];have d:=Hg s i;generalize (s.getD i 0).toNat=b at d⊢;by_cases hi:i<s.length
  . rw[ab hi];by_cases c:i=9/\1<b
    . simp_all
    . rw[ag c];by_cases a:128<=b
      . rw[ab a];rcases Ku s f (i+1) (n+b%128*2^(7*i)) (by omega) (by omega) (QF aA)with h|⟨m,k,h1,l,o,p⟩
        . exact .inl h
        grind
      . rw[ag a];by_cases h0:b=0/\0<i
        . simp_all
        . rw[ag h0];have g:=D1 (i:=i) (n:=n) (b:=b) (by omega) aA (by omega) (λh1=>by omega);exact .inr ⟨_,i+1,rfl,by omega,by omega,g.2⟩
  . rw[ag hi];exact .inl ⟨10,by decide,rfl⟩
theorem vN(s:List UInt8):(∃e:Int,e≠0/\jx s 10 0 0=(0,0,e))\/∃m k:Nat,jx s 10 0 0=((m:Int),(k:Int),0)/\0<k/\k<=s.length/\m<18446744073709551616:=
 Ku s 10 0 0 (by simp) rfl (by simp)
theorem x9{s:List UInt8}{e:Int}(he:e≠0)(h:jx s 10 0 0=(0,0,e)):qS s=some (0,[],false):=by
 grind[qS,NQ]
theorem sM{s:List UInt8}{m k:Nat}(h:jx s 10 0 0=((m:Int),(k:Int),0))(a:k<=s.length):qS s=some ((m:Int),s.drop k,true):=by
 grind[qS,NQ,jM,oX]
def gI:Option (List UInt8×List UInt8)->List UInt8×List UInt8×Bool
 |none=>([],[],false)
 |some (a,b)=>(a,b,true)
def n5(s:List UInt8):Option (List UInt8×List UInt8):=
 match jx s 10 0 0 with
 |(m,k,e)=>if e=0/\m.toNat+k.toNat<=s.length then some ((s.drop k.toNat).take m.toNat,(s.drop k.toNat).drop m.toNat)else none
theorem BQ{s a b:List UInt8}(h:n5 s=some (a,b)):a.length+b.length<s.length:=by
 unfold n5 at h;rcases vN s with⟨e,he,c⟩|⟨m,k,c,f,d,g⟩
 . grind
 grind
theorem uT{s:List UInt8}(hs:s.length<=1000000):yw s=some (gI (n5 s)):=by
 rw[yw];unfold n5;rcases vN s with⟨e,he,b⟩|⟨m,k,b,f,d,g⟩
 . rw[x9 he b,b];simp[he,gI]
 . rw[sM b d,b];simp only[aV,ak,nZ,true_and,pH];rw[h9 (by omega)];by_cases c:m+k<=s.length
   . rw[ag (by simp;omega),ab (show ed 0 m _=true from jM (a:=0) (by omega) (by omega)),ab (jM (by omega) (eJ _)),ab c];have:(s.length-k:Nat)=(s.drop k).length:=by simp
     rw[this,oX,qV];rfl
   . rw[ab (by simp;omega),ag c];rfl
theorem Kv:∀(n:Nat) (s:List UInt8) (b:List (List UInt8)),s.length<=n->s.length+b.length<=100000->∃o,j8 (s,b)=some o/\∀l,o= .inr l->l.length<=s.length+b.length:=by
 intro n
 induction n with
 |zero=>
  simp_all[j8]
 |succ n ih=>
  intro s b h1 f;rw[j8,uT (by omega)];simp only[aV,ak];by_cases hs:s=[]
  . grind
  . have c:(!(decide (s=[])))=true:=by grind
    rw[ab c];cases e:n5 s with
    |none=>exact⟨.inl 12,rfl,λl ad=>by grind⟩
    |some p=>
     obtain⟨x,y⟩:=p;have ad:=BQ e;have d:room 16 (b++[(gI (some (x,y))).1]).length=true:=dY (by simp) (by grind);have aA:¬((!(gI (some (x,y))).2.2)=true):=by simp[gI]
     rw[ab d];obtain⟨o,a,bf⟩:=ih y (b++[x]) (by omega) (by grind);exact⟨o,a,λl g=>by grind⟩
theorem abV{s:List UInt8}(h:s.length<=90000):∃o,oM s=some o/\o.1.length<=s.length:=by
 obtain⟨o,h1,a⟩:=Kv _ s [] (eJ _) (by grind);rw[oM];cases o<;>simp_all
theorem Jz:∀(n:Nat) (s:List UInt8) (last:Nat) (b:List eP),s.length<=n->s.length+b.length<=100000->∃o,jI ((last:Int),s,b)=some o/\∀l,o= .inr l->l.length<=s.length+b.length:=by
 intro n
 induction n with
 |zero=>
  simp_all[k9,jI,ag]
 |succ n ih=>
  intro s last b h1 r;rw[jI];by_cases hs:s=[]
  . simp_all
  . have d:(!(decide (s=[])))=true:=by grind
    rw[ab d];rcases vN s with⟨e,he,a⟩|⟨m,k,a,u,f,g⟩
    . rw[x9 he a];simp_all
    . rw[sM a f];simp only[aV,ak];rw[EE g];by_cases t:m/2<=last\/1000<m/2
      . exact⟨.inl 12,by grind,λl ad=>by grind⟩
      . have q:bW .i64 _=((m/2:Nat):Int):=pQ (by omega) (by omega);rw[ag (by grind),q,uT (by grind)];simp only[ak];cases i:n5 _ with
        |none=>exact⟨.inl 12,rfl,λl ad=>by grind⟩
        |some p=>
         obtain⟨x,y⟩:=p;have ad:=BQ i;rw[pH]at ad;have j:room 32 (b++[(⟨((m/2:Nat):Int),decide (cg (m:Int) 2=1),(gI (some (x,y))).1⟩:eP)]).length=true:=dY (by simp) (by grind);have aA:¬((!(gI (some (x,y))).2.2)=true):=by simp[gI]
         rw[ag aA,ab j];obtain⟨o,c,bf⟩:=ih y (m/2) (b++[(⟨((m/2:Nat):Int),decide (cg (m:Int) 2=1),x⟩:eP)]) (by omega) (by grind);exact⟨o,c,λl v=>by grind⟩
theorem aaI{s:List UInt8}(h:s.length<=90000):∃o,qO s=some o/\o.1.length<=s.length:=by
 obtain⟨o,h1,a⟩:=Jz _ s 0 [] (eJ _) (by grind);rw[qO];cases o<;>simp_all
theorem ac5(s:List UInt8):∃o,qX s=some o:=by
 rw[qX];rcases vN s with⟨e,he,a⟩|⟨m,k,a,d,b,f⟩
 . rw[x9 he a];simp
 . rw[sM a b];simp only[aV,ak];by_cases c:m<1\/1000<m
   . exact⟨(0,[],12),by grind⟩
   . rw[ag (by grind)];simp
def ei(n:Nat):List UInt8:=if n<128 then[UInt8.ofNat n]else UInt8.ofNat (n%128+128)::ei (n/128)
termination_by n
decreasing_by omega
theorem xV{n:Nat}(h:n<128):ei n=[UInt8.ofNat n]:=by rw[ei,ab h]
theorem x'{n:Nat}(h:¬n<128):ei n=UInt8.ofNat (n%128+128)::ei (n/128):=by rw[ei,ag h]
theorem acE{a:Nat}(h:a<256):q' .u8 (a:Int) 128=((a%128+128:Nat):Int):=by
 have key:∀a:Nat,a<256->q' .u8 a 128=a%128+128:=by decide+kernel
 grind
theorem vQ(n:Nat):bW .u8 (n:Int)=((n%256:Nat):Int):=by rfl
theorem agu(n:Nat):lh .u64 (n:Int) 7=((n/128:Nat):Int):=by
 unfold lh;have:(2^min (7:Int).toNat IntKind.u64.bits)=128:=by rfl
 grind
theorem Y3(m:Nat)(l:List Int):strOf ((m:Int)::l)=UInt8.ofNat m::strOf l:=rfl
theorem Cn(a b:List Int):strOf (a++b)=strOf a++strOf b:=yf
theorem Gb{α:Type}:∀(l:List α) (i:Nat) (x:α),i<l.length->(l.set i x).take (i+1)=l.take i++[x]
 |[],i,x,h=>by grind
 |a::l,0,x,h=>by rfl
 |a::l,i+1,x,h=>by simp[Gb l i x (by grind)]
theorem NR:∀(f n i:Nat) (b:List Int),i+f=9->n<128*128^f->b.length=10->∃(b3 c:Nat) (a:List Int),r7 ((n:Int),(i:Int),b)=some ((b3:Int),(c:Int),a)/\b3<128/\c<=9/\a.length=10/\strOf (a.take c)++[UInt8.ofNat b3]=strOf (b.take i)++ei n
 |f,n,i,b,hi,aA,j=>by
  rw[r7];by_cases hs:n<128
  . rw[ag (by grind)]
    grind[xV]
  . rw[ab (by grind),ab (aN (by
     omega)),ab (by
     grind)]
    match f,hi,aA with
    |0,hi,aA=>grind
    |f+1,hi,aA=>
     rw[agu,bB (by omega),vQ,acE (Nat.mod_lt _ (by simp))];have aI:n/128<128*128^f:=by omega
     obtain⟨b3,c,a,h1,d,e,g,bf⟩:=NR f _ (i+1) (b.set i _) (by omega) aI (by grind);refine⟨b3,c,a,h1,d,e,g,?_⟩;rw[bf,Gb _ _ _ (by omega),Cn,x' hs];have k:strOf [n%128+128]=[UInt8.ofNat _]:=rfl
     grind
theorem y0{n:Nat}(aA:n<18446744073709551616):oQ (n:Int)=some (ei n):=by
 obtain⟨b3,d,e,h1,f,g,i,bf⟩:=NR 9 n 0 [0,0,0,0,0,0,0,0,0,0] rfl (by grind) rfl;rw[oQ];have a:r7 (n,0,[0,0,0,0,0,0,0,0,0,0])=some _:=h1;rw[a];simp only[aV,ak];have c:ed 0 (d+1:Nat) 10=true:=jM (by simp) (by omega)
 rw[ab (aN (by omega)),ab (by grind),bB (by omega),ab c,ab (by grind[vJ]),aW,vQ];have:b3%256=b3:=n0 (by omega);rw[this];simp;rw[Gb _ _ _ (by omega),Cn];have b:strOf [b3]=[UInt8.ofNat b3]:=rfl;rw[b,bf];rfl
theorem JA:∀(f n:Nat) (b:List Int),n<128^f->n<18446744073709551616->b.length+f<=1000->∃(b3:Nat) (a:List Int),uv ((n:Int),b)=some ((b3:Int),a)/\b3<128/\a.length<=1000/\strOf a++[UInt8.ofNat b3]=strOf b++ei n
 |f,n,b,aA,k,l=>by
  rw[uv];by_cases hs:n<128
  . rw[ag (by grind)]
    grind[xV]
  . rw[ab (by grind)]
    match f,aA with
    |0,aA=>grind
    |f+1,aA=>
     have j:cg (n:Int) 128=((n%128:Nat):Int):=EH (b:=128);have g:aM .u64 _ 128=((n%128+128:Nat):Int):=zW (b:=128) (by omega);have i:fY .u64 (n:Int) 128=((n/128:Nat):Int):=by
      grind[fY,Int.tdiv_eq_ediv_of_nonneg,kA]
     simp only[aV,ak];rw[j,g,i,vQ,ab (dY (by simp) (by grind))];have aI:n/128<128^f:=by omega
     obtain⟨b3,a,h1,c,d,e⟩:=JA f (n/128) (b++[(((n%128+128)%256:Nat):Int)]) aI (by omega) (by grind);refine⟨b3,a,h1,c,d,?_⟩;rw[e,Cn,x' hs];have m:strOf [((n%128+128:Nat):Int)]=[UInt8.ofNat (n%128+128)]:=rfl
     grind
theorem sn{n:Nat}(aA:n<18446744073709551616):nT (n:Int)=some (ei n):=by
 obtain⟨b3,c,h1,d,e,a⟩:=JA 10 n [] (by grind) aA (by simp);rw[nT,h1];simp only[aV,ak];rw[ab (dY (by simp) (by grind)),vQ,Cn];have:b3%256=b3:=n0 (by omega);rw[this];have b:strOf [b3]=[UInt8.ofNat b3]:=rfl;rw[b,a];rfl
theorem HM:∀(f n:Nat),n<128^(f+1)->(ei n).length<=f+1
 |f,n,aA=>by
  by_cases hs:n<128
  . grind[xV]
  . rw[x' hs]
    match f,aA with
    |0,aA=>grind
    |f+1,aA=>
     have:=HM f (n/128) (by omega)
     grind
theorem jK{n:Nat}(aA:n<18446744073709551616):(ei n).length<=10:=HM 9 n (by grind)
theorem vg(n:Nat):0<(ei n).length:=by
 grind[ei]
theorem nn{n:Nat}(h:n<256):(UInt8.ofNat n).toNat=n:=by simp_all
theorem NS:∀(f i acc n:Nat) (pre rest:List UInt8),i+f=10->pre.length=i->n*2^(7*i)<18446744073709551616->(n=0->i=0)->jx (pre++(ei n++rest)) f i acc=(((acc+n*2^(7*i):Nat):Int),((i+(ei n).length:Nat):Int),0)
 |0,i,acc,n,pre,rest,hi,d,aA,h0=>by grind
 |f+1,i,acc,n,pre,rest,hi,d,aA,h0=>by
  have c:i<(pre++(ei n++rest)).length:=by
   grind[vg]
  have a:∀(x:UInt8) (r:List UInt8),ei n=x::r->(pre++(ei n++rest)).getD i 0=x:=by grind
  simp only[jx];rw[ab c];by_cases hs:n<128
  . rw[a _ _ (xV hs),nn (by omega),ag (by
     grind),ag (by omega),ag (by
     grind),xV hs]
    rfl
  . have e:i<9:=by grind
    rw[a _ _ (x' hs),nn (by omega),ag (by omega),ab (by simp)];have g:n%128*2^(7*i)+n/128*2^(7*(i+1))=n*2^(7*i):=by
     rw[Qh];have h1:n/128*(2^(7*i)*128)=(n/128*128)*2^(7*i):=by grind
     rw[h1,<-gP]
     grind
    have b:n/128*2^(7*(i+1))<18446744073709551616:=by omega
    have:=NS f _ (acc+n%128*2^(7*i)) _ (pre++[UInt8.ofNat (n%128+128)]) rest (by omega) (by grind) b (by omega);have es:pre++(ei n++rest)=pre++[UInt8.ofNat (n%128+128)]++(ei (n/128)++rest):=by rw[x' hs];simp
    grind
theorem Hw{n:Nat}(aA:n<18446744073709551616)(rest:List UInt8):jx (ei n++rest) 10 0 0=((n:Int),((ei n).length:Int),0):=by
 have:=NS 10 0 0 n [] rest rfl rfl (by grind) (λ_=>rfl)
 grind
def dB(p:List UInt8):List UInt8:=ei p.length++p
theorem eY{n:Nat}(h:n<=9223372036854775807):decide (n<=dK)=true:=by
 grind[dK]
theorem aa'{p:List UInt8}(h:p.length<=1152921504606846976):qQ p=some (dB p):=by
 rw[qQ,h9 (by omega),y0 (by omega)];simp only[aV,ak];have:=jK (n:=p.length) (by omega);rw[ab (eY (by omega))];rfl
theorem BZ{p:List UInt8}(h:p.length<=1152921504606846976):qK p=some (dB p):=by
 rw[qK,h9 (by omega),sn (by omega)];simp only[aV,ak];have:=jK (n:=p.length) (by omega);rw[ab (eY (by omega))];rfl
def eZ(id:Nat)(c:Bool)(p:List UInt8):List UInt8:=ei (2*id+(if c then 1 else 0))++dB p
theorem IH{p:List UInt8}(h:p.length<=1152921504606846976):(dB p).length<=p.length+10:=by
 grind[jK,dB]
theorem aba{id:Nat}{c:Bool}{p:List UInt8}(hid:id<=4611686018427387903)(h:p.length<=1152921504606846900):uG ((id:Int),c,p)=some (eZ id c p):=by
 rw[uG];have e:iq .u64 2 (bW .u64 id)=(2*id:Nat):=by rw[h9 (by omega)];exact Eh (a:=2) (by omega)
 simp only[aV,ak];rw[e,aa' (by omega)];have ad:=IH (p:=p) (by omega);cases c with
 |true=>
  have d:aM .u64 _ 1=(2*id+1:Nat):=zW (b:=1) (by omega);rw[d,y0 (by omega)];have:=jK (n:=2*id+1) (by omega);simp only[ak];rw[ab (eY (by omega))];rfl
 |false=>
  rw[y0 (by omega)];have:=jK (n:=2*id) (by omega);simp only[ak];rw[ab (eY (by omega))];rfl
theorem FX{id:Nat}{c:Bool}{p:List UInt8}(hid:id<=4611686018427387903)(h:p.length<=1152921504606846900):ux ((id:Int),c,p)=some (eZ id c p):=by
 rw[ux];have d:bW .u64 (iq .i64 2 id)=(2*id:Nat):=by
  rw[Mn (by omega) (by omega)];have:(2:Int)*id=(2*id:Nat):=by rfl
  rw[this];exact h9 (by omega)
 simp only[aV,ak];rw[d,BZ (by omega)];have ad:=IH (p:=p) (by omega);cases c with
 |true=>
  have a:aM _ _ 1=(2*id+1:Nat):=zW (b:=1) (by omega);rw[a,sn (by omega)];have:=jK (n:=2*id+1) (by omega);simp only[ak];rw[ab (eY (by omega))];rfl
 |false=>
  rw[sn (by omega)];have:=jK (n:=2*id) (by omega);simp only[ak];rw[ab (eY (by omega))];rfl
theorem SA{p rest:List UInt8}(h:p.length<=100000):n5 (dB p++rest)=some (p,rest):=by
 unfold n5 dB;rw[jV,Hw (by omega)];simp
 grind
theorem X7{id:Nat}{c:Bool}{p rest:List UInt8}{last:Nat}{b:List eP}(h1:last<id)(hid:id<=1000)(h:(eZ id c p++rest).length<=100000)(j:b.length<=90000):
 jI ((last:Int),eZ id c p++rest,b)=jI ((id:Int),rest,b++[⟨(id:Int),c,p⟩]):=by
 have e:p.length<=100000:=by
  grind[eZ,dB,List.length_append]
 have l:eZ id c p++rest≠[]:=by
  intro k
  grind[vg,eZ,List.length_append,List.length_nil]
 have aj:jx (eZ id c p++rest) 10 0 0=(((2*id+(if c then 1 else 0):Nat):Int),((ei (2*id+(if c then 1 else 0))).length:Int),0):=by
  grind[eZ,List.append_assoc,Hw]
 have aA:=sM aj (by grind[eZ]);have a:(eZ id c p++rest).drop (ei (2*id+(if c then 1 else 0))).length=dB p++rest:=by
  grind[eZ]
 rw[a]at aA;have d:(2*id+(if c then 1 else 0))/2=id:=by grind
 have g:decide (cg ((2*id+(if c then 1 else 0):Nat):Int) 2=1)=c:=by
  have:cg _ 2=(((2*id+(if c then 1 else 0))%2:Nat):Int):=EH (b:=2)
  grind
 rw[jI,ab (by grind),aA];simp only[aV,ak];rw[EE (by omega),d,ag (by grind),g,uT (by grind),SA e];simp only[ak];have i:bW .i64 (id:Int)=(id:Int):=pQ (by simp) (by omega);have m:¬((!(gI (some (p,rest))).2.2)=true):=by simp[gI]
 rw[i];have f:room 32 (b++[(⟨(id:Int),c,(gI (some (p,rest))).1⟩:eP)]).length=true:=dY (by simp) (by grind);rw[ab f];rfl
inductive bS:I->Prop
 |mk (v:I) (hs:v.bA.length<=reachBytes) (h1:v.aE.length<=reachBytes) (afI:v.al.length<=reachBytes) (ag6:v.Rest.length<=reachBytes)
  (hk:∀x,x∈v.aE->bS x) (hi:∀x,x∈v.al->bS x) (ahd:∀x,x∈v.Rest->x.Data.length<=reachBytes)
  (dy: -9223372036854775808<=v.Kind/\v.Kind<=9223372036854775807) (ahj: -9223372036854775808<=v.bq/\v.bq<=9223372036854775807) (n3: -9223372036854775808<=v.af/\v.af<=9223372036854775807)
  (n4:∀x,x∈v.Rest->-9223372036854775808<=x.af/\x.af<=9223372036854775807):bS v
theorem eg{n:Nat}(h:n<=reachBytes):n<9223372036854775807:=Nat.lt_of_le_of_lt h (by decide)
theorem scan{b:Type}(L:Nat->Option b)(n:Nat)(p:Nat->Bool)(a o7:b)(e:∀i,i<n->L i=if p i=true then L (i+1)else some a)(d:L n=some o7):
 (L 0=some o7/\∀j,j<n->p j=true)\/(L 0=some a/\∃j,j<n/\p j=false):=by
 have key:∀k i,i+k=n->(L i=some o7/\∀j,i<=j->j<n->p j=true)\/(L i=some a/\∃j,j<n/\p j=false):=by
  intro k
  induction k<;>grind
 rcases key n 0 (by simp)with⟨h1,c⟩|h
 all_goals grind
theorem gb{α:Type}{l:List α}{i:Nat}(h:i<l.length)(d:α):l.getD i d=l[i]:=by grind
theorem yx{α:Type}{a b:List α}{p:Nat->Bool}(ad:a.length=b.length)(d:∀(i:Nat) (h1:i<a.length) (c:i<b.length),p i=true↔a[i]=b[i]):
 (∀j,j<a.length->p j=true)↔a=b:=by
 grind[List.ext_getElem]
def eK{α:Type}(o:Option Bool)(a b:α):Prop:=∃r,o=some r/\(r=true↔a=b)
theorem eK.Ex {α:Type}{a b:List α}{p:Nat->Bool}(ad:a.length=b.length)(e:∀(i:Nat) (h1:i<a.length) (c:i<b.length),p i=true↔a[i]=b[i]){o:Option Bool}
 (h:(o=some true/\∀j,j<a.length->p j=true)\/(o=some false/\∃j,j<a.length/\p j=false)):eK o a b:=by
 rcases h with⟨h1,c⟩|⟨h1,j,c,f⟩
 . exact⟨true,h1,by simp[(yx ad e).1 c]⟩
 . refine⟨false,h1,?_⟩
   grind
theorem Nc{a b:cF}:(hJ a.af b.af&&(jb a.Data b.Data&&true))=true↔a=b:=by cases a;cases b;simp[hJ,jb]
theorem Nd{a b:dc}:(hJ a.af b.af&&(jb a.Name b.Name&&true))=true↔a=b:=by
 cases a;cases b;simp[hJ,jb]
theorem vh{α:Type}{a b:List α}(h:¬a.length=b.length):eK (some false) a b:=⟨false,rfl,by grind⟩
theorem Nf{a b:List cF}(d:a.length<=reachBytes):eK (w6 (a,b)) a b:=by
 rw[w6];by_cases ad:a.length=b.length
 . have e:=eg d;have:=scan (λi=>rP (a,b,(a.length:Int),(i:Int))) a.length (λi=>hJ (a.getD i b8).af (b.getD i b8).af&&(jb (a.getD i b8).Data (b.getD i b8).Data&&true)) (.inl false) (.inr ())
    (λi hi=>by
     rw[rP,ab (by grind),ab (aN hi)];simp[aV,ak,aW];rw[ab (aN (by omega)),bB (by omega)]
     grind)
    (by simp_all[rP])
   refine eK.Ex (p:=λi=>hJ (a.getD i b8).af (b.getD i b8).af&&(jb (a.getD i b8).Data (b.getD i b8).Data&&true)) ad (λi h1 c=>by simp only[gb h1,gb c];exact Nc) ?_
   grind
 . rw[ab (by grind)];exact vh ad
theorem ac6{a b:List dc}(d:a.length<=reachBytes):eK (A2 (a,b)) a b:=by
 rw[A2];by_cases ad:a.length=b.length
 . have e:=eg d;have:=scan (λi=>rO (a,b,(a.length:Int),(i:Int))) a.length (λi=>hJ (a.getD i dm).af (b.getD i dm).af&&(jb (a.getD i dm).Name (b.getD i dm).Name&&true)) (.inl false) (.inr ())
    (λi hi=>by
     rw[rO,ab (aN hi)];simp;rw[ab (aN (by omega)),bB (by omega)]
     grind)
    (by simp_all[rO])
   refine eK.Ex (p:=λi=>hJ (a.getD i dm).af (b.getD i dm).af&&(jb (a.getD i dm).Name (b.getD i dm).Name&&true)) ad (λi h1 c=>by simp only[gb h1,gb c];exact Nd) ?_
   grind
 . rw[ab (by grind)];exact vh ad
theorem BR(v:I):(⟨v.Kind,v.b',v.bq,v.bA,v.af,v.aE,v.al,v.Rest⟩:I)=v:=by cases v;rfl
theorem JB{a b:I}:a=b↔a.Kind=b.Kind/\a.b'=b.b'/\a.bq=b.bq/\a.bA=b.bA/\a.af=b.af/\a.Rest=b.Rest/\a.aE=b.aE/\a.al=b.al:=by
 constructor
 . grind
 . cases a;cases b
   grind
section
variable {f:I×I->Option Bool}
theorem FK {a b:List I}(ad:a.length=b.length)(ih:∀x,x∈a->∀y,eK (f (x,y)) x y)(L:Nat->Option (Bool ⊕ Unit))
 (k:∀i,i<a.length->L i=(f (I.eta (a.getD i aK),I.eta (b.getD i aK))>>=λr=>if(!r)=true then some (.inl false)else L (i+1)))
 (e:L a.length=some (.inr ())):eK (L 0>>=λo=>match o with|.inl x=>some x|.inr _=>some true) a b:=by
 have d:∀(i:Nat) (h1:i<a.length) (c:i<b.length),eK (f (I.eta (a.getD i aK),I.eta (b.getD i aK))) a[i] b[i]:=by
  grind[gb,I.bj]
 have:=scan L a.length (λi=>(f (I.eta (a.getD i aK),I.eta (b.getD i aK))).getD false) (.inl false) (.inr ())
  (λi hi=>by
   obtain⟨r,h1,c⟩:=d i hi (by omega)
   grind) e
 refine eK.Ex ad (λi h1 c=>?_) ?_ (p:=λi=>(f (I.eta (a.getD i aK),I.eta (b.getD i aK))).getD false)
 . obtain⟨r,g,j⟩:=d i h1 c
   grind
 grind
end
theorem LH{a b:List I}(c:a.length<=reachBytes)(ih:∀x,x∈a->∀y,eK (nq (x,y)) x y):eK (uM (a,b)) a b:=by
 rw[uM];by_cases ad:a.length=b.length
 . rw[ag (by grind)];have d:=eg c;exact FK ad ih (λi=>uK (b,a,a.length,i))
    (λi hi=>by
     rw[uK,ab (by grind),ab (aN hi),ab (aN (by omega)),bB (by omega)]
     rfl)
    (by grind[uK])
 . rw[ab (by grind)];exact vh ad
theorem LI{a b:List I}(c:a.length<=reachBytes)(ih:∀x,x∈a->∀y,eK (mi (x,y)) x y):eK (w4 (a,b)) a b:=by
 rw[w4];by_cases ad:a.length=b.length
 . rw[ag (by grind)];have d:=eg c;exact FK ad ih (λi=>uL (b,a,a.length,i))
    (λi hi=>by
     rw[uL,ab (by grind),ab (aN hi),ab (aN (by omega)),bB (by omega)]
     rfl)
    (by simp_all[uL])
 . rw[ab (by grind)];exact vh ad
theorem LJ{a b:List I}(c:a.length<=reachBytes)(ih:∀x,x∈a->∀y,eK (jG (x,y)) x y):eK (xA (a,b)) a b:=by
 rw[xA];by_cases ad:a.length=b.length
 . rw[ag (by grind)];have d:=eg c;exact FK ad ih (λi=>ui (a,b,i))
    (λi hi=>by
     rw[ui,ab (by grind),ab (aN hi),ab (aN (by omega)),bB (by omega)]
     rfl)
    (by grind[ui])
 . rw[ab (by grind)];exact vh ad
theorem three{a b:I}{bf:Bool}(gx:bf=true↔a.Kind=b.Kind/\a.b'=b.b'/\a.bq=b.bq/\a.bA=b.bA/\a.af=b.af){x y z:Option Bool}(e:eK x a.Rest b.Rest)(g:eK y a.aE b.aE)(j:eK z a.al b.al):
 eK (some bf>>=λt37=>(if t37=true then x else some false)>>=λr=>some (bif t37 then r else false)>>=λt44=>(if t44=true then y else some false)>>=λl=>some (bif t44 then l else false)>>=λt51=>(if t51=true then z else some false)>>=λm=>some (bif t51 then m else false)) a b:=by
 obtain⟨c,f,o⟩:=e;obtain⟨d,i,p⟩:=g;obtain⟨n,k,q⟩:=j;subst f;subst i;subst k;refine⟨bf&&c&&d&&n,?_,?_⟩
 . cases bf<;>cases c<;>cases d<;>rfl
 grind[JB]
theorem PO{a b:I}:(bif bif bif bif decide (a.Kind=b.Kind)then fc a.b' b.b' else false then decide (a.bq=b.bq)else false then decide (a.bA=b.bA)else false then decide (a.af=b.af)else false)=true↔a.Kind=b.Kind/\a.b'=b.b'/\a.bq=b.bq/\a.bA=b.bA/\a.af=b.af:=by
 grind[fc]
theorem Y4{a:I}(h:bS a):∀b,eK (nq (a,b)) a b:=by
 induction h with
 |mk a hs h1 c d g hi i dy j k l f e=>
  intro b;rw[nq];exact three PO (Nf d) (LH h1 f) (LH c e)
theorem B'{a:I}(h:bS a):∀b,eK (mi (a,b)) a b:=by
 induction h with
 |mk a hs h1 c d g hi i dy j k l f e=>
  intro b;rw[mi];exact three PO (Nf d) (LI h1 f) (LI c e)
theorem y9{a:I}(h:bS a):∀b,eK (jG (a,b)) a b:=by
 induction h with
 |mk a hs h1 d g s hi t dy w x y o n=>
  intro b;rw[jG];by_cases bf:a.Kind=b.Kind/\a.b'=b.b'/\a.bq=b.bq/\a.bA=b.bA/\a.af=b.af/\a.Rest.length=b.Rest.length
  . obtain⟨az,q,cz,e6,gx,jQ⟩:=bf;rw[ag (by grind[fc])];have u:=eg g;have f:=scan (λi=>oy ((i:Int),a,b)) a.Rest.length (λi=>hJ (a.Rest.getD i b8).af (b.Rest.getD i b8).af&&(jb (a.Rest.getD i b8).Data (b.Rest.getD i b8).Data&&true)) (.inl false) (.inr (a,b))
     (λi k=>by
      rw[oy,ab (aN k)];simp only[aV,ak,aW,I.bj];rw[ab (aN (by omega)),bB (by omega)]
      grind)
     (by rw[oy,ag (by simp),I.bj,I.bj])
    have h0:oy (((0:Nat):Int),a,b)=oy (0,a,b):=rfl;simp only[h0]at f;rw[BR,BR];have l:∀(i:Nat) (h1:i<a.Rest.length) (d:i<b.Rest.length),(hJ (a.Rest.getD i b8).af (b.Rest.getD i b8).af&&(jb (a.Rest.getD i b8).Data (b.Rest.getD i b8).Data&&true))=true↔a.Rest[i]=b.Rest[i]:=λi h1 d=>by grind[gb,Nc]
    rcases f with⟨c,e⟩|⟨c,j,e,r⟩
    . have v:=(yx jQ l).1 e;rw[c];obtain⟨e2,aZ,ba⟩:=LJ (a:=a.aE) (b:=b.aE) h1 o;obtain⟨p,m,i2⟩:=LJ (a:=a.al) (b:=b.al) d n;simp only[aV,ak];rw[aZ,m];refine⟨e2&&p,by cases e2<;>rfl,?_⟩;simp_all[JB,cH]
    . rw[c];refine⟨false,rfl,?_⟩
      grind
  . rw[ab]
    . refine⟨false,rfl,?_⟩
      grind
    . simp only[AO,fc]
      grind
def ph(c:Int):Bool:=decide (c=95\/(97<=c/\c<=122)\/(65<=c/\c<=90))
def y1(c:Int):Bool:=decide (48<=c/\c<=57)
theorem CY(c:Int):xn c=some (ph c):=by
 rw[xn];unfold ph
 grind
theorem JC(c:Int):xc c=some (ph c):=by
 rw[xc];unfold ph
 grind
theorem abb(c:Int):Bt c=some (y1 c):=by
 rw[Bt];unfold y1
 grind
theorem abc(c:Int):Bd c=some (y1 c):=by
 rw[Bd];unfold y1
 grind
theorem Kw{e:Type}(A B ch:Bool)(X a:Option e)(b:ch=true):
 (some A>>=λc=>some (!c)>>=λt26=>if(ch||(!t26))=true then(if t26=true then some B else some false)>>=λd=>if(bif t26 then(!d)else false)=true then X else a else none)=if(A||B)=true then a else X:=by
 subst b;cases A<;>cases B<;>rfl
theorem LK(s:List UInt8):∃r,ka s=some r/\r4 s=some r:=by
 rw[ka,r4];simp only[aV,ak];by_cases c:s=[]\/24<s.length
 . have ht:(bif decide (s=[])then true else decide (24<(s.length:Int)))=true:=by grind
   rw[ht];simp_all
 . have e:s≠[]:=λh=>c (.inl h)
   have l:s.length<=24:=by omega
   have ht:(bif decide (s=[])then true else decide (24<(s.length:Int)))=false:=by grind
   have f:0<s.length:=vz.2 e;have d:aB 0 s.length=true:=aN (k:=0) f;simp only[ht,d,vr,cw,fM,ak,CY,JC,hv];cases ad:ph (hY s 0)with
   |false=>exact⟨false,rfl,rfl⟩
   |true=>
    rw[ag (by simp),ag (by simp)]
    let p:Nat->Bool:=λi=>ph (hY s i)||y1 (hY s i)
    have s1:=scan (λi=>lI (s,(s.length:Int),(i:Int))) s.length p (.inl false) (.inr ())
     (λi hi=>by
      rw[lI,ab (by simp;omega),ab (aN hi),CY,abb,bB (by omega)]
      exact Kw _ _ _ _ _ (aN hi))
     (by rw[lI,ag (by simp)])
    have a:=scan (λi=>o9 (s,(i:Int))) s.length p (.inl false) (.inr ())
     (λi hi=>by
      rw[o9,ab (by simp;omega),ab (aN hi),JC,abc,bB (by omega)]
      exact Kw _ _ _ _ _ (aN hi))
     (by rw[o9,ag (by simp)])
    have az:lI (s,(s.length:Int),((0:Nat):Int))=lI (s,(s.length:Int),0):=rfl;have b:o9 (s,((0:Nat):Int))=o9 (s,0):=rfl;simp only[az,b]at s1 a;rcases s1 with⟨a1,a2⟩|⟨a1,j,a2,a3⟩<;>rcases a with⟨b1,b2⟩|⟨b1,k,b2,g⟩
    . simp_all
    . grind
    . grind
    simp_all
def nm(s:List UInt8):Bool:=(ka s).getD false
theorem sL(s:List UInt8):ka s=some (nm s):=by
 obtain⟨r,h1,_⟩:=LK s;unfold nm;rw[h1];rfl
theorem zm(s:List UInt8):r4 s=some (nm s):=by
 obtain⟨r,h1,a⟩:=LK s;unfold nm;rw[h1,a];rfl
theorem Ej{s:List UInt8}(h:nm s=true):s≠[]:=by
 rintro rfl
 unfold nm at h;rw[ka]at h;simp at h
def jR(l:List Int)(names:List (List UInt8))(i:Nat):Bool:=
 decide (1<=l.getD i 0)&&decide (l.getD i 0<=1000)&&(decide (i=0)||decide (l.getD (i-1) 0<l.getD i 0))&&nm (names.getD i []) && !((names.take i).contains (names.getD i []))
def lg(l:List (List UInt8)):List (List UInt8):=l.foldl ig []
theorem abd(ks:List (List UInt8))(a s:List UInt8):iN (ig ks a) s=(iN ks s||decide (a=s)):=by
 unfold ig;split
 . grind
 . simp[iN,List.any_append]
theorem II(l:List (List UInt8))(s:List UInt8):iN (lg l) s=l.contains s:=by
 have key:∀(l:List (List UInt8)) (ks:List (List UInt8)),iN (l.foldl ig ks) s=(iN ks s||l.contains s):=by
  intro l
  induction l with
  |nil=>intro ks;simp
  |cons a r ih=>
   intro ks;rw[List.foldl_cons,ih,abd,Bool.or_assoc]
   grind
 have:=key l []
 simpa[lg,iN]using this
theorem IJ{l:List (List UInt8)}{i:Nat}(h:i<l.length):ig (lg (l.take i)) (l.getD i [])=lg (l.take (i+1)):=by
 unfold lg;rw[List.take_add_one,List.foldl_append,eu h,gb h];rfl
theorem acF{f:Type}(A a b C ch H N:Bool)(X c:Option f)(d:ch=true)(e:a=true->b=true):
 (if(b||(!((!A)&&a)))=true then
  some (bif A then true else bif a then C else false)>>=λt34=>
  if(ch||(!(!t34)))=true then
   some (bif t34 then true else H)>>=λt42=>
   if(ch||(!(!t42)))=true then
    (if(!t42)=true then some N else some false)>>=λr=>
    if(bif t42 then true else(!r))=true then X else(if ch=true then c else none)
   else none
  else none
 else none)=if(!A&&(!a || !C)&&N && !H)=true then c else X:=by
 subst d;cases a with
 |true=>have:=e rfl;subst this;cases A<;>cases C<;>cases H<;>cases N<;>rfl
 |false=>cases A<;>cases b<;>cases C<;>cases H<;>cases N<;>rfl
theorem Ng{l:List Int}{names:List (List UInt8)}(ad:l.length<=reachBytes)(aA:names.length=l.length):∃r,yI (l,names)=some r/\(r=true↔(∀i,i<l.length->jR l names i=true)/\l.length<=16):=by
 rw[yI];have k:=eg ad;have b:=scan (λi=>oI (l,names,l,(l.length:Int),(i:Int),lg (names.take i))) l.length (jR l names) (.inl false) (.inr l)
  (λi hi=>by
   have a:i<names.length:=by omega
   rw[oI,ab (by simp;omega),ab (aN hi)];simp only[aW];rw[sL,bB (by omega),IJ a,II];have e:0<i->c' .i64 (i:Int) 1=((i-1:Nat):Int):=by intro h;rw[fC (by omega) (by omega)];omega
   refine(acF (bif decide (l.getD i 0<1)then true else decide (1000<l.getD i 0)) (decide ((0:Int)<(i:Int))) (aB (c' .i64 (i:Int) 1) l.length) (decide (l.getD i 0<=l.getD (c' .i64 (i:Int) 1).toNat 0)) (aB (i:Int) names.length) ((names.take i).contains (names.getD i [])) (nm (names.getD i [])) _ _ (aN a) (λf=>?_)).trans ?_
   . have d:0<i:=by simp at f;omega
     rw[e d];exact aN (by omega)
   . have:(!(bif decide (l.getD i 0<1)then true else decide (1000<l.getD i 0))&&(!(decide ((0:Int)<(i:Int))) || !(decide (l.getD i 0<=l.getD (c' .i64 (i:Int) 1).toNat 0)))&&nm (names.getD i []) && !((names.take i).contains (names.getD i [])))=jR l names i:=by
      unfold jR
      grind
     rw[this])
  (by rw[oI,ag (by simp)])
 have bM:oI (l,names,l,(l.length:Int),((0:Nat):Int),lg (names.take 0))=oI (l,names,l,(l.length:Int),0,[]):=rfl;simp only[bM]at b;rcases b with⟨h1,c⟩|⟨h1,j,c,g⟩
 . rw[h1];refine⟨decide ((l.length:Int)<=16),rfl,?_⟩
   grind
 . rw[h1];refine⟨false,rfl,?_⟩
   grind
theorem Cq{k n:Nat}(a:k<=16)(h:n*24<=reachBytes):room k n=true:=by
 unfold room gr dd;unfold reachBytes at h;simp only[cH,hq];have:(2*n+192)*k<=(2*n+192)*16:=Nat.mul_le_mul_left _ a;omega
theorem u7{α:Type}(l:List α)(i:Nat)(d:α)(h:i<l.length):l.take i++[l.getD i d]=l.take (i+1):=by simp_all
theorem i'{α a:Type}(f:α->a)(l:List α)(i:Nat)(d:α)(e:a)(h:i<l.length):(l.map f).getD i e=f (l.getD i d):=by grind
theorem qP{l:List (List UInt8)}{i:Nat}{s:List UInt8}(hi:i<=l.length):(l.take i).contains s=true↔∃k,k<i/\l.getD k []=s:=by
 rw[AF];constructor
 . intro h;obtain⟨k,a,he⟩:=jd h;rw[ju]at a;refine⟨k,by omega,?_⟩
   grind
 . rintro ⟨k,a,he⟩
   rw[<-he,gb (by omega)];have:(l.take i)[k]'(by rw[ju];omega)=l[k]:=List.getElem_take
   grind
def lz(l:List Int)(i:Nat):Int:=if i=0 then 0 else l.getD (i-1) 0
theorem LL{l:List Int}{names:List (List UInt8)}{i:Nat}(hi:i<l.length)(aA:names.length=l.length):
 jR l names i=(decide (lz l i<l.getD i 0)&&decide (1<=l.getD i 0)&&decide (l.getD i 0<=1000)&&nm (names.getD i []) && !((names.take i).contains (names.getD i []))):=by
 unfold jR lz;generalize l.getD i 0=x;generalize l.getD (i-1) 0=y;generalize nm (names.getD i [])=a;generalize (names.take i).contains (names.getD i [])=b;by_cases h0:i=0
 . subst h0;by_cases h1:1<=x
   . have:decide ((0:Int)<x)=true:=by simp;omega
     simp[h1,this]
   . simp[h1]
 . simp only[h0,cv,eG,AT];by_cases h1:1<=x<;>by_cases c:x<=1000<;>by_cases d:y<x<;>simp[h1,c,d]
theorem IK(l:List dc)(ad:l.length*24<=reachBytes):∀(k i:Nat),i+k=l.length->qG (l,l,(l.length:Int),(i:Int),(l.map (·.af)).take i,(l.map (·.Name)).take i)=some (l,l.map (·.af),l.map (·.Name))
 |0,i,h=>by
  have:i=l.length:=by omega
  subst this;rw[qG,ag (by simp)];rw[pF (by simp),pF (by simp)]
 |k+1,i,h=>by
  have a:l.length<9223372036854775807:=by unfold reachBytes at ad;omega
  have hi:i<l.length:=by omega
  rw[qG,ab (by simp;omega),ab (aN hi)];simp only[aV,ak,aW];rw[<-i' (·.af) l i dm 0 hi,<-i' (·.Name) l i dm [] hi,u7 _ _ _ (by simpa using hi),u7 _ _ _ (by simpa using hi)];rw[ab (Cq (by omega) (by simp;omega)),ab (Cq (by omega) (by simp;omega)),bB (by omega)];exact IK l ad k (i+1) (by omega)
theorem Le{l:List dc}(ad:l.length*24<=reachBytes):∃r,uA l=some r/\(r=true↔0<l.length/\(∀i,i<l.length->jR (l.map (·.af)) (l.map (·.Name)) i=true)/\l.length<=16):=by
 have h:=IK l ad l.length 0 (by omega);have a:qG (l,l,(l.length:Int),0,[],[])=some (l,l.map (·.af),l.map (·.Name)):=h;rw[uA,a];simp only[aV,ak];obtain⟨r,h1,b⟩:=Ng (l:=l.map (·.af)) (names:=l.map (·.Name)) (by simp;unfold reachBytes at*;omega) (by simp);rw[kn]at b
 grind
theorem Qs(a b:Int):xp (a,b)=some (decide (a<b)&&decide (1<=b)&&decide (b<=1000)):=by
 rw[xp]
 grind
theorem Y5(l:List dc)(ad:l.length<=reachBytes)(i:Nat)(hi:i<l.length):
 nb (l,(i:Int),0)=some (if((l.map (·.Name)).take i).contains ((l.map (·.Name)).getD i [])=true then .inl false else .inr (l,(i:Int))):=by
 have e:=eg ad;have c:=scan (λk=>nb (l,(i:Int),(k:Int))) i (λk=>!(decide ((l.getD k dm).Name=(l.getD i dm).Name))) (.inl false) (.inr (l,(i:Int)))
  (λk b=>by
   rw[nb,ab (by simp;omega),ab (aN (by omega)),ab (aN hi),bB (by omega)]
   grind)
  (by rw[nb,ag (by simp)])
 have bM:nb (l,(i:Int),((0:Nat):Int))=nb (l,(i:Int),0):=rfl;simp only[bM]at c;rw[i' (·.Name) l i dm [] hi];rcases c with⟨h1,a⟩|⟨h1,j,a,d⟩
 . rw[h1,ag];rw[qP (by simp;omega)]
   rintro ⟨k,b,he⟩
   rw[i' (·.Name) l k dm [] (by omega)]at he;have:=a k b;rw[he]at this;simp at this
 . rw[h1,ab];rw[qP (by simp;omega)];refine⟨j,a,?_⟩;rw[i' (·.Name) l j dm [] (by omega)]
   simpa using d
theorem acG{l:List dc}(ad:l.length<=reachBytes):∃r,xI l=some r/\(r=true↔0<l.length/\(∀i,i<l.length->jR (l.map (·.af)) (l.map (·.Name)) i=true)/\l.length<=16):=by
 have e:=eg ad;have a:=scan (λi=>o0 (l,lz (l.map (·.af)) i,(i:Int))) l.length (jR (l.map (·.af)) (l.map (·.Name))) (.inl false) (.inr l)
  (λi hi=>by
   rw[o0,ab (by simp;omega),ab (aN hi),Qs,Y5 l ad i hi,LL (by simpa using hi) (by simp)];simp only[aV,ak,aW];rw[<-i' (·.af) l i dm 0 hi,<-i' (·.Name) l i dm [] hi,zm];generalize (decide (lz (l.map (·.af)) i<(l.map (·.af)).getD i 0)&&decide (1<=(l.map (·.af)).getD i 0)&&decide ((l.map (·.af)).getD i 0<=1000))=q
   rw[ab (by rw[aN hi];rfl)];cases q with
   |false=>rfl
   |true=>
    simp only[eb,fM,cw,ak,kp];cases nm ((l.map (·.Name)).getD i [])with
    |false=>rfl
    |true=>
     simp only[eb,hv,cN,cv,kp];cases d:((l.map (·.Name)).take i).contains ((l.map (·.Name)).getD i [])with
     |true=>simp
     |false=>
      simp only[cN,cv,fM,cw];rw[ab (aN hi),bB (by omega)];have:lz (l.map (·.af)) (i+1)=(l.getD i dm).af:=by
       unfold lz
       grind
      grind)
  (by rw[o0,ag (by simp)])
 have bM:o0 (l,lz (l.map (·.af)) 0,((0:Nat):Int))=o0 (l,0,0):=rfl;simp only[bM]at a;rw[xI];rcases a with⟨h1,b⟩|⟨h1,j,b,c⟩
 . rw[h1];refine⟨_,rfl,?_⟩
   grind
 . rw[h1];refine⟨false,rfl,?_⟩
   grind
theorem aaJ{l:List dc}(ad:l.length*24<=reachBytes):∃r,uA l=some r/\xI l=some r:=by
 obtain⟨r,h1,a⟩:=Le ad;obtain⟨q,b,c⟩:=acG (l:=l) (by unfold reachBytes at*;omega)
 grind
structure e3 (t:ah):Prop where
 syms:t.a7.length*24<=reachBytes
 gW:t.ae.length*24<=reachBytes
 iL:∀m,m∈t.ae->bS m.bk
theorem iC{n:Nat}(h:n*24<=reachBytes):n<=reachBytes:=by unfold reachBytes at*;omega
theorem YD{a b:aO}:a=b↔a.af=b.af/\a.Name=b.Name/\a.av=b.av/\a.bQ=b.bQ/\a.bD=b.bD/\a.bk=b.bk:=by cases a;cases b;simp
theorem jL(x:aO):(⟨x.af,x.Name,x.av,x.bQ,x.bD,I.eta x.bk⟩:aO)=x:=by cases x;simp[I.bj]
theorem PQ{a b:aO}:(bif bif bif bif decide (a.af=b.af)then decide (a.Name=b.Name)else false then decide (a.av=b.av)else false then fc a.bQ b.bQ else false then fc a.bD b.bD else false)=true↔a.af=b.af/\a.Name=b.Name/\a.av=b.av/\a.bQ=b.bQ/\a.bD=b.bD:=by
 simp only[AO,fc]
 grind
theorem QH{a b:aO}{q:Bool}(f:q=true↔a.af=b.af/\a.Name=b.Name/\a.av=b.av/\a.bQ=b.bQ/\a.bD=b.bD){x:Option Bool}(g:eK x a.bk b.bk):
 eK (some q>>=λt37=>(if t37=true then x else some false)>>=λr=>some (bif t37 then r else false)) a b:=by
 obtain⟨d,h1,e⟩:=g;subst h1;refine⟨q&&d,by cases q<;>cases d<;>rfl,?_⟩;rw[YD,cH,f,e];constructor
 . rintro ⟨⟨a1,a2,a3,a4,a5⟩,c⟩;exact⟨a1,a2,a3,a4,a5,c⟩
 . rintro ⟨a1,a2,a3,a4,a5,c⟩;exact⟨⟨a1,a2,a3,a4,a5⟩,c⟩
theorem aaK{a:aO}(h:bS a.bk)(b:aO):eK (xm (a,b)) a b:=by
 rw[xm];simp only[BR,I.bj];exact QH PQ (B' h _)
theorem aaL{a:aO}(h:bS a.bk)(b:aO):eK (xB (a,b)) a b:=by
 rw[xB];simp only[BR,I.bj];exact QH PQ (y9 h _)
theorem SB {f:aO×aO->Option Bool}{m:Type}{g:m}{a b:List aO}(ad:a.length=b.length)(ih:∀x,x∈a->∀y,eK (f (x,y)) x y)(L:Nat->Option (Bool ⊕ m))
 (p:∀i,i<a.length->L i=(f (a.getD i au,b.getD i au)>>=λr=>if(!r)=true then some (.inl false)else L (i+1)))
 (n:L a.length=some (.inr g)):(L 0=some (.inr g)/\a=b)\/(L 0=some (.inl false)/\a≠b):=by
 have k:∀(i:Nat) (h1:i<a.length) (c:i<b.length),eK (f (a.getD i au,b.getD i au)) a[i] b[i]:=by grind
 have l:∀(i:Nat) (h1:i<a.length) (c:i<b.length),(f (a.getD i au,b.getD i au)).getD false=true↔a[i]=b[i]:=by
  intro i h1 c;obtain⟨r,d,o⟩:=k i h1 c
  grind
 have:=scan L a.length (λi=>(f (a.getD i au,b.getD i au)).getD false) (.inl false) (.inr g)
  (λi hi=>by
   obtain⟨r,h1,c⟩:=k i hi (by omega)
   grind) n
 rcases this with⟨h1,c⟩|⟨h1,j,c,d⟩
 . exact .inl ⟨h1,(yx ad l).1 c⟩
 . refine .inr ⟨h1,λe=>?_⟩;have:=(yx ad l).2 e j c;rw[d]at this;cases this
theorem Yo{a b:List aO}(d:a.length<=reachBytes)(e:∀m,m∈a->bS m.bk):eK (A3 (a,b)) a b:=by
 rw[A3];by_cases ad:a.length=b.length
 . rw[ag (by simp;omega)];have k:=eg d;have hs:=SB (g:=()) ad (f:=xm) (λx j y=>aaK (e x j) y) (λi=>ov (b,a,(a.length:Int),(i:Int)))
    (λi hi=>by
     rw[ov,ab (by simp;omega),ab (aN hi)];simp only[aV,ak,aW,jL]
     rw[ab (aN (by omega)),bB (by omega)])
    (by rw[ov,ag (by simp)])
   have bM:ov (b,a,(a.length:Int),((0:Nat):Int))=ov (b,a,(a.length:Int),0):=rfl;simp only[bM]at hs;rcases hs with⟨h1,c⟩|⟨h1,c⟩
   . rw[h1];exact⟨true,rfl,by simp[c]⟩
   . rw[h1];exact⟨false,rfl,by simp[c]⟩
 . rw[ab (by simp;omega)];exact vh ad
theorem Kx{a b:ah}:a=b↔a.Kind=b.Kind/\a.Name=b.Name/\a.bz=b.bz/\a.bx=b.bx/\a.Max=b.Max/\a.Key=b.Key/\a.aH=b.aH/\a.Open=b.Open/\a.a7=b.a7/\a.ae=b.ae:=by
 cases a;cases b
 grind
theorem ac7{a b:ah}:(bif bif bif bif bif bif bif decide (a.Kind=b.Kind)then decide (a.Name=b.Name)else false then decide (a.bz=b.bz)else false then decide (a.bx=b.bx)else false then decide (a.Max=b.Max)else false then decide (a.Key=b.Key)else false then decide (a.aH=b.aH)else false then fc a.Open b.Open else false)=true↔
 a.Kind=b.Kind/\a.Name=b.Name/\a.bz=b.bz/\a.bx=b.bx/\a.Max=b.Max/\a.Key=b.Key/\a.aH=b.aH/\a.Open=b.Open:=by
 simp only[AO,fc];by_cases h1:a.Kind=b.Kind<;>by_cases c:a.Name=b.Name<;>by_cases d:a.bz=b.bz<;>by_cases e:a.bx=b.bx<;>simp[h1,c,d,e]
 by_cases bf:a.Max=b.Max<;>by_cases f:a.Key=b.Key<;>by_cases g:a.aH=b.aH<;>simp[bf,f,g]
theorem iG{a:ah}(h:e3 a)(b:ah):eK (hC (a,b)) a b:=by
 rw[hC];obtain⟨d,s1,g⟩:=ac6 (a:=a.a7) (b:=b.a7) (iC h.syms);obtain⟨c,e,f⟩:=Yo (a:=a.ae) (b:=b.ae) (iC h.gW) h.iL;have e8:=ac7 (a:=a) (b:=b)
 generalize (bif bif bif bif bif bif bif decide (a.Kind=b.Kind)then decide (a.Name=b.Name)else false then decide (a.bz=b.bz)else false then decide (a.bx=b.bx)else false then decide (a.Max=b.Max)else false then decide (a.Key=b.Key)else false then decide (a.aH=b.aH)else false then fc a.Open b.Open else false)=q at e8⊢
 simp only[aV,ak];rw[s1,e];refine⟨q&&d&&c,by cases q<;>cases d<;>cases c<;>rfl,?_⟩;rw[Kx,cH,cH,e8,g,f]
 grind
theorem CC(a:ah):(⟨a.Kind,a.Name,a.bz,a.bx,a.Max,a.a7,a.ae,a.Key,a.aH,a.Open⟩:ah)=a:=by cases a;rfl
theorem pj{a:ah}(h:e3 a)(b:ah):eK (BE (a,b)) a b:=by
 rw[BE];simp only[CC];by_cases bf:(a.Kind=b.Kind/\a.Name=b.Name/\a.bz=b.bz/\a.bx=b.bx/\a.Max=b.Max/\a.Key=b.Key/\a.aH=b.aH/\a.Open=b.Open)/\a.a7.length=b.a7.length/\a.ae.length=b.ae.length
 . obtain⟨⟨az,l,cz,e6,gx,jQ,ou,e8⟩,tW,wu⟩:=bf;rw[ag (by simp[az,l,cz,e6,gx,jQ,ou,e8,tW,wu,fc])];have u:=eg (iC h.syms);have v:=eg (iC h.gW)
   have k:=scan (λi=>oA ((i:Int),a,b)) a.a7.length (λi=>hJ (a.a7.getD i dm).af (b.a7.getD i dm).af&&(jb (a.a7.getD i dm).Name (b.a7.getD i dm).Name&&true)) (.inl false) (.inr (a,b))
    (λi m=>by
     rw[oA,ab (by simp;omega),ab (aN m)];simp only[aV,ak,aW];rw[ab (aN (by omega)),bB (by omega)]
     grind)
    (by rw[oA,ag (by simp)])
   have h0:oA (((0:Nat):Int),a,b)=oA (0,a,b):=rfl;simp only[h0]at k;have n:∀(i:Nat) (h1:i<a.a7.length) (e:i<b.a7.length),(hJ (a.a7.getD i dm).af (b.a7.getD i dm).af&&(jb (a.a7.getD i dm).Name (b.a7.getD i dm).Name&&true))=true↔a.a7[i]=b.a7[i]:=λi h1 e=>by rw[gb h1,gb e];exact Nd
   rcases k with⟨c,d⟩|⟨c,j,d,t⟩
   . have w:=(yx tW n).1 d;rw[c];simp only[aV,ak];have hs:=SB (g:=()) wu (f:=xB) (λx o y=>aaL (h.iL x o) y) (λi=>oZ ((i:Int),a,b))
      (λi hi=>by
       rw[oZ,ab (by simp;omega),ab (aN hi)];simp only[aV,ak,aW,jL]
       rw[ab (aN (by omega)),bB (by omega)])
      (by rw[oZ,ag (by simp)])
     have bM:oZ (((0:Nat):Int),a,b)=oZ (0,a,b):=rfl;simp only[bM]at hs;rcases hs with⟨aZ,ba⟩|⟨aZ,ba⟩
     . rw[aZ];refine⟨true,rfl,?_⟩;rw[Kx]
       grind
     . rw[aZ];refine⟨false,rfl,?_⟩
       grind
   . rw[c];refine⟨false,rfl,?_⟩
     grind
 . rw[ab]
   . refine⟨false,rfl,?_⟩
     grind
   . simp only[AO,fc];by_cases p:a.Kind=b.Kind<;>by_cases q:a.Name=b.Name<;>by_cases r:a.bz=b.bz<;>by_cases s:a.bx=b.bx<;>simp[p,q,r,s]
     grind
def pw(v:I):Bool:=(mi (v,aK)).getD false
theorem acH{v:I}(h:bS v):mi (v,aK)=some (pw v):=by
 obtain⟨r,h1,a⟩:=B' h aK;unfold pw;rw[h1];rfl
theorem ab2{v:I}(h:bS v):jG (v,aK)=some (pw v):=by
 obtain⟨r,h1,b⟩:=B' h aK;obtain⟨q,a,c⟩:=y9 h aK;unfold pw;rw[h1,a]
 grind
theorem abe{v:I}(h:bS v):Cj v=some (pw v):=by
 rw[Cj,I.bj];have:=acH h;unfold aK at this
 grind
def oh(a:Bool)(m:aO):Bool:=(a&&(m.bQ||m.bD))||(m.bQ&&m.bD)||(!m.bD && !pw m.bk)
theorem bo{α:Type}{l:List α}{i:Nat}(h:i<l.length)(d:α):l.getD i d∈l:=by grind
theorem IL{t:ah}(h:e3 t):∃r,sI t=some r/\(r=true↔(∀i,i<t.ae.length->oh (decide (t.Kind=6)) (t.ae.getD i au)=false)/\(t.Kind=5\/0<t.ae.length)/\(∀i,i<t.ae.length->jR (t.ae.map (·.af)) (t.ae.map (·.Name)) i=true)/\t.ae.length<=16):=by
 have m:t.ae.length<9223372036854775807:=eg (iC h.gW);have b:=scan (λi=>pf (t.ae,(t.ae.length:Int),(i:Int),t,(t.ae.map (·.af)).take i,(t.ae.map (·.Name)).take i)) t.ae.length (λi=>!(oh (decide (t.Kind=6)) (t.ae.getD i au))) (.inl false) (.inr (t,t.ae.map (·.af),t.ae.map (·.Name)))
  (λi hi=>by
   have g:=abe (h.iL _ (bo hi au));rw[pf,ab (by simp;omega),ab (aN hi)];simp only[aV,ak,aW,I.bj];rw[<-i' (·.af) t.ae i au 0 hi,<-i' (·.Name) t.ae i au [] hi,u7 _ _ _ (by simpa using hi),u7 _ _ _ (by simpa using hi)];have e:((t.ae.map (·.af)).take (i+1)).length*24<=reachBytes:=by
    refine iO (et _ ?_) h.gW;simp;omega
   have f:((t.ae.map (·.Name)).take (i+1)).length*24<=reachBytes:=by grind
   rw[ab (Cq (by omega) e),ab (Cq (by omega) f),bB (by omega),g];unfold oh
   grind)
  (by
   rw[pf,ag (by simp)]
   rw[pF (by simp),pF (by simp)])
 have bM:pf (t.ae,(t.ae.length:Int),((0:Nat):Int),t,(t.ae.map (·.af)).take 0,(t.ae.map (·.Name)).take 0)=pf (t.ae,(t.ae.length:Int),0,t,[],[]):=rfl;simp only[bM]at b;rw[sI];obtain⟨r,h1,d⟩:=Ng (l:=t.ae.map (·.af)) (names:=t.ae.map (·.Name)) (by simpa using iC h.gW) (by simp);rw[kn]at d
 rcases b with⟨a,c⟩|⟨a,j,c,k⟩
 . rw[a];simp only[aV,ak];rw[h1];refine⟨(bif decide (t.Kind=5)then true else decide (0<((t.ae.map (·.af)).length:Int)))&&r,?_,?_⟩
   . grind
   grind
 grind
theorem YE(l:List aO)(record:Bool)(ad:l.length<=reachBytes)(i:Nat)(hi:i<l.length):
 nc (l,record,(i:Int),0,l.getD i au)=some (if((l.map (·.Name)).take i).contains ((l.map (·.Name)).getD i [])=true then .inl false else .inr (l,record,(i:Int),l.getD i au)):=by
 have e:=eg ad;have c:=scan (λk=>nc (l,record,(i:Int),(k:Int),l.getD i au)) i (λk=>!(decide ((l.getD k au).Name=(l.getD i au).Name))) (.inl false) (.inr (l,record,(i:Int),l.getD i au))
  (λk b=>by
   rw[nc,ab (by simp;omega),ab (aN (by omega)),bB (by omega)];simp only[aW,jL]
   grind)
  (by rw[nc,ag (by simp),jL])
 have bM:nc (l,record,(i:Int),((0:Nat):Int),l.getD i au)=nc (l,record,(i:Int),0,l.getD i au):=rfl;simp only[bM]at c;rw[i' (·.Name) l i au [] hi];rcases c with⟨h1,a⟩|⟨h1,j,a,d⟩
 . rw[h1,ag];rw[qP (by simp;omega)]
   rintro ⟨k,b,he⟩
   rw[i' (·.Name) l k au [] (by omega)]at he;have:=a k b;rw[he]at this;simp at this
 . rw[h1,ab];rw[qP (by simp;omega)];refine⟨j,a,?_⟩;rw[i' (·.Name) l j au [] (by omega)]
   simpa using d
theorem YF{l:List aO}{record:Bool}(ad:l.length<=reachBytes)(e:∀m,m∈l->bS m.bk):∃r,uo (l,record)=some r/\(r=true↔(∀i,i<l.length->oh (!record) (l.getD i au)=false)/\(record=true\/0<l.length)/\(∀i,i<l.length->jR (l.map (·.af)) (l.map (·.Name)) i=true)/\l.length<=16):=by
 have k:=eg ad;have a:=scan (λi=>o1 (l,record,lz (l.map (·.af)) i,(i:Int))) l.length (λi=>jR (l.map (·.af)) (l.map (·.Name)) i && !(oh (!record) (l.getD i au))) (.inl false) (.inr (l,record))
  (λi hi=>by
   have b:=ab2 (e _ (bo hi au));unfold aK at b;rw[o1,ab (by simp;omega),ab (aN hi)];simp only[aV,ak,aW,I.bj,jL,LL (l:=l.map (·.af)) (names:=l.map (·.Name)) (i:=i) (by simpa using hi) (by simp)];rw[YE l record ad i hi,b];have d:lz (l.map (·.af)) (i+1)=(l.getD i au).af:=by
    unfold lz
    grind
   rw[<-i' (·.af) l i au 0 hi,<-i' (·.Name) l i au [] hi,Qs,zm];simp only[ak];generalize (decide (lz (l.map (·.af)) i<(l.map (·.af)).getD i 0)&&decide (1<=(l.map (·.af)).getD i 0)&&decide ((l.map (·.af)).getD i 0<=1000))=q;cases q with
   |false=>simp
   |true=>
    simp only[eb,fM,cw,ak,kp];cases nm ((l.map (·.Name)).getD i [])with
    |false=>simp
    |true=>
     simp only[eb,kp,fN,hv];unfold oh;cases record<;>cases (l.getD i au).bQ<;>cases (l.getD i au).bD<;>cases pw (l.getD i au).bk <;>
      simp only[eb,fM,Bool.or_self,Bool.and_self,AV,vr,vp,yh,yg,kp,AT,fN,gj,hv,cw,cv,cN,ak] <;>
      first
       |rfl
       |(cases g:((l.map (·.Name)).take i).contains ((l.map (·.Name)).getD i [])with
        |true=>simp
        |false=>
         simp only[cN,cv,fM,cw];rw[bB (by omega),d]
         try rfl))
  (by rw[o1,ag (by simp)])
 have bM:o1 (l,record,lz (l.map (·.af)) 0,((0:Nat):Int))=o1 (l,record,0,0):=rfl;simp only[bM]at a;rw[uo];rcases a with⟨h1,c⟩|⟨h1,j,c,f⟩
 . rw[h1];refine⟨_,rfl,?_⟩
   grind
 . rw[h1];refine⟨false,rfl,?_⟩
   grind
theorem JD{t:ah}(h:e3 t)(d:t.Kind=5\/t.Kind=6):∃r,sI t=some r/\uo (t.ae,decide (t.Kind=5))=some r:=by
 obtain⟨r,h1,a⟩:=IL h;obtain⟨q,b,c⟩:=YF (l:=t.ae) (record:=decide (t.Kind=5)) (iC h.gW) h.iL;have e:(!(decide (t.Kind=5)))=decide (t.Kind=6):=by grind
 grind
theorem e3.plain{k l h m kk e:Int}{n:List UInt8}{S:List dc}{a:List aO}{o:Bool}(ay:S.length*24<=reachBytes)(c:a.length*24<=reachBytes)(f:∀x,x∈a->bS x.bk):e3 ⟨k,n,l,h,m,S,a,kk,e,o⟩:=⟨ay,c,f⟩
theorem afv{N:List UInt8}{L H M K E:Int}{S:List dc}{c:List aO}{d:Bool}(h:e3 (⟨1,N,L,H,M,S,c,K,E,d⟩:ah)):∃r,gg (⟨1,N,L,H,M,S,c,K,E,d⟩:ah)=some r/\hg (⟨1,N,L,H,M,S,c,K,E,d⟩:ah)=some r/\(r=true->N=[]):=by
 obtain⟨a,a1,a2⟩:=iG (a:=(⟨0,N,L,H,M,S,c,K,E,d⟩:ah)) ⟨h.syms,h.gW,h.iL⟩ (⟨0,[],0,0,0,[],[],0,0,false⟩:ah);obtain⟨b,b1,b2⟩:=pj h (⟨1,[],0,0,0,[],[],0,0,false⟩:ah);have e:a=b:=by grind
 subst e;refine⟨a,by simp[gg,a1],by simp[hg,mf,jH,b1];try (cases a<;>rfl),λf=>?_⟩
 grind
theorem afw{N:List UInt8}{L H M K E:Int}{S:List dc}{c:List aO}{d:Bool}(h:e3 (⟨2,N,L,H,M,S,c,K,E,d⟩:ah)):∃r,gg (⟨2,N,L,H,M,S,c,K,E,d⟩:ah)=some r/\hg (⟨2,N,L,H,M,S,c,K,E,d⟩:ah)=some r/\(r=true->N=[]):=by
 obtain⟨a,a1,a2⟩:=iG (a:=(⟨0,N,0,0,M,S,c,K,E,d⟩:ah)) ⟨h.syms,h.gW,h.iL⟩ (⟨0,[],0,0,0,[],[],0,0,false⟩:ah);obtain⟨b,b1,b2⟩:=pj h (⟨2,[],L,H,0,[],[],0,0,false⟩:ah);have e:a=b:=by grind
 subst e;refine⟨decide (L<=H)&&a,?_,?_,λf=>?_⟩
 . simp only[gg]
   grind
 . simp only[hg];generalize decide (L<=H)=q;simp[mf,jH,b1]
   grind
 grind
theorem afx{N:List UInt8}{L H M K E:Int}{S:List dc}{c:List aO}{d:Bool}(h:e3 (⟨3,N,L,H,M,S,c,K,E,d⟩:ah)):∃r,gg (⟨3,N,L,H,M,S,c,K,E,d⟩:ah)=some r/\hg (⟨3,N,L,H,M,S,c,K,E,d⟩:ah)=some r/\(r=true->N=[]):=by
 obtain⟨a,a1,a2⟩:=iG (a:=(⟨0,N,L,H,0,S,c,K,E,d⟩:ah)) ⟨h.syms,h.gW,h.iL⟩ (⟨0,[],0,0,0,[],[],0,0,false⟩:ah);obtain⟨b,b1,b2⟩:=pj h (⟨3,[],0,0,M,[],[],0,0,false⟩:ah);have e:a=b:=by grind
 subst e;refine⟨(bif decide (0<=M)then decide (M<=200)else false)&&a,?_,?_,λf=>?_⟩
 . simp only[gg]
   grind
 . simp only[hg];generalize (bif decide (0<=M)then decide (M<=200)else false)=q;simp[mf,jH,b1]
   grind
 grind
theorem afy{N:List UInt8}{L H M K E:Int}{S:List dc}{c:List aO}{d:Bool}(h:e3 (⟨4,N,L,H,M,S,c,K,E,d⟩:ah)):∃r,gg (⟨4,N,L,H,M,S,c,K,E,d⟩:ah)=some r/\hg (⟨4,N,L,H,M,S,c,K,E,d⟩:ah)=some r/\(r=true->N≠[]):=by
 obtain⟨a,a1,a2⟩:=iG (a:=(⟨0,[],L,H,M,[],c,K,E,false⟩:ah)) ⟨(by simp),h.gW,h.iL⟩ (⟨0,[],0,0,0,[],[],0,0,false⟩:ah);obtain⟨b,b1,b2⟩:=pj h (⟨4,N,0,0,0,S,[],0,0,d⟩:ah);have g:a=b:=by grind
 subst g;obtain⟨q,i,f⟩:=aaJ (l:=S) h.syms;refine⟨nm N&&q&&a,?_,?_,λe=>?_⟩
 . simp only[gg];simp[a1,i,sL]
   grind
 . simp only[hg]
   try simp at f
   simp[mf,jH,b1,f,zm]
   grind
 . simp only[cH]at e;exact Ej e.1.1
theorem afz{N:List UInt8}{L H M K E:Int}{S:List dc}{c:List aO}{d:Bool}(h:e3 (⟨5,N,L,H,M,S,c,K,E,d⟩:ah)):∃r,gg (⟨5,N,L,H,M,S,c,K,E,d⟩:ah)=some r/\hg (⟨5,N,L,H,M,S,c,K,E,d⟩:ah)=some r/\(r=true->N≠[]):=by
 obtain⟨a,a1,a2⟩:=iG (a:=(⟨0,[],L,H,M,S,[],K,E,(bif d then decide ((5:Int)=5)else false)⟩:ah)) ⟨h.syms,(by simp),(by simp)⟩ (⟨0,[],0,0,0,[],[],0,0,false⟩:ah);obtain⟨b,b1,b2⟩:=pj h (⟨5,N,0,0,0,[],c,0,0,false⟩:ah);have i:a=b:=by grind
 subst i;obtain⟨q,f,g⟩:=JD h (by simp);refine⟨nm N&&q&&a,?_,?_,λe=>?_⟩
 . simp only[gg]
   try simp at a1
   try simp at f
   simp[a1,f,sL]
   grind
 . simp only[hg]
   try simp at g
   simp[mf,jH,b1,g,zm]
   grind
 . simp only[cH]at e;exact Ej e.1.1
theorem afA{N:List UInt8}{L H M K E:Int}{S:List dc}{d:List aO}{c:Bool}(h:e3 (⟨6,N,L,H,M,S,d,K,E,c⟩:ah)):∃r,gg (⟨6,N,L,H,M,S,d,K,E,c⟩:ah)=some r/\hg (⟨6,N,L,H,M,S,d,K,E,c⟩:ah)=some r/\(r=true->N≠[]):=by
 obtain⟨a,a1,a2⟩:=iG (a:=(⟨0,[],L,H,M,S,[],K,E,(bif c then decide ((6:Int)=5)else false)⟩:ah)) ⟨h.syms,(by simp),(by simp)⟩ (⟨0,[],0,0,0,[],[],0,0,false⟩:ah);obtain⟨b,b1,b2⟩:=pj h (⟨6,N,0,0,0,[],d,0,0,c⟩:ah);have i:a=b:=by grind
 subst i;obtain⟨q,f,g⟩:=JD h (by simp);refine⟨nm N&&q&&a,?_,?_,λe=>?_⟩
 . simp only[gg]
   try simp at a1
   try simp at f
   simp[a1,f,sL]
   grind
 . simp only[hg]
   try simp at g
   simp[mf,jH,b1,g,zm]
   grind
 . simp only[cH]at e;exact Ej e.1.1
theorem afB{N:List UInt8}{L H M K E:Int}{S:List dc}{c:List aO}{d:Bool}(h:e3 (⟨7,N,L,H,M,S,c,K,E,d⟩:ah)):∃r,gg (⟨7,N,L,H,M,S,c,K,E,d⟩:ah)=some r/\hg (⟨7,N,L,H,M,S,c,K,E,d⟩:ah)=some r/\(r=true->N=[]):=by
 obtain⟨a,a1,a2⟩:=iG (a:=(⟨0,N,L,H,0,S,c,K,0,d⟩:ah)) ⟨h.syms,h.gW,h.iL⟩ (⟨0,[],0,0,0,[],[],0,0,false⟩:ah);obtain⟨b,b1,b2⟩:=pj h (⟨7,[],0,0,M,[],[],0,E,false⟩:ah);have e:a=b:=by grind
 subst e;refine⟨(bif decide (0<=M)then decide (M<=50)else false)&&a,?_,?_,λf=>?_⟩
 . simp only[gg]
   grind
 . simp only[hg];generalize (bif decide (0<=M)then decide (M<=50)else false)=q;simp[mf,jH,b1]
   grind
 grind
theorem afC{N:List UInt8}{L H M K E:Int}{S:List dc}{c:List aO}{d:Bool}(h:e3 (⟨8,N,L,H,M,S,c,K,E,d⟩:ah)):∃r,gg (⟨8,N,L,H,M,S,c,K,E,d⟩:ah)=some r/\hg (⟨8,N,L,H,M,S,c,K,E,d⟩:ah)=some r/\(r=true->N=[]):=by
 obtain⟨a,a1,a2⟩:=iG (a:=(⟨0,N,L,H,0,S,c,0,0,d⟩:ah)) ⟨h.syms,h.gW,h.iL⟩ (⟨0,[],0,0,0,[],[],0,0,false⟩:ah);obtain⟨b,b1,b2⟩:=pj h (⟨8,[],0,0,M,[],[],K,E,false⟩:ah);have e:a=b:=by grind
 subst e;refine⟨(bif decide (0<=M)then decide (M<=50)else false)&&a,?_,?_,λf=>?_⟩
 . simp only[gg]
   grind
 . simp only[hg];generalize (bif decide (0<=M)then decide (M<=50)else false)=q;simp[mf,jH,b1]
   grind
 grind
theorem afD{N:List UInt8}{L H M K E:Int}{S:List dc}{c:List aO}{d:Bool}(h:e3 (⟨9,N,L,H,M,S,c,K,E,d⟩:ah)):∃r,gg (⟨9,N,L,H,M,S,c,K,E,d⟩:ah)=some r/\hg (⟨9,N,L,H,M,S,c,K,E,d⟩:ah)=some r/\(r=true->N=[]):=by
 obtain⟨a,a1,a2⟩:=iG (a:=(⟨0,N,L,H,M,S,c,K,0,d⟩:ah)) ⟨h.syms,h.gW,h.iL⟩ (⟨0,[],0,0,0,[],[],0,0,false⟩:ah);obtain⟨b,b1,b2⟩:=pj h (⟨9,[],0,0,0,[],[],0,E,false⟩:ah);have e:a=b:=by grind
 subst e;refine⟨a,by simp[gg,a1],by simp[hg,mf,jH,b1];try (cases a<;>rfl),λf=>?_⟩
 grind
def kd(k:Int):Bool:=bif bif decide (k=4)then true else decide (k=5)then true else decide (k=6)
theorem JE{t:ah}(h:e3 t):∃r,gg t=some r/\hg t=some r/\(r=true->1<=t.Kind/\t.Kind<=9/\kd t.Kind=!(decide (t.Name=[]))):=by
 by_cases b:1<=t.Kind/\t.Kind<=9
 . obtain⟨a,N,L,H,M,S,c,K,E,d⟩:=t;simp at b;have:a=1\/a=2\/a=3\/a=4\/a=5\/a=6\/a=7\/a=8\/a=9:=by omega
   rcases this with rfl|rfl|rfl|rfl|rfl|rfl|rfl|rfl|rfl
   . grind[afv,kd]
   . grind[afw,kd]
   . grind[afx,kd]
   . grind[afy,kd]
   . grind[afz,kd]
   . grind[afA,kd]
   . grind[afB,kd]
   . grind[afC,kd]
   grind[afD,kd]
 . refine⟨false,?_,?_,λh=>by grind⟩
   . have e:∀k,1<=k->k<=9->¬t.Kind=k:=λk h1 f e=>b (by omega)
     simp_all[gg]
   . have e:(bif decide (t.Kind<1)then true else decide (9<t.Kind))=true:=by grind
     rw[hg,e];rfl
def fk(t:ah):List Int:=t.ae.map (·.av)++(if t.Kind=8 then[t.Key]else[])++(if 7<=t.Kind then[t.aH]else[])
theorem u4{k n:Nat}(a:k<=16){m:Nat}(h:m*24<=reachBytes)(aA:n<=m+2):room k n=true:=by
 unfold room gr dd;unfold reachBytes at h;simp;have:(2*n+192)*k<=(2*n+192)*16:=Nat.mul_le_mul_left _ a;omega
theorem IM(t:ah)(h:t.ae.length*24<=reachBytes):∀(k i:Nat),i+k=t.ae.length->r5 (t.ae,(t.ae.length:Int),(i:Int),t,(t.ae.map (·.av)).take i)=some (t,t.ae.map (·.av))
 |0,i,hi=>by grind[r5,List.take_of_length_le]
 |k+1,i,hi=>by
  have a:=eg (iC h);have aI:i<t.ae.length:=by omega
  rw[r5,ab (by grind),ab (aN aI)];simp only[aV,ak,aW];rw[<-i' (·.av) _ i _ 0 aI,u7 _ _ _ (by grind),bB (by omega),ab (u4 (by simp) h (by grind))];exact IM t h k _ (by omega)
theorem ab3{t:ah}(h:t.ae.length*24<=reachBytes):BV t=some (fk t):=by
 have h0:=IM t h t.ae.length 0 (by simp);rw[BV];unfold fk;have a:room 8 (t.ae.map (·.av)++[t.Key]).length=true:=u4 (by simp) h (by simp);have b:room 8 (t.ae.map (·.av)++[t.Key]++[t.aH]).length=true:=u4 (m:=t.ae.length) (by simp) h (by simp)
 grind
theorem IN(t:ah)(h:t.ae.length*24<=reachBytes):∀(k i:Nat),i+k=t.ae.length->r3 ((i:Int),t,(t.ae.map (·.av)).take i)=some (t,t.ae.map (·.av))
 |0,i,hi=>by grind[r3,List.take_of_length_le]
 |k+1,i,hi=>by
  have a:=eg (iC h);have aI:i<t.ae.length:=by omega
  rw[r3,ab (by grind),ab (aN aI)];simp only[aV,ak,aW];rw[<-i' (·.av) _ i _ 0 aI,u7 _ _ _ (by grind),bB (by omega),ab (u4 (by simp) h (by grind))];exact IN t h k _ (by omega)
theorem ab4{t:ah}(h:t.ae.length*24<=reachBytes)(a:t.Kind<=9):Bl t=some (fk t):=by
 have h0:=IN t h t.ae.length 0 (by simp);rw[Bl];unfold fk;have b:room 8 (t.ae.map (·.av)++[t.Key]).length=true:=u4 (by simp) h (by simp);have c:room 8 (t.ae.map (·.av)++[t.Key]++[t.aH]).length=true:=u4 (m:=t.ae.length) (by simp) h (by simp)
 grind
theorem ab5(k:Int):jH k=some (kd k):=rfl
def w2(k:Int):Bool:=bif decide (1<=k)then decide (k<=4)else false
def pJ(n:Nat)(a:Int):Bool:=bif decide (a<0)then true else decide ((n:Int)<=a)
def tc(ts:List ah)(i:Nat):Option Int:=
 let t:=ts.getD i ar
 if !((gg t).getD false)then some 1
 else if !(decide (t.Name=[]))&&((ts.map (·.Name)).take i).contains t.Name then some 1
 else if(fk t).any (pJ ts.length)then some 4
 else if decide (t.Kind=8) && !(w2 (ts.getD t.Key.toNat ar).Kind)then some 1
 else none
theorem HN{ts:List ah}{i:Nat}{t:ah}{r:Bool}(cP:ts.getD i ar=t)(f1:gg t=some r):
 tc ts i=if(!r)=true then some 1 else if(!(decide (t.Name=[]))&&((ts.map (·.Name)).take i).contains t.Name)=true then some 1 else if(fk t).any (pJ ts.length)=true then some 4 else if(decide (t.Kind=8) && !(w2 (ts.getD t.Key.toNat ar).Kind))=true then some 1 else none:=by
 grind[tc]
theorem Ky{b:Type}(L:Nat->Option b)(l:List Int)(q:Int->Bool)(a o7:b)(d:∀i,i<l.length->L i=if q (l.getD i 0)=true then some a else L (i+1))(c:L l.length=some o7):
 L 0=some (if l.any q=true then a else o7):=by
 have:=scan L l.length (λi=>!(q (l.getD i 0))) a _ (λi hi=>by grind) c
 grind[List.getElem_of_mem]
theorem JF{t:ah}(h:t.ae.length*24<=reachBytes):(fk t).length<9223372036854775807:=by
 grind[fk,reachBytes]
theorem acI {L:Nat->Option (Int ⊕ Unit)}{L':Nat->Option (Int ⊕ Unit)}{n:Nat}{step:Nat->Option Int}
 (h:∀i,i<n->L i=match step i with|some e=>some (.inl e)|none=>L (i+1))(he:L n=some (.inr ()))
 (a:∀i,i<n->L' i=match step i with|some e=>some (.inl e)|none=>L' (i+1))(f:L' n=some (.inr ())):∃o,L 0=some o/\L' 0=some o/\((o= .inr ()/\∀i,i<n->step i=none)\/∃i e,i<n/\step i=some e/\o= .inl e):=by
 have key:∀k i,i+k=n->∃o,L i=some o/\L' i=some o/\((o= .inr ()/\∀m,i<=m->m<n->step m=none)\/∃m e,m<n/\step m=some e/\o= .inl e):=by
  intro k
  induction k with
  |zero=>grind
  |succ k ih=>
   intro i hi;rw[a i (by omega)];cases g:step i with
   |some e=>grind
   |none=>
    obtain⟨o,b,c,d⟩:=ih (i+1) (by omega)
    grind
 obtain⟨o,b,c,d⟩:=key n 0 (by simp)
 grind
theorem Nh{ts:List ah}{t:ah}(b:(fk t).any (pJ ts.length)=false)(a:t.Kind=8):aB t.Key ts.length=true:=by
 grind[fk,pJ,aB]
theorem acJ(ts:List ah)(t:ah)(i:Nat)(hi:i<ts.length)(e:ts.length<9223372036854775807):
 nh ((i:Int),0,ts,t.Kind,t.Name,t.bz,t.bx,t.Max,t.a7,t.ae,t.Key,t.aH,t.Open)=some (if(kd t.Kind&&((ts.map (·.Name)).take i).contains t.Name)=true then .inl 1 else .inr ((i:Int),ts,t.Kind,t.Name,t.bz,t.bx,t.Max,t.a7,t.ae,t.Key,t.aH,t.Open)):=by
 have b:=scan (λk=>nh (i,k,ts,t.Kind,t.Name,t.bz,t.bx,t.Max,t.a7,t.ae,t.Key,t.aH,t.Open)) i (λk=>!(bif kd t.Kind then decide ((ts.getD k ar).Name=t.Name)else false)) (.inl 1) (.inr (i,ts,t.Kind,t.Name,t.bz,t.bx,t.Max,t.a7,t.ae,t.Key,t.aH,t.Open))
  (λk d=>by
   rw[nh,ab (by grind),ab5];simp only[aV,ak];rw[ab (by grind[aN]),bB (by omega)]
   grind)
  (by simp_all[nh])
 have bM:nh ((i:Int),(0:Nat),ts,t.Kind,t.Name,t.bz,t.bx,t.Max,t.a7,t.ae,t.Key,t.aH,t.Open)=nh ((i:Int),0,ts,t.Kind,t.Name,t.bz,t.bx,t.Max,t.a7,t.ae,t.Key,t.aH,t.Open):=rfl;simp at b;rcases b with⟨h1,a⟩|⟨h1,j,a,c⟩
 . rw[h1,ag];rw[cH,qP (by grind)]
   grind
 . rw[h1,ab];rw[cH,qP (by grind)];cases aA:kd _ with
   |false=>grind
   |true=>
    refine⟨rfl,j,a,?_⟩
    grind
theorem acK(ts:List ah)(t:ah)(i:Nat)(l:List Int)(ad:l.length<9223372036854775807):
 qg ((i:Int),l,0,ts,t.Kind,t.Name,t.bz,t.bx,t.Max,t.a7,t.ae,t.Key,t.aH,t.Open)=some (if l.any (pJ ts.length)=true then .inl 4 else .inr ((i:Int),ts,t.Kind,t.Name,t.bz,t.bx,t.Max,t.a7,t.ae,t.Key,t.aH,t.Open)):=
 Ky (λj=>qg (i,l,j,ts,t.Kind,t.Name,t.bz,t.bx,t.Max,t.a7,t.ae,t.Key,t.aH,t.Open)) l _ _ _
  (λj a=>by
   rw[qg,ab (by grind),ab (aN a)];simp only[aV,ak];rw[ab (by grind[aN]),bB (by omega)]
   rfl)
  (by grind[qg])
theorem YG{s:bh}(hs:s.Types.length<=reachBytes)(ht:∀t,t∈s.Types->e3 t):∃e,sa s=some e/\rJ s=some e/\(e=0->s.Types.length<=32/\∀i,i<s.Types.length->tc s.Types i=none)/\((s.Types.length<=32/\∀i,i<s.Types.length->tc s.Types i=none)->e=0)/\e≠12:=by
 rw[sa,rJ];by_cases x:32<s.Types.length
 . exact⟨3,by grind,by grind,λh=>(by grind),λh=>absurd h.1 (by omega),by simp⟩
 . rw[ag (by grind),ag (by grind)];have q:s.Types.length<9223372036854775807:=by omega
   have:=acI (L:=λi=>qL (s.Types,(s.Types.length:Int),(i:Int),s.Types,lg ((s.Types.map (·.Name)).take i))) (L':=λi=>qo ((i:Int),s.Types)) (n:=s.Types.length) (step:=tc s.Types)
    (λi hi=>by
     have a:=ht _ (bo hi ar);obtain⟨r,f1,f2,f3⟩:=JE a;rw[qL,ab (by grind),ab (aN hi)];simp only[aV,ak,aW];generalize cP:s.Types.getD i ar=t at*;rw[HN cP f1,f1];simp only[ak,II];cases r with
     |false=>rfl
     |true=>
      by_cases d:(!(decide (t.Name=[]))&&((s.Types.map (·.Name)).take i).contains t.Name)=true
      . grind
      . have k:¬((bif (!(decide (t.Name=[])))then((s.Types.map (·.Name)).take i).contains t.Name else false)=true):=by grind
        rw[ag (show ¬((bif (!true)then true else bif (!(decide (t.Name=[])))then((s.Types.map (·.Name)).take i).contains t.Name else false)=true)from k),ag d,ab3 a.gW];simp only[ak];have y:=JF a.gW
        have l:=Ky (λj=>oC (s.Types,(s.Types.length:Int),(i:Int),fk t,((fk t).length:Int),(j:Int),s.Types,ig (lg ((s.Types.map (·.Name)).take i)) t.Name,t.Kind,t.Name,t.bz,t.bx,t.Max,t.a7,t.ae,t.Key,t.aH,t.Open)) (fk t) (pJ s.Types.length) (.inl 4)
         (.inr (s.Types,(s.Types.length:Int),(i:Int),s.Types,ig (lg ((s.Types.map (·.Name)).take i)) t.Name,t.Kind,t.Name,t.bz,t.bx,t.Max,t.a7,t.ae,t.Key,t.aH,t.Open))
         (λj m=>by
          rw[oC,ab (by grind),ab (aN m),bB (by omega)]
          rfl)
         (by simp_all[oC,ag])
        have bM:oC (s.Types,(s.Types.length:Int),(i:Int),fk t,((fk t).length:Int),((0:Nat):Int),s.Types,ig (lg ((s.Types.map (·.Name)).take i)) t.Name,t.Kind,t.Name,t.bz,t.bx,t.Max,t.a7,t.ae,t.Key,t.aH,t.Open)=oC (s.Types,(s.Types.length:Int),(i:Int),fk t,((fk t).length:Int),0,s.Types,ig _ t.Name,t.Kind,t.Name,t.bz,t.bx,t.Max,t.a7,t.ae,t.Key,t.aH,t.Open):=rfl
        rw[<-bM,l];cases c:(fk t).any (pJ s.Types.length)with
        |true=>rfl
        |false=>
         simp only[cN,cv,ak];have u:ig (lg ((s.Types.map (·.Name)).take i)) t.Name=lg ((s.Types.map (·.Name)).take (i+1)):=by
          grind[IJ]
         rw[u,bB (by omega)];by_cases b:t.Kind=8
         . have p:=Nh c b;simp only[b,ec,gj,kp,w2]
           grind
         grind)
    (by simp_all[qL,ag])
    (λi hi=>by
     have a:=ht _ (bo hi ar);obtain⟨r,f1,f2,f3⟩:=JE a;rw[qo,ab (by grind),ab (aN hi)];simp only[aV,ak,aW];generalize cP:s.Types.getD i ar=t at*;rw[HN cP f1,f2,acJ s.Types t i hi q];simp only[ak];cases r with
     |false=>rfl
     |true=>
      obtain⟨aZ,ba,bE⟩:=f3 rfl;rw[ag (show ¬((!true)=true) by simp),bE];cases d:(!(decide (t.Name=[]))&&((s.Types.map (·.Name)).take i).contains t.Name)with
      |true=>rfl
      |false=>
       simp only[cN,cv,CC];rw[ab4 a.gW ba];simp only[ak];rw[acK s.Types t i (fk t) (JF a.gW)];cases c:(fk t).any (pJ s.Types.length)with
       |true=>rfl
       |false=>
        simp only[cN,cv,ak];rw[bB (by omega)];by_cases b:t.Kind=8
        . have p:=Nh c b;rw[ab (by grind)];simp only[b,ec,cw,xF,ak,gj,kp];show(if(!(w2 (s.Types.getD t.Key.toNat ar).Kind))=true then some (.inl 1)else qo (((i+1:Nat):Int),s.Types))=_
          grind
        grind)
    (by simp_all[qo,ag])
   obtain⟨o,h1,w,f⟩:=this;have v:qL (s.Types,(s.Types.length:Int),0,s.Types,[])=some o:=h1;rcases f with⟨rfl,g⟩|⟨i,e,g,bf,rfl⟩
   . simp_all
   grind[tc]
theorem u9{c:Type}(L:Nat->Option c)(n:Nat)(q:Nat->Bool)(hit:Nat->c)(b:c)(e:∀i,i<n->L i=if q i=true then some (hit i)else L (i+1))(d:L n=some b):
 (∃j,j<n/\q j=true/\(∀k,k<j->q k=false)/\L 0=some (hit j))\/((∀k,k<n->q k=false)/\L 0=some b):=by
 have key:∀k i,i+k=n->(∀m,m<i->q m=false)->L 0=L i->(∃j,j<n/\q j=true/\(∀k,k<j->q k=false)/\L 0=some (hit j))\/((∀k,k<n->q k=false)/\L 0=some b):=by
  intro k
  induction k with
  |zero=> intro i hi a h0; have:i = n:= by omega
          subst this;exact .inr ⟨a,by rw[h0,d]⟩
  |succ k ih=>
   intro i hi a h0;rw[e i (by omega)]at h0
   grind
 exact key n 0 (by omega) (λm a=>by omega) rfl
def sT(l:List aO)(id:Int)(r:Int×Bool):Prop:=(∃j:Nat,j<l.length/\(l.getD j au).af=id/\(∀k,k<j->(l.getD k au).af≠id)/\r=((j:Int),true))\/((∀k,k<l.length->(l.getD k au).af≠id)/\r=(0,false))
theorem SC{l:List aO}{id:Int}{r q:Int×Bool}(h1:sT l id r)(a:sT l id q):r=q:=by
 rcases h1 with⟨j,a1,a2,a3,rfl⟩|⟨a1,rfl⟩<;>rcases a with⟨k,b1,b2,b,rfl⟩|⟨b1,rfl⟩
 . grind
 . grind
 . grind
 . rfl
theorem xr{t:ah}{id:Int}(ad:t.ae.length<9223372036854775807):∃r,hB (t,id)=some r/\sT t.ae id r:=by
 rw[hB,Fo];have h:=u9 (λi=>ow (t.ae,(t.ae.length:Int),(i:Int),id)) t.ae.length (λi=>decide ((t.ae.getD i au).af=id)) (λi=>.inl ((i:Int),id)) (.inr id)
  (λi hi=>by
   rw[ow,ab (by simp;omega),ab (aN hi)];simp only[aV,ak,aW,jL,E6]
   rw[bB (by omega)])
  (by rw[ow,ag (by simp)])
 have bM:ow (t.ae,(t.ae.length:Int),((0:Nat):Int),id)=ow (t.ae,(t.ae.length:Int),0,id):=rfl;simp only[bM]at h;rcases h with⟨j,h1,c,d,a⟩|⟨h1,a⟩
 . rw[a];refine⟨((j:Int),true),?_,.inl ⟨j,h1,by simpa using c,λk b=>by simpa using d k b,rfl⟩⟩;have az:ki (j:Int) 0=(j:Int):=by unfold ki;omega
   simp_all
 . rw[a];exact⟨(0,false),rfl,.inr ⟨λk b=>by simpa using h1 k b,rfl⟩⟩
theorem Xt{t:ah}{id:Int}(ad:t.ae.length<9223372036854775807):∃r,mC (t,id)=some r/\sT t.ae id r:=by
 rw[mC];have h:=u9 (λi=>o6 (id,(i:Int),t)) t.ae.length (λi=>decide ((t.ae.getD i au).af=id)) (λi=>.inl ((i:Int),true)) (.inr ())
  (λi hi=>by
   rw[o6,ab (by simp;omega),ab (aN hi),bB (by omega)]
   grind)
  (by rw[o6,ag (by simp)])
 have bM:o6 (id,((0:Nat):Int),t)=o6 (id,0,t):=rfl;simp only[bM]at h;rcases h with⟨j,h1,c,d,a⟩|⟨h1,a⟩
 . rw[a];exact⟨((j:Int),true),rfl,.inl ⟨j,h1,by simpa using c,λk b=>by simpa using d k b,rfl⟩⟩
 . rw[a];exact⟨(0,false),rfl,.inr ⟨λk b=>by simpa using h1 k b,rfl⟩⟩
theorem oN{t:ah}(id:Int)(ad:t.ae.length<9223372036854775807):∃r,hB (t,id)=some r/\mC (t,id)=some r/\sT t.ae id r:=by
 obtain⟨r,h1,a⟩:=xr (id:=id) ad;obtain⟨q,c,b⟩:=Xt (id:=id) ad;have:=SC a b
 grind
def u5(l:List dc)(id:Int)(r:Int×Bool):Prop:=(∃j:Nat,j<l.length/\(l.getD j dm).af=id/\(∀k,k<j->(l.getD k dm).af≠id)/\r=((j:Int),true))\/((∀k,k<l.length->(l.getD k dm).af≠id)/\r=(0,false))
theorem X8{l:List dc}{id:Int}{r q:Int×Bool}(h1:u5 l id r)(a:u5 l id q):r=q:=by
 rcases h1 with⟨j,a1,a2,a3,rfl⟩|⟨a1,rfl⟩<;>rcases a with⟨k,b1,b2,b,rfl⟩|⟨b1,rfl⟩
 . grind
 . grind
 . grind
 . rfl
theorem yz{t:ah}(id:Int)(ad:t.a7.length<9223372036854775807):∃r,uC (t,id)=some r/\xa (t,id)=some r/\u5 t.a7 id r:=by
 rw[uC,ER,xa];have h:=u9 (λi=>m' (t.a7,(t.a7.length:Int),(i:Int),id)) t.a7.length (λi=>decide ((t.a7.getD i dm).af=id)) (λi=>.inl ((i:Int),id)) (.inr id)
  (λi hi=>by
   rw[m',ab (by simp;omega),ab (aN hi)];simp only[aV,ak,aW,E4]
   rw[bB (by omega)])
  (by rw[m',ag (by simp)])
 have bM:m' (t.a7,(t.a7.length:Int),((0:Nat):Int),id)=m' (t.a7,(t.a7.length:Int),0,id):=rfl;have g:=u9 (λi=>nH (id,(i:Int),t)) t.a7.length (λi=>decide ((t.a7.getD i dm).af=id)) (λi=>.inl ((i:Int),true)) (.inr ())
  (λi hi=>by
   rw[nH,ab (by simp;omega),ab (aN hi),bB (by omega)]
   grind)
  (by rw[nH,ag (by simp)])
 have l:nH (id,((0:Nat):Int),t)=nH (id,0,t):=rfl;simp only[bM]at h;simp only[l]at g;have m:∃r,(m' (t.a7,(t.a7.length:Int),0,id)>>=λo=>match o with|.inl c=>some (c.1,c.2)|.inr f=>some ((-1),f))>>=(λr=>some (ki r.1 0,decide (0<=r.1)))=some r/\u5 t.a7 id r:=by
  rcases h with⟨j,h1,d,e,a⟩|⟨h1,a⟩
  . rw[a];refine⟨((j:Int),true),?_,.inl ⟨j,h1,by simpa using d,λk b=>by simpa using e k b,rfl⟩⟩;have az:ki (j:Int) 0=(j:Int):=by unfold ki;omega
    simp_all
  . rw[a];exact⟨(0,false),rfl,.inr ⟨λk b=>by simpa using h1 k b,rfl⟩⟩
 have cA:∃r,(nH (id,0,t)>>=λo=>match o with|.inl c=>some (c.1,c.2)|.inr f=>some (0,false))=some r/\u5 t.a7 id r:=by
  rcases g with⟨j,h1,d,e,a⟩|⟨h1,a⟩
  . rw[a];exact⟨((j:Int),true),rfl,.inl ⟨j,h1,by simpa using d,λk b=>by simpa using e k b,rfl⟩⟩
  . rw[a];exact⟨(0,false),rfl,.inr ⟨λk b=>by simpa using h1 k b,rfl⟩⟩
 obtain⟨r,a1,a2⟩:=m;obtain⟨q,b1,b2⟩:=cA;have:=X8 a2 b2
 grind
def fr(n:Int):Int:=if 0<=n then 2*n else -2*n-1
theorem Lf{a b:Int}(h:fr a=fr b):a=b:=by
 unfold fr at h;split at h<;>split at h<;>omega
def bw(n:Int):Prop:= -9223372036854775808<=n/\n<=9223372036854775807
theorem qF{n:Int}(h:bw n):pc n=some (fr n):=by
 obtain⟨h1,f⟩:=h;rw[pc];unfold fr;by_cases h0:0<=n
 . rw[ab (by simp[h0]),ab h0];obtain⟨k,rfl⟩:∃k:Nat,n=(k:Int):=⟨n.toNat,by omega⟩
   rw[h9 (by omega)];have:=Eh (a:=2) (b:=k) (by omega)
   grind
 . rw[ag (by simp[h0]),ag h0];rw[hG (by omega) (by omega),fC (by omega) (by omega)];obtain⟨k,e⟩:∃k:Nat,0-(n+1)=(k:Int):=⟨(0-(n+1)).toNat,by omega⟩
   rw[e,h9 (by omega)];have c:=Eh (a:=2) (b:=k) (by omega);have d:iq .u64 2 (k:Int)=((2*k:Nat):Int):=c;rw[d];have g:=zW (a:=2*k) (b:=1) (by omega)
   grind
theorem abf(a:Nat)(h:a<18446744073709551616):tj .u64 (a:Int) 0=(a:Int):=by
 have e:(BitVec.ofInt 64 (a:Int) ^^^ BitVec.ofInt 64 (0:Int)).toNat=a:=by grind
 show IntKind.u64.wrap (((BitVec.ofInt 64 (a:Int) ^^^ BitVec.ofInt 64 (0:Int)).toNat:Nat):Int)=_;rw[e];exact kA (by omega) (by omega)
theorem abg(a:Nat)(h:a<18446744073709551616):tj .u64 (a:Int) 18446744073709551615=((18446744073709551615-a:Nat):Int):=by
 have e:(BitVec.ofInt 64 (a:Int) ^^^ BitVec.ofInt 64 (18446744073709551615:Int)).toNat=18446744073709551615-a:=by
  have h1:BitVec.ofInt 64 (18446744073709551615:Int)=BitVec.allOnes 64:=by decide
  rw[h1,vx,BitVec.xor_allOnes,BitVec.toNat_not,yd,FG,n0 h]
 all_goals (try omega)
 show IntKind.u64.wrap (((BitVec.ofInt 64 (a:Int) ^^^ BitVec.ofInt 64 (18446744073709551615:Int)).toNat:Nat):Int)=_;rw[e];exact kA (by omega) (by omega)
theorem agt{n:Int}(h:bw n):lh .i64 n 63=if 0<=n then 0 else -1:=by
 obtain⟨h1,a⟩:=h;unfold lh;have e:((2:Int)^min (63:Int).toNat IntKind.i64.bits)=9223372036854775808:=by decide
 grind
theorem H8{n:Int}(h:bw n):uD n=some (fr n):=by
 rw[uD,agt h];obtain⟨h1,a⟩:=h;unfold fr;have hs:∀m:Int,mL .u64 m 1=IntKind.u64.wrap (m*2):=by
  intro m;unfold mL;rfl
 rw[hs]
 congr 1
 by_cases h0:0<=n
 . rw[ab h0,ab h0];obtain⟨k,rfl⟩:∃k:Nat,n=(k:Int):=⟨n.toNat,by omega⟩
   rw[h9 (by omega),kA (by omega) (by omega)];have:bW .u64 0=0:=by decide
   rw[this];have:=abf (2*k) (by omega)
   grind
 . rw[ag h0,ag h0];have:bW .u64 (-1)=18446744073709551615:=by decide
   rw[this];obtain⟨k,b⟩:∃k:Nat,n+9223372036854775808=(k:Int):=⟨(n+9223372036854775808).toNat,by omega⟩
   have e:IntKind.u64.wrap (bW .u64 n*2)=((2*k:Nat):Int):=by
    unfold bW;rw[IntKind.wrap_u64,IntKind.wrap_u64];omega
   rw[e,abg _ (by omega)];omega
theorem adR(a b:Int):BW (a,b)=some (if a<b then -1 else if b<a then 1 else 0):=by
 rw[BW];simp only[BP,aV,ak,ec,eb,cN,cv]
 grind
theorem N7(a b:Int):xt (a,b)=some (if a<b then -1 else if b<a then 1 else 0):=by
 rw[xt];simp only[BX,aV,ak,ec,eb,cN,cv]
 grind
theorem adS(a b:List UInt8):Bu (a,b)=some (if Op.bytesLess a b=true then -1 else if(Op.bytesLess a b||decide (a=b))=true then 0 else 1):=by
 rw[Bu];simp only[BY,aV,ak,ec,eb,cN,cv]
 grind
theorem age(a b:Int):CV [a,b]=some (if a≠0 then a else b):=by
 rw[CV];have h0:q0 (0,[a,b],((2:Nat):Int),((0:Nat):Int))=if a≠0 then some (.inl a)else(if b≠0 then some (.inl b)else some (.inr 0)):=by
  rw[q0,ab (by decide),ab (show aB ((0:Nat):Int) ([a,b]:List Int).length=true from aN (k:=0) (n:=2) (by omega))];simp only[aV,ak,aW,s4];by_cases c:a=0
  . rw[ag (by simp[c]),ag (by simp[c])];have az:aM .i64 ((0:Nat):Int) 1=((1:Nat):Int):=bB (by omega);rw[az,q0,ab (by decide),ab (show aB ((1:Nat):Int) ([a,b]:List Int).length=true from aN (k:=1) (n:=2) (by omega))];simp only[aV,ak,aW,List.getD_cons_succ,s4];by_cases d:b=0
    . rw[ag (by simp[d]),ag (by simp[d])];have e:aM .i64 ((1:Nat):Int) 1=((2:Nat):Int):=bB (by omega);rw[e,q0,ag (by decide)]
    grind
  grind
 grind
theorem RJ:∀a:List UInt8,Op.bytesLess a a=false
 |[]=>rfl
 |x::r=>by
  simp[Op.bytesLess,RJ r]
theorem Cp{a b:I}(c:bw a.bq)(d:bw b.bq):∃r,oJ (a,b)=some r/\nI (a,b)=some r:=by
 rw[oJ,nI];by_cases e:a.Kind=b.Kind
 . rw[ag (show ¬((!(decide (a.Kind=b.Kind)))=true) by simp[e]),ag (show ¬((!(decide (a.Kind=b.Kind)))=true) by simp[e])];by_cases aZ:a.Kind=1
   . rw[ab (show decide (a.Kind=1)=true by simp[aZ]),ab (show decide (a.Kind=1)=true by simp[aZ])];simp only[j7];cases fc a.b' b.b'<;>cases b.b'<;>exact⟨_,rfl,rfl⟩
   . rw[ag (show ¬(decide (a.Kind=1)=true) by simp[aZ]),ag (show ¬(decide (a.Kind=1)=true) by simp[aZ])];by_cases ba:a.Kind=2
     . rw[ab (show decide (a.Kind=2)=true by simp[ba]),ab (show decide (a.Kind=2)=true by simp[ba]),H8 c,H8 d,qF c,qF d];simp only[aV,ak,adR,j7];by_cases he:a.bq=b.bq
       . grind
       . have g:fr a.bq≠fr b.bq:=λh=>he (Lf h)
         grind
     . rw[ag (show ¬(decide (a.Kind=2)=true) by simp[ba]),ag (show ¬(decide (a.Kind=2)=true) by simp[ba])];by_cases bE:a.Kind=3
       . rw[ab (show decide (a.Kind=3)=true by simp[bE]),ab (show decide (a.Kind=3)=true by simp[bE])];simp only[aV,ak,N7,adS,age,j7];by_cases ad:a.bA.length=b.bA.length
         . have f:¬((!(decide ((a.bA.length:Int)=(b.bA.length:Int))))=true):=by simp;omega
           rw[ag f,ad];have az:¬((b.bA.length:Int)<(b.bA.length:Int)):=by omega
           simp only[az,cv,ne_eq,not_true_eq_false];by_cases he:a.bA=b.bA
           . rw[he,RJ]
             grind
           grind
         grind
       . rw[ag (show ¬(decide (a.Kind=3)=true) by simp[bE]),ag (show ¬(decide (a.Kind=3)=true) by simp[bE])];by_cases bU:a.Kind=4
         . rw[ab (show decide (a.Kind=4)=true by simp[bU]),ab (show decide (a.Kind=4)=true by simp[bU])];simp only[aV,ak,N7,j7]
           grind
         simp_all
 simp_all
def Kd(a b:Option Bool):Prop:=∃r,a=some r/\b=some r
theorem Gz {b c:Type}(L:Nat->Option (Bool ⊕ b))(L':Nat->Option (Bool ⊕ c))(n:Nat)(p:Nat->Bool)(g:b)(a:c)
 (h:∀i,i<n->L i=if p i=true then L (i+1)else some (.inl false))(he:L n=some (.inr g))
 (e:∀i,i<n->L' i=if p i=true then L' (i+1)else some (.inl false))(f:L' n=some (.inr a)):
 (L 0=some (.inr g)/\L' 0=some (.inr a)/\∀j,j<n->p j=true)\/(L 0=some (.inl false)/\L' 0=some (.inl false)/\∃j,j<n/\p j=false):=by
 rcases scan L n p (.inl false) (.inr g) h he with⟨a1,a2⟩|⟨a1,j,a2,a3⟩<;>rcases scan L' n p (.inl false) (.inr a) e f with⟨b1,b2⟩|⟨b1,k,b2,d⟩
 . exact .inl ⟨a1,b1,a2⟩
 . have:=a2 k b2;rw[d]at this;cases this
 . have:=b2 j a2;rw[a3]at this;cases this
 . exact .inr ⟨a1,b1,j,a2,a3⟩
def jO(k:Int):Prop:=1<=k/\k<=9
theorem X9{v:I}(a:jO v.Kind):∃p,Cl v=some p/\sD v=some p/\(p=true->v.Kind≠5->v.Kind≠6->v.Rest=[]):=by
 obtain⟨K,B,ch,S,af,c,b,R⟩:=v;simp only at a;rw[Cl,I.bj,sD];have:K=1\/K=2\/K=3\/K=4\/K=5\/K=6\/K=7\/K=8\/K=9:=by unfold jO at a;omega
 have d:∀(x:Int),decide (x=x)=true:=λx=>by simp
 rcases this with rfl|rfl|rfl|rfl|rfl|rfl|rfl|rfl|rfl
 all_goals
  refine⟨_,rfl,?_,?_⟩
  . simp[B7,fc]
    try (cases B<;>simp)
  . simp[B7,fc]
section
variable {ts:List ah}(aA:ts.length<9223372036854775807)(cP:∀t,t∈ts->e3 t)(br:∀t,t∈ts->jO t.Kind)
def Fit(ts:List ah)(x:I):Prop:=∀t plain,Kd (jJ ((⟨ts⟩:bh),t,x,plain)) (iB ((⟨ts⟩:bh),t,x,plain))
theorem JG{l:List I}(ad:l.length<=reachBytes)(ih:∀x,x∈l->Fit ts x)(t:Int)(plain:Bool):
 Kd (qW ((⟨ts⟩:bh),t,l,plain)) (nS ((⟨ts⟩:bh),t,l,plain)):=by
 have g:=eg ad
 let p:Nat->Bool:=λi=>(jJ ((⟨ts⟩:bh),t,l.getD i aK,plain)).getD false
 have b:∀i,i<l.length->jJ ((⟨ts⟩:bh),t,l.getD i aK,plain)=some (p i)/\iB ((⟨ts⟩:bh),t,l.getD i aK,plain)=some (p i):=by
  intro i hi;obtain⟨r,h1,f⟩:=ih _ (bo hi aK) t plain
  grind
 have a:=u9 (λi=>qw (l,(l.length:Int),(i:Int),ts,t,plain)) l.length (λi=>!(p i)) (λi=>.inl ((i:Int),ts,t,plain)) (.inr (ts,t,plain))
  (λi hi=>by
   rw[qw,ab (by simp;omega),ab (aN hi),Gp];simp only[I.bj,aW];rw[(b i hi).1,bB (by omega)]
   rfl)
  (by rw[qw,ag (by simp)])
 have hs:=scan (λi=>me (t,l,plain,(i:Int),ts)) l.length p (.inl false) (.inr ())
  (λi hi=>by
   rw[me,ab (by simp;omega),ab (aN hi)];simp only[I.bj,aW];rw[(b i hi).2,bB (by omega)]
   grind)
  (by rw[me,ag (by simp)])
 have az:qw (l,(l.length:Int),((0:Nat):Int),ts,t,plain)=qw (l,(l.length:Int),0,ts,t,plain):=rfl;have d:me (t,l,plain,((0:Nat):Int),ts)=me (t,l,plain,0,ts):=rfl;simp only[az]at a;simp only[d]at hs;rw[qW,A1,Fp,nS];rcases a with⟨j,a1,a2,a3,a4⟩|⟨a1,a4⟩<;>rcases hs with⟨b1,b2⟩|⟨b1,k,b2,c⟩
 . have:=b2 j a1;simp[this]at a2
 . rw[a4,b1];refine⟨false,?_,rfl⟩;have e:decide ((0:Int)<=(j:Int))=true:=by simp
   simp only[aV,ak,e,eb]
 . rw[a4,b1];exact⟨true,rfl,rfl⟩
 . have:=a1 k b2;simp[c]at this
def EJ(t:ah)(l:List cF)(i:Nat):Bool:=
 !((hB (t,(l.getD i b8).af)).getD (0,false)).2&&(decide (1<=(l.getD i b8).af)&&decide ((l.getD i b8).af<=1000))&&(decide (i=0)||decide ((l.getD (i-1) b8).af<(l.getD i b8).af))
theorem abh{k:Type}(fV f b:Bool)(a:Int)(e C:Int->Bool)(X g:Option k)(i:b=true->e a=true):
 ((if(!fV)=true then some f else some false)>>=λj=>some (bif fV then true else(!j))>>=λt131=>some b>>=λt134=>some a>>=λt141=>
  if(e t141||(!((!t131)&&t134)))=true then if(bif t131 then true else bif t134 then C t141 else false)=true then X else g else none)=if(!fV&&f&&(!b || !(C a)))=true then g else X:=by
 simp only[aV,ak];generalize C a=c;cases b with
 |true=>rw[i rfl];cases fV<;>cases f<;>cases c<;>rfl
 |false=>generalize e a=d;cases fV<;>cases f<;>cases d<;>cases c<;>rfl
theorem SD{m:Type}(b g e:Bool)(a:Int)(f C:Int->Bool)(X i:Option m)(j:g=true)(k:e=true->f a=true):
 (some b>>=λl=>some (!l)>>=λt31=>some e>>=λt34=>
  if(g||(!((!t31)&&t34)))=true then some a>>=λt43=>if(f t43||(!((!t31)&&t34)))=true then if(bif t31 then true else bif t34 then C t43 else false)=true then X else i else none else none)=if(b&&(!e || !(C a)))=true then i else X:=by
 subst j;simp only[aV,ak];generalize C a=c;cases e with
 |true=>rw[k rfl];cases b<;>cases c<;>rfl
 |false=>generalize f a=d;cases b<;>cases d<;>cases c<;>rfl
theorem q1{i:Nat}(h:0<i)(a:i<9223372036854775807):c' .i64 (i:Int) 1=((i-1:Nat):Int):=by
 rw[fC (by omega) (by omega)];omega
theorem agl{t:ah}(ht:t.ae.length<9223372036854775807)(v:I)(ad:v.Rest.length<=reachBytes)(plain:Bool)(ts:List ah):
 let inr:=(plain,ts,v.Kind,v.b',v.bq,v.bA,v.af,v.aE,v.al,v.Rest,t.Kind,t.Name,t.bz,t.bx,t.Max,t.a7,t.ae,t.Key,t.aH,t.Open)
 ((kJ (plain,v.Rest,(v.Rest.length:Int),0,ts,v,t.Kind,t.Name,t.bz,t.bx,t.Max,t.a7,t.ae,t.Key,t.aH,t.Open)=some (.inr inr)/\sE (t,v.Rest)=some true)\/
  (kJ (plain,v.Rest,(v.Rest.length:Int),0,ts,v,t.Kind,t.Name,t.bz,t.bx,t.Max,t.a7,t.ae,t.Key,t.aH,t.Open)=some (.inl false)/\sE (t,v.Rest)=some false)):=by
 intro inr;have f:=eg ad;have c:∀i,i<v.Rest.length->∀r,hB (t,(v.Rest.getD i b8).af)=some r->EJ t v.Rest i=(!r.2&&(bif decide (1<=(v.Rest.getD i b8).af)then decide ((v.Rest.getD i b8).af<=1000)else false)&&(!(decide ((0:Int)<(i:Int))) || !(decide ((v.Rest.getD i b8).af<=(v.Rest.getD (c' .i64 (i:Int) 1).toNat b8).af)))):=by
  intro i hi r e;unfold EJ;rw[e,AN];generalize (v.Rest.getD i b8).af=x;by_cases h0:i=0
  . grind
  . have b:decide ((0:Int)<(i:Int))=true:=by simp;omega
    rw[b,q1 (by omega) (by omega),aW]
    grind
 have h:=Gz (λi=>kJ (plain,v.Rest,(v.Rest.length:Int),(i:Int),ts,v,t.Kind,t.Name,t.bz,t.bx,t.Max,t.a7,t.ae,t.Key,t.aH,t.Open)) (λi=>lC (v.Rest,(i:Int),t)) v.Rest.length (EJ t v.Rest) inr ()
  (λi hi=>by
   obtain⟨r,h1,_,_⟩:=oN (t:=t) (v.Rest.getD i b8).af ht;rw[kJ,ab (by simp;omega),ab (aN hi),c i hi r h1];simp only[aW,CC,I.bj,xT,aV,ak];rw[h1,bB (by omega)]
   exact abh r.2 (bif decide (1<=(v.Rest.getD i b8).af)then decide ((v.Rest.getD i b8).af<=1000)else false) (decide ((0:Int)<(i:Int))) (c' .i64 (i:Int) 1) (λj=>aB j v.Rest.length) (λj=>decide ((v.Rest.getD i b8).af<=(v.Rest.getD j.toNat b8).af)) _ _ (λb=>by
    have:0<i:=by simp at b;omega
    show aB _ _=true
    rw[q1 this (by omega)];exact aN (by omega)))
  (by rw[kJ,ag (by simp)])
  (λi hi=>by
   obtain⟨r,h1,a,_⟩:=oN (t:=t) (v.Rest.getD i b8).af ht;rw[lC,ab (by simp;omega),ab (aN hi),c i hi r h1];simp only[aW];rw[a,bB (by omega)];have hid:iX ((v.Rest.getD i b8).af,r.2)=some ((!r.2)&&(bif decide (1<=(v.Rest.getD i b8).af)then decide ((v.Rest.getD i b8).af<=1000)else false)):=by
    rw[iX]
    grind
   show(if aB (i:Int) v.Rest.length=true then iX ((v.Rest.getD i b8).af,r.2)>>=_ else none)=_;rw[ab (aN hi),hid]
   exact SD ((!r.2)&&(bif decide (1<=(v.Rest.getD i b8).af)then decide ((v.Rest.getD i b8).af<=1000)else false)) (aB (i:Int) v.Rest.length) (decide ((0:Int)<(i:Int))) (c' .i64 (i:Int) 1) (λj=>aB j v.Rest.length) (λj=>decide ((v.Rest.getD i b8).af<=(v.Rest.getD j.toNat b8).af)) _ _ (aN hi) (λb=>by
    have:0<i:=by simp at b;omega
    show aB _ _=true
    rw[q1 this (by omega)];exact aN (by omega)))
  (by rw[lC,ag (by simp)])
 have az:kJ (plain,v.Rest,(v.Rest.length:Int),((0:Nat):Int),ts,v,t.Kind,t.Name,t.bz,t.bx,t.Max,t.a7,t.ae,t.Key,t.aH,t.Open)=kJ (plain,v.Rest,(v.Rest.length:Int),0,ts,v,t.Kind,t.Name,t.bz,t.bx,t.Max,t.a7,t.ae,t.Key,t.aH,t.Open):=rfl;have d:lC (v.Rest,((0:Nat):Int),t)=lC (v.Rest,0,t):=rfl
 simp only[az,d]at h;rw[sE];rcases h with⟨h1,a,_⟩|⟨h1,a,_⟩
 . exact .inl ⟨h1,by rw[a];rfl⟩
 . exact .inr ⟨h1,by rw[a];rfl⟩
end
theorem YH{ts:List ah}{t:ah}{v:I}(ad:v.al.length=t.ae.length)(c:t.ae.length<9223372036854775807)(ih:∀x,x∈v.al->Fit ts x)(plain:Bool):
 (oK (plain,t.ae,(t.ae.length:Int),0,ts,v.Kind,v.b',v.bq,v.bA,v.af,v.aE,v.al,v.Rest)=some (.inr ())/\kY (plain,0,ts,v,t.Kind,t.Name,t.bz,t.bx,t.Max,t.a7,t.ae,t.Key,t.aH,t.Open)=some (.inr ()))\/
 (oK (plain,t.ae,(t.ae.length:Int),0,ts,v.Kind,v.b',v.bq,v.bA,v.af,v.aE,v.al,v.Rest)=some (.inl false)/\kY (plain,0,ts,v,t.Kind,t.Name,t.bz,t.bx,t.Max,t.a7,t.ae,t.Key,t.aH,t.Open)=some (.inl false)):=by
 let p:Nat->Bool:=λi=>(jJ (⟨ts⟩,(t.ae.getD i au).av,v.al.getD i aK,plain)).getD false
 have b:∀i,i<t.ae.length->jJ (⟨ts⟩,(t.ae.getD i au).av,v.al.getD i aK,plain)=some (p i)/\iB (⟨ts⟩,(t.ae.getD i au).av,v.al.getD i aK,plain)=some (p i):=by
  intro i hi;obtain⟨r,h1,a⟩:=ih _ (bo (by omega:i<v.al.length) aK) (t.ae.getD i au).av plain
  grind
 have h:=Gz (λi=>oK (plain,t.ae,t.ae.length,i,ts,v.Kind,v.b',v.bq,v.bA,v.af,v.aE,v.al,v.Rest)) (λi=>kY (plain,i,ts,v,t.Kind,t.Name,t.bz,t.bx,t.Max,t.a7,t.ae,t.Key,t.aH,t.Open)) _ p () ()
  (λi hi=>by
   rw[oK,ab (aN hi),ab (aN (by omega))]
   grind[aW,I.bj,bB])
  (by simp_all[oK])
  (λi hi=>by
   rw[kY,ab (aN hi),ab (aN (by omega))]
   grind[aW,I.bj,bB])
  (by simp_all[kY,ag])
 grind
theorem uU{v:I}(h:bS v):bw v.bq:=by cases h with|mk _ _ _ _ _ _ _ _ dy a=>exact a
theorem aaM{ts:List ah}{t:ah}{v:I}(g:v.aE.length<9223372036854775807)(b:∀x,x∈v.aE->bS x)(plain:Bool):
 let inr:=(plain,ts,v,t.Kind,t.Name,t.bz,t.bx,t.Max,t.a7,t.ae,t.Key,t.aH,t.Open)
 (lJ (plain,1,ts,v,t.Kind,t.Name,t.bz,t.bx,t.Max,t.a7,t.ae,t.Key,t.aH,t.Open)=some (.inr inr)/\jk (1,v)=some (.inr ()))\/
 (lJ (plain,1,ts,v,t.Kind,t.Name,t.bz,t.bx,t.Max,t.a7,t.ae,t.Key,t.aH,t.Open)=some (.inl false)/\jk (1,v)=some (.inl false)):=by
 intro inr;by_cases h0:v.aE.length=0
 . left;refine⟨?_,?_⟩
   . rw[lJ,ag (by grind),I.bj]
   simp_all[jk,ag]
 let c:=λi=>(oJ (v.aE.getD i aK,v.aE.getD (i+1) aK)).getD 0
 have f:∀i,i+1<v.aE.length->oJ (v.aE.getD i aK,v.aE.getD (i+1) aK)=some (c i)/\nI (v.aE.getD i aK,v.aE.getD (i+1) aK)=some (c i):=by
  intro i hi;obtain⟨r,h1,d⟩:=Cp (uU (b _ (bo (by omega:i<v.aE.length) aK))) (uU (b _ (bo hi aK)))
  grind
 have h:=Gz (λi=>lJ (plain,((i+1:Nat):Int),ts,v,t.Kind,t.Name,t.bz,t.bx,t.Max,t.a7,t.ae,t.Key,t.aH,t.Open)) (λi=>jk ((i+1:Nat),v)) (v.aE.length-1) (λi=>!(decide (0<=c i))) inr ()
  (λi hi=>by
   have hs:=q1 (i:=i+1) (by simp) (by omega);have a:c' .i64 ((i+1:Nat):Int) 1=(i:Int):=by grind
   rw[lJ];simp only[aV,ak];rw[a,ab (aN (by omega)),ab (aN (by omega))];simp only[aW,I.bj]
   grind[bB])
  (by
   have e:v.aE.length-1+1=v.aE.length:=by omega
   rw[e,lJ,ag (by simp),I.bj])
  (λi hi=>by
   have hs:=q1 (i:=i+1) (by simp) (by omega);have a:c' .i64 ((i+1:Nat):Int) 1=(i:Int):=by grind
   rw[jk];simp only[aV,ak];rw[a,ab (aN (by omega)),ab (aN (by omega))];simp only[aW,I.bj]
   grind[bB])
  (by
   have e:v.aE.length-1+1=v.aE.length:=by omega
   simp_all[jk,ag])
 grind
theorem IP{α c:Type}{a:List α}{b:List c}(h:decide ((a.length:Int)=(b.length:Int))=true):a.length=b.length:=by grind
theorem PV{o:Option (Int×Bool)}{r:Int×Bool}(d:o=some r)(a plain f:Bool):
 (o>>=λb=>some (bif a then(!plain)else false)>>=λt85=>(if((!b.2)&&t85)=true then some f else some false)>>=λc=>some (bif b.2 then true else bif t85 then c else false))=some (r.2||(a && !plain&&f)):=by
 grind
theorem D9{o:Option (Int×Bool)}{r:Int×Bool}(d:o=some r)(b plain f:Bool)(F:Bool->Option Bool)(bP:F false=some f):
 (o>>=λa=>some (bif b then(!plain)else false)>>=λt85=>(if((!a.2)&&t85)=true then F a.2 else some false)>>=λc=>some (bif a.2 then true else bif t85 then c else false))=some (r.2||(b && !plain&&f)):=by
 grind
theorem fK{o:Option Bool}{r:Bool}(b:o=some r)(q:Bool):(some q>>=λt244=>(if t244=true then o else some false)>>=λa=>some (bif t244 then a else false))=some (q&&r):=by grind
theorem D'(c a b f:Bool){X:Option Bool}(e:c=true->X=some f)(h1:c=true->a=true/\b=true):(some c>>=λt188=>if(a||(!t188))=true then if(b||(!t188))=true then(if t188=true then X else some false)>>=λd=>some (bif t188 then d else false)else none else none)=some (c&&f):=by grind
theorem afP(A b q m:Bool){ro:Option Bool}(d:ro=some q){L:Option (Bool ⊕ Unit)}(c:A=true->L=some (if m=true then .inr ()else .inl false)):
 (if(bif (bif false then true else(!true))then true else b)=true then some false else some (!A)>>=λt107=>(if(!t107)=true then ro else some false)>>=λa=>if(bif t107 then true else(!a))=true then some false else L>>=λo=>match o with|.inl x=>some x|.inr _=>some true)=some (A && !b&&q&&m):=by
 grind
theorem Ea(g f c1 c2 ch E:Bool)(h1:c2=true->ch=true):(some g>>=λt209=>(if t209=true then some f else some false)>>=λa=>some (bif bif bif t209 then a else false then c1 else false then c2 else false)>>=λt226=>if(ch||(!t226))=true then some (bif t226 then E else false)else none)=some (g&&f&&c1&&c2&&E):=by grind
theorem PW(c:Bool){ok a:Option Bool}{k i:Bool}(d:ok=some k)(hi:a=some i){L:Option (Bool ⊕ Unit)}{q:Bool}(b:L=some (if q=true then .inr ()else .inl false)):
 (some c>>=λt239=>(if(!t239)=true then ok else some false)>>=λg=>some (bif t239 then true else(!g))>>=λt249=>(if(!t249)=true then a else some false)>>=λj=>if(bif t249 then true else(!j))=true then some false else L>>=λe=>match e with|.inl f=>some f|.inr _=>some true)=some (!c&&k&&q&&i):=by
 subst d;subst hi;subst b;cases c<;>cases k<;>cases q<;>cases i<;>rfl
theorem aaN{ts:List ah}(aA:ts.length<9223372036854775807)(cP:∀t,t∈ts->e3 t)(br:∀t,t∈ts->jO t.Kind){v:I}(ax:bS v):Fit ts v:=by
 induction ax with
 |mk v hs h1 Q T ak hi aL dy aP aQ aR ay P=>
  intro t plain;rw[jJ,iB];by_cases F:(bif decide (t<0)then true else decide (((⟨ts⟩:bh).Types.length:Int)<=t))=true
  . rw[ab F,ab F];exact⟨false,rfl,rfl⟩
  . rw[ag F,ag F];have aJ:0<=t/\t<ts.length:=by grind
    obtain⟨j,rfl⟩:∃j:Nat,t=(j:Int):=⟨t.toNat,by omega⟩
    have C:j<ts.length:=by omega
    rw[ab (aN C),ab (aN C)];simp only[aW,I.bj];have O:=cP _ (bo C ar);have G:=br _ (bo C ar);generalize ts.getD j ar=x at O G⊢;have D:=eg (iC O.gW);have X:=eg (iC O.syms);by_cases y:v.Kind=x.Kind
    . obtain⟨p,az,aC,aD⟩:=X9 (v:=v) (by rw[y];exact G);rw[az,aC];cases p with
      |false=>exact⟨false,by simp[y],by simp[y]⟩
      |true=>
       have J:=JG (ts:=ts) Q P;have al:=JG (ts:=ts) h1 ay;obtain⟨K,N,L,H,M,S,d,l,E,e⟩:=x;obtain⟨u,B,ch,n,af,g,c,R⟩:=v;simp only at y;subst y;have w:=aD rfl;simp only at w G D X h1 Q T;have aj:u=1\/u=2\/u=3\/u=4\/u=5\/u=6\/u=7\/u=8\/u=9:=by unfold jO at G;omega
       rcases aj with rfl|rfl|rfl|rfl|rfl|rfl|rfl|rfl|rfl
       . obtain rfl:R=[]:=w (by decide) (by decide);cases plain<;>exact⟨true,rfl,rfl⟩
       . obtain rfl:R=[]:=w (by decide) (by decide);cases plain<;>exact⟨_,rfl,rfl⟩
       . obtain rfl:R=[]:=w (by decide) (by decide);cases plain<;>exact⟨_,rfl,rfl⟩
       . obtain rfl:R=[]:=w (by decide) (by decide);obtain⟨r,o,s,_⟩:=yz (t:=⟨4,N,L,H,M,S,d,l,E,e⟩) af X;have A:iX (af,false)=some (bif decide (1<=af)then decide (af<=1000)else false):=by rfl
         cases plain
         . exact⟨_,PV o e false _,D9 s e false _ (λb=>iX (af,b)) A⟩
         . exact⟨_,PV o e true _,D9 s e true _ (λb=>iX (af,b)) A⟩
       ·
        have aM:=agl (t:=⟨5,N,L,H,M,S,d,l,E,e⟩) D ⟨5,B,ch,n,af,g,c,R⟩ T plain ts;have aq:decide ((c.length:Int)=(d.length:Int))=true->_:=λz=>YH (ts:=ts) (t:=⟨5,N,L,H,M,S,d,l,E,e⟩) (v:=⟨5,B,ch,n,af,g,c,R⟩) (IP z) D P plain
        have aw:∃q:Bool,kJ (plain,R,(R.length:Int),0,ts,⟨5,B,ch,n,af,g,c,R⟩,5,N,L,H,M,S,d,l,E,e)=some (if q=true then .inr (plain,ts,5,B,ch,n,af,g,c,R,5,N,L,H,M,S,d,l,E,e)else .inl false)/\sE (⟨5,N,L,H,M,S,d,l,E,e⟩,R)=some q:=by grind
        obtain⟨q,aS,aE⟩:=aw;have ao:∃m:Bool,decide ((c.length:Int)=(d.length:Int))=true->(oK (plain,d,(d.length:Int),0,ts,5,B,ch,n,af,g,c,R)=some (if m=true then .inr ()else .inl false)/\kY (plain,0,ts,⟨5,B,ch,n,af,g,c,R⟩,5,N,L,H,M,S,d,l,E,e)=some (if m=true then .inr ()else .inl false)):=by
         cases z:decide ((c.length:Int)=(d.length:Int))with
         |false=>exact⟨true,λh=>by cases h⟩
         |true=>
          rcases aq z with⟨a,b⟩|⟨a,b⟩
          . simp_all
          simp_all
        obtain⟨m,an⟩:=ao;refine⟨(decide ((c.length:Int)=(d.length:Int))) && !(bif plain then decide (0<(R.length:Int))else false)&&q&&m,?_,?_⟩
        . show(if(bif (!(decide ((c.length:Int)=(d.length:Int))))then true else bif plain then decide (0<(R.length:Int))else false)=true then some false else kJ (plain,R,(R.length:Int),0,ts,⟨5,B,ch,n,af,g,c,R⟩,5,N,L,H,M,S,d,l,E,e)>>=_)=_
          grind
        . exact afP (decide ((c.length:Int)=(d.length:Int))) (bif plain then decide (0<(R.length:Int))else false) q m aE (λz=>(an z).2)
       ·
        obtain⟨r,o,s,A⟩:=oN (t:=⟨6,N,L,H,M,S,d,l,E,e⟩) af D;have hid:∀b,b=false->iX (af,b)=some (bif decide (1<=af)then decide (af<=1000)else false):=by
         intro b ai;subst ai;rfl
        have ae:∃f:Bool,(bif decide ((c.length:Int)=1)then decide ((R.length:Int)=0)else false)=true->(jJ ((⟨ts⟩:bh),(d.getD r.1.toNat au).av,c.getD (0:Int).toNat aK,plain)=some f/\iB ((⟨ts⟩:bh),(d.getD r.1.toNat au).av,c.getD (0:Int).toNat aK,plain)=some f):=by
         by_cases aa:c.length=1
         . obtain⟨f,f1,f2⟩:=P (c.getD 0 aK) (bo (by omega:0<c.length) aK) (d.getD r.1.toNat au).av plain
           grind
         grind
        obtain⟨f,V⟩:=ae;have W:r.2=true->(bif decide ((c.length:Int)=1)then decide ((R.length:Int)=0)else false)=true->aB r.1 d.length=true/\aB 0 c.length=true:=by
         intro ad aI;constructor
         . rcases A with⟨k,aZ,_,_,rfl⟩|⟨_,rfl⟩
           . exact aN aZ
           . cases ad
         . by_cases aa:c.length=1
           . exact aN (k:=0) (by omega)
           grind
        have U:decide ((R.length:Int)=1)=true->aB 0 R.length=true:=by
         intro h;have:=fm h;exact aN (k:=0) (by omega)
        obtain⟨Z,e2⟩:=r;refine⟨if e2=true then(bif decide ((c.length:Int)=1)then decide ((R.length:Int)=0)else false)&&f else(bif e then(!plain)else false)&&(bif decide (1<=af)then decide (af<=1000)else false)&&decide ((c.length:Int)=0)&&decide ((R.length:Int)=1)&&decide ((R.getD (0:Int).toNat b8).af=af),?_,?_⟩
        . show(hB (⟨6,N,L,H,M,S,d,l,E,e⟩,af)>>=_)=_;rw[o];cases e2 with
          |true=>exact D' _ (aB Z d.length) (aB 0 c.length) f (λh=>(V h).1) (W rfl)
          |false=>exact Ea (bif e then(!plain)else false) (bif decide (1<=af)then decide (af<=1000)else false) (decide ((c.length:Int)=0)) (decide ((R.length:Int)=1)) (aB 0 R.length) (decide ((R.getD (0:Int).toNat b8).af=af)) U
        . show(if(bif (bif false then true else(!true))then true else(bif plain then decide (0<(R.length:Int))else false))=true then some false else mC (⟨6,N,L,H,M,S,d,l,E,e⟩,af)>>=_)=_;rw[s];cases aH:(bif plain then decide (0<(R.length:Int))else false)with
          |true=>
           have ap:plain=true:=by grind
           subst ap;have aG:decide ((R.length:Int)=0)=false:=by grind
           grind
          |false=>
           cases e2 with
           |true=>exact D' _ (aB Z d.length) (aB 0 c.length) f (λh=>(V h).2) (W rfl)
           |false=>exact Ea (bif e then(!plain)else false) (bif decide (1<=af)then decide (af<=1000)else false) (decide ((c.length:Int)=0)) (decide ((R.length:Int)=1)) (aB 0 R.length) (decide ((R.getD (0:Int).toNat b8).af=af)) U
       . obtain rfl:R=[]:=w (by decide) (by decide);obtain⟨r,o,s⟩:=J E plain;cases plain
         . exact⟨_,fK o _,fK s _⟩
         . exact⟨_,fK o _,fK s _⟩
       . obtain rfl:R=[]:=w (by decide) (by decide);obtain⟨k,aZ,ba⟩:=al l plain;obtain⟨i,aO,i2⟩:=J E plain;have am:=aaM (ts:=ts) (t:=⟨8,N,L,H,M,S,d,l,E,e⟩) (v:=⟨8,B,ch,n,af,g,c,[]⟩) (eg h1) ak plain
         obtain⟨q,aT,Y⟩:∃q:Bool,lJ (plain,1,ts,⟨8,B,ch,n,af,g,c,[]⟩,8,N,L,H,M,S,d,l,E,e)=some (if q=true then .inr (plain,ts,⟨8,B,ch,n,af,g,c,[]⟩,8,N,L,H,M,S,d,l,E,e)else .inl false)/\jk (1,⟨8,B,ch,n,af,g,c,[]⟩)=some (if q=true then .inr ()else .inl false):=by
          rcases am with⟨a,b⟩|⟨a,b⟩
          . simp_all
          simp_all
         refine⟨!(bif decide (M<(g.length:Int))then true else(!(decide ((c.length:Int)=(g.length:Int)))))&&k&&q&&i,?_,?_⟩
         . show(some (bif decide (M<(g.length:Int))then true else(!(decide ((c.length:Int)=(g.length:Int)))))>>=λt270=>(if(!t270)=true then qW ((⟨ts⟩:bh),l,g,plain)else some false)>>=λaF=>if(bif t270 then true else(!aF))=true then some false else lJ (plain,1,ts,⟨8,B,ch,n,af,g,c,[]⟩,8,N,L,H,M,S,d,l,E,e)>>=_)=_
           grind
         . cases plain
           . exact PW (bif decide (M<(g.length:Int))then true else(!(decide ((c.length:Int)=(g.length:Int))))) ba i2 Y
           . exact PW (bif decide (M<(g.length:Int))then true else(!(decide ((c.length:Int)=(g.length:Int))))) ba i2 Y
       . obtain rfl:R=[]:=w (by decide) (by decide);obtain⟨r,o,s⟩:=J E plain;cases plain
         . exact⟨_,fK o _,fK s _⟩
         . exact⟨_,fK o _,fK s _⟩
    . exact⟨false,by simp[y],by simp[y]⟩
theorem vi{U:cK}{t:aD}{l:List (t.den U.D)}(h:WF U ⟨.slice t,l⟩):l.length<=reachBytes/\l.length*t.bytes U<=reachBytes/\∀x,x∈l->∀c,c∈t.row U x->WF U c:=by cases h with|slice t l h1 a b=>exact⟨h1,a,b⟩
theorem YI(s:bh):(⟨s.Types⟩:bh)=s:=by cases s;rfl
def eV(n:Nat):List UInt8:=if n=0 then[]else eV (n/256)++[UInt8.ofNat (n%256)]
termination_by n
decreasing_by omega
theorem Kz{α:Type}:∀(l:List α) (k:Nat) (x:α),k<l.length->(l.set k x).drop k=x::l.drop (k+1)
 |[],k,x,h=>by simp at h
 |a::l,0,x,h=>by simp
 |a::l,k+1,x,h=>by simp[Kz l k x (by simpa using h)]
theorem agv(n:Nat):lh .u64 (n:Int) 8=((n/256:Nat):Int):=by
 unfold lh;have:((2:Int)^min (8:Int).toNat IntKind.u64.bits)=256:=by decide
 grind
theorem Ni:∀(i n:Nat) (b:List Int),n<256^i->i<=8->b.length=8->∃(c:Nat) (a:List Int),r6 ((n:Int),(i:Int),b)=some ((c:Int),a)/\c<=8/\a.length=8/\strOf (a.drop c)=eV n++strOf (b.drop i)
 |i,n,b,aA,hi,d=>by
  rw[r6];by_cases h0:n=0
  . subst h0;rw[ag (by simp)];refine⟨i,b,rfl,hi,d,?_⟩;rw[eV,ab rfl];rfl
  . rw[ab (by simp;omega)]
    match i,aA,hi with
    |0,aA,hi=>simp at aA;omega
    |i+1,aA,hi=>
     have hs:c' .i64 ((i+1:Nat):Int) 1=(i:Int):=by rw[fC (by omega) (by omega)];omega
     simp only[aV,ak];rw[hs,ab (aN (by omega)),ab (by simp[d];omega),agv,vQ,aW];have aI:n/256<256^i:=by omega
     obtain⟨c,a,h1,e,f,g⟩:=Ni i (n/256) (b.set i ((n%256:Nat):Int)) aI (by omega) (by simp[d]);refine⟨c,a,h1,e,f,?_⟩;rw[g,Kz _ _ _ (by omega),Y3]
     conv=>rhs;rw[eV,ag h0]
     grind
theorem Nj{n:Nat}(aA:n<18446744073709551616):xU (n:Int)=some (eV n):=by
 have e:(256:Nat)^8=18446744073709551616:=by decide
 obtain⟨c,d,h1,k,a,g⟩:=Ni 8 n [0,0,0,0,0,0,0,0] (by rw[e];exact aA) (by omega) rfl;have f:r6 ((n:Int),8,[0,0,0,0,0,0,0,0])=some ((c:Int),d):=h1;rw[xU,f];simp only[aV,ak,aW];have j:ed (c:Int) 8 8=true:=jM (b:=8) (by omega) (by omega);have i:(8:Int).toNat=8:=rfl
 rw[ab j,i,ab (by simp[vJ,a];omega)];rw[pF (by simp[a]),g];simp[strOf]
theorem vj:∀(f n:Nat),n<256^f->(eV n).length<=f
 |0,n,h=>by
  have:n=0:=by simpa using h
  subst this;rw[eV,ab rfl];simp
 |f+1,n,h=>by
  rw[eV];split
  . simp
  . have:=vj f (n/256) (by omega);simp;omega
theorem JH:∀(f n:Nat) (out:List UInt8),n<256^f->n<18446744073709551616->out.length+f<=1000->ur ((n:Int),out)=some (eV n++out)
 |f,n,out,aA,i,a=>by
  rw[ur];by_cases h0:n=0
  . subst h0;rw[ag (by simp),eV,ab rfl];rfl
  . rw[ab (by simp;omega)]
    match f,aA,a with
    |0,aA,a=>simp at aA;omega
    |f+1,aA,a=>
     have g:cg (n:Int) 256=((n%256:Nat):Int):=EH (b:=256);have d:fY .u64 (n:Int) 256=((n/256:Nat):Int):=by
      unfold fY;have e:(n:Int).tdiv 256=((n/256:Nat):Int):=by rw[Int.tdiv_eq_ediv_of_nonneg (by omega)];omega
      rw[e];exact kA (by omega) (by omega)
     have c:strOf [((n%256%256:Nat):Int)]=[UInt8.ofNat (n%256)]:=by
      have:n%256%256=n%256:=by omega
      rw[this];rfl
     simp only[aV,ak];rw[g,d,vQ,c,ab (eY (by simp;omega))];have aI:n/256<256^f:=by omega
     rw[JH f (n/256) _ aI (by omega) (by simp;omega)]
     conv=>rhs;rw[eV,ag h0]
     grind
theorem CZ{n:Nat}(aA:n<18446744073709551616):oH (n:Int)=some (eV n):=by
 have e:(256:Nat)^8=18446744073709551616:=by decide
 rw[oH,JH 8 n [] (by rw[e];exact aA) aA (by simp)];simp
end
section
open Go Go.Proofs.YtfcnkdegapjgnaaGreatDoor.Shv Go.Sort
set_option maxRecDepth 100000
section
variable {α:Type}
theorem KA{a c:Type}{f g:a->List c}:∀{l:List a},(∀x,x∈l->f x=g x)->l.flatMap f=l.flatMap g
 |[],_=>rfl
 |x::l,h=>by
  simp;rw[h x (.head _),KA λy b=>h y (.tail _ b)]
theorem IQ(x:α)(n:Nat)(f:Nat->List α):∀(ks:List Nat),ks.Nodup->n∈ks->(ks.flatMap λi=>if n=i then x::f i else f i).Perm (x::ks.flatMap f)
 |[],_,h=>by grind
 |k::ks,aA,h=>by
  rw[List.nodup_cons]at aA;simp;by_cases e:n=k
  . have:(ks.flatMap λi=>if n=i then x::f i else f i)=ks.flatMap f:=KA λy b=>by grind
    simp_all
  . rw[ag e];have a:=(fF.1 h).resolve_left e;refine((IQ x n f ks aA.2 a).append_left _).trans ?_;simp
theorem IS(key:α->Nat)(ks:List Nat)(aA:ks.Nodup):∀l:List α,(∀x,x∈l->key x∈ks)->(ks.flatMap λi=>l.filter λx=>decide (key x=i)).Perm l
 |[],_=>by simp
 |x::l,h=>by
  have e:(λi=>(x::l).filter λy=>decide (key y=i))=λi=>if key x=i then x::(l.filter λy=>decide (key y=i))else l.filter λy=>decide (key y=i):=by grind
  rw[e];exact(IQ x _ _ ks aA (h x (.head _))).trans ((IS _ ks aA l λy a=>h y (.tail _ a)).cons x)
theorem Yp(key:α->Nat)(a n:Nat)(l:List α):((List.range' a n).flatMap λi=>l.filter λx=>decide (key x=i)).Pairwise (λx y=>decide (key y<key x)=false):=by
 rw[List.pairwise_flatMap]
 grind[List.pairwise_iff_forall_sublist,List.pairwise_lt_range']
theorem JI{α:Type}[Inhabited α]{lt:α->α->Bool}:∀{l:List α},l.Pairwise (λx y=>lt x y=true\/lt y x=true)->kR lt l=true
 |[],_=>rfl
 |x::l,h=>by
  rw[jU]at h;simp[kR];exact⟨h.1,JI h.2⟩
end
mutual
def wt:I->Nat
 |⟨_,_,_,s,_,ks,a,r⟩=>10+s.length+(r.map λx=>x.Data.length+1).sum+dN ks+dN a
def dN:List I->Nat
 |[]=>0
 |v::l=>wt v+dN l
end
structure Fd where
 id:Nat
 c:Bool
 p:List UInt8
instance:Inhabited Fd:=⟨⟨0,false,[]⟩⟩
def jT(a b:Fd):Bool:=decide (a.id<b.id)
def Fd.text(f:Fd):List UInt8:=eZ f.id f.c f.p
def fU:List (List UInt8)->List (List UInt8)->List UInt8
 |k::ks,v::vs=>dB k++(dB v++fU ks vs)
 |_,_=>[]
def cV(l:List aO)(id:Int):Option aO:=l.find? λm=>decide (m.af=id)
open Classical in
noncomputable def dz (m:aO)(v:I):Bool:=m.bD&&decide (m.bk=v)
def mI(r:cF):Fd:=⟨r.af.toNat,false,r.Data⟩
mutual
noncomputable def bY (ts:List ah)(t:Int):I->List UInt8
 |⟨_,b,i,s,id,ks,a,r⟩=>
  let x:=ts.getD t.toNat ar
  if x.Kind=1 then(if b=true then[1]else[])
  else if x.Kind=2 then eV (fr i).toNat
  else if x.Kind=3 then s
  else if x.Kind=4 then eV id.toNat
  else if x.Kind=5 then(nV jT (dk ts x.ae a++r.map mI)).flatMap Fd.text
  else if x.Kind=6 then ei id.toNat++(match cV x.ae id with
   |some m=>(b4 ts m.av a).headD []
   |none=>(r.map cF.Data).headD [])
  else if x.Kind=7 then(b4 ts x.aH a).flatMap dB
  else if x.Kind=8 then fU (b4 ts x.Key ks) (b4 ts x.aH a)
  else match b4 ts x.aH a with
   |[]=>[]
   |p::_=>1::p
noncomputable def b4 (ts:List ah)(t:Int):List I->List (List UInt8)
 |[]=>[]
 |v::l=>bY ts t v::b4 ts t l
noncomputable def dk (ts:List ah):List aO->List I->List Fd
 |m::ms,v::l=>if dz m v=true then dk ts ms l else⟨m.af.toNat,m.bQ,bY ts m.av v⟩::dk ts ms l
 |_,_=>[]
end
mutual
noncomputable def g' (ts:List ah)(t:Int):I->Nat
 |⟨_,_,_,_,id,ks,a,_⟩=>
  let x:=ts.getD t.toNat ar
  1+max (if ks=[]then 0 else 1) (if x.Kind=5 then kz ts x.ae a
   else if x.Kind=6 then(match cV x.ae id with
    |some m=>iS ts m.av a
    |none=>0)
   else iS ts x.aH a)
noncomputable def iS (ts:List ah)(t:Int):List I->Nat
 |[]=>0
 |v::l=>max (g' ts t v) (iS ts t l)
noncomputable def kz (ts:List ah):List aO->List I->Nat
 |m::ms,v::l=>if dz m v=true then kz ts ms l else max (g' ts m.av v) (kz ts ms l)
 |_,_=>0
end
def cO(n:Int):Prop:=1<=n/\n<=1000
def mw(ms:List aO)(r:List cF):Prop:=r.Pairwise (λa b=>a.af<b.af)/\∀x,x∈r->cO x.af/\cV ms x.af=none
def gZ(a b:I):Int:=(oJ (a,b)).getD 0
def il(ks:List I):Prop:=∀i,i+1<ks.length->gZ (ks.getD i aK) (ks.getD (i+1) aK)<0
mutual
def cI(ts:List ah)(pl:Bool)(t:Int):I->Prop
 |⟨k,b,i,s,id,ks,a,r⟩=>
  let x:=ts.getD t.toNat ar
  (0<=t/\t<ts.length/\k=x.Kind/\(pl=true->r=[]))/\
  (k=1/\i=0/\s=[]/\id=0/\ks=[]/\a=[]/\r=[]\/
  k=2/\b=false/\s=[]/\id=0/\ks=[]/\a=[]/\r=[]/\x.bz<=i/\i<=x.bx\/
  k=3/\b=false/\i=0/\id=0/\ks=[]/\a=[]/\r=[]/\(s.length:Int)<=x.Max\/
  k=4/\b=false/\i=0/\s=[]/\ks=[]/\a=[]/\r=[]/\((∃y,y∈x.a7/\y.af=id)\/x.Open=true/\pl=false/\cO id)\/
  k=5/\b=false/\i=0/\s=[]/\id=0/\ks=[]/\mw x.ae r/\h8 ts pl x.ae a\/
  k=6/\b=false/\i=0/\s=[]/\ks=[]/\(match cV x.ae id with
   |some m=>r=[]/\a.length=1/\eN ts pl m.av a
   |none=>x.Open=true/\pl=false/\cO id/\a=[]/\∃d,r=[⟨id,d⟩])\/
  k=7/\b=false/\i=0/\s=[]/\id=0/\ks=[]/\r=[]/\(a.length:Int)<=x.Max/\eN ts pl x.aH a\/
  k=8/\b=false/\i=0/\s=[]/\id=0/\r=[]/\(ks.length:Int)<=x.Max/\a.length=ks.length/\eN ts pl x.Key ks/\eN ts pl x.aH a/\il ks\/
  k=9/\b=false/\i=0/\s=[]/\id=0/\ks=[]/\r=[]/\a.length<=1/\eN ts pl x.aH a)
def eN(ts:List ah)(pl:Bool)(t:Int):List I->Prop
 |[]=>True
 |v::l=>cI ts pl t v/\eN ts pl t l
def h8(ts:List ah)(pl:Bool):List aO->List I->Prop
 |m::ms,v::l=>cI ts pl m.av v/\h8 ts pl ms l
 |[],[]=>True
 |_,_=>False
end
theorem hR(v:I):wt v=10+v.bA.length+(v.Rest.map λx=>x.Data.length+1).sum+dN v.aE+dN v.al:=by cases v;rfl
theorem iE(v:I)(l:List I):dN (v::l)=wt v+dN l:=by rfl
theorem hj:dN []=0:=by rfl
theorem iH:∀{l:List I} {x:I},x∈l->wt x<=dN l
 |y::l,x,h=>by
  rw[iE];rcases fF.1 h with rfl|h
  . simp
  . have:=iH h;omega
theorem IT{p:List UInt8}(h:p.length<1152921504606846976):(dB p).length<=p.length+10:=by
 grind[jK,dB]
theorem KB{f:Fd}(h:f.p.length<1152921504606846976)(hi:f.id<=9223372036854775807):f.text.length<=f.p.length+20:=by
 grind[IT,jK,Fd.text,eZ]
theorem Gc{α c:Type}{f:α->List c}{a b:List α}(h:a.Perm b):(a.flatMap f).length=(b.flatMap f).length:=(h.flatMap_right f).length_eq
theorem y2{n:Int}(h:bw n):(fr n).toNat<18446744073709551616:=by
 grind[fr,bw]
section
variable {ts:List ah}
def zR(ts:List ah)(v:I):Prop:=∀t,(bY ts t v).length+20<=21*wt v
theorem GA:∀{l:List I} {t:Int},dN l<=1099511627776->(∀x,x∈l->zR ts x)->((b4 ts t l).flatMap dB).length<=21*dN l
 |[],t,_,_=>by grind[b4]
 |v::l,t,a,h=>by
  rw[b4];rw[iE]at a⊢;have h1:=h v (.head _) t;have c:=GA (t:=t) (by omega) λx b=>h x (.tail _ b)
  grind[IT]
theorem kK:∀{l:List I} {t:Int},(b4 ts t l).length=l.length
 |[],t=>by rfl
 |v::l,t=>by rw[b4,jv,jv,kK]
theorem q2:∀{l:List I} {t:Int},b4 ts t l=l.map (bY ts t)
 |[],t=>by rfl
 |v::l,t=>by rw[b4,List.map,q2]
theorem CK:∀(a b:List (List UInt8)),(fU a b).length<=(a.flatMap dB).length+(b.flatMap dB).length
 |[],b=>by simp[fU]
 |k::ks,[]=>by simp[fU]
 |k::ks,v::vs=>by
  have:=CK ks vs;simp only[fU,kl,dP];omega
theorem JJ:∀{ms:List aO} {l:List I},dN l<=1099511627776->(∀m,m∈ms->m.af<=1000)->(∀x,x∈l->zR ts x)->((dk ts ms l).flatMap Fd.text).length<=21*dN l
 |[],l,_,_,_=>by grind[dk]
 |m::ms,[],_,_,_=>by grind[dk]
 |m::ms,v::l,c,b,h=>by
  rw[iE]at c⊢;rw[dk];have h1:=h v (.head _) m.av;have d:=JJ (by omega) (λx a=>b x (.tail _ a)) λx a=>h x (.tail _ a)
  grind[KB]
theorem KC:∀{l:List cF},(∀x,x∈l->x.Data.length<=reachBytes/\x.af<=9223372036854775807)->True->((l.map mI).flatMap Fd.text).length<=21*(l.map λx=>x.Data.length+1).sum
 |[],_,_=>by simp
 |r::l,h,_=>by
  have h1:=h r (.head _);have c:=KC (λx b=>h x (.tail _ b)) trivial;unfold reachBytes at h1;have a:=KB (f:=mI r) (by show r.Data.length<_;omega) (by show r.af.toNat<=_;omega);have d:(mI r).text.length<=r.Data.length+20:=a
  grind
def NV(ts:List ah):Prop:=∀x,x∈ts->∀m,m∈x.ae->m.af<=1000
theorem X'{α:Type}(l:List α)(i:Nat)(d:α):l.getD i d∈l\/l.getD i d=d:=by grind
theorem JK{l:List (List UInt8)}{n:Nat}(h:∀x,x∈l->x.length<=n):(l.headD []).length<=n:=by
 cases l<;>grind
theorem Lg:∀{l:List Nat} {n:Nat},n∈l->n<=l.sum
 |a::l,n,h=>by
  rw[sW];rcases fF.1 h with rfl|h
  . simp
  . have:=Lg h;omega
theorem abi(f:NV ts){v:I}(h:bS v):wt v<=1099511627776->zR ts v:=by
 induction h with
 |mk v hs h1 A B D hi j dy o H q l k=>
  intro E t;have F:=hR v;have e:∀x,x∈v.aE->zR ts x:=λx a=>l x a (by have:=iH a;omega)
  have d:=λx a=>k x a (by have:=iH a;omega)
  have y:=λt=>GA (t:=t) (by omega) e
  have oc:=λt=>GA (t:=t) (by omega) d
  have a:∀m,m∈(ts.getD t.toNat ar).ae->m.af<=1000:=by
   rcases X' ts t.toNat ar with h|h
   . exact f _ h
   . rw[h];intro m g;cases g
  have z:=λt=>by
   have:((b4 ts t v.al).headD []).length<=21*dN v.al:=JK λp c=>by
    rw[q2]at c;obtain⟨x,a,rfl⟩:=hM.1 c;have:=d x a t;have:=iH a;omega
   omega
  have fy:=KC (λx a=>⟨j x a,(q x a).2⟩) trivial;have w:=JJ (by omega) a d;have u:((v.Rest.map cF.Data).headD []).length<=(v.Rest.map λx=>x.Data.length+1).sum:=JK λp c=>by
   obtain⟨x,a,rfl⟩:=hM.1 c;have:x.Data.length+1<=(v.Rest.map λx=>x.Data.length+1).sum:=Lg (hM.2 ⟨x,a,rfl⟩);omega
  obtain⟨K,b,i,s,id,ks,n,r⟩:=v;simp only at*;rw[bY];have G:=vj 8 _ (y2 o);have hid:id.toNat<18446744073709551616:=by omega
  have C:=vj 8 _ hid;have c:=jK hid;generalize ts.getD t.toNat ar=x at*;split
  . grind
  . split
    . omega
    . split
      . omega
      . split
        . omega
        . split
          . rw[Gc (qZ _ _),yq,dP];omega
          . split
            . grind
            . split
              . grind
              . split
                . have:=CK (b4 ts x.Key ks) (b4 ts x.aH n)
                  grind
                grind
end
theorem acL(v:I):10<=wt v:=by grind[hR]
section
variable {ts:List ah}
theorem u':∀{ms:List aO} {l:List I} {x:Fd},x∈dk ts ms l->∃m,m∈ms/\x.id=m.af.toNat
 |[],l,x,h=>by
  grind[dk]
 |m::ms,[],x,h=>by
  grind[dk]
 |m::ms,v::l,x,h=>by
  rw[dk]at h;split at h
  . obtain⟨b,h1,a⟩:=u' h
    grind
  . rcases fF.1 h with rfl|h
    . simp
    . obtain⟨b,h1,a⟩:=u' h
      grind
theorem IU{ms:List aO}{l:List I}{n:Nat}(h:∀m,m∈ms->m.af.toNat≠n):((dk ts ms l).filter λx=>decide (x.id=n))=[]:=by
 grind[List.filter_eq_nil_iff,u']
theorem S7:∀{ms:List aO} {l:List I} {n j:Nat},ms.Pairwise (λa b=>a.af.toNat≠b.af.toNat)->l.length=ms.length->j<ms.length->(ms.getD j au).af.toNat=n->
 ((dk ts ms l).filter λx=>decide (x.id=n))=if dz (ms.getD j au) (l.getD j aK)=true then[]else[⟨n,(ms.getD j au).bQ,bY ts (ms.getD j au).av (l.getD j aK)⟩]
 |[],l,n,j,_,_,d,_=>by grind
 |m::ms,[],n,j,_,ad,_,_=>by grind
 |m::ms,v::l,n,0,c,ad,d,he=>by
  rw[jU]at c;have aA:=IU (ts:=ts) (l:=l) (ms:=ms) (n:=n) λx f=>by grind
  grind[dk]
 |m::ms,v::l,n,j+1,c,ad,d,he=>by
  rw[jU]at c;have e:j<ms.length:=by grind
  have ih:=S7 c.2 (by simpa using ad) e he
  grind[dk]
theorem Ya(l:List cF)(n:Nat)(h:∀x,x∈l->0<=x.af):((l.map mI).filter λx=>decide (x.id=n))=(l.filter λx=>decide (x.af=(n:Int))).map mI:=by
 rw[List.filter_map]
 congr 1
 apply List.filter_congr;intro x a;show decide (x.af.toNat=n)=_
 grind
noncomputable def ke (ts:List ah)(ms:List aO)(l:List I)(r:List cF):List Fd:=dk ts ms l++r.map mI
def hU(ms:List aO):Prop:=ms.Pairwise (λa b=>a.af<b.af)/\∀m,m∈ms->cO m.af
theorem Lh{ms:List aO}(h:hU ms):ms.Pairwise (λa b=>a.af.toNat≠b.af.toNat):=by
 refine h.1.imp_of_mem λ{a b} d c aI=>?_
 have:=h.2 b c
 grind[cO]
theorem GB:∀{ms:List aO} {l:List I},ms.Pairwise (λa b=>a.af.toNat≠b.af.toNat)->(dk ts ms l).Pairwise (λa b=>a.id≠b.id)
 |[],l,_=>by
  simp_all[dk]
 |m::ms,[],_=>by
  simp_all[dk]
 |m::ms,v::l,h=>by
  rw[jU]at h;rw[dk];split
  . exact GB h.2
  . rw[jU];refine⟨λx c=>?_,GB h.2⟩
    grind[u']
theorem si{ms:List aO}{id:Int}(h:cV ms id=none):∀m,m∈ms->m.af≠id:=by
 grind[cV]
theorem Gd{ms:List aO}{l:List I}{r:List cF}(h:hU ms)(c:mw ms r):kR jT (ke ts ms l r)=true:=by
 apply JI;have key:(ke ts ms l r).Pairwise (λa b=>a.id≠b.id):=by
  unfold ke;rw[Es];refine⟨GB (Lh h),?_,?_⟩
  . rw[q6];refine c.1.imp_of_mem λ{a b} k e aI=>?_
    have:=(c.2 b e).1;show a.af.toNat≠b.af.toNat
    grind[cO]
  . intro x f y g;obtain⟨m,h1,i⟩:=u' f;obtain⟨q,d,rfl⟩:=hM.1 g;have j:=si (c.2 q d).2 m h1;have:=(c.2 q d).1;show x.id≠q.af.toNat
    grind[cO]
 grind[jT]
theorem Tg{ms:List aO}{l:List I}{r:List cF}(h:hU ms)(c:mw ms r){x:Fd}(a:x∈ke ts ms l r):1<=x.id/\x.id<=1000:=by
 rcases fX.1 a with a|a
 . obtain⟨m,h1,d⟩:=u' a;have:=h.2 m h1
   grind[cO]
 . obtain⟨q,b,rfl⟩:=hM.1 a;have:=(c.2 q b).1;unfold cO at*;show 1<=q.af.toNat/\q.af.toNat<=1000;omega
theorem Li:SWO jT:=by refine⟨λx=>?_,λx y z h1 a=>?_,λx y z h1 a=>?_⟩<;>simp[jT]at*<;>omega
theorem W9{l:List Fd}(a:kR jT l=true)(b:∀x,x∈l->1<=x.id/\x.id<=1000):
 nV jT l=(List.range' 1 1000).flatMap λn=>l.filter λx=>decide (x.id=n):=by
 refine Sw a (qZ _ _) (IS _ _ List.nodup_range' l λx c=>?_) (BS Li l) (Yp _ 1 _ l)
 grind
end
section
variable {ts:List ah}{pl:Bool}
theorem dR:∀{l:List I} {t:Int},eN ts pl t l↔∀x,x∈l->cI ts pl t x
 |[],t=>by grind[eN]
 |v::l,t=>by
  rw[eN,dR];simp
theorem kb:∀{ms:List aO} {l:List I},h8 ts pl ms l↔l.length=ms.length/\∀i,i<ms.length->cI ts pl (ms.getD i au).av (l.getD i aK)
 |[],[]=>by
  grind[h8]
 |[],v::l=>by
  grind[h8]
 |m::ms,[]=>by
  grind[h8]
 |m::ms,v::l=>by
  rw[h8,kb];constructor
  . grind
  . rintro ⟨h1,a⟩
    exact⟨a 0 (by simp),by grind,λi hi=>a (i+1) (by grind)⟩
end
def dq(o:Option Bool)(P:Prop):Prop:=∃r,o=some r/\(r=true↔P)
theorem dq.imp{o:Option Bool}{P Q:Prop}(h:dq o P)(e:P↔Q):dq o Q:=by grind
theorem dq.of{b:Bool}{P:Prop}(e:b=true↔P):dq (some b) P:=⟨b,rfl,e⟩
theorem dq.loop{L:Nat->Option (Bool ⊕ Unit)}{n:Nat}{p:Nat->Bool}{g:Unit}{o:Option (Bool ⊕ Unit)}(h0:o=L 0)(e:∀i,i<n->L i=if p i=true then L (i+1)else some (.inl false))(c:L n=some (.inr g)):
 dq (o>>=λo=>match o with|.inl x=>some x|.inr _=>some true) (∀i,i<n->p i=true):=by
 subst h0;rcases scan L n p _ _ e c with⟨h1,a⟩|⟨h1,j,a,f⟩
 . rw[h1];exact⟨true,rfl,by grind⟩
 . rw[h1];refine⟨false,rfl,?_⟩
   grind
theorem CL{α:Type}(f:α->Int)(d:α):∀l:List α,l.Pairwise (λa b=>f a<f b)↔∀i,i+1<l.length->f (l.getD i d)<f (l.getD (i+1) d)
 |[]=>by simp
 |[a]=>by simp
 |a::b::l=>by
  rw[jU,CL f d _];constructor
  . rintro ⟨h1,c⟩ i hi
    cases i<;>simp_all
  . intro h;have c:∀i,i+1<(b::l).length->f ((b::l).getD i d)<f ((b::l).getD _ d):=λi hi=>h (i+1) (by simpa using hi)
    have h0:=h 0 (by simp);have e:=(CL f d _).2 c;rw[jU]at e
    grind
section
variable {ts:List ah}
def DA(ts:List ah)(x:I):Prop:=∀t pl,dq (iB ((⟨ts⟩:bh),t,x,pl)) (cI ts pl t x)
theorem KD{l:List I}(ad:l.length<=reachBytes)(ih:∀x,x∈l->DA ts x)(t:Int)(pl:Bool):dq (nS ((⟨ts⟩:bh),t,l,pl)) (eN ts pl t l):=by
 have c:=eg ad
 let p:Nat->Bool:=λi=>(iB (⟨ts⟩,t,l.getD i aK,pl)).getD false
 have a:∀i,i<l.length->iB (⟨ts⟩,t,l.getD i aK,pl)=some (p i)/\(p i=true↔cI ts pl t (l.getD i aK)):=by
  intro i hi;obtain⟨r,h1,b⟩:=ih _ (bo hi aK) t pl
  grind
 rw[nS];refine(dq.loop (L:=λi=>me (t,l,pl,(i:Int),ts)) (n:=l.length) (p:=p) (g:=()) rfl (λi hi=>?_) ?_).imp ?_
 . rw[me,ab (by simp;omega),ab (aN hi)];simp only[I.bj,aW];rw[(a i hi).1,bB (by omega)]
   grind
 . simp_all[me,ag]
 grind[dR,List.getElem_of_mem]
theorem yA{l:List aO}{id:Int}{r:Int×Bool}(h:sT l id r):(r.2=true/\∃j:Nat,j<l.length/\r.1=(j:Int)/\cV l id=some (l.getD j au)/\(l.getD j au).af=id)\/(r.2=false/\cV l id=none):=by
 rcases h with⟨j,h1,a,b,rfl⟩|⟨h1,rfl⟩
 . refine .inl ⟨rfl,j,h1,rfl,?_,a⟩;unfold cV;rw[Ek];refine⟨by grind,j,h1,(gb h1 _).symm,λk c=>?_⟩
   grind
 grind[cV,List.getElem_of_mem]
theorem aaO{t:ah}(ht:t.ae.length<9223372036854775807){l:List cF}(ad:l.length<=reachBytes):dq (sE (t,l)) (mw t.ae l):=by
 have k:=eg ad
 let p:Nat->Bool:=λi=>!((hB (t,(l.getD i b8).af)).getD (0,false)).2&&(bif decide (1<=(l.getD i b8).af)then decide ((l.getD i b8).af<=1000)else false)&&(!(decide ((0:Int)<(i:Int))) || !(decide ((l.getD i b8).af<=(l.getD (c' .i64 (i:Int) 1).toNat b8).af)))
 refine(dq.loop (L:=λi=>lC (l,(i:Int),t)) (n:=l.length) (p:=p) (g:=()) rfl (λi hi=>?_) ?_).imp ?_
 . obtain⟨r,h1,b,_⟩:=oN (t:=t) (l.getD i b8).af ht;have c:p i=(!r.2&&(bif decide (1<=(l.getD i b8).af)then decide ((l.getD i b8).af<=1000)else false)&&(!(decide ((0:Int)<(i:Int))) || !(decide ((l.getD i b8).af<=(l.getD (c' .i64 (i:Int) 1).toNat b8).af)))):=by grind
   rw[c,lC,ab (by grind),ab (aN hi)];simp only[aW];rw[b,bB (by omega)];have hid:iX ((l.getD i b8).af,r.2)=some ((!r.2)&&(bif decide (1<=(l.getD i b8).af)then decide ((l.getD i b8).af<=1000)else false)):=by
    grind[iX]
   show(if aB (i:Int) l.length=true then iX _>>=_ else none)=_;rw[ab (aN hi),hid]
   exact SD _ _ _ _ _ _ _ _ (aN hi) (λd=>by
    grind[q1,aN])
 . simp_all[lC,ag]
 . unfold mw;rw[CL (λa:cF=>a.af) b8];have key:∀i,i<l.length->(p i=true↔(cO (l.getD i b8).af/\cV t.ae (l.getD i b8).af=none)/\(i=0\/(l.getD (i-1) b8).af<(l.getD i b8).af)):=by
    intro i hi;obtain⟨r,h1,b,j⟩:=oN (t:=t) (l.getD i b8).af ht;have c:p i=(!r.2&&(bif decide (1<=(l.getD i b8).af)then decide ((l.getD i b8).af<=1000)else false)&&(!(decide ((0:Int)<(i:Int))) || !(decide ((l.getD i b8).af<=(l.getD (c' .i64 (i:Int) 1).toNat b8).af)))):=by grind
    rw[c];have aA:r.2=false↔cV t.ae (l.getD i b8).af=none:=by
     grind[yA]
    unfold cO;by_cases h0:i=0
    . grind
    . have d:decide ((0:Int)<(i:Int))=true:=by grind
      rw[d,q1 (by omega) (by omega),aW]
      grind
   constructor
   . intro h;refine⟨λi hi=>?_,λx f=>?_⟩
     . grind
     . obtain⟨i,hi,rfl⟩:=jd f;simp_all
   . rintro ⟨h1,b⟩ i hi
     refine(key i hi).2 ⟨b _ (bo hi b8),?_⟩;by_cases h0:i=0
     . omega
     . have e:i-1+1=i:=by omega
       grind
theorem Z1{t:ah}{v:I}(ad:v.al.length=t.ae.length)(d:t.ae.length<9223372036854775807)(ih:∀x,x∈v.al->DA ts x)(pl:Bool):
 dq (kY (pl,0,ts,v,t.Kind,t.Name,t.bz,t.bx,t.Max,t.a7,t.ae,t.Key,t.aH,t.Open)>>=λo=>match o with|.inl a=>some a|.inr _=>some true) (h8 ts pl t.ae v.al):=by
 let p:=λi=>(iB (⟨ts⟩,(t.ae.getD i au).av,v.al.getD i aK,pl)).getD false
 have c:∀i,i<t.ae.length->iB (⟨ts⟩,(t.ae.getD i au).av,v.al.getD i aK,pl)=some (p i)/\(p i=true↔cI ts pl (t.ae.getD i au).av (v.al.getD i aK)):=by
  intro i hi;obtain⟨r,h1,b⟩:=ih _ (bo (by omega:i<v.al.length) aK) (t.ae.getD i au).av pl
  grind
 refine(dq.loop (L:=λi=>kY (pl,(i:Int),ts,v,t.Kind,t.Name,t.bz,t.bx,t.Max,t.a7,t.ae,t.Key,t.aH,t.Open)) (n:=t.ae.length) (p:=p) (g:=()) rfl (λi hi=>?_) ?_).imp ?_
 . rw[kY,ab (aN hi),ab (aN (by omega))]
   grind[aW,I.bj,bB]
 . simp_all[kY]
 grind[kb]
theorem aaP{v:I}(j:v.aE.length<9223372036854775807)(a:∀x,x∈v.aE->bS x):
 dq (jk (1,v)>>=λd=>match d with|.inl f=>some f|.inr _=>some true) (il v.aE):=by
 by_cases h0:v.aE.length=0
 . rw[jk,ag (by grind)];refine⟨true,rfl,?_⟩;simp_all[il,true_iff]
 refine(dq.loop (L:=λi=>jk ((i+1:Nat),v)) (n:=v.aE.length-1) (p:=λi=>!(decide (0<=gZ (v.aE.getD i aK) (v.aE.getD (i+1) aK)))) (g:=()) rfl (λi hi=>?_) ?_).imp ?_
 . have b:c' .i64 (i+1:Nat) 1=i:=by rw[q1 (by simp) (by omega)];rfl
   obtain⟨r,c1,c2⟩:=Cp (uU (a _ (bo (by omega:i<v.aE.length) aK))) (uU (a _ (bo (by omega:i+1<v.aE.length) aK)));have c:gZ (v.aE.getD i aK) (v.aE.getD (i+1) aK)=r:=by grind[gZ]
   rw[c,jk];simp only[aV,ak];rw[b,ab (aN (by omega)),ab (aN (by omega))];simp only[aW,I.bj];rw[c2,bB (by omega)]
   grind
 . have e:v.aE.length-1+1=v.aE.length:=by omega
   simp_all[jk,ag]
 grind[il]
theorem e4(pl:Bool)(t:Int)(v:I):cI ts pl t v↔
 (0<=t/\t<ts.length/\v.Kind=(ts.getD t.toNat ar).Kind/\(pl=true->v.Rest=[]))/\
 (v.Kind=1/\v.bq=0/\v.bA=[]/\v.af=0/\v.aE=[]/\v.al=[]/\v.Rest=[]\/
 v.Kind=2/\v.b'=false/\v.bA=[]/\v.af=0/\v.aE=[]/\v.al=[]/\v.Rest=[]/\(ts.getD t.toNat ar).bz<=v.bq/\v.bq<=(ts.getD t.toNat ar).bx\/
 v.Kind=3/\v.b'=false/\v.bq=0/\v.af=0/\v.aE=[]/\v.al=[]/\v.Rest=[]/\(v.bA.length:Int)<=(ts.getD t.toNat ar).Max\/
 v.Kind=4/\v.b'=false/\v.bq=0/\v.bA=[]/\v.aE=[]/\v.al=[]/\v.Rest=[]/\((∃y,y∈(ts.getD t.toNat ar).a7/\y.af=v.af)\/(ts.getD t.toNat ar).Open=true/\pl=false/\cO v.af)\/
 v.Kind=5/\v.b'=false/\v.bq=0/\v.bA=[]/\v.af=0/\v.aE=[]/\mw (ts.getD t.toNat ar).ae v.Rest/\h8 ts pl (ts.getD t.toNat ar).ae v.al\/
 v.Kind=6/\v.b'=false/\v.bq=0/\v.bA=[]/\v.aE=[]/\(match cV (ts.getD t.toNat ar).ae v.af with
  |some m=>v.Rest=[]/\v.al.length=1/\eN ts pl m.av v.al
  |none=>(ts.getD t.toNat ar).Open=true/\pl=false/\cO v.af/\v.al=[]/\∃d,v.Rest=[⟨v.af,d⟩])\/
 v.Kind=7/\v.b'=false/\v.bq=0/\v.bA=[]/\v.af=0/\v.aE=[]/\v.Rest=[]/\(v.al.length:Int)<=(ts.getD t.toNat ar).Max/\eN ts pl (ts.getD t.toNat ar).aH v.al\/
 v.Kind=8/\v.b'=false/\v.bq=0/\v.bA=[]/\v.af=0/\v.Rest=[]/\(v.aE.length:Int)<=(ts.getD t.toNat ar).Max/\v.al.length=v.aE.length/\eN ts pl (ts.getD t.toNat ar).Key v.aE/\eN ts pl (ts.getD t.toNat ar).aH v.al/\il v.aE\/
 v.Kind=9/\v.b'=false/\v.bq=0/\v.bA=[]/\v.af=0/\v.aE=[]/\v.Rest=[]/\v.al.length<=1/\eN ts pl (ts.getD t.toNat ar).aH v.al):=by
 cases v;rfl
end
def lx(v:I):Prop:=(v.Kind=1\/v.b'=false)/\(v.Kind=2\/v.bq=0)/\(v.Kind=3\/v.bA=[])/\((v.Kind=4\/v.Kind=6)\/v.af=0)/\(v.Kind=8\/v.aE=[])/\(5<=v.Kind\/v.al=[])/\((v.Kind=5\/v.Kind=6)\/v.Rest=[])
theorem aaQ(v:I):dq (sD v) (lx v):=by
 rw[sD];refine .of ?_;unfold lx;have e:∀{α:Type} (l:List α),((l.length:Int)=0)↔l=[]:=λl=>by simp_all
 grind
theorem adU{z b:Bool}{o:Option Bool}{P c Q:Prop}(d:z=true↔c)(a:b=false↔Q)(e:dq o P):dq (if(bif (bif false then true else(!z))then true else b)=true then some false else o) (c/\Q/\P):=by
 obtain⟨r,rfl,h⟩:=e;cases z with
 |false=>
  refine⟨false,rfl,?_⟩
  grind
 |true=>
  cases b with
  |true=>refine⟨false,rfl,?_⟩;simp at a;simp[a]
  |false=>refine⟨r,rfl,?_⟩;simp at d a;simp[d,a,h]
theorem tH{q:Bool}{o:Option Bool}{P Q:Prop}(c:q=true↔Q)(a:dq o P):dq (some q>>=λt244=>(if t244=true then o else some false)>>=λb=>some (bif t244 then b else false)) (Q/\P):=by
 obtain⟨r,rfl,h⟩:=a;refine⟨q&&r,by cases q<;>cases r<;>rfl,?_⟩
 grind
theorem adM{A:Bool}{ro L:Option Bool}{c e d:Prop}(a:A=true↔c)(i:dq ro e)(f:A=true->dq L d):
 dq (some (!A)>>=λt107=>(if(!t107)=true then ro else some false)>>=λj=>if(bif t107 then true else(!j))=true then some false else L) (c/\e/\d):=by
 obtain⟨q,rfl,b⟩:=i;cases A with
 |false=>refine⟨false,rfl,?_⟩;simp at a;simp[a]
 |true=>
  obtain⟨m,rfl,g⟩:=f rfl;cases q with
  |false=>refine⟨false,rfl,?_⟩;simp at b;simp[b]
  |true=>refine⟨m,rfl,?_⟩;simp at a b;simp[a,b,g]
theorem adN{c:Bool}{ok f L:Option Bool}{b d oc e:Prop}(j:c=false↔b)(a:dq ok d)(hi:dq f oc)(g:dq L e):
 dq (some c>>=λt239=>(if(!t239)=true then ok else some false)>>=λm=>some (bif t239 then true else(!m))>>=λt249=>(if(!t249)=true then f else some false)>>=λn=>if(bif t249 then true else(!n))=true then some false else L) (b/\d/\oc/\e):=by
 obtain⟨k,rfl,a⟩:=a;obtain⟨i,rfl,hi⟩:=hi;obtain⟨q,rfl,l⟩:=g;rw[<-j,<-a,<-hi,<-l];cases c<;>cases k<;>cases i<;>exact⟨_,rfl,by simp⟩
theorem FL{l:List dc}{id:Int}{r:Int×Bool}(h:u5 l id r):r.2=true↔∃y,y∈l/\y.af=id:=by
 rcases h with⟨j,h1,b,c,rfl⟩|⟨h1,rfl⟩
 . grind
 . constructor
   . grind
   . rintro ⟨y,a,he⟩
     obtain⟨i,hi,rfl⟩:=jd a
     grind
section
variable {ts:List ah}(aA:ts.length<9223372036854775807)(cP:∀t,t∈ts->e3 t)(br:∀t,t∈ts->jO t.Kind)
include aA cP br in
theorem KE{v:I}(az:bS v):DA ts v:=by
 induction az with
 |mk v hs h1 aa ad aw hi aF dy aG aH aI aC X=>
  intro t pl;rw[iB];by_cases ae:(bif decide (t<0)then true else decide (((⟨ts⟩:bh).Types.length:Int)<=t))=true
  . rw[ab ae];refine⟨false,rfl,?_⟩;rw[e4]
    grind
  . rw[ag ae];have aq:0<=t/\t<ts.length:=by grind
    obtain⟨j,rfl⟩:∃j:Nat,t=(j:Int):=⟨t.toNat,by omega⟩
    have T:j<ts.length:=by omega
    rw[ab (aN T)];simp only[e4,aW,I.bj];have V:=cP _ (bo T ar);have U:=br _ (bo T ar);generalize ts.getD j ar=x at V U⊢;have F:=eg (iC V.gW);have ah:=eg (iC V.syms);by_cases D:v.Kind=x.Kind
    . obtain⟨z,z1,z2⟩:=aaQ v;have Q:=KD (ts:=ts) aa X;have ax:=KD (ts:=ts) h1 aC;show dq ((if(!(!(decide (v.Kind=x.Kind))))=true then sD v else some false)>>=_) _;rw[ab (by simp[D]),z1];obtain⟨K,N,L,H,M,S,l,w,E,n⟩:=x;obtain⟨p,B,ch,C,af,s,i,R⟩:=v;simp only at D;subst D;simp only at U F ah h1 aa ad z1
      have J:(bif pl then decide (0<(R.length:Int))else false)=false↔(pl=true->R=[]):=by simp_all
      have ao:p=1\/p=2\/p=3\/p=4\/p=5\/p=6\/p=7\/p=8\/p=9:=by unfold jO at U;omega
      have cut:∀ {o:Option Bool} {P W:Prop},dq o P->((lx ⟨p,B,ch,C,af,s,i,R⟩/\(pl = true->R = [])/\P) ↔ W)->
       dq (some z>>=λr=>if(bif (bif false then true else(!r))then true else bif pl then decide (0<(R.length:Int))else false)=true then some false else o) W:=λay aA=>(adU z2 J ay).imp aA
      have u:(0:Int)<=j/\(j:Int)<ts.length:=aq;rcases ao with rfl|rfl|rfl|rfl|rfl|rfl|rfl|rfl|rfl
      . exact cut (P:=True) (.of (b:=true) (by simp)) (by unfold lx;simp[u];grind)
      . exact cut (P:=L<=ch/\ch<=H) (.of (b:=bif decide (L<=ch)then decide (ch<=H)else false) (by by_cases g:L<=ch<;>simp[g])) (by unfold lx;simp[u];grind)
      . exact cut (P:=(C.length:Int)<=M) (.of (b:=decide ((C.length:Int)<=M)) (by simp)) (by unfold lx;simp[u];grind)
      . obtain⟨r,_,Y,O⟩:=yz (t:=⟨4,N,L,H,M,S,l,w,E,n⟩) af ah;have hid:iX (af,false)=some (bif decide (1<=af)then decide (af<=1000)else false):=by rfl
        have ak:=D9 Y n pl _ (λb=>iX (af,b)) hid;have hs:=FL O;simp only at hs;refine cut (P:=(∃y,y∈S/\y.af=af)\/n=true/\pl=false/\cO af) ⟨_,ak,?_⟩ (by unfold lx;simp[u];grind);rw[<-hs];unfold cO
        grind
      . refine cut (P:=i.length=l.length/\mw l R/\h8 ts pl l i) ?_ (by
         have:h8 ts pl l i->i.length=l.length:=λh=>(kb.1 h).1
         unfold lx;simp[u];grind)
        exact adM (A:=decide ((i.length:Int)=(l.length:Int))) (by simp;omega) (aaO (t:=⟨5,N,L,H,M,S,l,w,E,n⟩) F ad) (λal=>Z1 (ts:=ts) (t:=⟨5,N,L,H,M,S,l,w,E,n⟩) (v:=⟨5,B,ch,C,af,s,i,R⟩) (IP al) F X pl)
      . obtain⟨r,_,Y,O⟩:=oN (t:=⟨6,N,L,H,M,S,l,w,E,n⟩) af F;have hid:∀b,b=false->iX (af,b)=some (bif decide (1<=af)then decide (af<=1000)else false):=by
         intro b J;subst J;rfl
        have am:decide ((R.length:Int)=1)=true->aB 0 R.length=true:=by
         intro h;have:=fm h;exact aN (k:=0) (by omega)
        refine cut (P:=match cV l af with
         |some m=>R=[]/\i.length=1/\eN ts pl m.av i
         |none=>n=true/\pl=false/\cO af/\i=[]/\∃d,R=[⟨af,d⟩]) ?_ (by
          unfold lx;simp[u]
          grind)
        obtain⟨aJ,e2⟩:=r;show dq (mC (⟨6,N,L,H,M,S,l,w,E,n⟩,af)>>=_) _;rw[Y];rcases yA O with⟨e,k,aZ,ba,bE,bU⟩|⟨e,bE⟩
        . simp only at e aZ ba bE bU;subst e;subst ba;rw[bE];have an:∃f:Bool,((bif decide ((i.length:Int)=1)then decide ((R.length:Int)=0)else false)=true->iB ((⟨ts⟩:bh),(l.getD (k:Int).toNat au).av,i.getD (0:Int).toNat aK,pl)=some f)/\(i.length=1->(f=true↔eN ts pl (l.getD k au).av i)):=by
           by_cases G:i.length=1
           . obtain⟨f,f1,f2⟩:=X (i.getD 0 aK) (bo (by omega:0<i.length) aK) (l.getD k au).av pl;refine⟨f,λ_=>f1,λ_=>?_⟩;rw[f2]
             match i,G with
             |[y],_=>rw[dR];simp
           . refine⟨false,λh=>?_,λh=>absurd h G⟩
             grind
          obtain⟨f,f1,f2⟩:=an;have ap:(bif decide ((i.length:Int)=1)then decide ((R.length:Int)=0)else false)=true->aB (k:Int) l.length=true/\aB 0 i.length=true:=by
           intro aE;refine⟨aN aZ,?_⟩;by_cases G:i.length=1
           . exact aN (k:=0) (by omega)
           grind
          refine⟨_,D' _ (aB (k:Int) l.length) (aB 0 i.length) f f1 ap,?_⟩;by_cases Z:i.length=1
          . simp_all
          grind
        . simp only at e bE;subst e;rw[bE];refine⟨_,Ea (bif n then(!pl)else false) (bif decide (1<=af)then decide (af<=1000)else false) (decide ((i.length:Int)=0)) (decide ((R.length:Int)=1)) (aB 0 R.length) (decide ((R.getD (0:Int).toNat b8).af=af)) am,?_⟩;unfold cO
          match R with
          |[]=>simp
          |[⟨aD,rd⟩]=>cases n<;>cases pl<;>by_cases Z:1<=af<;>by_cases ai:af<=1000<;>cases i<;>by_cases aj:aD=af<;>simp[Z,ai,aj]<;>omega
          |a::b::c=>simp;omega
      . exact cut (P:=(i.length:Int)<=M/\eN ts pl E i) (tH (by simp) (Q E pl)) (by unfold lx;simp[u];grind)
      . refine cut (P:=((s.length:Int)<=M/\i.length=s.length)/\eN ts pl w s/\eN ts pl E i/\il s) ?_ (by unfold lx;simp[u];grind);refine adN (c:=bif decide (M<(s.length:Int))then true else(!(decide ((i.length:Int)=(s.length:Int))))) ?_ (ax w pl) (Q E pl) (aaP (v:=⟨8,B,ch,C,af,s,i,R⟩) (eg h1) aw)
        grind
      . exact cut (P:=i.length<=1/\eN ts pl E i) (tH (q:=decide ((i.length:Int)<=1)) (by simp;omega) (Q E pl)) (by unfold lx;simp[u];grind)
    . refine⟨false,by simp[D],?_⟩
      grind
end
theorem gG{α:Type}{l:List α}{i:Nat}(h:i<l.length)(d:α):l.drop i=l.getD i d::l.drop (i+1):=by simp_all
theorem ab6{m:aO}{v:I}(a:bS v)(c:m.bD=true):jG (v,m.bk)=some (dz m v):=by
 obtain⟨r,h1,b⟩:=y9 a m.bk;rw[h1];unfold dz
 grind
section
variable {ts:List ah}
theorem abj(t:Int)(v:I):1<=g' ts t v:=by
 cases v;rw[g'];omega
end
structure oe (ts:List ah):Prop where
 n:ts.length<=1000
 T:∀t,t∈ts->e3 t
 K:∀t,t∈ts->jO t.Kind
 M:NV ts
 A:∀x,x∈ts->(x.Kind=5\/x.Kind=6)->hU x.ae/\x.ae.length<=16
 S:∀x,x∈ts->x.Kind=4->∀y,y∈x.a7->cO y.af
 tz:∀x,x∈ts->x.Kind=8->1<=(ts.getD x.Key.toNat ar).Kind/\(ts.getD x.Key.toNat ar).Kind<=4
section
variable {ts:List ah}
theorem zv{t:Int}{v:I}(h:(ts.getD t.toNat ar).Kind=1):bY ts t v=if v.b'=true then[1]else[]:=by cases v;rw[bY];simp only[h];rfl
theorem zw{t:Int}{v:I}(h:(ts.getD t.toNat ar).Kind=2):bY ts t v=eV (fr v.bq).toNat:=by cases v;rw[bY];simp only[h];rfl
theorem zx{t:Int}{v:I}(h:(ts.getD t.toNat ar).Kind=3):bY ts t v=v.bA:=by cases v;rw[bY];simp only[h];rfl
theorem zy{t:Int}{v:I}(h:(ts.getD t.toNat ar).Kind=4):bY ts t v=eV v.af.toNat:=by cases v;rw[bY];simp only[h];rfl
theorem Dd{t:Int}{v:I}(h:(ts.getD t.toNat ar).Kind=5):bY ts t v=(nV jT (ke ts (ts.getD t.toNat ar).ae v.al v.Rest)).flatMap Fd.text:=by cases v;rw[bY];simp only[h];rfl
theorem td{t:Int}{v:I}(h:(ts.getD t.toNat ar).Kind=6):bY ts t v=ei v.af.toNat++(match cV (ts.getD t.toNat ar).ae v.af with
 |some m=>(b4 ts m.av v.al).headD []
 |none=>(v.Rest.map cF.Data).headD []):=by
 cases v;rw[bY];simp only[h];rfl
theorem tf{t:Int}{v:I}(h:(ts.getD t.toNat ar).Kind=7):bY ts t v=(b4 ts (ts.getD t.toNat ar).aH v.al).flatMap dB:=by cases v;rw[bY];simp only[h];rfl
theorem tg{t:Int}{v:I}(h:(ts.getD t.toNat ar).Kind=8):bY ts t v=fU (b4 ts (ts.getD t.toNat ar).Key v.aE) (b4 ts (ts.getD t.toNat ar).aH v.al):=by cases v;rw[bY];simp only[h];rfl
theorem rh{t:Int}{v:I}(h:(ts.getD t.toNat ar).Kind=9):bY ts t v=match b4 ts (ts.getD t.toNat ar).aH v.al with
 |[]=>[]
 |p::_=>1::p:=by
 cases v;rw[bY];simp only[h];rfl
theorem qD(t:Int)(v:I):g' ts t v=1+max (if v.aE=[]then 0 else 1) (if(ts.getD t.toNat ar).Kind=5 then kz ts (ts.getD t.toNat ar).ae v.al
 else if(ts.getD t.toNat ar).Kind=6 then(match cV (ts.getD t.toNat ar).ae v.af with
  |some m=>iS ts m.av v.al
  |none=>0)
 else iS ts (ts.getD t.toNat ar).aH v.al):=by
 cases v;rw[g'];try rfl
theorem GC{t:Int}{v:I}(b:v.aE=[])(hi:v.al=[]):g' ts t v=1:=by
 rw[qD,b,hi];have h1:iS ts (ts.getD t.toNat ar).aH []=0:=by rw[iS]
 have a:kz ts (ts.getD t.toNat ar).ae []=0:=by rw[kz];intros;simp_all
 rw[h1,a]
 have c:(match cV (ts.getD t.toNat ar).ae v.af with
  |some m=>iS ts m.av []
  |none=>0)=0:=by
  split
  . rw[iS]
  . rfl
 grind
end
section
variable {ts:List ah}(H:oe ts)
theorem Hx(H:oe ts){v:I}(a:bS v)(b:wt v<=1099511627776)(t:Int):(bY ts t v).length<=23089744183296:=by
 have:=abi H.M a b t;omega
end
section
variable {ts:List ah}
def lu(ts:List ah)(x:I)(t:Int):Prop:=lD ((⟨ts⟩:bh),t,x)=some (bY ts t x)
theorem KF{x:ah}{v:I}(b:∀y,y∈v.al->(bY ts x.aH y).length<=1000000000000000)(d:∀y,y∈v.al->lu ts y x.aH)(ad:v.al.length<=reachBytes):
 ∀(k i:Nat) (acc:List UInt8),i+k=v.al.length->acc.length+((b4 ts x.aH (v.al.drop i)).flatMap dB).length<=70368744177664->
 rV (acc,(i:Int),ts,v,x)=some (acc++(b4 ts x.aH (v.al.drop i)).flatMap dB)
 |0,i,acc,hi,a=>by
  rw[rV,ag (by simp;omega),gy (by omega:v.al.length<=i),b4];simp
 |k+1,i,acc,hi,a=>by
  have aI:i<v.al.length:=by omega
  have f:=eg ad;have c:v.al.getD i aK∈v.al:=bo aI aK;rw[gG aI aK,b4,kl,dP]at a;have e:=b _ c;have e0:=d _ c;unfold lu at e0;rw[rV,ab (by simp;omega),ab (aN aI)];simp only[aV,ak,aW,I.bj];rw[e0];simp only[ak];rw[BZ (by omega)];simp only[ak]
  rw[ab (eY (by omega)),bB (by omega),KF b d ad k (i+1) _ (by omega) (by rw[dP];omega),gG aI aK,b4,kl,jV]
theorem Lj {x:ah}{v:I}(m:v.al.length=v.aE.length)(d:∀y,y∈v.al->(bY ts x.aH y).length<=1000000000000000)(e:∀y,y∈v.aE->(bY ts x.Key y).length<=1000000000000000)
 (j:∀y,y∈v.al->lu ts y x.aH)(l:∀y,y∈v.aE->lu ts y x.Key)(ad:v.al.length<=reachBytes):
 ∀(k i:Nat) (acc:List UInt8),i+k=v.al.length->acc.length+(fU (b4 ts x.Key (v.aE.drop i)) (b4 ts x.aH (v.al.drop i))).length<=70368744177664->
 rW (acc,(i:Int),ts,v,x)=some (acc++fU (b4 ts x.Key (v.aE.drop i)) (b4 ts x.aH (v.al.drop i)))
 |0,i,acc,hi,c=>by
  rw[rW,ag (by simp;omega),gy (by omega:v.al.length<=i),gy (by omega:v.aE.length<=i),b4,b4,fU]
  . simp
  grind
 |k+1,i,acc,hi,c=>by
  have aI:i<v.al.length:=by omega
  have a:i<v.aE.length:=by omega
  have p:=eg ad;have f:v.al.getD i aK∈v.al:=bo aI aK;have g:v.aE.getD i aK∈v.aE:=bo a aK;rw[gG aI aK,gG a aK,b4,b4,fU,dP,dP]at c;have n:=d _ f;have o:=e _ g;have e0:=j _ f;have b:=l _ g;unfold lu at e0 b;rw[rW,ab (by simp;omega),ab (aN a)]
  simp only[aV,ak,aW,I.bj];rw[b];simp only[ak];rw[BZ (by omega)];simp only[ak];rw[ab (eY (by omega)),ab (aN aI),e0];simp only[ak];rw[BZ (by omega)];simp only[ak]
  rw[ab (eY (by rw[dP];omega)),bB (by omega),Lj m d e j l ad k (i+1) _ (by omega) (by rw[dP,dP];omega),gG aI aK,gG a aK,b4,b4,fU,jV,jV]
def kS(R:List cF)(n:Nat):List Fd:=(R.filter λx=>decide (x.af=(n:Int))).map mI
theorem Z2{a:cF}{l:List cF}{n:Nat}(h:a.af=(n:Int)):kS (a::l) n=mI a::kS l n:=by unfold kS;rw[AP,ab (by rw[h];simp),je]
theorem aaR{a:cF}{l:List cF}{n:Nat}(h:¬a.af=(n:Int)):kS (a::l) n=kS l n:=by unfold kS;rw[AP,ag (by simpa using h)]
theorem agj{d:Type}{m:aO}{w:I}(b:bS w)(A B:Option d):
 ((if(!(!m.bD))=true then jG (w,m.bk)else some false).bind λc=>if(bif (!m.bD)then true else(!c))=true then A else B)=if dz m w=true then B else A:=by
 cases a:m.bD with
 |false=>
  have:dz m w=false:=by unfold dz;rw[a];rfl
  rw[this];rfl
 |true=>
  have:=ab6 b a;simp only[eb,fM,cw,this];cases dz m w<;>rfl
theorem GW{x:ah}{v:I}(c:∀y,y∈v.Rest->y.Data.length<=reachBytes)(b:v.Rest.length<=reachBytes)(n:Nat)(aA:n<=1000):
 ∀(k i:Nat) (out:List UInt8),i+k=v.Rest.length->out.length+((kS (v.Rest.drop i) n).flatMap Fd.text).length<=70368744177664->
 my (out,(n:Int),(i:Int),ts,v,x)=some (out++(kS (v.Rest.drop i) n).flatMap Fd.text,(n:Int),ts,v,x)
 |0,i,out,hi,a=>by
  rw[my,ag (by simp;omega),gy (by omega:v.Rest.length<=i),I.bj];simp[kS]
 |k+1,i,out,hi,a=>by
  have aI:i<v.Rest.length:=by omega
  have f:=eg b;have d:=c _ (bo aI b8);unfold reachBytes at d;rw[gG aI b8]at a;rw[my,ab (by simp;omega),ab (aN aI)];simp only[aV,ak,aW,I.bj];rw[gG aI b8];by_cases e:(v.Rest.getD i b8).af=(n:Int)
  . rw[Z2 e,kl]at a⊢;have ht:(mI (v.Rest.getD i b8)).text=eZ n false (v.Rest.getD i b8).Data:=by unfold mI Fd.text;rw[e];rfl
    rw[ht,dP]at a;rw[ab (by rw[e];simp),ab (aN aI),FX (by omega) (by omega)];simp only[ak];rw[ab (eY (by omega)),bB (by omega),GW c b n aA k (i+1) _ (by omega) (by rw[dP];omega),ht,jV]
  . rw[aaR e]at a⊢;rw[ag (by simpa using e),bB (by omega),GW c b n aA k (i+1) _ (by omega) a]
noncomputable def wZ (ts:List ah)(x:ah)(v:I)(n:Nat):List Fd:=(ke ts x.ae v.al v.Rest).filter λf=>decide (f.id=n)
theorem Hy {x:ah}{v:I}(p:x.ae.length<9223372036854775807)(q:hU x.ae)(w:mw x.ae v.Rest)(g:v.al.length=x.ae.length)
 (u:∀y,y∈v.Rest->y.Data.length<=reachBytes)(d:v.Rest.length<=reachBytes)(s:∀y,y∈v.al->bS y)(l:∀x,x∈v.al->∀t,(bY ts t x).length<=23089744183296)
 (z:∀i,i<x.ae.length->lu ts (v.al.getD i aK) (x.ae.getD i au).av):
 ∀(k n:Nat) (out:List UInt8),n+k=1001->1<=n->out.length+(((List.range' n k).flatMap (wZ ts x v)).flatMap Fd.text).length<=70368744177664->
 o3 (out,(n:Int),ts,v,x)=some (out++((List.range' n k).flatMap (wZ ts x v)).flatMap Fd.text)
 |0,n,out,hi,h1,a=>by
  rw[o3,ag (by simp;omega)];simp
 |k+1,n,out,hi,h1,a=>by
  have H:∀y,y∈v.Rest->0<=y.af:=λy L=>by have:=(w.2 y L).1;unfold cO at this;omega
  have aj:wZ ts x v n=((dk ts x.ae v.al).filter λf=>decide (f.id=n))++kS v.Rest n:=by
   unfold wZ ke kS;rw[List.filter_append,Ya _ _ H]
  rw[AM,kl,yq,aj,yq]at a⊢;simp only[dP]at a;rw[o3,ab (by simp;omega)];obtain⟨r,_,O,G⟩:=oN (t:=x) (n:Int) p;simp only[aV,ak,aW,I.bj];rw[O];simp only[ak]
  have A:∀b:List UInt8,b.length+((kS v.Rest n).flatMap Fd.text).length<=70368744177664->my (b,(n:Int),0,ts,v,x)=some (b++(kS v.Rest n).flatMap Fd.text,(n:Int),ts,v,x):=λb h=>by
   have:=GW (ts:=ts) (x:=x) u d n (by omega) v.Rest.length 0 b (by omega) (by simpa using h)
   grind
  rcases yA G with⟨e,j,B,M,F,N⟩|⟨e,F⟩
  . have o:j<v.al.length:=by omega
    have C:v.al.getD j aK∈v.al:=bo o aK;have c:=S7 (ts:=ts) (Lh q) g B (n:=n) (by rw[N];simp);rw[ab e,M,ab (aN B)];rw[ab (by rw[aN o];rfl)];simp only[aW];rw[agj (s _ C)];have E:=Hy p q w g u d s l z k (n+1);cases D:dz (x.ae.getD j au) (v.al.getD j aK)with
    |true=>
     rw[D,ab rfl]at c;rw[c]at a⊢;rw[ab rfl,A out (by omega)];simp only[ak,I.bj];rw[bB (by omega),E _ (by omega) (by omega) (by rw[dP];omega)];simp
    |false=>
     rw[D,ag (by simp)]at c;rw[c]at a⊢;have P:=l _ C (x.ae.getD j au).av;have e0:=z j B;unfold lu at e0
     have ht:([⟨n,(x.ae.getD j au).bQ,bY ts (x.ae.getD j au).av (v.al.getD j aK)⟩]:List Fd).flatMap Fd.text=eZ n (x.ae.getD j au).bQ (bY ts (x.ae.getD j au).av (v.al.getD j aK)):=by simp only[kl,List.flatMap_nil,pI];rfl
     rw[ht]at a⊢;rw[ag (by simp),ab (aN o),e0];simp only[ak];rw[FX (by omega) (by omega)];simp only[ak];rw[ab (eY (by omega)),A _ (by rw[dP];omega)];simp only[ak,I.bj];rw[bB (by omega),E _ (by omega) (by omega) (by rw[dP,dP];omega)]
     grind
  . have K:((dk ts x.ae v.al).filter λf=>decide (f.id=n))=[]:=IU λm J=>by
     have:=si F m J;omega
    rw[K]at a⊢;rw[ag (by simp[e]),A out (by omega)];simp only[ak,I.bj];rw[bB (by omega),Hy p q w g u d s l z k (n+1) _ (by omega) (by omega) (by rw[dP];omega)];simp
end
section
variable {ts:List ah}
set_option maxHeartbeats 400000 in
theorem ab7(H:oe ts){v:I}(aI:bS v):wt v<=1099511627776->∀t,cI ts false t v->lu ts v t:=by
 induction aI with
 |mk v hs h1 L R X hi M dy P Q aP aO aM=>
  intro aL t o;have ap:bS v:= .mk v hs h1 L R X hi M dy P Q aP;have aY:=hR v;have D:=λx p t=>Hx H (hi x p) (by have:=iH p;omega) t
  have aD:=λx p t=>Hx H (X x p) (by have:=iH p;omega) t
  have B:=λx p t=>aM x p (by have:=iH p;omega) t
  have aq:=λx p t=>aO x p (by have:=iH p;omega) t
  have G:=Hx H ap aL t;obtain⟨⟨aU,aX,K,_⟩,o⟩:=(e4 _ _ _).1 o;obtain⟨j,rfl⟩:∃j:Nat,t=(j:Int):=⟨t.toNat,by omega⟩
  have W:j<ts.length:=by omega
  unfold lu;rw[lD,ab (aN W)];simp only[aV,ak,aW,I.bj]at o K⊢;have O:=bo W ar;have aJ:=@zv ts (j:Int) v;have aa:=@zw ts (j:Int) v;have ad:=@zx ts (j:Int) v;have ah:=@zy ts (j:Int) v;have N:=@Dd ts (j:Int) v;have ai:=@td ts (j:Int) v;have aj:=@tf ts (j:Int) v
  have am:=@tg ts (j:Int) v;have an:=@rh ts (j:Int) v;simp only[aW]at aJ aa ad ah N ai aj am an;have U:=H.A _ O;have ay:=H.S _ O;have Y:=eg (iC (H.T _ O).gW);generalize ts.getD j ar=x at*
  rcases o with⟨k,c1,c2,c3,c4,c5,s⟩|⟨k,c1,c2,c3,c4,c5,s,u,z⟩|⟨k,c1,c2,c3,c4,c5,s,u⟩|⟨k,c1,c2,c3,c4,c5,s,u⟩|⟨k,c1,c2,c3,c4,c5,s,u⟩|⟨k,c1,c2,c3,c4,c5⟩|⟨k,c1,c2,c3,c4,c5,s,u,z⟩|⟨k,c1,c2,c3,c4,c5,s,u,z,c9,aT⟩|⟨k,c1,c2,c3,c4,c5,s,u,z⟩<;>rw[k]at K<;>have g:=K.symm
  . grind
  . rw[ag (by grind),ab (by grind),aa g,qF P];have aZ:=y2 P;obtain⟨n,aA⟩:∃n:Nat,fr v.bq=(n:Int):=⟨(fr v.bq).toNat,by unfold fr;grind⟩
    grind[Int.toNat_natCast,CZ]
  . rw[ag (by simp[g]),ag (by simp[g]),ab (by simp[g]),ad g]
  . rw[ag (by simp[g]),ag (by simp[g]),ag (by simp[g]),ab (by simp[g]),ah g]
    obtain⟨n,aA⟩:∃n:Nat,v.af=(n:Int):=⟨v.af.toNat,by
     rcases u with⟨y,m,he⟩|⟨_,_,he⟩
     . have:=ay g y m;unfold cO at this;omega
     . unfold cO at he;omega⟩
    rw[aA,h9 (by omega),CZ (by omega),nZ];rfl
  . rw[ag (by simp[g]),ag (by simp[g]),ag (by simp[g]),ag (by simp[g]),ag (by simp[g]),ag (by simp[g]),ag (by simp[g]),ag (by simp[g]),N g];obtain⟨E,aE⟩:=U (.inl g);obtain⟨az,aC⟩:=kb.1 u;rw[N g]at G;have Z:=W9 (Gd (ts:=ts) (l:=v.al) E s) (λy m=>Tg E s m)
    have bM:(λn=>(ke ts x.ae v.al v.Rest).filter λf=>decide (f.id=n))=wZ ts x v:=rfl;rw[bM]at Z;rw[Z]at G⊢;have:=Hy (ts:=ts) Y E s az (λy m=>M y m) R hi D (λi ax=>B _ (bo (by omega) aK) _ (aC i ax)) 1000 1 [] (by omega) (by omega) (by simp only[km];omega);have h0:o3 ([],1,ts,v,x)=_:=this;rw[h0]
    rfl
  . rw[ag (by simp[g]),ag (by simp[g]),ag (by simp[g]),ag (by simp[g]),ag (by simp[g]),ab (by simp[g]),ai g];obtain⟨E,aE⟩:=U (.inr g);obtain⟨r,_,aS,o⟩:=oN (t:=x) v.af Y;rcases yA o with⟨e,q,ao,aQ,F,aR⟩|⟨e,F⟩
    . rw[F]at c5;rw[F];simp only at c5⊢;obtain⟨d1,d2,d3⟩:=c5;have w:=E.2 _ (bo ao au);rw[aR]at w;obtain⟨n,aA⟩:∃n:Nat,v.af=(n:Int):=⟨v.af.toNat,by unfold cO at w;omega⟩
      rw[ag (by simp[d1]),aS,aA,h9 (by unfold cO at w;omega),sn (by unfold cO at w;omega)];simp only[ak];rw[aQ,ab (aN ao)]
      match w:v.al,d2 with
      |[y],_=>
       have m:y∈v.al:=by rw[w];exact .head _
       have C:aB 0 ([y]:List I).length=true:=aN (k:=0) (by simp);have o:=dR.1 d3 y m;have e0:=B y m _ o;unfold lu at e0;rw[ab C];simp only[aW,AR,s4];rw[e0];have aF:=D y m (x.ae.getD q au).av;have aG:=jK (n:=n) (by rw[aA]at Q;omega);simp only[ak];rw[ab (eY (by omega))]
       have J:b4 ts (x.ae.getD q au).av [y]=[bY ts (x.ae.getD q au).av y]:=by rw[b4,b4]
       rw[J];rfl
    . rw[F]at c5;rw[F];simp only at c5⊢;obtain⟨d1,d2,d3,d4,d,d5⟩:=c5;obtain⟨n,aA⟩:∃n:Nat,v.af=(n:Int):=⟨v.af.toNat,by unfold cO at d3;omega⟩
      have V:=M ⟨v.af,d⟩ (by rw[d5];exact .head _);simp only at V;unfold reachBytes at V;have aG:=jK (n:=n) (by rw[aA]at Q;omega);rw[d5,aA,ab (by simp),h9 (by unfold cO at d3;omega),sn (by unfold cO at d3;omega)];simp only[ak];have C:aB 0 ([⟨(n:Int),d⟩]:List cF).length=true:=aN (k:=0) (by simp);rw[ab C]
      simp only[AR,s4];rw[ab (eY (by omega))];rfl
  . rw[ag (by simp[g]),ag (by simp[g]),ag (by simp[g]),ag (by simp[g]),ag (by simp[g]),ag (by simp[g]),ab (by simp[g])];have o:=dR.1 z;rw[aj g]at G⊢
    have:=KF (ts:=ts) (x:=x) (v:=v) (λy m=>by have:=D y m x.aH;omega) (λy m=>B y m x.aH (o y m)) L v.al.length 0 [] (by omega) (by simp only[la,km];omega);have h0:rV ([],0,ts,v,x)=_:=this;rw[h0];rfl
  . rw[ag (by simp[g]),ag (by simp[g]),ag (by simp[g]),ag (by simp[g]),ag (by simp[g]),ag (by simp[g]),ag (by simp[g]),ab (by simp[g])];have o:=dR.1 c9;have aw:=dR.1 z;rw[am g]at G⊢
    have:=Lj (ts:=ts) (x:=x) (v:=v) u (λy m=>by have:=D y m x.aH;omega) (λy m=>by have:=aD y m x.Key;omega) (λy m=>B y m x.aH (o y m)) (λy m=>aq y m x.Key (aw y m)) L v.al.length 0 [] (by omega) (by simp only[la,km];omega);have h0:rW ([],0,ts,v,x)=_:=this;rw[h0];rfl
  . rw[ag (by simp[g]),ag (by simp[g]),ag (by simp[g]),ag (by simp[g]),ab (by simp[g]),an g];have o:=dR.1 z
    match w:v.al,u with
    |[],_=>rw[ab (by simp),b4]
    |[y],_=>
     have m:y∈v.al:=by rw[w];exact .head _
     have C:aB 0 ([y]:List I).length=true:=aN (k:=0) (by simp);rw[ag (by simp),ab C];have e0:=B y m x.aH (o y m);unfold lu at e0;simp only[AR,s4];rw[e0];have aF:=D y m x.aH;simp only[ak];rw[ab (eY (by simp;omega))];have J:b4 ts x.aH [y]=[bY ts x.aH y]:=by rw[b4,b4]
     rw[J];rfl
    |a::b::c,h=>simp at h
end
theorem dq.pM{α:Type}{o:Option Bool}{a b:α}(h:eK o a b):dq o (a=b):=h
theorem DK{j k l:Option Bool}{f g i:Prop}(h1:dq j f)(d:dq k g)(e:dq l i):
 dq (j>>=λm=>(if m=true then k else some false)>>=λn=>some (bif m then n else false)>>=λt53=>(if t53=true then l else some false)>>=λo=>some (bif t53 then o else false)) (f/\g/\i):=by
 obtain⟨a,rfl,h1⟩:=h1;obtain⟨b,rfl,d⟩:=d;obtain⟨c,rfl,e⟩:=e;rw[<-h1,<-d,<-e];cases a<;>cases b<;>cases c<;>exact⟨_,rfl,by simp⟩
theorem Nk{o:Option Bool}{P:Prop}(h:dq o P):dq (o>>=λr=>some r) P:=by grind
def px(b:Bool)(a:List aO):Prop:=(∀m,m∈a->oh b m=false)/\(b=false\/0<a.length)/\hU a/\(∀m,m∈a->nm m.Name=true)/\(a.map (·.Name)).Nodup/\a.length<=16
def y5(S:List dc):Prop:=0<S.length/\(S.Pairwise (λa b=>a.af<b.af)/\∀y,y∈S->cO y.af)/\(∀y,y∈S->nm y.Name=true)/\(S.map (·.Name)).Nodup/\S.length<=16
theorem Z3{l:List (List UInt8)}:l.Nodup↔∀i,i<l.length->(l.take i).contains (l.getD i [])=false:=by
 grind[List.pairwise_iff_getElem,qP]
theorem Lk{α:Type}(f:α->Int)(g:α->List UInt8)(d:α)(l:List α):(∀i,i<l.length->jR (l.map f) (l.map g) i=true)↔(l.Pairwise (λa b=>f a<f b)/\∀x,x∈l->cO (f x))/\(∀x,x∈l->nm (g x)=true)/\(l.map g).Nodup:=by
 rw[CL f d,Z3];have key:∀i,i<l.length->(jR (l.map f) (l.map g) i=true↔cO (f (l.getD i d))/\(i=0\/f (l.getD (i-1) d)<f (l.getD i d))/\nm (g (l.getD i d))=true/\((l.map g).take i).contains ((l.map g).getD i [])=false):=by
  grind[jR,cO]
 constructor
 . intro h;refine⟨⟨λi hi=>?_,λx m=>?_⟩,λx m=>?_,λi hi=>?_⟩
   . grind
   . grind[List.getElem_of_mem]
   . grind[List.getElem_of_mem]
   grind
 . rintro ⟨⟨h1,c⟩,j,k⟩ i hi
   refine(key i hi).2 ⟨c _ (bo hi d),?_,j _ (bo hi d),k i (by grind)⟩;by_cases h0:i=0
   . omega
   . have e:i-1+1=i:=by omega
     grind
theorem JL{t:ah}(h:e3 t):dq (sI t) ((∀m,m∈t.ae->oh (decide (t.Kind=6)) m=false)/\(t.Kind=5\/0<t.ae.length)/\hU t.ae/\(∀m,m∈t.ae->nm m.Name=true)/\(t.ae.map (·.Name)).Nodup/\t.ae.length<=16):=by
 obtain⟨r,h1,a⟩:=IL h;refine⟨r,h1,a.trans ?_⟩;rw[Lk _ _ au]
 grind[List.getElem_of_mem,hU]
theorem aaS{l:List dc}(ad:l.length*24<=reachBytes):dq (uA l) (y5 l):=by
 obtain⟨r,h1,a⟩:=Le ad;refine⟨r,h1,a.trans ?_⟩;rw[Lk _ _ dm]
 grind[y5]
def fv(t:ah):Prop:=
 (t.Kind=1/\t.Name=[]/\t.bz=0/\t.bx=0/\t.Max=0/\t.a7=[]/\t.ae=[]/\t.Key=0/\t.aH=0/\t.Open=false)\/
 (t.Kind=2/\t.Name=[]/\t.bz<=t.bx/\t.Max=0/\t.a7=[]/\t.ae=[]/\t.Key=0/\t.aH=0/\t.Open=false)\/
 (t.Kind=3/\t.Name=[]/\t.bz=0/\t.bx=0/\(0<=t.Max/\t.Max<=200)/\t.a7=[]/\t.ae=[]/\t.Key=0/\t.aH=0/\t.Open=false)\/
 (t.Kind=4/\nm t.Name=true/\t.bz=0/\t.bx=0/\t.Max=0/\y5 t.a7/\t.ae=[]/\t.Key=0/\t.aH=0)\/
 (t.Kind=5/\nm t.Name=true/\t.bz=0/\t.bx=0/\t.Max=0/\t.a7=[]/\px false t.ae/\t.Key=0/\t.aH=0/\t.Open=false)\/
 (t.Kind=6/\nm t.Name=true/\t.bz=0/\t.bx=0/\t.Max=0/\t.a7=[]/\px true t.ae/\t.Key=0/\t.aH=0)\/
 (t.Kind=7/\t.Name=[]/\t.bz=0/\t.bx=0/\(0<=t.Max/\t.Max<=50)/\t.a7=[]/\t.ae=[]/\t.Key=0/\t.Open=false)\/
 (t.Kind=8/\t.Name=[]/\t.bz=0/\t.bx=0/\(0<=t.Max/\t.Max<=50)/\t.a7=[]/\t.ae=[]/\t.Open=false)\/
 (t.Kind=9/\t.Name=[]/\t.bz=0/\t.bx=0/\t.Max=0/\t.a7=[]/\t.ae=[]/\t.Key=0/\t.Open=false)
theorem aaT{t:ah}(h:e3 t):dq (gg t) (fv t):=by
 obtain⟨d,N,L,H,M,S,c,K,E,b⟩:=t;have ay:=h.syms;have e:=h.gW;have f:=h.iL;simp only at ay e f;by_cases aZ:d=1
 . subst aZ;have a:=iG (a:=(⟨0,N,L,H,M,S,c,K,E,b⟩:ah)) ⟨ay,e,f⟩ (⟨0,[],0,0,0,[],[],0,0,false⟩:ah);refine(Nk (dq.pM a)).imp ?_;unfold fv;simp
 by_cases ba:d=2
 . subst ba;have a:=iG (a:=(⟨0,N,0,0,M,S,c,K,E,b⟩:ah)) ⟨ay,e,f⟩ (⟨0,[],0,0,0,[],[],0,0,false⟩:ah);refine(tH (q:=decide (L<=H)) (Q:=L<=H) (by simp) (dq.pM a)).imp ?_;unfold fv
   grind
 by_cases bE:d=3
 . subst bE;have a:=iG (a:=(⟨0,N,L,H,0,S,c,K,E,b⟩:ah)) ⟨ay,e,f⟩ (⟨0,[],0,0,0,[],[],0,0,false⟩:ah);refine(tH (Q:=0<=M/\M<=200) (by by_cases g:0<=M<;>simp[g]) (dq.pM a)).imp ?_;unfold fv
   grind
 by_cases bU:d=4
 . subst bU;have a:=iG (a:=(⟨0,[],L,H,M,[],c,K,E,false⟩:ah)) ⟨by simp,e,f⟩ (⟨0,[],0,0,0,[],[],0,0,false⟩:ah);refine(DK (⟨nm N,sL N,Iff.rfl⟩:dq (ka N) (nm N=true)) (aaS ay) (dq.pM a)).imp (Q:=fv ⟨4,N,L,H,M,S,c,K,E,b⟩) ?_;unfold fv
   grind
 by_cases cL:d=5
 . subst cL;have a:=iG (a:=(⟨0,[],L,H,M,S,[],K,E,bif b then decide ((5:Int)=5)else false⟩:ah)) ⟨ay,by simp,by simp⟩ (⟨0,[],0,0,0,[],[],0,0,false⟩:ah);refine(DK (⟨nm N,sL N,Iff.rfl⟩:dq (ka N) (nm N=true)) (JL h) (dq.pM a)).imp ?_;unfold fv px
   grind
 by_cases cM:d=6
 . subst cM;have a:=iG (a:=(⟨0,[],L,H,M,S,[],K,E,bif b then decide ((6:Int)=5)else false⟩:ah)) ⟨ay,by simp,by simp⟩ (⟨0,[],0,0,0,[],[],0,0,false⟩:ah);refine(DK (⟨nm N,sL N,Iff.rfl⟩:dq (ka N) (nm N=true)) (JL h) (dq.pM a)).imp (Q:=fv ⟨6,N,L,H,M,S,c,K,E,b⟩) ?_;unfold fv px
   grind
 by_cases fK:d=7
 . subst fK;have a:=iG (a:=(⟨0,N,L,H,0,S,c,K,0,b⟩:ah)) ⟨ay,e,f⟩ (⟨0,[],0,0,0,[],[],0,0,false⟩:ah);refine(tH (Q:=0<=M/\M<=50) (by by_cases g:0<=M<;>simp[g]) (dq.pM a)).imp (Q:=fv ⟨7,N,L,H,M,S,c,K,E,b⟩) ?_;unfold fv
   grind
 by_cases fL:d=8
 . subst fL;have a:=iG (a:=(⟨0,N,L,H,0,S,c,0,0,b⟩:ah)) ⟨ay,e,f⟩ (⟨0,[],0,0,0,[],[],0,0,false⟩:ah);refine(tH (q:=bif decide (0<=M)then decide (M<=50)else false) (Q:=0<=M/\M<=50) (by by_cases g:0<=M<;>simp[g]) (dq.pM a)).imp (Q:=fv ⟨8,N,L,H,M,S,c,K,E,b⟩) ?_;unfold fv
   grind
 by_cases gM:d=9
 . subst gM;have a:=iG (a:=(⟨0,N,L,H,M,S,c,K,0,b⟩:ah)) ⟨ay,e,f⟩ (⟨0,[],0,0,0,[],[],0,0,false⟩:ah);refine(Nk (dq.pM a)).imp (Q:=fv ⟨9,N,L,H,M,S,c,K,E,b⟩) ?_;unfold fv;simp
 refine⟨false,by simp[gg,aZ,ba,bE,bU,cL,cM,fK,fL,gM],?_⟩;unfold fv
 grind
structure pY (ts:List ah):Prop where
 n:ts.length<=32
 F:∀t,t∈ts->fv t
 D:∀i,i<ts.length->(!(decide ((ts.getD i ar).Name=[]))&&((ts.map (·.Name)).take i).contains (ts.getD i ar).Name)=false
 U:∀t,t∈ts->∀u,u∈fk t->0<=u/\u<ts.length
 tz:∀t,t∈ts->t.Kind=8->1<=(ts.getD t.Key.toNat ar).Kind/\(ts.getD t.Key.toNat ar).Kind<=4
theorem Z4{ts:List ah}(cP:∀t,t∈ts->e3 t){i:Nat}(hi:i<ts.length):tc ts i=none↔fv (ts.getD i ar)/\(!(decide ((ts.getD i ar).Name=[]))&&((ts.map (·.Name)).take i).contains (ts.getD i ar).Name)=false/\(∀a,a∈fk (ts.getD i ar)->0<=a/\a<ts.length)/\
 ((ts.getD i ar).Kind=8->1<=(ts.getD (ts.getD i ar).Key.toNat ar).Kind/\(ts.getD (ts.getD i ar).Key.toNat ar).Kind<=4):=by
 obtain⟨r,f1,f2⟩:=aaT (cP _ (bo hi ar));rw[HN rfl f1]
 grind[List.any_eq_false,pJ,w2]
theorem x2{ts:List ah}(cP:∀t,t∈ts->e3 t)(h:pY ts):sa (⟨ts⟩:bh)=some 0/\rJ (⟨ts⟩:bh)=some 0:=by
 obtain⟨e,h1,b,_,a,_⟩:=YG (by have:=h.n;grind[reachBytes]) cP;have bM:=a ⟨h.n,λi hi=>(Z4 cP hi).2 ⟨h.F _ (bo hi _),h.D i hi,h.U _ (bo hi _),h.tz _ (bo hi _)⟩⟩
 grind
theorem pY.iv{ts:List ah}(cP:∀t,t∈ts->e3 t)(h:pY ts):oe ts:=by
 refine⟨by have:=h.n;omega,cP,λt ht=>?_,λt ht m c=>?_,λt ht e=>?_,λt ht e y f=>?_,h.tz⟩
 . have:=h.F t ht
   grind[fv,jO]
 . have:=h.F t ht;unfold fv at this;have:px false t.ae\/px true t.ae:=by grind
   rcases this with a|a
   . exact(a.2.2.1.2 m c).2
   . exact(a.2.2.1.2 m c).2
 . have:=h.F t ht;unfold fv at this;have:px false t.ae\/px true t.ae:=by grind
   rcases this with a|a
   . exact⟨a.2.2.1,a.2.2.2.2.2⟩
   . exact⟨a.2.2.1,a.2.2.2.2.2⟩
 . have:=h.F t ht;unfold fv at this;have:y5 t.a7:=by grind
   exact this.2.1.2 y f
def ta(l:List cF):Nat:=(l.map λx=>x.Data.length).sum
theorem abk(l:List cF):(l.map λx=>x.Data.length+1).sum=ta l+l.length:=by
 unfold ta
 induction l with
 |nil=>rfl
 |cons a l ih=>simp only[je,sW,jv];omega
def Left(n:Int)(w:Nat)(m:Int):Prop:=m<=n/\-1000000000000000<=m/\(0<=m->(w:Int)+m<=n)
theorem KG{v:I}(ad:v.Rest.length<=reachBytes)(b:∀x,x∈v.Rest->x.Data.length<=reachBytes):∀(k i:Nat) (n:Int),i+k=v.Rest.length->n<=3000->-1000000000000000<=n->∃m,qs (n,(i:Int),v)=some (m,v)/\Left n (ta (v.Rest.drop i)) m
 |0,i,n,hi,c,a=>⟨n,by
  rw[qs,ag,I.bj];intro h;have g:¬(i:Int)<(v.Rest.length:Int):=by omega
  simp[g]at h,by
  rw[gy (by omega:v.Rest.length<=i)]
  exact⟨by omega,a,λ_=>by simp[ta]⟩⟩
 |k+1,i,n,hi,c,a=>by
  have aI:i<v.Rest.length:=by omega
  have o:=eg ad;have d:=b _ (bo aI b8);unfold reachBytes at d;have g:(i:Int)<(v.Rest.length:Int):=by omega
  rw[qs];by_cases h0:0<=n
  . rw[ab (by simp[g,h0]),ab (aN aI)];simp only[aW,I.bj];rw[fC (by omega) (by omega),bB (by omega)];obtain⟨m,f,p,j,l⟩:=KG ad b k (i+1) (n-((v.Rest.getD i b8).Data.length:Int)) (by omega) (by omega) (by omega);refine⟨m,f,by omega,j,λh=>?_⟩;have:=l h;rw[gG aI b8]
    have e:ta (v.Rest.getD i b8::v.Rest.drop (i+1))=(v.Rest.getD i b8).Data.length+ta (v.Rest.drop (i+1)):=by unfold ta;simp only[je,sW]
    rw[e];omega
  . refine⟨n,?_,by omega,a,λh=>absurd h h0⟩;rw[ag (by simp[g,h0]),I.bj]
theorem KH{v:I}(ad:v.aE.length<=reachBytes)(ih:∀x,x∈v.aE->∀n,0<=n->n<=3000->∃m,nN (x,n)=some m/\Left n (wt x) m):∀(k i:Nat) (n:Int),i+k=v.aE.length->n<=3000->-1000000000000000<=n->∃m,r1 (n,(i:Int),v)=some (m,v)/\Left n (dN (v.aE.drop i)) m
 |0,i,n,hi,c,b=>⟨n,by
  rw[r1,ag,I.bj];intro h;have g:¬(i:Int)<(v.aE.length:Int):=by omega
  simp[g]at h,by
  rw[gy (by omega:v.aE.length<=i),hj]
  exact⟨by omega,b,λ_=>by simp⟩⟩
 |k+1,i,n,hi,c,b=>by
  have aI:i<v.aE.length:=by omega
  have j:=eg ad;have g:(i:Int)<(v.aE.length:Int):=by omega
  rw[r1];by_cases h0:0<=n
  . obtain⟨a,a1,a2,a3,a4⟩:=ih _ (bo aI aK) n h0 c;rw[ab (by simp[g,h0]),ab (aN aI)];simp only[aW,I.bj];rw[a1];simp only[aV,ak];rw[bB (by omega)];obtain⟨m,d,l,e,f⟩:=KH ad ih k (i+1) a (by omega) (by omega) (by omega);refine⟨m,d,by omega,e,λh=>?_⟩;have:=f h;have:=a4 (by omega);rw[gG aI aK,iE];omega
  . refine⟨n,?_,by omega,b,λh=>absurd h h0⟩;rw[ag (by simp[g,h0]),I.bj]
theorem KI{v:I}(ad:v.al.length<=reachBytes)(ih:∀x,x∈v.al->∀n,0<=n->n<=3000->∃m,nN (x,n)=some m/\Left n (wt x) m):∀(k i:Nat) (n:Int),i+k=v.al.length->n<=3000->-1000000000000000<=n->∃m,r2 (n,(i:Int),v)=some m/\Left n (dN (v.al.drop i)) m
 |0,i,n,hi,c,b=>⟨n,by
  rw[r2,ag];intro h;have g:¬(i:Int)<(v.al.length:Int):=by omega
  simp[g]at h,by
  rw[gy (by omega:v.al.length<=i),hj]
  exact⟨by omega,b,λ_=>by simp⟩⟩
 |k+1,i,n,hi,c,b=>by
  have aI:i<v.al.length:=by omega
  have j:=eg ad;have g:(i:Int)<(v.al.length:Int):=by omega
  rw[r2];by_cases h0:0<=n
  . obtain⟨a,a1,a2,a3,a4⟩:=ih _ (bo aI aK) n h0 c;rw[ab (by simp[g,h0]),ab (aN aI)];simp only[aW,I.bj];rw[a1];simp only[aV,ak];rw[bB (by omega)];obtain⟨m,d,l,e,f⟩:=KI ad ih k (i+1) a (by omega) (by omega) (by omega);refine⟨m,d,by omega,e,λh=>?_⟩;have:=f h;have:=a4 (by omega);rw[gG aI aK,iE];omega
  . refine⟨n,?_,by omega,b,λh=>absurd h h0⟩;rw[ag (by simp[g,h0])]
theorem agw{v:I}(p:bS v):∀n:Int,0<=n->n<=3000->∃m,nN (v,n)=some m/\Left n (wt v) m:=by
 induction p with
 |mk v hs h1 k d t hi o dy u w x r q=>
  intro n h0 aA;have az:aM .i64 (aM .i64 10 (v.bA.length:Int)) (v.Rest.length:Int)=((10+v.bA.length+v.Rest.length:Nat):Int):=by
   have a1:=eg hs;have a2:=eg d;unfold reachBytes at hs d;have:aM .i64 10 (v.bA.length:Int)=((10+v.bA.length:Nat):Int):=uS (a:=10) (by omega);rw[this,uS (by omega)]
  unfold reachBytes at hs;have l:=d;unfold reachBytes at l;have j:c' .i64 n ((10+v.bA.length+v.Rest.length:Nat):Int)=n-((10+v.bA.length+v.Rest.length:Nat):Int):=fC (by omega) (by omega);obtain⟨a,a1,a2,a3,a4⟩:=KG d o v.Rest.length 0 (n-((10+v.bA.length+v.Rest.length:Nat):Int)) (by omega) (by omega) (by omega)
  obtain⟨b,b1,b2,s,g⟩:=KH h1 r v.aE.length 0 a (by omega) (by omega) (by omega);obtain⟨c,c1,c2,c3,c4⟩:=KI k q v.al.length 0 b (by omega) (by omega) (by omega);have e:qs (n-((10+v.bA.length+v.Rest.length:Nat):Int),0,v)=_:=a1;have f:r1 (a,0,v)=_:=b1;have i:r2 (b,0,v)=_:=c1;refine⟨c,?_,by omega,c3,λh=>?_⟩
  . rw[nN];simp only[I.bj];rw[az,j,e];simp only[aV,ak,I.bj];rw[f];simp only[ak,I.bj];rw[i];rfl
  . have:=c4 h;have:=g (by omega);have:=a4 (by omega);rw[hR,abk]
    grind
theorem Yb{v:I}(a:bS v):∃b,Bb v=some b/\(b=true->wt v<=3000):=by
 obtain⟨m,c,e,f,d⟩:=agw a 3000 (by omega) (by omega);rw[Bb];simp only[I.bj];rw[c];refine⟨decide (0<=m),rfl,λh=>?_⟩;have h0:0<=m:=fm h;have:=d h0;omega
theorem Yc{ts:List ah}(aA:ts.length<9223372036854775807)(cP:∀t,t∈ts->e3 t)(br:∀t,t∈ts->jO t.Kind){v:I}(b:bS v)(t:Int):dq (Be ((⟨ts⟩:bh),t,v)) (cI ts true t v):=by
 obtain⟨r,h1,a⟩:=KE aA cP br b t true;refine⟨r,?_,a⟩;rw[Be];simp only[I.bj];rw[h1];rfl
def py(ts:List ah)(ms:List aO):Prop:=∀m,m∈ms->m.bD=true->cI ts true m.av m.bk
theorem Ll{ts:List ah}(aA:ts.length<9223372036854775807)(cP:∀t,t∈ts->e3 t)(br:∀t,t∈ts->jO t.Kind){ms:List aO}(a:∀m,m∈ms->bS m.bk)(ad:ms.length<=reachBytes)(t2:Int):
 ∀(k i:Nat),i+k=ms.length->(na (t2,ms,(i:Int),ts)=some (.inr (t2,ts))/\py ts (ms.drop i))\/(∃e,na (t2,ms,(i:Int),ts)=some (.inl (t2,e,1))/\¬py ts (ms.drop i))
 |0,i,hi=> .inl ⟨by rw [na,ag (by simp; omega)],by
  rw[gy (by omega:ms.length<=i)]
  intro m a;cases a⟩
 |k+1,i,hi=>by
  have aI:i<ms.length:=by omega
  have l:=eg ad;have d:=bo aI au;obtain⟨r,f,g⟩:=Yc aA cP br (a _ d) (ms.getD i au).av;rw[na,ab (by simp;omega),ab (aN aI)];simp only[aV,ak,aW,I.bj];rw[ab (by rw[aN aI];rfl),ab (by rw[aN aI];rfl),f];have ih:=Ll aA cP br a ad t2 k (i+1) (by omega);rw[gG aI au]
  have c:py ts (ms.getD i au::ms.drop (i+1))↔((ms.getD i au).bD=true->cI ts true (ms.getD i au).av (ms.getD i au).bk)/\py ts (ms.drop (i+1)):=by
   unfold py;constructor
   . intro h;exact⟨h _ (.head _),λm a=>h m (.tail _ a)⟩
   . rintro ⟨h1,b⟩ m a
     rcases fF.1 a with rfl|a
     . exact h1
     . exact b m a
  rw[c,<-g];cases j:(ms.getD i au).bD with
  |false=>
   simp only[cN,cv,ak,hv];rw[bB (by omega)];rcases ih with⟨h1,b⟩|⟨e,h1,b⟩
   . exact .inl ⟨h1,λh=>h.elim,b⟩
   . exact .inr ⟨e,h1,λh=>b h.2⟩
  |true=>
   cases r with
   |true=>
    simp only[cw,ak,gj,eb,cN,cv];rw[bB (by omega)];rcases ih with⟨h1,b⟩|⟨e,h1,b⟩
    . exact .inl ⟨h1,λ_=>trivial,b⟩
    . exact .inr ⟨e,h1,λh=>b h.2⟩
   |false=>
    simp only[cw,ak,gj,fM];rw[ab (aN aI)];exact .inr ⟨_,rfl,λh=>absurd (h.1 trivial) (by simp)⟩
theorem Lm{ts:List ah}(aA:ts.length<9223372036854775807)(cP:∀t,t∈ts->e3 t)(br:∀t,t∈ts->jO t.Kind):
 ∀(k i:Nat),i+k=ts.length->(nd ((i:Int),ts)=some (.inr ())/\∀t,t∈ts.drop i->py ts t.ae)\/(∃a e,nd ((i:Int),ts)=some (.inl (a,e,1))/\¬∀t,t∈ts.drop i->py ts t.ae)
 |0,i,hi=>.inl ⟨by rw[nd,ag (by simp;omega)],by grind⟩
 |k+1,i,hi=>by
  have aI:i<ts.length:=by omega
  have ht:=cP _ (bo aI ar);have h0:=Ll aA cP br ht.iL (iC ht.gW) (i:Int) (ts.getD i ar).ae.length 0 (by omega);simp only[la]at h0;have ih:=Lm aA cP br k (i+1) (by omega);rw[gG aI ar,nd,ab (by simp;omega),ab (aN aI)];simp only[aW];rcases h0 with⟨h1,f⟩|⟨e,h1,f⟩
  . have d:na ((i:Int),(ts.getD i ar).ae,0,ts)=_:=h1;rw[d];simp only[aV,ak];rw[bB (by omega)];rcases ih with⟨b,c⟩|⟨a,e,b,c⟩
    . refine .inl ⟨b,λt ht=>?_⟩;rcases fF.1 ht with rfl|ht
      . exact f
      . exact c t ht
    . exact .inr ⟨a,e,b,λh=>c λt ht=>h t (.tail _ ht)⟩
  . have d:na ((i:Int),(ts.getD i ar).ae,0,ts)=_:=h1;rw[d];exact .inr ⟨_,_,rfl,λh=>f (h _ (.head _))⟩
theorem IV{s:bh}(aA:s.Types.length<=reachBytes)(cP:∀t,t∈s.Types->e3 t){e:Int}(d:rJ s=some e)(he:e=0->pY s.Types):∃r,BF s=some r/\(e=0->(r.2.2=0↔∀t,t∈s.Types->py s.Types t.ae)):=by
 rw[BF,d];simp only[aV,ak];by_cases h0:e=0
 . have gV:=he h0;have ay:=gV.iv cP;rw[ag (by simp[h0])];have:=Lm (by have:=gV.n;omega) cP ay.K s.Types.length 0 (by omega);simp only[la]at this;rcases this with⟨h1,c⟩|⟨a,f,h1,c⟩
   . have b:nd (0,s.Types)=_:=h1;rw[b];exact⟨_,rfl,λ_=>⟨λ_=>c,λ_=>rfl⟩⟩
   . have b:nd (0,s.Types)=_:=h1;rw[b];exact⟨_,rfl,λ_=>⟨λh=>absurd h (by simp),λh=>absurd h c⟩⟩
 . rw[ab (by simp[h0])];exact⟨_,rfl,λh=>absurd h h0⟩
theorem agc{t:aD}{x:t.den cT.D}(h:Ok cT [t] x):∀d,d∈t.row cT x->WF cT d:=λd a=>h ⟨t,x⟩ (AJ ..) d a
end
end Go.Proofs.YtfcnkdegapjgnaaGreatDoor
