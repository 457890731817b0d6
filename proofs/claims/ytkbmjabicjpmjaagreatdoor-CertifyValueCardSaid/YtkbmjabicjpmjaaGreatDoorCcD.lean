/- The functions of the program as functions of Lean, that its code does what they say, and what they answer; part D. -/
import Derived.Test.YtkbmjabicjpmjaaGreatDoorCcC

namespace Go.Proofs.YtkbmjabicjpmjaaGreatDoor
set_option linter.all false
section
open Go Go.Proofs.YtkbmjabicjpmjaaGreatDoor.Shv Go.Sort
set_option maxRecDepth 100000
theorem CJ{α c:Type}{f:α->Option c}(d:α)(e:c):∀{l:List α} {m:List c},m.length=l.length->(∀j,j<l.length->f (l.getD j d)=some (m.getD j e))->dA f l=some m
 |[],[],_,_=>rfl
 |[],b::m,h,_=>by simp at h
 |a::l,[],h,_=>by simp at h
 |a::l,b::m,h,g=>by
  have h0:f a=some b:=g 0 (by simp);rw[I8,h0,CJ d e (l:=l) (m:=m) (by simpa using h) λj i=>g (j+1) (by simpa using i)];rfl
theorem Js:∀{a b:List ao},a.length=b.length->iq (l1 a b)=a/\iQ (l1 a b)=b
 |[],[],_=>⟨rfl,rfl⟩
 |[],_::_,h=>by simp at h
 |_::_,[],h=>by simp at h
 |x::a,y::b,h=>by
  obtain⟨h1,c⟩:=Js (a:=a) (b:=b) (by simpa using h);exact⟨by rw[l1,iq,h1],by rw[l1,iQ,c]⟩
variable{v:I}{x y:ah}{t rt:Int}{ts tw tr:List ah}{p:ao}{ms:List aU}{path:au}{f:fO}{aH:List fC}{L:List k3}{c:lJ}
theorem ad8{m:aU}:dz m v=true↔m.bV=true/\m.bz=v:=by unfold dz;simp
theorem Jt:∀{F:List eE} {f:eE},F.Pairwise (λa b=>a.ae<b.ae)->f∈F->F.find? (λg=>decide (g.ae=f.ae))=some f
 |g::F,f,aj,c=>by
  rw[ka]at aj;rw[List.find?_cons];rcases e2.1 c with rfl|c
  . simp
  . have:=aj.1 f c;have d:decide (g.ae=f.ae)=false:=sW (by omega);rw[d];exact Jt aj.2 c
section
variable {ts:List ah}
theorem Yo{its:List I}{r:List b6}(c:hD x.ag)(d:kG x.ag r)(ad:its.length=x.ag.length){f:q6}
 (y:∀j,j<x.ag.length->dz (x.ag.getD j aD) (its.getD j az)=false->f (x.ag.getD j aD).aB (bF ts (x.ag.getD j aD).aB (its.getD j az))=some (its.getD j az))
 (z:((gR fq (fI ts x.ag its r)).flatMap Fd.text).length<=90000):
 CL f x ((gR fq (fI ts x.ag its r)).flatMap Fd.text)=some ⟨5,false,0,[],0,[],its,r⟩:=by
 have t:=JZ (xp (ts:=ts) (l:=its) c d) (IV c d);have o:∀g,g∈gR fq (fI ts x.ag its r)↔g∈fI ts x.ag its r:=λg=>(mn fq _).mem_iff;have B:∀g,g∈gR fq (fI ts x.ag its r)->1<=g.id/\g.id<=1000:=λg ak=>Qa c d ((o g).1 ak);unfold CL;rw[ZF t B z];generalize gR fq (fI ts x.ag its r)=L at*;have bI:(L.map oF).Pairwise (λa b=>a.ae<b.ae):=nP.2 (t.imp λ{a b} h=>by show(a.id:Int)<(b.id:Int);omega);have q:∀g,g∈L.map oF->(∃j,j<x.ag.length/\dz (x.ag.getD j aD) (its.getD j az)=false/\g=⟨(x.ag.getD j aD).ae,(x.ag.getD j aD).cv,bF ts (x.ag.getD j aD).aB (its.getD j az)⟩)\/∃a,a∈r/\g=⟨a.ae,false,a.Data⟩:=λg ak=>by
  obtain⟨e,aK,rfl⟩:=fT.1 ak;have:=(o e).1 aK;unfold fI at this;rcases hP.1 this with h|h
  . obtain⟨j,n,u,D,rfl⟩:=Gt h;have i:=c.2 _ (br n aD);unfold cK at i;refine .inl ⟨j,n,D,?_⟩;show(⟨(((x.ag.getD j aD).ae.toNat:Nat):Int),_,_⟩:eE)=_;rw[Av (by omega)]
  . obtain⟨a,a1,rfl⟩:=fT.1 h;have i:=(d.2 a a1).1;unfold cK at i;refine .inr ⟨a,a1,?_⟩;show(⟨((a.ae.toNat:Nat):Int),_,_⟩:eE)=_;rw[Av (by omega)];rfl
 have H:∀j,j<x.ag.length->dz (x.ag.getD j aD) (its.getD j az)=false->(⟨(x.ag.getD j aD).ae,(x.ag.getD j aD).cv,bF ts (x.ag.getD j aD).aB (its.getD j az)⟩:eE)∈L.map oF:=λj n u=>by
  have i:=c.2 _ (br n aD);unfold cK at i;refine fT.2 ⟨_,(o _).2 (DU _ (G3 n (by omega) u)),?_⟩;show(⟨(((x.ag.getD j aD).ae.toNat:Nat):Int),_,_⟩:eE)=_;rw[Av (by omega)]
 have J:∀a,a∈r->(⟨a.ae,false,a.Data⟩:eE)∈L.map oF:=λa a1=>by
  have i:=(d.2 a a1).1;unfold cK at i;refine fT.2 ⟨kf a,(o _).2 (List.mem_append_right _ (fT.2 ⟨a,a1,rfl⟩)),?_⟩;show(⟨((a.ae.toNat:Nat):Int),_,_⟩:eE)=_;rw[Av (by omega)];rfl
 generalize L.map oF=F at*;have s:∀j,j<x.ag.length->cU x.ag (x.ag.getD j aD).ae=some (x.ag.getD j aD):=λj n=>J5 c (br n aD);have C:dA (hy f F) x.ag=some its:=CJ aD az ad λj m=>by
  unfold hy;cases p:dz (x.ag.getD j aD) (its.getD j az)with
  |false=>
   have:=Jt bI (H j m p);rw[this];exact y j m p
  |true=>
   have aP:F.find? (λg=>decide (g.ae=(x.ag.getD j aD).ae))=none:=by
    rw[List.find?_eq_none];intro g ak;simp only[gE];intro e;rcases q g ak with⟨k,bb,bq,rfl⟩|⟨a,a1,rfl⟩
    . have em:=u0 c (br bb aD) (br m aD) e;have v:k=j:=by
       rw[fG bb,fG m]at em;rcases Nat.lt_trichotomy k j with h|h|h
       . have:=yf.1 c.1 k j bb m h;rw[em]at this;omega
       . exact h
       . have:=yf.1 c.1 j k m bb h;rw[em]at this;omega
      subst v;rw[p]at bq;cases bq
    . have:=(d.2 a a1).2;rw[show a.ae=(x.ag.getD j aD).ae from e,s j m]at this;cases this
   rw[aP];obtain⟨E,G⟩:=ad8.1 p;simp only;rw[af E,G]
 have w:F.all (jj x)=true:=by
  rw[f'];intro g ak;unfold jj;rcases q g ak with⟨k,bb,bq,rfl⟩|⟨a,a1,rfl⟩
  . rw[s k bb];rfl
  . simp
 have A:lZ x F=r:=by
  unfold lZ;refine Z2 (nP.2 ((bI.filter _).imp λ{a b} h=>h)) d.1 λa=>?_;constructor
  . intro h;obtain⟨g,g1,rfl⟩:=fT.1 h;obtain⟨g2,g3⟩:=sV.1 g1;rcases q g g2 with⟨k,bb,bq,rfl⟩|⟨a,a1,rfl⟩
    . rw[s k bb]at g3;simp at g3
    . exact a1
  . intro h;refine fT.2 ⟨⟨a.ae,false,a.Data⟩,sV.2 ⟨J a h,?_⟩,rfl⟩;rw[(d.2 a h).2];rfl
 simp only;rw[C];simp only;rw[af w,A]
theorem Y8(H:jQ ts)(aR:b3 v):∀{t:Int} {m:Nat},(bF ts t v).length<=90000->cL ts false t v->eK ts t v<=m->eH ts m t (bF ts t v)=some v:=by
 induction aR with
 |mk v hs h1 a0 a6 L ba bb cV ab bd be aT J=>
 intro t m B aK E;have aP:=sM (ts:=ts) t v;obtain⟨m,rfl⟩:∃k,m=k+1:=⟨m-1,by omega⟩
 have p:=y0 (ts:=ts) t v;have M:∀q,q∈v.aG->(if v.aG=[]then 0 else 1)=1:=λq b=>al λe=>by rw[e]at b;cases b
 generalize (if v.aG=[]then 0 else 1)=kk at p M;obtain⟨⟨g1,g2,g3,_⟩,w⟩:=(hc _ _ _).1 aK;have o:t.toNat<ts.length:=by omega
 have F:=br o aN;have ar:=λh=>zo (ts:=ts) (t:=t) (v:=v) h;have au:=λh=>zp (ts:=ts) (t:=t) (v:=v) h;have av:=λh=>zq (ts:=ts) (t:=t) (v:=v) h;have aw:=λh=>zr (ts:=ts) (t:=t) (v:=v) h;have ax:=λh=>vN (ts:=ts) (t:=t) (v:=v) h;have ay:=λh=>s8 (ts:=ts) (t:=t) (v:=v) h;have aA:=λh=>s9 (ts:=ts) (t:=t) (v:=v) h;have aD:=λh=>ta (ts:=ts) (t:=t) (v:=v) h;have aE:=λh=>tb (ts:=ts) (t:=t) (v:=v) h;rw[I9];generalize bc:ts.getD t.toNat aN=x at*;have an:x.Kind=5->∀c,c<=gW ts x.ag v.ai->c<=m:=λh c w=>by rw[af h]at p;exact G0 p E w
 have ap:x.Kind=6->∀r,cU x.ag v.ae=some r->∀c,c<=eW ts r.aB v.ai->c<=m:=λh r bI c w=>by
  rw[al (by rw[h];decide),af h,bI]at p;exact G0 p E w
 have K:7<=x.Kind->∀c,c<=eW ts x.aC v.ai->c<=m:=λh c w=>by
  rw[al (λe=>by rw[e]at h;exact absurd h (by decide)),al (λe=>by rw[e]at h;exact absurd h (by decide))]at p;exact G0 p E w
 have aq:∀q,q∈v.aG->1<=m:=λq b=>by
  rw[M q b]at p;exact Z3 p E rfl
 clear p E aP M;have ah:∀{t:Int},(∀q,q∈v.ai->(bF ts t q).length<=90000/\cL ts false t q/\eK ts t q<=m)->dA (eH ts m t) (bL ts t v.ai)=some v.ai:=λ{t} ad=>CJ [] az (by rw[ky]) λj o=>by
  rw[ky]at o;rw[HY o];obtain⟨R,T,U⟩:=ad _ (br o az);exact J _ (br o az) R T U
 have aX:∀{t:Int},(∀q,q∈v.aG->(bF ts t q).length<=90000/\cL ts false t q/\eK ts t q<=m)->dA (eH ts m t) (bL ts t v.aG)=some v.aG:=λ{t} ad=>CJ [] az (by rw[ky]) λj o=>by
  rw[ky]at o;rw[HY o];obtain⟨R,T,U⟩:=ad _ (br o az);exact aT _ (br o az) R T U
 have O:∀{t:Int} {l:List I} {q:I},q∈l->bF ts t q∈bL ts t l:=λ{t l q} b=>by rw[Br];exact fT.2 ⟨q,b,rfl⟩
 unfold Gs;rcases w with f|f|f|f|f|f|f|f|f
 . rw[gh,ar (by omega)];obtain⟨a1,a2,a3,a4,a5,i,s⟩:=f;unfold Gn;cases a8:v.b5 with
   |true=>
    rw[af (show true=true from rfl),al (show ¬([1]:ao)=[] by simp),af (show([1]:ao)=[1]from rfl)];cases v;simp_all
   |false=>
    rw[al (show ¬false=true by simp),af (show([]:ao)=[]from rfl)];cases v;simp_all
 . obtain⟨a1,a2,a3,a4,a5,i,s,g,a9⟩:=f;rw[bR,gh,au (by omega)];have aS:=Z0 (n:=v.bo) ab;unfold Gp;rw[J4 (zd ab)];simp only;rw[aS,af ⟨g,a9⟩];cases v;simp_all
 . obtain⟨a1,a2,a3,a4,a5,i,s,g⟩:=f;rw[bR,bR,gh,av (by omega)];unfold Gq;rw[af g];cases v;simp_all
 . obtain⟨a1,a2,a3,a4,a5,i,s,g⟩:=f;have aJ:cK v.ae:=by
    rcases g with⟨y,aY,aZ⟩|⟨_,_,h⟩
    . rw[<-aZ];exact H.S _ F (by omega) y aY
    . exact h
   unfold cK at aJ;obtain⟨k,L⟩:∃k:Nat,v.ae=(k:Int):=⟨v.ae.toNat,by omega⟩
   rw[bR,bR,bR,gh,aw (by omega),L,a'];unfold Gr;rw[J4 (by omega)];simp only;have hs:((x.bg.any λy=>decide (y.ae=(k:Int)))||x.Open)=true:=by
    rcases g with q|⟨q,_⟩
    . rw[L]at q;rw[Ku.1 q];rfl
    . rw[q];simp
   rw[af ⟨by omega,by omega,hs⟩];cases v;simp_all
 . obtain⟨a1,a2,a3,a4,a5,i,s,g⟩:=f;obtain⟨Q,aW⟩:=H.A _ F (.inl (by omega));obtain⟨f1,f2⟩:=jZ.1 g;have Y:=ax (by omega);have D:((gR fq (fI ts x.ag v.ai v.Rest)).flatMap Fd.text).length<=90000:=by rw[<-Y];exact B
   rw[bR,bR,bR,bR,bR,bR,bR,bR,Y,Yo Q s f1 (λj P Z=>?_) D]
   . cases v;simp_all
   . have aQ:=br (by omega:j<v.ai.length) az;have aL:=G3 (ts:=ts) P (by omega:j<v.ai.length) Z;have:=IY ((mn fq _).mem_iff.2 (show _∈fI ts x.ag v.ai v.Rest from DU _ aL));exact J _ aQ (gz this D) (f2 j P) (an (by omega) _ (F3 P (by omega) Z))
 . obtain⟨a1,a2,a3,a4,a5,i⟩:=f;obtain⟨Q,aW⟩:=H.A _ F (.inr (by omega));rw[bR,bR,bR,bR,bR,gh];have G:=ay (by omega);unfold OY;cases bI:cU x.ag v.ae with
   |none=>
    rw[bI]at i G;obtain⟨b1,_,b2,W,d,aI⟩:=i;unfold cK at b2;obtain⟨k,C⟩:∃k:Nat,v.ae=(k:Int):=⟨v.ae.toNat,by omega⟩
    have aj:bF ts t v=e4 k++d:=by
     rw[G,aI,C,a'];rfl
    rw[aj,L8 (by omega)];simp only;rw[<-C,bI];simp only;rw[af b1];cases v;simp_all
   |some r=>
    rw[bI]at i G;obtain⟨b1,b2,W⟩:=i;obtain⟨d3,d4⟩:=nI bI;have hid:cK v.ae:=by rw[<-d4];exact Q.2 r d3
    unfold cK at hid;obtain⟨k,C⟩:∃k:Nat,v.ae=(k:Int):=⟨v.ae.toNat,by omega⟩
    match hN:v.ai,b2 with
    |[a],_=>
     have u:a∈v.ai:=by rw[hN];exact .head _
     have aj:bF ts t v=e4 k++bF ts r.aB a:=by
      rw[G,C,a'];show e4 k++(bL ts r.aB v.ai).headD []=_;rw[hN,bL];rfl
     have N:(bF ts r.aB a).length<=90000:=by
      rw[aj,db]at B;exact gz (Nat.le_add_left _ _) B
     rw[aj,L8 (by omega)];simp only;rw[<-C,bI];simp only;rw[J a u N (dk.1 W a u) (ap (by omega) r bI _ (sE u))];cases v;simp_all
 . obtain⟨a1,a2,a3,a4,a5,i,s,g,a9⟩:=f;have aj:=aA (by omega);have z:((bL ts x.aC v.ai).flatMap dS).length<=90000:=by rw[<-aj];exact B
   rw[bR,bR,bR,bR,bR,bR,gh,aj];unfold CM;rw[Ks z];simp only;rw[af (by rw[ky];exact g),ah λq b=>⟨gz (BW (O b)) z,dk.1 a9 q b,K (by omega) _ (sE b)⟩];cases v;simp_all
 . obtain⟨a1,a2,a3,a4,a5,i,s,g,a9,aF,aH⟩:=f;have aj:=aD (by omega);have a7:=H.q8 _ F (by omega);have D:(bL ts x.Key v.aG).length=(bL ts x.aC v.ai).length:=by rw[ky,ky];omega
   obtain⟨ak,am⟩:=Js D;have V:=IX _ _ D;rw[ky,ky]at V;have z:((l1 (bL ts x.Key v.aG) (bL ts x.aC v.ai)).flatMap dS).length<=90000:=by rw[<-F2,<-aj];exact B
   have aU:∀{a:ao} {l:List ao},a∈iq l->a∈l:=λh=>I6 h;have aV:∀{l:List ao} {a:ao},a∈iQ l->a∈l:=by
    intro l;induction l using iQ.induct with
    |case1 x y l ih=>
     intro a h;rw[iQ]at h;rcases e2.1 h with rfl|h
     . exact .tail _ (.head _)
     . exact .tail _ (.tail _ (ih h))
    |case2 l ad=>
     intro a h;rw[iQ]at h
     . cases h
     . exact ad
   have aM:∀q,q∈v.aG->eK ts x.Key q<=m:=λq b=>by
    have aO:=aq q b;have e:eK ts x.Key q=1:=by
     obtain⟨⟨_,_,bU,_⟩,aa⟩:=(hc _ _ _).1 (dk.1 a9 q b);refine Bs ?_ ?_
     . rcases aa with k|k|k|k|k|k|k|k|k
       . exact k.2.2.2.2.1
       . exact k.2.2.2.2.1
       . exact k.2.2.2.2.1
       . exact k.2.2.2.2.1
       all_goals (exfalso;omega)
     . rcases aa with k|k|k|k|k|k|k|k|k
       . exact k.2.2.2.2.2.1
       . exact k.2.2.2.2.2.1
       . exact k.2.2.2.2.2.1
       . exact k.2.2.2.2.2.1
       all_goals (exfalso;omega)
    rw[e];exact aO
   rw[bR,bR,bR,bR,bR,bR,bR,gh,aj,F2];unfold OZ;rw[Ks z];simp only;rw[af ⟨by rw[V];omega,by rw[V];omega⟩,ak,am,aX λq b=>⟨gz (BW (aU (by rw[ak];exact O b))) z,dk.1 a9 q b,aM q b⟩];simp only;rw[af (FX.2 aH),ah λq b=>⟨gz (BW (aV (by rw[am];exact O b))) z,dk.1 aF q b,K (by omega) _ (sE b)⟩];cases v;simp_all
 . obtain⟨a1,a2,a3,a4,a5,i,s,g,a9⟩:=f;have aj:=aE (by omega);rw[bR,bR,bR,bR,gh]
   match hN:v.ai,g with
   |[],_=>
    rw[hN,bL]at aj;rw[aj];cases v;simp_all [CN]
   |[a],_=>
    have u:a∈v.ai:=by rw[hN];exact .head _
    rw[hN,bL]at aj;have X:bF ts t v=1::bF ts x.aC a:=aj;have N:(bF ts x.aC a).length<=90000:=by
     rw[X,iP]at B;omega
    rw[X];show((if(1:UInt8)=1 then(eH ts m x.aC (bF ts x.aC a)).map _ else none):Option I)=_;rw[af rfl,J a u N (dk.1 a9 a u) (K (by omega) _ (sE u))];cases v;simp_all
end
theorem Wx{s:bl}(H:jQ s.Types)(e:b3 v)(f:wt v<=1099511627776)(d:cL s.Types false t v)(b:ue (s,t,v)=some 0):
 nD (s,t,v)=some (oh s.Types t v):=by
 have h1:=ZT H e f d;have c:ue ((⟨s.Types⟩:bl),t,v)=some 0:=b;rw[nD];simp only[I.bk];rw[c,h1];simp only[a8,aq];rw[ch];unfold oh;generalize bF s.Types t v=p;generalize eK s.Types t v=l;by_cases g:4096<p.length
 . rw [af (by have:(4096:Int)<p.length:= by omega
              simp[this]),af (.inl g)]
 . by_cases g2:200<l
   . rw [af (by have:¬ (4096:Int)<p.length:= by omega
                have a:(200:Int)<l:=by omega
                simp[this,a]),af (.inr g2)]
   . rw [al (by have:¬ (4096:Int)<p.length:= by omega
                have a:¬(200:Int)<l:=by omega
                simp[this,a]),bR]
theorem XO{s:bl}(H:jQ s.Types)(b:b3 v)(c:wt v<=1099511627776)(a:cL s.Types false t v)(f:w6 (s,t,v)=some 0):
 xz (s,t,v)=some (oh s.Types t v):=by
 have d:jU (s,t,v)=some (bF s.Types t v):=Hf H b c t a;have e:my (s,t,v)=_:=ZS H b c t a;rw[xz];simp only[I.bk];rw[f];simp only[a8,aq];rw[ch,d];simp only[aq];rw[e];unfold oh;generalize bF s.Types t v=p;generalize eK s.Types t v=l;by_cases g:4096<p.length
 . have:decide ((4096:Int)<p.length)=true:=by simp;omega
   rw[this,ch];simp only[aq,eS];rw[af trivial,af (.inl g)]
 . have:decide ((4096:Int)<p.length)=false:=by simp;omega
   rw[this,j7];simp only[aq,e'];by_cases g2:200<l
   . rw[cq,af (.inr g2)]
   . rw[dE,bR]
theorem Y9(H:dW ts)(a:L6 ts t v):nD ((⟨ts⟩:bl),t,v)=some (oh ts t v):=
 Wx (s:=⟨ts⟩) (H.V.iy H.T) a.2.1 (gz a.2.2 (by decide)) a.1 (Qb H.T H.V a.2.1 a.1)
theorem Y'(H:dW ts)(a:L6 ts t v):xz ((⟨ts⟩:bl),t,v)=some (oh ts t v):=
 XO (s:=⟨ts⟩) (H.V.iy H.T) a.2.1 (gz a.2.2 (by decide)) a.1 (YU H.T H.V a.2.1 a.1)
noncomputable def zS (ts:List ah)(t:Int)(m:ao):I×Int:=
 if t<0\/(ts.length:Int)<=t then(GJ,4)else if 4096<m.length then(GJ,12)else match eH ts 200 t m with
  |some v=>(v,0)
  |none=>(GJ,12)
section
variable {ts:List ah}
theorem XP(H:mR ts)(t:Int)(m:ao):xo ((⟨ts⟩:bl),t,m)=some (zS ts t m):=by
 rw[xo,Fm,(sG H.S.T H.V).1];simp only[a8,aq];unfold zS;by_cases h1:t<0\/(ts.length:Int)<=t
 . have c:(bif decide (t<0)then true else decide ((ts.length:Int)<=t))=true:=by rcases h1 with h1|h1<;>simp[h1]
   rw[ch,af c,af h1];rfl
 . have c:¬(bif decide (t<0)then true else decide ((ts.length:Int)<=t))=true:=by
    have a:¬t<0:=λh=>h1 (.inl h);have b:¬(ts.length:Int)<=t:=λh=>h1 (.inr h);simp[a,b]
   by_cases d:4096<m.length
   . rw[ch,al c,cq,al h1,af d];rfl
   . have d1:=Kv H 200 (by omega) t m [] 0 [] (by omega) (by omega) (by omega) rfl;rw[ch,al c,dE,al h1,al d];cases e:eH ts 200 t m with
     |none=>
      obtain⟨w,f1,f2,f⟩:=d1.2 e;rw[f];rfl
     |some v=>
      rw[d1.1 v e];simp[I.bk]
end
theorem CH{m:aU}(a:b3 v):rP (m,v)=some (dz m v):=by
 rw[rP];simp only[I.bk];unfold dz;cases b:m.bV with
 |false=>rfl
 |true=>
  obtain⟨r,c,d⟩:=Y4 a m.bz;grind
theorem F5(h:p.length<=100000:=by omega):uh p=some (dS p):=by
 rw[uh,h7,oW];have:=jY (n:=p.length) (by omega);simp only[a8,aq];rw[af (fW)];rfl
theorem Yp{id:Int}{c:Bool}(hid:cK id)(h:p.length<=4096):BT (id,c,p)=some (fR id.toNat c p,0):=by
 unfold cK at hid;obtain⟨n,rfl⟩:=Int.eq_ofNat_of_zero_le (by omega:0<=id);have a:¬(n:Int)<1:=by omega
 have b:¬(1000:Int)<n:=by omega
 rw[BT,al (by simp[a,b]),dE,Gg (by omega),a'];rfl
section
variable {ts:List ah}
theorem Gu:∀{ms:List aU} {l:List I},((dy ts ms l).map λf=>f.id).Sublist (ms.map λm=>m.ae.toNat)
 |[],l=>by rw[dy]<;>simp
 |m::ms,[]=>by rw[dy]<;>simp
 |m::ms,v::l=>by
  rw[dy];split
  . exact(Gu (ms:=ms) (l:=l)).cons _
  . exact(Gu (ms:=ms) (l:=l)).cons₂ _
theorem Yq{l:List I}(c:hD ms):(dy ts ms l).Pairwise (λa b=>a.id<b.id):=by
 have h1:(ms.map λm=>m.ae.toNat).Pairwise (· < ·):=nP.2 (c.1.imp_of_mem λ{a b} d e h=>by
  have:=c.2 a d;unfold cK at this
  omega)
 exact nP.1 (h1.sublist Gu)
theorem HZ(h:(ts.getD t.toNat aN).Kind=5)(c:v.Rest=[])(a:hD (ts.getD t.toNat aN).ag):bF ts t v=(dy ts (ts.getD t.toNat aN).ag v.ai).flatMap Fd.text:=by
 rw[vN h];have b:kG (ts.getD t.toNat aN).ag v.Rest:=by rw[c];exact⟨.nil,λx d=>by cases d⟩
 congr 1
 have e:fI ts (ts.getD t.toNat aN).ag v.ai v.Rest=dy ts (ts.getD t.toNat aN).ag v.ai:=by
  unfold fI;grind
 rw[<-e];refine Jn (JZ (xp a b) (IV a b)) ?_ λy=>(mn fq _).mem_iff;rw[e];exact Yq a
def jq(ts:List ah)(t:Int)(v:I):Prop:=k4 ((⟨ts⟩:bl),t,v)=some (bF ts t v)
theorem Of(b:∀m,m∈ms->cK m.ae)(ad:v.ai.length=ms.length)(f:ms.length<=1000)(d:∀y,y∈v.ai->b3 y)(hs:∀i,i<ms.length->dz (ms.getD i aD) (v.ai.getD i az)=false->(bF ts (ms.getD i aD).aB (v.ai.getD i az)).length<=4096/\jq ts (ms.getD i aD).aB (v.ai.getD i az)):
 ∀(k i:Nat) (acc:ao),i+k=ms.length->acc.length<=i*5000->
 qv (acc,ms,(ms.length:Int),(i:Int),ts,v)=some (acc++(dy ts (ms.drop i) (v.ai.drop i)).flatMap Fd.text)
 |0,i,acc,j,g=>by
  rw[qv,dE,fr (by omega:ms.length<=i),dy]
  . simp
  grind
 |k+1,i,acc,j,g=>by
  have aE:i<ms.length:=by omega
  have a:i<v.ai.length:=by omega
  have l:=br a az;rw[qv,cq,af (aS aE)];simp only[a8,aq,a',I.bk,iZ];rw[af (aS a),CH (d _ l),eD aE aD,eD a az,dy];have e:=λacc=>Of b ad f d hs k (i+1) acc (by omega);cases o:dz (ms.getD i aD) (v.ai.getD i az)with
  |true=>
   simp only[aq,dU,ca,b4,b7];rw[bH (by omega),e acc (by omega)]
  |false=>
   obtain⟨h1,c⟩:=hs i aE o;unfold jq at c;simp only[aq,fz,b7,ca,b4];rw[af (aS a),c];simp only[aq];rw[Yp (b _ (br aE aD)) (by omega)];simp only[aq];have hid:=b _ (br aE aD);unfold cK at hid;have a1:=ve (p:=bF ts (ms.getD i aD).aB (v.ai.getD i az)) (by omega);have a2:=zs (n:=2*(ms.getD i aD).ae.toNat+(if(ms.getD i aD).cv then 1 else 0)) (by split<;>omega);have q:(fR (ms.getD i aD).ae.toNat (ms.getD i aD).cv (bF ts (ms.getD i aD).aB (v.ai.getD i az))).length<=5000:=by
    unfold fR;grind
   rw[af (fW),bH (by omega),e _ (by rw[db];omega),jh];rfl
theorem Og(b:¬x.Kind=8)(ad:v.ai.length<=3000)(hs:∀y,y∈v.ai->(bF ts x.aC y).length<=4096/\jq ts x.aC y):
 ∀(k i:Nat) (acc:ao),i+k=v.ai.length->acc.length<=i*5000->
 k1 (acc,v.ai,(v.ai.length:Int),(i:Int),ts,v,x)=some (acc++(bL ts x.aC (v.ai.drop i)).flatMap dS)
 |0,i,acc,d,c=>by
  rw[k1,dE,fr (by omega:v.ai.length<=i),bL];simp
 |k+1,i,acc,d,c=>by
  have aE:i<v.ai.length:=by omega
  obtain⟨h1,a⟩:=hs _ (br aE az);unfold jq at a;rw[k1,cq,af (aS aE)];simp only[a8,aq,a',I.bk];have a1:=ve (p:=bF ts x.aC (v.ai.getD i az)) (by omega);rw[al (by simp[b]),a];simp only[aq];rw[F5];simp only[aq];rw[af (fW),bH (by omega),Og b ad hs k (i+1) _ (by omega) (by rw[db];omega),eD aE az,bL,hO,jh]
theorem Ma(d:x.Kind=8)(j:v.ai.length=v.aG.length)(ad:v.ai.length<=3000)(hs:∀y,y∈v.ai->(bF ts x.aC y).length<=4096/\jq ts x.aC y)(e:∀y,y∈v.aG->(bF ts x.Key y).length<=4096/\jq ts x.Key y):
 ∀(k i:Nat) (acc:ao),i+k=v.ai.length->acc.length<=i*9000->
 k1 (acc,v.ai,(v.ai.length:Int),(i:Int),ts,v,x)=some (acc++gw (bL ts x.Key (v.aG.drop i)) (bL ts x.aC (v.ai.drop i)))
 |0,i,acc,g,f=>by
  rw[k1,dE,fr (by omega:v.ai.length<=i),fr (by omega:v.aG.length<=i),bL,bL,gw]
  . simp
  grind
 |k+1,i,acc,g,f=>by
  have aE:i<v.ai.length:=by omega
  have a:i<v.aG.length:=by omega
  obtain⟨h1,b⟩:=hs _ (br aE az);obtain⟨l,c⟩:=e _ (br a az);unfold jq at b c;rw[k1,cq,af (aS aE)];simp only[a8,aq,a',I.bk];have a1:=ve (p:=bF ts x.aC (v.ai.getD i az)) (by omega);have a2:=ve (p:=bF ts x.Key (v.aG.getD i az)) (by omega);rw[af (by simp[d]),af (aS a),c];simp only[aq];rw[F5];simp only[aq];rw[af (fW),b];simp only[aq];rw[F5];simp only[aq];rw[af (fW (by rw[db];omega)),bH (by omega),Ma d j ad hs e k (i+1) _ (by omega) (by rw[db,db];omega),eD aE az,eD a az,bL,bL,gw,jh,jh]
theorem Za(H:jQ ts)(k:b3 v)(g:cL ts true t v)(cu:v.Kind<=4):jT (t,v,1,ts,0)=some (bF ts t v,ts,1):=by
 obtain⟨⟨g1,g2,g3,_⟩,b⟩:=(hc _ _ _).1 g;have a:cx v.bo:=by cases k with|mk _ _ _ _ _ _ _ _ _ a _ _=>exact a
 obtain⟨j,rfl⟩:∃j:Nat,t=(j:Int):=⟨t.toNat,by omega⟩
 have c:j<ts.length:=by omega
 have i:=br c aN;have l:=@zo ts (j:Int) v;have d:=@zp ts (j:Int) v;have m:=@zq ts (j:Int) v;have e:=@zr ts (j:Int) v;rw[jT];simp only[a8,aq];rw[af (aS c),show iw 0 1=1 by decide];simp only[a',I.bk]at g3 b l d m e⊢;generalize ts.getD j aN=x at*;rcases b with h|h|h|h|h|h|h|h|h
 . grind
 . rw[al (mt gk (by omega)),af (ji (by omega)),d (by omega),B6 a];simp only[aq];have f:=zd a;obtain⟨n,aP⟩:∃n:Nat,gB v.bo=(n:Int):=⟨(gB v.bo).toNat,by unfold gB;split<;>omega⟩
   rw[aP,a']at f;rw[aP,B7 f];rfl
 . grind
 . obtain⟨n,aP,ad⟩:∃n:Nat,v.ae=(n:Int)/\n<=1000:=by
    rcases h.2.2.2.2.2.2.2 with⟨y,o,p⟩|⟨_,h,_⟩
    . have:=H.S x i (by omega) y o;unfold cK at this;grind
    . cases h
   rw[al (mt gk (by omega)),al (mt gk (by omega)),al (mt gk (by omega)),af (ji (by omega)),e (by omega),aP,h7,B7 (by omega),a'];rfl
 all_goals omega
theorem Z8(H:dW ts)(b:b3 v)(a:cL ts true t v)(hs:(bF ts t v).length<=4096)(cu:v.Kind<=4):nD ((⟨ts⟩:bl),t,v)=some (bF ts t v,0):=by
 rw[nD];simp only[I.bk];rw[Qb H.T H.V b (qX _ _ a)];simp only[a8,aq];rw[ch,Za (H.V.iy H.T) b a cu];grind
theorem Mb(H:dW ts)(w:b3 v):∀t,cL ts true t v->(bF ts t v).length<=4096->jq ts t v:=by
 have z:=H.V.iy H.T;have P:=w;induction w with
 |mk v hs h1 Y Z L g ab cV aj ak am Q o=>
  intro t C c;obtain⟨⟨g1,g2,g3,g4⟩,K⟩:=(hc _ _ _).1 C;obtain⟨j,rfl⟩:∃j:Nat,t=(j:Int):=⟨t.toNat,by omega⟩
  have E:j<ts.length:=by omega
  have p:=br E aN;have B:=g4 rfl;have ah:=Z8 H P C c;have aa:=H.M _ p;have s:=(H.cr _ p).2.2;unfold jq;rw[k4,af (aS E)];simp only[a8,aq,I.bk];rw[a']at*;rcases K with h|h|h|h|h|h|h|h|h
  . grind
  . grind
  . grind
  . grind
  . obtain⟨a1,a2,a3,a4,a5,d,r,f⟩:=h;obtain⟨k,R⟩:=z.A _ p (.inl (by omega));obtain⟨f1,f2⟩:=jZ.1 f;rw[HZ (by rw[a'];omega) B (by rw[a'];exact k),a']at c
    have h0:=Of (ts:=ts) (ms:=(ts.getD j aN).ag) (v:=v) k.2 f1 (by omega) g (λi D N=>by
     have F:=br (by omega:i<v.ai.length) az;have ad:=gz (G4 (ts:=ts) i D (by omega) N) c
     exact⟨ad,o _ F (g _ F) _ (f2 i D) ad⟩) (ts.getD j aN).ag.length 0 [] (by omega) (by simp)
    have l:qv ([],(ts.getD j aN).ag,((ts.getD j aN).ag.length:Int),0,ts,v)=_:=h0;rw[af (ji (by omega)),l];rw[HZ (by rw[a'];omega) B (by rw[a'];exact k),a'];rfl
  . obtain⟨a1,a2,a3,a4,a5,d⟩:=h;obtain⟨k,R⟩:=z.A _ p (.inr (by omega));cases bI:cU (ts.getD j aN).ag v.ae with
    |none=>rw[bI]at d;cases d.2.1
    |some m=>
     rw[bI]at d;obtain⟨b1,b2,J⟩:=d;obtain⟨d3,d4⟩:=nI bI;obtain⟨q,S,U,W⟩:=DG k (by omega) bI;have hid:=k.2 m d3;unfold cK at hid;have b:=br (by omega:0<v.ai.length) az;have O:bL ts m.aB v.ai=[bF ts m.aB (v.ai.getD 0 az)]:=by
      match w:v.ai,b2 with
      |[a],_=>rw[bL,bL];rfl
     have z1:(bF ts m.aB (v.ai.getD 0 az)).length<=4096:=by
      rw[s8 (t:=(j:Int)) (v:=v) (by rw[a'];omega),a',bI,db]at c;simp only[O,List.headD_cons]at c;omega
     have z2:=o _ b (g _ b) m.aB (dk.1 J _ b) z1;unfold jq at z2;obtain⟨n,aP⟩:∃n:Nat,v.ae=(n:Int):=⟨v.ae.toNat,by omega⟩
     have:=zs (n:=n) (by omega);rw[al (mt gk (by omega)),af (ji (by omega)),U];simp only[aq];rw[aP,h7,oW];simp only[aq];rw[af (aS S),af (by rw[b2];rfl),a',W,show(0:Int).toNat=0 from rfl,z2];simp only[aq];rw[af (fW),s8 (t:=(j:Int)) (v:=v) (by rw[a'];omega),a',bI,aP,a'];grind
  . obtain⟨a1,a2,a3,a4,a5,d,r,f,a9⟩:=h
    have h0:=Og (ts:=ts) (x:=ts.getD j aN) (v:=v) (by omega) (by omega) (λy b=>by
     rw[s9 (by rw[a'];omega),a']at c;have ad:=gz (GK (ts:=ts) (t:=(ts.getD j aN).aC) b) c
     exact⟨ad,o _ b (g _ b) _ (dk.1 a9 y b) ad⟩) v.ai.length 0 [] (by omega) (by simp)
    have l:k1 ([],v.ai,(v.ai.length:Int),0,ts,v,ts.getD j aN)=_:=h0;rw[al (mt gk (by omega)),al (mt gk (by omega)),al (mt gk (by omega)),af (ji (by omega)),af (ji (by omega)),l,s9 (by rw[a'];omega),a'];rfl
  . obtain⟨a1,a2,a3,a4,a5,d,r,f,a9,G,X⟩:=h;rw[ta (by rw[a'];omega),a']at c;have e:(bL ts (ts.getD j aN).Key v.aG).length=(bL ts (ts.getD j aN).aC v.ai).length:=by rw[ky,ky];omega
    have h0:=Ma (ts:=ts) (x:=ts.getD j aN) (v:=v) (by omega) f (by omega) (λy b=>by
     have ad:=gz (CI e (.inr (xQ b))) c;exact⟨ad,o _ b (g _ b) _ (dk.1 G y b) ad⟩) (λy b=>by
     have ad:=gz (CI e (.inl (xQ b))) c
     exact⟨ad,Q _ b (L _ b) _ (dk.1 a9 y b) ad⟩) v.ai.length 0 [] (by omega) (by simp)
    have l:k1 ([],v.ai,(v.ai.length:Int),0,ts,v,ts.getD j aN)=_:=h0;rw[al (mt gk (by omega)),al (mt gk (by omega)),al (mt gk (by omega)),al (mt gk (by omega)),af (ji (by omega)),l,ta (by rw[a'];omega),a'];rfl
  . obtain⟨a1,a2,a3,a4,a5,d,r,f,a9⟩:=h;rw[al (mt gk (by omega)),al (mt gk (by omega)),af (ji (by omega)),tb (by rw[a'];omega),a']
    match s:v.ai,f with
    |[],_=>
     rw[uK,ch,bL];rfl
    |[a],_=>
     have u:a∈v.ai:=by rw[s];exact .head _
     have z1:(bF ts (ts.getD j aN).aC a).length<=4096:=by
      rw[tb (by rw[a'];omega),a',s,bL,bL,iP]at c;omega
     have z2:=o _ u (g _ u) _ (dk.1 a9 a u) z1;unfold jq at z2;rw[uK,j7,af (show aI 0 [a].length=true from rfl)];simp only[I.bk];rw[show[a].getD (Int.toNat 0) az=a from rfl,z2];simp only[a8,aq];rw[af (fW (by show 1+(bF ts (ts.getD j aN).aC a).length<=_;omega)),show aQ .i64 0 1=1 from by decide,uK,al (show ¬decide ((1:Int)<([a].length:Int))=true from by simp),bL,bL];rfl
end
theorem H0{a0 a2 a4 z0 z2 z4:Int}{a1 z1:Bool}{a3 z3:ao}{l l2:List I}{r:List b6}(ad:l.length<=1000000000)(h:∀y,y∈l->jW y=some y):∀(k i:Nat),i+k=l.length->
 rN ((l.length:Int),(i:Int),a0,a1,a2,a3,a4,z0,z1,z2,z3,z4,l,l2,r)=some (a0,a1,a2,a3,a4,z0,z1,z2,z3,z4,l,l2,r)
 |0,i,a=>by rw[rN,dE]
 |k+1,i,a=>by
  have aE:i<l.length:=by omega
  rw[rN,cq,af (aS aE),a',cq];simp only[I.bk];rw[h _ (br aE az)];simp only[a8,aq,I.bk];rw[af (aS aE),cq,bH (by omega),CG aE];exact H0 ad h k (i+1) (by omega)
theorem H2{a0 a2 a4 z0 z2 z4:Int}{a1 z1:Bool}{a3 z3:ao}{l l2:List I}{r:List b6}(ad:l.length<=1000000000)(h:∀y,y∈l->jW y=some y):∀(k i:Nat),i+k=l.length->
 rO ((l.length:Int),(i:Int),a0,a1,a2,a3,a4,z0,z1,z2,z3,z4,l,l2,r)=some (a0,a1,a2,a3,a4,z0,z1,z2,z3,z4,l2,l,r)
 |0,i,a=>by rw[rO,dE]
 |k+1,i,a=>by
  have aE:i<l.length:=by omega
  rw[rO,cq,af (aS aE),a',cq];simp only[I.bk];rw[h _ (br aE az)];simp only[a8,aq,I.bk];rw[af (aS aE),cq,bH (by omega),CG aE];exact H2 ad h k (i+1) (by omega)
theorem XQ(f:b3 v):wt v<=1000000000->jW v=some v:=by
 induction f with
 |mk v hs h1 k m o n p cV w x z i g=>
  intro q;have s:=hz v;have t:=zu v.aG;have l2:=zu v.ai;have u:=J7 v.Rest;have kk:∀y,y∈v.aG->jW y=some y:=λy a=>i y a (by have:=fx a;omega);have j:∀y,y∈v.ai->jW y=some y:=λy a=>g y a (by have:=fx a;omega);have c1:gg 120 v.aG=some v.aG:=by unfold gg;rw[af (oN (uX))]
  have c2:gg 120 v.ai=some v.ai:=by unfold gg;rw[af (oN (uX))]
  have c3:gg 24 v.Rest=some v.Rest:=by unfold gg;rw[af (oN (uX))]
  have b:=H0 (a0:=v.Kind) (a1:=v.b5) (a2:=v.bo) (a3:=v.bx) (a4:=v.ae) (z0:=0) (z1:=false) (z2:=0) (z3:=[]) (z4:=0) (l:=v.aG) (l2:=v.ai) (r:=v.Rest) (by omega) kk v.aG.length 0 (by omega);have d:=H2 (a0:=v.Kind) (a1:=v.b5) (a2:=v.bo) (a3:=v.bx) (a4:=v.ae) (z0:=0) (z1:=false) (z2:=0) (z3:=[]) (z4:=0) (l:=v.ai) (l2:=v.aG) (r:=v.Rest) (by omega) j v.ai.length 0 (by omega);have c:rN ((v.aG.length:Int),0,v.Kind,v.b5,v.bo,v.bx,v.ae,0,false,0,[],0,v.aG,v.ai,v.Rest)=_:=b;have e:rO ((v.ai.length:Int),0,v.Kind,v.b5,v.bo,v.bx,v.ae,0,false,0,[],0,v.ai,v.aG,v.Rest)=_:=d;rw[jW,c1,c2,c3];simp only[a8,aq];rw[c];simp only[aq];rw[e];simp only[aq];cases v;rfl
theorem Oz(aj:path.length<=90000)(a:au):rM (tw,tr,a,path)=some ((⟨0,false,0,[],0,[],[],[]⟩:I),false,tw,tr,path,path):=by
 rw[rM];unfold sr gg;rw[af (oN (dB (by omega) (by omega)))];simp
theorem Ch(aj:path.length<=90000)(id:Int)(a:au):uH (id,tw,tr,a,path)=some ((⟨0,false,0,[],0,[],[],[]⟩:I),false,tw,tr,path,path++[id]):=by
 rw[uH];unfold sr gg;rw[af (oN (dB (by omega) (by omega)))];simp only[lW,a8,aq];rw[j7,af (dB)]
theorem Ci(ad:x.ag.length<=1000)(id:Int):hG (x,id)=some (lQ x.ag id):=by
 obtain⟨r,a,b⟩:=xk (t:=x) (id:=id) (by omega);rw[a,Fo b (I' _ _)]
section
variable {tw tr:List ah}
def fN(tw tr:List ah)(a path:au):I ⊕ au->I×Bool×List ah×List ah×au×au
 |.inl u=>(u,true,tw,tr,a,path)
 |.inr p=>(⟨0,false,0,[],0,[],[],[]⟩,false,tw,tr,p,path)
def C5(tw tr:List ah)(a path:au)(acc:List I):List I ⊕ au->(Bool×List ah×List ah×au×au) ⊕ (List ah×List ah×au×List I×au)
 |.inl us=>.inr (tw,tr,a,acc++us,path)
 |.inr p=>.inl (false,tw,tr,p,path)
def n4(tw tr:List ah)(a path:au):List I ⊕ au->List I×Bool×List ah×List ah×au×au
 |.inl us=>(us,true,tw,tr,a,path)
 |.inr p=>([],false,tw,tr,p,path)
def Part(tw tr:List ah)(f:fO)(path:au)(t rt:Int)(v:I):Prop:=∀(step:Int) (a:au),pU (step,t,v,rt,tw,tr,a,path)=some (fN tw tr a path (f t v rt (path++[step])))
theorem Ju{step:Int}{a:au}{o:I ⊕ au}(aj:path.length<=90000)(h:rQ (t,v,rt,tw,tr,a,path++[step])=some (fN tw tr a (path++[step]) o)):pU (step,t,v,rt,tw,tr,a,path)=some (fN tw tr a path o):=by
 rw[pU];simp only[a8,aq,I.bk];rw[af (dB),h];have aK:dL .i64 ((path++[step]).length:Int) 1=(path.length:Int):=by rw[iL (by simp<;>omega) (by simp<;>omega)];simp
 have b:ez 0 (path.length:Int) (path++[step]).length=true:=iI.2 (by simp;omega);cases o with
 |inl u=>
  simp only[aq,I.bk,fN];simp_all
 |inr p=>
  simp only[aq,I.bk,fN];simp_all
theorem Qc{l:List I}(ad:l.length<=50000)(h:∀y,y∈l->Part tw tr f path t rt y):∀(k i:Nat) (acc:List I) (a:au),i+k=l.length->acc.length<=i->
 rD (t,rt,l,(l.length:Int),(i:Int),tw,tr,a,acc,path)=some (C5 tw tr a path acc (e0 f path t rt i (l.drop i)))
 |0,i,acc,a,c,b=>by
  rw[rD,dE,fr (by omega:l.length<=i)];simp[e0,C5]
 |k+1,i,acc,a,c,b=>by
  have aE:i<l.length:=by omega
  rw[rD,cq,af (aS aE),a'];simp only[I.bk];rw[h _ (br aE az),eD aE az,e0];cases f t (l.getD i az) rt (path++[(i:Int)])with
  |inr p=>rfl
  |inl u=>
   simp only[a8,aq,fN,dU,I.bk];rw[ch,af (dB),bH (by omega),Qc ad h k (i+1) _ a (by omega) (by simp;omega)];cases e0 f path t rt (i+1) (l.drop (i+1))with
   |inr p=>rfl
   |inl us=>simp[C5,iJ]
theorem xR{l:List I}(ad:l.length<=50000)(h:∀y,y∈l->Part tw tr f path t rt y)(a:au):
 np (t,l,rt,tw,tr,a,path)=some (n4 tw tr a path (e0 f path t rt 0 l)):=by
 have h0:=Qc ad h l.length 0 [] a (by omega) (by simp);have b:rD (t,rt,l,(l.length:Int),0,tw,tr,a,[],path)=_:=h0;rw[np,b,hl];cases e0 f path t rt 0 l with
 |inr p=>rfl
 |inl us=>rfl
def tp(tw tr:List ah)(a path:au)(x:ah)(v:I)(y:ah)(acc:List I):List I ⊕ au->(Bool×List ah×List ah×au×I×au) ⊕ (List ah×List ah×au×ah×I×ah×Int×Bool×Int×ao×Int×Int×Bool×Int×ao×Int×au×List I)
 |.inl us=>.inr (tw,tr,a,x,v,y,0,false,0,[],0,v.Kind,false,0,[],0,path,acc++us)
 |.inr p=>.inl (false,tw,tr,p,⟨0,false,0,[],0,[],[],[]⟩,path)
theorem Jv(aj:path.length<=90000)(r:x.ag.length<=1000)(C:y.ag.length<=1000)(ad:v.ai.length=x.ag.length)(o:∀q,q∈v.ai->b3 q)
 (e:∀n,n∈y.ag->n.bV=true->jW n.bz=some n.bz)
 (h:∀i,i<x.ag.length->∀n,n∈y.ag->Part tw tr f path (x.ag.getD i aD).aB n.aB (v.ai.getD i az)/\∀p u,f (x.ag.getD i aD).aB (v.ai.getD i az) n.aB p= .inl u->b3 u):∀(k j:Nat) (acc:List I) (a:au),j+k=y.ag.length->acc.length<=j->
 ov (y.ag,(y.ag.length:Int),(j:Int),tw,tr,a,x,v,y,0,false,0,[],0,v.Kind,false,0,[],0,path,acc)=some (tp tw tr a path x v y acc (iS f x v path (y.ag.drop j)))
 |0,j,acc,a,A,t=>by
  rw[ov,dE,fr (by omega:y.ag.length<=j)];simp[iS,tp,I.bk]
 |k+1,j,acc,a,A,t=>by
  have aE:j<y.ag.length:=by omega
  have g:=br aE aD;have s:=λacc a=>Jv aj r C ad o e h k (j+1) acc a (by omega);rw[ov,cq,af (aS aE),a'];simp only[a8,aq,I.bk,iZ];rw[Ci r,eD aE aD,iS];unfold vB lQ;generalize aP:y.ag.getD j aD=n at*;cases bI:gP x.ag n.ae with
  |none=>
   simp only[aq,fz];rw[af trivial];cases z:n.bV with
   |false=>
    simp only[fz];rw[af trivial,Ch aj];rfl
   |true=>
    simp only[dU];rw[ch,e n g z];simp only[aq];rw[af (dB),bH (by omega),s _ _ (by simp;omega),af trivial];cases iS f x v path (y.ag.drop (j+1))with
    |inr p=>rfl
    |inl us=>simp[tp,iJ]
  |some i=>
   obtain⟨c,_,_⟩:=j0 bI;have d:i<v.ai.length:=(by omega);obtain⟨D,E⟩:=h i c n g;simp only[aq,dU];rw[ch,af (aS c),af (aS d),a',D n.ae a];have l:=CH (m:=x.ag.getD i aD) (o _ (br d az));cases w:f (x.ag.getD i aD).aB (v.ai.getD i az) n.aB (path++[n.ae])with
   |inr p=>
    simp only[aq,fN,I.bk,fz,dU,Bool.and_false];rw[af (aS c),af (aS d),l];simp only[aq,ca,b4];rw[Jo];generalize dz (x.ag.getD i aD) (v.ai.getD i az)=b at*;cases b with
    |false=>rfl
    |true=>
     simp only[eS];rw[af trivial,Ch aj];rfl
   |inl u=>
    have B:=CH (m:=n) (E _ u w);simp only[aq,fN,I.bk,fz,dU,Az];rw[af (aS c),af (aS d),l];simp only[aq,ca,b4];rw[Jp];generalize dz (x.ag.getD i aD) (v.ai.getD i az)=b at*;have tail:(some [u]>>=λt110=>if room 120 (acc++t110).length then ov (y.ag,(y.ag.length:Int),aQ .i64 (j:Int) 1,tw,tr,a,x,v,y,0,false,0,[],0,v.Kind,false,0,[],0,path,acc++t110)else none)=some (tp tw tr a path x v y acc (iJ (.inl u) (iS f x v path (y.ag.drop (j+1))))):=by
     simp only[a8,aq];rw[af (dB),bH (by omega),s _ _ (by simp;omega)];cases iS f x v path (y.ag.drop (j+1))with
     |inr p=>rfl
     |inl us=>simp[tp,iJ]
    cases b with
    |false=>grind
    |true=>
     rw[af rfl,B];cases F:dz n u with
     |true=>grind
     |false=>
      simp only[aq,eS,e',fz,and_self,b7];rw[Ch aj];rfl
def zI(tw tr:List ah)(a path:au)(v:I)(its:List I)(acc:List b6):List b6 ⊕ au->(Bool×List ah×List ah×I×au×au) ⊕ (List ah×List ah×au×Int×Bool×Int×ao×Int×Int×Bool×Int×ao×Int×au×List I×List b6)
 |.inl b=>.inr (tw,tr,a,0,false,0,[],0,v.Kind,false,0,[],0,path,its,acc++b)
 |.inr p=>.inl (false,tw,tr,⟨0,false,0,[],0,[],[],[]⟩,path,p)
theorem Jw(aj:path.length<=90000)(m:x.ag.length<=1000)(f:y.ag.length<=1000)(ad:v.ai.length=x.ag.length)(e:∀q,q∈v.ai->b3 q)
 (h:∀i,i<x.ag.length->jq tw (x.ag.getD i aD).aB (v.ai.getD i az)){its:List I}(b:au):∀(k i:Nat) (acc:List b6),i+k=x.ag.length->acc.length<=i->
 nb (x.ag,(x.ag.length:Int),(i:Int),tw,tr,b,v,y,0,false,0,[],0,v.Kind,false,0,[],0,path,its,acc)=some (zI tw tr b path v its acc (h5 tw y path (x.ag.drop i) (v.ai.drop i)))
 |0,i,acc,j,g=>by
  rw[nb,dE,fr (by omega:x.ag.length<=i),h5]
  . simp[zI]
  grind
 |k+1,i,acc,j,g=>by
  have aE:i<x.ag.length:=by omega
  have a:i<v.ai.length:=by omega
  have c:=λacc=>Jw aj m f ad e h (its:=its) b k (i+1) acc (by omega);rw[nb,cq,af (aS aE),a'];simp only[a8,aq,I.bk,iZ];rw[Ci f,eD aE aD,eD a az,h5];have hs:=vd y.ag (x.ag.getD i aD).ae;have l:(lQ y.ag (x.ag.getD i aD).ae).2=(cU y.ag (x.ag.getD i aD).ae).isSome:=by
   rw[<-hs];unfold lQ;grind
  simp only[aq];rw[l];by_cases c1:(cU y.ag (x.ag.getD i aD).ae).isSome=true
  . rw[af c1,af c1,bH (by omega),c _ (by omega)]
  rw[al c1,al c1];by_cases c2:(x.ag.getD i aD).cv=true
  . rw[af c2,af c2,Ch aj];rfl
  rw[al c2,al c2,af (aS a),CH (e _ (br a az))];simp only[aq];cases dz (x.ag.getD i aD) (v.ai.getD i az)with
  |true=>rw[ch,af rfl,bH (by omega),c _ (by omega)]
  |false=>
   have d:=h i aE;unfold jq at d;rw[af (show(!false)=true from rfl),al (show ¬false=true by simp),af (aS a),d];simp only[aq];rw[af (dB),bH (by omega),c _ (by simp;omega)];cases h5 tw y path (x.ag.drop (i+1)) (v.ai.drop (i+1))with
   |inr p=>rfl
   |inl us=>simp[zI,iJ]
theorem XR(aj:path.length<=90000)(cW:v.Kind=5)(c:x.ag.length<=1000)(d:y.ag.length<=1000)(ad:v.ai.length=x.ag.length)(b:∀q,q∈v.ai->b3 q)
 (j:∀n,n∈y.ag->n.bV=true->jW n.bz=some n.bz)
 (h:∀i,i<x.ag.length->∀n,n∈y.ag->Part tw tr f path (x.ag.getD i aD).aB n.aB (v.ai.getD i az)/\∀p u,f (x.ag.getD i aD).aB (v.ai.getD i az) n.aB p= .inl u->b3 u)
 (k:∀i,i<x.ag.length->jq tw (x.ag.getD i aD).aB (v.ai.getD i az))(a:au):
 wY (x,v,y,tw,tr,a,path)=some (fN tw tr a path (vA tw f x y v path)):=by
 have h0:=Jv aj c d ad b j h y.ag.length 0 [] a (by simp) (by simp);have e:ov (y.ag,y.ag.length,0,tw,tr,a,x,v,y,0,false,0,[],0,v.Kind,false,0,[],0,path,[])=_:=h0;rw[wY];simp[I.bk];rw[e,hl];unfold vA;cases iS f x v path _ with
 |inr p=>rfl
 |inl its=>
  have h1:=Jw (tr:=tr) aj c d ad b k (its:=its) a x.ag.length 0 [] (by simp) (by simp);have g:nb (x.ag,x.ag.length,0,tw,tr,a,v,y,0,false,0,[],0,v.Kind,false,0,[],0,path,its,[])=_:=h1;simp only[a8,aq,tp,hZ];rw[g,hl,hl];cases h5 tw y path _ v.ai with
  |inr p=>rfl
  |inl r=>simp_all[zI,mb,iv,fN]
theorem Yr(aj:path.length<=90000)(da:v.Kind=6)(d:x.ag.length<=1000)(e:y.ag.length<=1000)(h1:v.ai.length=1){i:Nat}(a:gP x.ag v.ae=some i)
 (h:∀n,n∈y.ag->Part tw tr f path (x.ag.getD i aD).aB n.aB (v.ai.getD 0 az))
 (j:jq tw (x.ag.getD i aD).aB (v.ai.getD 0 az))(b:au):
 xw (x,v,y,tw,tr,b,path)=some (fN tw tr b path (s3 tw f x y v path)):=by
 obtain⟨g,_,_⟩:=j0 a;have c:aI 0 v.ai.length=true:=by rw[h1];rfl
 rw[xw,Ci d,Ci e];unfold s3 lQ;simp only[a8,aq,I.bk,a];cases bI:gP y.ag v.ae with
 |some k=>
  obtain⟨bb,_,_⟩:=j0 bI;simp only;rw[af trivial,af (aS g),af c,af (aS bb),a',a',show(0:Int).toNat=0 from rfl,h _ (br bb aD)];cases f _ (v.ai.getD 0 az) (y.ag.getD k aD).aB _ with
  |inr p=>
   rfl
  |inl u=>
   simp_all[fN,dU,iv,I.bk,al]
 |none=>
  cases y.Open with
  |false=>
   simp_all[af,Oz,ca,b4,fN]
  |true=>
   simp_all[jq,dU,al,af,aS,a',aq,b7,fN]
def zK(tw tr:List ah)(n:Nat):Prop:=∀{v:I},b3 v->∀{t rt:Int} {path:au} (a:au),cL tw true t v->gZ tw n t v->0<=rt->rt<tr.length->path.length+n<=50000->
 rQ (t,v,rt,tw,tr,a,path)=some (fN tw tr a path (er tw tr n t v rt path))
theorem Ys(ec:dW tw)(c':dW tr){n:Nat}(ih:zK tw tr n):zK tw tr (n+1):=by
 intro v ay t rt path e K ar aZ U aj;unfold gZ at ar;obtain⟨⟨z1,aX,aY⟩,M,O,H⟩:=ar;have SW:=ec.V.iy ec.T;have cm:=c'.V.iy c'.T;have aQ:=hz v;obtain⟨⟨g1,g2,g3,g4⟩,X⟩:=(hc _ _ _).1 K;obtain⟨j,rfl⟩:∃j:Nat,t=(j:Int):=⟨t.toNat,by omega⟩
 obtain⟨k,rfl⟩:∃k:Nat,rt=(k:Int):=⟨rt.toNat,by omega⟩
 have Z:j<tw.length:=by omega
 have aa:k<tr.length:=by omega
 have ab:=br Z aN;have o:=br aa aN;have aO:=g4 rfl;cases ay with
 |mk _ hs h1 aL aM ap B aP cV aU aV aW=>
 rw[rQ,af (aS Z),BL];simp only[a8,aq,a',I.bk];rw[a']at g3 X M O H;rw[af (aS aa)];have an:∀q,q∈(tr.getD k aN).ag->q.bV=true->jW q.bz=some q.bz:=λq a ao=>XQ ((c'.T _ o).im _ a) (by have:=c'.W _ o q a ao;omega);generalize aR:tw.getD j aN=x at*;generalize aT:tr.getD k aN=y at*;have L:∀{t rt:Int} {q:I},q∈v.ai->cL tw true t q->gZ tw n t q->0<=rt->rt<tr.length->Part tw tr (er tw tr n) path t rt q:=λ{t rt q} a K R a0 a1 step e=>Ju (by omega) (ih (B q a) e K R a0 a1 (by simp;omega));have aF:∀{t rt:Int} {q:I},q∈v.aG->cL tw true t q->gZ tw n t q->0<=rt->rt<tr.length->Part tw tr (er tw tr n) path t rt q:=λ{t rt q} a K R a0 a1 step e=>Ju (by omega) (ih (ap q a) e K R a0 a1 (by simp;omega));have F:=Oz (tw:=tw) (tr:=tr) (path:=path) (by omega) e;by_cases bJ:x.Kind=y.Kind
 . rw[al (show ¬(!(decide (x.Kind=y.Kind)))=true by simp[bJ])];have N:∀{t rt:Int},v.ai=[]->np (t,v.ai,rt,tw,tr,e,path)=some ([],true,tw,tr,e,path):=λ{t rt} he=>by
    have:=xR (tw:=tw) (tr:=tr) (f:=er tw tr n) (path:=path) (t:=t) (rt:=rt) (l:=v.ai) (by omega) (λq a=>by rw[he]at a;cases a) e;rw[this,he];rfl
   rcases X with h|h|h|h|h|h|h|h|h
   . obtain⟨a1,a2,a3,a4,a5,d,C⟩:=h;have b:x.Kind=1:=(by omega);have ad:jl x y v:=⟨λh=>by omega,λh=>by omega,λh=>by omega⟩
     rw[qH bJ (by omega) ad];simp only[b];simp only[N d,aq,dF,ca,b4,Int.reduceEq,dU,fN];cases v;simp_all
   . obtain⟨a1,a2,a3,a4,a5,d,C,D,a9⟩:=h;have b:x.Kind=2:=(by omega);by_cases ad:y.bE<=v.bo/\v.bo<=y.bG
     . rw[qH bJ (by omega) (show jl x y v from⟨λ_=>ad,λh=>by omega,λh=>by omega⟩)];simp only[b];simp only[N d,ad.1,ad.2,aq,dF,ds,ca,b4,b7,Int.reduceEq,dU,eS,fN];cases v;simp_all
     . rw[uY bJ (by omega) (show ¬jl x y v fromλh=>ad (h.1 b))];have J:(bif decide (y.bE<=v.bo)then decide (v.bo<=y.bG)else false)=false:=by
        by_cases c:y.bE<=v.bo<;>simp[c];omega
       simp only[b,J];simp only[F,aq,ds,b7,fz,fN,I.bk]
   . obtain⟨a1,a2,a3,a4,a5,d,C,D⟩:=h;have b:x.Kind=3:=(by omega);by_cases ad:(v.bx.length:Int)<=y.Max
     . rw[qH bJ (by omega) (show jl x y v from⟨λh=>by omega,λ_=>ad,λh=>by omega⟩)];simp only[b];simp only[N d,ad,aq,dF,ds,ca,b4,b7,Int.reduceEq,dU,eS,fN];cases v;simp_all
     . rw[uY bJ (by omega) (show ¬jl x y v fromλh=>ad (h.2.1 b))];simp only[b];simp only[F,ad,aq,ds,dF,b7,b4,Int.reduceEq,ca,fz,fN,I.bk]
   . obtain⟨a1,a2,a3,a4,a5,d,C,D⟩:=h;have b:x.Kind=4:=(by omega);obtain⟨r,U,_,aI⟩:=ur (t:=y) v.ae (by have:=(c'.T _ o).1;have:=dM (e9 reachBytes);omega);have G:r.2=true↔∃s,s∈y.bg/\s.ae=v.ae:=by
      rcases aI with⟨q,g,S,_,rfl⟩|⟨q,rfl⟩
      . exact⟨λ_=>⟨_,br g dR,S⟩,λ_=>rfl⟩
      . constructor
        . intro h;simp at h
        intro a;obtain⟨s,s1,aJ⟩:=a;obtain⟨i,B,rfl⟩:=jf s1;exact absurd aJ (by have:=q i B;rwa [fG B]at this)
     by_cases ad:(∃s,s∈y.bg/\s.ae=v.ae)\/y.Open=true
     . rw[qH bJ (by omega) (show jl x y v from⟨λh=>by omega,λh=>by omega,λ_=>ad⟩)];have J:(bif r.2 then true else y.Open)=true:=by
        rcases ad with ad|ad
        . rw[G.2 ad];rfl
        . rw[ad];cases r.2<;>rfl
       simp only[b,U];simp only[N d,J,aq,dF,ds,ca,b4,b7,Int.reduceEq,dU,fN];cases v;simp_all
     . rw[uY bJ (by omega) (show ¬jl x y v fromλh=>ad (h.2.2 b))];have J:(bif r.2 then true else y.Open)=false:=by
        cases aw:r.2 with
        |true=>exact absurd (.inl (G.1 aw)) ad
        |false=>
         cases au:y.Open with
         |true=>exact absurd (.inr au) ad
         |false=>rfl
       simp only[b,U];simp only[F,J,aq,ds,dF,b7,b4,Int.reduceEq,ca,fz,fN,I.bk]
   . obtain⟨a1,a2,a3,a4,a5,d,C,D⟩:=h;have b:x.Kind=5:=(by omega);obtain⟨ah,aA⟩:=SW.A _ ab (.inl (by omega));obtain⟨aB,aE⟩:=cm.A _ o (.inl (by omega));obtain⟨f1,f2⟩:=jZ.1 D
     have G:=XR (tw:=tw) (tr:=tr) (f:=er tw tr n) (path:=path) (by omega) (x:=x) (y:=y) a1 (by omega) (by omega) f1 B an (λi E q a=>by
      have w:=br (by omega:i<v.ai.length) az;obtain⟨z,g⟩:=c'.il.mem o a;exact⟨L w (f2 i E) (M b i E) z g,λp u ax=>(Jd ec c' n (B _ w) (f2 i E) (M b i E) z g ax).1⟩) (λi E=>by
      have w:=br (by omega:i<v.ai.length) az
      exact Mb ec (B _ w) _ (f2 i E) (M b i E).len) e
     rw[OG bJ b];simp only[b,G,aq,dF,ds,ca,b4,b7,Int.reduceEq,I.bk]
   . obtain⟨a1,a2,a3,a4,a5,d⟩:=h;have b:x.Kind=6:=(by omega);obtain⟨ah,aA⟩:=SW.A _ ab (.inr (by omega));obtain⟨aB,aE⟩:=cm.A _ o (.inr (by omega));cases bI:cU x.ag v.ae with
     |none=>rw[bI]at d;cases d.2.1
     |some m=>
      rw[bI]at d;obtain⟨b1,b2,am⟩:=d;have Q:=vd x.ag v.ae;rw[bI]at Q;cases P:gP x.ag v.ae with
      |none=>rw[P]at Q;cases Q
      |some i=>
      obtain⟨d1,d2,_⟩:=j0 P;obtain⟨d3,d4⟩:=nI bI;have em:x.ag.getD i aD=m:=u0 ah (br d1 aD) d3 (by rw[d2,d4]);have w:=br (by omega:0<v.ai.length) az;have Y:=dk.1 am _ w
      have G:=Yr (tw:=tw) (tr:=tr) (f:=er tw tr n) (path:=path) (by omega) (x:=x) (y:=y) a1 (by omega) (by omega) b2 P (λq a=>by
       obtain⟨z,g⟩:=c'.il.mem o a;rw[em]
       exact L w Y (O b _ bI _ w) z g) (by rw[em];exact Mb ec (B _ w) _ Y (O b _ bI _ w).len) e
      rw[OH bJ b];simp only[b,G,aq,dF,ds,ca,b4,b7,Int.reduceEq,I.bk]
   . obtain⟨a1,a2,a3,a4,a5,d,C,D,a9⟩:=h;have b:x.Kind=7:=(by omega);obtain⟨z,g⟩:=c'.il.elem o (by omega);have a:=xR (tw:=tw) (tr:=tr) (f:=er tw tr n) (path:=path) (t:=x.aC) (rt:=y.aC) (l:=v.ai) (by omega) (λq a=>L a (dk.1 a9 q a) ((H (by omega)).1 q a) z g) e;rw[OI bJ b];unfold zh;by_cases ad:(v.ai.length:Int)<=y.Max
     . rw[af ad];simp only[b,a,ad,aq,dF,ds,ca,b4,b7,Int.reduceEq,dU];cases e0 (er tw tr n) path x.aC y.aC 0 v.ai with
       |inr p=>rfl
       |inl us=>simp only[n4,iv,fN,dU,ca,b4,a1,a2,a3,a4,a5]
     . rw[al ad];simp only[b];simp only[F,ad,aq,ds,dF,b7,b4,Int.reduceEq,ca,fz,fN,I.bk]
   . obtain⟨a1,a2,a3,a4,a5,d,C,D,a9,ak,aK⟩:=h;have b:x.Kind=8:=(by omega);obtain⟨z,g⟩:=c'.il.elem o (by omega);obtain⟨S,aH⟩:=c'.il.key o (by omega);have a:=xR (tw:=tw) (tr:=tr) (f:=er tw tr n) (path:=path) (t:=x.aC) (rt:=y.aC) (l:=v.ai) (by omega) (λq a=>L a (dk.1 ak q a) ((H (by omega)).1 q a) z g) e;have av:=xR (tw:=tw) (tr:=tr) (f:=er tw tr n) (path:=path) (t:=x.Key) (rt:=y.Key) (l:=v.aG) (by omega) (λq a=>aF a (dk.1 a9 q a) ((H (by omega)).2 q a) S aH) e;rw[OJ bJ b];unfold zi;by_cases ad:(v.ai.length:Int)<=y.Max
     . rw[af ad];simp only[b,av,ad,aq,dF,ds,ca,b4,b7,Int.reduceEq,dU];cases e0 (er tw tr n) path x.Key y.Key 0 v.aG with
       |inr p=>rfl
       |inl ks=>
        simp only[n4,mb,dU,ca,b4,a,aq];cases e0 (er tw tr n) path x.aC y.aC 0 v.ai with
        |inr p=>rfl
        |inl us=>simp only[n4,iv,fN,dU,ca,b4,a1,a2,a3,a4,a5]
     . rw[al ad];simp only[b];simp only[F,ad,aq,ds,dF,b7,b4,Int.reduceEq,ca,fz,fN,I.bk]
   . obtain⟨a1,a2,a3,a4,a5,d,C,D,a9⟩:=h;have b:x.Kind=9:=(by omega);obtain⟨z,g⟩:=c'.il.elem o (by omega);have a:=xR (tw:=tw) (tr:=tr) (f:=er tw tr n) (path:=path) (t:=x.aC) (rt:=y.aC) (l:=v.ai) (by omega) (λq a=>L a (dk.1 a9 q a) ((H (by omega)).1 q a) z g) e;rw[OK bJ b];unfold zj;simp only[b,a,aq,dF,ds,ca,b4,b7,Int.reduceEq,dU];cases e0 (er tw tr n) path x.aC y.aC 0 v.ai with
     |inr p=>rfl
     |inl us=>simp only[n4,iv,fN,dU,ca,b4,a1,a2,a3,a4,a5]
 . rw[af (show(!(decide (x.Kind=y.Kind)))=true by simp[bJ]),L9 bJ,F];simp only[aq,I.bk,fN]
theorem Yt:zK tw tr 0:=by
 intro v _ _ _ _ _ _ h;cases h
theorem Jx(ec:dW tw)(c':dW tr):∀n,zK tw tr n
 |0=>Yt
 |n+1=>Ys ec c' (Jx ec c' n)
end
def hS:I ⊕ au->dJ
 |.inl u=>⟨u,[],true⟩
 |.inr p=>⟨⟨0,false,0,[],0,[],[],[]⟩,p,false⟩
theorem BX(aj:path.length<=90000):kt path=some (hS (.inr path)):=by
 rw[kt,af (dB (by simp) (by grind))];rfl
theorem zg(aj:path.length<=90000)(step:Int):p3 (path,step)=some (path++[step]):=by
 rw[p3,af (dB (by simp) (by grind)),hZ];simp only[a8,aq];rw[af (dB (by simp) (by grind))]
theorem Ec{m:aU}(a:b3 m.bz)(v:I):uE (m,v)=some (dz m v):=by
 rw[uE];simp[I.bk];unfold dz;cases b:m.bV with
 |false=>rfl
 |true=>
  obtain⟨r,c,d⟩:=Y3 a v;grind
theorem Cj(ad:x.ag.length<=1000)(id:Int):ib (x,id)=some (lQ x.ag id):=by
 obtain⟨r,a,b⟩:=PE (t:=x) (id:=id) (by omega);grind[Fo,I']
section
variable {tw tr:List ah}
def n5(tw tr:List ah)(f:fO)(path:au)(t rt:Int)(v:I):Prop:=∀step:Int,mA ((⟨tw⟩:bl),t,v,(⟨tr⟩:bl),rt,path++[step])=some (hS (f t v rt (path++[step])))
def C2(tw tr:List ah)(path:au)(x y:ah)(v:I)(acc:List I):List I ⊕ au->dJ ⊕ (au×List ah×I×List ah×Int×Bool×Int×ao×Int×Bool×ah×ah×Int×Bool×Int×ao×Int×List b6×List I)
 |.inl us=>.inr (path,tw,v,tr,0,false,0,[],0,false,x,y,v.Kind,v.b5,v.bo,v.bx,v.ae,v.Rest,acc++us)
 |.inr p=>.inl (hS (.inr p))
theorem Jy(aj:path.length<=90000)(ad:v.aG.length<=50000)(h:∀q,q∈v.aG->n5 tw tr f path x.Key y.Key q):∀(k i:Nat) (acc:List I),i+k=v.aG.length->acc.length<=i->
 ni (path,(i:Int),tw,v,tr,0,false,0,[],0,false,x,y,v.Kind,v.b5,v.bo,v.bx,v.ae,v.Rest,acc)=some (C2 tw tr path x y v acc (e0 f path x.Key y.Key i (v.aG.drop i)))
 |0,i,acc,b,a=>by
  simp_all[ni,al,fr,e0,C2,I.bk]
 |k+1,i,acc,b,a=>by
  have aE:i<v.aG.length:=by omega
  rw[ni,af (by grind),af (aS aE),a',zg aj];simp only[I.bk,a8,aq];rw[h _ (br aE az),eD aE az,e0];cases f x.Key (v.aG.getD i az) y.Key (path++[(i:Int)])with
  |inr p=>rfl
  |inl u=>
   simp only[aq,hS];rw[af (dB (by simp) (by grind)),bH (by omega),Jy aj ad h k (i+1) _ (by omega) (by grind)];cases e0 f path x.Key y.Key (i+1) (v.aG.drop (i+1))with
   |inr p=>rfl
   |inl us=>simp[C2,iJ]
def C1(v:I)(ks acc:List I):List I ⊕ au->dJ ⊕ (Int×Bool×Int×ao×Int×Bool×Int×Bool×Int×ao×Int×List b6×List I×List I)
 |.inl us=>.inr (0,false,0,[],0,false,v.Kind,v.b5,v.bo,v.bx,v.ae,v.Rest,ks,acc++us)
 |.inr p=>.inl (hS (.inr p))
theorem Je(aj:path.length<=90000)(ad:v.ai.length<=50000)(h:∀q,q∈v.ai->n5 tw tr f path x.aC y.aC q){ks:List I}:∀(k i:Nat) (acc:List I),i+k=v.ai.length->acc.length<=i->
 nj (path,(i:Int),tw,v,tr,0,false,0,[],0,false,x,y,v.Kind,v.b5,v.bo,v.bx,v.ae,v.Rest,ks,acc)=some (C1 v ks acc (e0 f path x.aC y.aC i (v.ai.drop i)))
 |0,i,acc,b,a=>by
  simp_all[nj,al,e0,C1]
 |k+1,i,acc,b,a=>by
  have aE:i<v.ai.length:=by omega
  rw[nj,af (by grind),af (aS aE),a',zg aj];simp only[I.bk,a8,aq];rw[h _ (br aE _),eD aE az,e0];cases f _ _ _ _ with
  |inr p=>rfl
  |inl u=>
   simp only[aq,hS];rw[af (dB (by simp) (by grind)),bH (by omega),Je aj ad h k (i+1) _ (by omega) (by grind)];cases e0 f path x.aC y.aC (i+1) _ with
   |inr p=>rfl
   |inl us=>simp[C1,iJ]
def l0(f:fO)(x y:ah)(v:I)(path:au):I ⊕ au:=
 mb (λks=>iv (λa=>⟨v.Kind,v.b5,v.bo,v.bx,v.ae,ks,a,v.Rest⟩) (e0 f path x.aC y.aC 0 v.ai)) (e0 f path x.Key y.Key 0 v.aG)
theorem sy(aj:path.length<=90000)(d:v.aG.length<=50000)(ad:v.ai.length<=50000)(c:∀q,q∈v.aG->n5 tw tr f path x.Key y.Key q)(h:∀q,q∈v.ai->n5 tw tr f path x.aC y.aC q):
 (∃p,l0 f x y v path= .inr p/\ni (path,0,tw,v,tr,0,false,0,[],0,false,x,y,v.Kind,v.b5,v.bo,v.bx,v.ae,v.Rest,[])=some (.inl (hS (.inr p))))\/
 ∃ks,ni (path,0,tw,v,tr,0,false,0,[],0,false,x,y,v.Kind,v.b5,v.bo,v.bx,v.ae,v.Rest,[])=some (.inr (path,tw,v,tr,0,false,0,[],0,false,x,y,v.Kind,v.b5,v.bo,v.bx,v.ae,v.Rest,ks))/\
  ((∃p,l0 f x y v path= .inr p/\nj (path,0,tw,v,tr,0,false,0,[],0,false,x,y,v.Kind,v.b5,v.bo,v.bx,v.ae,v.Rest,ks,[])=some (.inl (hS (.inr p))))\/
  ∃us,l0 f x y v path= .inl ⟨v.Kind,v.b5,v.bo,v.bx,v.ae,ks,us,v.Rest⟩/\nj (path,0,tw,v,tr,0,false,0,[],0,false,x,y,v.Kind,v.b5,v.bo,v.bx,v.ae,v.Rest,ks,[])=some (.inr (0,false,0,[],0,false,v.Kind,v.b5,v.bo,v.bx,v.ae,v.Rest,ks,us))):=by
 have h0:=Jy aj d c v.aG.length 0 [] (by simp) (by simp);have a:ni (path,0,tw,v,tr,0,false,0,[],0,false,x,y,v.Kind,v.b5,v.bo,v.bx,v.ae,v.Rest,[])=_:=h0;rw[a,hl];unfold l0;cases e0 f _ _ _ 0 v.aG with
 |inr p=>exact .inl ⟨p,rfl,rfl⟩
 |inl ks=>
  have h1:=Je aj ad h (ks:=ks) v.ai.length 0 [] (by simp) (by simp);have b:nj (path,0,tw,v,tr,0,false,0,[],0,false,x,y,v.Kind,v.b5,v.bo,v.bx,v.ae,v.Rest,ks,[])=_:=h1;refine .inr ⟨ks,by rfl,?_⟩;rw[b,hl];cases e0 f _ _ _ 0 _ with
  |inr p=>exact .inl ⟨p,rfl,rfl⟩
  |inl us=>exact .inr ⟨us,rfl,by rfl⟩
def tq(tw:List ah)(path:au)(x y:ah)(v:I)(acc:List I):List I ⊕ au->dJ ⊕ (au×List ah×ah×I×ah×Int×Bool×Int×ao×Int×Bool×Int×Bool×Int×ao×Int×List I)
 |.inl us=>.inr (path,tw,x,v,y,0,false,0,[],0,false,v.Kind,false,0,[],0,acc++us)
 |.inr p=>.inl (hS (.inr p))
theorem Jz{path:au}(aj:path.length<=80000)(m:x.ag.length<=1000)(w:y.ag.length<=1000)(ad:v.ai.length=x.ag.length)
 (d:∀n,n∈x.ag->b3 n.bz)(e:∀n,n∈y.ag->b3 n.bz)
 (h:∀i,i<x.ag.length->∀n,n∈y.ag->n5 tw tr f path (x.ag.getD i aD).aB n.aB (v.ai.getD i az)):∀(k j:Nat) (acc:List I),j+k=y.ag.length->acc.length<=j->
 oC (path,(j:Int),tw,x,v,tr,y,0,false,0,[],0,false,v.Kind,false,0,[],0,acc)=some (tq tw path x y v acc (iS f x v path (y.ag.drop j)))
 |0,j,acc,s,q=>by
  simp_all[oC,al,fr,iS,tq,I.bk]
 |k+1,j,acc,s,q=>by
  have aE:j<y.ag.length:=by omega
  have g:=br aE aD;have o:=λacc=>Jz aj m w ad d e h k (j+1) acc (by omega);rw[oC,af (by grind),af (aS aE),a'];simp only[a8,aq,I.bk,iZ];rw[zg (by omega),Cj m,eD aE aD,iS];unfold vB lQ;have r:=e _ g;generalize aP:y.ag.getD j aD=n at*;have M:=BX (path:=path++[n.ae]) (by grind);cases bI:gP x.ag n.ae with
  |none=>
   simp only[aq,fz,eS];cases C:n.bV with
   |false=>
    rw[M,al (show ¬false=true by simp)];rfl
   |true=>
    rw[af trivial,af (dB (by simp) (by grind)),bH (by omega),o _ (by grind),af (show true=true from rfl)];cases iS f x v path (y.ag.drop (j+1))with
    |inr p=>rfl
    |inl us=>simp[tq,iJ]
  |some i=>
   obtain⟨a,_,_⟩:=j0 bI;have c:i<v.ai.length:=(by omega);have z:=h i a n g;simp only[aq,dU,e'];rw[ch,ch,af (aS a),af (aS c),a',z n.ae];have l:=Ec (d _ (br a aD)) (v.ai.getD i az);cases B:f (x.ag.getD i aD).aB (v.ai.getD i az) n.aB (path++[n.ae])with
   |inr p=>
    simp only[aq,hS,I.bk,fz,dU,Bool.and_false];rw[af (aS a),af (aS c),l];rw[Jo];generalize dz (x.ag.getD i aD) (v.ai.getD i az)=b at*;cases b with
    |false=>rfl
    |true=>
     simp only[eS];rw[af trivial,M];rfl
   |inl u=>
    have t:=Ec r u;simp only[aq,hS,I.bk,fz,dU,Az];rw[af (aS a),af (aS c),l];simp only[aq,ca,b4];rw[Jp];generalize dz (x.ag.getD i aD) (v.ai.getD i az)=b at*;have tail:(some [u]>>=λt110=>if room 120 (acc++t110).length then oC (path,aQ .i64 (j:Int) 1,tw,x,v,tr,y,0,false,0,[],0,false,v.Kind,false,0,[],0,acc++t110)else none)=some (tq tw path x y v acc (iJ (.inl u) (iS f x v path (y.ag.drop (j+1))))):=by
     simp only[a8,aq];rw[af (dB (by simp) (by grind)),bH (by omega),o _ (by grind)];cases iS f x v path (y.ag.drop (j+1))with
     |inr p=>rfl
     |inl us=>simp[tq,iJ]
    cases b with
    |false=>
     grind
    |true=>
     rw[af rfl,t];cases A:dz n u with
     |true=>
      grind
     |false=>
      rw[M];rfl
def zJ(v:I)(its:List I)(acc:List b6):List b6 ⊕ au->dJ ⊕ (Int×Bool×Int×ao×Int×Bool×Int×Bool×Int×ao×Int×List I×List b6)
 |.inl a=>.inr (0,false,0,[],0,false,v.Kind,false,0,[],0,its,acc++a)
 |.inr p=>.inl (hS (.inr p))
theorem JA(aj:path.length<=80000)(l:x.ag.length<=1000)(d:y.ag.length<=1000)(ad:v.ai.length=x.ag.length)(c:∀n,n∈x.ag->b3 n.bz)
 (h:∀i,i<x.ag.length->kp tw (v.ai.getD i az) (x.ag.getD i aD).aB){its:List I}:∀(k i:Nat) (acc:List b6),i+k=x.ag.length->acc.length<=i->
 nh (path,(i:Int),tw,x,v,y,0,false,0,[],0,false,v.Kind,false,0,[],0,its,acc)=some (zJ v its acc (h5 tw y path (x.ag.drop i) (v.ai.drop i)))
 |0,i,acc,g,f=>by
  simp_all[nh,al,fr,h5,zJ]
 |k+1,i,acc,g,f=>by
  have aE:i<x.ag.length:=by omega
  have a:i<v.ai.length:=by omega
  have b:=λacc=>JA aj l d ad c h (its:=its) k (i+1) acc (by omega);rw[nh,af (by grind),af (aS aE),a'];simp only[a8,aq,I.bk,iZ];rw[Cj d,eD aE aD,eD a az,h5];have hs:=vd y.ag (x.ag.getD i aD).ae;have j:(lQ y.ag (x.ag.getD i aD).ae).2=(cU y.ag (x.ag.getD i aD).ae).isSome:=by
   grind[lQ]
  simp only[aq];rw[j];by_cases c1:(cU y.ag (x.ag.getD i aD).ae).isSome=true
  . rw[af c1,af c1,bH (by omega),b _ (by omega)]
  rw[al c1,al c1];by_cases c2:(x.ag.getD i aD).cv=true
  . rw[af c2,af c2,zg (by omega)];simp only[aq];rw[BX (by grind)];rfl
  rw[al c2,al c2,af (aS a),Ec (c _ (br aE aD))];simp only[aq];cases dz (x.ag.getD i aD) (v.ai.getD i az)with
  |true=>
   rw[ch,af rfl,bH (by omega),b _ (by omega)]
  |false=>
   have e:=h i aE;rw[af (aS a),e];simp only[aq];rw[af (dB (by simp)),bH (by omega),b _ (by simp;omega)];cases h5 tw y path _ _ with
   |inr p=>rfl
   |inl us=>simp[zJ,iJ]
theorem XS(aj:path.length<=80000)(cW:v.Kind=5)(b:x.ag.length<=1000)(c:y.ag.length<=1000)(ad:v.ai.length=x.ag.length)
 (a:∀n,n∈x.ag->b3 n.bz)(d:∀n,n∈y.ag->b3 n.bz)
 (h:∀i,i<x.ag.length->∀n,n∈y.ag->n5 tw tr f path (x.ag.getD i aD).aB n.aB (v.ai.getD i az))
 (j:∀i,i<x.ag.length->kp tw (v.ai.getD i az) (x.ag.getD i aD).aB):
 xy ((⟨tw⟩:bl),x,v,(⟨tr⟩:bl),y,path)=some (hS (vA tw f x y v path)):=by
 have h0:=Jz aj b c ad a d h y.ag.length 0 [] (by simp) (by simp);have e:oC (path,0,tw,x,v,tr,y,0,false,0,[],0,false,v.Kind,false,0,[],0,[])=_:=h0;rw[xy];simp only[I.bk];rw[e,hl];unfold vA;cases iS f x v path _ with
 |inr p=>rfl
 |inl its=>
  have h1:=JA aj b c ad a j (its:=its) x.ag.length 0 [] (by simp) (by simp);have g:nh (path,0,tw,x,v,y,0,false,0,[],0,false,v.Kind,false,0,[],0,its,[])=_:=h1;simp[a8,aq,tq,hZ,I.bk];rw[g,hl,hl];cases h5 tw y path _ v.ai with
  |inr p=>rfl
  |inl r=>simp_all[zJ,mb,iv,hS,ny,I.bk]
theorem Yu(aj:path.length<=80000)(da:v.Kind=6)(e:x.ag.length<=1000)(g:y.ag.length<=1000)(h1:v.ai.length=1){i:Nat}(a:gP x.ag v.ae=some i)
 (h:∀n,n∈y.ag->n5 tw tr f path (x.ag.getD i aD).aB n.aB (v.ai.getD 0 az))
 (d:kp tw (v.ai.getD 0 az) (x.ag.getD i aD).aB):
 w5 ((⟨tw⟩:bl),x,v,(⟨tr⟩:bl),y,path)=some (hS (s3 tw f x y v path)):=by
 obtain⟨c,_,_⟩:=j0 a;have b:aI 0 v.ai.length=true:=by rw[h1];rfl
 rw[w5,Cj e,Cj g];unfold s3 lQ;simp only[a8,aq,I.bk,a];cases bI:gP y.ag v.ae with
 |some k=>
  obtain⟨bb,_,_⟩:=j0 bI;rw[ch,ch,af (aS c),af b,af (aS bb),a',a',show(0:Int).toNat=0 from rfl,zg (by omega)];simp only[aq];rw[h _ (br bb aD)];cases f _ _ _ _ with
  |inr p=>
   rfl
  |inl u=>
   simp_all[aq,hS,dU,iv,I.bk,ny,al]
 |none=>
  simp only[fz,eS];cases y.Open with
  |false=>
   rw[BX (by omega)];rfl
  |true=>
   rw[af trivial,af (aS c),af b,a',show(0:Int).toNat=0 from rfl,d];simp_all[aq,b7,hS,ny,I.bk]
def zL(tw tr:List ah)(n:Nat):Prop:=∀{v:I},b3 v->wt v<=2147483648->∀{t rt:Int} {path:au},cL tw true t v->gZ tw n t v->0<=rt->rt<tr.length->path.length+n<=50000->
 mA ((⟨tw⟩:bl),t,v,(⟨tr⟩:bl),rt,path)=some (hS (er tw tr n t v rt path))
theorem XT(ec:dW tw)(c':dW tr){n:Nat}(ih:zL tw tr n):zL tw tr (n+1):=by
 intro v aA aU t rt path K ar ba X aj;unfold gZ at ar;obtain⟨⟨z1,a6,a7⟩,Z,aa,H⟩:=ar;have SW:=ec.V.iy ec.T;have cm:=c'.V.iy c'.T;have aV:=hz v;obtain⟨⟨g1,g2,g3,g4⟩,ab⟩:=(hc _ _ _).1 K;obtain⟨j,rfl⟩:∃j:Nat,t=(j:Int):=⟨t.toNat,by omega⟩
 obtain⟨k,rfl⟩:∃k:Nat,rt=(k:Int):=⟨rt.toNat,by omega⟩
 have ak:j<tw.length:=by omega
 have am:k<tr.length:=by omega
 have Q:=br ak aN;have u:=br am aN;have aR:=g4 rfl;cases aA with
 |mk _ hs h1 aP aQ aw E aT cV aX aY aZ=>
 rw[mA,af (aS ak),BL];simp only[a8,aq,a',I.bk];rw[a']at g3 ab Z aa H;rw[af (aS am)];have au:=(ec.T _ Q).im;have av:=(c'.T _ u).im;generalize aW:tw.getD j aN=x at*;generalize N:tr.getD k aN=y at*;have Y:∀y,y∈v.ai->wt y<=2147483648:=λy N=>by have:=fx N;omega
 have aM:∀y,y∈v.aG->wt y<=2147483648:=λy N=>by have:=fx N;omega
 have L:∀{t rt:Int} {q:I},q∈v.ai->cL tw true t q->gZ tw n t q->0<=rt->rt<tr.length->n5 tw tr (er tw tr n) path t rt q:=λ{t rt q} a K S a0 a1 step=>ih (E q a) (Y q a) K S a0 a1 (by simp;omega);have aH:∀{t rt:Int} {q:I},q∈v.aG->cL tw true t q->gZ tw n t q->0<=rt->rt<tr.length->n5 tw tr (er tw tr n) path t rt q:=λ{t rt q} a K S a0 a1 step=>ih (aw q a) (aM q a) K S a0 a1 (by grind);have F:=BX (path:=path) (by omega);have D:(kt path).bind (λr=>some (⟨r.Value,r.Path,r.eB⟩:dJ))=some (hS (.inr path)):=by rw[F];rfl
 by_cases bJ:x.Kind=y.Kind
 . rw[al (show ¬(!(decide (x.Kind=y.Kind)))=true by simp[bJ])];have O:v.aG=[]->v.ai=[]->l0 (er tw tr n) x y v path= .inl v:=λaK J=>by
    unfold l0;cases v;simp_all [e0,mb,iv]
   rcases ab with h|h|h|h|h|h|h|h|h
   case' inl=>
    obtain⟨a1,a2,a3,a4,a5,d,w⟩:=h;have b:x.Kind=1:=(by omega);have ad:jl x y v:=⟨λh=>by omega,λh=>by omega,λh=>by omega⟩
    have C:=sy (tw:=tw) (tr:=tr) (f:=er tw tr n) (path:=path) (by omega) (x:=x) (y:=y) (v:=v) (by omega) (by omega) (λq a=>by rw[a5]at a;cases a) (λq a=>by rw[d]at a;cases a);rw[qH bJ (by omega) ad,<-O a5 d];simp only[b,Int.reduceEq,dF,ds,e',eS,ca,b4,b7]
   case' inr.inl=>
    obtain⟨a1,a2,a3,a4,a5,d,w,B,a9⟩:=h;have b:x.Kind=2:=(by omega);by_cases ad:y.bE<=v.bo/\v.bo<=y.bG
    case' neg=>
     have g:(bif decide (v.bo<y.bE)then true else decide (y.bG<v.bo))=true:=by
      by_cases c:v.bo<y.bE<;>simp[c];omega
     rw[uY bJ (by omega) (show ¬jl x y v fromλh=>ad (h.1 b))];simp only[b,g,Int.reduceEq,dF,ds,e',eS,ca,b4,b7];exact D
    case' pos=>
     have g:(bif decide (v.bo<y.bE)then true else decide (y.bG<v.bo))=false:=by
      have c1:¬v.bo<y.bE:=(by omega);have c2:¬y.bG<v.bo:=(by omega);simp[c1,c2]
     have C:=sy (tw:=tw) (tr:=tr) (f:=er tw tr n) (path:=path) (by omega) (x:=x) (y:=y) (v:=v) (by omega) (by omega) (λq a=>by rw[a5]at a;cases a) (λq a=>by rw[d]at a;cases a);rw[qH bJ (by omega) (show jl x y v from⟨λ_=>ad,λh=>by omega,λh=>by omega⟩),<-O a5 d];simp only[b,g,Int.reduceEq,dF,ds,e',eS,ca,b4,b7]
   case' inr.inr.inl=>
    obtain⟨a1,a2,a3,a4,a5,d,w,B⟩:=h;have b:x.Kind=3:=(by omega);by_cases ad:(v.bx.length:Int)<=y.Max
    case' neg=>
     have g:decide (y.Max<(v.bx.length:Int))=true:=ji (by omega);rw[uY bJ (by omega) (show ¬jl x y v fromλh=>ad (h.2.1 b))];simp only[b,g,Int.reduceEq,dF,ds,e',eS,ca,b4,b7];exact D
    case' pos=>
     have g:decide (y.Max<(v.bx.length:Int))=false:=sW (by omega);have C:=sy (tw:=tw) (tr:=tr) (f:=er tw tr n) (path:=path) (by omega) (x:=x) (y:=y) (v:=v) (by omega) (by omega) (λq a=>by rw[a5]at a;cases a) (λq a=>by rw[d]at a;cases a);rw[qH bJ (by omega) (show jl x y v from⟨λh=>by omega,λ_=>ad,λh=>by omega⟩),<-O a5 d];simp only[b,g,Int.reduceEq,dF,ds,e',eS,ca,b4,b7]
   case' inr.inr.inr.inl=>
    obtain⟨a1,a2,a3,a4,a5,d,w,B⟩:=h;have b:x.Kind=4:=(by omega);obtain⟨r,_,X,aJ⟩:=ur (t:=y) v.ae (by have:=(c'.T _ u).1;have:=dM (e9 reachBytes);omega);have G:r.2=true↔∃s,s∈y.bg/\s.ae=v.ae:=by
     rcases aJ with⟨q,l,W,_,rfl⟩|⟨q,rfl⟩
     . exact⟨λ_=>⟨_,br l dR,W⟩,λ_=>rfl⟩
     . constructor
       . intro h;simp at h
       intro a;obtain⟨s,s1,aL⟩:=a;obtain⟨i,E,rfl⟩:=jf s1;exact absurd aL (by have:=q i E;rwa [fG E]at this)
    by_cases ad:(∃s,s∈y.bg/\s.ae=v.ae)\/y.Open=true
    case' neg=>
     have g:(bif (!r.2)then(!y.Open)else false)=true:=by
      cases ay:r.2 with
      |true=>exact absurd (.inl (G.1 ay)) ad
      |false=>
       cases ax:y.Open with
       |true=>exact absurd (.inr ax) ad
       |false=>rfl
     rw[uY bJ (by omega) (show ¬jl x y v fromλh=>ad (h.2.2 b))];simp only[b,X,g,aq,Int.reduceEq,dF,ds,e',eS,ca,b4,b7];exact D
    case' pos=>
     have g:(bif (!r.2)then(!y.Open)else false)=false:=by
      rcases ad with ad|ad
      . rw[G.2 ad];rfl
      . rw[ad];cases r.2<;>rfl
     have C:=sy (tw:=tw) (tr:=tr) (f:=er tw tr n) (path:=path) (by omega) (x:=x) (y:=y) (v:=v) (by omega) (by omega) (λq a=>by rw[a5]at a;cases a) (λq a=>by rw[d]at a;cases a);rw[qH bJ (by omega) (show jl x y v from⟨λh=>by omega,λh=>by omega,λ_=>ad⟩),<-O a5 d];simp only[b,X,g,aq,Int.reduceEq,dF,ds,e',eS,ca,b4,b7]
   case' inr.inr.inr.inr.inl=>
    obtain⟨a1,a2,a3,a4,a5,d,w,B⟩:=h;have b:x.Kind=5:=(by omega);obtain⟨an,aB⟩:=SW.A _ Q (.inl (by omega));obtain⟨aE,aF⟩:=cm.A _ u (.inl (by omega));obtain⟨f1,f2⟩:=jZ.1 B
    have G:=XS (tw:=tw) (tr:=tr) (f:=er tw tr n) (path:=path) (by omega) (x:=x) (y:=y) a1 (by omega) (by omega) f1 au av (λi M q a=>by
     have o:=br (by omega:i<v.ai.length) az;obtain⟨z,l⟩:=c'.il.mem u a;exact L o (f2 i M) (Z b i M) z l) (λi M=>by
     have o:=br (by omega:i<v.ai.length) az
     exact Hf SW (E _ o) (by have:=Y _ o;omega) _ (qX _ _ (f2 i M)))
    rw[OG bJ b];simp only[b,G,aq,Int.reduceEq,dF,ds,e',eS,ca,b4,b7]
    done
   case' inr.inr.inr.inr.inr.inl=>
    obtain⟨a1,a2,a3,a4,a5,d⟩:=h;have b:x.Kind=6:=(by omega);obtain⟨an,aB⟩:=SW.A _ Q (.inr (by omega));obtain⟨aE,aF⟩:=cm.A _ u (.inr (by omega));cases bI:cU x.ag v.ae with
    |none=>rw[bI]at d;cases d.2.1
    |some m=>
     rw[bI]at d;obtain⟨b1,b2,ap⟩:=d;have R:=vd x.ag v.ae;rw[bI]at R;cases P:gP x.ag v.ae with
     |none=>rw[P]at R;cases R
     |some i=>
     obtain⟨d1,d2,_⟩:=j0 P;obtain⟨d3,d4⟩:=nI bI;have em:x.ag.getD i aD=m:=u0 an (br d1 aD) d3 (by rw[d2,d4]);have o:=br (by omega:0<v.ai.length) az;have ah:=dk.1 ap _ o
     have G:=Yu (tw:=tw) (tr:=tr) (f:=er tw tr n) (path:=path) (by omega) (x:=x) (y:=y) a1 (by omega) (by omega) b2 P (λq a=>by
      obtain⟨z,l⟩:=c'.il.mem u a;rw[em]
      exact L o ah (aa b _ bI _ o) z l) (by rw[em];exact Hf SW (E _ o) (by have:=Y _ o;omega) _ (qX _ _ ah))
     rw[OH bJ b];simp only[b,G,aq,Int.reduceEq,dF,ds,e',eS,ca,b4,b7]
    done
   case' inr.inr.inr.inr.inr.inr.inl=>
    obtain⟨a1,a2,a3,a4,a5,d,w,B,a9⟩:=h;have b:x.Kind=7:=(by omega);obtain⟨z,l⟩:=c'.il.elem u (by omega);rw[OI bJ b];unfold zh;by_cases ad:(v.ai.length:Int)<=y.Max
    case' neg=>
     have g:decide (y.Max<(v.ai.length:Int))=true:=ji (by omega);rw[al ad];simp only[b,g,Int.reduceEq,dF,ds,e',eS,ca,b4,b7];exact D
    case' pos=>
     have g:decide (y.Max<(v.ai.length:Int))=false:=sW (by omega);have C:=sy (tw:=tw) (tr:=tr) (f:=er tw tr n) (path:=path) (by omega) (x:=x) (y:=y) (v:=v) (by omega) (by omega) (λq a=>by rw[d]at a;cases a) (λq a=>L a (dk.1 a9 q a) ((H (by omega)).1 q a) z l);have e:(if(v.ai.length:Int)<=y.Max then iv (λU=>(⟨7,false,0,[],0,[],U,[]⟩:I)) (e0 (er tw tr n) path x.aC y.aC 0 v.ai)else .inr path)=l0 (er tw tr n) x y v path:=by
      unfold l0;rw[af ad,a1,a2,a3,a4,a5,d,w];rfl
     rw[e];simp only[b,g,Int.reduceEq,dF,ds,e',eS,ca,b4,b7]
   case' inr.inr.inr.inr.inr.inr.inr.inl=>
    obtain⟨a1,a2,a3,a4,a5,d,w,B,a9,ao,aO⟩:=h;have b:x.Kind=8:=(by omega);obtain⟨z,l⟩:=c'.il.elem u (by omega);obtain⟨W,aI⟩:=c'.il.key u (by omega);rw[OJ bJ b];unfold zi;by_cases ad:(v.ai.length:Int)<=y.Max
    case' neg=>
     have g:decide (y.Max<(v.ai.length:Int))=true:=ji (by omega);rw[al ad];simp only[b,g,Int.reduceEq,dF,ds,e',eS,ca,b4,b7];exact D
    case' pos=>
     have g:decide (y.Max<(v.ai.length:Int))=false:=sW (by omega);have C:=sy (tw:=tw) (tr:=tr) (f:=er tw tr n) (path:=path) (by omega) (x:=x) (y:=y) (v:=v) (by omega) (by omega) (λq a=>aH a (dk.1 a9 q a) ((H (by omega)).2 q a) W aI) (λq a=>L a (dk.1 ao q a) ((H (by omega)).1 q a) z l);have e:(if(v.ai.length:Int)<=y.Max then mb (λks=>iv (λU=>(⟨8,false,0,[],0,ks,U,[]⟩:I)) (e0 (er tw tr n) path x.aC y.aC 0 v.ai)) (e0 (er tw tr n) path x.Key y.Key 0 v.aG)else .inr path)=l0 (er tw tr n) x y v path:=by
      unfold l0;rw[af ad,a1,a2,a3,a4,a5,d]
     rw[e];simp only[b,g,Int.reduceEq,dF,ds,e',eS,ca,b4,b7]
   case' inr.inr.inr.inr.inr.inr.inr.inr=>
    obtain⟨a1,a2,a3,a4,a5,d,w,B,a9⟩:=h;have b:x.Kind=9:=(by omega);obtain⟨z,l⟩:=c'.il.elem u (by omega);have C:=sy (tw:=tw) (tr:=tr) (f:=er tw tr n) (path:=path) (by omega) (x:=x) (y:=y) (v:=v) (by omega) (by omega) (λq a=>by rw[d]at a;cases a) (λq a=>L a (dk.1 a9 q a) ((H (by omega)).1 q a) z l);have e:zj (er tw tr n) x y v path=l0 (er tw tr n) x y v path:=by
     unfold l0 zj;rw[a1,a2,a3,a4,a5,d,w];rfl
    rw[OK bJ b,e];simp only[b,Int.reduceEq,dF,ds,e',eS,ca,b4,b7]
   all_goals
    rcases C with⟨p,aK,J⟩|⟨ks,J,⟨p,aK,dD⟩|⟨us,aK,dD⟩⟩
    . rw[aK,J];rfl
    . rw[aK,J];simp only[aq];rw[dD];rfl
    . rw[aK,J];simp only[aq];rw[dD];simp only[aq,hS,ny,I.bk]
 . rw[af (show(!(decide (x.Kind=y.Kind)))=true by simp[bJ]),L9 bJ,D]
theorem XU:zL tw tr 0:=by
 intro v _ _ _ _ _ _ h;cases h
theorem JB(ec:dW tw)(c':dW tr):∀n,zL tw tr n
 |0=>XU
 |n+1=>XT ec c' (JB ec c' n)
end
def vY(x:fC):Prop:=n3 x/\x.cT.length*3<=reachBytes
def ko(aH:List fC):Prop:=aH.length*32<=reachBytes/\∀x,x∈aH->vY x
def vV(c:k3):Prop:=dd c.Kind/\dd c.Node/\dd c.A/\dd c.B
theorem ko.set(h:ko aH)(j:Nat){x:fC}(c:vY x):ko (aH.set j x):=by
 refine⟨by rw[h2];exact h.1,λy a=>?_⟩;rcases AF a with a|rfl
 . exact h.2 y a
 . exact c
theorem mr(a:Int):dd (IntKind.wrap .u8 a):=by
 have:IntKind.wrap .u8 a=a%256:=by rfl
 unfold dd;omega
theorem Eg{n:Nat}(h:n*3<=reachBytes):room 3 n=true:=by
 unfold reachBytes at h;unfold room hr dm;simp only[cX,gE];omega
theorem aek{n:Nat}(h:n*32<=reachBytes):room 32 n=true:=by
 unfold reachBytes at h;unfold room hr dm;simp only[cX,gE];omega
theorem Z9(M:L.length<=reachBytes)(D:∀c,c∈L->vV c){i:Nat}(H:i<L.length)(h:ko aH)(aP:0<aH.length):
 ∃G,ko G/\G.length=aH.length/\ho (L,(i:Int),aH)=ho (L,((i+1:Nat):Int),G):=by
 obtain⟨c1,c2,c3,c4⟩:=D _ (br H nk);have T:=dM M;unfold dd at c1 c2 c3 c4;have S:aH.length<9223372036854775807:=by have:=h.1;unfold reachBytes at this;omega
 obtain⟨j,P,n⟩:∃j:Nat,cf (b9 .i64 (L.getD i nk).Node) (aH.length:Int)=(j:Int)/\j<aH.length:=by
  have e:cf (b9 .i64 (L.getD i nk).Node) (aH.length:Int)=(L.getD i nk).Node%(aH.length:Int):=by
   rw[kZ ⟨by omega,by omega⟩,hL c2.1]
  have h0:=lX (L.getD i nk).Node (by omega:(aH.length:Int)≠0);have h1:=lU (L.getD i nk).Node (by omega:(0:Int)<aH.length);exact⟨((L.getD i nk).Node%(aH.length:Int)).toNat,by rw[e];omega,by omega⟩
 obtain⟨⟨cV,s,k,m,eO,V⟩,I⟩:=h.2 _ (br n eR);have u:∀z:Nat,z<(aH.getD j eR).cT.length->dd ((aH.getD j eR).cT.getD z iG).ae/\dd ((aH.getD j eR).cT.getD z iG).aB/\dd ((aH.getD j eR).cT.getD z iG).gX:=λz E=>eO _ (br E _)
 rw[ho,af (by
  have a:(i:Int)<(L.length:Int):=by omega
  simp[a,aP]),af (aS H),a']
 simp only[a8,aq];rw[af (show(!(decide ((aH.length:Int)=0)))=true from by rw[vt];exact sW (by omega)),P,af (aS n),a',af (ji n),hZ,af (Eg I),af (ji n)];simp only[ds,b7,n];have aK:aQ .i64 (i:Int) 1=((i+1:Nat):Int):=bH (by omega);rw[aK];generalize aj:aH.getD j eR=p at*;generalize R:L.getD i nk=c at*;have g:∀{a b x:Int} {l:List lI},dd a->dd b->dd x->(∀q,q∈l->dd q.ae/\dd q.aB/\dd q.gX)->l.length<=p.cT.length+8/\(l.length<=p.cT.length\/l.length<=8)->vY ⟨p.Kind,a,b,x,l⟩:=λ{a b x l} N O D ad aP=>⟨⟨cV,N,O,D,ad,by show l.length<=_;unfold reachBytes at*;omega⟩,by show l.length*3<=_;unfold reachBytes at*;omega⟩
 have gs:∀q:fC,(aH.set j q).getD j bt=q:=λq=>by rw[fG (by rw[h2];exact n)];simp
 have t:∀{a:Int},0<=a/\a<=255->dd a:=λh=>h;have U:(p.cT.length:Int)<9223372036854775807:=by unfold reachBytes at I;omega
 have o:∀{l:List lI},(∀q,q∈l->dd q.ae/\dd q.aB/\dd q.gX)->l.length<=p.cT.length+8/\(l.length<=p.cT.length\/l.length<=8)->vY ⟨p.Kind,p.A,p.B,p.C,l⟩:=λ{l} h1 K=>g s k m h1 K;have self:p.cT.length<=p.cT.length+8/\(p.cT.length<=p.cT.length\/p.cT.length<=8):=by omega
 by_cases ad:0<p.cT.length
 . have v:(0:Int)<(p.cT.length:Int):=(by omega);obtain⟨z,E,f⟩:∃z:Nat,cf (b9 .i64 c.A) (p.cT.length:Int)=(z:Int)/\z<p.cT.length:=by
    have e:cf (b9 .i64 c.A) (p.cT.length:Int)=c.A%(p.cT.length:Int):=by
     rw[kZ ⟨by omega,by omega⟩,hL c3.1]
    have h0:=lX c.A (by omega:(p.cT.length:Int)≠0);have h1:=lU c.A v;exact⟨(c.A%(p.cT.length:Int)).toNat,by rw[e];omega,by omega⟩
   simp only[v,E,ds,b7,gs,List.set_set];rw[af (show(!(decide ((p.cT.length:Int)=0)))=true from by rw[vt];exact sW (by omega))];by_cases r:cf c.Kind 8=0
   . simp only[r,ds,b7];exact⟨_,h.set j (g (mr _) k m eO self),h2,rfl⟩
   by_cases bb:cf c.Kind 8=1
   . simp only[bb,ds,dF,Int.reduceEq,ca,b7,b4];exact⟨_,h.set j (g s (mr _) m eO self),h2,rfl⟩
   by_cases bq:cf c.Kind 8=2
   . have F:0<=cf c.A 6:=by rw[hL c3.1];omega
     simp only[bq,F,ds,dF,Int.reduceEq,ca,b7,b4];exact⟨_,h.set j (g (mr _) k m eO self),h2,rfl⟩
   by_cases bU:cf c.Kind 8=3
   . simp only[bU,ds,dF,Int.reduceEq,ca,b7,b4];exact⟨_,h.set j (g s k (mr _) eO self),h2,rfl⟩
   by_cases cu:cf c.Kind 8=4
   . by_cases gS:(p.cT.length:Int)<8
     . simp only[cu,gS,ds,dF,Int.reduceEq,ca,b7,b4];rw[af (Eg (by rw[db];unfold reachBytes;simp;omega))];refine⟨_,h.set j (o (λq d=>?_) (by rw[db];simp;omega)),h2,rfl⟩;rcases hP.1 d with d|d
       . exact eO q d
       . rw[pn.1 d];exact⟨t c3,t c4,mr _⟩
     . simp only[cu,gS,ds,dF,Int.reduceEq,ca,b7,b4];exact⟨_,h.set j (o eO self),h2,rfl⟩
   by_cases cW:cf c.Kind 8=5
   . simp only[cW,ds,dF,Int.reduceEq,ca,b7,b4];have J:aQ .i64 (z:Int) 1=((z+1:Nat):Int):=bH (by omega);rw[J,af (iI.2 (by omega)),af (iI.2 (by omega)),a',a',a',cq];refine⟨_,h.set j (o (λq d=>?_) (by rw[db,vw,vw,vy];omega)),h2,rfl⟩;rcases hP.1 d with d|d
     . exact eO q (sT d)
     . exact eO q (DS (sT d))
   have iT:∀{w:lI},dd w.ae/\dd w.aB/\dd w.gX->vY ⟨p.Kind,p.A,p.B,p.C,p.cT.set z w⟩:=λ{w} Q=>o (λq d=>by
    rcases AF d with d|rfl
    . exact eO q d
    . exact Q) (by rw[h2];exact self)
   by_cases da:cf c.Kind 8=6
   . simp only[da,ds,dF,Int.reduceEq,ca,b7,b4];rw[af (aS f),a',af (ji f)];exact⟨_,h.set j (iT (w:=⟨(p.cT.getD z iG).ae,(p.cT.getD z iG).aB,c.B⟩) ⟨(u z f).1,(u z f).2.1,t c4⟩),h2,rfl⟩
   . simp only[r,bb,bq,bU,cu,cW,da,dF,ca,b4];rw[af (aS f),a',af (ji f),af (aS f),af (ji f)];exact⟨_,h.set j (iT (w:=⟨(p.cT.getD z iG).ae,aQ .u8 (p.cT.getD z iG).aB c.B,(p.cT.getD z iG).gX⟩) ⟨(u z f).1,mr _,(u z f).2.2⟩),h2,rfl⟩
 . have v:¬(0:Int)<(p.cT.length:Int):=(by omega);simp only[v,dF,ca,b4,gs,List.set_set];by_cases r:cf c.Kind 8=0
   . simp only[r,ds,b7];exact⟨_,h.set j (g (mr _) k m eO self),h2,rfl⟩
   by_cases bb:cf c.Kind 8=1
   . simp only[bb,ds,dF,Int.reduceEq,ca,b7,b4];exact⟨_,h.set j (g s (mr _) m eO self),h2,rfl⟩
   by_cases bq:cf c.Kind 8=2
   . have F:0<=cf c.A 6:=by rw[hL c3.1];omega
     simp only[bq,F,ds,dF,Int.reduceEq,ca,b7,b4];exact⟨_,h.set j (g (mr _) k m eO self),h2,rfl⟩
   by_cases bU:cf c.Kind 8=3
   . simp only[bU,ds,dF,Int.reduceEq,ca,b7,b4];exact⟨_,h.set j (g s k (mr _) eO self),h2,rfl⟩
   by_cases cu:cf c.Kind 8=4
   . have gS:(p.cT.length:Int)<8:=(by omega);simp only[cu,gS,ds,dF,Int.reduceEq,ca,b7,b4];rw[af (Eg (by rw[db];unfold reachBytes;simp;omega))];refine⟨_,h.set j (o (λq d=>?_) (by rw[db];simp;omega)),h2,rfl⟩;rcases hP.1 d with d|d
     . exact eO q d
     . rw[pn.1 d];exact⟨t c3,t c4,mr _⟩
   have y:=h.set j (o eO self);by_cases cW:cf c.Kind 8=5
   . simp only[cW,ds,dF,Int.reduceEq,ca,b7,b4];exact⟨_,y,h2,rfl⟩
   by_cases da:cf c.Kind 8=6
   . simp only[da,ds,dF,Int.reduceEq,ca,b7,b4];exact⟨_,y,h2,rfl⟩
   . simp only[r,bb,bq,bU,cu,cW,da,dF,ca,b4];exact⟨_,y,h2,rfl⟩
theorem Mc{L:List k3}(e:L.length<=reachBytes)(f:∀c,c∈L->vV c):∀(k i:Nat) {aH:List fC},i+k=L.length->ko aH->∃d,ko d/\d.length=aH.length/\ho (L,(i:Int),aH)=some d
 |0,i,aH,l,h=>⟨aH,h,rfl,by
  have a:¬(i:Int)<(L.length:Int):=by omega
  rw[ho,al (by simp[a])]⟩
 |k+1,i,aH,l,h=>by
  by_cases aP:0<aH.length
  . obtain⟨d,h1,j,g⟩:=Z9 e f (by omega:i<L.length) h aP;rw[g,<-j];exact Mc e f k (i+1) (by omega) h1
  . refine⟨aH,h,rfl,?_⟩;have b:decide ((0:Int)<(aH.length:Int))=false:=sW (by omega);rw[ho,b,al];cases decide ((i:Int)<(L.length:Int))<;>simp
theorem ko.Dg{d:ek}(h:ko d.ed):q5 d:=⟨by have:=h.1;unfold reachBytes at*;omega,λx a=>(h.2 x a).1⟩
theorem XV{d:ek}(h:ko d.ed)(i:L.length<=reachBytes)(j:∀c,c∈L->vV c):∃a,ko a.ed/\a.ed.length=d.ed.length/\Bj (d,L)=some a:=by
 obtain⟨b,h1,g,e⟩:=Mc i j L.length 0 (by omega) h;have f:ho (L,0,d.ed)=some b:=e;refine⟨⟨b⟩,h1,g,?_⟩;rw[Bj,hZ,af (aek h.1),f];rfl
theorem Z'(h:WF cn ⟨.slice (.nm uP),aH⟩):ko aH:=by
 obtain⟨a,b,c⟩:=ub (t:= .nm uP) h;have D:=Kq (d:=⟨aH⟩) h;refine⟨b,λx e=>⟨D.2 x e,?_⟩⟩;exact(ub (t:= .nm AO) (c x e ⟨.slice (.nm AO),x.cT⟩ (.tail _ (.tail _ (.tail _ (.tail _ (.head _))))))).2.1
theorem aeP{n:Int}(h:WF cn ⟨.int .u8,n⟩):dd n:=by
 cases h with
 |int k n h=>
  simp[Lit.wf,IntKind.min,IntKind.max,IntKind.bits,IntKind.signed]at h;unfold dd;omega
theorem aaa{d:lH}{w:I}(f:q5 d.S)(h:p4 d=some (⟨ts⟩,t,v,w,true)):ts.length=d.S.ed.length:=by
 rw[p4]at h;rcases of_eq f with e|⟨l,e,_,_,c,_⟩
 . rw[e]at h;simp at h
 . rw[e]at h;simp only[a8,aq,dU,ca,b4]at h;split at h
   . cases a:w9 ((⟨l⟩:bl),cf (b9 .i64 d.T) (l.length:Int),d.C)with
     |none=>rw[a]at h;cases h
     |some x=>
      rw[a]at h;simp only[aq]at h;cases b:w0 ((⟨l⟩:bl),cf (b9 .i64 d.T) (l.length:Int),d.C)with
      |none=>rw[b]at h;cases h
      |some y=>
       rw[b]at h;simp only[aq,dP,ef,bl.mk.injEq]at h;rw[<-h.1,c]
   . cases h
structure zC (c:lJ):Prop where
 d:CZ c.D
 n:ko c.D.S.ed
 l:c.L.length<=reachBytes
 c:∀x,x∈c.L->vV x
structure q3 (tw tr:List ah)(t:Int)(v:I):Prop where
 W:dW tw
 R:dW tr
 t0:0<=t
 t1:t<tw.length
 t2:t<tr.length
 f:cL tw true t v
 o:b3 v
 w:wt v<=3000
theorem q3.z{tw tr:List ah}{t:Int}{v:I}(C:q3 tw tr t v):gZ tw 3000 t v:=qT C.W 3000 C.o C.f (.inr C.w) (.inr C.w)
theorem q3.u{tw tr:List ah}{t:Int}{v:I}(C:q3 tw tr t v):wt v<=2147483648:=gz C.w (by decide)
theorem Zb(h:zC c):(∃w r t v,r0 c=some (w,r,t,v,false))\/∃tw tr t v,(r0 c=some (⟨tw⟩,⟨tr⟩,t,v,true)/\q3 tw tr t v)/\∃w,p4 c.D=some (⟨tw⟩,t,v,w,true)/\cL tw false t w/\b3 w:=by
 obtain⟨k,d1,d3,d2⟩:=XV h.n h.l h.c;rw[r0];rcases ad3 h.d with⟨s,t,v,w,e⟩|⟨ts,t,v,w,e,H,ht,⟨v1,v2,v3⟩,i,j,_⟩
 . rw[e];simp only[a8,aq];rw[d2];simp only[aq];rcases D5 d1.Dg with a|⟨l,a,_⟩<;>rw[a]<;>exact .inl ⟨_,_,_,_,rfl⟩
 . have ad:=aaa h.d.s e;rw[e];simp only[a8,aq];rw[d2];simp only[aq];rcases of_eq d1.Dg with a|⟨l,a,_,_,l2,_⟩
   . rw[a];exact .inl ⟨_,_,_,_,rfl⟩
   . rcases D5 d1.Dg with f|⟨g,f,c'⟩
     . rw[a]at f;cases f
     . rw[a]at f;have:l=g:=by injection f with q;injection q with q _;injection q
       subst this;rw[a];simp only[aq,dU,e'];cases m:decide (4<(c.L.length:Int))with
       |true=>exact .inl ⟨_,_,_,_,rfl⟩
       |false=>
        obtain⟨b,b1,b2⟩:=VT v2;simp only[fz,b7,e',I.bk];rw[b1];cases b with
        |false=>exact .inl ⟨_,_,_,_,rfl⟩
        |true=>exact .inr ⟨ts,l,t,v,⟨rfl,H,c',ht.1,ht.2,by omega,v1,v2,b2 rfl⟩,w,rfl,i,j⟩
theorem aab(h:zC c):(∃w r t v,r0 c=some (w,r,t,v,false))\/∃tw tr t v,r0 c=some (⟨tw⟩,⟨tr⟩,t,v,true)/\q3 tw tr t v:=
 (Zb h).imp id λ⟨tw,tr,t,v,h,_⟩=>⟨tw,tr,t,v,h⟩
section
variable {tw tr:List ah}{t rt:Int}{v:I}
theorem Yv(ec:dW tw)(c':dW tr)(e:b3 v)(c:cL tw true t v)(i:0<=rt)(j:rt<tr.length):A' ((⟨tw⟩:bl),t,v,(⟨tr⟩:bl),rt)=some 0:=by
 obtain⟨⟨g1,g2,_⟩,_⟩:=(hc _ _ _).1 c;have ex:∀{ts:List ah} {t:Int},dW ts->0<=t->t<ts.length->xh ((⟨ts⟩:bl),t)=some 0:=λ{ts t} H a b=>by
  rw[xh,(sG H.T H.V).1];simp only[a8,aq];have c1:¬t<0:=by omega
  have c2:¬(ts.length:Int)<=t:=by omega
  rw[ch,al (by simp[c1,c2])]
 obtain⟨r,f,g⟩:=CF (ec.V.iy ec.T) e t true;have d:=g.2 c;subst d;rw[A'];simp only[I.bk];rw[ex ec g1 g2];simp only[a8,aq];rw[ch,ex c' i j];simp only[aq];rw[ch,oG];simp only[I.bk];rw[f];rfl
theorem Yw(ec:dW tw)(c':dW tr)(f:b3 v)(d:cL tw true t v)(j:0<=rt)(k:rt<tr.length):AR ((⟨tw⟩:bl),t,v,(⟨tr⟩:bl),rt)=some 0:=by
 obtain⟨⟨g1,g2,_⟩,_⟩:=(hc _ _ _).1 d;have ex:∀{ts:List ah} {t:Int},dW ts->0<=t->t<ts.length->xF ((⟨ts⟩:bl),t)=some 0:=λ{ts t} H a b=>by
  rw[xF,(sG H.T H.V).2];simp only[a8,aq];have c1:¬t<0:=by omega
  have c2:¬(ts.length:Int)<=t:=by omega
  rw[ch,al (by simp[c1,c2])]
 have c:=ec.V.iy ec.T;obtain⟨q,g,i⟩:=Gi (by have:=c.n;omega) ec.T c.K f t true;have e:=i.2 d;subst e;rw[AR];simp only[I.bk];rw[ex ec g1 g2];simp only[a8,aq];rw[ch,ex c' j k];simp only[aq];rw[ch,Ev];simp only[I.bk];rw[g];rfl
def C7:I ⊕ au->I×Int
 |.inl u=>(u,0)
 |.inr _=>(⟨0,false,0,[],0,[],[],[]⟩,12)
noncomputable def zt (tw tr:List ah)(t:Int)(v:I)(rt:Int):I ⊕ au:=er tw tr 3000 t v rt []
theorem VV(ec:dW tw)(c':dW tr)(b:b3 v)(a:cL tw true t v)(e:gZ tw 3000 t v)(c:0<=rt)(d:rt<tr.length):AW ((⟨tw⟩:bl),t,v,(⟨tr⟩:bl),rt)=some (C7 (zt tw tr t v rt)):=by
 have h:=Jx ec c' 3000 b [] a e c d (path:=[]) (by simp);rw[AW];simp only[I.bk];rw[Yv ec c' b a c d];simp only[a8,aq];rw[ch,h];unfold zt;cases er tw tr 3000 t v rt []<;>rfl
theorem VW(ec:dW tw)(c':dW tr)(b:b3 v)(e:wt v<=2147483648)(a:cL tw true t v)(f:gZ tw 3000 t v)(c:0<=rt)(d:rt<tr.length):Bl ((⟨tw⟩:bl),t,v,(⟨tr⟩:bl),rt)=some (C7 (zt tw tr t v rt)):=by
 have h:=JB ec c' 3000 b e a f c d (path:=[]) (by simp);rw[Bl];simp only[I.bk];rw[Yw ec c' b a c d];simp only[a8,aq];rw[ch,h];unfold zt;cases er tw tr 3000 t v rt []<;>rfl
end
theorem adL(h:∀d,d∈cn.rr E6 c->WF cn d):zC c:=by
 have c1:=h ⟨.slice (.nm uP),c.D.S.ed⟩ (.head _);have c4:=h ⟨.slice (.nm PO),c.L⟩ (.tail _ (.tail _ (.tail _ (.head _))));obtain⟨a,_,e⟩:=ub (t:= .nm PO) c4;have g:∀{n:Int},WF cn ⟨.int .u8,n⟩->dd n:=aeP;refine⟨ZD λd b=>?_,Z' c1,a,λx i=>?_⟩
 . refine h d ?_;cases b with
   |head=>exact .head _
   |tail _ b=>cases b with
    |head=>exact .tail _ (.head _)
    |tail _ b=>cases b with
     |head=>exact .tail _ (.tail _ (.head _))
     |tail _ b=>cases b
 . have f:=e x i;exact⟨g (f ⟨.int .u8,x.Kind⟩ (.head _)),g (f ⟨.int .u8,x.Node⟩ (.tail _ (.head _))),g (f ⟨.int .u8,x.A⟩ (.tail _ (.tail _ (.head _)))),g (f ⟨.int .u8,x.B⟩ (.tail _ (.tail _ (.tail _ (.head _)))))⟩
def tn(n:au):Prop:=∀i:Nat,0<=n.getD i 0/\n.getD i 0<=2
def C3(n cF:au):Prop:=n.length=cF.length/\∀i:Nat,n.getD i 0<=cF.getD i 0
def gb(n:au)(t:Int):Int:=n.getD t.toNat 0
def qS(n:au):List aU->Int->Int
 |[],c=>c
 |m::r,c=>qS n r (eN 2 (c*gb n m.aB))
def mJ(n:au):List aU->Int->Int
 |[],c=>c
 |m::r,c=>mJ n r (c+gb n m.aB)
def gL(x:ah)(n:au):Int:=
 if x.Kind=2 then(if x.bE=x.bG then 1 else 2)else if x.Kind=3 then(if x.Max=0 then 1 else 2)else if x.Kind=4 then x.bg.length else if x.Kind=5 then qS n x.ag 1 else if x.Kind=6 then mJ n x.ag 0 else if x.Kind=7 then(if x.Max=0\/gb n x.aC=0 then 1 else 2)else if x.Kind=8 then(if x.Max=0\/gb n x.aC=0\/gb n x.Key=0 then 1 else 2)else if x.Kind=9 then 1+gb n x.aC else 2
theorem min2(c:Int):eN 2 c<=2/\eN 2 c<=c/\(eN 2 c=2\/eN 2 c=c):=by simp only[eN];omega
theorem jy{n:au}{i j:Nat}{c:Int}:(n.set i c).getD j 0=if i=j/\i<n.length then c else n.getD j 0:=by
 simp only[ye,x5];grind
section
variable {n cF:au}(h0:tn n)(h1:C3 n cF)
include h0
theorem lv(t:Int):0<=gb n t/\gb n t<=2:=h0 _
theorem Oy:∀(l:List aU) (c:Int),0<=c/\c<=2->0<=qS n l c/\qS n l c<=2
 |[],c,h=>h
 |m::r,c,h=>Oy r _ (by
  obtain⟨a,b⟩:=lv h0 m.aB;have:0<=c*gb n m.aB:=Ay h.1 a
  simp only[eN];omega)
theorem Ei:∀(l:List aU) (c:Int),c<=mJ n l c/\mJ n l c<=c+2*l.length
 |[],c=>⟨ya _,by simp[mJ]⟩
 |m::r,c=>by
  obtain⟨a,b⟩:=lv h0 m.aB;obtain⟨e,f⟩:=Ei r (c+gb n m.aB);simp only[mJ,iP];omega
include h1
theorem zP(t:Int):gb n t<=gb cF t:=h1.2 _
theorem Ox:∀(l:List aU) (c a:Int),0<=c->c<=a->qS n l c<=qS cF l a
 |[],c,a,_,h=>h
 |m::r,c,a,b,h=>Ox r _ _ (by
  have:=Ay b (lv h0 m.aB).1;simp only[eN];omega) (by
  have e:c*gb n m.aB<=a*gb cF m.aB:=Int.mul_le_mul h (zP h0 h1 _) (lv h0 _).1 (by omega)
  simp only[eN];omega)
theorem OQ:∀(l:List aU) (c a:Int),c<=a->mJ n l c<=mJ cF l a
 |[],c,a,h=>h
 |m::r,c,a,h=>OQ r _ _ (by have:=zP h0 h1 m.aB;omega)
theorem aaD(x:ah):gL x n<=gL x cF:=by
 have e:=zP h0 h1 x.aC;have k:=zP h0 h1 x.Key;have dh:=(lv h0 x.aC).1;have a:=(lv h0 x.Key).1;have p:=Ox h0 h1 x.ag 1 1 (by omega) (ya _);have s:=OQ h0 h1 x.ag 0 0 (ya _);unfold gL
 (repeat' split)<;>omega
end
theorem Md{n:au}:∀(l:List aU) (c:Int),1<=c->(∀m,m∈l->1<=gb n m.aB)->1<=qS n l c
 |[],c,h,_=>h
 |m::r,c,h,a=>Md r _ (by
  have e:1*1<=c*gb n m.aB:=Int.mul_le_mul h (a m (by simp)) (by omega) (by omega)
  simp only[eN];omega) λx b=>a x (by simp[b])
section
variable {ts:List ah}(H:dW ts){n:au}(aP:n.length=ts.length)(h0:tn n)
include H aP
theorem zO{u:Int}(h:0<=u/\u<ts.length):aI u n.length=true/\decide (u.toNat<n.length)=true:=by
 simp only[aI,cX,gE];omega
include h0
theorem Me{l:List aU}(ad:l.length<=1000)(e:∀m,m∈l->0<=m.aB/\m.aB<ts.length):∀(k i:Nat) (c:Int),i+k=l.length->0<=c/\c<=2->pW (c,l,(l.length:Int),(i:Int),n)=some (qS n (l.drop i) c,n)
 |0,i,c,g,d=>by
  rw[pW,dE,List.drop_of_length_le (by omega)];rfl
 |k+1,i,c,g,d=>by
  have aE:i<l.length:=by omega
  obtain⟨a,b⟩:=zO H aP (e _ (br aE aD));obtain⟨aK,f⟩:=lv h0 (l.getD i aD).aB;rw[pW,cq,af (aS aE)];simp only[a8,aq,kb];rw[af a,af b];have j:jH .i64 c (n.getD (l.getD i aD).aB.toNat 0)=c*gb n (l.getD i aD).aB:=by
   have:0<=c*gb n (l.getD i aD).aB:=Ay d.1 aK;have:c*gb n (l.getD i aD).aB<=2*2:=Int.mul_le_mul d.2 f aK (by omega);show IntKind.wrap .i64 (c*gb n (l.getD i aD).aB)=_;rw[IntKind.wrap_i64];omega
  rw[j,bH (by omega),Me ad e k (i+1) _ (by omega) (by
   have:0<=c*gb n (l.getD i aD).aB:=Ay d.1 aK
   simp only[eN];omega)]
  rw[pk aE];have:l.getD i aD=l[i]:=by simp[List.getD,eF aE]
  rw[this];rfl
theorem Mf{l:List aU}(ad:l.length<=1000)(d:∀m,m∈l->0<=m.aB/\m.aB<ts.length):∀(k i:Nat) (c:Int),i+k=l.length->0<=c/\c<=2*i->pX (c,l,(l.length:Int),(i:Int),n)=some (mJ n (l.drop i) c,n)
 |0,i,c,g,f=>by
  rw[pX,dE,List.drop_of_length_le (by omega)];rfl
 |k+1,i,c,g,f=>by
  have aE:i<l.length:=by omega
  obtain⟨a,b⟩:=zO H aP (d _ (br aE aD));obtain⟨aK,e⟩:=lv h0 (l.getD i aD).aB;unfold gb at aK e;rw[pX,cq,af (aS aE)];simp only[a8,aq,kb];rw[af a,af b,jb (by omega) (by omega),bH (by omega),Mf ad d k (i+1) _ (by omega) (by omega)];rw[pk aE];have:l.getD i aD=l[i]:=by simp[List.getD,eF aE]
  rw[this];rfl
theorem Zc(f:x∈ts):A8 (x,n)=some (gL x n,n):=by
 have j:=H.V.U x f;have c:∀m,m∈x.ag->0<=m.aB/\m.aB<ts.length:=by
  obtain⟨i,g,rfl⟩:=DV.1 f;intro m c;have:=H.R i g m (by simpa[List.getD,eF g]using c);exact⟨this.1,this.2.1⟩
 have ad:=(H.cr x f).2.2;rw[A8];unfold gL;by_cases bq:x.Kind=2
 . rw[af (by simpa using bq),af bq];split<;>simp_all
 rw[al (by simpa using bq),al bq];by_cases bU:x.Kind=3
 . rw[af (by simpa using bU),af bU];split<;>simp_all
 rw[al (by simpa using bU),al bU];by_cases cu:x.Kind=4
 . rw[af (by simpa using cu),af cu]
 rw[al (by simpa using cu),al cu];by_cases cW:x.Kind=5
 . rw[af (by simpa using cW),af cW];have:=Me H aP h0 (by omega) c x.ag.length 0 1 (by omega) (by omega);simp only[Int.natCast_zero,hl]at this;show(pW (1,x.ag,(x.ag.length:Int),0,n)>>=_)=_;rw[this];rfl
 rw[al (by simpa using cW),al cW];by_cases da:x.Kind=6
 . rw[af (by simpa using da),af da];have:=Mf H aP h0 (by omega) c x.ag.length 0 0 (by omega) (by omega);simp only[Int.natCast_zero,hl]at this;show(pX (0,x.ag,(x.ag.length:Int),0,n)>>=_)=_;rw[this];rfl
 rw[al (by simpa using da),al da];have he:7<=x.Kind->aI x.aC n.length=true/\decide (x.aC.toNat<n.length)=true:=λh=>zO H aP (j _ (by unfold fu;simp[h]));by_cases gx:x.Kind=7
 . obtain⟨a,b⟩:=he (by omega);rw[af (by simpa using gx),af gx];simp only[a8,aq,a,b,x9,b7];unfold gb;generalize n.getD x.aC.toNat 0=e;by_cases d:x.Max=0<;>by_cases dY:e=0<;>simp[d,dY]
 rw[al (by simpa using gx),al gx];by_cases gS:x.Kind=8
 . obtain⟨a,b⟩:=he (by omega);obtain⟨bX,l⟩:=zO H aP (j x.Key (by unfold fu;simp[gS]));rw[af (by simpa using gS),af gS];simp only[a8,aq,a,b,bX,l,x9,b7];unfold gb;generalize n.getD x.aC.toNat 0=e;generalize n.getD x.Key.toNat 0=k;by_cases d:x.Max=0<;>by_cases dY:e=0<;>by_cases bJ:k=0<;>simp[d,dY,bJ]
 rw[al (by simpa using gS),al gS];by_cases gi:x.Kind=9
 . obtain⟨a,b⟩:=he (by omega);obtain⟨aK,o⟩:=lv h0 x.aC;unfold gb at aK o;rw[af (by simpa using gi),af gi,af a,af b,jb (by omega) (by omega)];rfl
 rw[al (by simpa using gi),al gi]
end
structure q4 (ts:List ah)(n:au):Prop where
 l:n.length=ts.length
 ok:tn n
 le:∀i:Nat,i<ts.length->n.getD i 0<=gL (ts.getD i aN) n
section
variable {ts:List ah}(H:dW ts)
include H
theorem ZG{n:au}(h0:tn n){i:Nat}(e:i<ts.length)(aa:∀j:Nat,j<ts.length->7<=(ts.getD j aN).Kind->1<=n.getD j 0)(aj:∀j:Nat,j<i->1<=n.getD j 0):1<=gL (ts.getD i aN) n:=by
 have f:=br e aN;have d:∀m,m∈(ts.getD i aN).ag->1<=gb n m.aB:=λm d=>by
  obtain⟨a,b,c⟩:=H.R i e m d;rcases c with c|c
  . exact aa _ (by omega) c
  . exact aj _ (by omega)
 have he:=(lv h0 (ts.getD i aN).aC).1;have p:=Md _ 1 (by omega) d;have q:(ts.getD i aN).Kind=6->1<=mJ n (ts.getD i aN).ag 0:=λk=>by
  have ad:0<(ts.getD i aN).ag.length:=by
   rcases H.V.F _ f with h|h|h|h|h|h|h|h|h<;>try omega
   exact h.2.2.2.2.2.2.1.2.1.resolve_left (by simp)
  obtain⟨m,r,l⟩:∃m r,(ts.getD i aN).ag=m::r:=by
   cases g:(ts.getD i aN).ag with
   |nil=>rw[g]at ad;simp at ad
   |cons m r=>exact⟨m,r,rfl⟩
  rw[l]at d⊢;have:=(Ei h0 r (0+gb n m.aB)).1;have:=d m (by simp);simp only[mJ];omega
 have o:(ts.getD i aN).Kind=4->1<=((ts.getD i aN).bg.length:Int):=λk=>by
  rcases H.V.F _ f with h|h|h|h|h|h|h|h|h<;>try omega
  exact Int.ofNat_lt.2 h.2.2.2.2.2.1.1
 unfold gL
 (repeat' split)<;>first|omega|exact o (by assumption)|exact q (by assumption)
theorem G2{n:au}(h0:tn n)(x:ah):0<=gL x n/\(x.ag.length<=12->x.bg.length<=16->gL x n<=40):=by
 have p:=Oy h0 x.ag 1 (by omega);have s:=Ei h0 x.ag 0;have e:=lv h0 x.aC;unfold gL;refine⟨?_,λh1 a=>?_⟩<;>(repeat' split)<;>omega
theorem q4.set{n:au}(C:q4 ts n){i:Nat}(a:i<ts.length):q4 ts (n.set i (eN 2 (gL (ts.getD i aN) n)))/\C3 n (n.set i (eN 2 (gL (ts.getD i aN) n))):=by
 have f:=(G2 H C.ok (ts.getD i aN)).1;have g:=C.le i a;have ad:=C.l;have m:=min2 (gL (ts.getD i aN) n);generalize eN 2 (gL (ts.getD i aN) n)=c at*;have ok:tn (n.set i c):=λj=>by
  have:=C.ok j;rw[jy];split<;>omega
 have le:C3 n (n.set i c):=⟨by simp,λj=>by
  rw[jy];split
  . rename_i h;rw[<-h.1];have:=C.ok i;omega
  . exact ya _⟩
 refine⟨⟨by simp[ad],ok,λj e=>?_⟩,le⟩;have:=aaD C.ok le (ts.getD j aN);rw[jy];split
 . rename_i h;rw[<-h.1]at this⊢;omega
 . have:=C.le j e;omega
def kL:au->Int
 |[]=>0
 |a::r=>a+kL r
omit H in
theorem Zd{n:au}:∀{i:Nat} {c:Int},i<n.length->kL (n.set i c)=kL n-n.getD i 0+c:=by
 induction n with
 |nil=>intro i c h;simp at h
 |cons a r ih=>
  intro i c h;cases i with
  |zero=>simp[kL];omega
  |succ i=>simp[kL];have:=ih (i:=i) (c:=c) (by simpa using h);simp at this;omega
omit H in
theorem Ky{n:au}(h:∀i:Nat,0<=n.getD i 0/\n.getD i 0<=2):0<=kL n/\kL n<=2*n.length:=by
 induction n with
 |nil=>simp[kL]
 |cons a r ih=>
  have:=ih λi=>by simpa using h (i+1)
  have:=h 0;simp[kL]at*;omega
theorem FQ:∀(k i:Nat) (ly:Bool) {n:au},i+k=ts.length->q4 ts n->(∀j,j<i->7<=(ts.getD j aN).Kind->1<=n.getD j 0)->(ly=false->∀j,j<i->n.getD j 0=eN 2 (gL (ts.getD j aN) n))->
 ∃cF b,o0 (ly,ts,(ts.length:Int),(i:Int),ts,n)=some (b,ts,cF)/\q4 ts cF/\(∀j,j<ts.length->7<=(ts.getD j aN).Kind->1<=cF.getD j 0)/\(b=false->∀j,j<ts.length->cF.getD j 0=eN 2 (gL (ts.getD j aN) cF))/\(ly=true->b=true)/\(b=true->ly=true\/kL n+1<=kL cF)/\kL n<=kL cF
 |0,i,ly,n,r,C,aa,e=>⟨n,ly,by rw[o0,dE],C,λj d=>aa j (by omega),λh j d=>e h j (by omega),λh=>h,.inl,ya _⟩
 |k+1,i,ly,n,r,C,aa,e=>by
  have aE:i<ts.length:=by omega
  have w:=C.l;have bp:=H.eO;have s:=br aE aN;have t:=(G2 H C.ok (ts.getD i aN)).1;have u:=C.le i aE;have v:=C.ok i;obtain⟨o,L'⟩:=C.set H aE;have g:7<=(ts.getD i aN).Kind->1<=gL (ts.getD i aN) n:=λa=>by
   have he:=(lv C.ok (ts.getD i aN).aC).1;unfold gL
   (repeat' split)<;>omega
  have m:=min2 (gL (ts.getD i aN) n);rw[o0,cq,af (aS aE)];simp only[kb];rw[Zc H C.l C.ok s];simp only[a8,aq];rw[j7,af (aS (by omega)),cq];by_cases he:eN 2 (gL (ts.getD i aN) n)=n.getD i 0
  . rw[al (by simpa using he),bH (by omega)];refine FQ k (i+1) ly (by omega) C (λj d a=>?_) λh j d=>?_
    . by_cases f:j<i
      . exact aa j f a
      . have:j=i:=(by omega);subst this;have:=g a;rw[<-he];omega
    . by_cases f:j<i
      . exact e h j f
      . have:j=i:=(by omega);subst this;exact he.symm
  . rw[af (by simpa using he),af (aS (by omega)),cq,bH (by omega)];have hs:=Zd (n:=n) (i:=i) (c:=eN 2 (gL (ts.getD i aN) n)) (by omega)
    obtain⟨cF,b,aK,p,dD,q,j3,pM,og⟩:=FQ k (i+1) true (n:=n.set i (eN 2 (gL (ts.getD i aN) n))) (by omega) o (λj d a=>by
     rw[jy];split
     . rename_i h;rw[<-h.1]at a;have:=g a;omega
     . rename_i h
       exact aa j (by omega) a) (λh=>by cases h)
    exact⟨cF,b,aK,p,dD,q,λ_=>j3 rfl,λ_=>.inr (by omega),by omega⟩
theorem H3:∀(f:Nat) {n:au},q4 ts n->(2*ts.length:Int)-kL n<f->∃cF,rL (true,ts,n)=some cF/\cF.length=ts.length/\∀i:Nat,i<ts.length->1<=cF.getD i 0
 |0,n,C,g=>by
  have:=(Ky C.ok).2;have:=C.l;omega
 |f+1,n,C,g=>by
  obtain⟨cF,d,aK,b,dD,e,j3,pM,og⟩:=FQ H ts.length 0 false (n:=n) (by omega) C (λj a=>absurd a (Ax _)) (λ_ j a=>absurd a (Ax _));have aK:o0 (false,ts,(ts.length:Int),0,ts,n)=_:=aK;rw[rL,af rfl,aK];simp only[a8,aq];cases d with
  |true=>
   have:=(pM rfl).resolve_left (by simp);exact H3 f b (by omega)
  |false=>
   refine⟨cF,by rw[rL,ch],b.l,λi=>?_⟩;induction i using Nat.strongRecOn with
   |_ i ih=>
   intro c;have:=ZG H b.ok c dD (λj a=>ih j a (by omega));rw[e rfl i c];have:=min2 (gL (ts.getD i aN) cF);omega
omit H in
theorem Jf{n:au}(ad:n.length<=5)(h:∀i:Nat,i<n.length->1<=n.getD i 0):∀(k i:Nat),i+k=n.length->pT (n,(n.length:Int),(i:Int),List.replicate i true)=some (List.replicate n.length true)
 |0,i,a=>by rw[pT,dE,show i=n.length by omega]
 |k+1,i,a=>by
  have:=h i (by omega);have e:List.replicate i true++[decide (0<n.getD i 0)]=List.replicate (i+1) true:=by
   rw[ji (by omega),List.replicate_succ']
  rw[pT,cq,af (aS (by omega))];simp only[a8,aq,kb];rw[e,af (dB),bH (by omega)];exact Jf ad h k (i+1) (by omega)
omit H in
theorem JC{m:Nat}(b:m<=5):∀(k i:Nat),i+k=m->pY (List.replicate m true,(m:Int),(i:Int))=some (.inr ())
 |0,i,a=>by rw[pY,dE]
 |k+1,i,a=>by
  rw[pY,cq,af (aS (by simp;omega)),al (by rw[kb,ye,List.getElem?_replicate,gh];simp),bH (by omega)];exact JC b k (i+1) (by omega)
theorem abF(t:ah)(ht:t∈ts){m:aU}(a:m∈t.ag)(c:m.bV=true):oG ((⟨ts⟩:bl),m.aB,I.eta m.bz)=some true:=by
 have e:=(H.T t ht).im m a;have d:=H.D t ht m a c;obtain⟨q,h1,b⟩:=CF (H.V.iy H.T) e m.aB true;rw[oG];simp only[I.bk];rw[h1,b.2 d];rfl
theorem FG{i:Nat}{t:ah}(ht:t∈ts):∀(k j:Nat),j+k=t.ag.length->qt ((i:Int),ts,(ts.length:Int),(i:Int),t.ag,(t.ag.length:Int),(j:Int),ts)=some (.inr (ts,(ts.length:Int),(i:Int),ts))
 |0,j,b=>by rw[qt,dE]
 |k+1,j,b=>by
  have aE:j<t.ag.length:=by omega
  have ad:=(H.cr t ht).2.2;rw[qt,cq,af (aS aE)];simp only[a8,aq,kb];cases a:(t.ag.getD j aD).bV with
  |false=>
   simp only[ca,b4,aq,e'];rw[bH (by omega)];exact FG ht k (j+1) (by omega)
  |true=>
   rw[af rfl,abF H t ht (br aE aD) a];simp only[aq,dU,eS,ca,b4];rw[bH (by omega)];exact FG ht k (j+1) (by omega)
theorem Rq:∀(k i:Nat),i+k=ts.length->pS (ts,(ts.length:Int),(i:Int),ts)=some (.inr ())
 |0,i,a=>by rw[pS,dE]
 |k+1,i,a=>by
  have aE:i<ts.length:=by omega
  have bp:=H.eO;have e:qt ((i:Int),ts,(ts.length:Int),(i:Int),(ts.getD i aN).ag,((ts.getD i aN).ag.length:Int),0,ts)=_:=FG H (i:=i) (br aE aN) (ts.getD i aN).ag.length 0 (by omega);rw[pS,cq,af (aS aE)];simp only[a8,aq,kb];rw[e];simp only[aq];rw[bH (by omega)];exact Rq k (i+1) (by omega)
theorem Kz:q4 ts (List.replicate ts.length 0):=by
 have a:∀i:Nat,(List.replicate ts.length (0:Int)).getD i 0=0:=λi=>by
  simp only[ye,List.getElem?_replicate];split<;>rfl
 refine⟨by simp,λi=>by rw[a];omega,λi b=>?_⟩;rw[a];exact(G2 H (λi=>by rw[a];omega) _).1
theorem Yx:A9 (⟨ts⟩:bl)=some 0:=by
 have bp:=H.eO;have b:A7 (⟨ts⟩:bl)=some 0:=by
  have e:pS (ts,(ts.length:Int),0,ts)=_:=Rq H ts.length 0 (by omega);rw[A7,(sG H.T H.V).1];simp only[a8,aq];rw[ch,EK,(sG H.T H.V).1];simp only[a8,aq];rw[ch,e];rfl
 obtain⟨n,c1,c2,c3⟩:=H3 H (2*ts.length+1) (Kz H) (by
  have:=(Ky (Kz H).ok).1;omega)
 have a:A0 (⟨ts⟩:bl)=some n:=by
  rw[A0];simp only[a8,aq,kb];rw[af (JH.2 ⟨by omega,by unfold hr;omega,by unfold dm;omega⟩),c1];rfl
 have f1:pT (n,(n.length:Int),0,[])=_:=Jf (n:=n) (by omega) (λi c=>c3 i (by omega)) n.length 0 (by omega);have f2:pY (List.replicate n.length true,(n.length:Int),0)=_:=JC (m:=n.length) (by omega) n.length 0 (by omega);rw[A9,EL,b];simp only[a8,aq];rw[ch,a];simp only[aq];rw[f1];simp only[aq];rw[ch,List.length_replicate,f2];rfl
end
abbrev ty(ts:List ah)(t:Int):ah:=ts.getD t.toNat aN
def iO(y:ah)(id:Int):Bool:=y.bg.any λs=>decide (s.ae=id)
def fS(y:ah)(f:aU):Int:=if(gP y.ag f.ae).isNone=true/\f.cv=true then 6 else 0
section
variable {tw tr:List ah}(ec:dW tw)(c':dW tr)
include ec c'
def zG(ts:List ah)(t:Int):Prop:=0<=t/\t<ts.length
end
theorem ZH{a b:cQ}:a=b↔a.eP=b.eP/\a.dI=b.dI:=by cases a;cases b;simp
instance ae4:DecidableEq cQ:=λa b=>decidable_of_iff (a.eP=b.eP/\a.dI=b.dI) ZH.symm
def abl(l:List cQ)(p:cQ):List cQ:=if p∈l then l else l++[p]
def aed(x y:ah)(l:List aU):List cQ:=l.filterMap λf=>match gP y.ag f.ae with
 |none=>none
 |some j=>some ⟨f.aB,(y.ag.getD j aD).aB⟩
def adH(x y:ah):List cQ:=if x.Kind=8/\0<x.Max then[⟨x.Key,y.Key⟩]else[]
def adk(x y:ah):List cQ:=if x.Kind=9\/(x.Kind=7\/x.Kind=8)/\0<x.Max then[⟨x.aC,y.aC⟩]else[]
def aeO(x y:ah):List cQ:=aed x y x.ag++adH x y++adk x y
def aeN(x y:ah):List cQ:=if x.Kind=y.Kind then(aeO x y).foldl abl []else[]
abbrev ad2(tw tr:List ah)(p:cQ):List cQ:=aeN (ty tw p.eP) (ty tr p.dI)
inductive C8 (tw tr:List ah)(r:cQ):cQ->Prop
 |root:C8 tw tr r r
 |step {p q:cQ}:C8 tw tr r p->q∈ad2 tw tr p->C8 tw tr r q
section
variable {tw tr:List ah}(ec:dW tw)(c':dW tr)
include ec c'
omit c' in
theorem JD(ht:zG tw t):xn (⟨⟨tw⟩,t⟩:dZ)=some true:=by
 rw[xn,Yx ec];unfold zG at ht;simp[ht.1,ht.2]
end
section
variable {tw tr:List ah}(ec:dW tw)(c':dW tr)
include ec c'
abbrev OP(ts:List ah)(t:Int):dZ:=⟨⟨ts⟩,t⟩
end
structure ae2 (c:uc):Prop where
 d:q5 c.S
 n:ko c.S.ed
 l:c.L.length<=reachBytes
 ly:∀x,x∈c.L->vV x
 t:dd c.T
 u:dd c.U
theorem aaE(C:q3 tw tr t v)(b:cL tw false t v)(h1:¬4096<(bF tw t v).length)(l:¬200<eK tw t v):
 AY (OP tw t,OP tr t,bF tw t v)=some (decide ((C7 (zt tw tr t v t)).2=12)):=by
 have e:zG tw t:=⟨C.t0,C.t1⟩
 have a:zG tr t:=⟨C.t0,C.t2⟩
 have H:=C.W.V.iy C.W.T;have d:eH tw 200 t (bF tw t v)=some v:=Y8 H C.o (by omega) b (by omega);have c:zS tw t (bF tw t v)=(v,0):=by
  unfold zS;rw[al (by have:=C.t0;have:=C.t1;omega),al h1,d]
 have d1:xo ((⟨tw⟩:bl),t,bF tw t v)=some (v,0):=by rw[XP C.W.il,c]
 have dh:oh tw t v=(bF tw t v,0):=by unfold oh;rw[bR]
 have aK:nD ((⟨tw⟩:bl),t,v)=some (bF tw t v,0):=by
  rw[Y9 C.W ⟨b,C.o,by have:=C.w;omega⟩,dh]
 have g:oG ((⟨tw⟩:bl),t,v)=some true:=by
  obtain⟨r,i,j⟩:=CF H C.o t true;have a:=j.2 C.f;subst a;rw[oG];simp only[I.bk];rw[i];rfl
 have k:=VV C.W C.R C.o C.f C.z C.t0 C.t2;rw[AY];simp only[JD C.W e,JD C.R a,a8,aq,dU,fz,b7,e',ca,b4,d1,g,aK,k,ds,I.bk]
theorem XW(h:zC c):zf c=some true:=by
 rw[zf];rcases aab h with⟨w,r,t,v,e⟩|⟨tw,tr,t,v,e,C⟩
 . rw[e];simp only[a8,aq,PF];rfl
 . rw[e];have d:¬(tr.length:Int)<=t:=by have:=C.t2;omega
   have b:cL tw false t v:=qX v t C.f;simp only[a8,aq,PF,dU,e',d,dF,ca,b4,I.bk];rw[Y' C.W ⟨b,C.o,by have:=C.w;omega⟩];simp only[aq];unfold oh;by_cases a:4096<(bF tw t v).length\/200<eK tw t v
   . rw[af a];rfl
   . rw[al a];have m:=aaE C b (by omega) (by omega);have g:=VW C.W C.R C.o C.u C.f C.z C.t0 C.t2;simp only[ds,dU,ca,b4,g,m,aq];simp[fg]
theorem adI(h:aJ cn.D [.nm E6])(a:Ok cn [.nm E6] h):zf h=some true:=XW (adL (ad6 a))
end
end Go.Proofs.YtkbmjabicjpmjaaGreatDoor
