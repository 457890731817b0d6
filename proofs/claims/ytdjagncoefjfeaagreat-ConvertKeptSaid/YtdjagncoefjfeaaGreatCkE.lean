/- The functions of the program as functions of Lean, that its code does what they say, and what they answer; part E. -/
import Derived.Test.YtdjagncoefjfeaaGreatCkD

namespace Go.Proofs.YtdjagncoefjfeaaGreat
set_option linter.all false
section
open Go Go.Proofs.YtdjagncoefjfeaaGreat.Shv Go.Sort
set_option maxRecDepth 100000
variable{v:I}{ts tw tr:List ai}{t:Int}{x:ai}{its:List I}{p:aj}{c:nn}{S:Int->Int->I->I->Prop}
theorem KA{d:lq}{w:I}(f:vb d.S)(h:pP d=some (⟨ts⟩,t,v,w,true)):ts.length=d.S.eg.length:=by
 rw[pP]at h;rcases of_eq f with e|⟨l,e,_,_,c,_⟩
 . rw[e]at h;simp at h
 . rw[e]at h;simp only[aS,ak,de,bW,b6]at h;split at h
   . cases a:zi ((⟨l⟩:aO),b9 (bY .i64 d.T) (l.length:Int),d.C)with
     |none=>rw[a]at h;cases h
     |some x=>
      rw[a]at h;simp only[ak]at h;cases b:yY ((⟨l⟩:aO),b9 (bY .i64 d.T) (l.length:Int),d.C)with
      |none=>rw[b]at h;cases h
      |some y=>
       rw[b]at h;simp only[ak,dF,dY,aO.mk.injEq]at h;rw[<-h.1,c]
   . cases h
structure va (c:nk):Prop where
 d:FC c.D
 n:ll c.D.S.eg
 l:c.L.length<=reachBytes
 c:∀x,x∈c.L->BQ x
structure xU (tw tr:List ai)(t:Int)(v:I):Prop where
 W:c8 tw
 R:c8 tr
 t0:0<=t
 t1:t<tw.length
 t2:t<tr.length
 f:bO tw true t v
 o:bC v
 w:wt v<=3000
theorem xU.z{tw tr:List ai}{t:Int}{v:I}(C:xU tw tr t v):gI tw 3000 t v:=qG C.W 3000 C.o C.f (.inr C.w) (.inr C.w)
theorem xU.u{tw tr:List ai}{t:Int}{v:I}(C:xU tw tr t v):wt v<=2147483648:=fg C.w (by decide)
theorem aeK{c:nk}(h:va c):(∃w r t v,Ab c=some (w,r,t,v,false))\/∃tw tr t v,(Ab c=some (⟨tw⟩,⟨tr⟩,t,v,true)/\xU tw tr t v)/\∃w,pP c.D=some (⟨tw⟩,t,v,w,true)/\bO tw false t w/\bC w:=by
 obtain⟨o,d1,d3,d2⟩:=abo h.n h.l h.c;rw[Ab];rcases aiR h.d with⟨s,t,v,w,e⟩|⟨ts,t,v,w,e,H,ht,⟨v1,g,v3⟩,k,m,_⟩
 . rw[e];simp only[aS,ak];rw[d2];simp only[ak];rcases GM d1.FQ with a|⟨l,a,_⟩<;>rw[a]<;>exact .inl ⟨_,_,_,_,rfl⟩
 . have ah:=KA h.d.s e;rw[e];simp only[aS,ak];rw[d2];simp only[ak];rcases of_eq d1.FQ with a|⟨l,a,_,_,l2,_⟩
   . rw[a];exact .inl ⟨_,_,_,_,rfl⟩
   . rcases GM d1.FQ with f|⟨j,f,i⟩
     . rw[a]at f;cases f
     . rw[a]at f;have:l=j:=by injection f with q;injection q with q _;injection q
       subst this;rw[a];simp only[ak,de,dU];cases p:decide (4<(c.L.length:Int))with
       |true=>exact .inl ⟨_,_,_,_,rfl⟩
       |false=>
        obtain⟨b,b1,b2⟩:=Is g;simp only[en,bM,dU,I.aP];rw[b1];cases b with
        |false=>exact .inl ⟨_,_,_,_,rfl⟩
        |true=>exact .inr ⟨ts,l,t,v,⟨rfl,H,i,ht.1,ht.2,by omega,v1,g,b2 rfl⟩,w,rfl,k,m⟩
section
variable {tw tr:List ai}{t rt:Int}{v:I}
theorem ac7(c:c8 tw)(f:c8 tr)(m:bC v)(e:bO tw true t v)(p:0<=rt)(q:rt<tr.length):Dv ((⟨tw⟩:aO),t,v,(⟨tr⟩:aO),rt)=some 0:=by
 obtain⟨⟨j,k,_⟩,_⟩:=(dO _ _ _).1 e;have d:∀{ts:List ai} {t:Int},c8 ts->0<=t->t<ts.length->Af ((⟨ts⟩:aO),t)=some 0:=λ{ts t} H a b=>by
  rw[Af,(oJ H.T H.V).1];simp only[aS,ak];have g:¬t<0:=by omega
  have i:¬(ts.length:Int)<=t:=by omega
  rw[bz,al (by simp[g,i])]
 obtain⟨r,n,o⟩:=PT (c.V.fR c.T) m t true;have l:=o.2 e;subst l;rw[Dv];simp only[I.aP];rw[d c j k];simp only[aS,ak];rw[bz,d f p q];simp only[ak];rw[bz,Iq];simp only[I.aP];rw[n];rfl
theorem ac8(c:c8 tw)(g:c8 tr)(o:bC v)(f:bO tw true t v)(s:0<=rt)(u:rt<tr.length):DR ((⟨tw⟩:aO),t,v,(⟨tr⟩:aO),rt)=some 0:=by
 obtain⟨⟨k,l,_⟩,_⟩:=(dO _ _ _).1 f;have e:∀{ts:List ai} {t:Int},c8 ts->0<=t->t<ts.length->kK ((⟨ts⟩:aO),t)=some 0:=λ{ts t} H a b=>by
  rw[kK,(oJ H.T H.V).2];simp only[aS,ak];have i:¬t<0:=by omega
  have j:¬(ts.length:Int)<=t:=by omega
  rw[bz,al (by simp[i,j])]
 have d:=c.V.fR c.T;obtain⟨q,p,r⟩:=uI (by have:=d.n;omega) c.T d.K o t true;have m:=r.2 f;subst m;rw[DR];simp only[I.aP];rw[e c k l];simp only[aS,ak];rw[bz,e g s u];simp only[ak];rw[bz,wC];simp only[I.aP];rw[p];rfl
def lV:I ⊕ ao->I×Int
 |.inl u=>(u,0)
 |.inr _=>(⟨0,false,0,[],0,[],[],[]⟩,12)
noncomputable def u4 (tw tr:List ai)(t:Int)(v:I)(rt:Int):I ⊕ ao:=ef tw tr 3000 t v rt []
theorem abf(b:c8 tw)(a:c8 tr)(d:bC v)(c:bO tw true t v)(g:gI tw 3000 t v)(e:0<=rt)(f:rt<tr.length):zY ((⟨tw⟩:aO),t,v,(⟨tr⟩:aO),rt)=some (lV (u4 tw tr t v rt)):=by
 have h:=Ph b a 3000 d [] c g e f (path:=[]) (by simp);rw[zY];simp only[I.aP];rw[ac7 b a d c e f];simp only[aS,ak];rw[bz,h];unfold u4;cases ef tw tr 3000 t v rt []<;>rfl
theorem abg(b:c8 tw)(a:c8 tr)(d:bC v)(g:wt v<=2147483648)(c:bO tw true t v)(i:gI tw 3000 t v)(e:0<=rt)(f:rt<tr.length):y2 ((⟨tw⟩:aO),t,v,(⟨tr⟩:aO),rt)=some (lV (u4 tw tr t v rt)):=by
 have h:=Pm b a 3000 d g c i e f (path:=[]) (by simp);rw[y2];simp only[I.aP];rw[ac8 b a d c e f];simp only[aS,ak];rw[bz,h];unfold u4;cases ef tw tr 3000 t v rt []<;>rfl
end
theorem aiF{c:nk}(h:∀d,d∈cR.pj Lo c->WF cR d):va c:=by
 have i:=h ⟨.slice (.nm wy),c.D.S.eg⟩ (.head _);have j:=h ⟨.slice (.nm Lb),c.L⟩ (.tail _ (.tail _ (.tail _ (.head _))));obtain⟨a,_,e⟩:=xv (t:= .nm Lb) j;have g:∀{n:Int},WF cR ⟨.int .u8,n⟩->df n:=ajC;refine⟨aev λd b=>?_,afK i,a,λx k=>?_⟩
 . refine h d ?_;cases b with
   |head=>exact .head _
   |tail _ b=>cases b with
    |head=>exact .tail _ (.head _)
    |tail _ b=>cases b with
     |head=>exact .tail _ (.tail _ (.head _))
     |tail _ b=>cases b
 . have f:=e x k;exact⟨g (f ⟨.int .u8,x.Kind⟩ (.head _)),g (f ⟨.int .u8,x.Node⟩ (.tail _ (.head _))),g (f ⟨.int .u8,x.A⟩ (.tail _ (.tail _ (.head _)))),g (f ⟨.int .u8,x.B⟩ (.tail _ (.tail _ (.tail _ (.head _)))))⟩
theorem E8{α c:Type}{f:α->Option c}(d:α)(e:c):∀{l:List α} {m:List c},m.length=l.length->(∀j,j<l.length->f (l.getD j d)=some (m.getD j e))->cg f l=some m
 |[],[],_,_=>rfl
 |[],b::m,h,_=>by simp at h
 |a::l,[],h,_=>by simp at h
 |a::l,b::m,h,g=>by
  have h0:f a=some b:=g 0 (by simp);rw[uB,h0,E8 d e (l:=l) (m:=m) (by simpa using h) λj i=>g (j+1) (by simpa using i)];rfl
theorem Jb:∀{a b:List aj},a.length=b.length->fk (lS a b)=a/\e5 (lS a b)=b
 |[],[],_=>⟨rfl,rfl⟩
 |[],_::_,h=>by simp at h
 |_::_,[],h=>by simp at h
 |x::a,y::b,h=>by
  obtain⟨h1,c⟩:=Jb (a:=a) (b:=b) (by simpa using h);exact⟨by rw[lS,fk,h1],by rw[lS,e5,c]⟩
theorem aiX{m:aR}:dh m v=true↔m.bu=true/\m.bm=v:=by unfold dh;simp
theorem Jd:∀{F:List cP} {f:cP},F.Pairwise (λa b=>a.ad<b.ad)->f∈F->F.find? (λg=>decide (g.ad=f.ad))=some f
 |g::F,f,d,c=>by
  rw[jb]at d;rw[List.find?_cons];rcases eR.1 c with rfl|c
  . simp
  . have:=d.1 f c;have e:decide (g.ad=f.ad)=false:=uS (by omega);rw[e];exact Jd d.2 c
section
variable {ts:List ai}
theorem ac9{r:List bQ}(c:fV x.af)(d:j0 x.af r)(ah:its.length=x.af.length){f:o3}
 (B:∀j,j<x.af.length->dh (x.af.getD j aw) (its.getD j ar)=false->f (x.af.getD j aw).av (bp ts (x.af.getD j aw).av (its.getD j ar))=some (its.getD j ar))
 (C:((fO eQ (e9 ts x.af its r)).flatMap Fd.text).length<=90000):
 nH f x ((fO eQ (e9 ts x.af its r)).flatMap Fd.text)=some ⟨5,false,0,[],0,[],its,r⟩:=by
 have u:=D4 (um (ts:=ts) (l:=its) c d) (Ee c d);have o:∀g,g∈fO eQ (e9 ts x.af its r)↔g∈e9 ts x.af its r:=λg=>(kM eQ _).mem_iff;have E:∀g,g∈fO eQ (e9 ts x.af its r)->1<=g.id/\g.id<=1000:=λg aq=>IY c d ((o g).1 aq);unfold nH;rw[PW u E C];generalize fO eQ (e9 ts x.af its r)=L at*;have bn:(L.map mq).Pairwise (λa b=>a.ad<b.ad):=nA.2 (u.imp λ{a b} h=>by show(a.id:Int)<(b.id:Int);omega);have q:∀g,g∈L.map mq->(∃j,j<x.af.length/\dh (x.af.getD j aw) (its.getD j ar)=false/\g=⟨(x.af.getD j aw).ad,(x.af.getD j aw).b8,bp ts (x.af.getD j aw).av (its.getD j ar)⟩)\/∃a,a∈r/\g=⟨a.ad,false,a.Data⟩:=λg aq=>by
  obtain⟨e,aM,rfl⟩:=eS.1 aq;have:=(o e).1 aM;unfold e9 at this;rcases hb.1 this with h|h
  . obtain⟨j,n,v,H,rfl⟩:=Ib h;have i:=c.2 _ (aZ n aw);unfold cv at i;refine .inl ⟨j,n,H,?_⟩;show(⟨(((x.af.getD j aw).ad.toNat:Nat):Int),_,_⟩:cP)=_;rw[CH (by omega)]
  . obtain⟨a,a1,rfl⟩:=eS.1 h;have i:=(d.2 a a1).1;unfold cv at i;refine .inr ⟨a,a1,?_⟩;show(⟨((a.ad.toNat:Nat):Int),_,_⟩:cP)=_;rw[CH (by omega)];rfl
 have M:∀j,j<x.af.length->dh (x.af.getD j aw) (its.getD j ar)=false->(⟨(x.af.getD j aw).ad,(x.af.getD j aw).b8,bp ts (x.af.getD j aw).av (its.getD j ar)⟩:cP)∈L.map mq:=λj n v=>by
  have i:=c.2 _ (aZ n aw);unfold cv at i;refine eS.2 ⟨_,(o _).2 (xc _ (A9 n (by omega) v)),?_⟩;show(⟨(((x.af.getD j aw).ad.toNat:Nat):Int),_,_⟩:cP)=_;rw[CH (by omega)]
 have N:∀a,a∈r->(⟨a.ad,false,a.Data⟩:cP)∈L.map mq:=λa a1=>by
  have i:=(d.2 a a1).1;unfold cv at i;refine eS.2 ⟨kx a,(o _).2 (List.mem_append_right _ (eS.2 ⟨a,a1,rfl⟩)),?_⟩;show(⟨((a.ad.toNat:Nat):Int),_,_⟩:cP)=_;rw[CH (by omega)];rfl
 generalize L.map mq=F at*;have s:∀j,j<x.af.length->cw x.af (x.af.getD j aw).ad=some (x.af.getD j aw):=λj n=>JE c (aZ n aw);have G:cg (ee f F) x.af=some its:=E8 aw ar ah λj m=>by
  unfold ee;cases p:dh (x.af.getD j aw) (its.getD j ar)with
  |false=>
   have:=Jd bn (M j m p);rw[this];exact B j m p
  |true=>
   have aJ:F.find? (λg=>decide (g.ad=(x.af.getD j aw).ad))=none:=by
    rw[CI];intro g aq;simp only[e4];intro e;rcases q g aq with⟨k,k1,k2,rfl⟩|⟨a,a1,rfl⟩
    . have em:=qm c (aZ k1 aw) (aZ m aw) e;have w:k=j:=by
       rw[dd k1,dd m]at em;rcases CJ k j with h|h|h
       . have:=uN.1 c.1 k j k1 m h;rw[em]at this;omega
       . exact h
       . have:=uN.1 c.1 j k m k1 h;rw[em]at this;omega
      subst w;rw[p]at k2;cases k2
    . have:=(d.2 a a1).2;rw[show a.ad=(x.af.getD j aw).ad from e,s j m]at this;cases this
   rw[aJ];obtain⟨J,K⟩:=aiX.1 p;simp only;rw[ae J,K]
 have A:F.all (fQ x)=true:=by
  rw[gh];intro g aq;unfold fQ;rcases q g aq with⟨k,k1,k2,rfl⟩|⟨a,a1,rfl⟩
  . rw[s k k1];rfl
  . simp
 have D:fh x F=r:=by
  unfold fh;refine afz (nA.2 ((bn.filter _).imp λ{a b} h=>h)) d.1 λa=>?_;constructor
  . intro h;obtain⟨g,y,rfl⟩:=eS.1 h;obtain⟨z,t⟩:=r'.1 y;rcases q g z with⟨k,k1,k2,rfl⟩|⟨a,a1,rfl⟩
    . rw[s k k1]at t;simp at t
    . exact a1
  . intro h;refine eS.2 ⟨⟨a.ad,false,a.Data⟩,r'.2 ⟨N a h,?_⟩,rfl⟩;rw[(d.2 a h).2];rfl
 simp only;rw[G];simp only;rw[ae A,D]
theorem Pn(H:hj ts)(aQ:bC v):∀{t:Int} {m:Nat},(bp ts t v).length<=90000->bO ts false t v->ew ts t v<=m->cK ts m t (bp ts t v)=some v:=by
 induction aQ with
 |mk v hs h1 a' ba M bd be cZ ab bh bi aS K=>
 intro t m C aJ F;have aO:=tW (ts:=ts) t v;obtain⟨m,rfl⟩:∃k,m=k+1:=⟨m-1,by omega⟩
 have r:=AE (ts:=ts) t v;have N:∀q,q∈v.aB->(if v.aB=[]then 0 else 1)=1:=λq b=>al λe=>by rw[e]at b;cases b
 generalize (if v.aB=[]then 0 else 1)=kk at r N;obtain⟨⟨a6,a7,a8,_⟩,z⟩:=(dO _ _ _).1 aJ;have p:t.toNat<ts.length:=by omega
 have G:=aZ p aG;have aq:=λh=>BA (ts:=ts) (t:=t) (v:=v) h;have au:=λh=>BB (ts:=ts) (t:=t) (v:=v) h;have aw:=λh=>BC (ts:=ts) (t:=t) (v:=v) h;have ax:=λh=>BD (ts:=ts) (t:=t) (v:=v) h;have ay:=λh=>u3 (ts:=ts) (t:=t) (v:=v) h;have az:=λh=>sn (ts:=ts) (t:=t) (v:=v) h;have aA:=λh=>sq (ts:=ts) (t:=t) (v:=v) h;have aC:=λh=>sr (ts:=ts) (t:=t) (v:=v) h;have aE:=λh=>su (ts:=ts) (t:=t) (v:=v) h;rw[uC];generalize bf:ts.getD t.toNat aG=x at*;have an:x.Kind=5->∀c,c<=hf ts x.af v.ag->c<=m:=λh c z=>by rw[ae h]at r;exact Kg r F z
 have ao:x.Kind=6->∀s,cw x.af v.ad=some s->∀c,c<=e1 ts s.av v.ag->c<=m:=λh s bn c z=>by
  rw[al (by rw[h];decide),ae h,bn]at r;exact Kg r F z
 have L:7<=x.Kind->∀c,c<=e1 ts x.aD v.ag->c<=m:=λh c z=>by
  rw[al (λe=>by rw[e]at h;exact absurd h (by decide)),al (λe=>by rw[e]at h;exact absurd h (by decide))]at r;exact Kg r F z
 have ap:∀q,q∈v.aB->1<=m:=λq b=>by
  rw[N q b]at r;exact afA r F rfl
 clear r F aO N;have ai:∀{t:Int},(∀q,q∈v.ag->(bp ts t q).length<=90000/\bO ts false t q/\ew ts t q<=m)->cg (cK ts m t) (bF ts t v.ag)=some v.ag:=λ{t} ah=>E8 [] ar (by rw[iS]) λj p=>by
  rw[iS]at p;rw[Ic p];obtain⟨T,U,V⟩:=ah _ (aZ p ar);exact K _ (aZ p ar) T U V
 have aX:∀{t:Int},(∀q,q∈v.aB->(bp ts t q).length<=90000/\bO ts false t q/\ew ts t q<=m)->cg (cK ts m t) (bF ts t v.aB)=some v.aB:=λ{t} ah=>E8 [] ar (by rw[iS]) λj p=>by
  rw[iS]at p;rw[Ic p];obtain⟨T,U,V⟩:=ah _ (aZ p ar);exact aS _ (aZ p ar) T U V
 have P:∀{t:Int} {l:List I} {q:I},q∈l->bp ts t q∈bF ts t l:=λ{t l q} b=>by rw[zU];exact eS.2 ⟨q,b,rfl⟩
 unfold kC;rcases z with f|f|f|f|f|f|f|f|f
 . rw[fe,aq (by omega)];obtain⟨a1,a2,a3,a4,a5,o,u⟩:=f;unfold xK;cases bc:v.bS with
   |true=>
    rw[ae (show true=true from rfl),al (show ¬([1]:aj)=[] by simp),ae (show([1]:aj)=[1]from rfl)];cases v;simp_all
   |false=>
    rw[al (show ¬false=true by simp),ae (show([]:aj)=[]from rfl)];cases v;simp_all
 . obtain⟨a1,a2,a3,a4,a5,o,u,i,a9⟩:=f;rw[bl,fe,au (by omega)];have aR:=afx (n:=v.bg) ab;unfold xL;rw[PV (Bf ab)];simp only;rw[aR,ae ⟨i,a9⟩];cases v;simp_all
 . obtain⟨a1,a2,a3,a4,a5,o,u,i⟩:=f;rw[bl,bl,fe,aw (by omega)];unfold xM;rw[ae i];cases v;simp_all
 . obtain⟨a1,a2,a3,a4,a5,o,u,i⟩:=f;have aI:cv v.ad:=by
    rcases i with⟨y,aY,a0⟩|⟨_,_,h⟩
    . rw[<-a0];exact H.S _ G (by omega) y aY
    . exact h
   unfold cv at aI;obtain⟨k,M⟩:∃k:Nat,v.ad=(k:Int):=⟨v.ad.toNat,by omega⟩
   rw[bl,bl,bl,fe,ax (by omega),M,aV];unfold xN;rw[PV (by omega)];simp only;have hs:((x.bj.any λy=>decide (y.ad=(k:Int)))||x.Open)=true:=by
    rcases i with q|⟨q,_⟩
    . rw[M]at q;rw[Kw.1 q];rfl
    . rw[q];simp
   rw[ae ⟨by omega,by omega,hs⟩];cases v;simp_all
 . obtain⟨a1,a2,a3,a4,a5,o,u,i⟩:=f;obtain⟨R,aW⟩:=H.A _ G (.inl (by omega));obtain⟨f1,f2⟩:=gV.1 i;have Y:=ay (by omega);have E:((fO eQ (e9 ts x.af v.ag v.Rest)).flatMap Fd.text).length<=90000:=by rw[<-Y];exact C
   rw[bl,bl,bl,bl,bl,bl,bl,bl,Y,ac9 R u f1 (λj Q Z=>?_) E]
   . cases v;simp_all
   . have aP:=aZ (by omega:j<v.ag.length) ar;have aL:=A9 (ts:=ts) Q (by omega:j<v.ag.length) Z;have:=JV ((kM eQ _).mem_iff.2 (show _∈e9 ts x.af v.ag v.Rest from xc _ aL));exact K _ aP (fg this E) (f2 j Q) (an (by omega) _ (JX Q (by omega) Z))
 . obtain⟨a1,a2,a3,a4,a5,o⟩:=f;obtain⟨R,aW⟩:=H.A _ G (.inr (by omega));rw[bl,bl,bl,bl,bl,fe];have J:=az (by omega);unfold qJ;cases bn:cw x.af v.ad with
   |none=>
    rw[bn]at o J;obtain⟨b1,_,b2,b3,d,b4⟩:=o;unfold cv at b2;obtain⟨k,D⟩:∃k:Nat,v.ad=(k:Int):=⟨v.ad.toNat,by omega⟩
    have g:bp ts t v=ey k++d:=by
     rw[J,b4,D,aV];rfl
    rw[g,Kf (by omega)];simp only;rw[<-D,bn];simp only;rw[ae b1];cases v;simp_all
   |some s=>
    rw[bn]at o J;obtain⟨b1,b2,b3⟩:=o;obtain⟨d3,d4⟩:=jT bn;have aK:cv v.ad:=by rw[<-d4];exact R.2 s d3
    unfold cv at aK;obtain⟨k,D⟩:∃k:Nat,v.ad=(k:Int):=⟨v.ad.toNat,by omega⟩
    match ft:v.ag,b2 with
    |[a],_=>
     have w:a∈v.ag:=by rw[ft];exact .head _
     have g:bp ts t v=ey k++bp ts s.av a:=by
      rw[J,D,aV];show ey k++(bF ts s.av v.ag).headD []=_;rw[ft,bF];rfl
     have O:(bp ts s.av a).length<=90000:=by
      rw[g,cc]at C;exact fg (Nat.le_add_left _ _) C
     rw[g,Kf (by omega)];simp only;rw[<-D,bn];simp only;rw[K a w O (cD.1 b3 a w) (ao (by omega) s bn _ (uA w))];cases v;simp_all
 . obtain⟨a1,a2,a3,a4,a5,o,u,i,a9⟩:=f;have g:=aA (by omega);have B:((bF ts x.aD v.ag).flatMap dg).length<=90000:=by rw[<-g];exact C
   rw[bl,bl,bl,bl,bl,bl,fe,g];unfold nI;rw[Fm B];simp only;rw[ae (by rw[iS];exact i),ai λq b=>⟨fg (wb (P b)) B,cD.1 a9 q b,L (by omega) _ (uA b)⟩];cases v;simp_all
 . obtain⟨a1,a2,a3,a4,a5,o,u,i,a9,aF,aH⟩:=f;have g:=aC (by omega);have bb:=H.o6 _ G (by omega);have E:(bF ts x.Key v.aB).length=(bF ts x.aD v.ag).length:=by rw[iS,iS];omega
   obtain⟨ak,am⟩:=Jb E;have W:=OY _ _ E;rw[iS,iS]at W;have B:((lS (bF ts x.Key v.aB) (bF ts x.aD v.ag)).flatMap dg).length<=90000:=by rw[<-zV,<-g];exact C
   have aT:∀{a:aj} {l:List aj},a∈fk l->a∈l:=λh=>Eg h;have aU:∀{l:List aj} {a:aj},a∈e5 l->a∈l:=by
    intro l;induction l using e5.induct with
    |case1 x y l ih=>
     intro a h;rw[e5]at h;rcases eR.1 h with rfl|h
     . exact .tail _ (.head _)
     . exact .tail _ (.tail _ (ih h))
    |case2 l ah=>
     intro a h;rw[e5]at h
     . cases h
     . exact ah
   have aM:∀q,q∈v.aB->ew ts x.Key q<=m:=λq b=>by
    have aN:=ap q b;have e:ew ts x.Key q=1:=by
     obtain⟨⟨_,_,k3,_⟩,aa⟩:=(dO _ _ _).1 (cD.1 a9 q b);refine Ed ?_ ?_
     . rcases aa with k|k|k|k|k|k|k|k|k
       . exact k.2.2.2.2.1
       . exact k.2.2.2.2.1
       . exact k.2.2.2.2.1
       . exact k.2.2.2.2.1
       all_goals (exfalso;omega)
     . rcases aa with k|k|k|k|k|k|k|k|k
       . exact k.2.2.2.2.2.1
       . exact k.2.2.2.2.2.1
       . exact k.2.2.2.2.2.1
       . exact k.2.2.2.2.2.1
       all_goals (exfalso;omega)
    rw[e];exact aN
   rw[bl,bl,bl,bl,bl,bl,bl,fe,g,zV];unfold qK;rw[Fm B];simp only;rw[ae ⟨by rw[W];omega,by rw[W];omega⟩,ak,am,aX λq b=>⟨fg (wb (aT (by rw[ak];exact P b))) B,cD.1 a9 q b,aM q b⟩];simp only;rw[ae (wL.2 aH),ai λq b=>⟨fg (wb (aU (by rw[am];exact P b))) B,cD.1 aF q b,L (by omega) _ (uA b)⟩];cases v;simp_all
 . obtain⟨a1,a2,a3,a4,a5,o,u,i,a9⟩:=f;have g:=aE (by omega);rw[bl,bl,bl,bl,fe]
   match ft:v.ag,i with
   |[],_=>
    rw[ft,bF]at g;rw[g];cases v;simp_all [mH]
   |[a],_=>
    have w:a∈v.ag:=by rw[ft];exact .head _
    rw[ft,bF]at g;have X:bp ts t v=1::bp ts x.aD a:=g;have O:(bp ts x.aD a).length<=90000:=by
     rw[X,h8]at C;omega
    rw[X];show((if(1:UInt8)=1 then(cK ts m x.aD (bp ts x.aD a)).map _ else none):Option I)=_;rw[ae rfl,K a w O (cD.1 a9 a w) (L (by omega) _ (uA w))];cases v;simp_all
end
theorem zx{α c:Type}{f g:α->Option c}:∀{l:List α} {m:List c},(∀a b,a∈l->f a=some b->g a=some b)->cg f l=some m->cg g l=some m
 |[],m,_,h=>h
 |a::l,m,aq,h=>by
  simp only[cg]at h⊢;split at h
  . rename_i b j d e;rw[aq a b (.head _) d,zx (λx y i=>aq x y (.tail _ i)) e];exact h
  . cases h
section
variable {f g:o3}(h:∀t p v,f t p=some v->g t p=some v){x:ai}{v:I}
include h
theorem aeL(a:mH f x p=some v):mH g x p=some v:=by
 cases p with
 |nil=>exact a
 |cons c q=>
  simp only[mH]at a⊢;split at a
  . rename_i b;obtain⟨u,d,rfl⟩:=oT.1 a;rw[ae b,h _ _ _ d];rfl
  . cases a
theorem aeM(b:qJ f x p=some v):qJ g x p=some v:=by
 unfold qJ at b⊢;cases c:j8 p with
 |none=>rw[c]at b;cases b
 |some a=>
  obtain⟨id,q⟩:=a;rw[c]at b;dsimp only at b⊢;cases bn:cw x.af id with
  |none=>rw[bn]at b;exact b
  |some m=>
   rw[bn]at b;obtain⟨u,d,rfl⟩:=oT.1 b;dsimp only;rw[h _ _ _ d];rfl
theorem aeN(c:nI f x p=some v):nI g x p=some v:=by
 unfold nI at c⊢;split at c
 . split at c
   . rename_i i;obtain⟨u,d,rfl⟩:=oT.1 c;simp only[*,bM];rw[zx (λa b _ e=>h _ _ _ e) d];rfl
   . cases c
 . cases c
theorem aeO(c:qK f x p=some v):qK g x p=some v:=by
 unfold qK at c⊢;split at c
 . split at c
   . rename_i k;split at c
     . rename_i ks i;split at c
       . rename_i d;obtain⟨u,j,rfl⟩:=oT.1 c;simp only[*];rw[ae ⟨trivial,trivial⟩];rw[zx (λa b _ e=>h _ _ _ e) i];simp only[d,bM];rw[zx (λa b _ e=>h _ _ _ e) j];rfl
       . cases c
     . cases c
   . cases c
 . cases c
theorem ad3(c:nH f x p=some v):nH g x p=some v:=by
 unfold nH at c⊢;split at c
 . rename_i l ah;split at c
   . rename_i i d
     have:cg (ee g l) x.af=some i:=zx (λa b _ e=>by
      unfold ee at e⊢;split at e
      . exact h _ _ _ e
      . exact e) d
     simp only[ah,this];exact c
   . cases c
 . cases c
theorem ad4(a:kC f x p=some v):kC g x p=some v:=by
 unfold kC at a⊢;by_cases k1:x.Kind=1
 . rw[ae k1]at a⊢;exact a
 rw[al k1]at a⊢;by_cases k2:x.Kind=2
 . rw[ae k2]at a⊢;exact a
 rw[al k2]at a⊢;by_cases k3:x.Kind=3
 . rw[ae k3]at a⊢;exact a
 rw[al k3]at a⊢;by_cases k4:x.Kind=4
 . rw[ae k4]at a⊢;exact a
 rw[al k4]at a⊢;by_cases k9:x.Kind=9
 . rw[ae k9]at a⊢;exact aeL h a
 rw[al k9]at a⊢;by_cases k6:x.Kind=6
 . rw[ae k6]at a⊢;exact aeM h a
 rw[al k6]at a⊢;by_cases k7:x.Kind=7
 . rw[ae k7]at a⊢;exact aeN h a
 rw[al k7]at a⊢;by_cases k8:x.Kind=8
 . rw[ae k8]at a⊢;exact aeO h a
 rw[al k8]at a⊢;exact ad3 h a
end
section
variable {ts:List ai}
theorem Pb:∀(n k:Nat) (t:Int) (p:aj) (v:I),cK ts n t p=some v->cK ts (n+k) t p=some v
 |0,k,t,p,v,h=>by rw[zW]at h;cases h
 |n+1,k,t,p,v,h=>by
  rw[uC]at h;rw[show n+1+k=n+k+1 by omega,uC];exact ad4 (Pb n k) h
theorem ad5(H:hj ts){u:I}(c:bC v){m:Nat}(b:(bp ts t v).length<=90000)(a:bO ts false t v)(h:cK ts m t (bp ts t v)=some u):u=v:=by
 have h1:=Pn H c b a (Nat.le_add_left (ew ts t v) m);rw[Pb m _ t _ u h]at h1;exact mC h1
end
theorem Pc:∀(l:List I),(∀v,v∈l->wt (c5 v)<=wt v)->cx (l.map c5)<=cx l
 |[],_=>by simp
 |v::l,h=>by
  rw[iJ,gW,gW];have:=h v (.head _);have:=Pc l λw a=>h w (.tail _ a);omega
theorem Po(a:bC v):wt (c5 v)<=wt v:=by
 induction a with
 |mk v hs h1 c d f e g cZ j k l i b=>
  rw[mc,eV,eV v];have:=Pc v.ag b;dsimp only;split
  . simp only[qE,uL];omega
  . omega
theorem Rw(H:c8 ts)(ht:0<=t/\t<ts.length)(m:aj):gX ts t m=(ez,12)\/∃v,gX ts t m=(v,0)/\qO ts t v:=by
 unfold gX;rw[bl];by_cases a:4096<m.length
 . rw[ae a];exact .inl rfl
 . rw[al a];cases b:cK ts 200 t m with
   |none=>exact .inl rfl
   |some v=>exact .inr ⟨v,rfl,aeI H ht (by omega) b⟩
theorem Rx(ts:List ai)(t:Int)(v:I):lK ts t v=([],3)\/lK ts t v=(bp ts t v,0)/\(bp ts t v).length<=4096/\ew ts t v<=200:=by
 unfold lK;split
 . exact .inl rfl
 . rename_i h;exact .inr ⟨rfl,Nat.le_of_not_lt λa=>h (.inl a),Nat.le_of_not_lt λa=>h (.inr a)⟩
theorem ad6(H:c8 ts)(ht:0<=t/\t<ts.length)(c:bC v)(b:bO ts false t v)(h1:(bp ts t v).length<=4096)(a:ew ts t v<=200):gX ts t (bp ts t v)=(v,0):=by
 unfold gX;rw[bl,al (Nat.not_lt.2 h1),Pn (H.V.fR H.T) c (fg h1 (by decide)) b a]
section
variable {tw tr:List ai}{t rt:Int}
abbrev e6(tw:List ai)(t:Int):da:=⟨⟨tw⟩,t⟩
def o1(tw tr:List ai)(t rt:Int)(m:aj)(v u:I)(o:aj)(e:Int):Prop:=
 nr (e6 tw t,e6 tr rt,m)=some (⟨v,u,o⟩,e)/\mZ (e6 tw t,e6 tr rt,m)=some (⟨v,u,o⟩,e)
theorem Fa(H:c8 ts)(ht:0<=t/\t<ts.length):vX (e6 ts t)=some 0/\kK ((⟨ts⟩:aO),t)=some 0:=by
 have a:¬t<0:=by omega
 have b:¬(ts.length:Int)<=t:=by omega
 rw[vX,kK];simp only[e6];rw[(oJ H.T H.V).1,(oJ H.T H.V).2];simp[a,b]
theorem ad7(b:c8 tw)(a:c8 tr)(ht:0<=t/\t<tw.length)(c:0<=rt/\rt<tr.length):Dt [e6 tw t,e6 tr rt]=some 0/\DP (e6 tw t,e6 tr rt)=some 0:=by
 constructor
 . have d:ni ([e6 tw t,e6 tr rt],2,2)=some (.inr ()):=by rw[ni];rfl
   have h1:ni ([e6 tw t,e6 tr rt],2,1)=some (.inr ()):=by
    rw[ni,ae (by decide),ae (by rfl)];show(vX (e6 tr rt)>>=_)=_;rw[(Fa a c).1];exact d
   have h0:ni ([e6 tw t,e6 tr rt],2,0)=some (.inr ()):=by
    rw[ni,ae (by decide),ae (by rfl)];show(vX (e6 tw t)>>=_)=_;rw[(Fa b ht).1];exact h1
   rw[Dt];show(ni ([e6 tw t,e6 tr rt],2,0)>>=_)=_;rw[h0];rfl
 . rw[DP];show(kK ((⟨tw⟩:aO),t)>>=_)=_;rw[(Fa b ht).2];simp only[aS,ak];rw[bz];show((kK ((⟨tr⟩:aO),rt)).bind _)=_;rw[(Fa a c).2];rfl
theorem Pd(c:c8 tw)(d:c8 tr)(ht:0<=t/\t<tw.length)(k:0<=rt/\rt<tr.length){m:aj}(hs:∀v,gX tw t m=(v,0)->bO tw true t (c5 v)->gI tw 3000 t (c5 v)):
 (gX tw t m=(ez,12)/\o1 tw tr t rt m ez ez [] 12)\/∃v,gX tw t m=(v,0)/\qO tw t v/\((¬bO tw true t (c5 v)/\o1 tw tr t rt m ez ez [] 12)\/bO tw true t (c5 v)/\
  (((∃p,u4 tw tr t (c5 v) rt= .inr p)/\o1 tw tr t rt m ez ez [] 12)\/(∃x,u4 tw tr t (c5 v) rt= .inl x)/\
  ((lK tw t v=([],3)/\o1 tw tr t rt m ez ez [] 3)\/(lK tw t v=(bp tw t v,0)/\(bp tw t v).length<=4096/\ew tw t v<=200)/\
  ((gX tr rt (bp tw t v)=(ez,12)/\o1 tw tr t rt m ez ez [] 12)\/∃u,gX tr rt (bp tw t v)=(u,0)/\qO tr rt u/\
  ((lK tr rt u=([],3)/\o1 tw tr t rt m ez ez [] 3)\/lK tr rt u=(bp tr rt u,0)/\((bp tr rt u).length<=4096/\ew tr rt u<=200)/\o1 tw tr t rt m v u (bp tr rt u) 0))))):=by
 obtain⟨e,f⟩:=ad7 c d ht k;have d1:ta ((⟨tw⟩:aO),t,m)=some (gX tw t m):=Oa c.gy t m;have d2:tg ((⟨tw⟩:aO),t,m)=some (gX tw t m):=Ob c.gy t m;rcases Rw c ht m with a|⟨v,a,F⟩
 . left;refine⟨a,?_,?_⟩
   . rw[nr,e];simp[I.aP,zeroV,pO,d1,a,ez]
   . rw[mZ,f];simp[I.aP,zeroV,d2,a,ez]
 . right;refine⟨v,a,F,?_⟩;obtain⟨b,b1,b2,b3⟩:=abA c F.2.1 F.1;have s1:wg ((⟨tw⟩:aO),t,v)=_:=b2;have l:wD ((⟨tw⟩:aO),t,v)=_:=b3;cases b with
   |false=>
    left;refine⟨λh=>(by have:=b1.2 h;cases this),?_,?_⟩
    . rw[nr,e];simp[I.aP,zeroV,pO,d1,a,ez,s1]
    . rw[mZ,f];simp[I.aP,zeroV,d2,a,ez,l]
   |true=>
    right;have o:=b1.1 rfl;refine⟨o,?_⟩;have q:=Jg F.2.1;have y:=fg (Po F.2.1) F.2.2;have s:=hs v a o;have g:zY ((⟨tw⟩:aO),t,c5 v,(⟨tr⟩:aO),rt)=_:=abf c d q o s k.1 k.2;have i:y2 ((⟨tw⟩:aO),t,c5 v,(⟨tr⟩:aO),rt)=_:=abg c d q y o s k.1 k.2;cases r:u4 tw tr t (c5 v) rt with
    |inr p=>
     left;rw[r]at g i;refine⟨⟨p,rfl⟩,?_,?_⟩
     . rw[nr,e];simp[I.aP,zeroV,pO,d1,a,ez,s1,g,lV]
     . rw[mZ,f];simp[I.aP,zeroV,d2,a,ez,l,i,lV]
    |inl x=>
     right;rw[r]at g i;refine⟨⟨x,rfl⟩,?_⟩;have aM:l7 ((⟨tw⟩:aO),t,v)=_:=PE c F;have j:rj ((⟨tw⟩:aO),t,v)=_:=PF c F;rcases Rx tw t v with he|⟨he,ah⟩
     . left;rw[he]at aM j;refine⟨he,?_,?_⟩
       . rw[nr,e];simp[I.aP,zeroV,pO,d1,a,ez,s1,g,lV,aM]
       . rw[mZ,f];simp[I.aP,zeroV,d2,a,ez,l,i,lV,j]
     . right;rw[he]at aM j;refine⟨⟨he,ah⟩,?_⟩;have d3:ta ((⟨tr⟩:aO),rt,bp tw t v)=some (gX tr rt (bp tw t v)):=Oa d.gy rt _;have d4:tg ((⟨tr⟩:aO),rt,bp tw t v)=some (gX tr rt (bp tw t v)):=Ob d.gy rt _;rcases Rw d k (bp tw t v)with n|⟨u,n,G⟩
       . left;rw[n]at d3 d4;refine⟨n,?_,?_⟩
         . rw[nr,e];simp[I.aP,zeroV,pO,d1,a,ez,s1,g,lV,aM,d3]
         . rw[mZ,f];simp[I.aP,zeroV,d2,a,ez,l,i,lV,j,d4]
       . right;rw[n]at d3 d4;refine⟨u,n,G,?_⟩;have c2:l7 ((⟨tr⟩:aO),rt,u)=_:=PE d G;have h5:rj ((⟨tr⟩:aO),rt,u)=_:=PF d G;rcases Rx tr rt u with ec|⟨ec,w⟩
         . left;rw[ec]at c2 h5;refine⟨ec,?_,?_⟩
           . rw[nr,e];simp[I.aP,zeroV,pO,d1,a,ez,s1,g,lV,aM,d3,c2]
           . rw[mZ,f];simp[I.aP,zeroV,d2,a,ez,l,i,lV,j,d4,h5]
         . right;rw[ec]at c2 h5;refine⟨ec,w,?_,?_⟩
           . rw[nr,e];simp[I.aP,zeroV,pO,d1,a,s1,g,lV,aM,d3,c2]
           . rw[mZ,f];simp[I.aP,zeroV,d2,a,l,i,lV,j,d4,h5]
end
structure nN (tw tr:List ai)(t:Int)(v:I):Prop where
 W:c8 tw
 R:c8 tr
 t1:0<=t/\t<tw.length
 t2:0<=t/\t<tr.length
 f:bO tw false t v
 o:bC v
 w:wt v<=3000
theorem aiQ(h:va c.C):(∃w r m,tC c=some (w,r,m,false))\/∃tw tr t v,tC c=some (e6 tw t,e6 tr t,bp tw t v,true)/\nN tw tr t v/\tw.length=c.C.D.S.eg.length:=by
 have g:∀{ts:List ai} {t:Int} {v:I},c8 ts->bC v->wt v<=3000->bO ts false t v->iP ((⟨ts⟩:aO),t,v)=some (bp ts t v):=λH k l j=>Fl (H.V.fR H.T) k (by omega) _ j;rw[tC];rcases aeK h with⟨w,r,t,v,e⟩|⟨tw,tr,t,v,⟨e,C⟩,w,e8,i,a⟩
 . rw[e];exact .inl ⟨_,_,_,rfl⟩
 . rw[e];simp only[aS,ak,de,bW,b6];cases c.xW with
   |true=>
    obtain⟨b,b1,b2⟩:=Is a;rw[ae rfl,e8];simp only[ak,I.aP];rw[b1];cases b with
    |false=>exact .inl ⟨_,_,_,rfl⟩
    |true=>
     right;refine⟨tw,tr,t,w,?_,⟨C.W,C.R,⟨C.t0,C.t1⟩,⟨C.t0,C.t2⟩,i,a,b2 rfl⟩,KA h.d.s e8⟩;simp[g C.W a (b2 rfl) i]
   |false=>
    obtain⟨b,b1,b2⟩:=Is C.o;rw[bz];simp only[I.aP];rw[b1];cases b with
    |false=>exact .inl ⟨_,_,_,rfl⟩
    |true=>
     right;refine⟨tw,tr,t,v,?_,⟨C.W,C.R,⟨C.t0,C.t1⟩,⟨C.t0,C.t2⟩,oY _ _ C.f,C.o,C.w⟩,KA h.d.s e8⟩;simp[g C.W C.o C.w (oY _ _ C.f)]
theorem aiP(h:va c.C):(∃w r m,tC c=some (w,r,m,false))\/∃tw tr t v,tC c=some (e6 tw t,e6 tr t,bp tw t v,true)/\nN tw tr t v:=
 (aiQ h).imp id λ⟨tw,tr,t,v,a,b,_⟩=>⟨tw,tr,t,v,a,b⟩
theorem nN.back(C:nN tw tr t v):∀u,gX tw t (bp tw t v)=(u,0)->u=v:=λu h=>by
 rcases N9 tw t (bp tw t v)with⟨e,he,a⟩|⟨x,a,_,c,j⟩
 . rw[a]at h;exact absurd (eM Prod.snd h) he
 . rw[a]at h;have:x=u:=eM Prod.fst h;subst this;exact ad5 (C.W.V.fR C.W.T) C.o (fg c (by decide)) C.f j
theorem nN.z{tw tr:List ai}{t:Int}{v:I}(C:nN tw tr t v):∀u,gX tw t (bp tw t v)=(u,0)->bO tw true t (c5 u)->gI tw 3000 t (c5 u):=λu h a=>by
 have c:=fg (Po C.o) C.w;rw[C.back u h]at a⊢;exact qG C.W 3000 (Jg C.o) a (.inr c) (.inr c)
theorem nN.some(C:nN tw tr t v):∃x u o e,o1 tw tr t t (bp tw t v) x u o e/\(e=0->bC x/\qO tr t u/\gX tr t o=(u,0)):=by
 rcases Pd C.W C.R C.t1 C.t2 (m:=bp tw t v) C.z with⟨_,h⟩|⟨x,_,F,⟨_,h⟩|⟨_,⟨_,h⟩|⟨_,⟨_,h⟩|⟨_,⟨_,h⟩|⟨u,_,G,⟨_,h⟩|⟨_,⟨a,l2⟩,h⟩⟩⟩⟩⟩⟩
 . exact⟨_,_,_,_,h,by omega⟩
 . exact⟨_,_,_,_,h,by omega⟩
 . exact⟨_,_,_,_,h,by omega⟩
 . exact⟨_,_,_,_,h,by omega⟩
 . exact⟨_,_,_,_,h,by omega⟩
 . exact⟨_,_,_,_,h,by omega⟩
 . exact⟨_,_,_,_,h,λ_=>⟨F.2.1,G,ad6 C.R C.t2 G.2.1 G.1 a l2⟩⟩
theorem ad8(h:∀d,d∈cR.pj H3 c->WF cR d):va c.C:=
 aiF λd a=>h d (by
  show d∈cR.pj Lo c.C++[⟨.bool,c.xW⟩]
  exact xc _ a)
theorem aeY{r:List bQ}(c:fV x.af)(d:j0 x.af r){j:Nat}(e:j<x.af.length)(ah:its.length=x.af.length)(k:dh (x.af.getD j aw) (its.getD j ar)=false):
 ((fO eQ (e9 ts x.af its r)).map mq).find? (λf=>decide (f.ad=(x.af.getD j aw).ad))=some ⟨(x.af.getD j aw).ad,(x.af.getD j aw).b8,bp ts (x.af.getD j aw).av (its.getD j ar)⟩:=by
 have i:=D4 (um (ts:=ts) (l:=its) c d) (Ee c d);have bn:((fO _ _).map mq).Pairwise (λa b=>a.ad<b.ad):=nA.2 (i.imp λ{a b} h=>by show a.id<(b.id:Int);omega);have g:=c.2 _ (aZ e aw);unfold cv at g;refine Jd bn (f:=⟨(x.af.getD j aw).ad,(x.af.getD j aw).b8,bp ts _ _⟩) (eS.2 ⟨_,(kM eQ _).mem_iff.2 (xc _ (A9 e (by omega) k)),?_⟩);show(⟨(x.af.getD j aw).ad.toNat,_,_⟩:cP)=_;grind
def sE(S:Int->Int->I->I->Prop)(x y:ai)(v u:I):Prop:=
 x.Kind=y.Kind/\
 (x.Kind=5->v.ag.length=x.af.length/\u.ag.length=y.af.length/\∀k i,k<y.af.length->fz x.af (y.af.getD k aw).ad=some i->dh (x.af.getD i aw) (v.ag.getD i ar)=false->
  S (x.af.getD i aw).av (y.af.getD k aw).av (v.ag.getD i ar) (u.ag.getD k ar))/\
 (x.Kind=6->u.ad=v.ad/\∀i k,fz x.af v.ad=some i->fz y.af v.ad=some k->v.ag.length=1/\u.ag.length=1/\
  S (x.af.getD i aw).av (y.af.getD k aw).av (v.ag.getD 0 ar) (u.ag.getD 0 ar))/\
 (x.Kind≠5->x.Kind≠6->u.ag.length=v.ag.length/\∀j,j<v.ag.length->S x.aD y.aD (v.ag.getD j ar) (u.ag.getD j ar))
def sD(tw tr:List ai):Nat->Int->Int->I->I->Prop
 |0,_,_,_,_=>False
 |n+1,t,rt,v,u=>sE (sD tw tr n) (tw.getD t.toNat aG) (tr.getD rt.toNat aG) v u
theorem Ek{f:o3}{u:I}(h:x.Kind=1\/x.Kind=2\/x.Kind=3\/x.Kind=4)(a:kC f x p=some u):u.ag=[]:=by
 unfold kC at a;rcases h with h|h|h|h
 . grind[xK]
 . grind[xL]
 . grind[xM]
 . grind[xN]
variable{y:ai}
theorem sE.leaf{u:I}(bD:x.Kind=y.Kind)(h:x.Kind=1\/x.Kind=2\/x.Kind=3\/x.Kind=4)(e:v.ag=[])(c:u.ag=[]):sE S x y v u:=
 ⟨bD,λbf=>by omega,λa=>by omega,λ_ _=>by grind⟩
theorem sE.list{u:I}(bD:x.Kind=y.Kind)(h:7<=x.Kind)(ah:u.ag.length=v.ag.length)(hs:∀j,j<v.ag.length->S x.aD y.aD (v.ag.getD j ar) (u.ag.getD j ar)):sE S x y v u:=
 ⟨bD,λbf=>by omega,λa=>by omega,λ_ _=>⟨ah,hs⟩⟩
theorem Jm{i:Nat}(h:i<v.ag.length):(c5 v).ag.getD i ar=c5 (v.ag.getD i ar):=by
 grind[mc]
theorem abh(v:I):(c5 v).ag.length=v.ag.length:=by grind[mc]
theorem ad9(v:I):(c5 v).ad=v.ad:=by rw[mc]
section
variable {tw tr:List ai}
theorem shape(ab:c8 tw)(bg:c8 tr):∀n {v:I},bC v->∀{t rt:Int} {path:ao} {r u:I} {m:Nat},(bp tw t v).length<=90000->bO tw false t v->ef tw tr n t (c5 v) rt path= .inl r->cK tr m rt (bp tw t v)=some u->sD tw tr n t rt v u:=by
 intro n;induction n with
 |zero=>intro v Z t rt path r u m f am h;cases h
 |succ n ih=>
 intro v Z t rt path r u m E am h b;have SW:=ab.V.fR ab.T;cases m with
 |zero=>rw[zW]at b;cases b
 |succ m=>
 obtain⟨⟨bi,bj,bk,bm⟩,aU⟩:=(dO _ _ _).1 am;have o:t.toNat<tw.length:=by omega
 have au:=aZ o aG;have aL:=λh=>u3 (ts:=tw) (t:=t) (v:=v) h;have aN:=λh=>sn (ts:=tw) (t:=t) (v:=v) h;have aO:=λh=>sq (ts:=tw) (t:=t) (v:=v) h;have aP:=λh=>sr (ts:=tw) (t:=t) (v:=v) h;have aQ:=λh=>su (ts:=tw) (t:=t) (v:=v) h;rw[zL]at h;rw[uC]at b;show sE (sD tw tr n) (tw.getD t.toNat aG) (tr.getD rt.toNat aG) v u;generalize bo:tw.getD t.toNat aG=x at*;generalize bq:tr.getD rt.toNat aG=y at*;have bD:x.Kind=y.Kind:=by
  by_cases e:x.Kind=y.Kind
  . exact e
  . rw[Kh e]at h;cases h
 have S:∀y,y∈v.ag->bC y:=by cases Z;assumption
 have aF:∀{t:Int} {l:List I} {q:I},q∈l->bp tw t q∈bF tw t l:=λ{t l q} d=>by rw[zU];exact eS.2 ⟨q,d,rfl⟩
 have seq:∀ {us:List I} {p:ao},(∀ q,q∈v.ag->(bp tw x.aD q).length<=90000/\bO tw false x.aD q)->eY (ef tw tr n) p x.aD y.aD 0 (c5 v).ag = .inl us->cg (cK tr m y.aD) (bF tw x.aD v.ag) = some u.ag->
  u.ag.length=v.ag.length/\∀j,j<v.ag.length->sD tw tr n x.aD y.aD (v.ag.getD j ar) (u.ag.getD j ar):=λ{us p} ah a7 hs=>by
  obtain⟨b1,b2⟩:=zM a7;have aM:=qj hs;rw[iS]at aM;refine⟨aM,λj o=>?_⟩;have ai:=E9 [] ar hs j (by rw[iS];exact o);rw[Ic o]at ai;have c2:=b2 j (by rw[abh];exact o);rw[Jm o]at c2;have W:=aZ o ar;exact ih (S _ W) (ah _ W).1 (ah _ W).2 c2 ai
 rcases aU with c|c|c|c|c|c|c|c|c
 . exact .leaf bD (by omega) c.2.2.2.2.2.1 (Ek (by omega) b)
 . exact .leaf bD (by omega) c.2.2.2.2.2.1 (Ek (by omega) b)
 . exact .leaf bD (by omega) c.2.2.2.2.2.1 (Ek (by omega) b)
 . exact .leaf bD (by omega) c.2.2.2.2.2.1 (Ek (by omega) b)
 . obtain⟨a1,a2,a3,a4,a5,D,B,F⟩:=c;rw[GV bD (by omega)]at h;obtain⟨C,bd⟩:=SW.A _ au (.inl (by omega));obtain⟨f1,f2⟩:=gV.1 F;obtain⟨Q,aM,h⟩:=Eh h;obtain⟨b1,b2⟩:=Jk aM;have az:=aL (by omega);have N:((fO eQ (e9 tw x.af v.ag v.Rest)).flatMap Fd.text).length<=90000:=by rw[<-az];exact E
   have aT:=D4 (um (ts:=tw) (l:=v.ag) C B) (Ee C B);have a8:∀g,g∈fO eQ (e9 tw x.af v.ag v.Rest)->1<=g.id/\g.id<=1000:=λg aq=>IY C B ((kM eQ _).mem_iff.1 aq);unfold kC at b;rw[bl,bl,bl,bl,bl,bl,bl,bl,az]at b;unfold nH at b;rw[PW aT a8 N]at b;simp only at b;cases hs:cg (ee (cK tr m) ((fO eQ (e9 tw x.af v.ag v.Rest)).map mq)) y.af with
   |none=>rw[hs]at b;cases b
   |some us=>
    rw[hs]at b;simp only at b;split at b
    . cases b;refine⟨bD,λ_=>⟨f1,qj hs,λk i an s ax=>?_⟩,λal=>by omega,λbf=>absurd (by omega) bf⟩;obtain⟨d1,d2,_⟩:=hI s;have q:=E9 aw ar hs k an;unfold ee at q;rw[<-d2,aeY C B d1 f1 ax]at q;simp only at q;rcases PC (b2 k an)with⟨R,_,_⟩|⟨ba,R,ae,_⟩
      . rw[R]at s;cases s
      . rw[R]at s;cases s;rw[Jm (by omega)]at ae;have O:=aZ (by omega:i<v.ag.length) ar;have aY:=A9 (ts:=tw) d1 (by omega:i<v.ag.length) ax;have:=JV ((kM eQ _).mem_iff.2 (show _∈e9 tw x.af v.ag v.Rest from xc _ aY));exact ih (S _ O) (fg this N) (f2 i d1) ae q
    . cases b
 . obtain⟨a1,a2,a3,a4,a5,D⟩:=c;rw[GW bD (by omega)]at h;unfold sf at h;rw[ad9]at h;obtain⟨C,bd⟩:=SW.A _ au (.inr (by omega));have Y:=rP x.af v.ad;cases L:fz x.af v.ad with
   |none=>rw[L]at h;cases h
   |some i=>
   rw[L]at h Y;cases bn:cw x.af v.ad with
   |none=>rw[bn]at Y;cases Y
   |some z=>
   have aA:=aN (by omega);rw[bn]at D aA;obtain⟨b1,b2,b3⟩:=D;obtain⟨d1,d2,_⟩:=hI L;obtain⟨d3,d4⟩:=jT bn;have em:x.af.getD i aw=z:=qm C (aZ d1 aw) d3 (by rw[d2,d4]);have aX:cv v.ad:=by rw[<-d4];exact C.2 z d3
   unfold cv at aX;obtain⟨k,ap⟩:∃k:Nat,v.ad=(k:Int):=⟨v.ad.toNat,by omega⟩
   have O:=aZ (by omega:0<v.ag.length) ar;have d:bF tw z.av v.ag=[bp tw z.av (v.ag.getD 0 ar)]:=by
    match Z:v.ag,b2 with
    |[a],_=>rw[bF,bF];rfl
   have f:bp tw t v=ey k++bp tw z.av (v.ag.getD 0 ar):=by
    rw[aA];show _++(bF tw z.av v.ag).headD []=_;rw[d,ap,aV];rfl
   have U:(bp tw z.av (v.ag.getD 0 ar)).length<=90000:=by
    rw[f,cc]at E;exact fg (Nat.le_add_left _ _) E
   unfold kC at b;rw[bl,bl,bl,bl,bl,fe,f]at b;unfold qJ at b;rw[Kf (by omega)]at b;simp only at b;rw[<-ap]at b;refine⟨bD,λbf=>by omega,λ_=>?_,λ_ al=>absurd (by omega) al⟩;cases G:cw y.af v.ad with
   |none=>
    rw[G]at b;simp only at b;split at b
    . cases b;refine⟨rfl,λi k _ P=>?_⟩;have:=rP y.af v.ad;rw[P,G]at this;cases this
    . cases b
   |some aJ=>
    rw[G]at b;simp only at b;cases X:cK tr m aJ.av (bp tw z.av (v.ag.getD 0 ar))with
    |none=>rw[X]at b;cases b
    |some w=>
     rw[X]at b;cases b;refine⟨rfl,λba k2 s P=>⟨b2,rfl,?_⟩⟩;rw[L]at s;cases s;rw[P]at h;simp only at h;obtain⟨w',aM,_⟩:=qn h;obtain⟨aH,aI,bc⟩:=hI P;have ak:y.af.getD k2 aw=aJ:=by
      have aa:=yT.1 G;obtain⟨_,q,a0,aE,a6⟩:=aa;have e:q=k2:=by
       rcases CJ q k2 with aC|he|aW
       . have:=bc q aC;rw[dd a0,aE]at this;have:=(jT G).2;omega
       . exact he
       . have:=a6 k2 aW;rw[dd aH]at aI;simp[aI]at this
      rw[dd aH,<-aE];subst e;rfl
     rw[em,ak];rw[em,ak,Jm (by omega)]at aM;exact ih (S _ O) U (cD.1 b3 _ O) aM X
 . obtain⟨a1,a2,a3,a4,a5,D,B,F,a9⟩:=c;rw[GX bD (by omega)]at h;unfold xy at h;split at h
   . obtain⟨Q,aM,_⟩:=qn h;have f:=aO (by omega);have H:((bF tw x.aD v.ag).flatMap dg).length<=90000:=by rw[<-f];exact E
     unfold kC at b;rw[bl,bl,bl,bl,bl,bl,fe,f]at b;unfold nI at b;rw[Fm H]at b;simp only at b;split at b
     . cases hs:cg (cK tr m y.aD) (bF tw x.aD v.ag)with
       |none=>rw[hs]at b;cases b
       |some us=>
        rw[hs]at b;cases b;obtain⟨J,K⟩:=seq (λq d=>⟨fg (wb (aF d)) H,cD.1 a9 q d⟩) aM hs;exact .list bD (by omega) J K
     . cases b
   . cases h
 . obtain⟨a1,a2,a3,a4,a5,D,B,F,a9,aR,bh⟩:=c;rw[GY bD (by omega)]at h;unfold xz at h;split at h
   . obtain⟨ks,cQ,h⟩:=Eh h;obtain⟨Q,aM,_⟩:=qn h;have f:=aP (by omega);have N:(bF tw x.Key v.aB).length=(bF tw x.aD v.ag).length:=by rw[iS,iS];omega
     obtain⟨be,aK⟩:=Jb N;have H:((lS (bF tw x.Key v.aB) (bF tw x.aD v.ag)).flatMap dg).length<=90000:=by rw[<-zV,<-f];exact E
     have bb:∀{l:List aj} {a:aj},a∈e5 l->a∈l:=by
      intro l;induction l using e5.induct with
      |case1 x y l ih=>
       intro a h;rw[e5]at h;rcases eR.1 h with rfl|h
       . exact .tail _ (.head _)
       . exact .tail _ (.tail _ (ih h))
      |case2 l ah=>
       intro a h;rw[e5]at h
       . cases h
       . exact ah
     unfold kC at b;rw[bl,bl,bl,bl,bl,bl,bl,fe,f,zV]at b;unfold qK at b;rw[Fm H]at b;simp only at b;split at b
     . rw[be,aK]at b;split at b
       . split at b
         . cases hs:cg (cK tr m y.aD) (bF tw x.aD v.ag)with
           |none=>rw[hs]at b;cases b
           |some us=>
            rw[hs]at b;cases b;obtain⟨J,K⟩:=seq (λq d=>⟨fg (wb (bb (by rw[aK];exact aF d))) H,cD.1 aR q d⟩) aM hs;exact .list bD (by omega) J K
         . cases b
       . cases b
     . cases b
   . cases h
 . obtain⟨a1,a2,a3,a4,a5,D,B,F,a9⟩:=c;rw[GZ bD (by omega)]at h;obtain⟨Q,aM,_⟩:=qn h;have f:=aQ (by omega);unfold kC at b;rw[bl,bl,bl,bl,fe]at b
   match ft:v.ag,F with
   |[],_=>
    rw[ft,bF]at f;rw[f]at b;have a':u.ag=[]:=by unfold mH at b;cases b;rfl
    exact .list bD (by omega) (by rw[a',ft]) (λj o=>by rw[ft]at o;cases o)
   |[a],_=>
    have aS:a∈v.ag:=by rw[ft];exact .head _
    rw[ft,bF]at f;have ay:bp tw t v=1::bp tw x.aD a:=f;have U:(bp tw x.aD a).length<=90000:=by
     rw[ay,h8]at E;omega
    rw[ay]at b;have M:(cK tr m y.aD (bp tw x.aD a)).map (λv=>(⟨9,false,0,[],0,[],[v],[]⟩:I))=some u:=b;cases d:cK tr m y.aD (bp tw x.aD a)with
    |none=>rw[d]at M;cases M
    |some w=>
     rw[d]at M;cases M;obtain⟨J,K⟩:=seq (us:=Q) (λq d=>by rw[ft]at d;cases d with|head=>exact⟨U,cD.1 a9 a aS⟩|tail _ h=>cases h) aM (by rw[ft,bF,bF,uB,d];rfl);exact .list bD (by omega) J K
end
theorem Je{p:ao}(c:p.length<=20000000000)(n:Int):rW (p,n)=some (p++[n])/\pR (p,n)=some (p++[n]):=by
 have h1:room 8 p.length=true:=jv;have a:room 8 (p++[n]).length=true:=jv (by omega) (by simp;omega);constructor
 . have b:eO 8 p=some p:=by unfold eO;rw[ae (lA h1)]
   rw[rW,b];simp only[aS,ak];rw[ae a]
 . rw[pR,fH,ae h1];simp only[aS,ak];rw[ae a]
def dm(r:List bQ)(id:Int):Bool:=r.any λf=>decide (f.ad=id)
theorem af4{r:List bQ}(d:r.length<=reachBytes)(m:aR):C' (r,m)=some (dm r m.ad,m):=by
 unfold reachBytes at d;have h:=ns (λi=>pr (r,(r.length:Int),(i:Int),m)) r.length (λi=>decide ((r.getD i bP).ad=m.ad)) (λi=>.inl ((i:Int),m)) (.inr m)
  (λi c=>by
   rw[pr,bE,ae (aH c)];simp only[aS,ak,aV,I.aP,gw,HT]
   rw[bA (by omega)])
  (by rw[pr,bz];simp only[I.aP,gw])
 have cQ:pr (r,(r.length:Int),((0:Nat):Int),m)=pr (r,(r.length:Int),0,m):=rfl;simp only[cQ]at h;rw[C',HR];simp only[I.aP,gw];rcases h with⟨j,b,f,_,a⟩|⟨h1,a⟩
 . have:dm r m.ad=true:=GK.2 ⟨_,aZ b bP,f⟩;rw[a,this];simp[I.aP]
 . have:dm r m.ad=false:=GJ.2 λx e=>by
    obtain⟨j,b,rfl⟩:=AI bP e;simpa using h1 j b
   rw[a,this];simp[I.aP]
theorem af5(d:v.Rest.length<=reachBytes)(id:Int):DV (v,id)=some (dm v.Rest id):=by
 unfold reachBytes at d;have h:=ns (λi=>qe (id,(i:Int),v)) v.Rest.length (λi=>decide ((v.Rest.getD i bP).ad=id)) (λi=>.inl true) (.inr ())
  (λi c=>by
   rw[qe,bE,ae (aH c)];simp only[aV,I.aP]
   rw[bA (by omega)])
  (by rw[qe,bz])
 have cQ:qe (id,((0:Nat):Int),v)=qe (id,0,v):=rfl;simp only[cQ]at h;rw[DV];simp only[I.aP];rcases h with⟨j,b,f,_,a⟩|⟨h1,a⟩
 . have:dm v.Rest id=true:=GK.2 ⟨_,aZ b bP,f⟩;rw[a,this];rfl
 . have:dm v.Rest id=false:=GJ.2 λx e=>by
    obtain⟨j,b,rfl⟩:=AI bP e;simpa using h1 j b
   rw[a,this];rfl
section
variable {tw tr:List ai}
def BP(tw tr:List ai)(t rt:Int)(v u:I)(p:ao)(l:List ao):Prop:=
 (∀acc:List ao,acc.length+l.length<=10000000000->kU (t,v,rt,u,p,tw,tr,acc)=some (tw,tr,acc++l))/\
 jQ ((⟨tw⟩:aO),(⟨tr⟩:aO),t,rt,v,u,p)=some l/\l.length<=wt u/\∀q,q∈l->q.length<=p.length+wt u
theorem Pp{y:ai}{u:I}{p:ao}(ah:u.ag.length=v.ag.length)(f:v.ag.length<=reachBytes)(m:p.length+wt u<=10000000000)
 (e:∀j,j<v.ag.length->∃l,BP tw tr x.aD y.aD (v.ag.getD j ar) (u.ag.getD j ar) (p++[(j:Int)]) l):∀(k i:Nat),i+k=v.ag.length->
 ∃l:List ao,(∀acc:List ao,acc.length+l.length<=10000000000->tN (p,(u.ag.length:Int),(i:Int),tw,tr,v,u,x,y,acc)=some (tw,tr,acc++l))/\
  (∀acc:List ao,acc.length+l.length<=10000000000->tP (p,(i:Int),tw,tr,v,u,x,y,acc)=some (acc++l))/\l.length<=cx (u.ag.drop i)/\∀q,q∈l->q.length<=p.length+wt u
 |0,i,g=>⟨[],λacc _=>by rw[tN,cr,h9],λacc _=>by rw[tP,cr,h9],by simp,λq a=>by cases a⟩
 |k+1,i,g=>by
  have d:i<v.ag.length:=by omega
  have b:i<u.ag.length:=by omega
  obtain⟨n,a1,a2,a3,a4⟩:=e i d;obtain⟨l2,b1,b2,b3,b4⟩:=Pp ah f m e k (i+1) (by omega);obtain⟨s1,o⟩:=Je (p:=p) (by omega) (i:Int);have t:=e2 (aZ b ar);have s:=eV u;have r:=A7 b;unfold reachBytes at f;refine⟨n++l2,λacc c=>?_,λacc c=>?_,by rw[cc];omega,λq a=>?_⟩
  . rw[cc]at c;rw[tN,bE,ae (aH d),ae (aH b),aV];simp only[I.aP];rw[s1];simp only[aS,ak];rw[a1 acc (by omega)];simp only[ak];rw[bA (by omega),b1 _ (by rw[cc];omega),gg]
  . rw[cc]at c;rw[tP,bE,ae (aH d),ae (aH b),aV];simp only[I.aP];rw[o];simp only[aS,ak];rw[a2];simp only[ak];rw[ae (jv (by omega) (by rw[cc];omega)),bA (by omega),b2 _ (by rw[cc];omega),gg]
  . rcases hb.1 a with a|a
    . have:=a4 q a;rw[cc]at this;have:q.length<=p.length+1+wt (u.ag.getD i ar):=this;omega
    . exact b4 q a
theorem Ry {x y:ai}{v u:I}{p:ao}(g:x.af.length<=1000)(W:y.af.length<=1000)(ah:v.ag.length=x.af.length)(V:u.ag.length=y.af.length)(t:v.Rest.length<=reachBytes)(T:p.length+wt u<=10000000000)
 (H:∀q,q∈v.ag->bC q)(E:∀m,m∈x.af->bC m.bm)
 (D:∀k i,k<y.af.length->fz x.af (y.af.getD k aw).ad=some i->dh (x.af.getD i aw) (v.ag.getD i ar)=false->
  ∃l,BP tw tr (x.af.getD i aw).av (y.af.getD k aw).av (v.ag.getD i ar) (u.ag.getD k ar) (p++[(y.af.getD k aw).ad]) l):∀(n k:Nat),k+n=y.af.length->
 ∃l:List ao,(∀acc:List ao,acc.length+l.length<=10000000000->iX (p,y.af,(y.af.length:Int),(k:Int),tw,tr,x,v,u,acc)=some (tw,tr,acc++l))/\
  (∀acc:List ao,acc.length+l.length<=10000000000->iZ (p,(k:Int),tw,tr,v,u,x,y,acc)=some (acc++l))/\l.length<=cx (u.ag.drop k)/\∀q,q∈l->q.length<=p.length+wt u
 |0,k,Q=>⟨[],λacc _=>by rw[iX,cr,h9],λacc _=>by rw[iZ,cr,h9],by simp,λq b=>by cases b⟩
 |n+1,k,Q=>by
  have f:k<y.af.length:=by omega
  have s:k<u.ag.length:=by omega
  obtain⟨l2,b1,b2,b3,b4⟩:=Ry g W ah V t T H E D n (k+1) (by omega);have P:=D k;have aq:=e2 (aZ s ar);have an:=eV u;have ap:=eV (u.ag.getD k ar);have am:=A7 s;generalize j:y.af.getD k aw=m at*;obtain⟨s1,M⟩:=Je (p:=p) (by omega) m.ad;have B:=af4 t m;have C:=af5 t m.ad;have one:∀ d:List ao,d.length<=wt (u.ag.getD k ar)->(∀ q,q∈d->q.length<=p.length+wt u)->
   (∀acc:List ao,acc.length+d.length<=10000000000->iX (p,y.af,(y.af.length:Int),(k:Int),tw,tr,x,v,u,acc)=iX (p,y.af,(y.af.length:Int),((k+1:Nat):Int),tw,tr,x,v,u,acc++d))->
   (∀acc:List ao,acc.length+d.length<=10000000000->iZ (p,(k:Int),tw,tr,v,u,x,y,acc)=iZ (p,((k+1:Nat):Int),tw,tr,v,u,x,y,acc++d))->
   ∃l:List ao,(∀acc:List ao,acc.length+l.length<=10000000000->iX (p,y.af,(y.af.length:Int),(k:Int),tw,tr,x,v,u,acc)=some (tw,tr,acc++l))/\
   (∀acc:List ao,acc.length+l.length<=10000000000->iZ (p,(k:Int),tw,tr,v,u,x,y,acc)=some (acc++l))/\l.length<=cx (u.ag.drop k)/\∀q,q∈l->q.length<=p.length+wt u:=λd ay ab aj al=>
   ⟨d++l2,λacc a=>by rw[cc]at a;rw[aj acc (by omega),b1 _ (by rw[cc];omega),gg],
    λacc a=>by rw[cc]at a;rw[al acc (by omega),b2 _ (by rw[cc];omega),gg],by rw[cc];omega,
    λq b=>by rcases hb.1 b with b|b;exact ab q b;exact b4 q b⟩
  cases bn:fz x.af m.ad with
  |none=>
   have e:g' x.af m.ad=(0,false):=by unfold g';rw[bn]
   cases r:dm v.Rest m.ad with
   |false=>
    refine one [p++[m.ad]] (show 1<=_ by omega) (λq b=>by rw[qB.1 b];simp;omega) (λacc a=>?_) λacc a=>?_
    . have a:acc.length+1<=10000000000:=a;rw[iX,bE,ae (aH f),aV,j];simp only[aS,ak,I.aP,gw];rw[lC g,e];simp only[ak,en,bM];rw[B,r];simp only[ak,en,bM];rw[s1];simp only[ak];rw[ae (jv (by omega) (by rw[cc];show acc.length+1<=_;omega)),bA (by omega)]
    . have a:acc.length+1<=10000000000:=a;rw[iZ,bE,ae (aH f),aV,j];simp only[aS,ak,I.aP,gw];rw[lD g,e];simp only[ak,en,bM];rw[C,r];simp only[ak,en,ed,bM];rw[M];simp only[ak];rw[ae (jv (by omega) (by rw[cc];show acc.length+1<=_;omega)),bA (by omega)];simp
   |true=>
    refine one [] (by simp) (λq b=>by cases b) (λacc a=>?_) λacc a=>?_
    . rw[iX,bE,ae (aH f),aV,j];simp only[aS,ak,I.aP,gw];rw[lC g,e];simp only[ak,en,bM];rw[B,r];simp only[ak,de,bW,b6];rw[bA (by omega),h9]
    . rw[iZ,bE,ae (aH f),aV,j];simp only[aS,ak,I.aP,gw];rw[lD g,e];simp only[ak,en,bM];rw[C,r];simp only[ak,de,ed,bW,b6];rw[bA (by omega),h9];simp
  |some i=>
   obtain⟨w,au,_⟩:=hI bn;have e:g' x.af m.ad=((i:Int),true):=by unfold g';rw[bn]
   have z:i<v.ag.length:=(by omega);have R:=aZ w aw;obtain⟨c,X,ax⟩:=PY (H _ (aZ z ar)) (x.af.getD i aw).bm;obtain⟨K,Y,J⟩:=PX (E _ R) (v.ag.getD i ar);have U:c=K:=by cases c<;>cases K<;>simp_all
   subst U;have S:dh (x.af.getD i aw) (v.ag.getD i ar)=((x.af.getD i aw).bu&&c):=by
    unfold dh;cases (x.af.getD i aw).bu with
    |false=>rfl
    |true=>
     cases c with
     |true=>simpa using J.1 rfl
     |false=>simp;intro h;have:=J.2 h;cases this
   have O:=P i f bn;have aM:(if !!(x.af.getD i aw).bu then nq (v.ag.getD i ar,(x.af.getD i aw).bm)else some false)=some ((x.af.getD i aw).bu&&c):=by
    rw[X];cases (x.af.getD i aw).bu<;>rfl
   have N:(if !false&&(x.af.getD i aw).bu then tp ((x.af.getD i aw).bm,v.ag.getD i ar)else some false)=some ((x.af.getD i aw).bu&&c):=by
    rw[Y];cases (x.af.getD i aw).bu<;>rfl
   have c2:(bif !(x.af.getD i aw).bu then true else !((x.af.getD i aw).bu&&c))=!((x.af.getD i aw).bu&&c):=by cases (x.af.getD i aw).bu<;>rfl
   have h5:(bif (x.af.getD i aw).bu then((x.af.getD i aw).bu&&c)else false)=((x.af.getD i aw).bu&&c):=by cases (x.af.getD i aw).bu<;>rfl
   have F:∀ acc,iX (p,y.af,(y.af.length:Int),(k:Int),tw,tr,x,v,u,acc) = if !((x.af.getD i aw).bu&&c) then (rW (p,m.ad)).bind λaa=>(kU ((x.af.getD i aw).av,v.ag.getD i ar,m.av,u.ag.getD k ar,aa,tw,tr,acc)).bind λA=>
    iX (p,y.af,(y.af.length:Int),((k+1:Nat):Int),A.1,A.2.1,x,v,u,A.2.2)else iX (p,y.af,(y.af.length:Int),((k+1:Nat):Int),tw,tr,x,v,u,acc):=λacc=>by
    rw[iX,bE,ae (aH f),aV,j];simp only[aS,ak,I.aP,gw];rw[lC g,e];simp only[ak,de,bW,b6,aV,aH w,aH z,aH s,w7,bM];rw[aM,ak,c2,bA (by omega)]
   have G:∀ acc,iZ (p,(k:Int),tw,tr,v,u,x,y,acc) = if ((x.af.getD i aw).bu&&c) then iZ (p,((k+1:Nat):Int),tw,tr,v,u,x,y,acc) else (pR (p,m.ad)).bind λZ=>
    (jQ ((⟨tw⟩:aO),(⟨tr⟩:aO),(x.af.getD i aw).av,m.av,v.ag.getD i ar,u.ag.getD k ar,Z)).bind λL=>if room 24 (acc++L).length then iZ (p,((k+1:Nat):Int),tw,tr,v,u,x,y,acc++L)else none:=λacc=>by
    rw[iZ,bE,ae (aH f),aV,j];simp only[aS,ak,I.aP,gw];rw[lD g,e];simp only[ak,de,bW,b6,aV,aH w,aH z,aH s,w7,bM,dU];rw[N,ak,h5,bA (by omega)]
   cases o:((x.af.getD i aw).bu&&c)with
   |false=>
    obtain⟨d,a1,a2,a3,a4⟩:=O (by rw[S,o])
    refine one d a3 (λq b=>by
     have:=a4 q b;rw[cc]at this;have:q.length<=p.length+1+wt (u.ag.getD k ar):=this
     omega) (λacc a=>?_) λacc a=>?_
    . rw[F,o,ae (show(!false)=true from rfl),s1,ak,a1 acc a,ak]
    . rw[G,o,bz,M,ak,a2,ak,ae (jv (by omega) (by rw[cc];omega))]
   |true=>
    refine one [] (by simp) (λq b=>by cases b) (λacc a=>?_) λacc a=>?_
    . rw[F,o,bz,h9]
    . rw[G,o,ae rfl,h9]
theorem abp(E:c8 tw)(D:c8 tr):∀(n:Nat) {v u:I},bC v->∀{t rt:Int} {p:ao},sD tw tr n t rt v u->bO tw false t v->0<=rt/\rt<tr.length->p.length+wt u<=10000000000->∃l,BP tw tr t rt v u p l:=by
 intro n;induction n with
 |zero=>intro v u b t rt p h;cases h
 |succ n ih=>
 intro v u b t rt p h X aC Y;obtain⟨bD,bf,S,U⟩:sE (sD tw tr n) (tw.getD t.toNat aG) (tr.getD rt.toNat aG) v u:=h;obtain⟨⟨ax,az,ai,aA⟩,W⟩:=(dO _ _ _).1 X;have J:=oO X;obtain⟨i,rfl⟩:∃i:Nat,t=(i:Int):=⟨t.toNat,by omega⟩
 obtain⟨k,rfl⟩:∃k:Nat,rt=(k:Int):=⟨rt.toNat,by omega⟩
 have c:i<tw.length:=by omega
 have d:k<tr.length:=by omega
 have P:=aZ c aG;have G:=aZ d aG;rw[aV]at W ai;rw[aV]at J;rw[aV,aV]at bD bf S U;have au:=(E.cu _ P).2.2;have av:=(D.cu _ G).2.2;have aE:=eV u;unfold BP;generalize g:tw.getD i aG=x at*;generalize o:tr.getD k aG=y at*;cases b with
 |mk _ hs b1 b2 b3 aB F aD cZ aI aJ aK=>
 have an:∀j,j<v.ag.length->x.Kind≠5->x.Kind≠6->7<=x.Kind:=λj a lJ mU=>by
  rcases W with h|h|h|h|h|h|h|h|h
  . rw[h.2.2.2.2.2.1]at a;cases a
  . rw[h.2.2.2.2.2.1]at a;cases a
  . rw[h.2.2.2.2.2.1]at a;cases a
  . rw[h.2.2.2.2.2.1]at a;cases a
  . omega
  . omega
  . omega
  . omega
  . omega
 have Q:∀{j:Nat} {s:Int},j<u.ag.length->(p++[s]).length+wt (u.ag.getD j ar)<=10000000000:=λ{j s} a=>by
  have:=e2 (aZ a ar);rw[cc];show p.length+1+_<=_;omega
 by_cases k5:x.Kind=5
 . obtain⟨f1,f2,f3⟩:=bf k5
   obtain⟨l,K,M,B,O⟩:=Ry (tw:=tw) (tr:=tr) (p:=p) (by omega) (by omega) f1 f2 b3 Y F (λm aj=>(E.T _ P).iG m aj) (λk i w z ap=>by
    obtain⟨H,_,_⟩:=hI z;have b:=J i (by omega);unfold dG at b;rw[ae k5]at b
    exact ih (F _ (aZ (by omega:i<v.ag.length) ar)) (f3 k i w z ap) b (D.gy.mem G (aZ w aw)) (Q (by omega))) y.af.length 0 (by omega)
   refine⟨l,λacc r=>?_,?_,by rw[fc]at B;omega,O⟩
   . have L:iX (p,y.af,(y.af.length:Int),0,tw,tr,x,v,u,acc)=_:=K acc r;rw[kU,ae (aH c)];simp only[aS,ak,I.aP,aV,g,o,aH d,bM];rw[bE,Dh];simp only[aS,I.aP];rw[L];rfl
   . have N:iZ (p,0,tw,tr,v,u,x,y,[])=_:=M [] (by rw[fc]at B;simp;omega);rw[jQ,ae (aH c)];simp only[aS,ak,I.aP,aV,g,o,aH d,bM];rw[cr,cr,N];rfl
 . by_cases k6:x.Kind=6
   . obtain⟨aM,f⟩:=S k6;cases w:fz x.af v.ad with
     |none=>
      have e:g' x.af v.ad=(0,false):=by unfold g';rw[w]
      refine⟨[],λacc r=>?_,?_,by simp,λq C=>by cases C⟩
      . rw[kU,ae (aH c)];simp only[aS,ak,I.aP,aV,g,o,aH d,bM];rw[cr,bE,aM,lC (by omega),lC (by omega),e];simp
      . rw[jQ,ae (aH c)];simp only[aS,ak,I.aP,aV,g,o,aH d,bM];rw[bE,lD (by omega),lD (by omega),e];simp
     |some Z=>
     cases z:fz y.af v.ad with
     |none=>
      have e:g' y.af v.ad=(0,false):=by unfold g';rw[z]
      refine⟨[],λacc r=>?_,?_,by simp,λq C=>by cases C⟩
      . rw[kU,ae (aH c)];simp only[aS,ak,I.aP,aV,g,o,aH d,bM];rw[cr,bE,aM,lC (by omega),lC (by omega),e];simp
      . rw[jQ,ae (aH c)];simp only[aS,ak,I.aP,aV,g,o,aH d,bM];rw[bE,lD (by omega),lD (by omega),e];simp
     |some ah=>
      obtain⟨f1,f2,f3⟩:=f Z ah w z;obtain⟨H,am,_⟩:=hI w;obtain⟨k1,_,_⟩:=hI z;have R:g' x.af v.ad=((Z:Int),true):=by unfold g';rw[w]
      have c2:g' y.af v.ad=((ah:Int),true):=by unfold g';rw[z]
      have b:=J 0 (by omega);have bn:=JE ((E.V.fR E.T).A _ P (.inr (by omega))).1 (aZ H aw);rw[am]at bn;unfold dG at b;rw[al k5,ae k6,bn]at b;have aa:ay 0 v.ag.length=true:=by rw[f1];rfl
      have ab:ay 0 u.ag.length=true:=by rw[f2];rfl
      obtain⟨l,a1,a2,a3,a4⟩:=ih (p:=p++[v.ad]) (F _ (aZ (by omega:0<v.ag.length) ar)) f3 b (D.gy.mem G (aZ k1 aw)) (Q (by omega));obtain⟨s1,aq⟩:=Je (p:=p) (by omega) v.ad;have aF:=e2 (aZ (by omega:0<u.ag.length) ar);refine⟨l,λacc r=>?_,?_,by omega,λq C=>?_⟩
      . rw[kU,ae (aH c)];simp only[aS,ak,I.aP,aV,g,o,aH d,bM];rw[cr,bE,aM,lC (by omega),lC (by omega),R,c2];simp only[ak,ed,bM,aV,aH H,aH k1,aa,ab];rw[s1,ak];have:=a1 acc r;rw[show(0:Int).toNat=0 from rfl,this];rfl
      . rw[jQ,ae (aH c)];simp only[aS,ak,I.aP,aV,g,o,aH d,bM];rw[bE,lD (by omega),lD (by omega),R,c2];simp only[ak,ed,bM,aV,aH H,aH k1,aa,ab];rw[aq,ak,show(0:Int).toNat=0 from rfl,a2];rfl
      . have:=a4 q C;rw[cc]at this;have:q.length<=p.length+1+wt (u.ag.getD 0 ar):=this;omega
   . obtain⟨f1,f2⟩:=U k5 k6
     obtain⟨l,K,M,B,O⟩:=Pp (tw:=tw) (tr:=tr) (x:=x) (y:=y) (p:=p) f1 b2 Y (λj a=>by
      have b:=J j a;unfold dG at b;rw[al k5,al k6]at b;have:=an j a k5 k6
      exact ih (F _ (aZ a ar)) (f2 j a) b (D.gy.elem G (by omega)) (Q (by omega))) v.ag.length 0 (by omega)
     refine⟨l,λacc r=>?_,?_,by rw[fc]at B;omega,O⟩
     . have L:tN (p,(u.ag.length:Int),0,tw,tr,v,u,x,y,acc)=_:=K acc r;rw[kU,ae (aH c)];simp only[aS,ak,I.aP,aV,g,o,aH d,bM];rw[cr,cr,L];rfl
     . have N:tP (p,0,tw,tr,v,u,x,y,[])=_:=M [] (by rw[fc]at B;simp;omega);rw[jQ,ae (aH c)];simp only[aS,ak,I.aP,aV,g,o,aH d,bM];rw[cr,bE,N];rfl
end
theorem R7{l:ao}(ah:l.length<=100000000000):∀(k i:Nat),i+k=l.length->kS (l,l,(i:Int))=some (.inr ())
 |0,i,a=>by rw[kS,cr]
 |k+1,i,a=>by
  have h:i<l.length:=by omega
  rw[kS,bE,ae (aH h),ae (aH h),bz,bA (by omega)];exact R7 ah k (i+1) (by omega)
theorem Of{l:List ao}(ah:l.length<=100000000000)(h:∀q,q∈l->q.length<=100000000000):∀(k i:Nat),i+k=l.length->mj (l,l,(i:Int))=some (.inr ())
 |0,i,b=>by rw[mj,cr]
 |k+1,i,b=>by
  have h1:i<l.length:=by omega
  have e:=R7 (h _ (aZ h1 [])) (l.getD i []).length 0 (by omega);have a:kS (l.getD i [],l.getD i [],0)=_:=e;rw[mj,bE,ae (aH h1),ae (aH h1),aV,pL,bz,a,bA (by omega)];exact Of ah h k (i+1) (by omega)
theorem KB{l:List ao}(ah:l.length<=100000000000)(h:∀q,q∈l->q.length<=100000000000):mm (l,l)=some true:=by
 have e:=Of ah h l.length 0 (by omega);have a:mj (l,l,0)=_:=e;rw[mm,bz,a];rfl
theorem nN.kept(C:nN tw tr t v):∃x u o e,o1 tw tr t t (bp tw t v) x u o e/\(e=0->x=v/\qO tr t u/\sD tw tr 3000 t t v u):=by
 rcases Pd C.W C.R C.t1 C.t2 (m:=bp tw t v) C.z with⟨_,h⟩|⟨x,a,F,⟨_,h⟩|⟨_,⟨_,h⟩|⟨⟨r,j⟩,⟨_,h⟩|⟨⟨_,y,_⟩,⟨_,h⟩|⟨u,c,G,⟨_,h⟩|⟨_,_,h⟩⟩⟩⟩⟩⟩
 . exact⟨_,_,_,_,h,by omega⟩
 . exact⟨_,_,_,_,h,by omega⟩
 . exact⟨_,_,_,_,h,by omega⟩
 . exact⟨_,_,_,_,h,by omega⟩
 . exact⟨_,_,_,_,h,by omega⟩
 . exact⟨_,_,_,_,h,by omega⟩
 . have e:=C.back x a;subst e;refine⟨_,_,_,_,h,λ_=>⟨rfl,G,?_⟩⟩;rcases N9 tr t (bp tw t x)with⟨e,he,a⟩|⟨w,a,_,q,p⟩
   . rw[a]at c;exact absurd (eM Prod.snd c) he
   . rw[a]at c;have:w=u:=eM Prod.fst c;subst this;exact shape C.W C.R 3000 C.o (by omega) C.f j p
theorem aeZ(g:va c.C):Bj c=some true:=by
 rw[Bj,W9];rcases aiP g with⟨w,r,m,e⟩|⟨tw,tr,t,v,e,C⟩
 . rw[e];rfl
 . obtain⟨x,u,o,cQ,⟨h1,b⟩,d⟩:=C.kept;rw[e];simp only[aS,ak,de,dU,bW,b6];rw[IX,Hz,Ht,Hw,h1,b];simp only[aS,ak,I.aP];have nil:mm (([]:List ao),[])=some true:=KB (by simp) λq a=>by cases a
   by_cases h0:cQ=0
   . subst h0;obtain⟨rfl,G,aI⟩:=d rfl;obtain⟨j,k⟩:=abC C.R G.2.1 G.1 (fg G.2.2 (by decide));obtain⟨l,a1,a2,a3,a4⟩:=abp C.W C.R 3000 C.o (p:=[]) aI C.f C.t2 (by have:=G.2.2;simp;omega);have n:wh ((e6 tr t).cC,(e6 tr t).av,u)=_:=j;have s:wE ((e6 tr t).cC,(e6 tr t).av,u)=_:=k;have y:kU ((e6 tw t).av,x,(e6 tr t).av,u,[],(e6 tw t).cC.Types,(e6 tr t).cC.Types,[])=_:=a1 [] (by have:=G.2.2;simp;omega);have A:jQ ((e6 tw t).cC,(e6 tr t).cC,(e6 tw t).av,(e6 tr t).av,x,u,[])=_:=a2;have:=G.2.2
     have s1:mm (se tr t u,se tr t u)=some true:=KB (by
      have h1:=Kv (ts:=tr) [] (eK tr t u);have b:=u2 (ts:=tr) t u
      unfold se;omega) λq a=>by
      unfold se at a;obtain⟨z,i,hs⟩:=List.mem_filterMap.1 a;have D:=Hl t u z i;unfold hc at hs;split at hs
      . cases hs;rw[fH];omega
      . cases hs
     have B:mm (l,l)=some true:=KB (by omega) λq a=>by have:=a4 q a;simp at this;omega
     rw[bz,bz,bz,bz,n,s,y,A];simp[s1,B]
   . have E:¬(!decide (cQ=0))=false:=(by simp[h0]);rw[ae (by simp[h0]),ae (by simp[h0]),ae (by simp[h0]),ae (by simp[h0])];simp[nil]
theorem aiC(h:aQ cR.D [.nm H3])(a:Ok cR [.nm H3] h):Bj h=some true:=aeZ (ad8 (aiV a))
end
end Go.Proofs.YtdjagncoefjfeaaGreat
