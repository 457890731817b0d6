/- The functions of the program as functions of Lean, that its code does what they say, and what they answer; part D. -/
import Derived.Test.YtdjagncoefjfeaaGreatCsC

namespace Go.Proofs.YtdjagncoefjfeaaGreat
set_option linter.all false
section
open Go Go.Proofs.YtdjagncoefjfeaaGreat.Shv Go.Sort
set_option maxRecDepth 100000
variable{x y:ah}{path b1 mis:aq}{b2 L t id rt:Int}{p q a3:aj}{ts tw tr:List ah}{o:Option I}{a:Option (I×Bool×List ah×aq×Int×aq)}{v w u:I}{ks its:List I}{F:iW}{α c:Type}{ms:List aU}{a1:Bool}{aI:List fz}
section
variable {ts:List ah}
theorem af'(d:x.ag.length<=1000)(c:fy x.ag)(id:Int):∃r,gN (x,id)=some r/\r.2=(cD x.ag id).isSome:=by
 cases bD:cD x.ag id with
 |some m=>
  obtain⟨j,a,b,g⟩:=EX c d bD;grind
 |none=>
  obtain⟨r,e,f⟩:=tC (t:=x) (id:=id) (by omega);refine⟨r,e,?_⟩;rcases f with⟨j,a,b,_,_⟩|⟨_,q⟩
  . exact absurd b (ny bD _ (bh a aC))
  grind
def fT(x:ah)(f:cQ):Bool:=(cD x.ag f.af).isSome || !f.cn
def e9(x:ah)(l:List cQ):List bY:=(l.filter λf=>!(cD x.ag f.af).isSome).map λf=>⟨f.af,f.Data⟩
theorem Ix(j:path.length<=900)(c:x.ag.length<=1000)(b:fy x.ag){l:List cQ}(ae:l.length<=90000)
 {z0 z2 z4 a0 a2 a4:Int}{z1 a1:Bool}{z3 a3:aj}{b1:aq}{b2:Int}{its:List I}:∀(k i:Nat) (acc:List bY),i+k=l.length->acc.length<=i->
 ((l.drop i).all (fT x)=true->pg (l,(l.length:Int),(i:Int),ts,b1,b2,x,z0,z1,z2,z3,z4,a0,a1,a2,a3,a4,path,its,acc)=some (.inr (ts,b1,b2,z0,z1,z2,z3,z4,a0,a1,a2,a3,a4,path,its,acc++e9 x (l.drop i))))/\
 ((l.drop i).all (fT x)=false->∃w f1 f2,pg (l,(l.length:Int),(i:Int),ts,b1,b2,x,z0,z1,z2,z3,z4,a0,a1,a2,a3,a4,path,its,acc)=some (.inl (false,ts,f2,w,path,f1)))
 |0,i,acc,p,n=>by
  rw[pg,ch,ef (by omega)];exact⟨λ_=>by simp[e9],λh=>by simp at h⟩
 |k+1,i,acc,p,n=>by
  have ay:i<l.length:=by omega
  have e:l.drop i=l.getD i gk::l.drop (i+1):=by rw[dc ay];exact lp ay
  obtain⟨r,q,m⟩:=af' c b (l.getD i gk).af;rw[pg,bu,ad (aN ay),a',e];simp only[aT,ak];generalize l.getD i gk=f at*;rw[q];simp only[ak];have o:(f::l.drop (i+1)).all (fT x)=(fT x f&&(l.drop (i+1)).all (fT x)):=rfl;rw[o];cases hs:(cD x.ag f.af).isSome with
  |true=>
   have a:fT x f=true:=by unfold fT;rw[hs];rfl
   have d:e9 x (f::l.drop (i+1))=e9 x (l.drop (i+1)):=by unfold e9;rw[E5 (by rw[hs];simp)]
   rw[m,hs,ad rfl,a,d,bC,mM];exact Ix j c b ae k (i+1) acc (by omega) (by omega)
  |false=>
   rw[m,hs,bq];cases g:f.cn with
   |true=>
    have a:fT x f=false:=by unfold fT;rw[hs,g];rfl
    rw[ad rfl,ad (cL),yL (by simp;omega),a];simp only[ak,I.aO];have aK:dh .i64 ((path++[f.af]).length:Int) 1=(path.length:Int):=by rw[hj (by simp<;>omega) (by simp<;>omega)];simp
    rw[aK,ad (iq.2 (by simp;omega)),hq,a'];simp_all
   |false=>
    have a:fT x f=true:=by unfold fT;rw[hs,g];rfl
    have d:e9 x (f::l.drop (i+1))=⟨f.af,f.Data⟩::e9 x (l.drop (i+1)):=by unfold e9;rw[E6 (by rw[hs];rfl)];rfl
    rw[bq,ad (cL),a,d,bC,mM];have:=Ix j c b ae (z0:=z0) (z1:=z1) (z2:=z2) (z3:=z3) (z4:=z4) (a0:=a0) (a1:=a1) (a2:=a2) (a3:=a3) (a4:=a4) (b1:=b1) (b2:=b2) (its:=its) k (i+1) (acc++[⟨f.af,f.Data⟩]) (by omega) (by simp;omega);grind
theorem ZK(H:iF ts)(i:∀x,x∈ts->∀m,m∈x.ag->m.bW=true->jJ m.bw=some m.bw){n:Nat}(ih:wT ts n)(e:x∈ts)(g:x.Kind=5)(c':∀m,m∈x.ag->0<=m.au/\m.au<ts.length)(F:p.length<=4096)(G:path.length+(n+1)=200):
 (∀l,jn p=some l->∀a,cm (ei (c1 ts n) l) x.ag=some a->l.all (fT x)=true->yz (x,p,ts,b1,b2,path)=some (⟨5,false,0,[],0,[],a,e9 x l⟩,true,ts,b1,b2,path))/\
 ((jn p=none\/(∃l,jn p=some l/\(cm (ei (c1 ts n) l) x.ag=none\/l.all (fT x)=false)))->∃w f1 f2,yz (x,p,ts,b1,b2,path)=some (w,false,ts,f1,f2,path)):=by
 obtain⟨j,D⟩:=H.A x e (.inl g);obtain⟨o,v,y,z⟩:=Hp (p:=p) (by omega);rw[yz,v];simp only[aT,ak];by_cases h0:o.2=0
 . obtain⟨v1,C,v3,v4⟩:=y h0;rw[al (by simp[h0]),v1];have E:=H.T x e;have k:∀m,m∈x.ag->m.bW=true->jJ m.bw=some m.bw:=λm b s=>i x e m b s;have aw:∀m,m∈x.ag->∀q,q∈o.1->∀step b1 b2,fH ts b1 b2 path (c1 ts n m.au q.Data) (jb (step,m.au,q.Data,ts,b1,b2,path)):=λm b q u step b1 b2=>
    wb (by omega) (ih m.au q.Data b1 b2 (path++[step]) (c' m b).1 (c' m b).2 (by have:=(C q u).1;omega) (by simp;omega))
   obtain⟨gD,c⟩:=LX (x:=x) (path:=path) (by omega) (f:=c1 ts n) (l:=o.1) (by omega) (by omega) k aw (z0:=0) (z1:=false) (z2:=0) (z3:=[]) (z4:=0) (a0:=x.Kind) (a1:=false) (a2:=0) (a3:=[]) (a4:=0) (b1:=b1) (b2:=b2) x.ag.length 0 [] (by omega) rfl;rw[fF]at gD c;have z0:((0:Nat):Int)=0:=rfl;rw[z0]at gD c;have B:=λits=>Ix (ts:=ts) (x:=x) (path:=path) (by omega) (by omega) j (l:=o.1) (by omega) (z0:=0) (z1:=false) (z2:=0) (z3:=[]) (z4:=0) (a0:=x.Kind) (a1:=false) (a2:=0) (a3:=[]) (a4:=0) (b1:=b1) (b2:=b2) (its:=its) o.1.length 0 [] (by omega) (ea _);rw[fF,z0]at B;constructor
   . intro l ae a t r;cases ae;rw[gD a t];simp only[ak,fS];rw[(B a).1 r];simp[g]
   . intro h;rcases h with h|⟨l,ae,h⟩
     . cases h
     . cases ae;cases hs:cm (ei (c1 ts n) o.1) x.ag with
       |none=>
        obtain⟨w,f1,f2,d⟩:=c hs;rw[d];exact⟨_,_,_,rfl⟩
       |some a=>
        rcases h with h|h
        . rw[hs]at h;cases h
        . obtain⟨w,f1,f2,d⟩:=(B a).2 h;rw[gD a hs];simp only[ak,fS];rw[d];exact⟨I.eta w,f1,f2,rfl⟩
 . rw[ad (by simp[h0]),z h0];constructor
   . intro l ae;cases ae
   . intro _;rw[yL (by omega)];exact⟨_,_,_,rfl⟩
end
structure jr (ts:List ah):Prop where
 S:iF ts
 V:nb ts
 W:∀x,x∈ts->∀m,m∈x.ag->m.bW=true->jJ m.bw=some m.bw
theorem di.gG(H:di ts):jr ts:=⟨H.V.hT H.T,H.V,λx c m a e=>aap ((H.T x c).3 m a) (by have:=H.W x c m a e;omega)⟩
section
variable {ts:List ah}
theorem jr.mem(H:jr ts)(c:x∈ts){m:aU}(a:m∈x.ag):0<=m.au/\m.au<ts.length:=
 H.V.U x c m.au (by unfold e';simp;exact .inl ⟨m,a,rfl⟩)
theorem jr.elem(H:jr ts)(c:x∈ts)(a:7<=x.Kind):0<=x.aG/\x.aG<ts.length:=
 H.V.U x c x.aG (by unfold e';simp[a])
theorem jr.key(H:jr ts)(c:x∈ts)(a:x.Kind=8):0<=x.Key/\x.Key<ts.length:=
 H.V.U x c x.Key (by unfold e';simp[a])
def er:I:=⟨0,false,0,[],0,[],[],[]⟩
abbrev qh:=Int->aj->Option I
def Ao(p:aj):Option I:=if p=[]then some ⟨1,false,0,[],0,[],[],[]⟩else if p=[1]then some ⟨1,true,0,[],0,[],[],[]⟩else none
def Ap(x:ah)(p:aj):Option I:=match hU p with
 |some m=>if x.bB<=jm m/\jm m<=x.bF then some ⟨2,false,jm m,[],0,[],[],[]⟩else none
 |none=>none
def Aq(x:ah)(p:aj):Option I:=if(p.length:Int)<=x.Max then some ⟨3,false,0,p,0,[],[],[]⟩else none
def Ar(x:ah)(p:aj):Option I:=match hU p with
 |some m=>if 1<=m/\m<=1000/\((x.bg.any λy=>decide (y.af=(m:Int)))||x.Open)=true then some ⟨4,false,0,[],(m:Int),[],[],[]⟩else none
 |none=>none
def mS(f:qh)(x:ah):aj->Option I
 |[]=>some ⟨9,false,0,[],0,[],[],[]⟩
 |c::q=>if c=1 then(f x.aG q).map λv=>⟨9,false,0,[],0,[],[v],[]⟩else none
def rQ(f:qh)(x:ah)(p:aj):Option I:=match jW p with
 |some (id,q)=>(match cD x.ag id with
  |some m=>(f m.au q).map λv=>⟨6,false,0,[],id,[],[v],[]⟩
  |none=>if x.Open then some ⟨6,false,0,[],id,[],[],[⟨id,q⟩]⟩else none)
 |none=>none
def oo(f:qh)(x:ah)(p:aj):Option I:=match iQ p with
 |some l=>if(l.length:Int)<=x.Max then(cm (f x.aG) l).map λa=>⟨7,false,0,[],0,[],a,[]⟩else none
 |none=>none
def rR(f:qh)(x:ah)(p:aj):Option I:=match iQ p with
 |some l=>if l.length%2 = 0/\((l.length/2:Nat):Int)<=x.Max then (match cm (f x.Key) (fc l) with
  |some ks=>if oE ks then(cm (f x.aG) (fm l)).map λa=>⟨8,false,0,[],0,ks,a,[]⟩else none
  |none=>none)else none
 |none=>none
def om(f:qh)(x:ah)(p:aj):Option I:=match jn p with
 |some l=>(match cm (ei f l) x.ag with
  |some a=>if l.all (fT x) then some ⟨5,false,0,[],0,[],a,e9 x l⟩else none
  |none=>none)
 |none=>none
def rS(f:qh)(x:ah)(p:aj):Option I:=
 if x.Kind=1 then Ao p else if x.Kind=2 then Ap x p else if x.Kind=3 then Aq x p else if x.Kind=4 then Ar x p else if x.Kind=9 then mS f x p else if x.Kind=6 then rQ f x p else if x.Kind=7 then oo f x p else if x.Kind=8 then rR f x p else om f x p
theorem DH(t:Int)(p:aj):c1 ts 0 t p=none:=by rw[c1.eq_def]
theorem ve(n:Nat)(t:Int)(p:aj):c1 ts (n+1) t p=rS (c1 ts n) (ts.getD t.toNat aP) p:=by rfl
theorem fH.eta(h:fH ts b1 b2 path o a):
 fH ts b1 b2 path o (a>>=λr=>some (I.eta r.1,r.2.1,r.2.2.1,r.2.2.2.1,r.2.2.2.2.1,r.2.2.2.2.2)):=by
 refine⟨λv c=>?_,λaD=>?_⟩
 . rw[h.1 v c];simp[I.aO]
 . obtain⟨w,f1,f2,e⟩:=h.2 aD;exact⟨w,f1,f2,by rw[e];simp[I.aO]⟩
theorem fH.one(v:I):fH ts b1 b2 path (some v) (some (v,true,ts,b1,b2,path)):=⟨λa h=>by cases h;rfl,λh=>by cases h⟩
theorem fH.cast{c:Option I}(e:o=c)(h:fH ts b1 b2 path o a):fH ts b1 b2 path c a:=e▸h
theorem HX{l:List c6}{m:Nat}:(∃y,y∈l/\y.af=(m:Int))↔(l.any λy=>decide (y.af=(m:Int)))=true:=by grind
theorem aas(H:jr ts){n:Nat}(ih:wT ts n)(g:x∈ts)(fj:x.Kind=7)(s:p.length<=4096)(t:path.length+(n+1)=200):
 fH ts b1 b2 path (oo (c1 ts n) x p) (B1 (x,p,ts,b1,b2,path)):=by
 obtain⟨o,j,k,m⟩:=yK (p:=p) (by omega);obtain⟨aK,c⟩:=H.elem g (by omega);rw[B1,j];unfold oo;simp only[aT,ak];by_cases h0:o.2=0
 . obtain⟨v1,r,v3⟩:=k h0;rw[al (by simp[h0]),v1];dsimp only;by_cases b:(o.1.length:Int)<=x.Max
   . rw[ad b,ch];have d:∀q,q∈o.1->∀step b1 b2,fH ts b1 b2 path (c1 ts n x.aG q) (jb (step,x.aG,q,ts,b1,b2,path)):=λq e step b1 b2=>
      wb (by omega) (ih x.aG q b1 b2 (path++[step]) aK c (by have:=r q e;omega) (by simp;omega))
     obtain⟨gD,a⟩:=LS (x:=x) (l:=o.1) (by omega) d (z0:=0) (z1:=false) (z2:=0) (z3:=[]) (z4:=0) (a0:=x.Kind) (a1:=false) (a2:=0) (a3:=[]) (a4:=0) (b1:=b1) (b2:=b2) o.1.length 0 [] (by omega) rfl;rw[fF]at gD a;have z0:((0:Nat):Int)=0:=rfl;rw[z0]at gD a;cases hs:cm (c1 ts n x.aG) o.1 with
     |none=>
      obtain⟨w,f1,f2,f⟩:=a hs;rw[f];exact⟨λv h=>by simp at h,λ_=>⟨_,_,_,rfl⟩⟩
     |some i=>
      rw[gD i hs];exact⟨λu h=>by grind,λh=>by simp at h⟩
   . rw[al b,bu];exact jK (by omega) _ _ _
 . rw[ad (by simp[h0]),m h0];exact jK (by omega) _ _ _
theorem NR(H:jr ts):∀n,n<=200->wT ts n
 |0,_=>λt p b1 b2 path t0 t1 d o=>by
  rw[oP,bu,DH];exact jK (by omega) _ _ _
 |n+1,aD=>λt p b1 b2 path t0 t1 d o=>by
  have ih:=NR H n (by omega);obtain⟨j,rfl⟩:=BB t0;have M:j<ts.length:=by omega
  rw[oP,ch,ad (aN M),ve,a'];have a:=bh M aP;generalize ts.getD j aP=x at*;obtain⟨ao,ap⟩:=H.S.K x a;have Z:x.bg.length<9223372036854775807:=dy (im (H.S.T x a).1);unfold rS;simp only[aT,ak];obtain⟨u,O,P,Q⟩:=abT p;by_cases f:x.Kind=1
  . rw[ad f,ad (show decide (x.Kind=1)=true by simpa using f)];unfold Ao;by_cases h0:p=[]
    . rw[ad h0,al (by simp[h0]),f,h0];exact .one _
    . by_cases h1:p=[1]
      . rw[al h0,ad h1,al (by simp[h1]),f,h1];exact .one _
      . rw[al h0,al h1,ad (by simp[h0,h1])];exact jK (by omega) _ _ _
  rw[al f,al (show ¬decide (x.Kind=1)=true by simpa using f)];by_cases r:x.Kind=2
  . rw[ad r,ad (show decide (x.Kind=2)=true by simpa using r),O];unfold Ap;simp only[ak];by_cases h0:u.2=0
    . obtain⟨m,B,F⟩:=P h0;rw[B,F,acL (D3 B),al (by simp[h0])];simp only[ak];by_cases b:x.bB<=jm m/\jm m<=x.bF
      . rw[ad b,ch,r];exact .one _
      . rw[al b,bu];exact jK (by omega) _ _ _
    . rw[Q h0,ad (by simp[h0])];exact jK (by omega) _ _ _
  rw[al r,al (show ¬decide (x.Kind=2)=true by simpa using r)];by_cases s:x.Kind=3
  . rw[ad s,ad (show decide (x.Kind=3)=true by simpa using s)];unfold Aq;by_cases b:(p.length:Int)<=x.Max
    . rw[ad b,ch,s];exact .one _
    . rw[al b,bu];exact jK (by omega) _ _ _
  rw[al s,al (show ¬decide (x.Kind=3)=true by simpa using s)];by_cases z:x.Kind=4
  . rw[ad z,ad (show decide (x.Kind=4)=true by simpa using z),O];unfold Ar;simp only[ak];by_cases h0:u.2=0
    . obtain⟨m,B,F⟩:=P h0;rw[B,F];dsimp only;by_cases b:1<=m/\m<=1000
      . obtain⟨q,aj,_,am⟩:=pr (t:=x) (m:Int) Z;have e:bV .i64 (m:Int)=(m:Int):=jD;rw[al (show ¬(bif bif !decide (u.2=0)then true else decide ((m:Int)<1)then true else decide (1000<(m:Int)))=true by simp[h0];omega),e,aj];simp only[ak];have Y:q.2=(x.bg.any λy=>decide (y.af=(m:Int))):=by
         have:=(CT am).trans HX;grind
        rw[Y,z];by_cases J:((x.bg.any λy=>decide (y.af=(m:Int)))||x.Open)=true
        . rw[ad (show 1<=m/\m<=1000/\((x.bg.any λy=>decide (y.af=(m:Int)))||x.Open)=true from⟨b.1,b.2,J⟩),al]
          . exact .one _
          grind
        . rw[al (show ¬(1<=m/\m<=1000/\((x.bg.any λy=>decide (y.af=(m:Int)))||x.Open)=true)fromλh=>J h.2.2),ad]
          . exact jK (by omega) _ _ _
          grind
      . rw[al (show ¬(1<=m/\m<=1000/\((x.bg.any λy=>decide (y.af=(m:Int)))||x.Open)=true)fromλh=>b ⟨h.1,h.2.1⟩),ad (by simp[h0];omega)];exact jK (by omega) _ _ _
    . rw[Q h0,ad (by simp[h0])];exact jK (by omega) _ _ _
  rw[al z,al (show ¬decide (x.Kind=4)=true by simpa using z)];by_cases i:x.Kind=9
  . rw[ad i,ad (show decide (x.Kind=9)=true by simpa using i)];obtain⟨aK,V⟩:=H.elem a (by omega);cases p with
    |nil=>
     rw[hq,mS,i];exact .one _
    |cons c q=>
     have ae:(c::q).length=q.length+1:=rfl;have ab:aH 0 (c::q).length=true:=aN (k:=0) (by simp);have b0:fr (c::q) 0=(c.toNat:Int):=rfl;have rK:dU 1 ((c::q).length:Int) (c::q).length=true:=iq.2 (by simp<;>omega);have U:d' (c::q) 1 ((c::q).length:Int)=q:=by
      unfold d';simp
     rw[bq,ad ab,b0,mS];by_cases D:c=1
     . subst D;rw[ad rfl,bq,ad rK,U];have L:=wb (step:=0) (path:=path) (by omega) (ih x.aG q b1 b2 (path++[0]) aK V (by simp at d;omega) (by simp;omega));cases N:c1 ts n x.aG q with
       |none=>
        obtain⟨w,f1,f2,aa⟩:=L.2 N;rw[aa];exact⟨λv h=>by simp at h,λ_=>⟨_,_,_,rfl⟩⟩
       |some v=>
        rw[L.1 v N]
        exact⟨λan h=>by
         have:an=⟨9,false,0,[],0,[],[v],[]⟩:=(by simpa using h.symm);rw[this]
         simp[I.aO,i],λh=>by simp at h⟩
     . have X:¬((c.toNat:Int)=1):=λh=>D (UInt8.toNat.inj (by show c.toNat=1;omega));rw[al D,ad (by simpa using X)];exact jK (by omega) _ _ _
  rw[al i,al (show ¬decide (x.Kind=9)=true by simpa using i)];by_cases A:x.Kind=6
  . rw[ad A,ad (show decide (x.Kind=6)=true by simpa using A)];refine fH.eta (fH.cast ?_ (aaq H.S ih a A (λm E=>H.mem a E) d o));rfl
  rw[al A,al (show ¬decide (x.Kind=6)=true by simpa using A)];by_cases fj:x.Kind=7
  . rw[ad fj,ad (show decide (x.Kind=7)=true by simpa using fj)];exact fH.eta (aas H ih a fj d o)
  rw[al fj,al (show ¬decide (x.Kind=7)=true by simpa using fj)];by_cases g:x.Kind=8
  . rw[ad g,ad (show decide (x.Kind=8)=true by simpa using g)];refine fH.eta (fH.cast ?_ (adi ih g (H.key a g) (H.elem a (by omega)) d o));rfl
  rw[al g,al (show ¬decide (x.Kind=8)=true by simpa using g)];have ai:x.Kind=5:=by omega
  obtain⟨R,C⟩:=ZK H.S H.W ih a ai (λm E=>H.mem a E) d (b1:=b1) (b2:=b2) o;refine fH.eta ?_;unfold om;cases ae:jn p with
  |none=>exact⟨λv h=>(by cases h),λ_=>C (.inl ae)⟩
  |some l=>
   dsimp only;cases hs:cm (ei (c1 ts n) l) x.ag with
   |none=>exact⟨λv h=>(by cases h),λ_=>C (.inr ⟨l,ae,.inl hs⟩)⟩
   |some ah=>
    dsimp only;cases G:l.all (fT x)with
    |true=>exact⟨λv h=>(by cases h;exact R l ae ah hs G),λh=>(by cases h)⟩
    |false=>exact⟨λv h=>(by cases h),λ_=>C (.inr ⟨l,ae,.inr G⟩)⟩
end
def fB(o:Option I)(r:Option cT):Prop:=(∀v,o=some v->∃F,r=some ⟨v,F,true⟩)/\(o=none->∃F,r=some ⟨er,F,false⟩)
theorem zT(b:path.length<=1000)(a:Int):hd (path,a)=some ⟨er,⟨path,a⟩,false⟩:=by rw[hd,ad (cL),fS];rfl
theorem mQ(a:path.length<=1000)(step:Int):lJ (path,step)=some (path++[step]):=by
 rw[lJ,ad (cL)];simp only[aT,ak,fS];rw[ad (cL)]
theorem jy(a:path.length<=1000)(b:Int):fB none (hd (path,b)>>=λr=>some (⟨I.eta r.Value,r.dQ,r.cj⟩:cT)):=by
 rw[zT a];exact⟨λv h=>(by cases h),λ_=>⟨_,rfl⟩⟩
theorem fB.eta{o:Option I}{a:Option cT}(h:fB o a):fB o (a>>=λr=>some (⟨I.eta r.Value,r.dQ,r.cj⟩:cT)):=by
 refine⟨λv c=>?_,λaD=>?_⟩
 . obtain⟨F,bD⟩:=h.1 v c;exact⟨F,by rw[bD];simp[I.aO]⟩
 . obtain⟨F,bD⟩:=h.2 aD;exact⟨F,by rw[bD];rfl⟩
theorem ua(v:I):nX v=some ⟨v,⟨[],0⟩,true⟩:=by rw[nX,I.aO]
theorem fB.one(v:I):fB (some v) (nX v>>=λr=>some (⟨I.eta r.Value,r.dQ,r.cj⟩:cT)):=by
 rw[ua];exact⟨λa h=>(by cases h;exact⟨_,by simp[I.aO];rfl⟩),λh=>(by cases h)⟩
section
variable {ts:List ah}
def lC(ts:List ah)(o:Option I)(L:Int)(path:aq)(t:Int)(q:aj)(step:Int):Prop:=
 fB o (lJ (path,step)>>=λr=>jI ((⟨ts⟩:aQ),t,q,aM .i64 L 1,r))
theorem lC.yes{step:Int}(h:lC ts o L path t q step)(a:path.length<=1000)(c:o=some v):∃F,jI ((⟨ts⟩:aQ),t,q,aM .i64 L 1,path++[step])=some ⟨v,F,true⟩:=by
 unfold lC at h;rw[mQ a]at h;exact h.1 v c
theorem lC.no{step:Int}(h:lC ts o L path t q step)(a:path.length<=1000)(c:o=none):∃F,jI ((⟨ts⟩:aQ),t,q,aM .i64 L 1,path++[step])=some ⟨er,F,false⟩:=by
 unfold lC at h;rw[mQ a]at h;exact h.2 c
theorem RA(n:path.length<=900){f:aj->Option I}{l:List aj}(ae:l.length<=90000)(h:∀q,q∈l->∀step,lC ts (f q) L path x.aG q step)
 {z0 z2 z4 z5 z7 z9 z11:Int}{z1 z6 z8:Bool}{z3 z10:aj}:∀(k i:Nat) (acc:List I),i+k=l.length->acc.length=i->
 (∀m,cm f (l.drop i)=some m->sq (L,path,l,(i:Int),ts,x,z0,z1,z2,z3,z4,z5,z6,z7,z8,z9,z10,z11,acc)=some (.inr (z0,z1,z2,z3,z4,z5,z6,z7,z8,z9,z10,z11,acc++m)))/\
 (cm f (l.drop i)=none->∃F,sq (L,path,l,(i:Int),ts,x,z0,z1,z2,z3,z4,z5,z6,z7,z8,z9,z10,z11,acc)=some (.inl ⟨er,F,false⟩))
 |0,i,acc,j,g=>by
  rw[sq,ch,ef (by omega),cm];grind
 |k+1,i,acc,j,g=>by
  have ay:i<l.length:=by omega
  have c:=h _ (bh ay []) (i:Int);have e:l.drop i=l.getD i []::l.drop (i+1):=by rw[dc ay];exact lp ay
  rw[sq,bu,ad (aN ay),a',e,vd,mQ (by omega)];simp only[aT,ak];cases d:f (l.getD i [])with
  |none=>
   obtain⟨F,b⟩:=c.no (by omega) d;rw[b];exact⟨λm a=>(by cases a),λ_=>⟨F,by simp[I.aO]⟩⟩
  |some v=>
   obtain⟨F,b⟩:=c.yes (by omega) d;rw[b];simp only[ak,I.aO,cW];rw[bq,ad (cL),bC];obtain⟨r,o⟩:=RA n ae h (z0:=z0) (z1:=z1) (z2:=z2) (z3:=z3) (z4:=z4) (z5:=z5) (z6:=z6) (z7:=z7) (z8:=z8) (z9:=z9) (z10:=z10) (z11:=z11) k (i+1) (acc++[v]) (by omega) (by simp;omega);cases hs:cm f (l.drop (i+1))with
   |none=>exact⟨λm a=>(by cases a),λ_=>o hs⟩
   |some p=>
    refine⟨λm a=>?_,λh=>(by cases h)⟩;have:m=v::p:=(by cases a;rfl)
    grind
theorem Bt{i:Nat}(h:i<1000000:=by omega):gy .i64 2 (i:Int)=((2*i:Nat):Int):=by
 unfold gy;have e:(2:Int)*(i:Int)=((2*i:Nat):Int):=by omega
 rw[e];exact jD
theorem Rz(i:path.length<=900){f:aj->Option I}{l:List aj}(ae:l.length<=90000)(h:∀q,q∈l->∀step,lC ts (f q) L path x.Key q step)
 {z0 z2 z4 z5 z7 z9 z11:Int}{z1 z6 z8:Bool}{z3 z10:aj}:∀(k j:Nat) (acc:List I),2*(j+k)=l.length->acc.length=j->
 (∀m,cm f (fc (l.drop (2*j)))=some m->sS (L,path,l,(j:Int),ts,x,z0,z1,z2,z3,z4,z5,z6,z7,z8,z9,z10,z11,acc)=some (.inr (L,path,l,ts,x,z0,z1,z2,z3,z4,z5,z6,z7,z8,z9,z10,z11,acc++m)))/\
 (cm f (fc (l.drop (2*j)))=none->∃F,sS (L,path,l,(j:Int),ts,x,z0,z1,z2,z3,z4,z5,z6,z7,z8,z9,z10,z11,acc)=some (.inl ⟨er,F,false⟩))
 |0,j,acc,g,e=>by
  rw[sS,Bt,ch,ef (by omega),show fc ([]:List aj)=[]from rfl,cm];grind
 |k+1,j,acc,g,e=>by
  have ay:2*j<l.length:=by omega
  have c:=h _ (bh ay []) (j:Int);rw[sS,Bt,bu];simp only[aT,ak];rw[ad (aN ay),a',JM (by omega) [],vd,mQ (by omega)];simp only[ak];cases d:f (l.getD (2*j) [])with
  |none=>
   obtain⟨F,b⟩:=c.no (by omega) d;rw[b];exact⟨λm a=>(by cases a),λ_=>⟨F,by simp[I.aO]⟩⟩
  |some v=>
   obtain⟨F,b⟩:=c.yes (by omega) d;rw[b];simp only[ak,I.aO,cW];rw[bq,ad (cL),bC];obtain⟨p,n⟩:=Rz i ae h (z0:=z0) (z1:=z1) (z2:=z2) (z3:=z3) (z4:=z4) (z5:=z5) (z6:=z6) (z7:=z7) (z8:=z8) (z9:=z9) (z10:=z10) (z11:=z11) k (j+1) (acc++[v]) (by omega) (by simp;omega);cases hs:cm f (fc (l.drop (2*(j+1))))with
   |none=>exact⟨λm a=>(by cases a),λ_=>n hs⟩
   |some o=>
    refine⟨λm a=>?_,λh=>(by cases h)⟩;have:m=v::o:=(by cases a;rfl)
    grind
theorem OC(i:path.length<=900){f:aj->Option I}{l:List aj}(ae:l.length<=90000)(h:∀q,q∈l->∀step,lC ts (f q) L path x.aG q step)
 {z0 z2 z4 z5 z7 z9 z11:Int}{z1 z6 z8:Bool}{z3 z10:aj}{ks:List I}:∀(k j:Nat) (acc:List I),2*(j+k)=l.length->acc.length=j->
 (∀m,cm f (fm (l.drop (2*j)))=some m->sT (L,path,l,(j:Int),ts,x,z0,z1,z2,z3,z4,z5,z6,z7,z8,z9,z10,z11,ks,acc)=some (.inr (z0,z1,z2,z3,z4,z5,z6,z7,z8,z9,z10,z11,ks,acc++m)))/\
 (cm f (fm (l.drop (2*j)))=none->∃F,sT (L,path,l,(j:Int),ts,x,z0,z1,z2,z3,z4,z5,z6,z7,z8,z9,z10,z11,ks,acc)=some (.inl ⟨er,F,false⟩))
 |0,j,acc,g,e=>by
  rw[sT,Bt,ch,ef (by omega),show fm ([]:List aj)=[]from rfl,cm];grind
 |k+1,j,acc,g,e=>by
  have ay:2*j+1<l.length:=by omega
  have c:=h _ (bh ay []) (j:Int);have aK:aM .i64 ((2*j:Nat):Int) 1=((2*j+1:Nat):Int):=bC;rw[sT,Bt,bu,aK];simp only[aT,ak];rw[ad (aN ay),a',KM ay [],vd,mQ (by omega)];simp only[ak];cases d:f (l.getD (2*j+1) [])with
  |none=>
   obtain⟨F,b⟩:=c.no (by omega) d;rw[b];exact⟨λm a=>(by cases a),λ_=>⟨F,by simp[I.aO]⟩⟩
  |some v=>
   obtain⟨F,b⟩:=c.yes (by omega) d;rw[b];simp only[ak,I.aO,cW];rw[bq,ad (cL),bC];obtain⟨p,n⟩:=OC i ae h (z0:=z0) (z1:=z1) (z2:=z2) (z3:=z3) (z4:=z4) (z5:=z5) (z6:=z6) (z7:=z7) (z8:=z8) (z9:=z9) (z10:=z10) (z11:=z11) (ks:=ks) k (j+1) (acc++[v]) (by omega) (by simp;omega);cases hs:cm f (fm (l.drop (2*(j+1))))with
   |none=>exact⟨λm a=>(by cases a),λ_=>n hs⟩
   |some o=>
    refine⟨λm a=>?_,λh=>(by cases h)⟩;have:m=v::o:=(by cases a;rfl)
    grind
theorem Rr{x:ah}(c:path.length<=1000){l:List aj}(a:∀y,y∈ks->cw y.bd)(ae:ks.length<=90000){L:Int}
 {z0 z2 z4 z5 z7 z9 z11:Int}{z1 z6 z8:Bool}{z3 z10:aj}:∀(k i:Nat),ks.length-(i+1)=k->
 ((∀m,i<=m->m+1<ks.length->gX (ks.getD m ar) (ks.getD (m+1) ar)<0)/\qw (L,path,l,((i+1:Nat):Int),ts,x,z0,z1,z2,z3,z4,z5,z6,z7,z8,z9,z10,z11,ks)=some (.inr (L,path,l,ts,x,z0,z1,z2,z3,z4,z5,z6,z7,z8,z9,z10,z11,ks)))\/
 ((∃m,m+1<ks.length/\¬gX (ks.getD m ar) (ks.getD (m+1) ar)<0)/\∃F,qw (L,path,l,((i+1:Nat):Int),ts,x,z0,z1,z2,z3,z4,z5,z6,z7,z8,z9,z10,z11,ks)=some (.inl ⟨er,F,false⟩))
 |0,i,d=>by
  rw[qw,ch];grind
 |k+1,i,d=>by
  have ay:i+1<ks.length:=by omega
  have aK:dh .i64 ((i+1:Nat):Int) 1=(i:Int):=by rw[hj];omega
  rw[qw,bu,aK];simp only[aT,ak];rw[ad (aN (by omega)),bu,ad (aN ay),bu,a',a'];simp only[I.aO];rw[v' (a _ (bh (by omega) ar)) (a _ (bh ay ar))];simp only[ak];by_cases b:gX (ks.getD i ar) (ks.getD (i+1) ar)<0
  . rw[al (by simpa using b),bC];rcases Rr c a ae (x:=x) (l:=l) (L:=L) (z0:=z0) (z1:=z1) (z2:=z2) (z3:=z3) (z4:=z4) (z5:=z5) (z6:=z6) (z7:=z7) (z8:=z8) (z9:=z9) (z10:=z10) (z11:=z11) k (i+1) (by omega)with⟨h1,e⟩|h
    . grind
    grind
  . rw[ad (by simpa using b),zT c];grind
theorem adA{l:List cQ}(id:Int)(ae:l.length<=90000):(∃j,j<l.length/\l.find? (λf=>decide (f.af=id))=some (l.getD j gk)/\xX (l,id)=some (j:Int))\/
 (l.find? (λf=>decide (f.af=id))=none/\xX (l,id)=some (-1)):=by
 have h:=qZ (λi=>oU (l,id,(i:Int))) l.length (λi=>decide ((l.getD i gk).af=id)) (λi=>.inl (i:Int)) (.inr ())
  (λi a=>by
   rw[oU,bu,ad (aN a),bC]
   grind)
  (by rw[oU,bq])
 have cY:oU (l,id,((0:Nat):Int))=oU (l,id,0):=rfl;simp only[cY]at h;rw[xX];rcases h with⟨j,h1,c,d,b⟩|⟨h1,b⟩
 . left;refine⟨j,h1,?_,by rw[b];rfl⟩;rw[dc h1]at c⊢;rw[BN];refine⟨c,j,h1,rfl,λk g=>?_⟩;have:=d k g;rw[dc (by omega)]at this;simpa using this
 . right;refine⟨?_,by rw[b];rfl⟩;rw[ye];intro f e;obtain⟨i,a,rfl⟩:=eS e;have:=h1 i a;rw[dc a]at this;simpa using this
theorem RC {x:ah}{path:aq}(E:path.length<=900){f:Int->aj->Option I}{l:List cQ}(ae:l.length<=90000)(z:x.ag.length<=16){L:Int}
 (h:∀m,m∈x.ag->∀q,q∈l->∀step,lC ts (f m.au q.Data) L path m.au q.Data step)
 {z0 z2 z4 z5 z7 z9 z11:Int}{z1 z6 z8:Bool}{z3 z10:aj}:∀(k i:Nat) (acc:List I),i+k=x.ag.length->acc.length=i->
 (∀m,cm (ei f l) (x.ag.drop i)=some m->mr (L,path,l,(i:Int),ts,x,z0,z1,z2,z3,z4,z5,z6,z7,z8,z9,z10,z11,acc)=some (.inr (path,l,x,z0,z1,z2,z3,z4,z5,z6,z7,z8,z9,z10,z11,acc++m)))/\
 (cm (ei f l) (x.ag.drop i)=none->∃F,mr (L,path,l,(i:Int),ts,x,z0,z1,z2,z3,z4,z5,z6,z7,z8,z9,z10,z11,acc)=some (.inl ⟨er,F,false⟩))
 |0,i,acc,C,B=>by
  rw[mr,ch,ef (by omega),cm];grind
 |k+1,i,acc,C,B=>by
  have ay:i<x.ag.length:=by omega
  have D:=bh ay aC;have e:x.ag.drop i=x.ag.getD i aC::x.ag.drop (i+1):=by rw[dc ay];exact lp ay
  have go:∀v,(∀n,cm (ei f l) (x.ag.drop (i+1))=some n->mr (L,path,l,((i+1:Nat):Int),ts,x,z0,z1,z2,z3,z4,z5,z6,z7,z8,z9,z10,z11,acc++[v])=some (.inr (path,l,x,z0,z1,z2,z3,z4,z5,z6,z7,z8,z9,z10,z11,acc++[v]++n)))/\(cm (ei f l) (x.ag.drop (i+1))=none->∃F,mr (L,path,l,((i+1:Nat):Int),ts,x,z0,z1,z2,z3,z4,z5,z6,z7,z8,z9,z10,z11,acc++[v])=some (.inl ⟨er,F,false⟩)):=λv=>
   RC E ae z h k (i+1) (acc++[v]) (by omega) (by simp;omega)
  rw [mr,bu,ad (aN ay),a',e,vd];simp only [aT,ak];generalize x.ag.getD i aC = a at *;have w:∀ (v:I) (d:Option _),ei f l a = some v->d = mr (L,path,l,((i+1:Nat):Int),ts,x,z0,z1,z2,z3,z4,z5,z6,z7,z8,z9,z10,z11,acc++[v])->
   (∀m,w4 (ei f l a) (cm (ei f l) (x.ag.drop (i+1)))=some m->d=some (.inr (path,l,x,z0,z1,z2,z3,z4,z5,z6,z7,z8,z9,z10,z11,acc++m)))/\
   (w4 (ei f l a) (cm (ei f l) (x.ag.drop (i+1)))=none->∃F,d=some (.inl ⟨er,F,false⟩)):=by
   intro v d c A;obtain⟨G,y⟩:=go v;rw[c,A];cases hs:cm (ei f l) (x.ag.drop (i+1))with
   |none=>exact⟨λm b=>(by cases b),λ_=>y hs⟩
   |some n=>
    refine⟨λm b=>?_,λh=>(by cases h)⟩;have:m=v::n:=(by cases b;rfl)
    grind
  rcases adA a.af ae with⟨j,u,g,r⟩|⟨g,r⟩
  . rw[r];simp only[ak];rw[bq,ad (aN u),a',mQ (by omega)];have s:=h a D _ (bh u gk) a.af;have o:ei f l a=f a.au (l.getD j gk).Data:=by unfold ei;rw[g]
    simp only[ak];cases c:f a.au (l.getD j gk).Data with
    |none=>
     obtain⟨F,p⟩:=s.no (by omega) c;rw[p,o,c];exact⟨λm b=>(by cases b),λ_=>⟨F,by simp[I.aO]⟩⟩
    |some v=>
     obtain⟨F,p⟩:=s.yes (by omega) c;rw[p];simp only[ak,I.aO,cW];rw[bq,ad (cL),bC];grind
  . rw[r];simp only[ak];rw[hq];cases t:a.bW with
    |true=>
     rw[bq];simp only[I.aO];rw[ad (cL),bC];exact w a.bw _ (by unfold ei;rw[g];simp[t]) rfl
    |false=>
     have o:ei f l a=none:=by unfold ei;rw[g];simp[t]
     rw[hq,mQ (by omega),o];simp only[ak];rw[zT (by simp;omega)];simp only[ak,I.aO];exact⟨λm b=>(by cases b),λ_=>⟨_,rfl⟩⟩
theorem agv(f:x.ag.length<=1000)(id:Int):∃r,hC (x,id)=some r/\r.2=(cD x.ag id).isSome:=by
 obtain⟨r,e,c⟩:=Cf (t:=x) (id:=id) (by omega);refine⟨r,e,?_⟩;cases bD:cD x.ag id with
 |some m=>
  obtain⟨d,k⟩:=j9 bD;rcases c with⟨j,a,b,_,rfl⟩|⟨q,_⟩
  . rfl
  . obtain⟨i,g,rfl⟩:=eS d;grind
 |none=>
  rcases c with⟨j,a,b,_,_⟩|⟨_,q⟩
  . exact absurd b (ny bD _ (bh a aC))
  grind
theorem FA {x:ah}{path:aq}(g:path.length<=900)(b:x.ag.length<=1000){l:List cQ}(ae:l.length<=90000)
 {z0 z2 z4 z5 z7 z9 z11:Int}{z1 z6 z8:Bool}{z3 z10:aj}{its:List I}:∀(k i:Nat) (acc:List bY),i+k=l.length->acc.length<=i->
 ((l.drop i).all (fT x)=true->oR (path,l,(i:Int),x,z0,z1,z2,z3,z4,z5,z6,z7,z8,z9,z10,z11,its,acc)=some (.inr (z0,z1,z2,z3,z4,z5,z6,z7,z8,z9,z10,z11,its,acc++e9 x (l.drop i))))/\
 ((l.drop i).all (fT x)=false->∃F,oR (path,l,(i:Int),x,z0,z1,z2,z3,z4,z5,z6,z7,z8,z9,z10,z11,its,acc)=some (.inl ⟨er,F,false⟩))
 |0,i,acc,o,m=>by
  rw[oR,ch,ef (by omega)];exact⟨λ_=>by simp[e9],λh=>by simp at h⟩
 |k+1,i,acc,o,m=>by
  have ay:i<l.length:=by omega
  have e:l.drop i=l.getD i gk::l.drop (i+1):=by rw[dc ay];exact lp ay
  obtain⟨r,p,j⟩:=agv b (l.getD i gk).af;rw[oR,bu,ad (aN ay),a',e];simp only[aT,ak];generalize l.getD i gk=f at*;rw[p];simp only[ak];have n:(f::l.drop (i+1)).all (fT x)=(fT x f&&(l.drop (i+1)).all (fT x)):=rfl;rw[n];cases hs:(cD x.ag f.af).isSome with
  |true=>
   have a:fT x f=true:=by unfold fT;rw[hs];rfl
   have c:e9 x (f::l.drop (i+1))=e9 x (l.drop (i+1)):=by unfold e9;rw[E5 (by rw[hs];simp)]
   rw[j,hs,ad rfl,a,c,bC,mM];exact FA g b ae k (i+1) acc (by omega) (by omega)
  |false=>
   rw[j,hs,bq,ad (aN ay)];cases d:f.cn with
   |true=>
    have a:fT x f=false:=by unfold fT;rw[hs,d];rfl
    rw[ad rfl,ad (aN ay),mQ (by omega),a];simp only[ak];rw[zT (by simp;omega)];exact⟨λh=>(by cases h),λ_=>⟨_,rfl⟩⟩
   |false=>
    have a:fT x f=true:=by unfold fT;rw[hs,d];rfl
    have c:e9 x (f::l.drop (i+1))=⟨f.af,f.Data⟩::e9 x (l.drop (i+1)):=by unfold e9;rw[E6 (by rw[hs];rfl)];rfl
    rw[bq,ad (aN ay),ad (aN ay),ad (cL),a,c,bC,mM];have:=FA g b ae (z0:=z0) (z1:=z1) (z2:=z2) (z3:=z3) (z4:=z4) (z5:=z5) (z6:=z6) (z7:=z7) (z8:=z8) (z9:=z9) (z10:=z10) (z11:=z11) (its:=its) k (i+1) (acc++[⟨f.af,f.Data⟩]) (by omega) (by simp;omega);grind
def ow(ts:List ah)(n:Nat):Prop:=∀(t:Int) (p:aj) (path:aq),0<=t->t<ts.length->p.length<=4096->path.length+n<=200->
 fB (c1 ts n t p) (jI ((⟨ts⟩:aQ),t,p,((201-n:Nat):Int),path))
theorem ow.part{n:Nat}(ih:ow ts n)(aD:n+1<=200)(t0:0<=t/\t<ts.length)(a:q.length<=4096)(c:path.length+(n+1)<=200)(step:Int):
 lC ts (c1 ts n t q) ((201-(n+1):Nat):Int) path t q step:=by
 unfold lC;rw[mQ (by omega)];have e:aM .i64 ((201-(n+1):Nat):Int) 1=((201-n:Nat):Int):=by rw[bC];omega
 rw[e];exact ih t q (path++[step]) t0.1 t0.2 a (by simp;omega)
theorem fB.cast{c:Option I}{a:Option cT}(e:o=c)(h:fB o a):fB c a:=e▸h
theorem fB.rB{a:Option cT}(h:a=some ⟨er,F,false⟩):fB none a:=⟨λv h=>(by cases h),λ_=>⟨F,h⟩⟩
theorem fB.wD{a:Option cT}(h:a=some ⟨v,F,true⟩):fB (some v) a:=⟨λe c=>(by cases c;exact⟨F,h⟩),λh=>(by cases h)⟩
theorem adB(H:jr ts){n:Nat}(aD:n+1<=200)(ih:ow ts n)(l:x∈ts)(d:x.Kind=6)(L:p.length<=4096)(y:path.length+(n+1)<=200):
 fB (rQ (c1 ts n) x p) (B7 ((⟨ts⟩:aQ),x,p,((201-(n+1):Nat):Int),path)):=by
 obtain⟨o,_,C,D,E⟩:=abc p;rw[B7,C];simp only[aT,ak];unfold rQ;by_cases h0:o.2.2=0
 . obtain⟨v1,M,v3⟩:=D h0;obtain⟨w,J⟩:=H.S.A x l (.inr d);rw[al (by simp[h0]),v1];dsimp only;obtain⟨r,G,u⟩:=Cf (t:=x) (id:=o.1) (by omega);rw[G];simp only[ak];cases bD:cD x.ag o.1 with
   |some m=>
    dsimp only;obtain⟨e,s⟩:=j9 bD;rcases u with⟨j,a,c,_,rfl⟩|⟨q,_⟩
    . have B:x.ag.getD j aC=m:=qz w (bh a aC) e (by rw[c,s]);rw[bq,bq,ad (aN a),a',B];have f:=ih.part aD (t:=m.au) (q:=o.2.1) (path:=path) (H.mem l e) (by omega) y o.1;rw[mQ (by omega)];simp only[ak];cases k:c1 ts n m.au o.2.1 with
      |none=>
       obtain⟨F,b⟩:=f.no (by omega) k;rw[b];exact .rB rfl
      |some v=>
       obtain⟨F,b⟩:=f.yes (by omega) k;rw[b];simp only[ak];rw[bq,ua];refine fB.cast rfl (fB.wD (F:=⟨[],0⟩) ?_);simp[I.aO,d]
    . obtain⟨i,g,rfl⟩:=eS e;exact absurd s (by have:=q i g;rwa [dc g]at this)
   |none=>
    dsimp only;have z:r=(0,false):=by
     rcases u with⟨j,a,c,_,_⟩|⟨_,q⟩
     . exact absurd c (ny bD _ (bh a aC))
     . exact q
    rw[z];cases K:x.Open with
    |false=>
     rw[bq,hq];exact jy (by omega) _
    |true=>
     rw[hq,bq,hq,ua,d];refine fB.wD (F:=⟨[],0⟩) ?_;simp[I.aO]
 . rw[ad (by simp[h0]),E h0];exact jy (by omega) _
theorem adC(H:jr ts){n:Nat}(aD:n+1<=200)(ih:ow ts n)(g:x∈ts)(fj:x.Kind=7)(s:p.length<=4096)(c:path.length+(n+1)<=200):
 fB (oo (c1 ts n) x p) (Ca ((⟨ts⟩:aQ),x,p,((201-(n+1):Nat):Int),path)):=by
 obtain⟨o,_,j,k,m⟩:=Kz (p:=p) (by omega);rw[Ca,j];unfold oo;simp only[aT,ak];by_cases h0:o.2=0
 . obtain⟨v1,r,v3⟩:=k h0;rw[v1];dsimp only;by_cases b:(o.1.length:Int)<=x.Max
   . rw[ad b,al (by simp[h0]),ch];obtain⟨gD,a⟩:=RA (ts:=ts) (x:=x) (path:=path) (by omega) (f:=c1 ts n x.aG) (l:=o.1) (by omega) (L:=((201-(n+1):Nat):Int)) (λq d step=>ih.part aD (H.elem g (by omega)) (by have:=r q d;omega) c step)
      (z0:=0) (z1:=false) (z2:=0) (z3:=[]) (z4:=0) (z5:=0) (z6:=false) (z7:=x.Kind) (z8:=false) (z9:=0) (z10:=[]) (z11:=0) o.1.length 0 [] (by omega) rfl
     rw[fF]at gD a;have z0:((0:Nat):Int)=0:=rfl;rw[z0]at gD a;cases hs:cm (c1 ts n x.aG) o.1 with
     |none=>
      obtain⟨F,e⟩:=a hs;rw[e];exact .rB rfl
     |some i=>
      rw[gD i hs];simp only[ak];rw[ua];refine fB.cast rfl (fB.wD (F:=⟨[],0⟩) ?_);simp[I.aO,fj]
   . rw[al b,al (by simp[h0]),bu];exact jy (by omega) _
 . rw[ad (by simp[h0]),m h0];exact jy (by omega) _
theorem agq(H:jr ts){n:Nat}(aD:n+1<=200)(ih:ow ts n)(u:x∈ts)(v:x.Kind=8)(P:p.length<=4096)(s:path.length+(n+1)<=200):
 fB (rR (c1 ts n) x p) (Cp ((⟨ts⟩:aQ),x,p,((201-(n+1):Nat):Int),path)):=by
 obtain⟨o,_,J,K,M⟩:=Kz (p:=p) (by omega);rw[Cp,J];unfold rR;simp only[aT,ak];by_cases h0:o.2=0
 . obtain⟨v1,w,v3⟩:=K h0;rw[v1];dsimp only;have B:b' (o.1.length:Int) 2=((o.1.length%2:Nat):Int):=by rw[hf];omega
   rw[B,Rq (by omega)];by_cases he:o.1.length%2=0
   . by_cases r:((o.1.length/2:Nat):Int)<=x.Max
     . rw[ad (show o.1.length%2=0/\((o.1.length/2:Nat):Int)<=x.Max from⟨he,r⟩),al (show ¬(bif !decide (o.2=0)then true else decide (((o.1.length%2:Nat):Int)=1))=true by rw[he,h0];simp),al (show ¬decide (x.Max<((o.1.length/2:Nat):Int))=true by simp only[dq];omega)];have z0:((0:Nat):Int)=0:=rfl;obtain⟨gD,g⟩:=Rz (ts:=ts) (x:=x) (path:=path) (by omega) (f:=c1 ts n x.Key) (l:=o.1) (by omega) (L:=((201-(n+1):Nat):Int)) (λq d step=>ih.part aD (H.key u v) (by have:=w q d;omega) s step)
        (z0:=0) (z1:=false) (z2:=0) (z3:=[]) (z4:=0) (z5:=0) (z6:=false) (z7:=x.Kind) (z8:=false) (z9:=0) (z10:=[]) (z11:=0) (o.1.length/2) 0 [] (by omega) rfl
       rw[Nat.mul_zero,fF,z0]at gD g;cases hs:cm (c1 ts n x.Key) (fc o.1)with
       |none=>
        obtain⟨F,e⟩:=g hs;rw[e];exact .rB rfl
       |some ks=>
        have O:=s' hs;have N:=Hr o.1;rw[gD ks hs];simp only[ak,fS];have A:∀y,y∈ks->cw y.bd:=λy C=>by
         obtain⟨a,_,a2⟩:=wc hs y C;exact LW a2
        have one:((0+1:Nat):Int)=1:=rfl;rcases Rr (ts:=ts) (x:=x) (path:=path) (by omega) (l:=o.1) (ks:=ks) A (by omega) (L:=((201-(n+1):Nat):Int))
         (z0:=0) (z1:=false) (z2:=0) (z3:=[]) (z4:=0) (z5:=0) (z6:=false) (z7:=x.Kind) (z8:=false) (z9:=0) (z10:=[]) (z11:=0) (ks.length-(0+1)) 0 rfl with⟨h1,b⟩|⟨⟨m,E,G⟩,F,b⟩
        . have c:oE ks=true:=wa.2 λi z=>h1 i (by omega) z;rw[one]at b;rw[b,ad c];simp only[ak];obtain⟨j,k⟩:=OC (ts:=ts) (x:=x) (path:=path) (by omega) (f:=c1 ts n x.aG) (l:=o.1) (by omega) (L:=((201-(n+1):Nat):Int)) (λq d step=>ih.part aD (H.elem u (by omega)) (by have:=w q d;omega) s step)
           (z0:=0) (z1:=false) (z2:=0) (z3:=[]) (z4:=0) (z5:=0) (z6:=false) (z7:=x.Kind) (z8:=false) (z9:=0) (z10:=[]) (z11:=0) (ks:=ks) (o.1.length/2) 0 [] (by omega) rfl
          rw[Nat.mul_zero,fF,z0]at j k;cases t:cm (c1 ts n x.aG) (fm o.1)with
          |none=>
           obtain⟨F,e⟩:=k t;rw[e];exact .rB rfl
          |some D=>
           rw[j D t];simp only[ak];rw[ua];refine fB.cast rfl (fB.wD (F:=⟨[],0⟩) ?_);simp[I.aO,v]
        . have c:¬oE ks=true:=λh=>G (wa.1 h m E);rw[one]at b;rw[b,al c];exact .rB rfl
     . rw[al (show ¬(o.1.length%2=0/\((o.1.length/2:Nat):Int)<=x.Max)fromλh=>r h.2),al (show ¬(bif !decide (o.2=0)then true else decide (((o.1.length%2:Nat):Int)=1))=true by rw[he,h0];simp),ad (show decide (x.Max<((o.1.length/2:Nat):Int))=true by simp only[dq];omega)];exact jy (by omega) _
   . have h1:o.1.length%2=1:=(by omega);rw[al (show ¬(o.1.length%2=0/\((o.1.length/2:Nat):Int)<=x.Max)fromλh=>he h.1),ad (show(bif !decide (o.2=0)then true else decide (((o.1.length%2:Nat):Int)=1))=true by rw[h1,h0];simp)];exact jy (by omega) _
 . rw[M h0,ad (by simp[h0])];exact jy (by omega) _
theorem adj(H:jr ts){n:Nat}(aD:n+1<=200)(ih:ow ts n)(e:x∈ts)(g:x.Kind=5)(y:p.length<=4096)(j:path.length+(n+1)<=200):
 fB (om (c1 ts n) x p) (B2 ((⟨ts⟩:aQ),x,p,((201-(n+1):Nat):Int),path)):=by
 obtain⟨v,w⟩:=H.S.A x e (.inl g);obtain⟨o,_,r,s,t⟩:=X2 (p:=p) (by omega);rw[B2,r];unfold om;simp only[aT,ak];by_cases h0:o.2=0
 . obtain⟨v1,u,v3,v4⟩:=s h0;rw[al (by simp[h0]),v1];dsimp only;obtain⟨gD,c⟩:=RC (ts:=ts) (x:=x) (path:=path) (by omega) (f:=c1 ts n) (l:=o.1) (by omega) (by omega) (L:=((201-(n+1):Nat):Int)) (λm i q k step=>ih.part aD (H.mem e i) (by have:=(u q k).1;omega) j step)
    (z0:=0) (z1:=false) (z2:=0) (z3:=[]) (z4:=0) (z5:=0) (z6:=false) (z7:=x.Kind) (z8:=false) (z9:=0) (z10:=[]) (z11:=0) x.ag.length 0 [] (by omega) rfl
   have z0:((0:Nat):Int)=0:=rfl;rw[fF,z0]at gD c;have B:=λits=>FA (x:=x) (path:=path) (by omega) (by omega) (l:=o.1) (by omega) (z0:=0) (z1:=false) (z2:=0) (z3:=[]) (z4:=0) (z5:=0) (z6:=false) (z7:=x.Kind) (z8:=false) (z9:=0) (z10:=[]) (z11:=0) (its:=its) o.1.length 0 [] (by omega) (ea _);rw[fF,z0]at B;cases hs:cm (ei (c1 ts n) o.1) x.ag with
   |none=>
    obtain⟨F,a⟩:=c hs;rw[a];exact .rB rfl
   |some b=>
    rw[gD b hs];simp only[ak,fS];cases d:o.1.all (fT x)with
    |true=>
     rw[(B b).1 d,ad rfl];simp only[ak];rw[ua];refine fB.cast rfl (fB.wD (F:=⟨[],0⟩) ?_);simp[I.aO,g]
    |false=>
     obtain⟨F,a⟩:=(B b).2 d;rw[a,bq];exact .rB rfl
 . rw[ad (by simp[h0]),t h0];exact jy (by omega) _
theorem aat(H:jr ts){n:Nat}(aD:n+1<=200)(ih:ow ts n):ow ts (n+1):=λt p path t0 t1 f g=>by
 obtain⟨j,rfl⟩:=BB t0;have z:j<ts.length:=by omega
 have a:¬(200:Int)<((201-(n+1):Nat):Int):=by omega
 rw[jI,ad (aN z),ve,a'];have d:=bh z aP;generalize ts.getD j aP=x at*;obtain⟨ab,ae⟩:=H.S.K x d;have P:x.bg.length<9223372036854775807:=dy (im (H.S.T x d).1);unfold rS;obtain⟨u,_,aa,G,J⟩:=ZJ p;have A:xP p=some (u.1,decide (u.2=0)):=by rw[xP,aa];rfl
 by_cases R:x.Kind=1
 . simp only[R,a,dq,↓reduceIte,Int.reduceEq,cZ,dV,bK,aT,ak];unfold Ao;by_cases h0:p=[]
   . rw[ad h0,al (by simp[h0])];simp only[h0,c9,cW];exact .one _
   . by_cases h1:p=[1]
     . rw[al h0,ad h1,al (by simp[h1])];simp only[h0,cZ,eG];exact .one _
     . rw[al h0,al h1,ad (by simp[h0,h1])];exact jy (by omega) _
 by_cases U:x.Kind=2
 . simp only[U,a,dq,↓reduceIte,Int.reduceEq,cZ,dV,bK,aT,ak,A];unfold Ap;by_cases h0:u.2=0
   . obtain⟨m,i,r⟩:=G h0;rw[i,r,acK (D3 i),al (by simp[h0])];simp only[ak];by_cases b:x.bB<=jm m/\jm m<=x.bF
     . rw[ad b,ch];exact .one _
     . rw[al b,bu];exact jy (by omega) _
   . rw[J h0,ad (by simp[h0])];exact jy (by omega) _
 by_cases V:x.Kind=3
 . simp only[V,a,dq,↓reduceIte,Int.reduceEq,cZ,dV,bK,aT,ak];unfold Aq;by_cases b:(p.length:Int)<=x.Max
   . rw[ad b,bp];exact .one _
   . rw[al b,fv];exact jy (by omega) _
 by_cases W:x.Kind=4
 . simp only[W,a,dq,↓reduceIte,Int.reduceEq,cZ,dV,bK,aT,ak,A];unfold Ar;by_cases h0:u.2=0
   . obtain⟨m,i,r⟩:=G h0;rw[i,r];dsimp only;by_cases b:1<=m/\m<=1000
     . obtain⟨q,_,Y,Z⟩:=pr (t:=x) (m:Int) P;have e:bV .i64 (m:Int)=(m:Int):=jD;rw[al (show ¬(bif bif !decide (u.2=0)then true else decide ((m:Int)<1)then true else decide (1000<(m:Int)))=true by simp[h0];omega),e,Y];simp only[ak];have O:q.2=(x.bg.any λy=>decide (y.af=(m:Int))):=by
        have:=(CT Z).trans HX;grind
       rw[O];by_cases s:((x.bg.any λy=>decide (y.af=(m:Int)))||x.Open)=true
       . rw[ad (show 1<=m/\m<=1000/\((x.bg.any λy=>decide (y.af=(m:Int)))||x.Open)=true from⟨b.1,b.2,s⟩),al]
         . exact .one _
         grind
       . rw[al (show ¬(1<=m/\m<=1000/\((x.bg.any λy=>decide (y.af=(m:Int)))||x.Open)=true)fromλh=>s h.2.2),ad]
         . exact jy (by omega) _
         grind
     . rw[al (show ¬(1<=m/\m<=1000/\((x.bg.any λy=>decide (y.af=(m:Int)))||x.Open)=true)fromλh=>b ⟨h.1,h.2.1⟩),ad (by simp[h0];omega)];exact jy (by omega) _
   . rw[J h0,ad (by simp[h0])];exact jy (by omega) _
 by_cases X:x.Kind=9
 . obtain⟨aK,M⟩:=H.elem d (by omega);simp only[X,a,dq,↓reduceIte,Int.reduceEq,cZ,c9,dV,dK,bK,aT,ak];cases p with
   |nil=>
    rw[bq,mS];exact .one _
   |cons c q=>
    have Q:aH 0 (c::q).length=true:=aN (k:=0) (by simp);have b0:fr (c::q) 0=(c.toNat:Int):=rfl;have rK:dU 1 ((c::q).length:Int) (c::q).length=true:=iq.2 (by simp<;>omega);have L:d' (c::q) 1 ((c::q).length:Int)=q:=by
     unfold d';simp
    rw[hq,ad Q,b0,mS];by_cases l:c=1
    . subst l;rw[ad rfl,bq,ad rK,L];have w:=ih.part aD (t:=x.aG) (q:=q) (path:=path) ⟨aK,M⟩ (by simp at f;omega) g 0;rw[mQ (by omega)];simp only[ak];cases B:c1 ts n x.aG q with
      |none=>
       obtain⟨F,o⟩:=w.no (by omega) B;rw[o];exact .rB rfl
      |some v=>
       obtain⟨F,o⟩:=w.yes (by omega) B;rw[o];simp only[ak];rw[bq,ua];refine fB.cast rfl (fB.wD (F:=⟨[],0⟩) ?_);simp[I.aO]
    . have N:¬((c.toNat:Int)=1):=λh=>l (UInt8.toNat.inj (by show c.toNat=1;omega));rw[al l,ad (by simpa using N)];exact jy (by omega) _
 by_cases D:x.Kind=6
 . have:=(adB H aD ih d D f (path:=path) g).eta;simp only[D,a,dq,↓reduceIte,Int.reduceEq,cZ,dV,bK,aT,ak];exact this
 by_cases fj:x.Kind=7
 . have:=(adC H aD ih d fj f (path:=path) g).eta;simp only[fj,a,dq,↓reduceIte,Int.reduceEq,cZ,dV,bK,aT,ak];exact this
 by_cases E:x.Kind=8
 . have:=(agq H aD ih d E f (path:=path) g).eta;simp only[E,a,dq,↓reduceIte,Int.reduceEq,cZ,dV,bK,aT,ak];exact this
 have C:x.Kind=5:=by omega
 have:=(adj H aD ih d C f (path:=path) g).eta;simp only[C,a,dq,↓reduceIte,Int.reduceEq,cZ,dV,bK,aT,ak];exact this
theorem LY(H:jr ts):∀n,n<=200->ow ts n
 |0,_=>λt p path t0 t1 b c=>by
  obtain⟨j,rfl⟩:=BB t0;have a:j<ts.length:=by omega
  rw[jI,ad (aN a)];simp only[aT,ak];rw[hq,DH];exact jy (by omega) _
 |n+1,aD=>aat H aD (LY H n (by omega))
end
theorem OD(s:aj):∀(f i n m k:Nat),hx s f i n=((m:Int),(k:Int),0)->∃q,m=n+q*2^(7*i)/\s.drop i=eB q++s.drop k/\(0<i->0<q)
 |0,i,n,m,k,h=>by rw[hx]at h;simp at h
 |f+1,i,n,m,k,h=>by
  rw[hx]at h;split at h
  . rename_i b;have a:s.drop i=s.getD i 0::s.drop (i+1):=by rw[dc b];exact lp b
    have o:(s.getD i 0).toNat<256:=UInt8.toNat_lt _;generalize s.getD i 0=c at*;split at h
    . simp at h
    . split at h
      . rename_i d;obtain⟨q,t,j,l⟩:=OD s f (i+1) _ m k h;have r:=l (by omega);refine⟨c.toNat%128+128*q,?_,?_,λ_=>by omega⟩
        . grind
        . rw[vZ (by omega),show(c.toNat%128+128*q)/128=q by omega,show(c.toNat%128+128*q)%128+128=c.toNat by omega,a,j];simp
      . rename_i d;split at h
        . simp at h
        . rename_i h0;simp only[bE,p2]at h;have g:m=n+c.toNat*2^(7*i):=by have:=h.1;exact_mod_cast this.symm
          have e:k=i+1:=by have:=h.2;exact_mod_cast this.symm
          refine⟨c.toNat,g,?_,λp=>?_⟩
          . rw[u' (by omega),a,e];simp
          omega
  . simp at h
theorem HY{s:aj}{m k:Nat}(h:hx s 10 0 0=((m:Int),(k:Int),0)):s=eB m++s.drop k:=by
 obtain⟨q,a,b,_⟩:=OD s 10 0 0 m k h;grind
theorem KO{s a b:aj}(h:iC s=some (a,b)):s=dB a++b:=by
 unfold iC at h;rcases lA s with⟨e,he,c⟩|⟨m,k,c,j,i,l⟩
 . grind
 . have cY:=HY c;rw[c]at h;dsimp only at h;split at h
   . rename_i g;simp only[bG,bE]at h;obtain⟨h1,d⟩:=h;have f:a.length=m:=by
      rw[<-h1,od,l1];omega
     unfold dB;rw[f,hr,<-h1,<-d,yb];simpa using cY
   . cases h
theorem KP:∀(n:Nat) (s:aj) (b l:List aj),s.length<=n->s.length+b.length<=100000->hE (s,b)=some (.inr l)->∃c,l=b++c/\c.flatMap dB=s
 |n,s,b,l,aD,i,h=>by
  rw[hE]at h;by_cases h0:s=[]
  . simp_all
  . rw[ad (by simp[h0]),lT]at h;simp only[aT,ak]at h;cases a:iC s with
    |none=>
     rw[a]at h;simp[dR]at h
    |some r=>
     obtain⟨x,d⟩:=r;rw[a]at h;have ae:=nA a;have f:¬((!(dR (some (x,d))).2.2)=true):=(by simp[dR]);have g:room 16 (b++[(dR (some (x,d))).1]).length=true:=cL;rw[al f,ad g]at h
     match n,aD with
     |0,aD=>omega
     |n+1,aD=>
      obtain⟨c,aK,e⟩:=KP n d _ l (by omega) (by simp;omega) h;refine⟨x::c,by rw[aK];simp[dR],?_⟩;rw[e7,e];exact(KO a).symm
theorem KQ:∀(n:Nat) (s:aj) (b:List aj),s.length<=n->s.length+b.length<=100000->hE (s,b)=some (.inl 0)->False
 |n,s,b,aD,f,h=>by
  rw[hE]at h;by_cases h0:s=[]
  . grind
  . rw[ad (by simp[h0]),lT]at h;simp only[aT,ak]at h;cases a:iC s with
    |none=>
     rw[a]at h;simp[dR]at h
    |some r=>
     obtain⟨x,c⟩:=r;rw[a]at h;have ae:=nA a;have d:¬((!(dR (some (x,c))).2.2)=true):=(by simp[dR]);have e:room 16 (b++[(dR (some (x,c))).1]).length=true:=cL;rw[al d,ad e]at h
     match n,aD with
     |0,aD=>omega
     |n+1,aD=>exact KQ n c _ (by omega) (by simp;omega) h
theorem JN:∀(n:Nat) (s:aj) (last:Nat) (b:List cQ),s.length<=n->s.length+b.length<=100000->fY ((last:Int),s,b)=some (.inl 0)->False
 |n,s,last,b,aD,i,h=>by
  rw[fY]at h;by_cases h0:s=[]
  . grind
  . rw[ad (by simp[h0])]at h;rcases lA s with⟨e,he,ao⟩|⟨m,k,ao,j,d,f⟩
    . rw[nE he ao]at h;simp at h
    . rw[lS ao d]at h;simp only[aT,ak,tY f]at h;split at h
      . cases h
      . rw[lT (by rw[l1];omega)]at h;simp only[ak]at h;cases a:iC (s.drop k)with
        |none=>
         rw[a]at h;simp[dR]at h
        |some r=>
         obtain⟨x,c⟩:=r;rw[a]at h;have ae:=nA a;rw[l1]at ae;have g:¬((!(dR (some (x,c))).2.2)=true):=(by simp[dR]);rw[al g]at h;split at h
         . match n,aD with
           |0,aD=>omega
           |n+1,aD=>exact JN n c (m/2) _ (by omega) (by simp;omega) h
         . cases h
theorem OE(c:p.length<=90000){l:List aj}(h:iQ p=some l):l.flatMap dB=p:=by
 unfold iQ at h;rw[la]at h;cases a:hE (p,[])with
 |none=>rw[a]at h;simp at h
 |some o=>
  rw[a]at h;cases o with
  |inl e=>
   by_cases he:e=0
   . simp[he]at h;exfalso;obtain⟨f,a1,_⟩:=Iq p.length p [] (by omega) (by simp;omega);exact KQ p.length p [] (by omega) (by simp;omega) (by rw[a,he])
   grind
  |inr l2=>
   have e:l2=l:=(by simpa using h);obtain⟨d,aK,b⟩:=KP p.length p [] l2 (by omega) (by simp;omega) a;grind
def uJ(f:cQ):aj:=fE f.af.toNat f.cn f.Data
theorem JO:∀(n:Nat) (s:aj) (last:Nat) (b l:List cQ),s.length<=n->s.length+b.length<=100000->fY ((last:Int),s,b)=some (.inr l)->
 ∃c,l=b++c/\c.flatMap uJ=s
 |n,s,last,b,l,aD,t,h=>by
  rw[fY]at h;by_cases h0:s=[]
  . simp_all
  . rw[ad (by simp[h0])]at h;rcases lA s with⟨e,he,ao⟩|⟨m,k,ao,v,g,i⟩
    . rw[nE he ao]at h;simp at h
    . have es:=HY ao;rw[lS ao g]at h;simp only[aT,ak,tY i]at h;by_cases u:((m/2:Nat):Int)<=(last:Int)\/1000<((m/2:Nat):Int)
      . grind
      . have:¬((bif bif (!true)then true else decide (((m/2:Nat):Int)<=(last:Int))then true else decide (1000<((m/2:Nat):Int)))=true):=(by grind);rw[al this,lT (by rw[l1];omega)]at h;simp only[ak]at h;cases a:iC (s.drop k)with
        |none=>
         rw[a]at h;simp[dR]at h
        |some r=>
         obtain⟨x,d⟩:=r;rw[a]at h;have ae:=nA a;have q:=KO a;rw[l1]at ae;have j:¬((!(dR (some (x,d))).2.2)=true):=(by simp[dR]);have p:bV .i64 ((m/2:Nat):Int)=((m/2:Nat):Int):=jD;rw[al j,p]at h;have o:room 32 (b++[(⟨((m/2:Nat):Int),decide (b' (m:Int) 2=1),(dR (some (x,d))).1⟩:cQ)]).length=true:=cL;rw[ad o]at h
         match n,aD with
         |0,aD=>omega
         |n+1,aD=>
          obtain⟨c,aK,f⟩:=JO n d (m/2) _ l (by omega) (by simp;omega) h;refine⟨⟨((m/2:Nat):Int),decide (b' (m:Int) 2=1),x⟩::c,by rw[aK];simp[dR],?_⟩;rw[e7,f];unfold uJ fE;have w:2*(((m/2:Nat):Int)).toNat+(if (b' (m:Int) 2=1:Bool) then 1 else 0)=m:=by
           rw[hf];grind
          grind
theorem adk(c:p.length<=90000){l:List cQ}(h:jn p=some l):l.flatMap uJ=p:=by
 unfold jn at h;rw[lK]at h;have cY:fY (0,p,[])=fY (((0:Nat):Int),p,[]):=rfl;rw[cY]at h;cases a:fY (((0:Nat):Int),p,[])with
 |none=>rw[a]at h;simp at h
 |some o=>
  rw[a]at h;cases o with
  |inl e=>
   by_cases he:e=0
   . exfalso;exact JN p.length p 0 [] (by omega) (by simp;omega) (by rw[a,he])
   grind
  |inr l2=>
   have e:l2=l:=(by simpa using h);obtain⟨d,aK,b⟩:=JO p.length p 0 [] l2 (by omega) (by simp;omega) a;grind
theorem adD(h:jW p=some (id,q)):p=eB id.toNat++q:=by
 unfold jW at h;rw[lP]at h;rcases lA p with⟨e,he,ao⟩|⟨m,k,ao,d,a,f⟩
 . rw[nE he ao]at h;simp at h
 . have es:=HY ao;rw[lS ao a]at h;simp only[aT,ak]at h;by_cases c:(m:Int)<1\/1000<(m:Int)
   . grind
   . have:¬((bif bif (!true)then true else decide ((m:Int)<1)then true else decide (1000<(m:Int)))=true):=(by grind);have b:bV .i64 (m:Int)=(m:Int):=jD;rw[al this,b]at h;simp only[bJ,bG,bE]at h;rw[<-h.1,<-h.2];simpa using es
theorem LZ{d:Type}{f:α->Option d}(d1:α)(d2:d):∀{l:List α} {m:List d},cm f l=some m->∀i,i<l.length->f (l.getD i d1)=some (m.getD i d2)
 |[],m,h,i,c=>by simp at c
 |a::l,m,h,i,c=>by
  rw[cm]at h;split at h
  . rename_i b g h1 e;cases h;cases i with
    |zero=>exact h1
    |succ i=>exact LZ d1 d2 e i (by simpa using c)
  . cases h
theorem OF:∀{l:List α},l.length%2=0->(fc l).length=l.length/2/\(fm l).length=l.length/2
 |[],_=>⟨by simp[fc],by simp[fm]⟩
 |[a],h=>by simp at h
 |a::b::l,h=>by
  obtain⟨h1,c⟩:=OF (l:=l) (by simp at h;omega);show(fc l).length+1=(l.length+1+1)/2/\(fm l).length+1=(l.length+1+1)/2;omega
theorem Iy:∀{l:List α} {y:α},y∈fm l->y∈l
 |[],y,h=>by cases h
 |[_],y,h=>by cases h
 |a::b::l,y,h=>by
  rcases fe.1 h with rfl|h
  . grind
  . exact .tail _ (.tail _ (Iy h))
def mT(l:List aj):Nat:=(l.map λq=>q.length+1).sum
theorem vJ(q:aj)(l:List aj):mT (q::l)=q.length+1+mT l:=by unfold mT;simp
theorem HZ:∀(l:List aj),mT l<=(l.flatMap dB).length
 |[]=>by simp[mT]
 |q::l=>by
  have:=HZ l;have:=q3 q.length;have e:(dB q).length=(eB q.length).length+q.length:=by unfold dB;rw[c4]
  rw[vJ,e7,c4];omega
theorem L0:∀(l:List aj),mT (fc l)+mT (fm l)<=mT l
 |[]=>by simp[fc,fm,mT]
 |[a]=>by simp[fc,fm,mT]
 |a::b::l=>by
  have:=L0 l;rw[fc,fm,vJ,vJ,vJ,vJ];omega
theorem D5{C:Nat}{f:aj->Option I}:∀{l:List aj} {m:List I},cm f l=some m->(∀q,q∈l->∀v,f q=some v->wt v<=C*(q.length+1))->cB m<=C*mT l
 |[],m,h,_=>by rw[cm]at h;cases h;rw[gF];exact ic _
 |q::l,m,h,k=>by
  rw[cm]at h;split at h
  . rename_i b g h1 d;cases h;have a:=k q (.head _) b h1;have c:=D5 d (λq e=>k q (.tail _ e));rw[gO,vJ,Nat.mul_add];omega
  . cases h
def uI(l:List cQ):Nat:=(l.map λf=>f.Data.length+1).sum
theorem NS(f:cQ)(l:List cQ):uI (f::l)=f.Data.length+1+uI l:=by unfold uI;simp
theorem NT:∀(l:List cQ),uI l<=(l.flatMap uJ).length
 |[]=>by simp[uI]
 |f::l=>by
  have:=NT l;have:=q3 f.Data.length;have e:(uJ f).length=(eB (2*f.af.toNat+(if f.cn then 1 else 0))).length+((eB f.Data.length).length+f.Data.length):=by unfold uJ fE dB;rw[c4,c4]
  rw[NS,e7,c4];omega
def dk(C d:Nat)(l:List cQ)(m:aU):Nat:=match l.find? (λf=>decide (f.af=m.af))with
 |some f=>C*(f.Data.length+1)
 |none=>d
def aE(C d:Nat)(l:List cQ)(ms:List aU):Nat:=(ms.map (dk C d l)).sum
def oi(id:Int)(A:Nat)(ms:List aU):Nat:=(ms.map λm=>if m.af=id then A else 0).sum
theorem Iz{A:Nat}:∀{ms:List aU},(∀m,m∈ms->m.af≠id)->oi id A ms=0
 |[],_=>rfl
 |m::ms,h=>by
  have:=Iz (A:=A) (λm a=>h m (.tail _ a));unfold oi at this⊢;grind
theorem N9{id:Int}{A:Nat}:∀{ms:List aU},ms.Pairwise (λa b=>a.af<b.af)->oi id A ms<=A
 |[],_=>ic _
 |m::ms,h=>by
  rw[jh]at h;by_cases e:m.af=id
  . have:oi id A ms=0:=Iz λx c=>by have:=h.1 x c;omega
    unfold oi at this⊢;grind
  . have:=N9 (id:=id) (A:=A) h.2;unfold oi at this⊢;grind
theorem adl(C d:Nat)(f:cQ)(l:List cQ)(m:aU):dk C d (f::l) m<=(if m.af=f.af then C*(f.Data.length+1)else 0)+dk C d l m:=by
 unfold dk;grind
theorem NU(C d:Nat)(f:cQ)(l:List cQ):∀(ms:List aU),aE C d (f::l) ms<=oi f.af (C*(f.Data.length+1)) ms+aE C d l ms
 |[]=>by simp[aE,oi]
 |m::ms=>by
  have a:=NU C d f l ms;have b:=adl C d f l m;unfold aE oi at*;grind
theorem Oa(C d:Nat):∀(ms:List aU),aE C d [] ms=d*ms.length
 |[]=>by simp[aE]
 |m::ms=>by
  have:=Oa C d ms;unfold aE at*;simp only[gB,og,ia];rw[this,Nat.mul_succ];have:dk C d [] m=d:=rfl;omega
theorem Ob{C d:Nat}(cM:1<=C)(c:fy x.ag):∀(l:List cQ),aE C d l x.ag+((e9 x l).map λr=>r.Data.length+1).sum<=d*x.ag.length+C*uI l
 |[]=>by rw[Oa];simp[e9]
 |f::l=>by
  have ih:=Ob (d:=d) cM c l;have a:=NU C d f l x.ag;rw[NS,Nat.mul_add];cases bD:cD x.ag f.af with
  |some m=>
   have b:e9 x (f::l)=e9 x l:=by unfold e9;rw[E5 (by rw[bD];simp)]
   rw[b];have:=N9 (id:=f.af) (A:=C*(f.Data.length+1)) c.1;omega
  |none=>
   have b:e9 x (f::l)=⟨f.af,f.Data⟩::e9 x l:=by unfold e9;rw[E6 (by rw[bD];rfl)];rfl
   have:oi f.af (C*(f.Data.length+1)) x.ag=0:=Iz (ny bD);rw[b,gB,og];have:f.Data.length+1<=C*(f.Data.length+1):=Nat.le_mul_of_pos_left _ cM;grind
theorem NV{C d:Nat}{f:Int->aj->Option I}{l:List cQ}(i:∀(m:aU),m.bW=true->True):∀{ms:List aU} {a:List I},(∀m,m∈ms->(m.bW=true->wt m.bw<=d)/\∀g,g∈l->∀v,f m.au g.Data=some v->wt v<=C*(g.Data.length+1))->cm (ei f l) ms=some a->cB a<=aE C d l ms
 |[],a,_,h=>by rw[cm]at h;cases h;rw[gF];exact ic _
 |m::ms,a,k,h=>by
  rw[cm]at h;split at h
  . rename_i b o h1 e;cases h;have ih:=NV (C:=C) (d:=d) i (λm j=>k m (.tail _ j)) e;have n:wt b<=dk C d l m:=by
     unfold ei at h1;unfold dk;cases c:l.find? (λf=>decide (f.af=m.af))with
     |some g=>
      rw[c]at h1;exact(k m (.head _)).2 g (E3 c) b h1
     |none=>grind
    unfold aE at*;rw[gO,gB,og];omega
  . cases h
theorem KR{l:List cQ}{r:bY}(h:r∈e9 x l):∃f,f∈l/\cD x.ag f.af=none/\r=⟨f.af,f.Data⟩:=by
 unfold e9 at h;obtain⟨f,a,rfl⟩:=eK.1 h;obtain⟨h1,b⟩:=rH.1 a;refine⟨f,h1,?_,rfl⟩;simp_all
theorem abl{l:List cQ}(d:l.Pairwise (λa b=>a.af<b.af))(e:∀f,f∈l->cr f.af):ke x.ag (e9 x l):=by
 refine⟨?_,λr c=>?_⟩
 . unfold e9;grind
 . obtain⟨f,f1,f2,rfl⟩:=KR c;grind
section
variable {ts:List ah}
def r0(ts:List ah)(t:Int)(p:aj)(v:I):Prop:=b6 ts false t v/\bH v/\wt v<=300*(p.length+1)
theorem mH{k:Int}{b:Bool}{i:Int}{s:aj}{a:List I}{r:List bY}(h0:0<=k/\k<=9)(h1:cw i)(g:0<=id/\id<=1000)(hs:s.length<=90000)(l:ks.length<=90000)(j:a.length<=90000)(m:r.length<=90000)
 (e:∀x,x∈ks->bH x)(f:∀x,x∈a->bH x)(d:∀x,x∈r->x.Data.length<=90000/\cr x.af):bH ⟨k,b,i,s,id,ks,a,r⟩:=by
 refine .mk _ (by unfold reachBytes;show s.length<=_;omega) (by unfold reachBytes;show ks.length<=_;omega) (by unfold reachBytes;show a.length<=_;omega) (by unfold reachBytes;show r.length<=_;omega) e f (λx c=>by have:=(d x c).1;unfold reachBytes;omega) ?_ h1 ?_ (λx c=>by have:=(d x c).2;unfold cr at this;omega)
 . show -9223372036854775808<=k/\k<=9223372036854775807;omega
 . show -9223372036854775808<=id/\id<=9223372036854775807;omega
theorem abm(H:di ts){n:Nat}(ih:∀(t:Int) (p:aj) (v:I),p.length<=90000->0<=t->t<ts.length->c1 ts n t p=some v->r0 ts t p v)(J:p.length<=90000)(t0:0<=t)(t1:t<ts.length)(h:c1 ts (n+1) t p=some v):r0 ts t p v:=by
 rw[ve]at h;have aJ:t.toNat<ts.length:=by omega
 have B:=bh aJ aP;have cM:=H.gG;unfold r0;rw[eO];generalize ts.getD t.toNat aP=x at*;unfold rS at h;have jC:∀(k i id:Int) (b:Bool) (s:aj),wt ⟨k,b,i,s,id,[],[],[]⟩=10+s.length:=λk i id b s=>by rw[fg,gF];simp
 by_cases ak:x.Kind=1
 . rw[ad ak]at h;have:∃b,v=⟨1,b,0,[],0,[],[],[]⟩:=by
    unfold Ao at h;grind
   obtain⟨b,rfl⟩:=this;exact⟨⟨⟨t0,t1,ak.symm,λh=>by cases h⟩,.inl ⟨rfl,rfl,rfl,rfl,rfl,rfl,rfl⟩⟩,mH (by omega) lW (by omega) (by simp) (by simp) (by simp) (by simp) (by simp) (by simp) (by simp),by rw[jC];simp;omega⟩
 rw[al ak]at h;by_cases am:x.Kind=2
 . rw[ad am]at h;unfold Ap at h;cases z:hU p with
   |none=>rw[z]at h;cases h
   |some m=>
    rw[z]at h;dsimp only at h;split at h
    . rename_i G;cases h;exact⟨⟨⟨t0,t1,am.symm,λh=>by cases h⟩,.inr (.inl ⟨rfl,rfl,rfl,rfl,rfl,rfl,rfl,G.1,G.2⟩)⟩,mH (by omega) (NQ (D3 z)) (by omega) (by simp) (by simp) (by simp) (by simp) (by simp) (by simp) (by simp),by rw[jC];simp;omega⟩
    . cases h
 rw[al am]at h;by_cases an:x.Kind=3
 . rw[ad an]at h;unfold Aq at h;split at h
   . rename_i G;cases h;exact⟨⟨⟨t0,t1,an.symm,λh=>by cases h⟩,.inr (.inr (.inl ⟨rfl,rfl,rfl,rfl,rfl,rfl,rfl,G⟩))⟩,mH (by omega) lW (by omega) (by omega) (by simp) (by simp) (by simp) (by simp) (by simp) (by simp),by rw[jC];omega⟩
   . cases h
 rw[al an]at h;by_cases ap:x.Kind=4
 . rw[ad ap]at h;unfold Ar at h;cases z:hU p with
   |none=>rw[z]at h;cases h
   |some m=>
    rw[z]at h;dsimp only at h;split at h
    . rename_i G;cases h;refine⟨⟨⟨t0,t1,ap.symm,λh=>by cases h⟩,.inr (.inr (.inr (.inl ⟨rfl,rfl,rfl,rfl,rfl,rfl,rfl,?_⟩)))⟩,mH (by omega) lW (by omega) (by simp) (by simp) (by simp) (by simp) (by simp) (by simp) (by simp),by rw[jC];simp;omega⟩;have O:=G.2.2;rw[hO]at O;rcases O with O|O
      . grind
      . exact .inr ⟨O,rfl,by unfold cr;show 1<=(m:Int)/\(m:Int)<=1000;omega⟩
    . cases h
 rw[al ap]at h;by_cases Z:x.Kind=9
 . rw[ad Z]at h;obtain⟨aK,M⟩:=cM.elem B (by omega);cases p with
   |nil=>
    rw[mS]at h;cases h;exact⟨⟨⟨t0,t1,Z.symm,λh=>by cases h⟩,.inr (.inr (.inr (.inr (.inr (.inr (.inr (.inr ⟨rfl,rfl,rfl,rfl,rfl,rfl,rfl,by simp,cU.2 (by simp)⟩)))))))⟩,mH (by omega) lW (by omega) (by simp) (by simp) (by simp) (by simp) (by simp) (by simp) (by simp),by rw[jC];simp⟩
   |cons c q=>
    rw[mS]at h;split at h
    . obtain⟨w,ax,rfl⟩:=n9.1 h;obtain⟨f1,f2,f3⟩:=ih _ _ _ (by simp at J;omega) aK M ax;refine⟨⟨⟨t0,t1,Z.symm,λh=>by cases h⟩,.inr (.inr (.inr (.inr (.inr (.inr (.inr (.inr ⟨rfl,rfl,rfl,rfl,rfl,rfl,rfl,by simp,cU.2 ?_⟩)))))))⟩,mH (by omega) lW (by omega) (by simp) (by simp) (by simp) (by simp) (by simp) ?_ (by simp),?_⟩
      . grind
      . grind
      . rw[fg];show 10+0+0+cB []+cB [w]<=_;rw[gO,gF,ia];omega
    . cases h
 rw[al Z]at h;by_cases X:x.Kind=6
 . rw[ad X]at h;unfold rQ at h;cases aa:jW p with
   |none=>rw[aa]at h;cases h
   |some a=>
    obtain⟨id,q⟩:=a;rw[aa]at h;dsimp only at h;have aE:=adD aa;have aT:=q3 id.toNat;have aU:q.length+1<=p.length:=by rw[aE,c4];omega
    obtain⟨o,aq,av,aw⟩:=HM p;have aI:cr id:=(by grind);unfold cr at aI;cases bD:cD x.ag id with
    |some m=>
     rw[bD]at h;obtain⟨w,ax,rfl⟩:=n9.1 h;obtain⟨F,aY⟩:=j9 bD;obtain⟨f1,f2,f3⟩:=ih _ _ _ (by omega) (cM.mem B F).1 (cM.mem B F).2 ax;refine⟨⟨⟨t0,t1,X.symm,λh=>by cases h⟩,.inr (.inr (.inr (.inr (.inr (.inl ⟨rfl,rfl,rfl,rfl,rfl,?_⟩)))))⟩,mH (by omega) lW (by omega) (by simp) (by simp) (by simp) (by simp) (by simp) ?_ (by simp),?_⟩
     . show(match cD x.ag id with
        |some m=>_
        |none=>_)
       rw[bD];refine⟨rfl,rfl,cU.2 ?_⟩;grind
     . grind
     . rw[fg];show 10+0+0+cB []+cB [w]<=_;rw[gO,gF];omega
    |none=>
     rw[bD]at h;dsimp only at h;split at h
     . rename_i aR;cases h;refine⟨⟨⟨t0,t1,X.symm,λh=>by cases h⟩,.inr (.inr (.inr (.inr (.inr (.inl ⟨rfl,rfl,rfl,rfl,rfl,?_⟩)))))⟩,mH (by omega) lW (by omega) (by simp) (by simp) (by simp) (by simp) (by simp) (by simp) ?_,?_⟩
       . grind
       . grind
       . rw[fg];show 10+0+((q.length+1)+0)+cB []+cB []<=_;rw[gF];omega
     . cases h
 rw[al X]at h;by_cases fj:x.Kind=7
 . rw[ad fj]at h;unfold oo at h;obtain⟨aK,M⟩:=cM.elem B (by omega);cases E:iQ p with
   |none=>rw[E]at h;cases h
   |some l=>
    rw[E]at h;dsimp only at h;obtain⟨o,aq,av,aw⟩:=yK J;have ae:(∀q,q∈l->q.length<=p.length)/\l.length<=p.length:=(by grind);have V:=HZ l;rw[OE J E]at V;split at h
    . rename_i ay;obtain⟨m,F,rfl⟩:=n9.1 h;have ah:=s' F;have R:∀y,y∈m->∃q,q∈l/\r0 ts x.aG q y:=λy j=>by
       obtain⟨q,N,u⟩:=wc F y j;grind
      have aB:=D5 (C:=300) F (λq U v L=>(ih _ _ _ (by have:=ae.1 q U;omega) aK M L).2.2);refine⟨⟨⟨t0,t1,fj.symm,λh=>by cases h⟩,.inr (.inr (.inr (.inr (.inr (.inr (.inl ⟨rfl,rfl,rfl,rfl,rfl,rfl,rfl,?_,cU.2 ?_⟩))))))⟩,mH (by omega) lW (by omega) (by simp) (by simp) (by omega) (by simp) (by simp) ?_ (by simp),?_⟩
      . grind
      . intro y j;obtain⟨q,_,u⟩:=R y j;exact u.1
      . intro y j;obtain⟨q,_,u⟩:=R y j;exact u.2.1
      . rw[fg];show 10+0+0+cB []+cB m<=_;rw[gF];omega
    . cases h
 rw[al fj]at h;by_cases Y:x.Kind=8
 . rw[ad Y]at h;unfold rR at h;obtain⟨aK,M⟩:=cM.elem B (by omega);obtain⟨d1,d2⟩:=cM.key B Y;cases E:iQ p with
   |none=>rw[E]at h;cases h
   |some l=>
    rw[E]at h;dsimp only at h;obtain⟨o,aq,av,aw⟩:=yK J;have ae:(∀q,q∈l->q.length<=p.length)/\l.length<=p.length:=(by grind);have V:=HZ l;rw[OE J E]at V;have aW:=L0 l;split at h
    . rename_i ay;cases hs:cm (c1 ts n x.Key) (fc l)with
      |none=>rw[hs]at h;cases h
      |some ks=>
       rw[hs]at h;dsimp only at h;split at h
       . rename_i az;obtain⟨m,F,rfl⟩:=n9.1 h;have aS:=s' hs;have ah:=s' F;obtain⟨aN,aO⟩:=OF ay.1;have aA:∀y,y∈ks->∃q,q∈fc l/\r0 ts x.Key q y:=λy j=>by
          obtain⟨q,N,u⟩:=wc hs y j;exact⟨q,N,ih _ _ _ (by have:=ae.1 q (DG N);omega) d1 d2 u⟩
         have R:∀y,y∈m->∃q,q∈fm l/\r0 ts x.aG q y:=λy j=>by
          obtain⟨q,N,u⟩:=wc F y j;exact⟨q,N,ih _ _ _ (by have:=ae.1 q (Iy N);omega) aK M u⟩
         have aX:=D5 (C:=300) hs (λq U v L=>(ih _ _ _ (by have:=ae.1 q (DG U);omega) d1 d2 L).2.2);have aB:=D5 (C:=300) F (λq U v L=>(ih _ _ _ (by have:=ae.1 q (Iy U);omega) aK M L).2.2);refine⟨⟨⟨t0,t1,Y.symm,λh=>by cases h⟩,.inr (.inr (.inr (.inr (.inr (.inr (.inr (.inl ⟨rfl,rfl,rfl,rfl,rfl,rfl,?_,?_,cU.2 ?_,cU.2 ?_,wa.1 az⟩)))))))⟩,mH (by omega) lW (by omega) (by simp) (by omega) (by omega) (by simp) ?_ ?_ (by simp),?_⟩
         . grind
         . grind
         . intro y j;obtain⟨q,_,u⟩:=aA y j;exact u.1
         . intro y j;obtain⟨q,_,u⟩:=R y j;exact u.1
         . intro y j;obtain⟨q,_,u⟩:=aA y j;exact u.2.1
         . intro y j;obtain⟨q,_,u⟩:=R y j;exact u.2.1
         . rw[fg];grind
       . cases h
    . cases h
 rw[al Y]at h;have aD:x.Kind=5:=by obtain⟨aL,aM⟩:=cM.S.K x B;omega
 unfold om at h;obtain⟨aF,aQ⟩:=cM.S.A x B (.inl aD);cases E:jn p with
 |none=>rw[E]at h;cases h
 |some l=>
  rw[E]at h;dsimp only at h;obtain⟨o,aq,av,aw⟩:=Hp J;have ae:(∀f,f∈l->f.Data.length<=p.length/\cr f.af)/\l.Pairwise (λa b=>a.af<b.af)/\l.length<=p.length:=by grind
  have V:=NT l;rw[adk J E]at V;cases hs:cm (ei (c1 ts n) l) x.ag with
  |none=>rw[hs]at h;cases h
  |some ai=>
   rw[hs]at h;dsimp only at h;split at h
   . rename_i az;cases h;have ah:=s' hs;have aH:∀i,i<x.ag.length->b6 ts false (x.ag.getD i aC).au (ai.getD i ar)/\bH (ai.getD i ar):=λi Q=>by
      have z:=bh Q aC;have:=LZ aC ar hs i Q;unfold ei at this;cases P:l.find? (λf=>decide (f.af=(x.ag.getD i aC).af))with
      |some g=>
       rw[P]at this;have:=ih _ _ _ (by have:=(ae.1 g (E3 P)).1;omega) (cM.mem B z).1 (cM.mem B z).2 this;exact⟨this.1,this.2.1⟩
      |none=>
       rw[P]at this;dsimp only at this;split at this
       . rename_i ab;have e:=(kR this)
         rw[<-e];exact⟨oq _ _ (H.D x B _ z ab),(H.T x B).3 _ z⟩
       . cases this
     have aB:=NV (C:=300) (d:=13) (λ_ _=>trivial) (λm z=>⟨λab=>H.W x B m z ab,λg ao v L=>(ih _ _ _ (by have:=(ae.1 g ao).1;omega) (cM.mem B z).1 (cM.mem B z).2 L).2.2⟩) hs;have aV:=Ob (C:=300) (d:=13) (by omega) aF l;refine⟨⟨⟨t0,t1,aD.symm,λh=>by cases h⟩,.inr (.inr (.inr (.inr (.inl ⟨rfl,rfl,rfl,rfl,rfl,rfl,abl ae.2.1 (λf P=>(ae.1 f P).2),h4.2 ⟨ah,λi Q=>(aH i Q).1⟩⟩))))⟩,mH (by omega) lW (by omega) (by simp) (by simp) (by omega) ?_ (by simp) ?_ ?_,?_⟩
     . unfold e9;grind
     . intro y j;obtain⟨i,Q,rfl⟩:=eS j;grind
     . intro r G;obtain⟨f,f1,_,rfl⟩:=KR G;grind
     . rw[fg];show 10+0+((e9 x l).map λr=>r.Data.length+1).sum+cB []+cB ai<=_;rw[gF];omega
   . cases h
theorem Lr(H:di ts):∀(n:Nat) (t:Int) (p:aj) (v:I),p.length<=90000->0<=t->t<ts.length->c1 ts n t p=some v->r0 ts t p v
 |0,t,p,v,_,_,_,h=>by rw[DH]at h;cases h
 |n+1,t,p,v,a,t0,t1,h=>abm H (Lr H n) a t0 t1 h
end
theorem Ls:∀{A B:List Fd},A.Pairwise (λa b=>a.id<b.id)->B.Pairwise (λa b=>a.id<b.id)->(∀x,x∈A↔x∈B)->A=B
 |[],[],_,_,_=>rfl
 |[],b::B,_,_,h=>by have:=(h b).2 (.head _);cases this
 |a::A,[],_,_,h=>by have:=(h a).1 (.head _);cases this
 |a::A,b::B,c,dp,h=>by
  rw[jh]at c dp;have e:a=b:=by grind
  subst e;rw[Ls c.2 dp.2 λx=>?_];grind
theorem H0{l:List α}{y:α}(d:α)(h:y∈l):∃i,i<l.length/\l.getD i d=y:=by
 obtain⟨i,a,rfl⟩:=eS h;exact⟨i,a,dc a d⟩
section
variable {ts:List ah}
theorem IB:∀{ms:List aU} {l:List I} {j:Nat},j<ms.length->j<l.length->dM (ms.getD j aC) (l.getD j ar)=false->
 (⟨(ms.getD j aC).af.toNat,(ms.getD j aC).cn,bA ts (ms.getD j aC).au (l.getD j ar)⟩:Fd)∈dI ts ms l
 |[],l,j,h,_,_=>by simp at h
 |m::ms,[],j,_,h,_=>by simp at h
 |m::ms,v::l,0,_,_,h=>by
  rw[dI];grind
 |m::ms,v::l,j+1,h1,a,h=>by
  rw[dI];have:=IB (ms:=ms) (l:=l) (j:=j) (by simpa using h1) (by simpa using a) h;grind
end
abbrev fJ:=Int->I->Int->aq->I ⊕ aq
def iZ{α:Type}:α ⊕ aq->List α ⊕ aq->List α ⊕ aq
 |.inr p,_=>.inr p
 |.inl _,.inr p=>.inr p
 |.inl u,.inl l=>.inl (u::l)
def h'{α a:Type}(g:α->a):α ⊕ aq->a ⊕ aq
 |.inr p=>.inr p
 |.inl u=>.inl (g u)
def mh{α a:Type}(g:α->a ⊕ aq):α ⊕ aq->a ⊕ aq
 |.inr p=>.inr p
 |.inl u=>g u
def hn(l:List aU)(id:Int):Option Nat:=l.findIdx? λm=>decide (m.af=id)
def lU(l:List aU)(id:Int):Int×Bool:=match hn l id with
 |some j=>((j:Int),true)
 |none=>(0,false)
def e0(f:fJ)(path:aq)(t rt:Int):Nat->List I->List I ⊕ aq
 |_,[]=>.inl []
 |i,v::l=>iZ (f t v rt (path++[(i:Int)])) (e0 f path t rt (i+1) l)
noncomputable def Ah (m:aU)(w:I)(n:aU)(a:aq):I ⊕ aq->I ⊕ aq
 |.inr p=>if dM m w then .inr a else .inr p
 |.inl u=>if dM m w=true/\dM n u=false then .inr a else .inl u
noncomputable def wA (f:fJ)(x:ah)(v:I)(path:aq)(n:aU):I ⊕ aq:=match hn x.ag n.af with
 |none=>if n.bW then .inl n.bw else .inr (path++[n.af])
 |some i=>Ah (x.ag.getD i aC) (v.ai.getD i ar) n (path++[n.af]) (f (x.ag.getD i aC).au (v.ai.getD i ar) n.au (path++[n.af]))
noncomputable def jk (f:fJ)(x:ah)(v:I)(path:aq):List aU->List I ⊕ aq
 |[]=>.inl []
 |n::l=>iZ (wA f x v path n) (jk f x v path l)
noncomputable def iA (tw:List ah)(y:ah)(path:aq):List aU->List I->List bY ⊕ aq
 |m::ms,v::l=>if(cD y.ag m.af).isSome then iA tw y path ms l
  else if m.cn then .inr (path++[m.af])
  else if dM m v then iA tw y path ms l
  else iZ (.inl ⟨m.af,bA tw m.au v⟩) (iA tw y path ms l)
 |_,_=>.inl []
def jB(x y:ah)(v:I):Prop:=(x.Kind=2->y.bB<=v.bd/\v.bd<=y.bF)/\(x.Kind=3->(v.bl.length:Int)<=y.Max)/\(x.Kind=4->(∃s,s∈y.bg/\s.af=v.af)\/y.Open=true)
noncomputable def wz (tw:List ah)(f:fJ)(x y:ah)(v:I)(path:aq):I ⊕ aq:=
 mh (λa=>h' (λr=>⟨5,false,0,[],0,[],a,r⟩) (iA tw y path x.ag v.ai)) (jk f x v path y.ag)
noncomputable def t' (tw:List ah)(f:fJ)(x y:ah)(v:I)(path:aq):I ⊕ aq:=match hn x.ag v.af with
 |none=>.inr path
 |some i=>match hn y.ag v.af with
  |some k=>h' (λu=>⟨6,false,0,[],v.af,[],[u],[]⟩) (f (x.ag.getD i aC).au (v.ai.getD 0 ar) (y.ag.getD k aC).au (path++[v.af]))
  |none=>if y.Open then .inl ⟨6,false,0,[],v.af,[],[],[⟨v.af,bA tw (x.ag.getD i aC).au (v.ai.getD 0 ar)⟩]⟩else .inr path
def Ae(f:fJ)(x y:ah)(v:I)(path:aq):I ⊕ aq:=
 if(v.ai.length:Int)<=y.Max then h' (λa=>⟨7,false,0,[],0,[],a,[]⟩) (e0 f path x.aG y.aG 0 v.ai)else .inr path
def Af(f:fJ)(x y:ah)(v:I)(path:aq):I ⊕ aq:=
 if(v.ai.length:Int)<=y.Max then mh (λks=>h' (λa=>⟨8,false,0,[],0,ks,a,[]⟩) (e0 f path x.aG y.aG 0 v.ai)) (e0 f path x.Key y.Key 0 v.av)else .inr path
def Ag(f:fJ)(x y:ah)(v:I)(path:aq):I ⊕ aq:=
 h' (λa=>⟨9,false,0,[],0,[],a,[]⟩) (e0 f path x.aG y.aG 0 v.ai)
open Classical in
noncomputable def iz (tw:List ah)(f:fJ)(x y:ah)(v:I)(path:aq):I ⊕ aq:=
 if ¬x.Kind=y.Kind then .inr path
 else if x.Kind=5 then wz tw f x y v path
 else if x.Kind=6 then t' tw f x y v path
 else if x.Kind=7 then Ae f x y v path
 else if x.Kind=8 then Af f x y v path
 else if x.Kind=9 then Ag f x y v path
 else if jB x y v then .inl v else .inr path
noncomputable def eb (tw tr:List ah):Nat->fJ
 |0=>λ_ _ _ path=>.inr path
 |n+1=>λt v rt path=>iz tw (eb tw tr n) (tw.getD t.toNat aP) (tr.getD rt.toNat aP) v path
theorem CU(n:Nat)(t:Int)(v:I)(rt:Int)(path:aq):eb tw tr (n+1) t v rt path=iz tw (eb tw tr n) (tw.getD t.toNat aP) (tr.getD rt.toNat aP) v path:=rfl
section
variable {tw:List ah}{f:fJ}{x y:ah}{v:I}{path:aq}
theorem Oc(bI:¬x.Kind=y.Kind):iz tw f x y v path= .inr path:=by unfold iz;rw[ad bI]
theorem Rt(bI:x.Kind=y.Kind)(h:x.Kind=5):iz tw f x y v path=wz tw f x y v path:=by unfold iz;rw[al (λh=>h bI),ad h]
theorem Ru(bI:x.Kind=y.Kind)(h:x.Kind=6):iz tw f x y v path=t' tw f x y v path:=by unfold iz;rw[al (λh=>h bI),bp,ad h]
theorem Rv(bI:x.Kind=y.Kind)(h:x.Kind=7):iz tw f x y v path=Ae f x y v path:=by unfold iz;rw[al (λh=>h bI),bp,bp,ad h]
theorem Rw(bI:x.Kind=y.Kind)(h:x.Kind=8):iz tw f x y v path=Af f x y v path:=by unfold iz;rw[al (λh=>h bI),bp,bp,bp,ad h]
theorem Rx(bI:x.Kind=y.Kind)(h:x.Kind=9):iz tw f x y v path=Ag f x y v path:=by unfold iz;rw[al (λh=>h bI),bp,bp,bp,bp,ad h]
theorem qA(bI:x.Kind=y.Kind)(h:x.Kind<=4)(ae:jB x y v):iz tw f x y v path= .inl v:=by unfold iz;rw[al (λh=>h bI),bp,bp,bp,bp,bp,ad ae]
theorem vW(bI:x.Kind=y.Kind)(h:x.Kind<=4)(ae:¬jB x y v):iz tw f x y v path= .inr path:=by unfold iz;rw[al (λh=>h bI),bp,bp,bp,bp,bp,al ae]
end
theorem Lt{m:aU}{n:aU}{a p:aq}:Ah m w n a (.inr p)=if dM m w then .inr a else .inr p:=rfl
theorem Lu{m:aU}{n:aU}{a:aq}:Ah m w n a (.inl u)=if dM m w=true/\dM n u=false then .inr a else .inl u:=rfl
theorem ka{l:List aU}{j:Nat}(h:hn l id=some j):j<l.length/\(l.getD j aC).af=id/\∀k,k<j->(l.getD k aC).af≠id:=by
 obtain⟨h1,a,b⟩:=List.findIdx?_eq_some_iff_getElem.1 h;refine⟨h1,?_,λk c=>?_⟩
 . rw[dc h1];simpa using a
 . rw[dc (by omega)];simpa using b k c
theorem NW{l:List aU}(h:hn l id=none):∀k,k<l.length->(l.getD k aC).af≠id:=λk a=>by
 have:=List.findIdx?_eq_none_iff.1 h _ (bh a aC);simpa using this
theorem KS(l:List aU)(id:Int):qE l id (lU l id):=by
 unfold lU;cases h:hn l id with
 |some j=>exact .inl ⟨j,(ka h).1,(ka h).2.1,(ka h).2.2,rfl⟩
 |none=>exact .inr ⟨NW h,rfl⟩
theorem vK(l:List aU)(id:Int):(hn l id).isSome=(cD l id).isSome:=by
 cases h:hn l id with
 |some j=>
  obtain⟨h1,b,_⟩:=ka h;cases g:cD l id with
  |some _=>rfl
  |none=>exact absurd b (ny g _ (bh h1 aC))
 |none=>
  cases g:cD l id with
  |none=>rfl
  |some m=>
   obtain⟨c,d⟩:=j9 g;obtain⟨i,a,rfl⟩:=eS c;exact absurd d (by rw[<-dc a aC];exact NW h i a)
theorem Hs{a:α ⊕ aq}{b:List α ⊕ aq}{l:List α}(h:iZ a b= .inl l):∃u us,a= .inl u/\b= .inl us/\l=u::us:=by
 cases a with
 |inr p=>simp[iZ]at h
 |inl u=>cases b with
  |inr p=>simp[iZ]at h
  |inl us=>exact⟨u,us,rfl,rfl,by simpa[iZ]using h.symm⟩
theorem zL{g:α->c}{a:α ⊕ aq}{b:c}(h:h' g a= .inl b):∃u,a= .inl u/\b=g u:=by
 cases a with
 |inr p=>simp[h']at h
 |inl u=>exact⟨u,rfl,by simpa[h']using h.symm⟩
theorem KT{g:α->c ⊕ aq}{a:α ⊕ aq}{b:c}(h:mh g a= .inl b):∃u,a= .inl u/\g u= .inl b:=by
 cases a with
 |inr p=>simp[mh]at h
 |inl u=>exact⟨u,rfl,by simpa[mh]using h⟩
theorem Ct{f:fJ}{path:aq}{t rt:Int}:∀{l:List I} {i:Nat} {us:List I},e0 f path t rt i l= .inl us->us.length=l.length/\∀j,j<l.length->f t (l.getD j ar) rt (path++[((i+j:Nat):Int)])= .inl (us.getD j ar)
 |[],i,us,h=>by
  simp only[e0,Sum.inl.injEq]at h;subst h;exact⟨rfl,λj c=>by simp at c⟩
 |v::l,i,us,h=>by
  obtain⟨u,e,h1,d,rfl⟩:=Hs h;obtain⟨a,b⟩:=Ct d;refine⟨by simp[a],λj c=>?_⟩;cases j with
  |zero=>exact h1
  |succ j=>
   have:=b j (by simpa using c);rw[show i+1+j=i+(j+1) by omega]at this;exact this
theorem KU{f:fJ}{x:ah}{v:I}{path:aq}:∀{l:List aU} {us:List I},jk f x v path l= .inl us->us.length=l.length/\∀j,j<l.length->wA f x v path (l.getD j aC)= .inl (us.getD j ar)
 |[],us,h=>by
  simp only[jk,Sum.inl.injEq]at h;subst h;exact⟨rfl,λj c=>by simp at c⟩
 |n::l,us,h=>by
  obtain⟨u,e,h1,d,rfl⟩:=Hs h;obtain⟨a,b⟩:=KU d;refine⟨by simp[a],λj c=>?_⟩;cases j with
  |zero=>exact h1
  |succ j=>exact b j (by simpa using c)
variable{f:fJ}
theorem abn{n:aU}(h:wA f x v path n= .inl u):
 (hn x.ag n.af=none/\n.bW=true/\u=n.bw)\/∃i,hn x.ag n.af=some i/\f (x.ag.getD i aC).au (v.ai.getD i ar) n.au (path++[n.af])= .inl u/\(dM (x.ag.getD i aC) (v.ai.getD i ar)=true->dM n u=true):=by
 unfold wA at h;cases b:hn x.ag n.af with
 |none=>
  simp only[b]at h;by_cases a:n.bW=true
  . rw[ad a]at h;exact .inl ⟨rfl,a,by simpa using h.symm⟩
  . rw[al a]at h;cases h
 |some i=>
  simp only[b]at h;refine .inr ⟨i,rfl,?_⟩;revert h;cases f (x.ag.getD i aC).au (v.ai.getD i ar) n.au (path++[n.af])with
  |inr p=>intro h;unfold Ah at h;grind
  |inl w=>intro h;unfold Ah at h;grind
theorem DI{tw:List ah}{y:ah}{path:aq}:∀{ms:List aU} {l:List I} {r:List bY},iA tw y path ms l= .inl r->
 r.length<=ms.length/\(r.map λa=>a.af).Sublist (ms.map λm=>m.af)/\∀a,a∈r->cD y.ag a.af=none/\∃j,j<ms.length/\j<l.length/\a=⟨(ms.getD j aC).af,bA tw (ms.getD j aC).au (l.getD j ar)⟩
 |[],l,r,h=>by
  rw[iA]at h
  . cases h;simp
  . intros;simp_all
 |m::ms,[],r,h=>by
  rw[iA]at h
  . cases h;simp
  . intros;simp_all
 |m::ms,v::l,r,h=>by
  have g:∀{r},iA tw y path ms l= .inl r->r.length<=(m::ms).length/\(r.map λa=>a.af).Sublist ((m::ms).map λm=>m.af)/\∀a,a∈r->cD y.ag a.af=none/\∃j,j<(m::ms).length/\j<(v::l).length/\a=⟨((m::ms).getD j aC).af,bA tw ((m::ms).getD j aC).au ((v::l).getD j ar)⟩:=λ{r} h=>by
   obtain⟨a,b,c⟩:=DI h;refine⟨by simp;omega,by rw[gB];exact b.cons _,λq f=>?_⟩;obtain⟨d,j,o,p,e⟩:=c q f;exact⟨d,j+1,by simp;omega,by simp;omega,e⟩
  rw[iA]at h;by_cases d:(cD y.ag m.af).isSome=true
  . rw[ad d]at h;exact g h
  rw[al d]at h;by_cases i:m.cn=true
  . rw[ad i]at h;cases h
  rw[al i]at h;by_cases k:dM m v=true
  . rw[ad k]at h;exact g h
  rw[al k]at h;obtain⟨u,us,aK,n,rfl⟩:=Hs h;cases aK;obtain⟨a,b,c⟩:=DI n;refine⟨by simp;omega,by rw[gB,gB];exact b.cons₂ _,λq f=>?_⟩;rcases fe.1 f with rfl|f
  . exact⟨by simpa using d,0,by simp,by simp,rfl⟩
  . exact(g n).2.2 q f
section
variable {ts:List ah}
theorem AD{n:Nat}(h:n<16384):(eB n).length<=2:=Ir 1 n (by simpa using h)
theorem vL(h:p.length<16384):(dB p).length<=p.length+2:=by
 have:=AD h;unfold dB;simp;omega
def il(ts:List ah)(t:Int)(v:I):Prop:=(bA ts t v).length+4<=wt v
theorem Du{t:Int}:∀{l:List I},cB l<=3000->(∀y,y∈l->il ts t y)->((b7 ts t l).flatMap dB).length<=cB l
 |[],_,_=>by rw[b7];simp
 |v::l,a,h=>by
  rw[b7,e7,c4];rw[gO]at a⊢;have h1:=h v (.head _);unfold il at h1;have c:=Du (t:=t) (l:=l) (by omega) λx b=>h x (.tail _ b);have d:=vL (p:=bA ts t v) (by omega);omega
theorem NX{l:List I}(h:∀y,y∈l->il ts t y):((b7 ts t l).headD []).length+4<=cB l\/l=[]:=by
 cases l with
 |nil=>exact .inr rfl
 |cons v l=>
  refine .inl ?_;have h1:=h v (.head _);unfold il at h1;rw[b7,gO];grind
theorem Lv:∀{ms:List aU} {l:List I},cB l<=3000->(∀m,m∈ms->m.af<=1000)->l.length=ms.length->(∀i,i<ms.length->il ts (ms.getD i aC).au (l.getD i ar))->((dI ts ms l).flatMap Fd.text).length<=cB l
 |[],l,_,_,_,_=>by rw[dI]<;>simp
 |m::ms,[],_,_,ae,_=>by simp at ae
 |m::ms,v::l,c,a,ae,h=>by
  rw[gO]at c⊢;rw[dI];have h1:il ts m.au v:=h 0 (by simp);unfold il at h1;have e:=Lv (ms:=ms) (l:=l) (by omega) (λx d=>a x (.tail _ d)) (by simpa using ae) λi b=>h (i+1) (by simpa using b);have g:=a m (.head _);split
  . omega
  . rw[e7,c4];have a1:=vL (p:=bA ts m.au v) (by omega);have a2:=AD (n:=2*m.af.toNat+(if m.cn then 1 else 0)) (by split<;>omega);have f:(Fd.text ⟨m.af.toNat,m.cn,bA ts m.au v⟩).length<=(bA ts m.au v).length+4:=by
     show(fE m.af.toNat m.cn (bA ts m.au v)).length<=_;unfold fE;grind
    omega
theorem yY(H:di ts)(x:bH v):∀t,b6 ts true t v->wt v<=3000->il ts t v:=by
 have d:=H.V.hT H.T;induction x with
 |mk v hs h1 P Q X U Y db ab ad ae B z=>
  intro t u Z;obtain⟨⟨K,N,O,p⟩,s⟩:=(eO _ _ _).1 u;have w:t.toNat<ts.length:=by omega
  have c:=bh w aP;have r:=p rfl;have aa:=fg v;have aX:∀y,y∈v.av->wt y+10<=wt v:=λy a=>by have:=e2 a;omega
  have D:∀y,y∈v.ai->wt y+10<=wt v:=λy a=>by have:=e2 a;omega
  have C:∀t,eT ts true t v.av->∀y,y∈v.av->il ts t y:=λt ht y a=>B y a t (cU.1 ht y a) (by have:=aX y a;omega);have f:∀t,eT ts true t v.ai->∀y,y∈v.ai->il ts t y:=λt ht y a=>z y a t (cU.1 ht y a) (by have:=D y a;omega);unfold il;rcases s with h|h|h|h|h|h|h|h|h
  . rw[As (by omega)];grind
  . have R:=H.L _ c (by omega);rw[Au (by omega)];have:=v8 1 (gg v.bd).toNat (by unfold gg;split<;>omega);omega
  . rw[Av (by omega)];omega
  . rw[Aw (by omega)];have j:v.af.toNat<256^2:=by
     rcases h.2.2.2.2.2.2.2 with⟨y,F,ah⟩|⟨_,h,_⟩
     . have:=d.S _ c (by omega) y F;unfold cr at this;omega
     . cases h
    have:=v8 2 _ j;omega
  . obtain⟨a1,a2,a3,a4,a5,b,g,e⟩:=h;obtain⟨k,E⟩:=d.A _ c (.inl (by omega));obtain⟨f1,f2⟩:=h4.1 e;rw[Ax (by omega),Tm (nz _ _)];unfold ft;rw[r,p1,l3];have:=Lv (ts:=ts) (l:=v.ai) (by omega) (d.M _ c) f1 λi W=>by grind
    omega
  . obtain⟨a1,a2,a3,a4,a5,b⟩:=h;rw[Ay (by omega)];cases bD:cD (ts.getD t.toNat aP).ag v.af with
    |none=>rw[bD]at b;cases b.2.1
    |some m=>
     rw[bD]at b;obtain⟨b1,b2,b3⟩:=b;obtain⟨k,E⟩:=j9 bD;have j:=d.M _ c m k;have:=AD (n:=v.af.toNat) (by omega);rw[c4];rcases NX (f _ b3)with q|q
     . grind
     grind
  . obtain⟨a1,a2,a3,a4,a5,b,g,e,a9⟩:=h;rw[Az (by omega)];have:=Du (l:=v.ai) (by omega) (f _ a9);omega
  . obtain⟨a1,a2,a3,a4,a5,b,g,e,a9,o,G⟩:=h;rw[AA (by omega)];have aK:=Du (l:=v.ai) (by omega) (f _ o);have J:=Du (l:=v.av) (by omega) (C _ a9);have:=HV (b7 ts (ts.getD t.toNat aP).Key v.av) (b7 ts (ts.getD t.toNat aP).aG v.ai);omega
  . obtain⟨a1,a2,a3,a4,a5,b,g,e,a9⟩:=h;rw[AB (by omega)];rcases NX (f _ a9)with q|q
    . grind
    . rw[q,b7];simp;omega
end
section
variable {tw tr:List ah}
theorem aau{n:Nat}(a:(tw.getD t.toNat aP).Kind<=4)(h:eb tw tr n t v rt path= .inl u):u=v:=by
 cases n with
 |zero=>cases h
 |succ n=>
  rw[CU]at h;unfold iz at h;grind
theorem aav(c:∀v rt path u,f t v rt path= .inl u->u=v){i:Nat}{l us:List I}(h:e0 f path t rt i l= .inl us):us=l:=by
 obtain⟨a,b⟩:=Ct h;exact abd a λj d=>c _ _ _ _ (b j (by omega))
theorem abo{l:List I}{r:List bY}(d:fy ms)(h:iA tw y path ms l= .inl r):ke y.ag r:=by
 obtain⟨_,b,c⟩:=DI h;refine⟨?_,λa g=>?_⟩
 . have h1:(ms.map λm=>m.af).Pairwise (· < ·):=ob.2 d.1;grind
 . obtain⟨f,j,i,k,e⟩:=c a g;refine⟨?_,f⟩;rw[e];exact d.2 _ (bh i aC)
theorem cr.i64{n:Int}(h:cr n): -9223372036854775808<=n/\n<=9223372036854775807:=by unfold cr at h;omega
def HO(tr:List ah)(rt:Int)(u:I):Prop:=bH u/\b6 tr false rt u
def Em(tw tr:List ah)(n:Nat):Prop:=∀{v:I},bH v->wt v<=3000->∀{t rt:Int} {path:aq} {u:I},b6 tw true t v->0<=rt->rt<tr.length->eb tw tr n t v rt path= .inl u->HO tr rt u
theorem ZL(M:di tw)(l:di tr){n:Nat}(ih:Em tw tr n):Em tw tr (n+1):=by
 intro v aw a8 t rt path u aD s z h;have SW:=M.V.hT M.T;have cx:=l.V.hT l.T;have W:=aw;have a':=fg v;obtain⟨⟨aU,aV,aW,aX⟩,aB⟩:=(eO _ _ _).1 aD;have aE:t.toNat<tw.length:=by omega
 have aF:rt.toNat<tr.length:=by omega
 have R:=bh aE aP;have p:=bh aF aP;have o:=λu=>(eO (ts:=tr) false rt u).2;rw[CU]at h;generalize ba:tw.getD t.toNat aP=x at*;generalize X:tr.getD rt.toNat aP=y at*;cases aw with
 |mk _ hs h1 aY aZ ap J a7 db be bf bg=>
 have F:∀y,y∈v.ai->wt y<=3000:=λy X=>by have:=e2 X;omega
 have aR:∀y,y∈v.av->wt y<=3000:=λy X=>by have:=e2 X;omega
 have aj:∀{t rt:Int} {i:Nat} {us:List I},eT tw true t v.ai->0<=rt->rt<tr.length->e0 (eb tw tr n) path t rt i v.ai= .inl us->us.length=v.ai.length/\(∀q,q∈us->bH q)/\eT tr false rt us:=λ{t rt i us} ad a0 a1 U=>by
  obtain⟨a,b⟩:=Ct U;have key:∀q,q∈us->HO tr rt q:=λq c=>by
   obtain⟨j,H,rfl⟩:=H0 ar c;have f:=bh (by omega:j<v.ai.length) ar;exact ih (J _ f) (F _ f) (cU.1 ad _ f) a0 a1 (b j (by omega))
  exact⟨a,λq c=>(key q c).1,cU.2 λq c=>(key q c).2⟩
 have aH:∀t,eT tw true t v.av->(tw.getD t.toNat aP).Kind<=4->∀{rt:Int} {i:Nat} {us:List I},0<=rt->rt<tr.length->e0 (eb tw tr n) path t rt i v.av= .inl us->us=v.av/\eT tr false rt v.av:=λt ad aG rt i us a0 a1 U=>by
  have e:=aav (λv rt path u h=>aau aG h) U;subst e;obtain⟨a,b⟩:=Ct U;refine⟨rfl,cU.2 λq c=>?_⟩;obtain⟨j,H,rfl⟩:=H0 ar c;exact(ih (ap _ c) (aR _ c) (cU.1 ad _ c) a0 a1 (b j H)).2
 unfold iz at h;by_cases bI:x.Kind=y.Kind
 . rw[al (by simpa using bI)]at h;rcases aB with d|d|d|d|d|d|d|d|d
   . rw[bp,bp,bp,bp,bp]at h;split at h<;>cases h;exact⟨W,o _ ⟨⟨s,z,by omega,by simp⟩,.inl d⟩⟩
   . rw[bp,bp,bp,bp,bp]at h;split at h<;>cases h;rename_i ae;exact⟨W,o _ ⟨⟨s,z,by omega,by simp⟩,.inr (.inl (by have:=ae.1 (by omega);simp_all))⟩⟩
   . rw[bp,bp,bp,bp,bp]at h;split at h<;>cases h;rename_i ae;exact⟨W,o _ ⟨⟨s,z,by omega,by simp⟩,.inr (.inr (.inl (by have:=ae.2.1 (by omega);simp_all)))⟩⟩
   . rw[bp,bp,bp,bp,bp]at h;split at h<;>cases h;rename_i ae;have O:cr v.af:=by
      rcases d.2.2.2.2.2.2.2 with⟨y,aS,aT⟩|⟨_,h,_⟩
      . rw[<-aT];exact SW.S _ R (by omega) y aS
      . cases h
     refine⟨W,o _ ⟨⟨s,z,by omega,by simp⟩,.inr (.inr (.inr (.inl ⟨d.1,d.2.1,d.2.2.1,d.2.2.2.1,d.2.2.2.2.1,d.2.2.2.2.2.1,d.2.2.2.2.2.2.1,?_⟩)))⟩⟩;rcases ae.2.2 (by omega)with q|q
     . exact .inl q
     grind
   . obtain⟨a1,a2,a3,a4,a5,E,Z,N⟩:=d;obtain⟨Y,aM⟩:=SW.A _ R (.inl (by omega));obtain⟨bc,bd⟩:=cx.A _ p (.inl (by omega));obtain⟨f1,f2⟩:=h4.1 N;rw[fv]at h;obtain⟨g,aK,h⟩:=KT h;obtain⟨r,am,rfl⟩:=zL h;obtain⟨b1,b2⟩:=KU aK;have key:∀j,j<y.ag.length->HO tr (y.ag.getD j aC).au (g.getD j ar):=λj Q=>by
      have G:=bh Q aC;rcases abn (b2 j Q)with⟨_,aa,ab⟩|⟨i,ak,aa,_⟩
      . rw[ab];exact⟨(l.T _ p).jd _ G,oq _ _ (l.D _ p _ G aa)⟩
      . obtain⟨d1,_,_⟩:=ka ak;have f:=bh (by omega:i<v.ai.length) ar;obtain⟨B,C⟩:=l.gG.mem p G;exact ih (J _ f) (F _ f) (f2 i d1) B C aa
     have aq:=abo Y am;obtain⟨ak,_,ab⟩:=DI am;refine⟨.mk _ (by simp) (by simp) (by show g.length<=_;unfold reachBytes;omega) (by show r.length<=_;unfold reachBytes;omega) (λq c=>by cases c) (λq c=>?_) (λq c=>?_) (by simp) (by simp) (by simp) (λq c=>(aq.2 q c).1.i64),o _ ⟨⟨s,z,by show(5:Int)=_;omega,by simp⟩,.inr (.inr (.inr (.inr (.inl ⟨rfl,rfl,rfl,rfl,rfl,rfl,aq,h4.2 ⟨b1,λj Q=>(key j Q).2⟩⟩))))⟩⟩
     . obtain⟨j,H,rfl⟩:=H0 ar c;exact(key j (by have:g.length=_:=b1;have bb:j<g.length:=H;omega)).1
     . obtain⟨_,j,H,aI,e⟩:=ab q c;have f:=bh aI ar;have:=yY M (J _ f) _ (f2 j H) (F _ f);unfold il at this;have:=F _ f;rw[e];unfold reachBytes;grind
   . obtain⟨a1,a2,a3,a4,a5,E⟩:=d;rw[bp,fv]at h;unfold t' at h;obtain⟨Y,aM⟩:=SW.A _ R (.inr (by omega));cases bD:cD x.ag v.af with
     |none=>rw[bD]at E;cases E.2.1
     |some m=>
      rw[bD]at E;obtain⟨b1,b2,b3⟩:=E;have ah:=vK x.ag v.af;rw[bD]at ah;cases O:hn x.ag v.af with
      |none=>rw[O]at ah;cases ah
      |some i=>
      obtain⟨d1,d2,_⟩:=ka O;obtain⟨d3,d4⟩:=j9 bD;have em:x.ag.getD i aC=m:=qz Y (bh d1 aC) d3 (by rw[d2,d4]);have ao:cr v.af:=by rw[<-d4];exact Y.2 m d3
      simp only[O,em]at h;have f:=bh (by omega:0<v.ai.length) ar;cases P:hn y.ag v.af with
      |some k=>
       simp only[P]at h;obtain⟨w,aK,rfl⟩:=zL h;obtain⟨aJ,aL,_⟩:=ka P;have G:=bh aJ aC;obtain⟨B,C⟩:=l.gG.mem p G;obtain⟨z1,z2⟩:=ih (J _ f) (F _ f) (cU.1 b3 _ f) B C aK;have an:cD y.ag v.af=some (y.ag.getD k aC):=by rw[<-aL];exact LO (cx.A _ p (.inr (by omega))).1 G
       refine⟨.mk _ (by simp) (by simp) (by show[w].length<=_;unfold reachBytes;simp) (by simp) (λq c=>by cases c) (λq c=>?_) (λq c=>by cases c) (by simp) (by simp) ao.i64 (λq c=>by cases c),o _ ⟨⟨s,z,by show(6:Int)=_;omega,by simp⟩,.inr (.inr (.inr (.inr (.inr (.inl ⟨rfl,rfl,rfl,rfl,rfl,?_⟩)))))⟩⟩
       . grind
       . show match cD y.ag v.af with|some m=>_|none=>_
         rw[an];exact⟨rfl,rfl,z2,trivial⟩
      |none=>
       simp only[P]at h;split at h
       . cases h;rename_i a6;have an:cD y.ag v.af=none:=by
          have:=vK y.ag v.af;rw[P]at this;cases c:cD y.ag v.af with
          |none=>rfl
          |some _=>rw[c]at this;cases this
         have:=yY M (J _ f) _ (cU.1 b3 _ f) (F _ f);unfold il at this;have:=F _ f;refine⟨.mk _ (by simp) (by simp) (by simp) (by show[_].length<=_;unfold reachBytes;simp) (λq c=>by cases c) (λq c=>by cases c) (λq c=>?_) (by simp) (by simp) ao.i64 (λq c=>?_),o _ ⟨⟨s,z,by show(6:Int)=_;omega,by simp⟩,.inr (.inr (.inr (.inr (.inr (.inl ⟨rfl,rfl,rfl,rfl,rfl,?_⟩)))))⟩⟩
         . rw[wh.1 c];show(bA tw _ _).length<=_;unfold reachBytes;omega
         . grind
         grind
       . cases h
   . obtain⟨a1,a2,a3,a4,a5,E,Z,N,a9⟩:=d;rw[bp,bp,fv]at h;unfold Ae at h;split at h
     . rename_i aA;obtain⟨g,aK,rfl⟩:=zL h;obtain⟨B,C⟩:=l.gG.elem p (by omega);obtain⟨ax,K,L⟩:=aj a9 B C aK;exact⟨.mk _ (by simp) (by simp) (by show g.length<=_;omega) (by simp) (λq c=>by cases c) K (λq c=>by cases c) (by simp) (by simp) (by simp) (λq c=>by cases c),o _ ⟨⟨s,z,by show(7:Int)=_;omega,by simp⟩,.inr (.inr (.inr (.inr (.inr (.inr (.inl ⟨rfl,rfl,rfl,rfl,rfl,rfl,rfl,by show(g.length:Int)<=_;omega,L⟩))))))⟩⟩
     . cases h
   . obtain⟨a1,a2,a3,a4,a5,E,Z,N,a9,ay,az⟩:=d;rw[bp,bp,bp,fv]at h;unfold Af at h;split at h
     . rename_i aA;obtain⟨ks,cY,h⟩:=KT h;obtain⟨g,aK,rfl⟩:=zL h;obtain⟨B,C⟩:=l.gG.elem p (by omega);obtain⟨aO,aQ⟩:=l.gG.key p (by omega);obtain⟨ax,K,L⟩:=aj ay B C aK;obtain⟨rfl,aN⟩:=aH _ a9 (SW.r2 _ R (by omega)).2 aO aQ cY;exact⟨.mk _ (by simp) (by show v.av.length<=_;omega) (by show g.length<=_;omega) (by simp) ap K (λq c=>by cases c) (by simp) (by simp) (by simp) (λq c=>by cases c),o _ ⟨⟨s,z,by show(8:Int)=_;omega,by simp⟩,.inr (.inr (.inr (.inr (.inr (.inr (.inr (.inl ⟨rfl,rfl,rfl,rfl,rfl,rfl,by show(v.av.length:Int)<=_;omega,by show g.length=v.av.length;omega,aN,L,az⟩)))))))⟩⟩
     . cases h
   . obtain⟨a1,a2,a3,a4,a5,E,Z,N,a9⟩:=d;rw[bp,bp,bp,bp,fv]at h;obtain⟨g,aK,rfl⟩:=zL h;obtain⟨B,C⟩:=l.gG.elem p (by omega);obtain⟨ax,K,L⟩:=aj a9 B C aK;exact⟨.mk _ (by simp) (by simp) (by show g.length<=_;omega) (by simp) (λq c=>by cases c) K (λq c=>by cases c) (by simp) (by simp) (by simp) (λq c=>by cases c),o _ ⟨⟨s,z,by show(9:Int)=_;omega,by simp⟩,.inr (.inr (.inr (.inr (.inr (.inr (.inr (.inr ⟨rfl,rfl,rfl,rfl,rfl,rfl,rfl,by show g.length<=1;omega,L⟩)))))))⟩⟩
 grind
theorem KV(b:di tw)(a:di tr):∀n,Em tw tr n
 |0=>λ_ _ _ _ _ _ _ _ _ h=>by cases h
 |n+1=>ZL b a (KV b a n)
end
theorem ZM{s:aQ}(H:iF s.Types)(f:bH v)(i:wt v<=1099511627776)(e:b6 s.Types false t v)(c:tz (s,t,v)=some 0):
 lL (s,t,v)=some (kf s.Types t v):=by
 have h1:=abN H f i e;have d:tz ((⟨s.Types⟩:aQ),t,v)=some 0:=c;rw[lL];simp only[I.aO];rw[d,h1];simp only[aT,ak];rw[bq];unfold kf;generalize bA s.Types t v=p;generalize ep s.Types t v=l;by_cases g:4096<p.length
 . rw [ad (by have:(4096:Int)<p.length:= by omega
              simp[this]),ad (.inl g)]
 . by_cases b:200<l
   . rw [ad (by have:¬ (4096:Int)<p.length:= by omega
                have a:(200:Int)<l:=by omega
                simp[this,a]),ad (.inr b)]
   . rw [al (by have:¬ (4096:Int)<p.length:= by omega
                have a:¬(200:Int)<l:=by omega
                simp[this,a]),bp]
theorem ZN{s:aQ}(H:iF s.Types)(b:bH v)(c:wt v<=1099511627776)(a:b6 s.Types false t v)(i:sF (s,t,v)=some 0):
 o5 (s,t,v)=some (kf s.Types t v):=by
 have e:ja (s,t,v)=some (bA s.Types t v):=Ds H b c t a;have f:mv (s,t,v)=_:=acd H b c t a;rw[o5];simp only[I.aO];rw[i];simp only[aT,ak];rw[bq,e];simp only[ak];rw[f];unfold kf;generalize bA s.Types t v=p;generalize ep s.Types t v=l;by_cases g:4096<p.length
 . have:decide ((4096:Int)<p.length)=true:=by simp;omega
   rw[this,bq];simp only[ak,dK];rw[ad trivial,ad (.inl g)]
 . have:decide ((4096:Int)<p.length)=false:=by simp;omega
   rw[this,hq];simp only[ak,dV];by_cases d:200<l
   . rw[bu,ad (.inr d)]
   . rw[ch,bp]
theorem Lw(H:di ts)(a:r1 ts t v):lL ((⟨ts⟩:aQ),t,v)=some (kf ts t v):=
 ZM (s:=⟨ts⟩) (H.V.hT H.T) a.2.1 (hP a.2.2 (by decide)) a.1 (Gp H.T H.V a.2.1 a.1)
theorem ID(H:di ts)(a:r1 ts t v):o5 ((⟨ts⟩:aQ),t,v)=some (kf ts t v):=
 ZN (s:=⟨ts⟩) (H.V.hT H.T) a.2.1 (hP a.2.2 (by decide)) a.1 (Ln H.T H.V a.2.1 a.1)
noncomputable def gp (ts:List ah)(t:Int)(m:aj):I×Int:=
 if t<0\/(ts.length:Int)<=t then(er,4)else if 4096<m.length then(er,12)else match c1 ts 200 t m with
  |some v=>(v,0)
  |none=>(er,12)
theorem JP(ts:List ah)(t:Int)(m:aj):(∃e,e≠0/\gp ts t m=(er,e))\/∃v,gp ts t m=(v,0)/\(0<=t/\t<ts.length)/\m.length<=4096/\c1 ts 200 t m=some v:=by
 unfold gp;by_cases h1:t<0\/(ts.length:Int)<=t
 . rw[ad h1];exact .inl ⟨4,by omega,rfl⟩
 . rw[al h1];by_cases a:4096<m.length
   . rw[ad a];exact .inl ⟨12,by omega,rfl⟩
   . rw[al a];cases b:c1 ts 200 t m with
     |none=>exact .inl ⟨12,by omega,rfl⟩
     |some v=>exact .inr ⟨v,rfl,by omega,by omega,rfl⟩
section
variable {ts:List ah}
theorem JQ(H:jr ts)(t:Int)(m:aj):tF ((⟨ts⟩:aQ),t,m)=some (gp ts t m):=by
 rw[tF,GD,(pA H.S.T H.V).1];simp only[aT,ak];unfold gp;by_cases h1:t<0\/(ts.length:Int)<=t
 . have c:(bif decide (t<0)then true else decide ((ts.length:Int)<=t))=true:=by rcases h1 with h1|h1<;>simp[h1]
   rw[bq,ad c,ad h1];rfl
 . have c:¬(bif decide (t<0)then true else decide ((ts.length:Int)<=t))=true:=by
    have a:¬t<0:=λh=>h1 (.inl h);have b:¬(ts.length:Int)<=t:=λh=>h1 (.inr h);simp[a,b]
   by_cases d:4096<m.length
   . rw[bq,al c,bu,al h1,ad d];rfl
   . have d1:=NR H 200 (by omega) t m [] 0 [] (by omega) (by omega) (by omega) rfl;rw[bq,al c,ch,al h1,al d];cases e:c1 ts 200 t m with
     |none=>
      obtain⟨w,f1,f2,f⟩:=d1.2 e;rw[f];rfl
     |some v=>
      rw[d1.1 v e];simp[I.aO]
theorem Cu(H:jr ts)(t:Int)(m:aj):nU ((⟨ts⟩:aQ),t,m)=some (gp ts t m):=by
 have f:kH ((⟨ts⟩:aQ),t)=some (if t<0\/(ts.length:Int)<=t then 4 else 0):=by
  rw[kH,(pA H.S.T H.V).2];simp only[aT,ak];rw[bq];by_cases h1:t<0\/(ts.length:Int)<=t
  . rw[ad h1,ad];rcases h1 with h1|h1<;>simp[h1]
  . rw[al h1,al];have a:¬t<0:=λh=>h1 (.inl h);have b:¬(ts.length:Int)<=t:=λh=>h1 (.inr h);simp[a,b]
 rw[nU,F9,f];simp only[aT,ak];unfold gp;by_cases h1:t<0\/(ts.length:Int)<=t
 . simp only[ad h1];rfl
 . by_cases d:4096<m.length
   . simp only[al h1];rw[bq,bu,ad d,zT (by simp)];rfl
   . have d2:=LY H 200 (by omega) t m [] (by omega) (by omega) (by omega) (by simp);rw[show((201-200:Nat):Int)=1 from rfl]at d2;simp only[al h1];rw[bq,ch,al d];cases e:c1 ts 200 t m with
     |none=>
      obtain⟨F,c⟩:=d2.2 e;rw[c];rfl
     |some v=>
      obtain⟨F,c⟩:=d2.1 v e;rw[c];simp[I.aO]
noncomputable def xu (ts:List ah)(t:Int)(m:aj):aj×Int:=if(gp ts t m).2=0 then kf ts t (gp ts t m).1 else([],(gp ts t m).2)
theorem Lx(H:di ts){m:aj}(ht:0<=t/\t<ts.length)(d:m.length<=4096)(h:c1 ts 200 t m=some v):r1 ts t v:=by
 obtain⟨a,b,c⟩:=Lr H 200 t m v (by omega) ht.1 ht.2 h;exact⟨a,b,by omega⟩
theorem X5(H:di ts)(t:Int)(m:aj):vn ((⟨ts⟩:aQ),t,m)=some (xu ts t m):=by
 rw[vn,Cu H.gG];unfold xu;rcases JP ts t m with⟨e,he,a⟩|⟨v,a,ht,b,c⟩
 . rw[a];simp[he]
 . rw[a];simp only[aT,ak,I.aO];rw[ID H (Lx H ht b c)];simp
end
theorem Dg{m:aU}(a:bH v):o9 (m,v)=some (dM m v):=by
 rw[o9];simp only[I.aO];unfold dM;cases b:m.bW with
 |false=>rfl
 |true=>
  obtain⟨r,c,d⟩:=LP a m.bw;grind
theorem Ht(h:p.length<=100000:=by omega):uY p=some (dB p):=by
 rw[uY,hy,tv];have:=j7 (n:=p.length) (by omega);simp only[aT,ak];rw[ad (fX)];rfl
theorem aaw{c:Bool}(d:cr id)(h:p.length<=4096):C6 (id,c,p)=some (fE id.toNat c p,0):=by
 unfold cr at d;obtain⟨n,rfl⟩:=BB (by omega:0<=id);have a:¬(n:Int)<1:=by omega
 have b:¬(1000:Int)<n:=by omega
 rw[C6,al (by simp[a,b]),ch,Is (by omega),a'];rfl
section
variable {ts:List ah}
theorem G9:∀{ms:List aU} {l:List I},((dI ts ms l).map λf=>f.id).Sublist (ms.map λm=>m.af.toNat)
 |[],l=>by rw[dI]<;>simp
 |m::ms,[]=>by rw[dI]<;>simp
 |m::ms,v::l=>by
  rw[dI];split
  . exact(G9 (ms:=ms) (l:=l)).cons _
  . exact(G9 (ms:=ms) (l:=l)).cons₂ _
theorem aax{l:List I}(c:fy ms):(dI ts ms l).Pairwise (λa b=>a.id<b.id):=by
 have h1:(ms.map λm=>m.af.toNat).Pairwise (· < ·):=ob.2 (c.1.imp_of_mem λ{a b} d e h=>by
  have:=c.2 a d;unfold cr at this
  omega)
 exact ob.1 (h1.sublist G9)
theorem ZO(h:(ts.getD t.toNat aP).Kind=5)(c:v.Rest=[])(a:fy (ts.getD t.toNat aP).ag):bA ts t v=(dI ts (ts.getD t.toNat aP).ag v.ai).flatMap Fd.text:=by
 rw[Ax h];have b:ke (ts.getD t.toNat aP).ag v.Rest:=by rw[c];exact⟨.nil,λx d=>by cases d⟩
 congr 1
 have e:ft ts (ts.getD t.toNat aP).ag v.ai v.Rest=dI ts (ts.getD t.toNat aP).ag v.ai:=by
  unfold ft;grind
 rw[<-e];refine Ls (LL (xN a b) (Lo a b)) ?_ λy=>(nz fk _).mem_iff;rw[e];exact aax a
def iE(ts:List ah)(t:Int)(v:I):Prop:=k9 ((⟨ts⟩:aQ),t,v)=some (bA ts t v)
theorem Q5(b:∀m,m∈ms->cr m.af)(ae:v.ai.length=ms.length)(j:ms.length<=1000)(e:∀y,y∈v.ai->bH y)(hs:∀i,i<ms.length->il ts (ms.getD i aC).au (v.ai.getD i ar)/\iE ts (ms.getD i aC).au (v.ai.getD i ar))(f:∀y,y∈v.ai->wt y<=3000):
 ∀(k i:Nat) (acc:aj),i+k=ms.length->acc.length<=i*4000->
 rn (acc,ms,(ms.length:Int),(i:Int),ts,v)=some (acc++(dI ts (ms.drop i) (v.ai.drop i)).flatMap Fd.text)
 |0,i,acc,o,l=>by
  rw[rn,ch,ef (by omega:ms.length<=i),dI]
  . simp
  grind
 |k+1,i,acc,o,l=>by
  have ay:i<ms.length:=by omega
  have a:i<v.ai.length:=by omega
  have d:=bh a ar;rw[rn,bu,ad (aN ay)];simp only[aT,ak,a',I.aO,iK];rw[ad (aN a),Dg (e _ d),ey ay aC,ey a ar,dI];obtain⟨h1,c⟩:=hs i ay;have t:=f _ d;unfold il at h1;unfold iE at c;have g:=λacc=>Q5 b ae j e hs f k (i+1) acc (by omega);cases s:dM (ms.getD i aC) (v.ai.getD i ar)with
  |true=>
   simp only[ak,cW,bK,bT,bJ];rw[bC,g acc (by omega)]
  |false=>
   simp only[ak,eG,bJ,bK,bT];rw[ad (aN a),c];simp only[ak];rw[aaw (b _ (bh ay aC)) (by omega)];simp only[ak];have q:=b _ (bh ay aC);unfold cr at q;have a1:=vL (p:=bA ts (ms.getD i aC).au (v.ai.getD i ar)) (by omega);have a2:=AD (n:=2*(ms.getD i aC).af.toNat+(if(ms.getD i aC).cn then 1 else 0)) (by split<;>omega);have r:(fE (ms.getD i aC).af.toNat (ms.getD i aC).cn (bA ts (ms.getD i aC).au (v.ai.getD i ar))).length<=4000:=by
    unfold fE;grind
   rw[ad (fX),bC,g _ (by rw[c4];omega),hr];rfl
theorem Q6(b:¬x.Kind=8)(ae:v.ai.length<=3000)(hs:∀y,y∈v.ai->(bA ts x.aG y).length<=3000/\iE ts x.aG y):
 ∀(k i:Nat) (acc:aj),i+k=v.ai.length->acc.length<=i*4000->
 k5 (acc,v.ai,(v.ai.length:Int),(i:Int),ts,v,x)=some (acc++(b7 ts x.aG (v.ai.drop i)).flatMap dB)
 |0,i,acc,d,c=>by
  rw[k5,ch,ef (by omega:v.ai.length<=i),b7];simp
 |k+1,i,acc,d,c=>by
  have ay:i<v.ai.length:=by omega
  obtain⟨h1,a⟩:=hs _ (bh ay ar);unfold iE at a;rw[k5,bu,ad (aN ay)];simp only[aT,ak,a',I.aO];have a1:=vL (p:=bA ts x.aG (v.ai.getD i ar)) (by omega);rw[al (by simp[b]),a];simp only[ak];rw[Ht];simp only[ak];rw[ad (fX),bC,Q6 b ae hs k (i+1) _ (by omega) (by rw[c4];omega),ey ay ar,b7,e7,hr]
theorem Od(d:x.Kind=8)(j:v.ai.length=v.av.length)(ae:v.ai.length<=3000)(hs:∀y,y∈v.ai->(bA ts x.aG y).length<=3000/\iE ts x.aG y)(e:∀y,y∈v.av->(bA ts x.Key y).length<=3000/\iE ts x.Key y):
 ∀(k i:Nat) (acc:aj),i+k=v.ai.length->acc.length<=i*8000->
 k5 (acc,v.ai,(v.ai.length:Int),(i:Int),ts,v,x)=some (acc++gS (b7 ts x.Key (v.av.drop i)) (b7 ts x.aG (v.ai.drop i)))
 |0,i,acc,g,f=>by
  rw[k5,ch,ef (by omega:v.ai.length<=i),ef (by omega:v.av.length<=i),b7,b7,gS]
  . simp
  grind
 |k+1,i,acc,g,f=>by
  have ay:i<v.ai.length:=by omega
  have a:i<v.av.length:=by omega
  obtain⟨h1,b⟩:=hs _ (bh ay ar);obtain⟨l,c⟩:=e _ (bh a ar);unfold iE at b c;rw[k5,bu,ad (aN ay)];simp only[aT,ak,a',I.aO];have a1:=vL (p:=bA ts x.aG (v.ai.getD i ar)) (by omega);have a2:=vL (p:=bA ts x.Key (v.av.getD i ar)) (by omega);rw[ad (by simp[d]),ad (aN a),c];simp only[ak];rw[Ht];simp only[ak];rw[ad (fX),b];simp only[ak];rw[Ht];simp only[ak];rw[ad (fX (by rw[c4];omega)),bC,Od d j ae hs e k (i+1) _ (by omega) (by rw[c4,c4];omega),ey ay ar,ey a ar,b7,b7,gS,hr,hr]
theorem aa3(H:iF ts)(l:bH v)(i:b6 ts true t v)(s:v.Kind<=4):j2 (t,v,1,ts,0)=some (bA ts t v,ts,1):=by
 obtain⟨⟨q,r,g,_⟩,b⟩:=(eO _ _ _).1 i;have a:cw v.bd:=by cases l with|mk _ _ _ _ _ _ _ _ _ a _ _=>exact a
 obtain⟨j,rfl⟩:∃j:Nat,t=(j:Int):=⟨t.toNat,by omega⟩
 have c:j<ts.length:=by omega
 have k:=bh c aP;have m:=@As ts (j:Int) v;have d:=@Au ts (j:Int) v;have o:=@Av ts (j:Int) v;have e:=@Aw ts (j:Int) v;rw[j2];simp only[aT,ak];rw[ad (aN c),show ix 0 1=1 by decide];simp only[a',I.aO]at g b m d o e⊢;generalize ts.getD j aP=x at*;rcases b with h|h|h|h|h|h|h|h|h
 . grind
 . rw[al (mt gV (by omega)),ad (jT (by omega)),d (by omega),D1 a];simp only[ak];have f:=zl a;obtain⟨n,aD⟩:∃n:Nat,gg v.bd=(n:Int):=⟨(gg v.bd).toNat,by unfold gg;split<;>omega⟩
   rw[aD,a']at f;rw[aD,D2 f];rfl
 . grind
 . obtain⟨n,aD,ae⟩:∃n:Nat,v.af=(n:Int)/\n<=1000:=by
    rcases h.2.2.2.2.2.2.2 with⟨y,p,u⟩|⟨_,h,_⟩
    . have:=H.S x k (by omega) y p;unfold cr at this;grind
    . cases h
   rw[al (mt gV (by omega)),al (mt gV (by omega)),al (mt gV (by omega)),ad (jT (by omega)),e (by omega),aD,hy,D2 (by omega),a'];rfl
 all_goals omega
theorem adm(H:di ts)(b:bH v)(a:b6 ts true t v)(hs:il ts t v)(d:wt v<=3000)(c:v.Kind<=4):lL ((⟨ts⟩:aQ),t,v)=some (bA ts t v,0):=by
 unfold il at hs;rw[lL];simp only[I.aO];rw[Gp H.T H.V b (oq _ _ a)];simp only[aT,ak];rw[bq,aa3 (H.V.hT H.T) b a c];grind
theorem Oe(H:di ts)(s:bH v):∀t,b6 ts true t v->wt v<=3000->iE ts t v:=by
 have u:=H.V.hT H.T;have D:=s;induction s with
 |mk v hs h1 ab ae B r aj db ao ap aq Q P=>
  intro t c E;have O:=yY H D t c E;obtain⟨⟨Y,Z,aa,J⟩,L⟩:=(eO _ _ _).1 c;obtain⟨j,rfl⟩:∃j:Nat,t=(j:Int):=⟨t.toNat,by omega⟩
  have z:j<ts.length:=by omega
  have C:=bh z aP;have K:=J rfl;have am:=fg v;have aX:∀y,y∈v.av->wt y<=3000:=λy b=>by have:=e2 b;omega
  have l:∀y,y∈v.ai->wt y<=3000:=λy b=>by have:=e2 b;omega
  have p:∀t y,y∈v.ai->b6 ts true t y->il ts t y/\iE ts t y:=λt y b c=>⟨yY H (r y b) t c (l y b),P y b (r y b) t c (l y b)⟩
  have G:∀t y,y∈v.av->b6 ts true t y->(bA ts t y).length<=3000/\iE ts t y:=λt y b c=>⟨by have:=yY H (B y b) t c (aX y b);unfold il at this;have:=aX y b;omega,Q y b (B y b) t c (aX y b)⟩
  have k:∀t y,y∈v.ai->b6 ts true t y->(bA ts t y).length<=3000/\iE ts t y:=λt y b c=>⟨by have:=(p t y b c).1;unfold il at this;have:=l y b;omega,(p t y b c).2⟩
  have ax:=mV v.av;have aw:=mV v.ai;have an:=adm H D c O E;unfold iE;rw[k9,ad (aN z)];simp only[aT,ak,I.aO];rw[a']at*;rcases L with h|h|h|h|h|h|h|h|h
  . grind
  . grind
  . grind
  . grind
  . obtain⟨a1,a2,a3,a4,a5,d,o,e⟩:=h;obtain⟨g,R⟩:=u.A _ C (.inl (by omega));obtain⟨f1,f2⟩:=h4.1 e;have h0:=Q5 (ts:=ts) (ms:=(ts.getD j aP).ag) (v:=v) g.2 f1 (by omega) r (λi M=>p _ _ (bh (by omega) ar) (f2 i M)) l (ts.getD j aP).ag.length 0 [] (by omega) (by simp);have f:rn ([],(ts.getD j aP).ag,((ts.getD j aP).ag.length:Int),0,ts,v)=_:=h0;rw[ad (jT (by omega)),f];rw[ZO (by rw[a'];omega) K (by rw[a'];exact g),a'];rfl
  . obtain⟨a1,a2,a3,a4,a5,d⟩:=h;obtain⟨g,R⟩:=u.A _ C (.inr (by omega));cases bD:cD (ts.getD j aP).ag v.af with
    |none=>rw[bD]at d;cases d.2.1
    |some m=>
     rw[bD]at d;obtain⟨b1,b2,b3⟩:=d;obtain⟨d3,d4⟩:=j9 bD;obtain⟨q,S,U,W⟩:=EX g (by omega) bD;have N:=g.2 m d3;unfold cr at N;have b:=bh (by omega:0<v.ai.length) ar;obtain⟨z1,z2⟩:=k m.au _ b (cU.1 b3 _ b);unfold iE at z2;obtain⟨n,aD⟩:∃n:Nat,v.af=(n:Int):=⟨v.af.toNat,by omega⟩
     have:=AD (n:=n) (by omega);rw[al (mt gV (by omega)),ad (jT (by omega)),U];simp only[ak];rw[aD,hy,tv];simp only[ak];rw[ad (aN S),ad (by rw[b2];rfl),a',W,show(0:Int).toNat=0 from rfl,z2];simp only[ak];rw[ad (fX),Ay (t:=(j:Int)) (v:=v) (by rw[a'];omega),a',bD,aD,a'];have ah:b7 ts m.au v.ai=[bA ts m.au (v.ai.getD 0 ar)]:=by
      match s:v.ai,b2 with
      |[a],_=>rw[b7,b7];rfl
     grind
  . obtain⟨a1,a2,a3,a4,a5,d,o,e,a9⟩:=h;have h0:=Q6 (ts:=ts) (x:=ts.getD j aP) (v:=v) (by omega) (by omega) (λy b=>k _ y b (cU.1 a9 y b)) v.ai.length 0 [] (by omega) (by simp);have f:k5 ([],v.ai,(v.ai.length:Int),0,ts,v,ts.getD j aP)=_:=h0;rw[al (mt gV (by omega)),al (mt gV (by omega)),al (mt gV (by omega)),ad (jT (by omega)),ad (jT (by omega)),f,Az (by rw[a'];omega),a'];rfl
  . obtain⟨a1,a2,a3,a4,a5,d,o,e,a9,F,X⟩:=h;have h0:=Od (ts:=ts) (x:=ts.getD j aP) (v:=v) (by omega) e (by omega) (λy b=>k _ y b (cU.1 F y b)) (λy b=>G _ y b (cU.1 a9 y b)) v.ai.length 0 [] (by omega) (by simp);have f:k5 ([],v.ai,(v.ai.length:Int),0,ts,v,ts.getD j aP)=_:=h0;rw[al (mt gV (by omega)),al (mt gV (by omega)),al (mt gV (by omega)),al (mt gV (by omega)),ad (jT (by omega)),f,AA (by rw[a'];omega),a'];rfl
  . obtain⟨a1,a2,a3,a4,a5,d,o,e,a9⟩:=h;rw[al (mt gV (by omega)),al (mt gV (by omega)),ad (jT (by omega)),AB (by rw[a'];omega),a']
    match w:v.ai,e with
    |[],_=>
     rw[vr,bq,b7];rfl
    |[a],_=>
     obtain⟨z1,z2⟩:=k (ts.getD j aP).aG a (by rw[w];exact .head _) (cU.1 a9 a (by rw[w];exact .head _));unfold iE at z2;rw[vr,hq,ad (show aH 0 [a].length=true from rfl)];simp only[I.aO];rw[show[a].getD (Int.toNat 0) ar=a from rfl,z2];simp only[aT,ak];rw[ad (fX (by show 1+(bA ts (ts.getD j aP).aG a).length<=_;omega)),show aM .i64 0 1=1 from by decide,vr,al (show ¬decide ((1:Int)<([a].length:Int))=true from by simp),b7,b7];rfl
end
variable{z3:aj}{z1:Bool}
theorem JR{a0 a2 a4 z0 z2 z4:Int}{l l2:List I}{r:List bY}(ae:l.length<=1000000000)(h:∀y,y∈l->j5 y=some y):∀(k i:Nat),i+k=l.length->
 sD ((l.length:Int),(i:Int),a0,a1,a2,a3,a4,z0,z1,z2,z3,z4,l,l2,r)=some (a0,a1,a2,a3,a4,z0,z1,z2,z3,z4,l,l2,r)
 |0,i,a=>by rw[sD,ch]
 |k+1,i,a=>by
  have ay:i<l.length:=by omega
  rw[sD,bu,ad (aN ay),a',bu];simp only[I.aO];rw[h _ (bh ay ar)];simp only[aT,ak,I.aO];rw[ad (aN ay),bu,bC,Df ay];exact JR ae h k (i+1) (by omega)
theorem JS{a0 a2 a4 z0 z2 z4:Int}{l l2:List I}{r:List bY}(ae:l.length<=1000000000)(h:∀y,y∈l->j5 y=some y):∀(k i:Nat),i+k=l.length->
 sE ((l.length:Int),(i:Int),a0,a1,a2,a3,a4,z0,z1,z2,z3,z4,l,l2,r)=some (a0,a1,a2,a3,a4,z0,z1,z2,z3,z4,l2,l,r)
 |0,i,a=>by rw[sE,ch]
 |k+1,i,a=>by
  have ay:i<l.length:=by omega
  rw[sE,bu,ad (aN ay),a',bu];simp only[I.aO];rw[h _ (bh ay ar)];simp only[aT,ak,I.aO];rw[ad (aN ay),bu,bC,Df ay];exact JS ae h k (i+1) (by omega)
theorem ZP(j:bH v):wt v<=1000000000->j5 v=some v:=by
 induction j with
 |mk v hs h1 o p s q t db A B C m k=>
  intro u;have w:=fg v;have x:=mV v.av;have l2:=mV v.ai;have z:=LU v.Rest;have kk:∀y,y∈v.av->j5 y=some y:=λy a=>m y a (by have:=e2 a;omega);have n:∀y,y∈v.ai->j5 y=some y:=λy a=>k y a (by have:=e2 a;omega);have f:fD 120 v.av=some v.av:=by unfold fD;rw[ad (nH (vV))]
  have g:fD 120 v.ai=some v.ai:=by unfold fD;rw[ad (nH (vV))]
  have i:fD 24 v.Rest=some v.Rest:=by unfold fD;rw[ad (nH (vV))]
  have b:=JR (a0:=v.Kind) (a1:=v.bM) (a2:=v.bd) (a3:=v.bl) (a4:=v.af) (z0:=0) (z1:=false) (z2:=0) (z3:=[]) (z4:=0) (l:=v.av) (l2:=v.ai) (r:=v.Rest) (by omega) kk v.av.length 0 (by omega);have d:=JS (a0:=v.Kind) (a1:=v.bM) (a2:=v.bd) (a3:=v.bl) (a4:=v.af) (z0:=0) (z1:=false) (z2:=0) (z3:=[]) (z4:=0) (l:=v.ai) (l2:=v.av) (r:=v.Rest) (by omega) n v.ai.length 0 (by omega);have c:sD ((v.av.length:Int),0,v.Kind,v.bM,v.bd,v.bl,v.af,0,false,0,[],0,v.av,v.ai,v.Rest)=_:=b;have e:sE ((v.ai.length:Int),0,v.Kind,v.bM,v.bd,v.bl,v.af,0,false,0,[],0,v.ai,v.av,v.Rest)=_:=d;rw[j5,f,g,i];simp only[aT,ak];rw[c];simp only[ak];rw[e];simp only[ak];cases v;rfl
theorem Rk(a:path.length<=90000)(mis:aq):sC (tw,tr,mis,path)=some ((⟨0,false,0,[],0,[],[],[]⟩:I),false,tw,tr,path,path):=by
 rw[sC];unfold tp fD;rw[ad (nH (cL (by omega) (by omega)))];simp
theorem Dv(a:path.length<=90000)(id:Int)(mis:aq):vl (id,tw,tr,mis,path)=some ((⟨0,false,0,[],0,[],[],[]⟩:I),false,tw,tr,path,path++[id]):=by
 rw[vl];unfold tp fD;rw[ad (nH (cL (by omega) (by omega)))];simp only[f',aT,ak];rw[hq,ad (cL)]
theorem Dw(ae:x.ag.length<=1000)(id:Int):gN (x,id)=some (lU x.ag id):=by
 obtain⟨r,a,b⟩:=tC (t:=x) (id:=id) (by omega);rw[a,GG b (KS _ _)]
section
variable {tw tr:List ah}
def fA(tw tr:List ah)(mis path:aq):I ⊕ aq->I×Bool×List ah×List ah×aq×aq
 |.inl u=>(u,true,tw,tr,mis,path)
 |.inr p=>(⟨0,false,0,[],0,[],[],[]⟩,false,tw,tr,p,path)
def Ek(tw tr:List ah)(mis path:aq)(acc:List I):List I ⊕ aq->(Bool×List ah×List ah×aq×aq) ⊕ (List ah×List ah×aq×List I×aq)
 |.inl us=>.inr (tw,tr,mis,acc++us,path)
 |.inr p=>.inl (false,tw,tr,p,path)
def oz(tw tr:List ah)(mis path:aq):List I ⊕ aq->List I×Bool×List ah×List ah×aq×aq
 |.inl us=>(us,true,tw,tr,mis,path)
 |.inr p=>([],false,tw,tr,p,path)
def Part(tw tr:List ah)(f:fJ)(path:aq)(t rt:Int)(v:I):Prop:=∀(step:Int) (mis:aq),nV (step,t,v,rt,tw,tr,mis,path)=some (fA tw tr mis path (f t v rt (path++[step])))
theorem Ly{step:Int}{o:I ⊕ aq}(b:path.length<=90000)(h:pL (t,v,rt,tw,tr,mis,path++[step])=some (fA tw tr mis (path++[step]) o)):nV (step,t,v,rt,tw,tr,mis,path)=some (fA tw tr mis path o):=by
 rw[nV];simp only[aT,ak,I.aO];rw[ad (cL),h];have aK:dh .i64 ((path++[step]).length:Int) 1=(path.length:Int):=by rw[hj (by simp<;>omega) (by simp<;>omega)];simp
 have a:dU 0 (path.length:Int) (path++[step]).length=true:=iq.2 (by simp;omega);cases o with
 |inl u=>
  simp only[ak,I.aO,fA];simp_all
 |inr p=>
  simp only[ak,I.aO,fA];simp_all
theorem SY{l:List I}(ae:l.length<=50000)(h:∀y,y∈l->Part tw tr f path t rt y):∀(k i:Nat) (acc:List I) (mis:aq),i+k=l.length->acc.length<=i->
 mq (t,rt,l,(l.length:Int),(i:Int),tw,tr,mis,acc,path)=some (Ek tw tr mis path acc (e0 f path t rt i (l.drop i)))
 |0,i,acc,mis,b,a=>by
  rw[mq,ch,ef (by omega:l.length<=i)];simp[e0,Ek]
 |k+1,i,acc,mis,b,a=>by
  have ay:i<l.length:=by omega
  rw[mq,bu,ad (aN ay),a'];simp only[I.aO];rw[h _ (bh ay ar),ey ay ar,e0];cases f t (l.getD i ar) rt (path++[(i:Int)])with
  |inr p=>rfl
  |inl u=>
   simp only[aT,ak,fA,cW,I.aO];rw[bq,ad (cL),bC,SY ae h k (i+1) _ mis (by omega) (by simp;omega)];cases e0 f path t rt (i+1) (l.drop (i+1))with
   |inr p=>rfl
   |inl us=>simp[Ek,iZ]
theorem yZ{l:List I}(ae:l.length<=50000)(h:∀y,y∈l->Part tw tr f path t rt y)(mis:aq):
 k6 (t,l,rt,tw,tr,mis,path)=some (oz tw tr mis path (e0 f path t rt 0 l)):=by
 have h0:=SY ae h l.length 0 [] mis (by omega) (by simp);have a:mq (t,rt,l,(l.length:Int),0,tw,tr,mis,[],path)=_:=h0;rw[k6,a,fF];cases e0 f path t rt 0 l with
 |inr p=>rfl
 |inl us=>rfl
def uq(tw tr:List ah)(mis path:aq)(x:ah)(v:I)(y:ah)(acc:List I):List I ⊕ aq->(Bool×List ah×List ah×aq×I×aq) ⊕ (List ah×List ah×aq×ah×I×ah×Int×Bool×Int×aj×Int×Int×Bool×Int×aj×Int×aq×List I)
 |.inl us=>.inr (tw,tr,mis,x,v,y,0,false,0,[],0,v.Kind,false,0,[],0,path,acc++us)
 |.inr p=>.inl (false,tw,tr,p,⟨0,false,0,[],0,[],[],[]⟩,path)
theorem Lz(a:path.length<=90000)(r:x.ag.length<=1000)(C:y.ag.length<=1000)(ae:v.ai.length=x.ag.length)(o:∀q,q∈v.ai->bH q)
 (e:∀n,n∈y.ag->n.bW=true->j5 n.bw=some n.bw)
 (h:∀i,i<x.ag.length->∀n,n∈y.ag->Part tw tr f path (x.ag.getD i aC).au n.au (v.ai.getD i ar)/\∀p u,f (x.ag.getD i aC).au (v.ai.getD i ar) n.au p= .inl u->bH u):∀(k j:Nat) (acc:List I) (mis:aq),j+k=y.ag.length->acc.length<=j->
 k3 (y.ag,(y.ag.length:Int),(j:Int),tw,tr,mis,x,v,y,0,false,0,[],0,v.Kind,false,0,[],0,path,acc)=some (uq tw tr mis path x v y acc (jk f x v path (y.ag.drop j)))
 |0,j,acc,mis,A,t=>by
  rw[k3,ch,ef (by omega:y.ag.length<=j)];simp[jk,uq,I.aO]
 |k+1,j,acc,mis,A,t=>by
  have ay:j<y.ag.length:=by omega
  have g:=bh ay aC;have s:=λacc mis=>Lz a r C ae o e h k (j+1) acc mis (by omega);rw[k3,bu,ad (aN ay),a'];simp only[aT,ak,I.aO,iK];rw[Dw r,ey ay aC,jk];unfold wA lU;generalize aD:y.ag.getD j aC=n at*;cases bD:hn x.ag n.af with
  |none=>
   simp only[ak,eG];rw[ad trivial];cases z:n.bW with
   |false=>
    simp only[eG];rw[ad trivial,Dv a];rfl
   |true=>
    simp only[cW];rw[bq,e n g z];simp only[ak];rw[ad (cL),bC,s _ _ (by simp;omega),ad trivial];cases jk f x v path (y.ag.drop (j+1))with
    |inr p=>rfl
    |inl us=>simp[uq,iZ]
  |some i=>
   obtain⟨c,_,_⟩:=ka bD;have d:i<v.ai.length:=(by omega);obtain⟨D,E⟩:=h i c n g;simp only[ak,cW];rw[bq,ad (aN c),ad (aN d),a',D n.af mis];have l:=Dg (m:=x.ag.getD i aC) (o _ (bh d ar));cases w:f (x.ag.getD i aC).au (v.ai.getD i ar) n.au (path++[n.af])with
   |inr p=>
    simp only[ak,fA,I.aO,eG,cW,Bool.and_false];rw[ad (aN c),ad (aN d),l];simp only[ak,bK,bT];rw[Lt];generalize dM (x.ag.getD i aC) (v.ai.getD i ar)=b at*;cases b with
    |false=>rfl
    |true=>
     simp only[dK];rw[ad trivial,Dv a];rfl
   |inl u=>
    have B:=Dg (m:=n) (E _ u w);simp only[ak,fA,I.aO,eG,cW,wo];rw[ad (aN c),ad (aN d),l];simp only[ak,bK,bT];rw[Lu];generalize dM (x.ag.getD i aC) (v.ai.getD i ar)=b at*;have tail:(some [u]>>=λt110=>if room 120 (acc++t110).length then k3 (y.ag,(y.ag.length:Int),aM .i64 (j:Int) 1,tw,tr,mis,x,v,y,0,false,0,[],0,v.Kind,false,0,[],0,path,acc++t110)else none)=some (uq tw tr mis path x v y acc (iZ (.inl u) (jk f x v path (y.ag.drop (j+1))))):=by
     simp only[aT,ak];rw[ad (cL),bC,s _ _ (by simp;omega)];cases jk f x v path (y.ag.drop (j+1))with
     |inr p=>rfl
     |inl us=>simp[uq,iZ]
    cases b with
    |false=>grind
    |true=>
     rw[ad rfl,B];cases F:dM n u with
     |true=>grind
     |false=>
      simp only[ak,dK,dV,eG,and_self,bJ];rw[Dv a];rfl
def AV(tw tr:List ah)(mis path:aq)(v:I)(its:List I)(acc:List bY):List bY ⊕ aq->(Bool×List ah×List ah×I×aq×aq) ⊕ (List ah×List ah×aq×Int×Bool×Int×aj×Int×Int×Bool×Int×aj×Int×aq×List I×List bY)
 |.inl a=>.inr (tw,tr,mis,0,false,0,[],0,v.Kind,false,0,[],0,path,its,acc++a)
 |.inr p=>.inl (false,tw,tr,⟨0,false,0,[],0,[],[],[]⟩,path,p)
theorem LA(f:path.length<=90000)(o:x.ag.length<=1000)(j:y.ag.length<=1000)(ae:v.ai.length=x.ag.length)(g:∀q,q∈v.ai->bH q)
 (h:∀i,i<x.ag.length->iE tw (x.ag.getD i aC).au (v.ai.getD i ar)){its:List I}(mis:aq):∀(k i:Nat) (acc:List bY),i+k=x.ag.length->acc.length<=i->
 kC (x.ag,(x.ag.length:Int),(i:Int),tw,tr,mis,v,y,0,false,0,[],0,v.Kind,false,0,[],0,path,its,acc)=some (AV tw tr mis path v its acc (iA tw y path (x.ag.drop i) (v.ai.drop i)))
 |0,i,acc,m,l=>by
  rw[kC,ch,ef (by omega:x.ag.length<=i),iA]
  . simp[AV]
  grind
 |k+1,i,acc,m,l=>by
  have ay:i<x.ag.length:=by omega
  have c:i<v.ai.length:=by omega
  have d:=λacc=>LA f o j ae g h (its:=its) mis k (i+1) acc (by omega);rw[kC,bu,ad (aN ay),a'];simp only[aT,ak,I.aO,iK];rw[Dw j,ey ay aC,ey c ar,iA];have hs:=vK y.ag (x.ag.getD i aC).af;have n:(lU y.ag (x.ag.getD i aC).af).2=(cD y.ag (x.ag.getD i aC).af).isSome:=by
   rw[<-hs];unfold lU;grind
  simp only[ak];rw[n];by_cases a:(cD y.ag (x.ag.getD i aC).af).isSome=true
  . rw[ad a,ad a,bC,d _ (by omega)]
  rw[al a,al a];by_cases b:(x.ag.getD i aC).cn=true
  . rw[ad b,ad b,Dv f];rfl
  rw[al b,al b,ad (aN c),Dg (g _ (bh c ar))];simp only[ak];cases dM (x.ag.getD i aC) (v.ai.getD i ar)with
  |true=>rw[bq,ad rfl,bC,d _ (by omega)]
  |false=>
   have e:=h i ay;unfold iE at e;rw[ad (show(!false)=true from rfl),al (show ¬false=true by simp),ad (aN c),e];simp only[ak];rw[ad (cL),bC,d _ (by simp;omega)];cases iA tw y path (x.ag.drop (i+1)) (v.ai.drop (i+1))with
   |inr p=>rfl
   |inl us=>simp[AV,iZ]
theorem ZQ(a:path.length<=90000)(l:v.Kind=5)(c:x.ag.length<=1000)(d:y.ag.length<=1000)(ae:v.ai.length=x.ag.length)(b:∀q,q∈v.ai->bH q)
 (j:∀n,n∈y.ag->n.bW=true->j5 n.bw=some n.bw)
 (h:∀i,i<x.ag.length->∀n,n∈y.ag->Part tw tr f path (x.ag.getD i aC).au n.au (v.ai.getD i ar)/\∀p u,f (x.ag.getD i aC).au (v.ai.getD i ar) n.au p= .inl u->bH u)
 (k:∀i,i<x.ag.length->iE tw (x.ag.getD i aC).au (v.ai.getD i ar))(mis:aq):
 sn (x,v,y,tw,tr,mis,path)=some (fA tw tr mis path (wz tw f x y v path)):=by
 have h0:=Lz a c d ae b j h y.ag.length 0 [] mis (by omega) (by simp);have e:k3 (y.ag,(y.ag.length:Int),0,tw,tr,mis,x,v,y,0,false,0,[],0,v.Kind,false,0,[],0,path,[])=_:=h0;rw[sn];simp only[I.aO];rw[e,fF];unfold wz;cases jk f x v path y.ag with
 |inr p=>rfl
 |inl its=>
  have h1:=LA (tr:=tr) a c d ae b k (its:=its) mis x.ag.length 0 [] (by omega) (by simp);have g:kC (x.ag,(x.ag.length:Int),0,tw,tr,mis,v,y,0,false,0,[],0,v.Kind,false,0,[],0,path,its,[])=_:=h1;simp only[aT,ak,uq,fS,I.aO];rw[g,fF,fF];cases iA tw y path x.ag v.ai with
  |inr p=>rfl
  |inl r=>simp only[ak,AV,fS,l,mh,h',fA]
theorem aay(j:path.length<=90000)(g:v.Kind=6)(l:x.ag.length<=1000)(m:y.ag.length<=1000)(h1:v.ai.length=1){i:Nat}(a:hn x.ag v.af=some i)
 (h:∀n,n∈y.ag->Part tw tr f path (x.ag.getD i aC).au n.au (v.ai.getD 0 ar))
 (c:iE tw (x.ag.getD i aC).au (v.ai.getD 0 ar))(mis:aq):
 sw (x,v,y,tw,tr,mis,path)=some (fA tw tr mis path (t' tw f x y v path)):=by
 obtain⟨d,_,_⟩:=ka a;have b:aH 0 v.ai.length=true:=by rw[h1];rfl
 rw[sw,Dw l,Dw m];unfold t' lU;simp only[aT,ak,I.aO,a];cases bD:hn y.ag v.af with
 |some k=>
  obtain⟨e,_,_⟩:=ka bD;simp only;rw[ad trivial,ad (aN d),ad b,ad (aN e),a',a',show(0:Int).toNat=0 from rfl,h _ (bh e aC)];cases f (x.ag.getD i aC).au (v.ai.getD 0 ar) (y.ag.getD k aC).au (path++[v.af])with
  |inr p=>
   simp only[ak,fA,eG,h'];rw[ad trivial]
  |inl u=>
   simp only[ak,fA,cW,h',I.aO,g];rw[bq]
 |none=>
  simp only;rw[bq];cases y.Open with
  |false=>
   simp only[eG];rw[ad trivial,Rk j];simp only[ak,I.aO,bK,bT,fA]
  |true=>
   unfold iE at c;simp only[cW];rw[bq,ad (aN d),ad b,a',show(0:Int).toNat=0 from rfl,c];simp only[ak,bJ,fA,g]
def wZ(tw tr:List ah)(n:Nat):Prop:=∀{v:I},bH v->wt v<=3000->wt v<=n->∀{t rt:Int} {path:aq} (mis:aq),b6 tw true t v->0<=rt->rt<tr.length->path.length+n<=50000->
 pL (t,v,rt,tw,tr,mis,path)=some (fA tw tr mis path (eb tw tr n t v rt path))
theorem aaz(G:di tw)(e:di tr){n:Nat}(ih:wZ tw tr n):wZ tw tr (n+1):=by
 intro v az aV aD t rt path mis J ba S aS;have SW:=G.V.hT G.T;have cx:=e.V.hT e.T;have aW:=fg v;obtain⟨⟨aL,aM,an,ao⟩,U⟩:=(eO _ _ _).1 J;obtain⟨j,rfl⟩:∃j:Nat,t=(j:Int):=⟨t.toNat,by omega⟩
 obtain⟨k,rfl⟩:∃k:Nat,rt=(k:Int):=⟨rt.toNat,by omega⟩
 have Y:j<tw.length:=by omega
 have Z:k<tr.length:=by omega
 have aa:=bh Y aP;have w:=bh Z aP;have aR:=ao rfl;cases az with
 |mk _ hs h1 aO aQ aq B aU db aY aZ a6=>
 rw[pL,ad (aN Y),CU];simp only[aT,ak,a',I.aO];rw[a']at an U;rw[ad (aN Z)];have am:∀q,q∈(tr.getD k aP).ag->q.bW=true->j5 q.bw=some q.bw:=λq a ap=>ZP ((e.T _ w).jd _ a) (by have:=e.W _ w q a ap;omega);generalize aX:tw.getD j aP=x at*;generalize N:tr.getD k aP=y at*;have L:∀y,y∈v.ai->wt y<=3000/\wt y<=n:=λy N=>by have:=e2 N;omega
 have ah:∀y,y∈v.av->wt y<=3000/\wt y<=n:=λy N=>by have:=e2 N;omega
 have K:∀{t rt:Int} {q:I},q∈v.ai->b6 tw true t q->0<=rt->rt<tr.length->Part tw tr (eb tw tr n) path t rt q:=λ{t rt q} a J a0 a1 step mis=>Ly (by omega) (ih (B q a) (L q a).1 (L q a).2 mis J a0 a1 (by simp;omega));have aF:∀{t rt:Int} {q:I},q∈v.av->b6 tw true t q->0<=rt->rt<tr.length->Part tw tr (eb tw tr n) path t rt q:=λ{t rt q} a J a0 a1 step mis=>Ly (by omega) (ih (aq q a) (ah q a).1 (ah q a).2 mis J a0 a1 (by simp;omega));have a8:=mV v.av;have a7:=mV v.ai;have F:=Rk (tw:=tw) (tr:=tr) (path:=path) (by omega) mis;by_cases bI:x.Kind=y.Kind
 . rw[al (show ¬(!(decide (x.Kind=y.Kind)))=true by simp[bI])];have O:∀{t rt:Int},v.ai=[]->k6 (t,v.ai,rt,tw,tr,mis,path)=some ([],true,tw,tr,mis,path):=λ{t rt} he=>by
    have:=yZ (tw:=tw) (tr:=tr) (f:=eb tw tr n) (path:=path) (t:=t) (rt:=rt) (l:=v.ai) (by omega) (λq a=>by rw[he]at a;cases a) mis;rw[this,he];rfl
   rcases U with h|h|h|h|h|h|h|h|h
   . obtain⟨a1,a2,a3,a4,a5,d,C⟩:=h;have b:x.Kind=1:=(by omega);have ae:jB x y v:=⟨λh=>by omega,λh=>by omega,λh=>by omega⟩
     rw[qA bI (by omega) ae];simp only[b];simp only[O d,ak,cZ,bK,bT,Int.reduceEq,cW,fA];cases v;simp_all
   . obtain⟨a1,a2,a3,a4,a5,d,C,D,a9⟩:=h;have b:x.Kind=2:=(by omega);by_cases ae:y.bB<=v.bd/\v.bd<=y.bF
     . rw[qA bI (by omega) (show jB x y v from⟨λ_=>ae,λh=>by omega,λh=>by omega⟩)];simp only[b];simp only[O d,ae.1,ae.2,ak,cZ,c9,bK,bT,bJ,Int.reduceEq,cW,dK,fA];cases v;simp_all
     . rw[vW bI (by omega) (show ¬jB x y v fromλh=>ae (h.1 b))];have H:(bif decide (y.bB<=v.bd)then decide (v.bd<=y.bF)else false)=false:=by
        by_cases c:y.bB<=v.bd<;>simp[c];omega
       simp only[b,H];simp only[F,ak,c9,bJ,eG,fA,I.aO]
   . obtain⟨a1,a2,a3,a4,a5,d,C,D⟩:=h;have b:x.Kind=3:=(by omega);by_cases ae:(v.bl.length:Int)<=y.Max
     . rw[qA bI (by omega) (show jB x y v from⟨λh=>by omega,λ_=>ae,λh=>by omega⟩)];simp only[b];simp only[O d,ae,ak,cZ,c9,bK,bT,bJ,Int.reduceEq,cW,dK,fA];cases v;simp_all
     . rw[vW bI (by omega) (show ¬jB x y v fromλh=>ae (h.2.1 b))];simp only[b];simp only[F,ae,ak,c9,cZ,bJ,bT,Int.reduceEq,bK,eG,fA,I.aO]
   . obtain⟨a1,a2,a3,a4,a5,d,C,D⟩:=h;have b:x.Kind=4:=(by omega);obtain⟨r,S,_,aI⟩:=pr (t:=y) v.af (by have:=(e.T _ w).1;have:=dy (ea reachBytes);omega);have E:r.2=true↔∃s,s∈y.bg/\s.af=v.af:=by
      rcases aI with⟨q,g,R,_,rfl⟩|⟨q,rfl⟩
      . exact⟨λ_=>⟨_,bh g dN,R⟩,λ_=>rfl⟩
      . constructor
        . intro h;simp at h
        intro a;obtain⟨s,s1,aJ⟩:=a;obtain⟨i,B,rfl⟩:=eS s1;exact absurd aJ (by have:=q i B;rwa [dc B]at this)
     by_cases ae:(∃s,s∈y.bg/\s.af=v.af)\/y.Open=true
     . rw[qA bI (by omega) (show jB x y v from⟨λh=>by omega,λh=>by omega,λ_=>ae⟩)];have H:(bif r.2 then true else y.Open)=true:=by
        rcases ae with ae|ae
        . rw[E.2 ae];rfl
        . rw[ae];cases r.2<;>rfl
       simp only[b,S];simp only[O d,H,ak,cZ,c9,bK,bT,bJ,Int.reduceEq,cW,fA];cases v;simp_all
     . rw[vW bI (by omega) (show ¬jB x y v fromλh=>ae (h.2.2 b))];have H:(bif r.2 then true else y.Open)=false:=by
        cases ax:r.2 with
        |true=>exact absurd (.inl (E.1 ax)) ae
        |false=>
         cases au:y.Open with
         |true=>exact absurd (.inr au) ae
         |false=>rfl
       simp only[b,S];simp only[F,H,ak,c9,cZ,bJ,bT,Int.reduceEq,bK,eG,fA,I.aO]
   . obtain⟨a1,a2,a3,a4,a5,d,C,D⟩:=h;have b:x.Kind=5:=(by omega);obtain⟨ab,aA⟩:=SW.A _ aa (.inl (by omega));obtain⟨aB,aE⟩:=cx.A _ w (.inl (by omega));obtain⟨f1,f2⟩:=h4.1 D
     have E:=ZQ (tw:=tw) (tr:=tr) (f:=eb tw tr n) (path:=path) (by omega) (x:=x) (y:=y) a1 (by omega) (by omega) f1 B am (λi M q a=>by
      have o:=bh (by omega:i<v.ai.length) ar;obtain⟨z,g⟩:=e.gG.mem w a;exact⟨K o (f2 i M) z g,λp u ay=>(KV G e n (B _ o) (L _ o).1 (f2 i M) z g ay).1⟩) (λi M=>by
      have o:=bh (by omega:i<v.ai.length) ar
      exact Oe G (B _ o) _ (f2 i M) (L _ o).1) mis
     rw[Rt bI b];simp only[b,E,ak,cZ,c9,bK,bT,bJ,Int.reduceEq,I.aO]
   . obtain⟨a1,a2,a3,a4,a5,d⟩:=h;have b:x.Kind=6:=(by omega);obtain⟨ab,aA⟩:=SW.A _ aa (.inr (by omega));obtain⟨aB,aE⟩:=cx.A _ w (.inr (by omega));cases bD:cD x.ag v.af with
     |none=>rw[bD]at d;cases d.2.1
     |some m=>
      rw[bD]at d;obtain⟨b1,b2,b3⟩:=d;have Q:=vK x.ag v.af;rw[bD]at Q;cases P:hn x.ag v.af with
      |none=>rw[P]at Q;cases Q
      |some i=>
      obtain⟨d1,d2,_⟩:=ka P;obtain⟨d3,d4⟩:=j9 bD;have em:x.ag.getD i aC=m:=qz ab (bh d1 aC) d3 (by rw[d2,d4]);have o:=bh (by omega:0<v.ai.length) ar;have X:=cU.1 b3 _ o
      have E:=aay (tw:=tw) (tr:=tr) (f:=eb tw tr n) (path:=path) (by omega) (x:=x) (y:=y) a1 (by omega) (by omega) b2 P (λq a=>by
       obtain⟨z,g⟩:=e.gG.mem w a;rw[em]
       exact K o X z g) (by rw[em];exact Oe G (B _ o) _ X (L _ o).1) mis
      rw[Ru bI b];simp only[b,E,ak,cZ,c9,bK,bT,bJ,Int.reduceEq,I.aO]
   . obtain⟨a1,a2,a3,a4,a5,d,C,D,a9⟩:=h;have b:x.Kind=7:=(by omega);obtain⟨z,g⟩:=e.gG.elem w (by omega);have a:=yZ (tw:=tw) (tr:=tr) (f:=eb tw tr n) (path:=path) (t:=x.aG) (rt:=y.aG) (l:=v.ai) (by omega) (λq a=>K a (cU.1 a9 q a) z g) mis;rw[Rv bI b];unfold Ae;by_cases ae:(v.ai.length:Int)<=y.Max
     . rw[ad ae];simp only[b,a,ae,ak,cZ,c9,bK,bT,bJ,Int.reduceEq,cW];cases e0 (eb tw tr n) path x.aG y.aG 0 v.ai with
       |inr p=>rfl
       |inl us=>simp only[oz,h',fA,cW,bK,bT,a1,a2,a3,a4,a5]
     . rw[al ae];simp only[b];simp only[F,ae,ak,c9,cZ,bJ,bT,Int.reduceEq,bK,eG,fA,I.aO]
   . obtain⟨a1,a2,a3,a4,a5,d,C,D,a9,aj,aK⟩:=h;have b:x.Kind=8:=(by omega);obtain⟨z,g⟩:=e.gG.elem w (by omega);obtain⟨R,aH⟩:=e.gG.key w (by omega);have a:=yZ (tw:=tw) (tr:=tr) (f:=eb tw tr n) (path:=path) (t:=x.aG) (rt:=y.aG) (l:=v.ai) (by omega) (λq a=>K a (cU.1 aj q a) z g) mis;have aw:=yZ (tw:=tw) (tr:=tr) (f:=eb tw tr n) (path:=path) (t:=x.Key) (rt:=y.Key) (l:=v.av) (by omega) (λq a=>aF a (cU.1 a9 q a) R aH) mis;rw[Rw bI b];unfold Af;by_cases ae:(v.ai.length:Int)<=y.Max
     . rw[ad ae];simp only[b,aw,ae,ak,cZ,c9,bK,bT,bJ,Int.reduceEq,cW];cases e0 (eb tw tr n) path x.Key y.Key 0 v.av with
       |inr p=>rfl
       |inl ks=>
        simp only[oz,mh,cW,bK,bT,a,ak];cases e0 (eb tw tr n) path x.aG y.aG 0 v.ai with
        |inr p=>rfl
        |inl us=>simp only[oz,h',fA,cW,bK,bT,a1,a2,a3,a4,a5]
     . rw[al ae];simp only[b];simp only[F,ae,ak,c9,cZ,bJ,bT,Int.reduceEq,bK,eG,fA,I.aO]
   . obtain⟨a1,a2,a3,a4,a5,d,C,D,a9⟩:=h;have b:x.Kind=9:=(by omega);obtain⟨z,g⟩:=e.gG.elem w (by omega);have a:=yZ (tw:=tw) (tr:=tr) (f:=eb tw tr n) (path:=path) (t:=x.aG) (rt:=y.aG) (l:=v.ai) (by omega) (λq a=>K a (cU.1 a9 q a) z g) mis;rw[Rx bI b];unfold Ag;simp only[b,a,ak,cZ,c9,bK,bT,bJ,Int.reduceEq,cW];cases e0 (eb tw tr n) path x.aG y.aG 0 v.ai with
     |inr p=>rfl
     |inl us=>simp only[oz,h',fA,cW,bK,bT,a1,a2,a3,a4,a5]
 . rw[ad (show(!(decide (x.Kind=y.Kind)))=true by simp[bI]),Oc bI,F];simp only[ak,I.aO,fA]
theorem aaA:wZ tw tr 0:=by
 unfold wZ;intro v _ _ aD;have:=Om v;omega
theorem IE(b:di tw)(a:di tr):∀n,wZ tw tr n
 |0=>aaA
 |n+1=>aaz b a (IE b a n)
end
def hA:I ⊕ aq->dJ
 |.inl u=>⟨u,[],true⟩
 |.inr p=>⟨⟨0,false,0,[],0,[],[],[]⟩,p,false⟩
theorem Cm(a:path.length<=90000):k4 path=some (hA (.inr path)):=by
 rw[k4,ad (cL),fS];rfl
theorem Ac(a:path.length<=90000)(step:Int):tA (path,step)=some (path++[step]):=by
 rw[tA,ad (cL),fS];simp only[aT,ak];rw[ad (cL)]
theorem Fw{m:aU}(b:bH m.bw)(v:I):yy (m,v)=some (dM m v):=by
 rw[yy];simp only[I.aO];unfold dM;cases d:m.bW with
 |false=>rfl
 |true=>
  obtain⟨r,c,a⟩:=abf b v;rw[ad rfl,c];by_cases e:m.bw=v
  . have:=a.2 e;subst this;simp[e]
  . have:r=false:=by
     cases r with
     |false=>rfl
     |true=>exact absurd (a.1 rfl) e
    subst this;simp[e]
theorem Dx(ae:x.ag.length<=1000)(id:Int):hC (x,id)=some (lU x.ag id):=by
 obtain⟨r,a,b⟩:=Cf (t:=x) (id:=id) (by omega);rw[a,GG b (KS _ _)]
section
variable {tw tr:List ah}
def oA(tw tr:List ah)(f:fJ)(path:aq)(t rt:Int)(v:I):Prop:=∀step:Int,qG ((⟨tw⟩:aQ),t,v,(⟨tr⟩:aQ),rt,path++[step])=some (hA (f t v rt (path++[step])))
def AU(tw tr:List ah)(path:aq)(x y:ah)(v:I)(acc:List I):List I ⊕ aq->dJ ⊕ (aq×List ah×I×List ah×Int×Bool×Int×aj×Int×Bool×ah×ah×Int×Bool×Int×aj×Int×List bY×List I)
 |.inl us=>.inr (path,tw,v,tr,0,false,0,[],0,false,x,y,v.Kind,v.bM,v.bd,v.bl,v.af,v.Rest,acc++us)
 |.inr p=>.inl (hA (.inr p))
theorem MU(a:path.length<=90000)(ae:v.av.length<=50000)(h:∀q,q∈v.av->oA tw tr f path x.Key y.Key q):∀(k i:Nat) (acc:List I),i+k=v.av.length->acc.length<=i->
 oY (path,(i:Int),tw,v,tr,0,false,0,[],0,false,x,y,v.Kind,v.bM,v.bd,v.bl,v.af,v.Rest,acc)=some (AU tw tr path x y v acc (e0 f path x.Key y.Key i (v.av.drop i)))
 |0,i,acc,c,b=>by
  rw[oY,ch,ef (by omega:v.av.length<=i)];simp[e0,AU,I.aO]
 |k+1,i,acc,c,b=>by
  have ay:i<v.av.length:=by omega
  rw[oY,bu,ad (aN ay),a',Ac a];simp only[I.aO,aT,ak];rw[h _ (bh ay ar),ey ay ar,e0];cases f x.Key (v.av.getD i ar) y.Key (path++[(i:Int)])with
  |inr p=>rfl
  |inl u=>
   simp only[ak,hA,cW];rw[bq,ad (cL),bC,MU a ae h k (i+1) _ (by omega) (by simp;omega)];cases e0 f path x.Key y.Key (i+1) (v.av.drop (i+1))with
   |inr p=>rfl
   |inl us=>simp[AU,iZ]
def AT(v:I)(ks acc:List I):List I ⊕ aq->dJ ⊕ (Int×Bool×Int×aj×Int×Bool×Int×Bool×Int×aj×Int×List bY×List I×List I)
 |.inl us=>.inr (0,false,0,[],0,false,v.Kind,v.bM,v.bd,v.bl,v.af,v.Rest,ks,acc++us)
 |.inr p=>.inl (hA (.inr p))
theorem KW(a:path.length<=90000)(ae:v.ai.length<=50000)(h:∀q,q∈v.ai->oA tw tr f path x.aG y.aG q):∀(k i:Nat) (acc:List I),i+k=v.ai.length->acc.length<=i->
 oZ (path,(i:Int),tw,v,tr,0,false,0,[],0,false,x,y,v.Kind,v.bM,v.bd,v.bl,v.af,v.Rest,ks,acc)=some (AT v ks acc (e0 f path x.aG y.aG i (v.ai.drop i)))
 |0,i,acc,c,b=>by
  rw[oZ,ch,ef (by omega:v.ai.length<=i)];simp[e0,AT]
 |k+1,i,acc,c,b=>by
  have ay:i<v.ai.length:=by omega
  rw[oZ,bu,ad (aN ay),a',Ac a];simp only[I.aO,aT,ak];rw[h _ (bh ay ar),ey ay ar,e0];cases f x.aG (v.ai.getD i ar) y.aG (path++[(i:Int)])with
  |inr p=>rfl
  |inl u=>
   simp only[ak,hA,cW];rw[bq,ad (cL),bC,KW a ae h k (i+1) _ (by omega) (by simp;omega)];cases e0 f path x.aG y.aG (i+1) (v.ai.drop (i+1))with
   |inr p=>rfl
   |inl us=>simp[AT,iZ]
def l8(f:fJ)(x y:ah)(v:I)(path:aq):I ⊕ aq:=
 mh (λks=>h' (λa=>⟨v.Kind,v.bM,v.bd,v.bl,v.af,ks,a,v.Rest⟩) (e0 f path x.aG y.aG 0 v.ai)) (e0 f path x.Key y.Key 0 v.av)
theorem s5(a:path.length<=90000)(e:v.av.length<=50000)(ae:v.ai.length<=50000)(d:∀q,q∈v.av->oA tw tr f path x.Key y.Key q)(h:∀q,q∈v.ai->oA tw tr f path x.aG y.aG q):
 (∃p,l8 f x y v path= .inr p/\oY (path,0,tw,v,tr,0,false,0,[],0,false,x,y,v.Kind,v.bM,v.bd,v.bl,v.af,v.Rest,[])=some (.inl (hA (.inr p))))\/
 ∃ks,oY (path,0,tw,v,tr,0,false,0,[],0,false,x,y,v.Kind,v.bM,v.bd,v.bl,v.af,v.Rest,[])=some (.inr (path,tw,v,tr,0,false,0,[],0,false,x,y,v.Kind,v.bM,v.bd,v.bl,v.af,v.Rest,ks))/\
  ((∃p,l8 f x y v path= .inr p/\oZ (path,0,tw,v,tr,0,false,0,[],0,false,x,y,v.Kind,v.bM,v.bd,v.bl,v.af,v.Rest,ks,[])=some (.inl (hA (.inr p))))\/
  ∃us,l8 f x y v path= .inl ⟨v.Kind,v.bM,v.bd,v.bl,v.af,ks,us,v.Rest⟩/\oZ (path,0,tw,v,tr,0,false,0,[],0,false,x,y,v.Kind,v.bM,v.bd,v.bl,v.af,v.Rest,ks,[])=some (.inr (0,false,0,[],0,false,v.Kind,v.bM,v.bd,v.bl,v.af,v.Rest,ks,us))):=by
 have h0:=MU a e d v.av.length 0 [] (by omega) (by simp);have b:oY (path,0,tw,v,tr,0,false,0,[],0,false,x,y,v.Kind,v.bM,v.bd,v.bl,v.af,v.Rest,[])=_:=h0;rw[b,fF];unfold l8;cases e0 f path x.Key y.Key 0 v.av with
 |inr p=>exact .inl ⟨p,rfl,rfl⟩
 |inl ks=>
  have h1:=KW (tw:=tw) (tr:=tr) a ae h (ks:=ks) v.ai.length 0 [] (by omega) (by simp);have c:oZ (path,0,tw,v,tr,0,false,0,[],0,false,x,y,v.Kind,v.bM,v.bd,v.bl,v.af,v.Rest,ks,[])=_:=h1;refine .inr ⟨ks,by simp[AU],?_⟩;rw[c,fF];cases e0 f path x.aG y.aG 0 v.ai with
  |inr p=>exact .inl ⟨p,rfl,rfl⟩
  |inl us=>exact .inr ⟨us,rfl,by simp[AT]⟩
def ur(tw:List ah)(path:aq)(x y:ah)(v:I)(acc:List I):List I ⊕ aq->dJ ⊕ (aq×List ah×ah×I×ah×Int×Bool×Int×aj×Int×Bool×Int×Bool×Int×aj×Int×List I)
 |.inl us=>.inr (path,tw,x,v,y,0,false,0,[],0,false,v.Kind,false,0,[],0,acc++us)
 |.inr p=>.inl (hA (.inr p))
theorem MV{path:aq}(t:path.length<=80000)(m:x.ag.length<=1000)(z:y.ag.length<=1000)(ae:v.ai.length=x.ag.length)
 (d:∀n,n∈x.ag->bH n.bw)(e:∀n,n∈y.ag->bH n.bw)
 (h:∀i,i<x.ag.length->∀n,n∈y.ag->oA tw tr f path (x.ag.getD i aC).au n.au (v.ai.getD i ar)):∀(k j:Nat) (acc:List I),j+k=y.ag.length->acc.length<=j->
 rb (path,(j:Int),tw,x,v,tr,y,0,false,0,[],0,false,v.Kind,false,0,[],0,acc)=some (ur tw path x y v acc (jk f x v path (y.ag.drop j)))
 |0,j,acc,s,q=>by
  rw[rb,ch,ef (by omega:y.ag.length<=j)];simp[jk,ur,I.aO]
 |k+1,j,acc,s,q=>by
  have ay:j<y.ag.length:=by omega
  have g:=bh ay aC;have o:=λacc=>MV t m z ae d e h k (j+1) acc (by omega);rw[rb,bu,ad (aN ay),a'];simp only[aT,ak,I.aO,iK];rw[Ac (by omega),Dx m,ey ay aC,jk];unfold wA lU;have r:=e _ g;generalize aD:y.ag.getD j aC=n at*;have M:=Cm (path:=path++[n.af]) (by simp;omega);cases bD:hn x.ag n.af with
  |none=>
   simp only[ak,eG,dK];cases D:n.bW with
   |false=>
    rw[ad (show(!false)=true from rfl),M,al (show ¬false=true by simp)];rfl
   |true=>
    rw[al (show ¬(!true)=true by simp),ad trivial,ad (cL),bC,o _ (by simp;omega),ad (show true=true from rfl)];cases jk f x v path (y.ag.drop (j+1))with
    |inr p=>rfl
    |inl us=>simp[ur,iZ]
  |some i=>
   obtain⟨a,_,_⟩:=ka bD;have c:i<v.ai.length:=(by omega);have A:=h i a n g;simp only[ak,cW,dV];rw[bq,bq,ad (aN a),ad (aN c),a',A n.af];have l:=Fw (d _ (bh a aC)) (v.ai.getD i ar);cases C:f (x.ag.getD i aC).au (v.ai.getD i ar) n.au (path++[n.af])with
   |inr p=>
    simp only[ak,hA,I.aO,eG,cW,Bool.and_false];rw[ad (aN a),ad (aN c),l];simp only[ak,bK,bT];rw[Lt];generalize dM (x.ag.getD i aC) (v.ai.getD i ar)=b at*;cases b with
    |false=>rfl
    |true=>
     simp only[dK];rw[ad trivial,M];rfl
   |inl u=>
    have w:=Fw r u;simp only[ak,hA,I.aO,eG,cW,wo];rw[ad (aN a),ad (aN c),l];simp only[ak,bK,bT];rw[Lu];generalize dM (x.ag.getD i aC) (v.ai.getD i ar)=b at*;have tail:(some [u]>>=λt110=>if room 120 (acc++t110).length then rb (path,aM .i64 (j:Int) 1,tw,x,v,tr,y,0,false,0,[],0,false,v.Kind,false,0,[],0,acc++t110)else none)=some (ur tw path x y v acc (iZ (.inl u) (jk f x v path (y.ag.drop (j+1))))):=by
     simp only[aT,ak];rw[ad (cL),bC,o _ (by simp;omega)];cases jk f x v path (y.ag.drop (j+1))with
     |inr p=>rfl
     |inl us=>simp[ur,iZ]
    cases b with
    |false=>
     simp only[bK,bT,ak,dV,false_and];exact tail
    |true=>
     rw[ad rfl,w];cases B:dM n u with
     |true=>
      simp only[bK,bT,ak,dV,dK,cW,kj,Bool.true_eq_false];exact tail
     |false=>
      simp only[ak,dK,dV,eG,and_self,bJ];rw[M];rfl
def AW(v:I)(its:List I)(acc:List bY):List bY ⊕ aq->dJ ⊕ (Int×Bool×Int×aj×Int×Bool×Int×Bool×Int×aj×Int×List I×List bY)
 |.inl a=>.inr (0,false,0,[],0,false,v.Kind,false,0,[],0,its,acc++a)
 |.inr p=>.inl (hA (.inr p))
theorem MW(o:path.length<=80000)(q:x.ag.length<=1000)(g:y.ag.length<=1000)(ae:v.ai.length=x.ag.length)(e:∀n,n∈x.ag->bH n.bw)
 (h:∀i,i<x.ag.length->iS tw (v.ai.getD i ar) (x.ag.getD i aC).au){its:List I}:∀(k i:Nat) (acc:List bY),i+k=x.ag.length->acc.length<=i->
 ra (path,(i:Int),tw,x,v,y,0,false,0,[],0,false,v.Kind,false,0,[],0,its,acc)=some (AW v its acc (iA tw y path (x.ag.drop i) (v.ai.drop i)))
 |0,i,acc,l,j=>by
  rw[ra,ch,ef (by omega:x.ag.length<=i),iA]
  . simp[AW]
  . intros;simp_all
 |k+1,i,acc,l,j=>by
  have ay:i<x.ag.length:=by omega
  have c:i<v.ai.length:=by omega
  have d:=λacc=>MW o q g ae e h (its:=its) k (i+1) acc (by omega);rw[ra,bu,ad (aN ay),a'];simp only[aT,ak,I.aO,iK];rw[Dx g,ey ay aC,ey c ar,iA];have hs:=vK y.ag (x.ag.getD i aC).af;have m:(lU y.ag (x.ag.getD i aC).af).2=(cD y.ag (x.ag.getD i aC).af).isSome:=by
   rw[<-hs];unfold lU;cases hn y.ag (x.ag.getD i aC).af<;>rfl
  simp only[ak];rw[m];by_cases a:(cD y.ag (x.ag.getD i aC).af).isSome=true
  . rw[ad a,ad a,bC,d _ (by omega)]
  rw[al a,al a];by_cases b:(x.ag.getD i aC).cn=true
  . rw[ad b,ad b,Ac (by omega)];simp only[ak];rw[Cm (by simp;omega)];rfl
  rw[al b,al b,ad (aN c),Fw (e _ (bh ay aC))];simp only[ak];cases dM (x.ag.getD i aC) (v.ai.getD i ar)with
  |true=>
   rw[bq,ad rfl,bC,d _ (by omega)]
  |false=>
   have f:=h i ay;unfold iS at f;rw[ad (show(!false)=true from rfl),al (show ¬false=true by simp),ad (aN c),f];simp only[ak];rw[ad (cL),bC,d _ (by simp;omega)];cases iA tw y path (x.ag.drop (i+1)) (v.ai.drop (i+1))with
   |inr p=>rfl
   |inl us=>simp[AW,iZ]
theorem ZR(b:path.length<=80000)(l:v.Kind=5)(c:x.ag.length<=1000)(d:y.ag.length<=1000)(ae:v.ai.length=x.ag.length)
 (a:∀n,n∈x.ag->bH n.bw)(e:∀n,n∈y.ag->bH n.bw)
 (h:∀i,i<x.ag.length->∀n,n∈y.ag->oA tw tr f path (x.ag.getD i aC).au n.au (v.ai.getD i ar))
 (k:∀i,i<x.ag.length->iS tw (v.ai.getD i ar) (x.ag.getD i aC).au):
 B4 ((⟨tw⟩:aQ),x,v,(⟨tr⟩:aQ),y,path)=some (hA (wz tw f x y v path)):=by
 have h0:=MV b c d ae a e h y.ag.length 0 [] (by omega) (by simp);have g:rb (path,0,tw,x,v,tr,y,0,false,0,[],0,false,v.Kind,false,0,[],0,[])=_:=h0;rw[B4];simp only[I.aO];rw[g,fF];unfold wz;cases jk f x v path y.ag with
 |inr p=>rfl
 |inl its=>
  have h1:=MW (tw:=tw) b c d ae a k (its:=its) x.ag.length 0 [] (by omega) (by simp);have j:ra (path,0,tw,x,v,y,0,false,0,[],0,false,v.Kind,false,0,[],0,its,[])=_:=h1;simp only[aT,ak,ur,fS,I.aO];rw[j,fF,fF];cases iA tw y path x.ag v.ai with
  |inr p=>rfl
  |inl r=>simp only[ak,AW,fS,l,mh,h',hA,pM,I.aO]
theorem aaB(m:path.length<=80000)(g:v.Kind=6)(j:x.ag.length<=1000)(l:y.ag.length<=1000)(h1:v.ai.length=1){i:Nat}(a:hn x.ag v.af=some i)
 (h:∀n,n∈y.ag->oA tw tr f path (x.ag.getD i aC).au n.au (v.ai.getD 0 ar))
 (c:iS tw (v.ai.getD 0 ar) (x.ag.getD i aC).au):
 B8 ((⟨tw⟩:aQ),x,v,(⟨tr⟩:aQ),y,path)=some (hA (t' tw f x y v path)):=by
 obtain⟨d,_,_⟩:=ka a;have b:aH 0 v.ai.length=true:=by rw[h1];rfl
 rw[B8,Dx j,Dx l];unfold t' lU;simp only[aT,ak,I.aO,a];cases bD:hn y.ag v.af with
 |some k=>
  obtain⟨e,_,_⟩:=ka bD;simp only[cW,dV];rw[bq,bq,ad (aN d),ad b,ad (aN e),a',a',show(0:Int).toNat=0 from rfl,Ac (by omega)];simp only[ak];rw[h _ (bh e aC)];cases f (x.ag.getD i aC).au (v.ai.getD 0 ar) (y.ag.getD k aC).au (path++[v.af])with
  |inr p=>
   simp only[ak,hA,eG,h',I.aO];rw[ad trivial]
  |inl u=>
   simp only[ak,hA,cW,h',I.aO,g,pM];rw[bq]
 |none=>
  simp only[eG,dK];cases y.Open with
  |false=>
   rw[ad (show(!false)=true from rfl),Cm (by omega)];simp only[ak,I.aO,bK,bT,hA]
  |true=>
   unfold iS at c;rw[al (show ¬(!true)=true by simp),ad trivial,ad (aN d),ad b,a',show(0:Int).toNat=0 from rfl,c];simp only[ak,bJ,hA,g,pM,I.aO]
def w0(tw tr:List ah)(n:Nat):Prop:=∀{v:I},bH v->wt v<=3000->wt v<=n->∀{t rt:Int} {path:aq},b6 tw true t v->0<=rt->rt<tr.length->path.length+n<=50000->
 qG ((⟨tw⟩:aQ),t,v,(⟨tr⟩:aQ),rt,path)=some (hA (eb tw tr n t v rt path))
theorem ZS(P:di tw)(o:di tr){n:Nat}(ih:w0 tw tr n):w0 tw tr (n+1):=by
 intro v aB aY aD t rt path K be Y aW;have SW:=P.V.hT P.T;have cx:=o.V.hT o.T;have aZ:=fg v;obtain⟨⟨aQ,aR,aw,ax⟩,Z⟩:=(eO _ _ _).1 K;obtain⟨j,rfl⟩:∃j:Nat,t=(j:Int):=⟨t.toNat,by omega⟩
 obtain⟨k,rfl⟩:∃k:Nat,rt=(k:Int):=⟨rt.toNat,by omega⟩
 have ab:j<tw.length:=by omega
 have ah:k<tr.length:=by omega
 have S:=bh ab aP;have u:=bh ah aP;have aV:=ax rfl;cases aB with
 |mk _ hs h1 aS aU ay G aX db a7 a8 ba=>
 rw[qG,ad (aN ab),CU];simp only[aT,ak,a',I.aO];rw[a']at aw Z;rw[ad (aN ah)];have aq:=(P.T _ S).jd;have au:=(o.T _ u).jd;generalize a6:tw.getD j aP=x at*;generalize M:tr.getD k aP=y at*;have O:∀y,y∈v.ai->wt y<=3000/\wt y<=n:=λy M=>by have:=e2 M;omega
 have am:∀y,y∈v.av->wt y<=3000/\wt y<=n:=λy M=>by have:=e2 M;omega
 have L:∀{t rt:Int} {q:I},q∈v.ai->b6 tw true t q->0<=rt->rt<tr.length->oA tw tr (eb tw tr n) path t rt q:=λ{t rt q} a K a0 a1 step=>ih (G q a) (O q a).1 (O q a).2 K a0 a1 (by simp;omega);have aI:∀{t rt:Int} {q:I},q∈v.av->b6 tw true t q->0<=rt->rt<tr.length->oA tw tr (eb tw tr n) path t rt q:=λ{t rt q} a K a0 a1 step=>ih (ay q a) (am q a).1 (am q a).2 K a0 a1 (by simp;omega);have bc:=mV v.av;have bb:=mV v.ai;have F:=Cm (path:=path) (by omega);have E:(k4 path).bind (λr=>some (⟨r.Value,r.Path,r.cj⟩:dJ))=some (hA (.inr path)):=by rw[F];rfl
 by_cases bI:x.Kind=y.Kind
 . rw[al (show ¬(!(decide (x.Kind=y.Kind)))=true by simp[bI])];have N:v.av=[]->v.ai=[]->l8 (eb tw tr n) x y v path= .inl v:=λaK J=>by
    unfold l8;cases v;simp_all [e0,mh,h']
   rcases Z with h|h|h|h|h|h|h|h|h
   case' inl=>
    obtain⟨a1,a2,a3,a4,a5,d,w⟩:=h;have b:x.Kind=1:=(by omega);have ae:jB x y v:=⟨λh=>by omega,λh=>by omega,λh=>by omega⟩
    have D:=s5 (tw:=tw) (tr:=tr) (f:=eb tw tr n) (path:=path) (by omega) (x:=x) (y:=y) (v:=v) (by omega) (by omega) (λq a=>by rw[a5]at a;cases a) (λq a=>by rw[d]at a;cases a);rw[qA bI (by omega) ae,<-N a5 d];simp only[b,Int.reduceEq,cZ,c9,dV,dK,bK,bT,bJ]
   case' inr.inl=>
    obtain⟨a1,a2,a3,a4,a5,d,w,C,a9⟩:=h;have b:x.Kind=2:=(by omega);by_cases ae:y.bB<=v.bd/\v.bd<=y.bF
    case' neg=>
     have g:(bif decide (v.bd<y.bB)then true else decide (y.bF<v.bd))=true:=by
      by_cases c:v.bd<y.bB<;>simp[c];omega
     rw[vW bI (by omega) (show ¬jB x y v fromλh=>ae (h.1 b))];simp only[b,g,Int.reduceEq,cZ,c9,dV,dK,bK,bT,bJ];exact E
    case' pos=>
     have g:(bif decide (v.bd<y.bB)then true else decide (y.bF<v.bd))=false:=by
      have ao:¬v.bd<y.bB:=(by omega);have ap:¬y.bF<v.bd:=(by omega);simp[ao,ap]
     have D:=s5 (tw:=tw) (tr:=tr) (f:=eb tw tr n) (path:=path) (by omega) (x:=x) (y:=y) (v:=v) (by omega) (by omega) (λq a=>by rw[a5]at a;cases a) (λq a=>by rw[d]at a;cases a);rw[qA bI (by omega) (show jB x y v from⟨λ_=>ae,λh=>by omega,λh=>by omega⟩),<-N a5 d];simp only[b,g,Int.reduceEq,cZ,c9,dV,dK,bK,bT,bJ]
   case' inr.inr.inl=>
    obtain⟨a1,a2,a3,a4,a5,d,w,C⟩:=h;have b:x.Kind=3:=(by omega);by_cases ae:(v.bl.length:Int)<=y.Max
    case' neg=>
     have g:decide (y.Max<(v.bl.length:Int))=true:=jT (by omega);rw[vW bI (by omega) (show ¬jB x y v fromλh=>ae (h.2.1 b))];simp only[b,g,Int.reduceEq,cZ,c9,dV,dK,bK,bT,bJ];exact E
    case' pos=>
     have g:decide (y.Max<(v.bl.length:Int))=false:=tR (by omega);have D:=s5 (tw:=tw) (tr:=tr) (f:=eb tw tr n) (path:=path) (by omega) (x:=x) (y:=y) (v:=v) (by omega) (by omega) (λq a=>by rw[a5]at a;cases a) (λq a=>by rw[d]at a;cases a);rw[qA bI (by omega) (show jB x y v from⟨λh=>by omega,λ_=>ae,λh=>by omega⟩),<-N a5 d];simp only[b,g,Int.reduceEq,cZ,c9,dV,dK,bK,bT,bJ]
   case' inr.inr.inr.inl=>
    obtain⟨a1,a2,a3,a4,a5,d,w,C⟩:=h;have b:x.Kind=4:=(by omega);obtain⟨r,_,Y,aL⟩:=pr (t:=y) v.af (by have:=(o.T _ u).1;have:=dy (ea reachBytes);omega);have H:r.2=true↔∃s,s∈y.bg/\s.af=v.af:=by
     rcases aL with⟨q,l,X,_,rfl⟩|⟨q,rfl⟩
     . exact⟨λ_=>⟨_,bh l dN,X⟩,λ_=>rfl⟩
     . constructor
       . intro h;simp at h
       intro a;obtain⟨s,s1,aM⟩:=a;obtain⟨i,G,rfl⟩:=eS s1;exact absurd aM (by have:=q i G;rwa [dc G]at this)
    by_cases ae:(∃s,s∈y.bg/\s.af=v.af)\/y.Open=true
    case' neg=>
     have g:(bif (!r.2)then(!y.Open)else false)=true:=by
      cases aA:r.2 with
      |true=>exact absurd (.inl (H.1 aA)) ae
      |false=>
       cases az:y.Open with
       |true=>exact absurd (.inr az) ae
       |false=>rfl
     rw[vW bI (by omega) (show ¬jB x y v fromλh=>ae (h.2.2 b))];simp only[b,Y,g,ak,Int.reduceEq,cZ,c9,dV,dK,bK,bT,bJ];exact E
    case' pos=>
     have g:(bif (!r.2)then(!y.Open)else false)=false:=by
      rcases ae with ae|ae
      . rw[H.2 ae];rfl
      . rw[ae];cases r.2<;>rfl
     have D:=s5 (tw:=tw) (tr:=tr) (f:=eb tw tr n) (path:=path) (by omega) (x:=x) (y:=y) (v:=v) (by omega) (by omega) (λq a=>by rw[a5]at a;cases a) (λq a=>by rw[d]at a;cases a);rw[qA bI (by omega) (show jB x y v from⟨λh=>by omega,λh=>by omega,λ_=>ae⟩),<-N a5 d];simp only[b,Y,g,ak,Int.reduceEq,cZ,c9,dV,dK,bK,bT,bJ]
   case' inr.inr.inr.inr.inl=>
    obtain⟨a1,a2,a3,a4,a5,d,w,C⟩:=h;have b:x.Kind=5:=(by omega);obtain⟨aj,aE⟩:=SW.A _ S (.inl (by omega));obtain⟨aF,aH⟩:=cx.A _ u (.inl (by omega));obtain⟨f1,f2⟩:=h4.1 C
    have H:=ZR (tw:=tw) (tr:=tr) (f:=eb tw tr n) (path:=path) (by omega) (x:=x) (y:=y) a1 (by omega) (by omega) f1 aq au (λi R q a=>by
     have z:=bh (by omega:i<v.ai.length) ar;obtain⟨B,l⟩:=o.gG.mem u a;exact L z (f2 i R) B l) (λi R=>by
     have z:=bh (by omega:i<v.ai.length) ar
     exact Ds SW (G _ z) (by have:=(O _ z).1;omega) _ (oq _ _ (f2 i R)))
    rw[Rt bI b];simp only[b,H,ak,Int.reduceEq,cZ,c9,dV,dK,bK,bT,bJ]
    done
   case' inr.inr.inr.inr.inr.inl=>
    obtain⟨a1,a2,a3,a4,a5,d⟩:=h;have b:x.Kind=6:=(by omega);obtain⟨aj,aE⟩:=SW.A _ S (.inr (by omega));obtain⟨aF,aH⟩:=cx.A _ u (.inr (by omega));cases bD:cD x.ag v.af with
    |none=>rw[bD]at d;cases d.2.1
    |some m=>
     rw[bD]at d;obtain⟨b1,b2,b3⟩:=d;have U:=vK x.ag v.af;rw[bD]at U;cases Q:hn x.ag v.af with
     |none=>rw[Q]at U;cases U
     |some i=>
     obtain⟨d1,d2,_⟩:=ka Q;obtain⟨d3,d4⟩:=j9 bD;have em:x.ag.getD i aC=m:=qz aj (bh d1 aC) d3 (by rw[d2,d4]);have z:=bh (by omega:0<v.ai.length) ar;have aa:=cU.1 b3 _ z
     have H:=aaB (tw:=tw) (tr:=tr) (f:=eb tw tr n) (path:=path) (by omega) (x:=x) (y:=y) a1 (by omega) (by omega) b2 Q (λq a=>by
      obtain⟨B,l⟩:=o.gG.mem u a;rw[em]
      exact L z aa B l) (by rw[em];exact Ds SW (G _ z) (by have:=(O _ z).1;omega) _ (oq _ _ aa))
     rw[Ru bI b];simp only[b,H,ak,Int.reduceEq,cZ,c9,dV,dK,bK,bT,bJ]
    done
   case' inr.inr.inr.inr.inr.inr.inl=>
    obtain⟨a1,a2,a3,a4,a5,d,w,C,a9⟩:=h;have b:x.Kind=7:=(by omega);obtain⟨B,l⟩:=o.gG.elem u (by omega);rw[Rv bI b];unfold Ae;by_cases ae:(v.ai.length:Int)<=y.Max
    case' neg=>
     have g:decide (y.Max<(v.ai.length:Int))=true:=jT (by omega);rw[al ae];simp only[b,g,Int.reduceEq,cZ,c9,dV,dK,bK,bT,bJ];exact E
    case' pos=>
     have g:decide (y.Max<(v.ai.length:Int))=false:=tR (by omega);have D:=s5 (tw:=tw) (tr:=tr) (f:=eb tw tr n) (path:=path) (by omega) (x:=x) (y:=y) (v:=v) (by omega) (by omega) (λq a=>by rw[d]at a;cases a) (λq a=>L a (cU.1 a9 q a) B l);have e:(if(v.ai.length:Int)<=y.Max then h' (λW=>(⟨7,false,0,[],0,[],W,[]⟩:I)) (e0 (eb tw tr n) path x.aG y.aG 0 v.ai)else .inr path)=l8 (eb tw tr n) x y v path:=by
      unfold l8;rw[ad ae,a1,a2,a3,a4,a5,d,w];rfl
     rw[e];simp only[b,g,Int.reduceEq,cZ,c9,dV,dK,bK,bT,bJ]
   case' inr.inr.inr.inr.inr.inr.inr.inl=>
    obtain⟨a1,a2,a3,a4,a5,d,w,C,a9,an,aO⟩:=h;have b:x.Kind=8:=(by omega);obtain⟨B,l⟩:=o.gG.elem u (by omega);obtain⟨X,aJ⟩:=o.gG.key u (by omega);rw[Rw bI b];unfold Af;by_cases ae:(v.ai.length:Int)<=y.Max
    case' neg=>
     have g:decide (y.Max<(v.ai.length:Int))=true:=jT (by omega);rw[al ae];simp only[b,g,Int.reduceEq,cZ,c9,dV,dK,bK,bT,bJ];exact E
    case' pos=>
     have g:decide (y.Max<(v.ai.length:Int))=false:=tR (by omega);have D:=s5 (tw:=tw) (tr:=tr) (f:=eb tw tr n) (path:=path) (by omega) (x:=x) (y:=y) (v:=v) (by omega) (by omega) (λq a=>aI a (cU.1 a9 q a) X aJ) (λq a=>L a (cU.1 an q a) B l);have e:(if(v.ai.length:Int)<=y.Max then mh (λks=>h' (λW=>(⟨8,false,0,[],0,ks,W,[]⟩:I)) (e0 (eb tw tr n) path x.aG y.aG 0 v.ai)) (e0 (eb tw tr n) path x.Key y.Key 0 v.av)else .inr path)=l8 (eb tw tr n) x y v path:=by
      unfold l8;rw[ad ae,a1,a2,a3,a4,a5,d]
     rw[e];simp only[b,g,Int.reduceEq,cZ,c9,dV,dK,bK,bT,bJ]
   case' inr.inr.inr.inr.inr.inr.inr.inr=>
    obtain⟨a1,a2,a3,a4,a5,d,w,C,a9⟩:=h;have b:x.Kind=9:=(by omega);obtain⟨B,l⟩:=o.gG.elem u (by omega);have D:=s5 (tw:=tw) (tr:=tr) (f:=eb tw tr n) (path:=path) (by omega) (x:=x) (y:=y) (v:=v) (by omega) (by omega) (λq a=>by rw[d]at a;cases a) (λq a=>L a (cU.1 a9 q a) B l);have e:Ag (eb tw tr n) x y v path=l8 (eb tw tr n) x y v path:=by
     unfold l8 Ag;rw[a1,a2,a3,a4,a5,d,w];rfl
    rw[Rx bI b,e];simp only[b,Int.reduceEq,cZ,c9,dV,dK,bK,bT,bJ]
   all_goals
    rcases D with⟨p,aK,J⟩|⟨ks,J,⟨p,aK,dn⟩|⟨us,aK,dn⟩⟩
    . rw[aK,J];rfl
    . rw[aK,J];simp only[ak];rw[dn];rfl
    . rw[aK,J];simp only[ak];rw[dn];simp only[ak,hA,pM,I.aO]
 . rw[ad (show(!(decide (x.Kind=y.Kind)))=true by simp[bI]),Oc bI,E]
theorem ZT:w0 tw tr 0:=by
 unfold w0;intro v _ _ aD;have:=Om v;omega
theorem MX(b:di tw)(a:di tr):∀n,w0 tw tr n
 |0=>ZT
 |n+1=>ZS b a (MX b a n)
end
def wX(x:fz):Prop:=oy x/\x.c2.length*3<=reachBytes
def k0(aI:List fz):Prop:=aI.length*32<=reachBytes/\∀x,x∈aI->wX x
def AQ(c:kE):Prop:=da c.Kind/\da c.Node/\da c.A/\da c.B
theorem k0.set(h:k0 aI)(j:Nat){x:fz}(c:wX x):k0 (aI.set j x):=by
 refine⟨by rw[iy];exact h.1,λy a=>?_⟩;rcases tT a with a|rfl
 . exact h.2 y a
 . exact c
theorem mI(a:Int):da (IntKind.wrap .u8 a):=by
 have:IntKind.wrap .u8 a=a%256:=by rfl
 unfold da;omega
theorem Fz{n:Nat}(h:n*3<=reachBytes):room 3 n=true:=by
 unfold reachBytes at h;unfold room j' eE;simp only[cc,dq];omega
theorem agx{n:Nat}(h:n*32<=reachBytes):room 32 n=true:=by
 unfold reachBytes at h;unfold room j' eE;simp only[cc,dq];omega
theorem adn{L:List kE}(Y:L.length<=reachBytes)(N:∀c,c∈L->AQ c){i:Nat}(S:i<L.length)(h:k0 aI)(aD:0<aI.length):
 ∃Q,k0 Q/\Q.length=aI.length/\hB (L,(i:Int),aI)=hB (L,((i+1:Nat):Int),Q):=by
 obtain⟨V,R,n,G⟩:=N _ (bh S nR);have al:=dy Y;unfold da at V R n G;have ai:aI.length<9223372036854775807:=by have:=h.1;unfold reachBytes at this;omega
 obtain⟨j,ab,o⟩:∃j:Nat,b' (bV .i64 (L.getD i nR).Node) (aI.length:Int)=(j:Int)/\j<aI.length:=by
  have e:b' (bV .i64 (L.getD i nR).Node) (aI.length:Int)=(L.getD i nR).Node%(aI.length:Int):=by
   rw[ll ⟨by omega,by omega⟩,hf R.1]
  have h0:=l4 (L.getD i nR).Node (by omega:(aI.length:Int)≠0);have h1:=l0 (L.getD i nR).Node (by omega:(0:Int)<aI.length);exact⟨((L.getD i nR).Node%(aI.length:Int)).toNat,by rw[e];omega,by omega⟩
 obtain⟨⟨db,E,k,m,fl,an⟩,T⟩:=h.2 _ (bh o eP);have H:∀z:Nat,z<(aI.getD j eP).c2.length->da ((aI.getD j eP).c2.getD z iV).af/\da ((aI.getD j eP).c2.getD z iV).au/\da ((aI.getD j eP).c2.getD z iV).gZ:=λz O=>fl _ (bh O _)
 rw[hB,ad (by
  have a:(i:Int)<(L.length:Int):=by omega
  simp[a,aD]),ad (aN S),a']
 simp only[aT,ak];rw[ad (show(!(decide ((aI.length:Int)=0)))=true from by rw[p7];exact tR (by omega)),ab,ad (aN o),a',ad (jT o),fS,ad (Fz T),ad (jT o)];simp only[c9,bJ,o];have aK:aM .i64 (i:Int) 1=((i+1:Nat):Int):=bC;rw[aK];generalize aj:aI.getD j eP=p at*;generalize ah:L.getD i nR=c at*;have g:∀{a b K:Int} {l:List lI},da a->da b->da K->(∀q,q∈l->da q.af/\da q.au/\da q.gZ)->l.length<=p.c2.length+8/\(l.length<=p.c2.length\/l.length<=8)->wX ⟨p.Kind,a,b,K,l⟩:=λ{a b K l} Z aa N ae aD=>⟨⟨db,Z,aa,N,ae,by show l.length<=_;unfold reachBytes at*;omega⟩,by show l.length*3<=_;unfold reachBytes at*;omega⟩
 have gs:∀q:fz,(aI.set j q).getD j br=q:=λq=>by rw[dc (by rw[iy];exact o)];simp
 have F:∀{a:Int},0<=a/\a<=255->da a:=λh=>h;have am:(p.c2.length:Int)<9223372036854775807:=by unfold reachBytes at T;omega
 have s:∀{l:List lI},(∀q,q∈l->da q.af/\da q.au/\da q.gZ)->l.length<=p.c2.length+8/\(l.length<=p.c2.length\/l.length<=8)->wX ⟨p.Kind,p.A,p.B,p.C,l⟩:=λ{l} h1 X=>g E k m h1 X;have self:p.c2.length<=p.c2.length+8/\(p.c2.length<=p.c2.length\/p.c2.length<=8):=by omega
 by_cases ae:0<p.c2.length
 . have I:(0:Int)<(p.c2.length:Int):=(by omega);obtain⟨z,O,f⟩:∃z:Nat,b' (bV .i64 c.A) (p.c2.length:Int)=(z:Int)/\z<p.c2.length:=by
    have e:b' (bV .i64 c.A) (p.c2.length:Int)=c.A%(p.c2.length:Int):=by
     rw[ll ⟨by omega,by omega⟩,hf n.1]
    have h0:=l4 c.A (by omega:(p.c2.length:Int)≠0);have h1:=l0 c.A I;exact⟨(c.A%(p.c2.length:Int)).toNat,by rw[e];omega,by omega⟩
   simp only[I,O,c9,bJ,gs,List.set_set];rw[ad (show(!(decide ((p.c2.length:Int)=0)))=true from by rw[p7];exact tR (by omega))];by_cases t:b' c.Kind 8=0
   . simp only[t,c9,bJ];exact⟨_,h.set j (g (mI _) k m fl self),iy,rfl⟩
   by_cases u:b' c.Kind 8=1
   . simp only[u,c9,cZ,Int.reduceEq,bK,bJ,bT];exact⟨_,h.set j (g E (mI _) m fl self),iy,rfl⟩
   by_cases v:b' c.Kind 8=2
   . have P:0<=b' c.A 6:=by rw[hf n.1];omega
     simp only[v,P,c9,cZ,Int.reduceEq,bK,bJ,bT];exact⟨_,h.set j (g (mI _) k m fl self),iy,rfl⟩
   by_cases x:b' c.Kind 8=3
   . simp only[x,c9,cZ,Int.reduceEq,bK,bJ,bT];exact⟨_,h.set j (g E k (mI _) fl self),iy,rfl⟩
   by_cases r:b' c.Kind 8=4
   . by_cases J:(p.c2.length:Int)<8
     . simp only[r,J,c9,cZ,Int.reduceEq,bK,bJ,bT];rw[ad (Fz (by rw[c4];unfold reachBytes;simp;omega))];refine⟨_,h.set j (s (λq d=>?_) (by rw[c4];simp;omega)),iy,rfl⟩;rcases ga.1 d with d|d
       . exact fl q d
       . rw[wh.1 d];exact⟨F n,F G,mI _⟩
     . simp only[r,J,c9,cZ,Int.reduceEq,bK,bJ,bT];exact⟨_,h.set j (s fl self),iy,rfl⟩
   by_cases y:b' c.Kind 8=5
   . simp only[y,c9,cZ,Int.reduceEq,bK,bJ,bT];have W:aM .i64 (z:Int) 1=((z+1:Nat):Int):=bC;rw[W,ad (iq.2 (by omega)),ad (iq.2 (by omega)),a',a',a',bu];refine⟨_,h.set j (s (λq d=>?_) (by rw[c4,od,od,l1];omega)),iy,rfl⟩;rcases ga.1 d with d|d
     . exact fl q (p5 d)
     . exact fl q (BF (p5 d))
   have U:∀{w:lI},da w.af/\da w.au/\da w.gZ->wX ⟨p.Kind,p.A,p.B,p.C,p.c2.set z w⟩:=λ{w} ag=>s (λq d=>by
    rcases tT d with d|rfl
    . exact fl q d
    . exact ag) (by rw[iy];exact self)
   by_cases D:b' c.Kind 8=6
   . simp only[D,c9,cZ,Int.reduceEq,bK,bJ,bT];rw[ad (aN f),a',ad (jT f)];exact⟨_,h.set j (U (w:=⟨(p.c2.getD z iV).af,(p.c2.getD z iV).au,c.B⟩) ⟨(H z f).1,(H z f).2.1,F G⟩),iy,rfl⟩
   . simp only[t,u,v,x,r,y,D,cZ,bK,bT];rw[ad (aN f),a',ad (jT f),ad (aN f),ad (jT f)];exact⟨_,h.set j (U (w:=⟨(p.c2.getD z iV).af,aM .u8 (p.c2.getD z iV).au c.B,(p.c2.getD z iV).gZ⟩) ⟨(H z f).1,mI _,(H z f).2.2⟩),iy,rfl⟩
 . have I:¬(0:Int)<(p.c2.length:Int):=(by omega);simp only[I,cZ,bK,bT,gs,List.set_set];by_cases t:b' c.Kind 8=0
   . simp only[t,c9,bJ];exact⟨_,h.set j (g (mI _) k m fl self),iy,rfl⟩
   by_cases u:b' c.Kind 8=1
   . simp only[u,c9,cZ,Int.reduceEq,bK,bJ,bT];exact⟨_,h.set j (g E (mI _) m fl self),iy,rfl⟩
   by_cases v:b' c.Kind 8=2
   . have P:0<=b' c.A 6:=by rw[hf n.1];omega
     simp only[v,P,c9,cZ,Int.reduceEq,bK,bJ,bT];exact⟨_,h.set j (g (mI _) k m fl self),iy,rfl⟩
   by_cases x:b' c.Kind 8=3
   . simp only[x,c9,cZ,Int.reduceEq,bK,bJ,bT];exact⟨_,h.set j (g E k (mI _) fl self),iy,rfl⟩
   by_cases r:b' c.Kind 8=4
   . have J:(p.c2.length:Int)<8:=(by omega);simp only[r,J,c9,cZ,Int.reduceEq,bK,bJ,bT];rw[ad (Fz (by rw[c4];unfold reachBytes;simp;omega))];refine⟨_,h.set j (s (λq d=>?_) (by rw[c4];simp;omega)),iy,rfl⟩;rcases ga.1 d with d|d
     . exact fl q d
     . rw[wh.1 d];exact⟨F n,F G,mI _⟩
   have M:=h.set j (s fl self);by_cases y:b' c.Kind 8=5
   . simp only[y,c9,cZ,Int.reduceEq,bK,bJ,bT];exact⟨_,M,iy,rfl⟩
   by_cases D:b' c.Kind 8=6
   . simp only[D,c9,cZ,Int.reduceEq,bK,bJ,bT];exact⟨_,M,iy,rfl⟩
   . simp only[t,u,v,x,r,y,D,cZ,bK,bT];exact⟨_,M,iy,rfl⟩
theorem Of{L:List kE}(e:L.length<=reachBytes)(f:∀c,c∈L->AQ c):∀(k i:Nat) {aI:List fz},i+k=L.length->k0 aI->∃d,k0 d/\d.length=aI.length/\hB (L,(i:Int),aI)=some d
 |0,i,aI,l,h=>⟨aI,h,rfl,by
  have a:¬(i:Int)<(L.length:Int):=by omega
  rw[hB,al (by simp[a])]⟩
 |k+1,i,aI,l,h=>by
  by_cases aD:0<aI.length
  . obtain⟨d,h1,j,g⟩:=adn e f (by omega:i<L.length) h aD;rw[g,<-j];exact Of e f k (i+1) (by omega) h1
  . refine⟨aI,h,rfl,?_⟩;have b:decide ((0:Int)<(aI.length:Int))=false:=tR (by omega);rw[hB,b,al];cases decide ((i:Int)<(L.length:Int))<;>simp
theorem k0.Ew{d:ek}(h:k0 d.ed):uh d:=⟨by have:=h.1;unfold reachBytes at*;omega,λx a=>(h.2 x a).1⟩
theorem ZU{d:ek}(h:k0 d.ed){L:List kE}(i:L.length<=reachBytes)(j:∀c,c∈L->AQ c):∃a,k0 a.ed/\a.ed.length=d.ed.length/\BW (d,L)=some a:=by
 obtain⟨b,h1,g,e⟩:=Of i j L.length 0 (by omega) h;have f:hB (L,0,d.ed)=some b:=e;refine⟨⟨b⟩,h1,g,?_⟩;rw[BW,fS,ad (agx h.1),f];rfl
theorem ado(h:WF cO ⟨.slice (.nm vt),aI⟩):k0 aI:=by
 obtain⟨a,b,c⟩:=v7 (t:= .nm vt) h;have D:=Mw (d:=⟨aI⟩) h;refine⟨b,λx e=>⟨D.2 x e,?_⟩⟩;exact(v7 (t:= .nm B5) (c x e ⟨.slice (.nm B5),x.c2⟩ (.tail _ (.tail _ (.tail _ (.tail _ (.head _))))))).2.1
theorem agZ{n:Int}(h:WF cO ⟨.int .u8,n⟩):da n:=by
 cases h with
 |int k n h=>
  simp[Lit.wf,IntKind.min,IntKind.max,IntKind.bits,IntKind.signed]at h;unfold da;omega
theorem adp{d:k7}(f:uh d.S)(h:pR d=some (⟨ts⟩,t,v,w,true)):ts.length=d.S.ed.length:=by
 rw[pR]at h;rcases of_eq f with e|⟨l,e,_,_,c,_⟩
 . rw[e]at h;simp at h
 . rw[e]at h;simp only[aT,ak,cW,bK,bT]at h;split at h
   . cases a:xZ ((⟨l⟩:aQ),b' (bV .i64 d.T) (l.length:Int),d.C)with
     |none=>rw[a]at h;cases h
     |some x=>
      rw[a]at h;simp only[ak]at h;cases b:yC ((⟨l⟩:aQ),b' (bV .i64 d.T) (l.length:Int),d.C)with
      |none=>rw[b]at h;cases h
      |some y=>
       rw[b]at h;simp only[ak,bG,bE,aQ.mk.injEq]at h;rw[<-h.1,c]
   . cases h
structure wR (c:mz):Prop where
 d:Eg c.D
 n:k0 c.D.S.ed
 l:c.L.length<=reachBytes
 c:∀x,x∈c.L->AQ x
structure Tx (tw tr:List ah)(t:Int)(v:I):Prop where
 W:di tw
 R:di tr
 t0:0<=t
 t1:t<tw.length
 t2:t<tr.length
 f:b6 tw true t v
 o:bH v
 w:wt v<=3000
theorem aa4{c:mz}(h:wR c):(∃w r t v,x7 c=some (w,r,t,v,false))\/∃tw tr t v,(x7 c=some (⟨tw⟩,⟨tr⟩,t,v,true)/\Tx tw tr t v)/\∃w,pR c.D=some (⟨tw⟩,t,v,w,true)/\b6 tw false t w/\bH w:=by
 obtain⟨o,d1,d3,d2⟩:=ZU h.n h.l h.c;rw[x7];rcases agf h.d with⟨s,t,v,w,e⟩|⟨ts,t,v,w,e,H,ht,⟨v1,g,v3⟩,k,m,_⟩
 . rw[e];simp only[aT,ak];rw[d2];simp only[ak];rcases Fo d1.Ew with a|⟨l,a,_⟩<;>rw[a]<;>exact .inl ⟨_,_,_,_,rfl⟩
 . have ae:=adp h.d.s e;rw[e];simp only[aT,ak];rw[d2];simp only[ak];rcases of_eq d1.Ew with a|⟨l,a,_,_,l2,_⟩
   . rw[a];exact .inl ⟨_,_,_,_,rfl⟩
   . rcases Fo d1.Ew with f|⟨j,f,i⟩
     . rw[a]at f;cases f
     . rw[a]at f;have:l=j:=by injection f with q;injection q with q _;injection q
       subst this;rw[a];simp only[ak,cW,dV];cases p:decide (4<(c.L.length:Int))with
       |true=>exact .inl ⟨_,_,_,_,rfl⟩
       |false=>
        obtain⟨b,b1,b2⟩:=GH g;simp only[eG,bJ,dV,I.aO];rw[b1];cases b with
        |false=>exact .inl ⟨_,_,_,_,rfl⟩
        |true=>exact .inr ⟨ts,l,t,v,⟨rfl,H,i,ht.1,ht.2,by omega,v1,g,b2 rfl⟩,w,rfl,k,m⟩
section
variable {tw tr:List ah}{t rt:Int}{v:I}
theorem aaC(c:di tw)(f:di tr)(m:bH v)(e:b6 tw true t v)(p:0<=rt)(q:rt<tr.length):CY ((⟨tw⟩:aQ),t,v,(⟨tr⟩:aQ),rt)=some 0:=by
 obtain⟨⟨j,k,_⟩,_⟩:=(eO _ _ _).1 e;have d:∀{ts:List ah} {t:Int},di ts->0<=t->t<ts.length->xJ ((⟨ts⟩:aQ),t)=some 0:=λ{ts t} H a b=>by
  rw[xJ,(pA H.T H.V).1];simp only[aT,ak];have g:¬t<0:=by omega
  have i:¬(ts.length:Int)<=t:=by omega
  rw[bq,al (by simp[g,i])]
 obtain⟨r,n,o⟩:=LK (c.V.hT c.T) m t true;have l:=o.2 e;subst l;rw[CY];simp only[I.aO];rw[d c j k];simp only[aT,ak];rw[bq,d f p q];simp only[ak];rw[bq,GF];simp only[I.aO];rw[n];rfl
theorem aaD(c:di tw)(g:di tr)(o:bH v)(f:b6 tw true t v)(s:0<=rt)(u:rt<tr.length):F6 ((⟨tw⟩:aQ),t,v,(⟨tr⟩:aQ),rt)=some 0:=by
 obtain⟨⟨k,l,_⟩,_⟩:=(eO _ _ _).1 f;have e:∀{ts:List ah} {t:Int},di ts->0<=t->t<ts.length->kH ((⟨ts⟩:aQ),t)=some 0:=λ{ts t} H a b=>by
  rw[kH,(pA H.T H.V).2];simp only[aT,ak];have i:¬t<0:=by omega
  have j:¬(ts.length:Int)<=t:=by omega
  rw[bq,al (by simp[i,j])]
 have d:=c.V.hT c.T;obtain⟨q,p,r⟩:=y7 (by have:=d.n;omega) c.T d.K o t true;have m:=r.2 f;subst m;rw[F6];simp only[I.aO];rw[e c k l];simp only[aT,ak];rw[bq,e g s u];simp only[ak];rw[bq,vx];simp only[I.aO];rw[p];rfl
def lB:I ⊕ aq->I×Int
 |.inl u=>(u,0)
 |.inr _=>(⟨0,false,0,[],0,[],[],[]⟩,12)
noncomputable def qd (tw tr:List ah)(t:Int)(v:I)(rt:Int):I ⊕ aq:=eb tw tr 3000 t v rt []
theorem X6(b:di tw)(a:di tr)(d:bH v)(e:wt v<=3000)(c:b6 tw true t v)(f:0<=rt)(g:rt<tr.length):x3 ((⟨tw⟩:aQ),t,v,(⟨tr⟩:aQ),rt)=some (lB (qd tw tr t v rt)):=by
 have h:=IE b a 3000 d e e [] c f g (path:=[]) (by simp);rw[x3];simp only[I.aO];rw[aaC b a d c f g];simp only[aT,ak];rw[bq,h];unfold qd;cases eb tw tr 3000 t v rt []<;>rfl
theorem X7(b:di tw)(a:di tr)(d:bH v)(e:wt v<=3000)(c:b6 tw true t v)(f:0<=rt)(g:rt<tr.length):BZ ((⟨tw⟩:aQ),t,v,(⟨tr⟩:aQ),rt)=some (lB (qd tw tr t v rt)):=by
 have h:=MX b a 3000 d e e c f g (path:=[]) (by simp);rw[BZ];simp only[I.aO];rw[aaD b a d c f g];simp only[aT,ak];rw[bq,h];unfold qd;cases eb tw tr 3000 t v rt []<;>rfl
end
theorem af4{c:mz}(h:∀d,d∈cO.oM SH c->WF cO d):wR c:=by
 have i:=h ⟨.slice (.nm vt),c.D.S.ed⟩ (.head _);have j:=h ⟨.slice (.nm Sx),c.L⟩ (.tail _ (.tail _ (.tail _ (.head _))));obtain⟨a,_,e⟩:=v7 (t:= .nm Sx) j;have g:∀{n:Int},WF cO ⟨.int .u8,n⟩->da n:=agZ;refine⟨abb λd b=>?_,ado i,a,λx k=>?_⟩
 . refine h d ?_;cases b with
   |head=>exact .head _
   |tail _ b=>cases b with
    |head=>exact .tail _ (.head _)
    |tail _ b=>cases b with
     |head=>exact .tail _ (.tail _ (.head _))
     |tail _ b=>cases b
 . have f:=e x k;exact⟨g (f ⟨.int .u8,x.Kind⟩ (.head _)),g (f ⟨.int .u8,x.Node⟩ (.tail _ (.head _))),g (f ⟨.int .u8,x.A⟩ (.tail _ (.tail _ (.head _)))),g (f ⟨.int .u8,x.B⟩ (.tail _ (.tail _ (.tail _ (.head _)))))⟩
theorem D6{f:α->Option c}(d:α)(e:c):∀{l:List α} {m:List c},m.length=l.length->(∀j,j<l.length->f (l.getD j d)=some (m.getD j e))->cm f l=some m
 |[],[],_,_=>rfl
 |[],b::m,h,_=>by simp at h
 |a::l,[],h,_=>by simp at h
 |a::l,b::m,h,g=>by
  have h0:f a=some b:=g 0 (by simp);rw[vd,h0,D6 d e (l:=l) (m:=m) (by simpa using h) λj i=>g (j+1) (by simpa using i)];rfl
theorem MY:∀{a b:List aj},a.length=b.length->fc (l9 a b)=a/\fm (l9 a b)=b
 |[],[],_=>⟨rfl,rfl⟩
 |[],_::_,h=>by simp at h
 |_::_,[],h=>by simp at h
 |x::a,y::b,h=>by
  obtain⟨h1,c⟩:=MY (a:=a) (b:=b) (by simpa using h);exact⟨by rw[l9,fc,h1],by rw[l9,fm,c]⟩
theorem agl{m:aU}:dM m v=true↔m.bW=true/\m.bw=v:=by unfold dM;simp
theorem MZ:∀{F:List cQ} {f:cQ},F.Pairwise (λa b=>a.af<b.af)->f∈F->F.find? (λg=>decide (g.af=f.af))=some f
 |g::F,f,d,c=>by
  rw[jh]at d;rw[List.find?_cons];rcases fe.1 c with rfl|c
  . simp
  . have:=d.1 f c;have e:decide (g.af=f.af)=false:=tR (by omega);rw[e];exact MZ d.2 c
section
variable {ts:List ah}
theorem Z8{r:List bY}(c:fy x.ag)(d:ke x.ag r)(ae:its.length=x.ag.length){f:qh}
 (D:∀j,j<x.ag.length->dM (x.ag.getD j aC) (its.getD j ar)=false->f (x.ag.getD j aC).au (bA ts (x.ag.getD j aC).au (its.getD j ar))=some (its.getD j ar))
 (E:((gT fk (ft ts x.ag its r)).flatMap Fd.text).length<=90000):
 om f x ((gT fk (ft ts x.ag its r)).flatMap Fd.text)=some ⟨5,false,0,[],0,[],its,r⟩:=by
 have w:=LL (xN (ts:=ts) (l:=its) c d) (Lo c d);have p:∀g,g∈gT fk (ft ts x.ag its r)↔g∈ft ts x.ag its r:=λg=>(nz fk _).mem_iff;have H:∀g,g∈gT fk (ft ts x.ag its r)->1<=g.id/\g.id<=1000:=λg ao=>SV c d ((p g).1 ao);unfold om;rw[abe w H E];generalize gT fk (ft ts x.ag its r)=L at*;have bD:(L.map oK).Pairwise (λa b=>a.af<b.af):=ob.2 (w.imp λ{a b} h=>by show(a.id:Int)<(b.id:Int);omega);have t:∀g,g∈L.map oK->(∃j,j<x.ag.length/\dM (x.ag.getD j aC) (its.getD j ar)=false/\g=⟨(x.ag.getD j aC).af,(x.ag.getD j aC).cn,bA ts (x.ag.getD j aC).au (its.getD j ar)⟩)\/∃a,a∈r/\g=⟨a.af,false,a.Data⟩:=λg ao=>by
  obtain⟨e,aK,rfl⟩:=eK.1 ao;have:=(p e).1 aK;unfold ft at this;rcases ga.1 this with h|h
  . obtain⟨j,o,y,K,rfl⟩:=G8 h;have m:=c.2 _ (bh o aC);unfold cr at m;refine .inl ⟨j,o,K,?_⟩;show(⟨(((x.ag.getD j aC).af.toNat:Nat):Int),_,_⟩:cQ)=_;rw[yd (by omega)]
  . obtain⟨a,a1,rfl⟩:=eK.1 h;have m:=(d.2 a a1).1;unfold cr at m;refine .inr ⟨a,a1,?_⟩;show(⟨((a.af.toNat:Nat):Int),_,_⟩:cQ)=_;rw[yd (by omega)];rfl
 have O:∀j,j<x.ag.length->dM (x.ag.getD j aC) (its.getD j ar)=false->(⟨(x.ag.getD j aC).af,(x.ag.getD j aC).cn,bA ts (x.ag.getD j aC).au (its.getD j ar)⟩:cQ)∈L.map oK:=λj o y=>by
  have m:=c.2 _ (bh o aC);unfold cr at m;refine eK.2 ⟨_,(p _).2 (BH _ (IB o (by omega) y)),?_⟩;show(⟨(((x.ag.getD j aC).af.toNat:Nat):Int),_,_⟩:cQ)=_;rw[yd (by omega)]
 have P:∀a,a∈r->(⟨a.af,false,a.Data⟩:cQ)∈L.map oK:=λa a1=>by
  have m:=(d.2 a a1).1;unfold cr at m;refine eK.2 ⟨jU a,(p _).2 (List.mem_append_right _ (eK.2 ⟨a,a1,rfl⟩)),?_⟩;show(⟨((a.af.toNat:Nat):Int),_,_⟩:cQ)=_;rw[yd (by omega)];rfl
 generalize L.map oK=F at*;have u:∀j,j<x.ag.length->cD x.ag (x.ag.getD j aC).af=some (x.ag.getD j aC):=λj o=>LO c (bh o aC);have J:cm (ei f F) x.ag=some its:=D6 aC ar ae λj n=>by
  unfold ei;cases q:dM (x.ag.getD j aC) (its.getD j ar)with
  |false=>
   have:=MZ bD (O j n q);rw[this];exact D j n q
  |true=>
   have aD:F.find? (λg=>decide (g.af=(x.ag.getD j aC).af))=none:=by
    rw[ye];intro g ao;simp only[dq];intro e;rcases t g ao with⟨k,i,s,rfl⟩|⟨a,a1,rfl⟩
    . have em:=qz c (bh i aC) (bh n aC) e;have z:k=j:=by
       rw[dc i,dc n]at em;rcases BI k j with h|h|h
       . have:=p4.1 c.1 k j i n h;rw[em]at this;omega
       . exact h
       . have:=p4.1 c.1 j k n i h;rw[em]at this;omega
      subst z;rw[q]at s;cases s
    . have:=(d.2 a a1).2;rw[show a.af=(x.ag.getD j aC).af from e,u j n]at this;cases this
   rw[aD];obtain⟨M,N⟩:=agl.1 q;simp only;rw[ad M,N]
 have C:F.all (fT x)=true:=by
  rw[c0];intro g ao;unfold fT;rcases t g ao with⟨k,i,s,rfl⟩|⟨a,a1,rfl⟩
  . rw[u k i];rfl
  . simp
 have G:e9 x F=r:=by
  unfold e9;refine adb (ob.2 ((bD.filter _).imp λ{a b} h=>h)) d.1 λa=>?_;constructor
  . intro h;obtain⟨g,A,rfl⟩:=eK.1 h;obtain⟨B,v⟩:=rH.1 A;rcases t g B with⟨k,i,s,rfl⟩|⟨a,a1,rfl⟩
    . rw[u k i]at v;simp at v
    . exact a1
  . intro h;refine eK.2 ⟨⟨a.af,false,a.Data⟩,rH.2 ⟨P a h,?_⟩,rfl⟩;rw[(d.2 a h).2];rfl
 simp only;rw[J];simp only;rw[ad C,G]
theorem M0(H:iF ts)(aQ:bH v):∀{t:Int} {m:Nat},(bA ts t v).length<=90000->b6 ts false t v->ep ts t v<=m->c1 ts m t (bA ts t v)=some v:=by
 induction aQ with
 |mk v hs h1 a7 a8 M bc be db ab bj bk aS K=>
 intro t m C aI F;have aN:=te (ts:=ts) t v;obtain⟨m,rfl⟩:∃k,m=k+1:=⟨m-1,by omega⟩
 have r:=Dq (ts:=ts) t v;have N:∀q,q∈v.av->(if v.av=[]then 0 else 1)=1:=λq b=>al λe=>by rw[e]at b;cases b
 generalize (if v.av=[]then 0 else 1)=kk at r N;obtain⟨⟨aZ,a0,a6,_⟩,z⟩:=(eO _ _ _).1 aI;have p:t.toNat<ts.length:=by omega
 have G:=bh p aP;have aq:=λh=>As (ts:=ts) (t:=t) (v:=v) h;have aw:=λh=>Au (ts:=ts) (t:=t) (v:=v) h;have ax:=λh=>Av (ts:=ts) (t:=t) (v:=v) h;have ay:=λh=>Aw (ts:=ts) (t:=t) (v:=v) h;have az:=λh=>Ax (ts:=ts) (t:=t) (v:=v) h;have aA:=λh=>Ay (ts:=ts) (t:=t) (v:=v) h;have aB:=λh=>Az (ts:=ts) (t:=t) (v:=v) h;have aC:=λh=>AA (ts:=ts) (t:=t) (v:=v) h;have aD:=λh=>AB (ts:=ts) (t:=t) (v:=v) h;rw[ve];generalize bf:ts.getD t.toNat aP=x at*;have an:x.Kind=5->∀c,c<=gY ts x.ag v.ai->c<=m:=λh c z=>by rw[ad h]at r;exact HN r F z
 have ao:x.Kind=6->∀s,cD x.ag v.af=some s->∀c,c<=eI ts s.au v.ai->c<=m:=λh s bD c z=>by
  rw[al (by rw[h];decide),ad h,bD]at r;exact HN r F z
 have L:7<=x.Kind->∀c,c<=eI ts x.aG v.ai->c<=m:=λh c z=>by
  rw[al (λe=>by rw[e]at h;exact absurd h (by decide)),al (λe=>by rw[e]at h;exact absurd h (by decide))]at r;exact HN r F z
 have ap:∀q,q∈v.av->1<=m:=λq b=>by
  rw[N q b]at r;exact ade r F rfl
 clear r F aN N;have ah:∀{t:Int},(∀q,q∈v.ai->(bA ts t q).length<=90000/\b6 ts false t q/\ep ts t q<=m)->cm (c1 ts m t) (b7 ts t v.ai)=some v.ai:=λ{t} ae=>D6 [] ar (by rw[nw]) λj p=>by
  rw[nw]at p;rw[KA p];obtain⟨T,U,V⟩:=ae _ (bh p ar);exact K _ (bh p ar) T U V
 have aW:∀{t:Int},(∀q,q∈v.av->(bA ts t q).length<=90000/\b6 ts false t q/\ep ts t q<=m)->cm (c1 ts m t) (b7 ts t v.av)=some v.av:=λ{t} ae=>D6 [] ar (by rw[nw]) λj p=>by
  rw[nw]at p;rw[KA p];obtain⟨T,U,V⟩:=ae _ (bh p ar);exact aS _ (bh p ar) T U V
 have P:∀{t:Int} {l:List I} {q:I},q∈l->bA ts t q∈b7 ts t l:=λ{t l q} b=>by rw[DE];exact eK.2 ⟨q,b,rfl⟩
 unfold rS;rcases z with f|f|f|f|f|f|f|f|f
 . rw[fv,aq (by omega)];obtain⟨a1,a2,a3,a4,a5,o,u⟩:=f;unfold Ao;cases bb:v.bM with
   |true=>
    rw[ad (show true=true from rfl),al (show ¬([1]:aj)=[] by simp),ad (show([1]:aj)=[1]from rfl)];cases v;simp_all
   |false=>
    rw[al (show ¬false=true by simp),ad (show([]:aj)=[]from rfl)];cases v;simp_all
 . obtain⟨a1,a2,a3,a4,a5,o,u,i,a9⟩:=f;rw[bp,fv,aw (by omega)];have aR:=abU (n:=v.bd) ab;unfold Ap;rw[LN (zl ab)];simp only;rw[aR,ad ⟨i,a9⟩];cases v;simp_all
 . obtain⟨a1,a2,a3,a4,a5,o,u,i⟩:=f;rw[bp,bp,fv,ax (by omega)];unfold Aq;rw[ad i];cases v;simp_all
 . obtain⟨a1,a2,a3,a4,a5,o,u,i⟩:=f;have aH:cr v.af:=by
    rcases i with⟨y,aX,aY⟩|⟨_,_,h⟩
    . rw[<-aY];exact H.S _ G (by omega) y aX
    . exact h
   unfold cr at aH;obtain⟨k,M⟩:∃k:Nat,v.af=(k:Int):=⟨v.af.toNat,by omega⟩
   rw[bp,bp,bp,fv,ay (by omega),M,a'];unfold Ar;rw[LN (by omega)];simp only;have hs:((x.bg.any λy=>decide (y.af=(k:Int)))||x.Open)=true:=by
    rcases i with q|⟨q,_⟩
    . rw[M]at q;rw[HX.1 q];rfl
    . rw[q];simp
   rw[ad ⟨by omega,by omega,hs⟩];cases v;simp_all
 . obtain⟨a1,a2,a3,a4,a5,o,u,i⟩:=f;obtain⟨R,aV⟩:=H.A _ G (.inl (by omega));obtain⟨f1,f2⟩:=h4.1 i;have Y:=az (by omega);have E:((gT fk (ft ts x.ag v.ai v.Rest)).flatMap Fd.text).length<=90000:=by rw[<-Y];exact C
   rw[bp,bp,bp,bp,bp,bp,bp,bp,Y,Z8 R u f1 (λj Q Z=>?_) E]
   . cases v;simp_all
   . have aO:=bh (by omega:j<v.ai.length) ar;have aK:=IB (ts:=ts) Q (by omega:j<v.ai.length) Z;have:=KG ((nz fk _).mem_iff.2 (show _∈ft ts x.ag v.ai v.Rest from BH _ aK));exact K _ aO (hP this E) (f2 j Q) (an (by omega) _ (KI Q (by omega) Z))
 . obtain⟨a1,a2,a3,a4,a5,o⟩:=f;obtain⟨R,aV⟩:=H.A _ G (.inr (by omega));rw[bp,bp,bp,bp,bp,fv];have J:=aA (by omega);unfold rQ;cases bD:cD x.ag v.af with
   |none=>
    rw[bD]at o J;obtain⟨b1,_,b2,b3,d,b4⟩:=o;unfold cr at b2;obtain⟨k,D⟩:∃k:Nat,v.af=(k:Int):=⟨v.af.toNat,by omega⟩
    have g:bA ts t v=eB k++d:=by
     rw[J,b4,D,a'];rfl
    rw[g,OB (by omega)];simp only;rw[<-D,bD];simp only;rw[ad b1];cases v;simp_all
   |some s=>
    rw[bD]at o J;obtain⟨b1,b2,b3⟩:=o;obtain⟨d3,d4⟩:=j9 bD;have aJ:cr v.af:=by rw[<-d4];exact R.2 s d3
    unfold cr at aJ;obtain⟨k,D⟩:∃k:Nat,v.af=(k:Int):=⟨v.af.toNat,by omega⟩
    match gR:v.ai,b2 with
    |[a],_=>
     have w:a∈v.ai:=by rw[gR];exact .head _
     have g:bA ts t v=eB k++bA ts s.au a:=by
      rw[J,D,a'];show eB k++(b7 ts s.au v.ai).headD []=_;rw[gR,b7];rfl
     have O:(bA ts s.au a).length<=90000:=by
      rw[g,c4]at C;exact hP (Nat.le_add_left _ _) C
     rw[g,OB (by omega)];simp only;rw[<-D,bD];simp only;rw[K a w O (cU.1 b3 a w) (ao (by omega) s bD _ (yQ w))];cases v;simp_all
 . obtain⟨a1,a2,a3,a4,a5,o,u,i,a9⟩:=f;have g:=aB (by omega);have B:((b7 ts x.aG v.ai).flatMap dB).length<=90000:=by rw[<-g];exact C
   rw[bp,bp,bp,bp,bp,bp,fv,g];unfold oo;rw[My B];simp only;rw[ad (by rw[nw];exact i),ah λq b=>⟨hP (C9 (P b)) B,cU.1 a9 q b,L (by omega) _ (yQ b)⟩];cases v;simp_all
 . obtain⟨a1,a2,a3,a4,a5,o,u,i,a9,aE,aF⟩:=f;have g:=aC (by omega);have ba:=H.r2 _ G (by omega);have E:(b7 ts x.Key v.av).length=(b7 ts x.aG v.ai).length:=by rw[nw,nw];omega
   obtain⟨ak,am⟩:=MY E;have W:=Lq _ _ E;rw[nw,nw]at W;have B:((l9 (b7 ts x.Key v.av) (b7 ts x.aG v.ai)).flatMap dB).length<=90000:=by rw[<-Ho,<-g];exact C
   have aT:∀{a:aj} {l:List aj},a∈fc l->a∈l:=λh=>DG h;have aU:∀{l:List aj} {a:aj},a∈fm l->a∈l:=by
    intro l;induction l using fm.induct with
    |case1 x y l ih=>
     intro a h;rw[fm]at h;rcases fe.1 h with rfl|h
     . exact .tail _ (.head _)
     . exact .tail _ (.tail _ (ih h))
    |case2 l ae=>
     intro a h;rw[fm]at h
     . cases h
     . exact ae
   have aL:∀q,q∈v.av->ep ts x.Key q<=m:=λq b=>by
    have aM:=ap q b;have e:ep ts x.Key q=1:=by
     obtain⟨⟨_,_,bi,_⟩,aa⟩:=(eO _ _ _).1 (cU.1 a9 q b);refine Hn ?_ ?_
     . rcases aa with k|k|k|k|k|k|k|k|k
       . exact k.2.2.2.2.1
       . exact k.2.2.2.2.1
       . exact k.2.2.2.2.1
       . exact k.2.2.2.2.1
       all_goals (exfalso;omega)
     . rcases aa with k|k|k|k|k|k|k|k|k
       . exact k.2.2.2.2.2.1
       . exact k.2.2.2.2.2.1
       . exact k.2.2.2.2.2.1
       . exact k.2.2.2.2.2.1
       all_goals (exfalso;omega)
    rw[e];exact aM
   rw[bp,bp,bp,bp,bp,bp,bp,fv,g,Ho];unfold rR;rw[My B];simp only;rw[ad ⟨by rw[W];omega,by rw[W];omega⟩,ak,am,aW λq b=>⟨hP (C9 (aT (by rw[ak];exact P b))) B,cU.1 a9 q b,aL q b⟩];simp only;rw[ad (wa.2 aF),ah λq b=>⟨hP (C9 (aU (by rw[am];exact P b))) B,cU.1 aE q b,L (by omega) _ (yQ b)⟩];cases v;simp_all
 . obtain⟨a1,a2,a3,a4,a5,o,u,i,a9⟩:=f;have g:=aD (by omega);rw[bp,bp,bp,bp,fv]
   match gR:v.ai,i with
   |[],_=>
    rw[gR,b7]at g;rw[g];cases v;simp_all [mS]
   |[a],_=>
    have w:a∈v.ai:=by rw[gR];exact .head _
    rw[gR,b7]at g;have X:bA ts t v=1::bA ts x.aG a:=g;have O:(bA ts x.aG a).length<=90000:=by
     rw[X,ia]at C;omega
    rw[X];show((if(1:UInt8)=1 then(c1 ts m x.aG (bA ts x.aG a)).map _ else none):Option I)=_;rw[ad rfl,K a w O (cU.1 a9 a w) (L (by omega) _ (yQ w))];cases v;simp_all
theorem H2:∀l:List I,l.length<=cB l
 |[]=>by simp
 |v::l=>by
  rw[gO,fg,ia];have:=H2 l;omega
def oC(ts:List ah)(t:Int)(v:I)(n:Nat):Prop:=∀mis path:aq,path.length+n<=50000->pL (t,v,t,ts,ts,mis,path)=some (v,true,ts,ts,mis,path)
theorem G1{step:Int}{n:Nat}(h:oC ts t v n)(b:path.length+n+1<=50000):nV (step,t,v,t,ts,ts,mis,path)=some (v,true,ts,ts,mis,path):=by
 rw[nV];simp only[aT,ak,I.aO];rw[ad (cL),h mis (path++[step]) (by simp;omega)];simp only[ak,I.aO];have aK:dh .i64 ((path++[step]).length:Int) 1=(path.length:Int):=by
  rw[hj (by simp<;>omega) (by simp<;>omega)];simp
 rw[aK];have a:dU 0 (path.length:Int) (path++[step]).length=true:=iq.2 (by simp;omega);rw[ad a,hq,a'];simp
theorem Tn{l:List I}{n:Nat}(h:∀x,x∈l->oC ts t x n)(ae:l.length<=50000)(a:path.length+n+1<=50000):∀(k i:Nat),i+k=l.length->
 mq (t,t,l,(l.length:Int),(i:Int),ts,ts,mis,l.take i,path)=some (.inr (ts,ts,mis,l,path))
 |0,i,b=>by
  rw[mq,ch,lX (by omega)]
 |k+1,i,b=>by
  have ay:i<l.length:=by omega
  rw[mq,bu,ad (aN ay),a'];simp only[I.aO];rw[G1 (h _ (bh ay ar)) a];simp only[aT,ak,cW,I.aO];rw[bq,ad (cL),bC];have e:l.take i++[l.getD i ar]=l.take (i+1):=by
   rw[yg,dc ay];simp[ay]
  rw[e];exact Tn h ae a k (i+1) (by omega)
theorem yR{l:List I}{n:Nat}(h:∀x,x∈l->oC ts t x n)(ae:l.length<=50000)(a:path.length+n+1<=50000):
 k6 (t,l,t,ts,ts,mis,path)=some (l,true,ts,ts,mis,path):=by
 rw[k6];have:=Tn h ae a (mis:=mis) l.length 0 (by omega);rw[List.take_zero]at this;have h0:mq (t,t,l,(l.length:Int),0,ts,ts,mis,[],path)=_:=this;rw[h0];rfl
theorem ZV(d:fy ms){i:Nat}(a:i<ms.length){r:Int×Bool}(h:qE ms (ms.getD i aC).af r):r=((i:Int),true):=by
 rcases h with⟨j,h1,b,c,rfl⟩|⟨h1,_⟩
 . have:j=i:=by
    rw[dc h1,dc a]at b;rcases BI j i with h|h|h
    . have:=p4.1 d.1 j i h1 a h;omega
    . exact h
    . exact absurd rfl (c i h)
   rw[this]
 . exact absurd rfl (h1 i a)
theorem Gi(b:fy x.ag)(ae:x.ag.length<=16){i:Nat}(a:i<x.ag.length):gN (x,(x.ag.getD i aC).af)=some ((i:Int),true):=by
 obtain⟨r,c,d⟩:=tC (t:=x) (id:=(x.ag.getD i aC).af) (by omega);rw[c,ZV b a d]
theorem X8(m:aU)(a:bH v):∃b,o9 (m,v)=some b:=by
 rw[o9];simp only[I.aO];cases m.bW with
 |false=>exact⟨false,rfl⟩
 |true=>
  obtain⟨r,c,_⟩:=LP a m.bw;rw[ad rfl,c];exact⟨r,rfl⟩
theorem IT(c:fy x.ag)(ae:x.ag.length<=16){n:Nat}(f:∀y,y∈v.ai->bH y)(l:v.ai.length=x.ag.length)(h:∀i,i<x.ag.length->oC ts (x.ag.getD i aC).au (v.ai.getD i ar) n)
 {mis path:aq}(d:path.length+n+1<=50000){a0 a2 a4 b0 b2 b4:Int}{a1 b1:Bool}{a3 b3:aj}:∀(k i:Nat),i+k=x.ag.length->
 k3 (x.ag,(x.ag.length:Int),(i:Int),ts,ts,mis,x,v,x,a0,a1,a2,a3,a4,b0,b1,b2,b3,b4,path,v.ai.take i)=some (.inr (ts,ts,mis,x,v,x,a0,a1,a2,a3,a4,b0,b1,b2,b3,b4,path,v.ai))
 |0,i,j=>by
  rw[k3,ch,lX (by omega)];simp only[I.aO]
 |k+1,i,j=>by
  have ay:i<x.ag.length:=by omega
  have a:i<v.ai.length:=by omega
  rw[k3,bu,ad (aN ay),a'];simp only[aT,ak,I.aO,iK];rw[Gi c ae ay];simp only[ak,cW];rw[bq,ad (aN ay),ad (aN a),a',G1 (h i ay) d];simp only[ak,I.aO,cW];rw[ad (aN ay),ad (aN a)];obtain⟨b,g⟩:=X8 (x.ag.getD i aC) (f _ (bh a ar));rw[g];simp only[ak,eG,wo];have m:(if b then some b else some false)=some b:=by cases b<;>rfl
  rw[m];simp only[ak];rw[al (by cases b<;>simp),bq,ad (cL),bC];have e:v.ai.take i++[v.ai.getD i ar]=v.ai.take (i+1):=by
   rw[yg,dc a];simp[a]
  rw[e];exact IT c ae f l h d k (i+1) (by omega)
theorem IU(a:fy x.ag)(ae:x.ag.length<=16){a0 a2 a4 b0 b4:Int}{b1:Bool}{b3:aj}:∀(k i:Nat),i+k=x.ag.length->
 kC (x.ag,(x.ag.length:Int),(i:Int),ts,ts,mis,v,x,a0,a1,a2,a3,a4,b0,b1,b2,b3,b4,path,its,[])=some (.inr (ts,ts,mis,a0,a1,a2,a3,a4,b0,b1,b2,b3,b4,path,its,[]))
 |0,i,b=>by
  rw[kC,ch]
 |k+1,i,b=>by
  have ay:i<x.ag.length:=by omega
  rw[kC,bu,ad (aN ay),a'];simp only[aT,ak,I.aO,iK];rw[Gi a ae ay];simp only[ak];rw[ad trivial,bC];exact IU a ae k (i+1) (by omega)
theorem aa5(a:fy x.ag)(ae:x.ag.length<=16){n:Nat}(f:∀y,y∈v.ai->bH y)(d:v.ai.length=x.ag.length)(h:∀i,i<x.ag.length->oC ts (x.ag.getD i aC).au (v.ai.getD i ar) n)
 {mis path:aq}(e:path.length+n+1<=50000):sn (x,v,x,ts,ts,mis,path)=some (⟨v.Kind,false,0,[],0,[],v.ai,[]⟩,true,ts,ts,mis,path):=by
 rw[sn];have h0:=IT a ae f d h e (mis:=mis) (a0:=0) (a1:=false) (a2:=0) (a3:=[]) (a4:=0) (b0:=v.Kind) (b1:=false) (b2:=0) (b3:=[]) (b4:=0) x.ag.length 0 (by omega);rw[List.take_zero]at h0;have b:k3 (x.ag,(x.ag.length:Int),0,ts,ts,mis,x,v,x,0,false,0,[],0,v.Kind,false,0,[],0,path,[])=_:=h0;simp only[I.aO];rw[b];simp only[aT,ak];have h1:=IU (ts:=ts) a ae (v:=v) (mis:=mis) (path:=path) (its:=v.ai) (a0:=0) (a1:=false) (a2:=0) (a3:=[]) (a4:=0) (b0:=v.Kind) (b1:=false) (b2:=0) (b3:=[]) (b4:=0) x.ag.length 0 (by omega);have c:kC (x.ag,(x.ag.length:Int),0,ts,ts,mis,v,x,0,false,0,[],0,v.Kind,false,0,[],0,path,v.ai,[])=_:=h1;rw[c];rfl
theorem ZW(g:fy x.ag)(ae:x.ag.length<=16){n:Nat}{m:aU}(f:cD x.ag v.af=some m)(h1:v.ai.length=1)(h:oC ts m.au (v.ai.getD 0 ar) n)
 {mis path:aq}(j:path.length+n+1<=50000):sw (x,v,x,ts,ts,mis,path)=some (⟨v.Kind,false,0,[],v.af,[],v.ai,[]⟩,true,ts,ts,mis,path):=by
 obtain⟨k,l⟩:=j9 f;obtain⟨i,b,e⟩:=eS k;have c:x.ag.getD i aC=m:=by rw[dc b,e]
 have d:=Gi g ae b;rw[c,l]at d;rw[sw,d];simp only[aT,ak,I.aO];rw[ad trivial,ad (aN b),ad (by rw[h1];rfl),ad (aN b),a',c,show(0:Int).toNat=0 from rfl,G1 h j];simp only[ak,cW,I.aO];rw[bq];have:[v.ai.getD 0 ar]=v.ai:=by
  match o:v.ai,h1 with
  |[a],_=>rfl
 rw[this]
theorem aa6(H:iF ts)(O:bH v):∀t,wt v<=20000->b6 ts true t v->oC ts t v (wt v):=by
 induction O with
 |mk v hs h1 aa ab ah l aj db an ao ap Q E=>
  intro t al L mis path z;obtain⟨⟨Y,Z,J,K⟩,D⟩:=(eO _ _ _).1 L;obtain⟨j,rfl⟩:∃j:Nat,t=(j:Int):=⟨t.toNat,by omega⟩
  have u:j<ts.length:=by omega
  rw[a']at J D;have w:=bh u aP;generalize P:ts.getD j aP=x at*;have ae:=K rfl;have am:=fg v;have aX:∀y,y∈v.av->wt y+10<=wt v:=λy a=>by have:=e2 a;omega
  have p:∀y,y∈v.ai->wt y+10<=wt v:=λy a=>by have:=e2 a;omega
  have R:∀t,eT ts true t v.av->∀y,y∈v.av->oC ts t y (wt v-10):=λt ht y a mis path z=>Q y a t (by have:=aX y a;omega) (cU.1 ht y a) mis path (by have:=aX y a;omega);have o:∀t,eT ts true t v.ai->∀y,y∈v.ai->oC ts t y (wt v-10):=λt ht y a mis path z=>E y a t (by have:=p y a;omega) (cU.1 ht y a) mis path (by have:=p y a;omega);have au:v.av.length<=cB v.av:=H2 _;have aq:v.ai.length<=cB v.ai:=H2 _;rw[pL,ad (aN u)];simp only[aT,ak,a',P,I.aO];rw[ad (aN u),bq];have f:path.length+(wt v-10)+1<=50000:=by omega
  have s:∀{t:Int},v.ai=[]->k6 (t,v.ai,t,ts,ts,mis,path)=some (v.ai,true,ts,ts,mis,path):=λ{t} he=>yR (n:=0) (λy a=>by rw[he]at a;cases a) (by rw[he];simp) (by omega);rcases D with h|h|h|h|h|h|h|h|h
  . obtain⟨a1,a2,a3,a4,a5,c,e⟩:=h;have b:x.Kind=1:=(by omega);simp only[b];simp only[s c,ak,cZ,bK,bT,Int.reduceEq,cW];cases v;simp_all
  . obtain⟨a1,a2,a3,a4,a5,c,e,d,a9⟩:=h;have b:x.Kind=2:=(by omega);simp only[b];simp only[s c,d,a9,ak,cZ,c9,bK,bT,bJ,Int.reduceEq,cW,dK];cases v;simp_all
  . obtain⟨a1,a2,a3,a4,a5,c,e,d⟩:=h;have b:x.Kind=3:=(by omega);simp only[b];simp only[s c,d,ak,cZ,c9,bK,bT,bJ,Int.reduceEq,cW,dK];cases v;simp_all
  . obtain⟨a1,a2,a3,a4,a5,c,e,d⟩:=h;have b:x.Kind=4:=(by omega);obtain⟨r,S,_,U⟩:=pr (t:=x) v.af (by have:=(H.T _ w).1;have:=dy (ea reachBytes);omega);have k:r.2=true:=by
     rcases U with⟨_,_,_,_,rfl⟩|⟨q,_⟩
     . rfl
     . rcases d with⟨y,V,W⟩|⟨_,h,_⟩
       . obtain⟨i,l,rfl⟩:=eS V;exact absurd W (by have:=q i l;rwa [dc l]at this)
       . cases h
    simp only[b,S,k];simp only[s c,ak,cZ,c9,bK,bT,bJ,Int.reduceEq,cW,dK];cases v;simp_all
  . obtain⟨a1,a2,a3,a4,a5,c,e,d⟩:=h;have b:x.Kind=5:=(by omega);obtain⟨B,C⟩:=H.A x w (.inl b);obtain⟨f1,f2⟩:=h4.1 d
    have k:=aa5 (ts:=ts) B C l f1 (λi M mis path z=>by
     have a:=bh (by omega:i<v.ai.length) ar
     exact E _ a _ (by have:=p _ a;omega) (f2 i M) mis path (by have:=p _ a;omega)) (mis:=mis) (path:=path) (n:=wt v-10) f
    simp only[b,k,ak,cZ,c9,bK,bT,bJ,Int.reduceEq,cW,dK];cases v;simp_all [I.aO]
  . obtain⟨a1,a2,a3,a4,a5,c⟩:=h;have b:x.Kind=6:=(by omega);obtain⟨B,C⟩:=H.A x w (.inr b);cases bD:cD x.ag v.af with
    |none=>rw[bD]at c;cases c.2.1
    |some m=>
     rw[bD]at c;obtain⟨b1,b2,b3⟩:=c;have a:=bh (by omega:0<v.ai.length) ar;have k:=ZW (ts:=ts) B C bD b2 (o _ b3 _ a) (mis:=mis) (path:=path) f;simp only[b,k,ak,cZ,c9,bK,bT,bJ,Int.reduceEq,cW,dK];cases v;simp_all [I.aO]
  . obtain⟨a1,a2,a3,a4,a5,c,e,d,a9⟩:=h;have b:x.Kind=7:=(by omega);have g:=yR (o _ a9) (by omega) (mis:=mis) f;simp only[b,g,d,ak,cZ,c9,bK,bT,bJ,Int.reduceEq,cW,dK];cases v;simp_all
  . obtain⟨a1,a2,a3,a4,a5,c,e,d,a9,F,X⟩:=h;have b:x.Kind=8:=(by omega);have g:=yR (o _ F) (by omega) (mis:=mis) f;have N:=yR (R _ a9) (by omega) (mis:=mis) f;have G:(v.ai.length:Int)<=x.Max:=(by omega);simp only[b,g,N,G,ak,cZ,c9,bK,bT,bJ,Int.reduceEq,cW,dK];cases v;simp_all
  . obtain⟨a1,a2,a3,a4,a5,c,e,d,a9⟩:=h;have b:x.Kind=9:=(by omega);have g:=yR (o _ a9) (by omega) (mis:=mis) f;simp only[b,g,ak,cZ,c9,bK,bT,bJ,Int.reduceEq,cW,dK];cases v;simp_all
end
theorem y0{f g:α->Option c}:∀{l:List α} {m:List c},(∀a b,a∈l->f a=some b->g a=some b)->cm f l=some m->cm g l=some m
 |[],m,_,h=>h
 |a::l,m,ao,h=>by
  simp only[cm]at h⊢;split at h
  . rename_i b j d e;rw[ao a b (.head _) d,y0 (λx y i=>ao x y (.tail _ i)) e];exact h
  . cases h
section
variable {f g:qh}(h:∀t p v,f t p=some v->g t p=some v){x:ah}{v:I}
include h
theorem aa7(a:mS f x p=some v):mS g x p=some v:=by
 cases p with
 |nil=>exact a
 |cons c q=>
  simp only[mS]at a⊢;split at a
  . rename_i b;obtain⟨u,d,rfl⟩:=n9.1 a;rw[ad b,h _ _ _ d];rfl
  . cases a
theorem aa8(b:rQ f x p=some v):rQ g x p=some v:=by
 unfold rQ at b⊢;cases c:jW p with
 |none=>rw[c]at b;cases b
 |some a=>
  obtain⟨id,q⟩:=a;rw[c]at b;dsimp only at b⊢;cases bD:cD x.ag id with
  |none=>rw[bD]at b;exact b
  |some m=>
   rw[bD]at b;obtain⟨u,d,rfl⟩:=n9.1 b;dsimp only;rw[h _ _ _ d];rfl
theorem ace(c:oo f x p=some v):oo g x p=some v:=by
 unfold oo at c⊢;split at c
 . split at c
   . rename_i i;obtain⟨u,d,rfl⟩:=n9.1 c;simp only[*,bJ];rw[y0 (λa b _ e=>h _ _ _ e) d];rfl
   . cases c
 . cases c
theorem acf(c:rR f x p=some v):rR g x p=some v:=by
 unfold rR at c⊢;split at c
 . split at c
   . rename_i k;split at c
     . rename_i ks i;split at c
       . rename_i d;obtain⟨u,j,rfl⟩:=n9.1 c;simp only[*];rw[ad ⟨trivial,trivial⟩];rw[y0 (λa b _ e=>h _ _ _ e) i];simp only[d,bJ];rw[y0 (λa b _ e=>h _ _ _ e) j];rfl
       . cases c
     . cases c
   . cases c
 . cases c
theorem acg(c:om f x p=some v):om g x p=some v:=by
 unfold om at c⊢;split at c
 . rename_i l ae;split at c
   . rename_i i d
     have:cm (ei g l) x.ag=some i:=y0 (λa b _ e=>by
      unfold ei at e⊢;split at e
      . exact h _ _ _ e
      . exact e) d
     simp only[ae,this];exact c
   . cases c
 . cases c
theorem ach(a:rS f x p=some v):rS g x p=some v:=by
 unfold rS at a⊢;by_cases b:x.Kind=1
 . rw[ad b]at a⊢;exact a
 rw[al b]at a⊢;by_cases c:x.Kind=2
 . rw[ad c]at a⊢;exact a
 rw[al c]at a⊢;by_cases d:x.Kind=3
 . rw[ad d]at a⊢;exact a
 rw[al d]at a⊢;by_cases e:x.Kind=4
 . rw[ad e]at a⊢;exact a
 rw[al e]at a⊢;by_cases k:x.Kind=9
 . rw[ad k]at a⊢;exact aa7 h a
 rw[al k]at a⊢;by_cases i:x.Kind=6
 . rw[ad i]at a⊢;exact aa8 h a
 rw[al i]at a⊢;by_cases fj:x.Kind=7
 . rw[ad fj]at a⊢;exact ace h a
 rw[al fj]at a⊢;by_cases j:x.Kind=8
 . rw[ad j]at a⊢;exact acf h a
 rw[al j]at a⊢;exact acg h a
end
section
variable {ts:List ah}
theorem KX:∀(n k:Nat) (t:Int) (p:aj) (v:I),c1 ts n t p=some v->c1 ts (n+k) t p=some v
 |0,k,t,p,v,h=>by rw[DH]at h;cases h
 |n+1,k,t,p,v,h=>by
  rw[ve]at h;rw[show n+1+k=n+k+1 by omega,ve];exact ach (KX n k) h
theorem aci(H:iF ts)(c:bH v){m:Nat}(b:(bA ts t v).length<=90000)(a:b6 ts false t v)(h:c1 ts m t (bA ts t v)=some u):u=v:=by
 have h1:=M0 H c b a (Nat.le_add_left (ep ts t v) m);rw[KX m _ t _ u h]at h1;exact kR h1
end
theorem KY:∀(l:List I),(∀v,v∈l->wt (dw v)<=wt v)->cB (l.map dw)<=cB l
 |[],_=>by simp
 |v::l,h=>by
  rw[gB,gO,gO];have:=h v (.head _);have:=KY l λw a=>h w (.tail _ a);omega
theorem M1(a:bH v):wt (dw v)<=wt v:=by
 induction a with
 |mk v hs h1 c d f e g db j k l i b=>
  rw[pB,fg,fg v];have:=KY v.ai b;dsimp only;split
  . simp only[p1,tS];omega
  . omega
theorem acj(H:di ts)(c:bH v)(d:wt v<=3000)(b:b6 ts true t v):qd ts ts t v t= .inl v:=by
 obtain⟨⟨e,f,_⟩,_⟩:=(eO _ _ _).1 b;have h1:=aa6 (H.V.hT H.T) c t (by omega) b [] [] (by simp;omega);have a:=IE H H 3000 c d d [] b e f (path:=[]) (by simp);rw[h1]at a;unfold qd;cases h:eb ts ts 3000 t v t []with
 |inl u=>
  rw[h]at a;have:=dS Prod.fst (kR a);rw[show v=u from this]
 |inr p=>
  rw[h]at a;have:=dS (λx=>x.2.1) (kR a);cases this
theorem NY(H:di ts)(ht:0<=t/\t<ts.length)(m:aj):gp ts t m=(er,12)\/∃v,gp ts t m=(v,0)/\r1 ts t v:=by
 unfold gp;rw[bp];by_cases a:4096<m.length
 . rw[ad a];exact .inl rfl
 . rw[al a];cases b:c1 ts 200 t m with
   |none=>exact .inl rfl
   |some v=>exact .inr ⟨v,rfl,Lx H ht (by omega) b⟩
theorem NZ(ts:List ah)(t:Int)(v:I):kf ts t v=([],3)\/kf ts t v=(bA ts t v,0)/\(bA ts t v).length<=4096/\ep ts t v<=200:=by
 unfold kf;split
 . exact .inl rfl
 . rename_i h;exact .inr ⟨rfl,Nat.le_of_not_lt λa=>h (.inl a),Nat.le_of_not_lt λa=>h (.inr a)⟩
theorem ack(H:di ts)(ht:0<=t/\t<ts.length)(c:bH v)(b:b6 ts false t v)(h1:(bA ts t v).length<=4096)(a:ep ts t v<=200):gp ts t (bA ts t v)=(v,0):=by
 unfold gp;rw[bp,al (Nat.not_lt.2 h1),M0 (H.V.hT H.T) c (hP h1 (by decide)) b a]
section
variable {tw tr:List ah}{t rt:Int}
abbrev hS(tw:List ah)(t:Int):dv:=⟨⟨tw⟩,t⟩
def qg(tw tr:List ah)(t rt:Int)(m:aj)(v u:I)(o:aj)(e:Int):Prop:=
 nx (hS tw t,hS tr rt,m)=some (⟨v,u,o⟩,e)/\rl (hS tw t,hS tr rt,m)=some (⟨v,u,o⟩,e)
theorem Dh(H:di ts)(ht:0<=t/\t<ts.length):uW (hS ts t)=some 0/\kH ((⟨ts⟩:aQ),t)=some 0:=by
 have a:¬t<0:=by omega
 have b:¬(ts.length:Int)<=t:=by omega
 rw[uW,kH];simp only[hS];rw[(pA H.T H.V).1,(pA H.T H.V).2];simp[a,b]
theorem acm(b:di tw)(a:di tr)(ht:0<=t/\t<tw.length)(c:0<=rt/\rt<tr.length):BS [hS tw t,hS tr rt]=some 0/\F4 (hS tw t,hS tr rt)=some 0:=by
 constructor
 . have d:my ([hS tw t,hS tr rt],2,2)=some (.inr ()):=by rw[my];rfl
   have h1:my ([hS tw t,hS tr rt],2,1)=some (.inr ()):=by
    rw[my,ad (by decide),ad (by rfl)];show(uW (hS tr rt)>>=_)=_;rw[(Dh a c).1];exact d
   have h0:my ([hS tw t,hS tr rt],2,0)=some (.inr ()):=by
    rw[my,ad (by decide),ad (by rfl)];show(uW (hS tw t)>>=_)=_;rw[(Dh b ht).1];exact h1
   rw[BS];show(my ([hS tw t,hS tr rt],2,0)>>=_)=_;rw[h0];rfl
 . rw[F4];show(kH ((⟨tw⟩:aQ),t)>>=_)=_;rw[(Dh b ht).2];simp only[aT,ak];rw[bq];show((kH ((⟨tr⟩:aQ),rt)).bind _)=_;rw[(Dh a c).2];rfl
theorem KZ(c:di tw)(d:di tr)(ht:0<=t/\t<tw.length)(k:0<=rt/\rt<tr.length){m:aj}(hs:∀v,gp tw t m=(v,0)->wt v<=3000):
 (gp tw t m=(er,12)/\qg tw tr t rt m er er [] 12)\/∃v,gp tw t m=(v,0)/\r1 tw t v/\((¬b6 tw true t (dw v)/\qg tw tr t rt m er er [] 12)\/b6 tw true t (dw v)/\
  (((∃p,qd tw tr t (dw v) rt= .inr p)/\qg tw tr t rt m er er [] 12)\/(∃x,qd tw tr t (dw v) rt= .inl x)/\
  ((kf tw t v=([],3)/\qg tw tr t rt m er er [] 3)\/(kf tw t v=(bA tw t v,0)/\(bA tw t v).length<=4096/\ep tw t v<=200)/\
  ((gp tr rt (bA tw t v)=(er,12)/\qg tw tr t rt m er er [] 12)\/∃u,gp tr rt (bA tw t v)=(u,0)/\r1 tr rt u/\
  ((kf tr rt u=([],3)/\qg tw tr t rt m er er [] 3)\/kf tr rt u=(bA tr rt u,0)/\((bA tr rt u).length<=4096/\ep tr rt u<=200)/\qg tw tr t rt m v u (bA tr rt u) 0))))):=by
 obtain⟨e,f⟩:=acm c d ht k;have d1:tF ((⟨tw⟩:aQ),t,m)=some (gp tw t m):=JQ c.gG t m;have d2:nU ((⟨tw⟩:aQ),t,m)=some (gp tw t m):=Cu c.gG t m;rcases NY c ht m with a|⟨v,a,F⟩
 . left;refine⟨a,?_,?_⟩
   . rw[nx,e];simp[I.aO,zeroV,pP,d1,a,er]
   . rw[rl,f];simp[I.aO,zeroV,d2,a,er]
 . right;refine⟨v,a,F,?_⟩;obtain⟨b,b1,b2,b3⟩:=JL c F.2.1 F.1;have s1:u4 ((⟨tw⟩:aQ),t,v)=_:=b2;have l:rq ((⟨tw⟩:aQ),t,v)=_:=b3;cases b with
   |false=>
    left;refine⟨λh=>(by have:=b1.2 h;cases this),?_,?_⟩
    . rw[nx,e];simp[I.aO,zeroV,pP,d1,a,er,s1]
    . rw[rl,f];simp[I.aO,zeroV,d2,a,er,l]
   |true=>
    right;have o:=b1.1 rfl;refine⟨o,?_⟩;have q:=Hq F.2.1;have r:=hP (M1 F.2.1) (hs v a);have g:x3 ((⟨tw⟩:aQ),t,dw v,(⟨tr⟩:aQ),rt)=_:=X6 c d q r o k.1 k.2;have i:BZ ((⟨tw⟩:aQ),t,dw v,(⟨tr⟩:aQ),rt)=_:=X7 c d q r o k.1 k.2;cases s:qd tw tr t (dw v) rt with
    |inr p=>
     left;rw[s]at g i;refine⟨⟨p,rfl⟩,?_,?_⟩
     . rw[nx,e];simp[I.aO,zeroV,pP,d1,a,er,s1,g,lB]
     . rw[rl,f];simp[I.aO,zeroV,d2,a,er,l,i,lB]
    |inl x=>
     right;rw[s]at g i;refine⟨⟨x,rfl⟩,?_⟩;have aK:lL ((⟨tw⟩:aQ),t,v)=_:=Lw c F;have j:o5 ((⟨tw⟩:aQ),t,v)=_:=ID c F;rcases NZ tw t v with he|⟨he,ae⟩
     . left;rw[he]at aK j;refine⟨he,?_,?_⟩
       . rw[nx,e];simp[I.aO,zeroV,pP,d1,a,er,s1,g,lB,aK]
       . rw[rl,f];simp[I.aO,zeroV,d2,a,er,l,i,lB,j]
     . right;rw[he]at aK j;refine⟨⟨he,ae⟩,?_⟩;have d3:tF ((⟨tr⟩:aQ),rt,bA tw t v)=some (gp tr rt (bA tw t v)):=JQ d.gG rt _;have d4:nU ((⟨tr⟩:aQ),rt,bA tw t v)=some (gp tr rt (bA tw t v)):=Cu d.gG rt _;rcases NY d k (bA tw t v)with n|⟨u,n,G⟩
       . left;rw[n]at d3 d4;refine⟨n,?_,?_⟩
         . rw[nx,e];simp[I.aO,zeroV,pP,d1,a,er,s1,g,lB,aK,d3]
         . rw[rl,f];simp[I.aO,zeroV,d2,a,er,l,i,lB,j,d4]
       . right;rw[n]at d3 d4;refine⟨u,n,G,?_⟩;have dn:lL ((⟨tr⟩:aQ),rt,u)=_:=Lw d G;have iu:o5 ((⟨tr⟩:aQ),rt,u)=_:=ID d G;rcases NZ tr rt u with dG|⟨dG,w⟩
         . left;rw[dG]at dn iu;refine⟨dG,?_,?_⟩
           . rw[nx,e];simp[I.aO,zeroV,pP,d1,a,er,s1,g,lB,aK,d3,dn]
           . rw[rl,f];simp[I.aO,zeroV,d2,a,er,l,i,lB,j,d4,iu]
         . right;rw[dG]at dn iu;refine⟨dG,w,?_,?_⟩
           . rw[nx,e];simp[I.aO,zeroV,pP,d1,a,s1,g,lB,aK,d3,dn]
           . rw[rl,f];simp[I.aO,zeroV,d2,a,l,i,lB,j,d4,iu]
end
structure wS (tw tr:List ah)(t:Int)(v:I):Prop where
 W:di tw
 R:di tr
 t1:0<=t/\t<tw.length
 t2:0<=t/\t<tr.length
 f:b6 tw false t v
 o:bH v
 w:wt v<=3000
theorem age{c:nn}(h:wR c.C):(∃w r m,x8 c=some (w,r,m,false))\/∃tw tr t v,x8 c=some (hS tw t,hS tr t,bA tw t v,true)/\wS tw tr t v:=by
 have d:∀{ts:List ah} {t:Int} {v:I},di ts->bH v->wt v<=3000->b6 ts false t v->ja ((⟨ts⟩:aQ),t,v)=some (bA ts t v):=λH j k i=>Ds (H.V.hT H.T) j (by omega) _ i;rw[x8];rcases aa4 h with⟨w,r,t,v,e⟩|⟨tw,tr,t,v,⟨e,C⟩,w,e8,g,a⟩
 . rw[e];exact .inl ⟨_,_,_,rfl⟩
 . rw[e];simp only[aT,ak,cW,bK,bT];cases c.wU with
   |true=>
    obtain⟨b,b1,b2⟩:=GH a;rw[ad rfl,e8];simp only[ak,I.aO];rw[b1];cases b with
    |false=>exact .inl ⟨_,_,_,rfl⟩
    |true=>
     right;refine⟨tw,tr,t,w,?_,C.W,C.R,⟨C.t0,C.t1⟩,⟨C.t0,C.t2⟩,g,a,b2 rfl⟩;simp[d C.W a (b2 rfl) g]
   |false=>
    obtain⟨b,b1,b2⟩:=GH C.o;rw[bq];simp only[I.aO];rw[b1];cases b with
    |false=>exact .inl ⟨_,_,_,rfl⟩
    |true=>
     right;refine⟨tw,tr,t,v,?_,C.W,C.R,⟨C.t0,C.t1⟩,⟨C.t0,C.t2⟩,oq _ _ C.f,C.o,C.w⟩;simp[d C.W C.o C.w (oq _ _ C.f)]
theorem wS.back(C:wS tw tr t v):∀u,gp tw t (bA tw t v)=(u,0)->u=v:=λu h=>by
 rcases JP tw t (bA tw t v)with⟨e,he,a⟩|⟨x,a,_,c,j⟩
 . rw[a]at h;exact absurd (dS Prod.snd h) he
 . rw[a]at h;have:x=u:=dS Prod.fst h;subst this;exact aci (C.W.V.hT C.W.T) C.o (hP c (by decide)) C.f j
theorem wS.some(C:wS tw tr t v):∃x u o e,qg tw tr t t (bA tw t v) x u o e/\(e=0->bH x/\r1 tr t u/\gp tr t o=(u,0)):=by
 rcases KZ C.W C.R C.t1 C.t2 (m:=bA tw t v) (λu h=>by rw[C.back u h];exact C.w)with⟨_,h⟩|⟨x,_,F,⟨_,h⟩|⟨_,⟨_,h⟩|⟨_,⟨_,h⟩|⟨_,⟨_,h⟩|⟨u,_,G,⟨_,h⟩|⟨_,⟨a,l2⟩,h⟩⟩⟩⟩⟩⟩
 . exact⟨_,_,_,_,h,by omega⟩
 . exact⟨_,_,_,_,h,by omega⟩
 . exact⟨_,_,_,_,h,by omega⟩
 . exact⟨_,_,_,_,h,by omega⟩
 . exact⟨_,_,_,_,h,by omega⟩
 . exact⟨_,_,_,_,h,by omega⟩
 . exact⟨_,_,_,_,h,λ_=>⟨F.2.1,G,ack C.R C.t2 G.2.1 G.1 a l2⟩⟩
theorem adq{c:nn}(n:wR c.C):Ak c=some true:=by
 rw[Ak,U8];rcases age n with⟨w,r,m,e⟩|⟨tw,tr,t,v,e,C⟩
 . rw[e];rfl
 . rw[e];simp only[aT,ak,cW,dV,bK,bT];have d2:nU ((⟨tw⟩:aQ),t,bA tw t v)=some (gp tw t (bA tw t v)):=Cu C.W.gG t _;have g:vn ((⟨tw⟩:aQ),t,bA tw t v)=some (xu tw t (bA tw t v)):=X5 C.W t _;rw[Ge,d2];rcases KZ C.W C.W C.t1 C.t1 (m:=bA tw t v) (λu h=>by rw[C.back u h];exact C.w)with⟨a,h,_⟩|⟨x,a,F,h⟩
   . rw[h,a];simp
   . have s:=C.back x a;subst s;obtain⟨b,b1,b2,b3⟩:=JL C.W F.2.1 F.1;have i:rq ((⟨tw⟩:aQ),t,x)=_:=b3;have l:xu tw t (bA tw t x)=kf tw t x:=by
      unfold xu;rw[a,ad rfl]
     rw[l]at g;rcases h with⟨aD,h,_⟩|⟨j,h⟩
     . have f:b=false:=by cases b with
        |false=>rfl
        |true=>exact absurd (b1.1 rfl) aD
       subst f;rw[h,a];simp[I.aO,i]
     . have f:=b1.2 j;subst f;have q:=hP (M1 C.o) C.w;rcases h with⟨⟨p,k⟩,_⟩|⟨_,⟨he,h,_⟩|⟨⟨he,y,l2⟩,h⟩⟩
       . rw[acj C.W (Hq C.o) q j]at k;cases k
       . rw[h,a];simp[I.aO,i,g,he]
       . rw[a]at h;rcases h with⟨d,_⟩|⟨u,d,_,⟨dG,_⟩|⟨dG,_,h,_⟩⟩
         . exact absurd (dS Prod.snd d) (by simp)
         . have:x=u:=dS Prod.fst d;subst this;rw[he]at dG;exact absurd (dS Prod.snd dG) (by simp)
         . have:x=u:=dS Prod.fst d;subst this;rw[h,a];simp[I.aO,i,g,he]
theorem acn{c:nn}(h:∀d,d∈cO.oM F0 c->WF cO d):wR c.C:=
 af4 λd a=>h d (by
  show d∈cO.oM SH c.C++[⟨.bool,c.wU⟩]
  exact BH _ a)
theorem af1(h:aL cO.D [.nm F0])(a:Ok cO [.nm F0] h):Ak h=some true:=adq (acn (agk a))
end
end Go.Proofs.YtdjagncoefjfeaaGreat
