/- The functions of the program as functions of Lean, that its code does what they say, and what they answer; part D. -/
import Derived.Test.YtdjagncoefjfeaaGreatCtC

namespace Go.Proofs.YtdjagncoefjfeaaGreat
set_option linter.all false
section
open Go Go.Proofs.YtdjagncoefjfeaaGreat.Shv Go.Sort
set_option maxRecDepth 100000
variable{ks:List I}{path b1:ar}{p q:ak}{v w:I}{t b2 L id rt:Int}{α c:Type}{x y:ai}{ts tr tw:List ai}{a:Option (I×Bool×List ai×ar×Int×ar)}{o:Option I}{F:iQ}{ms:List aU}{aJ:List fu}
section
variable {ts:List ai}
theorem aes{a b:I}(c:cx a.bc)(d:cx b.bc):qe (a,b)=some (g' a b):=by
 obtain⟨r,e,f⟩:=DJ c d;have:=v' c d;grind
theorem Pp{x:ai}(c:path.length<=1000){l:List ak}(a:∀y,y∈ks->cx y.bc)(af:ks.length<=90000)
 {z0 z2 z4 a0 a2 a4:Int}{z1 a1:Bool}{z3 a3:ak}{b1:ar}{b2:Int}:∀(k i:Nat),ks.length-(i+1)=k->
 ((∀m,i<=m->m+1<ks.length->g' (ks.getD m av) (ks.getD (m+1) av)<0)/\rp (l,((i+1:Nat):Int),ts,b1,b2,x,z0,z1,z2,z3,z4,a0,a1,a2,a3,a4,path,ks)=some (.inr (l,ts,b1,b2,x,z0,z1,z2,z3,z4,a0,a1,a2,a3,a4,path,ks)))\/
 ((∃m,m+1<ks.length/\¬g' (ks.getD m av) (ks.getD (m+1) av)<0)/\∃w f1 f2,rp (l,((i+1:Nat):Int),ts,b1,b2,x,z0,z1,z2,z3,z4,a0,a1,a2,a3,a4,path,ks)=some (.inl (false,ts,f2,w,path,f1)))
 |0,i,d=>by
  rw[rp,b'];grind
 |k+1,i,d=>by
  have aB:i+1<ks.length:=by omega
  have aN:c9 .i64 ((i+1:Nat):Int) 1=(i:Int):=by rw[gS];omega
  rw[rp,br,aN];simp only[aS,ao];rw[ae (aP (by omega)),br,ae (aP aB),br,aZ,aZ];simp only[I.aV];rw[aes (a _ (bd (by omega) av)) (a _ (bd aB av))];simp only[ao];by_cases b:g' (ks.getD i av) (ks.getD (i+1) av)<0
  . rw[al (by simpa using b),bC];rcases Pp c a af (x:=x) (l:=l) (z0:=z0) (z1:=z1) (z2:=z2) (z3:=z3) (z4:=z4) (a0:=a0) (a1:=a1) (a2:=a2) (a3:=a3) (a4:=a4) (b1:=b1) (b2:=b2) k (i+1) (by omega)with⟨h1,e⟩|h
    . grind
    grind
  . rw[ae (by simpa using b),zE c];grind
theorem Pq{m:Nat}(h:m<18446744073709551616):cx (ia m):=by
 unfold ia cx;omega
theorem l8:cx 0:=by unfold cx;omega
def mv(o:Option I):Prop:=∀v,o=some v->cx v.bc
theorem mv.ite{c:Prop}[Decidable c]{a b:Option I}(e:c->mv a)(f:¬c->mv b):mv (if c then a else b):=by grind
theorem mv.no:mv none:=λv h=>(by cases h)
theorem mv.zero{k i:Int}{b:Bool}{s:ak}{a:List I}{r:List bW}:mv (some ⟨k,b,0,s,i,ks,a,r⟩):=λv h=>(by cases h;exact l8)
theorem mv.map{α:Type}{o:Option α}{k i:Int}{b:Bool}{s:ak}{ks a:α->List I}{r:List bW}:mv (o.map λv=>⟨k,b,0,s,i,ks v,a v,r⟩):=λv h=>by obtain⟨_,_,rfl⟩:=kQ.1 h;exact l8
theorem Nh{n:Nat}(h:cY ts n t p=some v):cx v.bc:=by
 have key:mv (cY ts n t p):=by
  cases n with
  |zero=>unfold cY;exact .no
  |succ n=>
   unfold cY;refine .ite (λ_=>.ite (λ_=>.zero) λ_=>.ite (λ_=>.zero) λ_=>.no) λ_=>?_;refine .ite (λ_=>?_) λ_=>?_
   . cases b:gD p with
     |none=>exact .no
     |some m=>exact .ite (λ_=>λv h=>(by cases h;exact Pq (EK b))) λ_=>.no
   refine .ite (λ_=>.ite (λ_=>.zero) λ_=>.no) λ_=>?_;refine .ite (λ_=>?_) λ_=>?_
   . cases b:gD p with
     |none=>exact .no
     |some m=>exact .ite (λ_=>.zero) λ_=>.no
   refine .ite (λ_=>?_) λ_=>?_
   . cases p with
     |nil=>exact .zero
     |cons c q=>exact .ite (λ_=>.map) λ_=>.no
   refine .ite (λ_=>?_) λ_=>?_
   . cases jA p with
     |none=>exact .no
     |some a=>
      obtain⟨id,q⟩:=a;dsimp only;cases cB (ts.getD t.toNat aK).ah id with
      |none=>exact .ite (λ_=>.zero) λ_=>.no
      |some m=>exact .map
   refine .ite (λ_=>?_) λ_=>?_
   . cases ib p with
     |none=>exact .no
     |some l=>exact .ite (λ_=>.map) λ_=>.no
   refine .ite (λ_=>?_) λ_=>?_
   . cases ib p with
     |none=>exact .no
     |some l=>
      refine .ite (λ_=>?_) λ_=>.no;cases cg (cY ts n (ts.getD t.toNat aK).Key) (e5 l)with
      |none=>exact .no
      |some ks=>exact .ite (λ_=>.map) λ_=>.no
   . cases iI p with
     |none=>exact .no
     |some l=>
      dsimp only;split
      . exact .ite (λ_=>.zero) λ_=>.no
      . exact .no
 exact key v h
theorem pU{d:Type}{f:α->Option d}:∀{l:List α} {m:List d},cg f l=some m->∀y,y∈m->∃a,a∈l/\f a=some y
 |[],m,h,y,c=>by rw[cg]at h;cases h;cases c
 |a::l,m,h,y,c=>by
  rw[cg]at h;split at h
  . rename_i b i h1 e;cases h;rcases eJ.1 c with rfl|c
    . grind
    . obtain⟨g,k1,k2⟩:=pU e y c;grind
  . cases h
theorem Ah:∀{l:List α} {y:α},y∈e5 l->y∈l
 |[],y,h=>by cases h
 |[_],y,h=>by cases h
 |a::b::l,y,h=>by
  rcases eJ.1 h with rfl|h
  . grind
  . exact .tail _ (.tail _ (Ah h))
theorem H2:∀(l:List α),(e5 l).length<=l.length
 |[]=>d' _
 |[_]=>hR _
 |a::b::l=>by
  show(e5 l).length+1<=l.length+1+1;have:=H2 l;omega
theorem S8{a:Nat}(h:a<1000000):fC .i64 (a:Int) 2=((a/2:Nat):Int):=by
 unfold fC;have e:(a:Int).tdiv 2=((a/2:Nat):Int):=by rw[Cg (by omega)];omega
 rw[e];exact jC
theorem aet{n:Nat}(ih:xx ts n)(k8:x.Kind=8)(bD:0<=x.Key/\x.Key<ts.length)(dL:0<=x.aF/\x.aF<ts.length)(O:p.length<=4096)(P:path.length+(n+1)=200):
 fM ts b1 b2 path (match ib p with
  |some l=>if l.length%2 = 0/\((l.length/2:Nat):Int)<=x.Max then (match cg (cY ts n x.Key) (e5 l) with
   |some ks=>if o0 ks then(cg (cY ts n x.aF) (fh l)).map λs=>(⟨8,false,0,[],0,ks,s,[]⟩:I)else none
   |none=>none)else none
  |none=>none) (yt (x,p,ts,b1,b2,path)):=by
 obtain⟨o,L,M,N⟩:=tZ (p:=p) (by omega);rw[yt,L];simp only[aS,ao];by_cases h0:o.2=0
 . obtain⟨v1,z,v3⟩:=M h0;rw[v1];dsimp only;have G:b7 (o.1.length:Int) 2=((o.1.length%2:Nat):Int):=by rw[hj];omega
   rw[G,S8 (by omega)];by_cases he:o.1.length%2=0
   . have b:¬(bif (!(decide (o.2=0)))then true else(!(decide (((o.1.length%2:Nat):Int)=0))))=true:=(by grind);rw[al b];by_cases t:((o.1.length/2:Nat):Int)<=x.Max
     . rw[ae (show o.1.length%2=0/\((o.1.length/2:Nat):Int)<=x.Max from⟨he,t⟩),al (show ¬decide (x.Max<((o.1.length/2:Nat):Int))=true by simp only[eT];omega)];have D:∀q,q∈o.1->∀step b1 b2,fM ts b1 b2 path (cY ts n x.Key q) (iW (step,x.Key,q,ts,b1,b2,path)):=λq k step b1 b2=>
        wb (by omega) (ih x.Key q b1 b2 (path++[step]) bD.1 bD.2 (by have:=z q k;omega) (by simp;omega))
       have j:∀q,q∈o.1->∀step b1 b2,fM ts b1 b2 path (cY ts n x.aF q) (iW (step,x.aF,q,ts,b1,b2,path)):=λq k step b1 b2=>
        wb (by omega) (ih x.aF q b1 b2 (path++[step]) dL.1 dL.2 (by have:=z q k;omega) (by simp;omega))
       obtain⟨ft,c⟩:=N2 (x:=x) (l:=o.1) (by omega) he D (z0:=0) (z1:=false) (z2:=0) (z3:=[]) (z4:=0) (a0:=x.Kind) (a1:=false) (a2:=0) (a3:=[]) (a4:=0) (b1:=b1) (b2:=b2) (o.1.length/2) 0 [] (by omega) rfl;have d0:o.1.drop (2*0)=o.1:=rfl;rw[d0]at ft c;have z0:((2*0:Nat):Int)=0:=rfl;rw[z0]at ft c;cases hs:cg (cY ts n x.Key) (e5 o.1)with
       |none=>
        obtain⟨w,f1,f2,r⟩:=c hs;rw[r];exact⟨λv h=>(by cases h),λ_=>⟨_,_,_,rfl⟩⟩
       |some ks=>
        rw[ft ks hs];simp only[ao,fS];have E:∀y,y∈ks->cx y.bc:=λy H=>by
         obtain⟨a,_,C⟩:=pU hs y H;exact Nh C
        have F:ks.length<=90000:=by
         have:=qS hs;have:=H2 o.1;omega
        have B:=Pp (ts:=ts) (x:=x) (path:=path) (by omega) (l:=o.1) E F (z0:=0) (z1:=false) (z2:=0) (z3:=[]) (z4:=0) (a0:=x.Kind) (a1:=false) (a2:=0) (a3:=[]) (a4:=0) (b1:=b1) (b2:=b2) _ 0 rfl;have z1:((0+1:Nat):Int)=1:=rfl;rw[z1]at B;rcases B with⟨A,d⟩|⟨⟨m,J,K⟩,w,f1,f2,d⟩
        . have g:o0 ks=true:=wa.2 λi j=>A i (hR _) j;rw[ae g,d];simp only[ao];obtain⟨e,f⟩:=M5 (x:=x) (l:=o.1) (by omega) he j (z0:=0) (z1:=false) (z2:=0) (z3:=[]) (z4:=0) (a0:=x.Kind) (a1:=false) (a2:=0) (a3:=[]) (a4:=0) (b1:=b1) (b2:=b2) (ks:=ks) (o.1.length/2) 0 [] (by omega) rfl;rw[d0]at e f;have z2:((2*0+1:Nat):Int)=1:=rfl;rw[z2]at e f;cases u:cg (cY ts n x.aF) (fh o.1)with
          |none=>
           obtain⟨w,f1,f2,r⟩:=f u;rw[r];exact⟨λv h=>(by cases h),λ_=>⟨_,_,_,rfl⟩⟩
          |some s=>
           rw[e s u];exact⟨λv h=>(by cases h;simp[k8]),λh=>(by cases h)⟩
        . have g:¬o0 ks=true:=λh=>K (wa.1 h m J);rw[al g,d];exact⟨λv h=>(by cases h),λ_=>⟨I.eta w,f1,f2,rfl⟩⟩
     . rw[al (show ¬(o.1.length%2=0/\((o.1.length/2:Nat):Int)<=x.Max)fromλh=>t h.2),ae (show decide (x.Max<((o.1.length/2:Nat):Int))=true by simp only[eT];omega)];exact jM (by omega) _ _ _
   . have b:(bif (!(decide (o.2=0)))then true else(!(decide (((o.1.length%2:Nat):Int)=0))))=true:=(by grind);rw[al (show ¬(o.1.length%2=0/\((o.1.length/2:Nat):Int)<=x.Max)fromλh=>he h.1),ae b];exact jM (by omega) _ _ _
 . have b:(bif (!(decide (o.2=0)))then true else(!(decide (b7 (o.1.length:Int) 2=0))))=true:=(by simp[h0]);rw[ae b,N h0];exact jM (by omega) _ _ _
theorem abc{l:List cT}(m:aU)(af:l.length<=90000):(∃j,j<l.length/\l.find? (λf=>decide (f.ad=m.ad))=some (l.getD j gk)/\ym (l,m)=some ((j:Int),m))\/
 (l.find? (λf=>decide (f.ad=m.ad))=none/\ym (l,m)=some (-1,m)):=by
 have h:=qQ (λi=>pF (l,(l.length:Int),(i:Int),m)) l.length (λi=>decide ((l.getD i gk).ad=m.ad)) (λi=>.inl ((i:Int),m)) (.inr m)
  (λi a=>by
   rw[pF,br,ae (aP a)];simp only[aS,ao,aZ,I.aV,G3]
   rw[bC])
  (by rw[pF,bw];simp only[jo])
 have c4:pF (l,(l.length:Int),((0:Nat):Int),m)=pF (l,(l.length:Int),0,m):=rfl;simp only[c4]at h;rw[ym];simp only[jo];rcases h with⟨j,h1,c,d,b⟩|⟨h1,b⟩
 . left;refine⟨j,h1,?_,by rw[b];simp only[aS,ao,jo]⟩;rw[dv h1]at c⊢;rw[Cd];refine⟨c,j,h1,rfl,λk g=>?_⟩;have:=d k g;rw[dv (by omega)]at this;simpa using this
 . right;refine⟨?_,by rw[b];simp only[aS,ao,jo]⟩;rw[yD];intro f e;obtain⟨i,a,rfl⟩:=e1 e;have:=h1 i a;rw[dv a]at this;simpa using this
def xH{a:Type}:Option a->Option (List a)->Option (List a)
 |some b,some m=>some (b::m)
 |_,_=>none
theorem vU{b:Type}(f:α->Option b)(a:α)(l:List α):cg f (a::l)=xH (f a) (cg f l):=by rfl
def eg(f:Int->ak->Option I)(l:List cT)(m:aU):Option I:=match l.find? (λf=>decide (f.ad=m.ad))with
 |some g=>f m.aw g.Data
 |none=>if m.bU then some m.bA else none
theorem Ni {x:ai}{path:ar}(F:path.length<=900){f:Int->ak->Option I}{l:List cT}(af:l.length<=90000)(B:x.ah.length<=16)
 (s:∀m,m∈x.ah->m.bU=true->jK m.bA=some m.bA)
 (h:∀m,m∈x.ah->∀q,q∈l->∀step b1 b2,fM ts b1 b2 path (f m.aw q.Data) (iW (step,m.aw,q.Data,ts,b1,b2,path)))
 {z0 z2 z4 a0 a2 a4:Int}{z1 a1:Bool}{z3 a3:ak}{b1:ar}{b2:Int}:∀(k i:Nat) (acc:List I),i+k=x.ah.length->acc.length=i->
 (∀m,cg (eg f l) (x.ah.drop i)=some m->mF (l,x.ah,(x.ah.length:Int),(i:Int),ts,b1,b2,x,z0,z1,z2,z3,z4,a0,a1,a2,a3,a4,path,acc)=some (.inr (l,ts,b1,b2,x,z0,z1,z2,z3,z4,a0,a1,a2,a3,a4,path,acc++m)))/\
 (cg (eg f l) (x.ah.drop i)=none->∃w f1 f2,mF (l,x.ah,(x.ah.length:Int),(i:Int),ts,b1,b2,x,z0,z1,z2,z3,z4,a0,a1,a2,a3,a4,path,acc)=some (.inl (false,ts,f1,f2,w,path)))
 |0,i,acc,E,D=>by
  rw[mF,b',en (by omega),cg];grind
 |k+1,i,acc,E,D=>by
  have aB:i<x.ah.length:=by omega
  have u:=bd aB aC;have e:x.ah.drop i=x.ah.getD i aC::x.ah.drop (i+1):=by rw[dv aB];exact lB aB
  have go:∀v,(∀n,cg (eg f l) (x.ah.drop (i+1))=some n->mF (l,x.ah,(x.ah.length:Int),((i+1:Nat):Int),ts,b1,b2,x,z0,z1,z2,z3,z4,a0,a1,a2,a3,a4,path,acc++[v])=some (.inr (l,ts,b1,b2,x,z0,z1,z2,z3,z4,a0,a1,a2,a3,a4,path,acc++[v]++n)))/\(cg (eg f l) (x.ah.drop (i+1))=none->∃w f1 f2,mF (l,x.ah,(x.ah.length:Int),((i+1:Nat):Int),ts,b1,b2,x,z0,z1,z2,z3,z4,a0,a1,a2,a3,a4,path,acc++[v])=some (.inl (false,ts,f1,f2,w,path))):=λv=>
   Ni F af B s h k (i+1) (acc++[v]) (by omega) (by simp;omega)
  rw [mF,br,ae (aP aB),aZ,e,vU];simp only [aS,ao,jo];generalize x.ah.getD i aC = a at *;have z:∀ (v:I) (d:Option _),eg f l a = some v->d = mF (l,x.ah,(x.ah.length:Int),((i+1:Nat):Int),ts,b1,b2,x,z0,z1,z2,z3,z4,a0,a1,a2,a3,a4,path,acc++[v])->
   (∀m,xH (eg f l a) (cg (eg f l) (x.ah.drop (i+1)))=some m->d=some (.inr (l,ts,b1,b2,x,z0,z1,z2,z3,z4,a0,a1,a2,a3,a4,path,acc++m)))/\
   (xH (eg f l a) (cg (eg f l) (x.ah.drop (i+1)))=none->∃w f1 f2,d=some (.inl (false,ts,f1,f2,w,path))):=by
   intro v d c C;obtain⟨H,A⟩:=go v;rw[c,C];cases hs:cg (eg f l) (x.ah.drop (i+1))with
   |none=>exact⟨λm b=>(by cases b),λ_=>A hs⟩
   |some n=>
    refine⟨λm b=>?_,λh=>(by cases h)⟩;have:m=v::n:=(by cases b;rfl)
    grind
  rcases abc a af with⟨j,y,g,r⟩|⟨g,r⟩
  . rw[r];simp only[ao];rw[hO,ae (aP y),aZ];have t:=h a u _ (bd y gk) a.ad b1 b2;have p:eg f l a=f a.aw (l.getD j gk).Data:=by unfold eg;rw[g]
    cases c:f a.aw (l.getD j gk).Data with
    |none=>
     obtain⟨w,f1,f2,G⟩:=t.2 c;rw[G,p,c];exact⟨λm b=>(by cases b),λ_=>⟨w,f1,f2,by simp[I.aV]⟩⟩
    |some v=>
     rw[t.1 v c];simp only[ao,I.aV,c8];rw[bw,ae (cO),bC];grind
  . rw[r];simp only[ao];rw[bw];cases o:a.bU with
    |true=>
     rw[ae rfl];simp only[I.aV];rw[s a u o];simp only[ao,I.aV];rw[ae (cO),bC];exact z a.bA _ (by unfold eg;rw[g];simp[o]) rfl
    |false=>
     have p:eg f l a=none:=by unfold eg;rw[g];simp[o]
     rw[bw,ae (cO),zE (by simp;omega),p];simp only[ao,I.aV];have aN:c9 .i64 ((path++[a.ad]).length:Int) 1=(path.length:Int):=by rw[gS (by simp<;>omega) (by simp<;>omega)];simp
     rw[aN,ae (ij.2 (by simp;omega)),hO,aZ];exact⟨λm b=>(by cases b),λ_=>⟨_,_,_,by simp;exact⟨rfl,rfl,rfl⟩⟩⟩
theorem ahE(d:x.ah.length<=1000)(c:gQ x.ah)(id:Int):∃r,hg (x,id)=some r/\r.2=(cB x.ah id).isSome:=by
 cases bx:cB x.ah id with
 |some m=>
  obtain⟨j,a,b,g⟩:=FL c d bx;grind
 |none=>
  obtain⟨r,e,f⟩:=wk (t:=x) (id:=id) (by omega);refine⟨r,e,?_⟩;rcases f with⟨j,a,b,_,_⟩|⟨_,q⟩
  . exact absurd b (nW bx _ (bd a aC))
  grind
def fU(x:ai)(f:cT):Bool:=(cB x.ah f.ad).isSome || !f.ch
def fa(x:ai)(l:List cT):List bW:=(l.filter λf=>!(cB x.ah f.ad).isSome).map λf=>⟨f.ad,f.Data⟩
theorem HQ(g:path.length<=900)(c:x.ah.length<=1000)(b:gQ x.ah){l:List cT}(af:l.length<=90000)
 {z0 z2 z4 a0 a2 a4:Int}{z1 a1:Bool}{z3 a3:ak}{b1:ar}{b2:Int}{its:List I}:∀(k i:Nat) (acc:List bW),i+k=l.length->acc.length<=i->
 ((l.drop i).all (fU x)=true->pb (l,(l.length:Int),(i:Int),ts,b1,b2,x,z0,z1,z2,z3,z4,a0,a1,a2,a3,a4,path,its,acc)=some (.inr (ts,b1,b2,z0,z1,z2,z3,z4,a0,a1,a2,a3,a4,path,its,acc++fa x (l.drop i))))/\
 ((l.drop i).all (fU x)=false->∃w f1 f2,pb (l,(l.length:Int),(i:Int),ts,b1,b2,x,z0,z1,z2,z3,z4,a0,a1,a2,a3,a4,path,its,acc)=some (.inl (false,ts,f2,w,path,f1)))
 |0,i,acc,o,m=>by
  rw[pb,b',en (by omega)];exact⟨λ_=>by simp[fa],λh=>by simp at h⟩
 |k+1,i,acc,o,m=>by
  have aB:i<l.length:=by omega
  have e:l.drop i=l.getD i gk::l.drop (i+1):=by rw[dv aB];exact lB aB
  obtain⟨r,p,j⟩:=ahE c b (l.getD i gk).ad;rw[pb,br,ae (aP aB),aZ,e];simp only[aS,ao];generalize l.getD i gk=f at*;rw[p];simp only[ao];have n:(f::l.drop (i+1)).all (fU x)=(fU x f&&(l.drop (i+1)).all (fU x)):=rfl;rw[n];cases hs:(cB x.ah f.ad).isSome with
  |true=>
   have a:fU x f=true:=by unfold fU;rw[hs];rfl
   have ag:fa x (f::l.drop (i+1))=fa x (l.drop (i+1)):=by unfold fa;rw[FX (by rw[hs];simp)]
   rw[j,hs,ae rfl,a,ag,bC,nd];exact HQ g c b af k (i+1) acc (by omega) (by omega)
  |false=>
   rw[j,hs,bw];cases d:f.ch with
   |true=>
    have a:fU x f=false:=by unfold fU;rw[hs,d];rfl
    rw[ae rfl,ae (cO),zE (by simp;omega),a];simp only[ao,I.aV];have aN:c9 .i64 ((path++[f.ad]).length:Int) 1=(path.length:Int):=by rw[gS (by simp<;>omega) (by simp<;>omega)];simp
    rw[aN,ae (ij.2 (by simp;omega)),hO,aZ];simp_all
   |false=>
    have a:fU x f=true:=by unfold fU;rw[hs,d];rfl
    have ag:fa x (f::l.drop (i+1))=⟨f.ad,f.Data⟩::fa x (l.drop (i+1)):=by unfold fa;rw[FY (by rw[hs];rfl)];rfl
    rw[bw,ae (cO),a,ag,bC,nd];have:=HQ g c b af (z0:=z0) (z1:=z1) (z2:=z2) (z3:=z3) (z4:=z4) (a0:=a0) (a1:=a1) (a2:=a2) (a3:=a3) (a4:=a4) (b1:=b1) (b2:=b2) (its:=its) k (i+1) (acc++[⟨f.ad,f.Data⟩]) (by omega) (by simp;omega);grind
theorem aaq(H:iM ts)(dn:∀x,x∈ts->∀m,m∈x.ah->m.bU=true->jK m.bA=some m.bA){n:Nat}(ih:xx ts n)(e:x∈ts)(k5:x.Kind=5)(db:∀m,m∈x.ah->0<=m.aw/\m.aw<ts.length)(D:p.length<=4096)(E:path.length+(n+1)=200):
 (∀l,iI p=some l->∀a,cg (eg (cY ts n) l) x.ah=some a->l.all (fU x)=true->yu (x,p,ts,b1,b2,path)=some (⟨5,false,0,[],0,[],a,fa x l⟩,true,ts,b1,b2,path))/\
 ((iI p=none\/(∃l,iI p=some l/\(cg (eg (cY ts n) l) x.ah=none\/l.all (fU x)=false)))->∃w f1 f2,yu (x,p,ts,b1,b2,path)=some (w,false,ts,f1,f2,path)):=by
 obtain⟨g,z⟩:=H.A x e (.inl k5);obtain⟨o,t,u,v⟩:=Et (p:=p) (by omega);rw[yu,t];simp only[aS,ao];by_cases h0:o.2=0
 . obtain⟨v1,y,v3,v4⟩:=u h0;rw[al (by simp[h0]),v1];have C:=H.T x e;have i:∀m,m∈x.ah->m.bU=true->jK m.bA=some m.bA:=λm b k=>dn x e m b k;have au:∀m,m∈x.ah->∀q,q∈o.1->∀step b1 b2,fM ts b1 b2 path (cY ts n m.aw q.Data) (iW (step,m.aw,q.Data,ts,b1,b2,path)):=λm b q s step b1 b2=>
    wb (by omega) (ih m.aw q.Data b1 b2 (path++[step]) (db m b).1 (db m b).2 (by have:=(y q s).1;omega) (by simp;omega))
   obtain⟨ft,c⟩:=Ni (x:=x) (path:=path) (by omega) (f:=cY ts n) (l:=o.1) (by omega) (by omega) i au (z0:=0) (z1:=false) (z2:=0) (z3:=[]) (z4:=0) (a0:=x.Kind) (a1:=false) (a2:=0) (a3:=[]) (a4:=0) (b1:=b1) (b2:=b2) x.ah.length 0 [] (by omega) rfl;rw[fT]at ft c;have z0:((0:Nat):Int)=0:=rfl;rw[z0]at ft c;have B:=λits=>HQ (ts:=ts) (x:=x) (path:=path) (by omega) (by omega) g (l:=o.1) (by omega) (z0:=0) (z1:=false) (z2:=0) (z3:=[]) (z4:=0) (a0:=x.Kind) (a1:=false) (a2:=0) (a3:=[]) (a4:=0) (b1:=b1) (b2:=b2) (its:=its) o.1.length 0 [] (by omega) (d' _);rw[fT,z0]at B;constructor
   . intro l af a r j;cases af;rw[ft a r];simp only[ao,fS];rw[(B a).1 j];simp[k5]
   . intro h;rcases h with h|⟨l,af,h⟩
     . cases h
     . cases af;cases hs:cg (eg (cY ts n) o.1) x.ah with
       |none=>
        obtain⟨w,f1,f2,d⟩:=c hs;rw[d];exact⟨_,_,_,rfl⟩
       |some a=>
        rcases h with h|h
        . rw[hs]at h;cases h
        . obtain⟨w,f1,f2,d⟩:=(B a).2 h;rw[ft a hs];simp only[ao,fS];rw[d];exact⟨I.eta w,f1,f2,rfl⟩
 . rw[ae (by simp[h0]),v h0];constructor
   . intro l af;cases af
   . intro _;rw[zE (by omega)];exact⟨_,_,_,rfl⟩
end
structure jh (ts:List ai):Prop where
 S:iM ts
 V:nz ts
 W:∀x,x∈ts->∀m,m∈x.ah->m.bU=true->jK m.bA=some m.bA
theorem c'.gT(H:c' ts):jh ts:=⟨H.V.hr H.T,H.V,λx c m a e=>aba ((H.T x c).3 m a) (by have:=H.W x c m a e;omega)⟩
section
variable {ts:List ai}
theorem jh.mem(H:jh ts)(c:x∈ts){m:aU}(a:m∈x.ah):0<=m.aw/\m.aw<ts.length:=
 H.V.U x c m.aw (by unfold fi;simp;exact .inl ⟨m,a,rfl⟩)
theorem jh.elem(H:jh ts)(c:x∈ts)(a:7<=x.Kind):0<=x.aF/\x.aF<ts.length:=
 H.V.U x c x.aF (by unfold fi;simp[a])
theorem jh.key(H:jh ts)(c:x∈ts)(a:x.Kind=8):0<=x.Key/\x.Key<ts.length:=
 H.V.U x c x.Key (by unfold fi;simp[a])
def ey:I:=⟨0,false,0,[],0,[],[],[]⟩
abbrev qy:=Int->ak->Option I
def xg(p:ak):Option I:=if p=[]then some ⟨1,false,0,[],0,[],[],[]⟩else if p=[1]then some ⟨1,true,0,[],0,[],[],[]⟩else none
def xh(x:ai)(p:ak):Option I:=match gD p with
 |some m=>if x.bE<=ia m/\ia m<=x.bH then some ⟨2,false,ia m,[],0,[],[],[]⟩else none
 |none=>none
def xi(x:ai)(p:ak):Option I:=if(p.length:Int)<=x.Max then some ⟨3,false,0,p,0,[],[],[]⟩else none
def xj(x:ai)(p:ak):Option I:=match gD p with
 |some m=>if 1<=m/\m<=1000/\((x.bh.any λy=>decide (y.ad=(m:Int)))||x.Open)=true then some ⟨4,false,0,[],(m:Int),[],[],[]⟩else none
 |none=>none
def mn(f:qy)(x:ai):ak->Option I
 |[]=>some ⟨9,false,0,[],0,[],[],[]⟩
 |c::q=>if c=1 then(f x.aF q).map λv=>⟨9,false,0,[],0,[],[v],[]⟩else none
def qp(f:qy)(x:ai)(p:ak):Option I:=match jA p with
 |some (id,q)=>(match cB x.ah id with
  |some m=>(f m.aw q).map λv=>⟨6,false,0,[],id,[],[v],[]⟩
  |none=>if x.Open then some ⟨6,false,0,[],id,[],[],[⟨id,q⟩]⟩else none)
 |none=>none
def nn(f:qy)(x:ai)(p:ak):Option I:=match ib p with
 |some l=>if(l.length:Int)<=x.Max then(cg (f x.aF) l).map λa=>⟨7,false,0,[],0,[],a,[]⟩else none
 |none=>none
def qq(f:qy)(x:ai)(p:ak):Option I:=match ib p with
 |some l=>if l.length%2 = 0/\((l.length/2:Nat):Int)<=x.Max then (match cg (f x.Key) (e5 l) with
  |some ks=>if o0 ks then(cg (f x.aF) (fh l)).map λa=>⟨8,false,0,[],0,ks,a,[]⟩else none
  |none=>none)else none
 |none=>none
def nk(f:qy)(x:ai)(p:ak):Option I:=match iI p with
 |some l=>(match cg (eg f l) x.ah with
  |some a=>if l.all (fU x) then some ⟨5,false,0,[],0,[],a,fa x l⟩else none
  |none=>none)
 |none=>none
def qs(f:qy)(x:ai)(p:ak):Option I:=
 if x.Kind=1 then xg p else if x.Kind=2 then xh x p else if x.Kind=3 then xi x p else if x.Kind=4 then xj x p else if x.Kind=9 then mn f x p else if x.Kind=6 then qp f x p else if x.Kind=7 then nn f x p else if x.Kind=8 then qq f x p else nk f x p
theorem zs(t:Int)(p:ak):cY ts 0 t p=none:=by rw[cY.eq_def]
theorem tJ(n:Nat)(t:Int)(p:ak):cY ts (n+1) t p=qs (cY ts n) (ts.getD t.toNat aK) p:=by rfl
theorem fM.eta(h:fM ts b1 b2 path o a):
 fM ts b1 b2 path o (a>>=λr=>some (I.eta r.1,r.2.1,r.2.2.1,r.2.2.2.1,r.2.2.2.2.1,r.2.2.2.2.2)):=by
 refine⟨λv c=>?_,λaH=>?_⟩
 . rw[h.1 v c];simp[I.aV]
 . obtain⟨w,f1,f2,e⟩:=h.2 aH;exact⟨w,f1,f2,by rw[e];simp[I.aV]⟩
theorem fM.one(v:I):fM ts b1 b2 path (some v) (some (v,true,ts,b1,b2,path)):=⟨λa h=>by cases h;rfl,λh=>by cases h⟩
theorem fM.cast{c:Option I}(e:o=c)(h:fM ts b1 b2 path o a):fM ts b1 b2 path c a:=e▸h
theorem Jo{l:List c3}{m:Nat}:(∃y,y∈l/\y.ad=(m:Int))↔(l.any λy=>decide (y.ad=(m:Int)))=true:=by grind
theorem acj(H:jh ts){n:Nat}(ih:xx ts n)(g:x∈ts)(k7:x.Kind=7)(s:p.length<=4096)(t:path.length+(n+1)=200):
 fM ts b1 b2 path (nn (cY ts n) x p) (Dc (x,p,ts,b1,b2,path)):=by
 obtain⟨o,j,k,m⟩:=tZ (p:=p) (by omega);obtain⟨aN,c⟩:=H.elem g (by omega);rw[Dc,j];unfold nn;simp only[aS,ao];by_cases h0:o.2=0
 . obtain⟨v1,r,v3⟩:=k h0;rw[al (by simp[h0]),v1];dsimp only;by_cases b:(o.1.length:Int)<=x.Max
   . rw[ae b,b'];have d:∀q,q∈o.1->∀step b1 b2,fM ts b1 b2 path (cY ts n x.aF q) (iW (step,x.aF,q,ts,b1,b2,path)):=λq e step b1 b2=>
      wb (by omega) (ih x.aF q b1 b2 (path++[step]) aN c (by have:=r q e;omega) (by simp;omega))
     obtain⟨ft,a⟩:=N0 (x:=x) (l:=o.1) (by omega) d (z0:=0) (z1:=false) (z2:=0) (z3:=[]) (z4:=0) (a0:=x.Kind) (a1:=false) (a2:=0) (a3:=[]) (a4:=0) (b1:=b1) (b2:=b2) o.1.length 0 [] (by omega) rfl;rw[fT]at ft a;have z0:((0:Nat):Int)=0:=rfl;rw[z0]at ft a;cases hs:cg (cY ts n x.aF) o.1 with
     |none=>
      obtain⟨w,f1,f2,f⟩:=a hs;rw[f];exact⟨λv h=>by simp at h,λ_=>⟨_,_,_,rfl⟩⟩
     |some i=>
      rw[ft i hs];exact⟨λu h=>by grind,λh=>by simp at h⟩
   . rw[al b,br];exact jM (by omega) _ _ _
 . rw[ae (by simp[h0]),m h0];exact jM (by omega) _ _ _
theorem Pr(H:jh ts):∀n,n<=200->xx ts n
 |0,_=>λt p b1 b2 path t0 t1 b d=>by
  rw[pn,br,zs];exact jM (by omega) _ _ _
 |n+1,aH=>λt p b1 b2 path t0 t1 b d=>by
  have ih:=Pr H n (by omega);obtain⟨j,rfl⟩:=BX t0;have B:j<ts.length:=by omega
  rw[pn,b',ae (aP B),tJ,aZ];have a:=bd B aK;generalize ts.getD j aK=x at*;obtain⟨Y,Z⟩:=H.S.K x a;have O:x.bh.length<9223372036854775807:=dA (ig (H.S.T x a).1);unfold qs;simp only[aS,ao];obtain⟨u,D,E,F⟩:=ael p;by_cases k1:x.Kind=1
  . rw[ae k1,ae (show decide (x.Kind=1)=true by simpa using k1)];unfold xg;by_cases h0:p=[]
    . rw[ae h0,al (by simp[h0]),k1,h0];exact .one _
    . by_cases h1:p=[1]
      . rw[al h0,ae h1,al (by simp[h1]),k1,h1];exact .one _
      . rw[al h0,al h1,ae (by simp[h0,h1])];exact jM (by omega) _ _ _
  rw[al k1,al (show ¬decide (x.Kind=1)=true by simpa using k1)];by_cases k2:x.Kind=2
  . rw[ae k2,ae (show decide (x.Kind=2)=true by simpa using k2),D];unfold xh;simp only[ao];by_cases h0:u.2=0
    . obtain⟨m,f,r⟩:=E h0;rw[f,r,aeS (EK f),al (by simp[h0])];simp only[ao];by_cases ag:x.bE<=ia m/\ia m<=x.bH
      . rw[ae ag,b',k2];exact .one _
      . rw[al ag,br];exact jM (by omega) _ _ _
    . rw[F h0,ae (by simp[h0])];exact jM (by omega) _ _ _
  rw[al k2,al (show ¬decide (x.Kind=2)=true by simpa using k2)];by_cases k3:x.Kind=3
  . rw[ae k3,ae (show decide (x.Kind=3)=true by simpa using k3)];unfold xi;by_cases ag:(p.length:Int)<=x.Max
    . rw[ae ag,b',k3];exact .one _
    . rw[al ag,br];exact jM (by omega) _ _ _
  rw[al k3,al (show ¬decide (x.Kind=3)=true by simpa using k3)];by_cases k4:x.Kind=4
  . rw[ae k4,ae (show decide (x.Kind=4)=true by simpa using k4),D];unfold xj;simp only[ao];by_cases h0:u.2=0
    . obtain⟨m,f,r⟩:=E h0;rw[f,r];dsimp only;by_cases ag:1<=m/\m<=1000
      . obtain⟨q,U,_,V⟩:=rb (t:=x) (m:Int) O;have e:bT .i64 (m:Int)=(m:Int):=jC;rw[al (show ¬(bif bif !decide (u.2=0)then true else decide ((m:Int)<1)then true else decide (1000<(m:Int)))=true by simp[h0];omega),e,U];simp only[ao];have N:q.2=(x.bh.any λy=>decide (y.ad=(m:Int))):=by
         have:=(Dt V).trans Jo;grind
        rw[N,k4];by_cases z:((x.bh.any λy=>decide (y.ad=(m:Int)))||x.Open)=true
        . rw[ae (show 1<=m/\m<=1000/\((x.bh.any λy=>decide (y.ad=(m:Int)))||x.Open)=true from⟨ag.1,ag.2,z⟩),al]
          . exact .one _
          grind
        . rw[al (show ¬(1<=m/\m<=1000/\((x.bh.any λy=>decide (y.ad=(m:Int)))||x.Open)=true)fromλh=>z h.2.2),ae]
          . exact jM (by omega) _ _ _
          grind
      . rw[al (show ¬(1<=m/\m<=1000/\((x.bh.any λy=>decide (y.ad=(m:Int)))||x.Open)=true)fromλh=>ag ⟨h.1,h.2.1⟩),ae (by simp[h0];omega)];exact jM (by omega) _ _ _
    . rw[F h0,ae (by simp[h0])];exact jM (by omega) _ _ _
  rw[al k4,al (show ¬decide (x.Kind=4)=true by simpa using k4)];by_cases k9:x.Kind=9
  . rw[ae k9,ae (show decide (x.Kind=9)=true by simpa using k9)];obtain⟨aN,L⟩:=H.elem a (by omega);cases p with
    |nil=>
     rw[hO,mn,k9];exact .one _
    |cons c q=>
     have af:(c::q).length=q.length+1:=rfl;have Q:aG 0 (c::q).length=true:=aP (k:=0) (by simp);have b0:fI (c::q) 0=(c.toNat:Int):=rfl;have r8:dN 1 ((c::q).length:Int) (c::q).length=true:=ij.2 (by simp<;>omega);have J:dZ (c::q) 1 ((c::q).length:Int)=q:=by
      unfold dZ;simp
     rw[bw,ae Q,b0,mn];by_cases i:c=1
     . subst i;rw[ae rfl,bw,ae r8,J];have A:=wb (step:=0) (path:=path) (by omega) (ih x.aF q b1 b2 (path++[0]) aN L (by simp at b;omega) (by simp;omega));cases C:cY ts n x.aF q with
       |none=>
        obtain⟨w,f1,f2,P⟩:=A.2 C;rw[P];exact⟨λv h=>by simp at h,λ_=>⟨_,_,_,rfl⟩⟩
       |some v=>
        rw[A.1 v C]
        exact⟨λX h=>by
         have:X=⟨9,false,0,[],0,[],[v],[]⟩:=(by simpa using h.symm);rw[this]
         simp[I.aV,k9],λh=>by simp at h⟩
     . have M:¬((c.toNat:Int)=1):=λh=>i (UInt8.toNat.inj (by show c.toNat=1;omega));rw[al i,ae (by simpa using M)];exact jM (by omega) _ _ _
  rw[al k9,al (show ¬decide (x.Kind=9)=true by simpa using k9)];by_cases k6:x.Kind=6
  . rw[ae k6,ae (show decide (x.Kind=6)=true by simpa using k6)];refine fM.eta (fM.cast ?_ (abb H.S ih a k6 (λm o=>H.mem a o) b d));rfl
  rw[al k6,al (show ¬decide (x.Kind=6)=true by simpa using k6)];by_cases k7:x.Kind=7
  . rw[ae k7,ae (show decide (x.Kind=7)=true by simpa using k7)];exact fM.eta (acj H ih a k7 b d)
  rw[al k7,al (show ¬decide (x.Kind=7)=true by simpa using k7)];by_cases k8:x.Kind=8
  . rw[ae k8,ae (show decide (x.Kind=8)=true by simpa using k8)];refine fM.eta (fM.cast ?_ (aet ih k8 (H.key a k8) (H.elem a (by omega)) b d));rfl
  rw[al k8,al (show ¬decide (x.Kind=8)=true by simpa using k8)];have k5:x.Kind=5:=by omega
  obtain⟨G,g⟩:=aaq H.S H.W ih a k5 (λm o=>H.mem a o) b (b1:=b1) (b2:=b2) d;refine fM.eta ?_;unfold nk;cases af:iI p with
  |none=>exact⟨λv h=>(by cases h),λ_=>g (.inl af)⟩
  |some l=>
   dsimp only;cases hs:cg (eg (cY ts n) l) x.ah with
   |none=>exact⟨λv h=>(by cases h),λ_=>g (.inr ⟨l,af,.inl hs⟩)⟩
   |some R=>
    dsimp only;cases s:l.all (fU x)with
    |true=>exact⟨λv h=>(by cases h;exact G l af R hs s),λh=>(by cases h)⟩
    |false=>exact⟨λv h=>(by cases h),λ_=>g (.inr ⟨l,af,.inr s⟩)⟩
end
def fG(o:Option I)(r:Option cV):Prop:=(∀v,o=some v->∃F,r=some ⟨v,F,true⟩)/\(o=none->∃F,r=some ⟨ey,F,false⟩)
theorem zN(b:path.length<=1000)(a:Int):hf (path,a)=some ⟨ey,⟨path,a⟩,false⟩:=by rw[hf,ae (cO),fS];rfl
theorem ni(a:path.length<=1000)(step:Int):lS (path,step)=some (path++[step]):=by
 rw[lS,ae (cO)];simp only[aS,ao,fS];rw[ae (cO)]
theorem jq(a:path.length<=1000)(b:Int):fG none (hf (path,b)>>=λr=>some (⟨I.eta r.Value,r.dQ,r.ck⟩:cV)):=by
 rw[zN a];exact⟨λv h=>(by cases h),λ_=>⟨_,rfl⟩⟩
theorem fG.eta{o:Option I}{a:Option cV}(h:fG o a):fG o (a>>=λr=>some (⟨I.eta r.Value,r.dQ,r.ck⟩:cV)):=by
 refine⟨λv c=>?_,λaH=>?_⟩
 . obtain⟨F,bx⟩:=h.1 v c;exact⟨F,by rw[bx];simp[I.aV]⟩
 . obtain⟨F,bx⟩:=h.2 aH;exact⟨F,by rw[bx];rfl⟩
theorem uG(v:I):nL v=some ⟨v,⟨[],0⟩,true⟩:=by rw[nL,I.aV]
theorem fG.one(v:I):fG (some v) (nL v>>=λr=>some (⟨I.eta r.Value,r.dQ,r.ck⟩:cV)):=by
 rw[uG];exact⟨λa h=>(by cases h;exact⟨_,by simp[I.aV];rfl⟩),λh=>(by cases h)⟩
section
variable {ts:List ai}
def lK(ts:List ai)(o:Option I)(L:Int)(path:ar)(t:Int)(q:ak)(step:Int):Prop:=
 fG o (lS (path,step)>>=λr=>jI ((⟨ts⟩:aT),t,q,aM .i64 L 1,r))
theorem lK.yes{step:Int}(h:lK ts o L path t q step)(a:path.length<=1000)(c:o=some v):∃F,jI ((⟨ts⟩:aT),t,q,aM .i64 L 1,path++[step])=some ⟨v,F,true⟩:=by
 unfold lK at h;rw[ni a]at h;exact h.1 v c
theorem lK.no{step:Int}(h:lK ts o L path t q step)(a:path.length<=1000)(c:o=none):∃F,jI ((⟨ts⟩:aT),t,q,aM .i64 L 1,path++[step])=some ⟨ey,F,false⟩:=by
 unfold lK at h;rw[ni a]at h;exact h.2 c
theorem Th(n:path.length<=900){f:ak->Option I}{l:List ak}(af:l.length<=90000)(h:∀q,q∈l->∀step,lK ts (f q) L path x.aF q step)
 {z0 z2 z4 z5 z7 z9 z11:Int}{z1 z6 z8:Bool}{z3 z10:ak}:∀(k i:Nat) (acc:List I),i+k=l.length->acc.length=i->
 (∀m,cg f (l.drop i)=some m->sY (L,path,l,(i:Int),ts,x,z0,z1,z2,z3,z4,z5,z6,z7,z8,z9,z10,z11,acc)=some (.inr (z0,z1,z2,z3,z4,z5,z6,z7,z8,z9,z10,z11,acc++m)))/\
 (cg f (l.drop i)=none->∃F,sY (L,path,l,(i:Int),ts,x,z0,z1,z2,z3,z4,z5,z6,z7,z8,z9,z10,z11,acc)=some (.inl ⟨ey,F,false⟩))
 |0,i,acc,j,g=>by
  rw[sY,b',en (by omega),cg];grind
 |k+1,i,acc,j,g=>by
  have aB:i<l.length:=by omega
  have c:=h _ (bd aB []) (i:Int);have e:l.drop i=l.getD i []::l.drop (i+1):=by rw[dv aB];exact lB aB
  rw[sY,br,ae (aP aB),aZ,e,vU,ni (by omega)];simp only[aS,ao];cases d:f (l.getD i [])with
  |none=>
   obtain⟨F,b⟩:=c.no (by omega) d;rw[b];exact⟨λm a=>(by cases a),λ_=>⟨F,by simp[I.aV]⟩⟩
  |some v=>
   obtain⟨F,b⟩:=c.yes (by omega) d;rw[b];simp only[ao,I.aV,c8];rw[bw,ae (cO),bC];obtain⟨r,o⟩:=Th n af h (z0:=z0) (z1:=z1) (z2:=z2) (z3:=z3) (z4:=z4) (z5:=z5) (z6:=z6) (z7:=z7) (z8:=z8) (z9:=z9) (z10:=z10) (z11:=z11) k (i+1) (acc++[v]) (by omega) (by simp;omega);cases hs:cg f (l.drop (i+1))with
   |none=>exact⟨λm a=>(by cases a),λ_=>o hs⟩
   |some p=>
    refine⟨λm a=>?_,λh=>(by cases h)⟩;have:m=v::p:=(by cases a;rfl)
    grind
theorem BT{i:Nat}(h:i<1000000:=by omega):gz .i64 2 (i:Int)=((2*i:Nat):Int):=by
 unfold gz;have e:(2:Int)*(i:Int)=((2*i:Nat):Int):=by omega
 rw[e];exact jC
theorem Tg(i:path.length<=900){f:ak->Option I}{l:List ak}(af:l.length<=90000)(h:∀q,q∈l->∀step,lK ts (f q) L path x.Key q step)
 {z0 z2 z4 z5 z7 z9 z11:Int}{z1 z6 z8:Bool}{z3 z10:ak}:∀(k j:Nat) (acc:List I),2*(j+k)=l.length->acc.length=j->
 (∀m,cg f (e5 (l.drop (2*j)))=some m->tc (L,path,l,(j:Int),ts,x,z0,z1,z2,z3,z4,z5,z6,z7,z8,z9,z10,z11,acc)=some (.inr (L,path,l,ts,x,z0,z1,z2,z3,z4,z5,z6,z7,z8,z9,z10,z11,acc++m)))/\
 (cg f (e5 (l.drop (2*j)))=none->∃F,tc (L,path,l,(j:Int),ts,x,z0,z1,z2,z3,z4,z5,z6,z7,z8,z9,z10,z11,acc)=some (.inl ⟨ey,F,false⟩))
 |0,j,acc,g,e=>by
  rw[tc,BT,b',en (by omega),show e5 ([]:List ak)=[]from rfl,cg];grind
 |k+1,j,acc,g,e=>by
  have aB:2*j<l.length:=by omega
  have c:=h _ (bd aB []) (j:Int);rw[tc,BT,br];simp only[aS,ao];rw[ae (aP aB),aZ,LW (by omega) [],vU,ni (by omega)];simp only[ao];cases d:f (l.getD (2*j) [])with
  |none=>
   obtain⟨F,b⟩:=c.no (by omega) d;rw[b];exact⟨λm a=>(by cases a),λ_=>⟨F,by simp[I.aV]⟩⟩
  |some v=>
   obtain⟨F,b⟩:=c.yes (by omega) d;rw[b];simp only[ao,I.aV,c8];rw[bw,ae (cO),bC];obtain⟨p,n⟩:=Tg i af h (z0:=z0) (z1:=z1) (z2:=z2) (z3:=z3) (z4:=z4) (z5:=z5) (z6:=z6) (z7:=z7) (z8:=z8) (z9:=z9) (z10:=z10) (z11:=z11) k (j+1) (acc++[v]) (by omega) (by simp;omega);cases hs:cg f (e5 (l.drop (2*(j+1))))with
   |none=>exact⟨λm a=>(by cases a),λ_=>n hs⟩
   |some o=>
    refine⟨λm a=>?_,λh=>(by cases h)⟩;have:m=v::o:=(by cases a;rfl)
    grind
theorem P9(i:path.length<=900){f:ak->Option I}{l:List ak}(af:l.length<=90000)(h:∀q,q∈l->∀step,lK ts (f q) L path x.aF q step)
 {z0 z2 z4 z5 z7 z9 z11:Int}{z1 z6 z8:Bool}{z3 z10:ak}{ks:List I}:∀(k j:Nat) (acc:List I),2*(j+k)=l.length->acc.length=j->
 (∀m,cg f (fh (l.drop (2*j)))=some m->sM (L,path,l,(j:Int),ts,x,z0,z1,z2,z3,z4,z5,z6,z7,z8,z9,z10,z11,ks,acc)=some (.inr (z0,z1,z2,z3,z4,z5,z6,z7,z8,z9,z10,z11,ks,acc++m)))/\
 (cg f (fh (l.drop (2*j)))=none->∃F,sM (L,path,l,(j:Int),ts,x,z0,z1,z2,z3,z4,z5,z6,z7,z8,z9,z10,z11,ks,acc)=some (.inl ⟨ey,F,false⟩))
 |0,j,acc,g,e=>by
  rw[sM,BT,b',en (by omega),show fh ([]:List ak)=[]from rfl,cg];grind
 |k+1,j,acc,g,e=>by
  have aB:2*j+1<l.length:=by omega
  have c:=h _ (bd aB []) (j:Int);have aN:aM .i64 ((2*j:Nat):Int) 1=((2*j+1:Nat):Int):=bC;rw[sM,BT,br,aN];simp only[aS,ao];rw[ae (aP aB),aZ,M4 aB [],vU,ni (by omega)];simp only[ao];cases d:f (l.getD (2*j+1) [])with
  |none=>
   obtain⟨F,b⟩:=c.no (by omega) d;rw[b];exact⟨λm a=>(by cases a),λ_=>⟨F,by simp[I.aV]⟩⟩
  |some v=>
   obtain⟨F,b⟩:=c.yes (by omega) d;rw[b];simp only[ao,I.aV,c8];rw[bw,ae (cO),bC];obtain⟨p,n⟩:=P9 i af h (z0:=z0) (z1:=z1) (z2:=z2) (z3:=z3) (z4:=z4) (z5:=z5) (z6:=z6) (z7:=z7) (z8:=z8) (z9:=z9) (z10:=z10) (z11:=z11) (ks:=ks) k (j+1) (acc++[v]) (by omega) (by simp;omega);cases hs:cg f (fh (l.drop (2*(j+1))))with
   |none=>exact⟨λm a=>(by cases a),λ_=>n hs⟩
   |some o=>
    refine⟨λm a=>?_,λh=>(by cases h)⟩;have:m=v::o:=(by cases a;rfl)
    grind
theorem S9{x:ai}(c:path.length<=1000){l:List ak}(a:∀y,y∈ks->cx y.bc)(af:ks.length<=90000){L:Int}
 {z0 z2 z4 z5 z7 z9 z11:Int}{z1 z6 z8:Bool}{z3 z10:ak}:∀(k i:Nat),ks.length-(i+1)=k->
 ((∀m,i<=m->m+1<ks.length->g' (ks.getD m av) (ks.getD (m+1) av)<0)/\rn (L,path,l,((i+1:Nat):Int),ts,x,z0,z1,z2,z3,z4,z5,z6,z7,z8,z9,z10,z11,ks)=some (.inr (L,path,l,ts,x,z0,z1,z2,z3,z4,z5,z6,z7,z8,z9,z10,z11,ks)))\/
 ((∃m,m+1<ks.length/\¬g' (ks.getD m av) (ks.getD (m+1) av)<0)/\∃F,rn (L,path,l,((i+1:Nat):Int),ts,x,z0,z1,z2,z3,z4,z5,z6,z7,z8,z9,z10,z11,ks)=some (.inl ⟨ey,F,false⟩))
 |0,i,d=>by
  rw[rn,b'];grind
 |k+1,i,d=>by
  have aB:i+1<ks.length:=by omega
  have aN:c9 .i64 ((i+1:Nat):Int) 1=(i:Int):=by rw[gS];omega
  rw[rn,br,aN];simp only[aS,ao];rw[ae (aP (by omega)),br,ae (aP aB),br,aZ,aZ];simp only[I.aV];rw[v' (a _ (bd (by omega) av)) (a _ (bd aB av))];simp only[ao];by_cases b:g' (ks.getD i av) (ks.getD (i+1) av)<0
  . rw[al (by simpa using b),bC];rcases S9 c a af (x:=x) (l:=l) (L:=L) (z0:=z0) (z1:=z1) (z2:=z2) (z3:=z3) (z4:=z4) (z5:=z5) (z6:=z6) (z7:=z7) (z8:=z8) (z9:=z9) (z10:=z10) (z11:=z11) k (i+1) (by omega)with⟨h1,e⟩|h
    . grind
    grind
  . rw[ae (by simpa using b),zN c];grind
theorem aeT{l:List cT}(id:Int)(af:l.length<=90000):(∃j,j<l.length/\l.find? (λf=>decide (f.ad=id))=some (l.getD j gk)/\zn (l,id)=some (j:Int))\/
 (l.find? (λf=>decide (f.ad=id))=none/\zn (l,id)=some (-1)):=by
 have h:=qQ (λi=>pw (l,id,(i:Int))) l.length (λi=>decide ((l.getD i gk).ad=id)) (λi=>.inl (i:Int)) (.inr ())
  (λi a=>by
   rw[pw,br,ae (aP a),bC]
   grind)
  (by rw[pw,bw])
 have c4:pw (l,id,((0:Nat):Int))=pw (l,id,0):=rfl;simp only[c4]at h;rw[zn];rcases h with⟨j,h1,c,d,b⟩|⟨h1,b⟩
 . left;refine⟨j,h1,?_,by rw[b];rfl⟩;rw[dv h1]at c⊢;rw[Cd];refine⟨c,j,h1,rfl,λk g=>?_⟩;have:=d k g;rw[dv (by omega)]at this;simpa using this
 . right;refine⟨?_,by rw[b];rfl⟩;rw[yD];intro f e;obtain⟨i,a,rfl⟩:=e1 e;have:=h1 i a;rw[dv a]at this;simpa using this
theorem Tj {x:ai}{path:ar}(E:path.length<=900){f:Int->ak->Option I}{l:List cT}(af:l.length<=90000)(z:x.ah.length<=16){L:Int}
 (h:∀m,m∈x.ah->∀q,q∈l->∀step,lK ts (f m.aw q.Data) L path m.aw q.Data step)
 {z0 z2 z4 z5 z7 z9 z11:Int}{z1 z6 z8:Bool}{z3 z10:ak}:∀(k i:Nat) (acc:List I),i+k=x.ah.length->acc.length=i->
 (∀m,cg (eg f l) (x.ah.drop i)=some m->mG (L,path,l,(i:Int),ts,x,z0,z1,z2,z3,z4,z5,z6,z7,z8,z9,z10,z11,acc)=some (.inr (path,l,x,z0,z1,z2,z3,z4,z5,z6,z7,z8,z9,z10,z11,acc++m)))/\
 (cg (eg f l) (x.ah.drop i)=none->∃F,mG (L,path,l,(i:Int),ts,x,z0,z1,z2,z3,z4,z5,z6,z7,z8,z9,z10,z11,acc)=some (.inl ⟨ey,F,false⟩))
 |0,i,acc,C,B=>by
  rw[mG,b',en (by omega),cg];grind
 |k+1,i,acc,C,B=>by
  have aB:i<x.ah.length:=by omega
  have D:=bd aB aC;have e:x.ah.drop i=x.ah.getD i aC::x.ah.drop (i+1):=by rw[dv aB];exact lB aB
  have go:∀v,(∀n,cg (eg f l) (x.ah.drop (i+1))=some n->mG (L,path,l,((i+1:Nat):Int),ts,x,z0,z1,z2,z3,z4,z5,z6,z7,z8,z9,z10,z11,acc++[v])=some (.inr (path,l,x,z0,z1,z2,z3,z4,z5,z6,z7,z8,z9,z10,z11,acc++[v]++n)))/\(cg (eg f l) (x.ah.drop (i+1))=none->∃F,mG (L,path,l,((i+1:Nat):Int),ts,x,z0,z1,z2,z3,z4,z5,z6,z7,z8,z9,z10,z11,acc++[v])=some (.inl ⟨ey,F,false⟩)):=λv=>
   Tj E af z h k (i+1) (acc++[v]) (by omega) (by simp;omega)
  rw [mG,br,ae (aP aB),aZ,e,vU];simp only [aS,ao];generalize x.ah.getD i aC = a at *;have w:∀ (v:I) (d:Option _),eg f l a = some v->d = mG (L,path,l,((i+1:Nat):Int),ts,x,z0,z1,z2,z3,z4,z5,z6,z7,z8,z9,z10,z11,acc++[v])->
   (∀m,xH (eg f l a) (cg (eg f l) (x.ah.drop (i+1)))=some m->d=some (.inr (path,l,x,z0,z1,z2,z3,z4,z5,z6,z7,z8,z9,z10,z11,acc++m)))/\
   (xH (eg f l a) (cg (eg f l) (x.ah.drop (i+1)))=none->∃F,d=some (.inl ⟨ey,F,false⟩)):=by
   intro v d c A;obtain⟨G,y⟩:=go v;rw[c,A];cases hs:cg (eg f l) (x.ah.drop (i+1))with
   |none=>exact⟨λm b=>(by cases b),λ_=>y hs⟩
   |some n=>
    refine⟨λm b=>?_,λh=>(by cases h)⟩;have:m=v::n:=(by cases b;rfl)
    grind
  rcases aeT a.ad af with⟨j,u,g,r⟩|⟨g,r⟩
  . rw[r];simp only[ao];rw[bw,ae (aP u),aZ,ni (by omega)];have s:=h a D _ (bd u gk) a.ad;have o:eg f l a=f a.aw (l.getD j gk).Data:=by unfold eg;rw[g]
    simp only[ao];cases c:f a.aw (l.getD j gk).Data with
    |none=>
     obtain⟨F,p⟩:=s.no (by omega) c;rw[p,o,c];exact⟨λm b=>(by cases b),λ_=>⟨F,by simp[I.aV]⟩⟩
    |some v=>
     obtain⟨F,p⟩:=s.yes (by omega) c;rw[p];simp only[ao,I.aV,c8];rw[bw,ae (cO),bC];grind
  . rw[r];simp only[ao];rw[hO];cases t:a.bU with
    |true=>
     rw[bw];simp only[I.aV];rw[ae (cO),bC];exact w a.bA _ (by unfold eg;rw[g];simp[t]) rfl
    |false=>
     have o:eg f l a=none:=by unfold eg;rw[g];simp[t]
     rw[hO,ni (by omega),o];simp only[ao];rw[zN (by simp;omega)];simp only[ao,I.aV];exact⟨λm b=>(by cases b),λ_=>⟨_,rfl⟩⟩
theorem ahZ(f:x.ah.length<=1000)(id:Int):∃r,hC (x,id)=some r/\r.2=(cB x.ah id).isSome:=by
 obtain⟨r,e,c⟩:=CS (t:=x) (id:=id) (by omega);refine⟨r,e,?_⟩;cases bx:cB x.ah id with
 |some m=>
  obtain⟨d,k⟩:=kf bx;rcases c with⟨j,a,b,_,rfl⟩|⟨q,_⟩
  . rfl
  . obtain⟨i,g,rfl⟩:=e1 d;grind
 |none=>
  rcases c with⟨j,a,b,_,_⟩|⟨_,q⟩
  . exact absurd b (nW bx _ (bd a aC))
  grind
theorem Gg {x:ai}{path:ar}(d:path.length<=900)(b:x.ah.length<=1000){l:List cT}(af:l.length<=90000)
 {z0 z2 z4 z5 z7 z9 z11:Int}{z1 z6 z8:Bool}{z3 z10:ak}{its:List I}:∀(k i:Nat) (acc:List bW),i+k=l.length->acc.length<=i->
 ((l.drop i).all (fU x)=true->pq (path,l,(i:Int),x,z0,z1,z2,z3,z4,z5,z6,z7,z8,z9,z10,z11,its,acc)=some (.inr (z0,z1,z2,z3,z4,z5,z6,z7,z8,z9,z10,z11,its,acc++fa x (l.drop i))))/\
 ((l.drop i).all (fU x)=false->∃F,pq (path,l,(i:Int),x,z0,z1,z2,z3,z4,z5,z6,z7,z8,z9,z10,z11,its,acc)=some (.inl ⟨ey,F,false⟩))
 |0,i,acc,n,j=>by
  rw[pq,b',en (by omega)];exact⟨λ_=>by simp[fa],λh=>by simp at h⟩
 |k+1,i,acc,n,j=>by
  have aB:i<l.length:=by omega
  have e:l.drop i=l.getD i gk::l.drop (i+1):=by rw[dv aB];exact lB aB
  obtain⟨r,o,g⟩:=ahZ b (l.getD i gk).ad;rw[pq,br,ae (aP aB),aZ,e];simp only[aS,ao];generalize l.getD i gk=f at*;rw[o];simp only[ao];have m:(f::l.drop (i+1)).all (fU x)=(fU x f&&(l.drop (i+1)).all (fU x)):=rfl;rw[m];cases hs:(cB x.ah f.ad).isSome with
  |true=>
   have a:fU x f=true:=by unfold fU;rw[hs];rfl
   have ag:fa x (f::l.drop (i+1))=fa x (l.drop (i+1)):=by unfold fa;rw[FX (by rw[hs];simp)]
   rw[g,hs,ae rfl,a,ag,bC,nd];exact Gg d b af k (i+1) acc (by omega) (by omega)
  |false=>
   rw[g,hs,bw,ae (aP aB)];cases c:f.ch with
   |true=>
    have a:fU x f=false:=by unfold fU;rw[hs,c];rfl
    rw[ae rfl,ae (aP aB),ni (by omega),a];simp only[ao];rw[zN (by simp;omega)];exact⟨λh=>(by cases h),λ_=>⟨_,rfl⟩⟩
   |false=>
    have a:fU x f=true:=by unfold fU;rw[hs,c];rfl
    have ag:fa x (f::l.drop (i+1))=⟨f.ad,f.Data⟩::fa x (l.drop (i+1)):=by unfold fa;rw[FY (by rw[hs];rfl)];rfl
    rw[bw,ae (aP aB),ae (aP aB),ae (cO),a,ag,bC,nd];have:=Gg d b af (z0:=z0) (z1:=z1) (z2:=z2) (z3:=z3) (z4:=z4) (z5:=z5) (z6:=z6) (z7:=z7) (z8:=z8) (z9:=z9) (z10:=z10) (z11:=z11) (its:=its) k (i+1) (acc++[⟨f.ad,f.Data⟩]) (by omega) (by simp;omega);grind
def oT(ts:List ai)(n:Nat):Prop:=∀(t:Int) (p:ak) (path:ar),0<=t->t<ts.length->p.length<=4096->path.length+n<=200->
 fG (cY ts n t p) (jI ((⟨ts⟩:aT),t,p,((201-n:Nat):Int),path))
theorem oT.part{n:Nat}(ih:oT ts n)(aH:n+1<=200)(t0:0<=t/\t<ts.length)(a:q.length<=4096)(c:path.length+(n+1)<=200)(step:Int):
 lK ts (cY ts n t q) ((201-(n+1):Nat):Int) path t q step:=by
 unfold lK;rw[ni (by omega)];have e:aM .i64 ((201-(n+1):Nat):Int) 1=((201-n:Nat):Int):=by rw[bC];omega
 rw[e];exact ih t q (path++[step]) t0.1 t0.2 a (by simp;omega)
theorem fG.cast{c:Option I}{a:Option cV}(e:o=c)(h:fG o a):fG c a:=e▸h
theorem fG.rY{a:Option cV}(h:a=some ⟨ey,F,false⟩):fG none a:=⟨λv h=>(by cases h),λ_=>⟨F,h⟩⟩
theorem fG.w8{a:Option cV}(h:a=some ⟨v,F,true⟩):fG (some v) a:=⟨λe c=>(by cases c;exact⟨F,h⟩),λh=>(by cases h)⟩
theorem aeU(H:jh ts){n:Nat}(aH:n+1<=200)(ih:oT ts n)(k:x∈ts)(k6:x.Kind=6)(J:p.length<=4096)(w:path.length+(n+1)<=200):
 fG (qp (cY ts n) x p) (CH ((⟨ts⟩:aT),x,p,((201-(n+1):Nat):Int),path)):=by
 obtain⟨o,_,z,B,C⟩:=adl p;rw[CH,z];simp only[aS,ao];unfold qp;by_cases h0:o.2.2=0
 . obtain⟨v1,K,v3⟩:=B h0;obtain⟨u,E⟩:=H.S.A x k (.inr k6);rw[al (by simp[h0]),v1];dsimp only;obtain⟨r,D,s⟩:=CS (t:=x) (id:=o.1) (by omega);rw[D];simp only[ao];cases bx:cB x.ah o.1 with
   |some m=>
    dsimp only;obtain⟨d,l⟩:=kf bx;rcases s with⟨j,a,c,_,rfl⟩|⟨q,_⟩
    . have y:x.ah.getD j aC=m:=rP u (bd a aC) d (by rw[c,l]);rw[bw,bw,ae (aP a),aZ,y];have e:=ih.part aH (t:=m.aw) (q:=o.2.1) (path:=path) (H.mem k d) (by omega) w o.1;rw[ni (by omega)];simp only[ao];cases g:cY ts n m.aw o.2.1 with
      |none=>
       obtain⟨F,b⟩:=e.no (by omega) g;rw[b];exact .rY rfl
      |some v=>
       obtain⟨F,b⟩:=e.yes (by omega) g;rw[b];simp only[ao];rw[bw,uG];refine fG.cast rfl (fG.w8 (F:=⟨[],0⟩) ?_);simp[I.aV,k6]
    . obtain⟨i,f,rfl⟩:=e1 d;exact absurd l (by have:=q i f;rwa [dv f]at this)
   |none=>
    dsimp only;have ag:r=(0,false):=by
     rcases s with⟨j,a,c,_,_⟩|⟨_,q⟩
     . exact absurd c (nW bx _ (bd a aC))
     . exact q
    rw[ag];cases G:x.Open with
    |false=>
     rw[bw,hO];exact jq (by omega) _
    |true=>
     rw[hO,bw,hO,uG,k6];refine fG.w8 (F:=⟨[],0⟩) ?_;simp[I.aV]
 . rw[ae (by simp[h0]),C h0];exact jq (by omega) _
theorem aeV(H:jh ts){n:Nat}(aH:n+1<=200)(ih:oT ts n)(g:x∈ts)(k7:x.Kind=7)(s:p.length<=4096)(c:path.length+(n+1)<=200):
 fG (nn (cY ts n) x p) (CM ((⟨ts⟩:aT),x,p,((201-(n+1):Nat):Int),path)):=by
 obtain⟨o,_,j,k,m⟩:=LS (p:=p) (by omega);rw[CM,j];unfold nn;simp only[aS,ao];by_cases h0:o.2=0
 . obtain⟨v1,r,v3⟩:=k h0;rw[v1];dsimp only;by_cases b:(o.1.length:Int)<=x.Max
   . rw[ae b,al (by simp[h0]),b'];obtain⟨ft,a⟩:=Th (ts:=ts) (x:=x) (path:=path) (by omega) (f:=cY ts n x.aF) (l:=o.1) (by omega) (L:=((201-(n+1):Nat):Int)) (λq d step=>ih.part aH (H.elem g (by omega)) (by have:=r q d;omega) c step)
      (z0:=0) (z1:=false) (z2:=0) (z3:=[]) (z4:=0) (z5:=0) (z6:=false) (z7:=x.Kind) (z8:=false) (z9:=0) (z10:=[]) (z11:=0) o.1.length 0 [] (by omega) rfl
     rw[fT]at ft a;have z0:((0:Nat):Int)=0:=rfl;rw[z0]at ft a;cases hs:cg (cY ts n x.aF) o.1 with
     |none=>
      obtain⟨F,e⟩:=a hs;rw[e];exact .rY rfl
     |some i=>
      rw[ft i hs];simp only[ao];rw[uG];refine fG.cast rfl (fG.w8 (F:=⟨[],0⟩) ?_);simp[I.aV,k7]
   . rw[al b,al (by simp[h0]),br];exact jq (by omega) _
 . rw[ae (by simp[h0]),m h0];exact jq (by omega) _
theorem ahU(H:jh ts){n:Nat}(aH:n+1<=200)(ih:oT ts n)(u:x∈ts)(k8:x.Kind=8)(O:p.length<=4096)(s:path.length+(n+1)<=200):
 fG (qq (cY ts n) x p) (Co ((⟨ts⟩:aT),x,p,((201-(n+1):Nat):Int),path)):=by
 obtain⟨o,_,G,J,K⟩:=LS (p:=p) (by omega);rw[Co,G];unfold qq;simp only[aS,ao];by_cases h0:o.2=0
 . obtain⟨v1,v,v3⟩:=J h0;rw[v1];dsimp only;have A:b7 (o.1.length:Int) 2=((o.1.length%2:Nat):Int):=by rw[hj];omega
   rw[A,S8 (by omega)];by_cases he:o.1.length%2=0
   . by_cases r:((o.1.length/2:Nat):Int)<=x.Max
     . rw[ae (show o.1.length%2=0/\((o.1.length/2:Nat):Int)<=x.Max from⟨he,r⟩),al (show ¬(bif !decide (o.2=0)then true else decide (((o.1.length%2:Nat):Int)=1))=true by rw[he,h0];simp),al (show ¬decide (x.Max<((o.1.length/2:Nat):Int))=true by simp only[eT];omega)];have z0:((0:Nat):Int)=0:=rfl;obtain⟨ft,g⟩:=Tg (ts:=ts) (x:=x) (path:=path) (by omega) (f:=cY ts n x.Key) (l:=o.1) (by omega) (L:=((201-(n+1):Nat):Int)) (λq d step=>ih.part aH (H.key u k8) (by have:=v q d;omega) s step)
        (z0:=0) (z1:=false) (z2:=0) (z3:=[]) (z4:=0) (z5:=0) (z6:=false) (z7:=x.Kind) (z8:=false) (z9:=0) (z10:=[]) (z11:=0) (o.1.length/2) 0 [] (by omega) rfl
       rw[Nat.mul_zero,fT,z0]at ft g;cases hs:cg (cY ts n x.Key) (e5 o.1)with
       |none=>
        obtain⟨F,e⟩:=g hs;rw[e];exact .rY rfl
       |some ks=>
        have N:=qS hs;have M:=H2 o.1;rw[ft ks hs];simp only[ao,fS];have z:∀y,y∈ks->cx y.bc:=λy B=>by
         obtain⟨a,_,a2⟩:=pU hs y B;exact Nh a2
        have one:((0+1:Nat):Int)=1:=rfl;rcases S9 (ts:=ts) (x:=x) (path:=path) (by omega) (l:=o.1) (ks:=ks) z (by omega) (L:=((201-(n+1):Nat):Int))
         (z0:=0) (z1:=false) (z2:=0) (z3:=[]) (z4:=0) (z5:=0) (z6:=false) (z7:=x.Kind) (z8:=false) (z9:=0) (z10:=[]) (z11:=0) (ks.length-(0+1)) 0 rfl with⟨h1,b⟩|⟨⟨m,D,E⟩,F,b⟩
        . have c:o0 ks=true:=wa.2 λi w=>h1 i (by omega) w;rw[one]at b;rw[b,ae c];simp only[ao];obtain⟨j,k⟩:=P9 (ts:=ts) (x:=x) (path:=path) (by omega) (f:=cY ts n x.aF) (l:=o.1) (by omega) (L:=((201-(n+1):Nat):Int)) (λq d step=>ih.part aH (H.elem u (by omega)) (by have:=v q d;omega) s step)
           (z0:=0) (z1:=false) (z2:=0) (z3:=[]) (z4:=0) (z5:=0) (z6:=false) (z7:=x.Kind) (z8:=false) (z9:=0) (z10:=[]) (z11:=0) (ks:=ks) (o.1.length/2) 0 [] (by omega) rfl
          rw[Nat.mul_zero,fT,z0]at j k;cases t:cg (cY ts n x.aF) (fh o.1)with
          |none=>
           obtain⟨F,e⟩:=k t;rw[e];exact .rY rfl
          |some C=>
           rw[j C t];simp only[ao];rw[uG];refine fG.cast rfl (fG.w8 (F:=⟨[],0⟩) ?_);simp[I.aV,k8]
        . have c:¬o0 ks=true:=λh=>E (wa.1 h m D);rw[one]at b;rw[b,al c];exact .rY rfl
     . rw[al (show ¬(o.1.length%2=0/\((o.1.length/2:Nat):Int)<=x.Max)fromλh=>r h.2),al (show ¬(bif !decide (o.2=0)then true else decide (((o.1.length%2:Nat):Int)=1))=true by rw[he,h0];simp),ae (show decide (x.Max<((o.1.length/2:Nat):Int))=true by simp only[eT];omega)];exact jq (by omega) _
   . have h1:o.1.length%2=1:=(by omega);rw[al (show ¬(o.1.length%2=0/\((o.1.length/2:Nat):Int)<=x.Max)fromλh=>he h.1),ae (show(bif !decide (o.2=0)then true else decide (((o.1.length%2:Nat):Int)=1))=true by rw[h1,h0];simp)];exact jq (by omega) _
 . rw[K h0,ae (by simp[h0])];exact jq (by omega) _
theorem aeu(H:jh ts){n:Nat}(aH:n+1<=200)(ih:oT ts n)(e:x∈ts)(k5:x.Kind=5)(w:p.length<=4096)(i:path.length+(n+1)<=200):
 fG (nk (cY ts n) x p) (Dd ((⟨ts⟩:aT),x,p,((201-(n+1):Nat):Int),path)):=by
 obtain⟨u,v⟩:=H.S.A x e (.inl k5);obtain⟨o,_,k,r,s⟩:=YK (p:=p) (by omega);rw[Dd,k];unfold nk;simp only[aS,ao];by_cases h0:o.2=0
 . obtain⟨v1,t,v3,v4⟩:=r h0;rw[al (by simp[h0]),v1];dsimp only;obtain⟨ft,c⟩:=Tj (ts:=ts) (x:=x) (path:=path) (by omega) (f:=cY ts n) (l:=o.1) (by omega) (by omega) (L:=((201-(n+1):Nat):Int)) (λm g q j step=>ih.part aH (H.mem e g) (by have:=(t q j).1;omega) i step)
    (z0:=0) (z1:=false) (z2:=0) (z3:=[]) (z4:=0) (z5:=0) (z6:=false) (z7:=x.Kind) (z8:=false) (z9:=0) (z10:=[]) (z11:=0) x.ah.length 0 [] (by omega) rfl
   have z0:((0:Nat):Int)=0:=rfl;rw[fT,z0]at ft c;have B:=λits=>Gg (x:=x) (path:=path) (by omega) (by omega) (l:=o.1) (by omega) (z0:=0) (z1:=false) (z2:=0) (z3:=[]) (z4:=0) (z5:=0) (z6:=false) (z7:=x.Kind) (z8:=false) (z9:=0) (z10:=[]) (z11:=0) (its:=its) o.1.length 0 [] (by omega) (d' _);rw[fT,z0]at B;cases hs:cg (eg (cY ts n) o.1) x.ah with
   |none=>
    obtain⟨F,a⟩:=c hs;rw[a];exact .rY rfl
   |some b=>
    rw[ft b hs];simp only[ao,fS];cases d:o.1.all (fU x)with
    |true=>
     rw[(B b).1 d,ae rfl];simp only[ao];rw[uG];refine fG.cast rfl (fG.w8 (F:=⟨[],0⟩) ?_);simp[I.aV,k5]
    |false=>
     obtain⟨F,a⟩:=(B b).2 d;rw[a,bw];exact .rY rfl
 . rw[ae (by simp[h0]),s h0];exact jq (by omega) _
theorem ack(H:jh ts){n:Nat}(aH:n+1<=200)(ih:oT ts n):oT ts (n+1):=λt p path t0 t1 d f=>by
 obtain⟨j,rfl⟩:=BX t0;have w:j<ts.length:=by omega
 have a:¬(200:Int)<((201-(n+1):Nat):Int):=by omega
 rw[jI,ae (aP w),tJ,aZ];have b:=bd w aK;generalize ts.getD j aK=x at*;obtain⟨Q,R⟩:=H.S.K x b;have L:x.bh.length<9223372036854775807:=dA (ig (H.S.T x b).1);unfold qs;obtain⟨u,_,P,B,C⟩:=aao p;have z:yk p=some (u.1,decide (u.2=0)):=by rw[yk,P];rfl
 by_cases k1:x.Kind=1
 . simp only[k1,a,eT,↓reduceIte,Int.reduceEq,dk,dW,bY,aS,ao];unfold xg;by_cases h0:p=[]
   . rw[ae h0,al (by simp[h0])];simp only[h0,dd,c8];exact .one _
   . by_cases h1:p=[1]
     . rw[al h0,ae h1,al (by simp[h1])];simp only[h0,dk,eU];exact .one _
     . rw[al h0,al h1,ae (by simp[h0,h1])];exact jq (by omega) _
 by_cases k2:x.Kind=2
 . simp only[k2,a,eT,↓reduceIte,Int.reduceEq,dk,dW,bY,aS,ao,z];unfold xh;by_cases h0:u.2=0
   . obtain⟨m,g,o⟩:=B h0;rw[g,o,aeR (EK g),al (by simp[h0])];simp only[ao];by_cases ag:x.bE<=ia m/\ia m<=x.bH
     . rw[ae ag,b'];exact .one _
     . rw[al ag,br];exact jq (by omega) _
   . rw[C h0,ae (by simp[h0])];exact jq (by omega) _
 by_cases k3:x.Kind=3
 . simp only[k3,a,eT,↓reduceIte,Int.reduceEq,dk,dW,bY,aS,ao];unfold xi;by_cases ag:(p.length:Int)<=x.Max
   . rw[ae ag,bB];exact .one _
   . rw[al ag,fz];exact jq (by omega) _
 by_cases k4:x.Kind=4
 . simp only[k4,a,eT,↓reduceIte,Int.reduceEq,dk,dW,bY,aS,ao,z];unfold xj;by_cases h0:u.2=0
   . obtain⟨m,g,o⟩:=B h0;rw[g,o];dsimp only;by_cases ag:1<=m/\m<=1000
     . obtain⟨q,_,N,O⟩:=rb (t:=x) (m:Int) L;have e:bT .i64 (m:Int)=(m:Int):=jC;rw[al (show ¬(bif bif !decide (u.2=0)then true else decide ((m:Int)<1)then true else decide (1000<(m:Int)))=true by simp[h0];omega),e,N];simp only[ao];have J:q.2=(x.bh.any λy=>decide (y.ad=(m:Int))):=by
        have:=(Dt O).trans Jo;grind
       rw[J];by_cases r:((x.bh.any λy=>decide (y.ad=(m:Int)))||x.Open)=true
       . rw[ae (show 1<=m/\m<=1000/\((x.bh.any λy=>decide (y.ad=(m:Int)))||x.Open)=true from⟨ag.1,ag.2,r⟩),al]
         . exact .one _
         grind
       . rw[al (show ¬(1<=m/\m<=1000/\((x.bh.any λy=>decide (y.ad=(m:Int)))||x.Open)=true)fromλh=>r h.2.2),ae]
         . exact jq (by omega) _
         grind
     . rw[al (show ¬(1<=m/\m<=1000/\((x.bh.any λy=>decide (y.ad=(m:Int)))||x.Open)=true)fromλh=>ag ⟨h.1,h.2.1⟩),ae (by simp[h0];omega)];exact jq (by omega) _
   . rw[C h0,ae (by simp[h0])];exact jq (by omega) _
 by_cases k9:x.Kind=9
 . obtain⟨aN,E⟩:=H.elem b (by omega);simp only[k9,a,eT,↓reduceIte,Int.reduceEq,dk,dd,dW,et,bY,aS,ao];cases p with
   |nil=>
    rw[bw,mn];exact .one _
   |cons c q=>
    have M:aG 0 (c::q).length=true:=aP (k:=0) (by simp);have b0:fI (c::q) 0=(c.toNat:Int):=rfl;have r8:dN 1 ((c::q).length:Int) (c::q).length=true:=ij.2 (by simp<;>omega);have D:dZ (c::q) 1 ((c::q).length:Int)=q:=by
     unfold dZ;simp
    rw[hO,ae M,b0,mn];by_cases i:c=1
    . subst i;rw[ae rfl,bw,ae r8,D];have s:=ih.part aH (t:=x.aF) (q:=q) (path:=path) ⟨aN,E⟩ (by simp at d;omega) f 0;rw[ni (by omega)];simp only[ao];cases A:cY ts n x.aF q with
      |none=>
       obtain⟨F,l⟩:=s.no (by omega) A;rw[l];exact .rY rfl
      |some v=>
       obtain⟨F,l⟩:=s.yes (by omega) A;rw[l];simp only[ao];rw[bw,uG];refine fG.cast rfl (fG.w8 (F:=⟨[],0⟩) ?_);simp[I.aV]
    . have G:¬((c.toNat:Int)=1):=λh=>i (UInt8.toNat.inj (by show c.toNat=1;omega));rw[al i,ae (by simpa using G)];exact jq (by omega) _
 by_cases k6:x.Kind=6
 . have:=(aeU H aH ih b k6 d (path:=path) f).eta;simp only[k6,a,eT,↓reduceIte,Int.reduceEq,dk,dW,bY,aS,ao];exact this
 by_cases k7:x.Kind=7
 . have:=(aeV H aH ih b k7 d (path:=path) f).eta;simp only[k7,a,eT,↓reduceIte,Int.reduceEq,dk,dW,bY,aS,ao];exact this
 by_cases k8:x.Kind=8
 . have:=(ahU H aH ih b k8 d (path:=path) f).eta;simp only[k8,a,eT,↓reduceIte,Int.reduceEq,dk,dW,bY,aS,ao];exact this
 have k5:x.Kind=5:=by omega
 have:=(aeu H aH ih b k5 d (path:=path) f).eta;simp only[k5,a,eT,↓reduceIte,Int.reduceEq,dk,dW,bY,aS,ao];exact this
theorem Nj(H:jh ts):∀n,n<=200->oT ts n
 |0,_=>λt p path t0 t1 b c=>by
  obtain⟨j,rfl⟩:=BX t0;have a:j<ts.length:=by omega
  rw[jI,ae (aP a)];simp only[aS,ao];rw[hO,zs];exact jq (by omega) _
 |n+1,aH=>ack H aH (Nj H n (by omega))
end
theorem aev(n:Nat):(fE (ia n)).toNat=n:=by
 unfold ia fE;omega
theorem Ps:∀(k:Nat) (s:ak),s.length=k->s.head?≠some 0->fb (gh 0 s)=s
 |0,s,d,h=>by
  have:s=[]:=ju d;subst this;rw[gh,fb,ae rfl]
 |k+1,s,d,h=>by
  have f:s≠[]:=λh0=>by rw[h0]at d;cases d
  have es:=List.dropLast_concat_getLast f;generalize s.getLast f=b at es;have af:s.dropLast.length=k:=by simp[d]
  generalize s.dropLast=c at es af;subst es;have i:b.toNat<256:=B9 b;rw[Jn];by_cases h0:c=[]
  . subst h0;have g:b≠0:=λe=>h (by rw[e];rfl);have:b.toNat≠0:=λe=>g (UInt8.toNat.inj e);show fb (0*256+b.toNat)=[b];rw[fb,bB,show(0*256+b.toNat)/256=0 by omega,fb,ae rfl,show(0*256+b.toNat)%256=b.toNat by omega];simp
  . have ih:=Ps k c af (λe=>h (by cases c with|nil=>exact absurd rfl h0|cons a l=>simpa using e));have j:gh 0 c≠0:=λe=>by rw[e,fb,ae rfl]at ih;exact h0 ih.symm
    rw[fb,bB,show(gh 0 c*256+b.toNat)/256=gh 0 c by omega,ih,show(gh 0 c*256+b.toNat)%256=b.toNat by omega];simp
theorem Nk{s:ak}{n:Nat}(h:gD s=some n):fb n=s:=by
 unfold gD at h;split at h
 . cases h
 . rename_i aa;cases h;exact Ps _ s rfl (λe=>aa (.inl e))
theorem P'(s:ak):∀(f i n m k:Nat),hx s f i n=((m:Int),(k:Int),0)->∃q,m=n+q*2^(7*i)/\s.drop i=dP q++s.drop k/\(0<i->0<q)
 |0,i,n,m,k,h=>by rw[hx]at h;simp at h
 |f+1,i,n,m,k,h=>by
  rw[hx]at h;split at h
  . rename_i b;have a:s.drop i=s.getD i 0::s.drop (i+1):=by rw[dv b];exact lB b
    have o:(s.getD i 0).toNat<256:=B9 _;generalize s.getD i 0=c at*;split at h
    . simp at h
    . split at h
      . rename_i d;obtain⟨q,t,j,l⟩:=P' s f (i+1) _ m k h;have r:=l (by omega);refine⟨c.toNat%128+128*q,?_,?_,λ_=>by omega⟩
        . grind
        . rw[oj (by omega),show(c.toNat%128+128*q)/128=q by omega,show(c.toNat%128+128*q)%128+128=c.toNat by omega,a,j];simp
      . rename_i d;split at h
        . simp at h
        . rename_i h0;simp only[dV,qj]at h;have g:m=n+c.toNat*2^(7*i):=by have:=h.1;exact_mod_cast this.symm
          have e:k=i+1:=by have:=h.2;exact_mod_cast this.symm
          refine⟨c.toNat,g,?_,λp=>?_⟩
          . rw[pO (by omega),a,e];simp
          omega
  . simp at h
theorem Jp{s:ak}{m k:Nat}(h:hx s 10 0 0=((m:Int),(k:Int),0)):s=dP m++s.drop k:=by
 obtain⟨q,a,b,_⟩:=P' s 10 0 0 m k h;grind
theorem M6{s a b:ak}(h:iy s=some (a,b)):s=da a++b:=by
 unfold iy at h;rcases lG s with⟨e,he,c⟩|⟨m,k,c,j,i,l⟩
 . grind
 . have c4:=Jp c;rw[c]at h;dsimp only at h;split at h
   . rename_i g;simp only[dG,dV]at h;obtain⟨h1,d⟩:=h;have f:a.length=m:=by
      rw[<-h1,oF,mc];omega
     unfold da;rw[f,ir,<-h1,<-d,yM];simpa using c4
   . cases h
theorem M7:∀(n:Nat) (s:ak) (b l:List ak),s.length<=n->s.length+b.length<=100000->hE (s,b)=some (.inr l)->∃c,l=b++c/\c.flatMap da=s
 |n,s,b,l,aH,g,h=>by
  rw[hE]at h;by_cases h0:s=[]
  . simp_all
  . rw[ae (by simp[h0]),l3]at h;simp only[aS,ao]at h;cases a:iy s with
    |none=>
     rw[a]at h;simp[dR]at h
    |some r=>
     obtain⟨x,d⟩:=r;rw[a]at h;have af:=nY a;have f:¬((!(dR (some (x,d))).2.2)=true):=(by simp[dR]);have ag:room 16 (b++[(dR (some (x,d))).1]).length=true:=cO;rw[al f,ae ag]at h
     match n,aH with
     |0,aH=>omega
     |n+1,aH=>
      obtain⟨c,aN,e⟩:=M7 n d _ l (by omega) (by simp;omega) h;refine⟨x::c,by rw[aN];simp[dR],?_⟩;rw[eY,e];exact(M6 a).symm
theorem M8:∀(n:Nat) (s:ak) (b:List ak),s.length<=n->s.length+b.length<=100000->hE (s,b)=some (.inl 0)->False
 |n,s,b,aH,e,h=>by
  rw[hE]at h;by_cases h0:s=[]
  . grind
  . rw[ae (by simp[h0]),l3]at h;simp only[aS,ao]at h;cases a:iy s with
    |none=>
     rw[a]at h;simp[dR]at h
    |some r=>
     obtain⟨x,c⟩:=r;rw[a]at h;have af:=nY a;have d:¬((!(dR (some (x,c))).2.2)=true):=(by simp[dR]);have ag:room 16 (b++[(dR (some (x,c))).1]).length=true:=cO;rw[al d,ae ag]at h
     match n,aH with
     |0,aH=>omega
     |n+1,aH=>exact M8 n c _ (by omega) (by simp;omega) h
theorem LX:∀(n:Nat) (s:ak) (last:Nat) (b:List cT),s.length<=n->s.length+b.length<=100000->ga ((last:Int),s,b)=some (.inl 0)->False
 |n,s,last,b,aH,i,h=>by
  rw[ga]at h;by_cases h0:s=[]
  . grind
  . rw[ae (by simp[h0])]at h;rcases lG s with⟨e,he,aq⟩|⟨m,k,aq,j,d,f⟩
    . rw[oi he aq]at h;simp at h
    . rw[l0 aq d]at h;simp only[aS,ao,uD f]at h;split at h
      . cases h
      . rw[l3 (by rw[mc];omega)]at h;simp only[ao]at h;cases a:iy (s.drop k)with
        |none=>
         rw[a]at h;simp[dR]at h
        |some r=>
         obtain⟨x,c⟩:=r;rw[a]at h;have af:=nY a;rw[mc]at af;have g:¬((!(dR (some (x,c))).2.2)=true):=(by simp[dR]);rw[al g]at h;split at h
         . match n,aH with
           |0,aH=>omega
           |n+1,aH=>exact LX n c (m/2) _ (by omega) (by simp;omega) h
         . cases h
theorem EM(c:p.length<=90000){l:List ak}(h:ib p=some l):l.flatMap da=p:=by
 unfold ib at h;rw[lk]at h;cases a:hE (p,[])with
 |none=>rw[a]at h;simp at h
 |some o=>
  rw[a]at h;cases o with
  |inl e=>
   by_cases he:e=0
   . simp[he]at h;exfalso;obtain⟨f,a1,_⟩:=HK p.length p [] (by omega) (by simp;omega);exact M8 p.length p [] (by omega) (by simp;omega) (by rw[a,he])
   grind
  |inr l2=>
   have e:l2=l:=(by simpa using h);obtain⟨d,aN,b⟩:=M7 p.length p [] l2 (by omega) (by simp;omega) a;grind
def nU(f:cT):ak:=eW f.ad.toNat f.ch f.Data
theorem LY:∀(n:Nat) (s:ak) (last:Nat) (b l:List cT),s.length<=n->s.length+b.length<=100000->ga ((last:Int),s,b)=some (.inr l)->
 ∃c,l=b++c/\c.flatMap nU=s
 |n,s,last,b,l,aH,q,h=>by
  rw[ga]at h;by_cases h0:s=[]
  . simp_all
  . rw[ae (by simp[h0])]at h;rcases lG s with⟨e,he,aq⟩|⟨m,k,aq,u,g,i⟩
    . rw[oi he aq]at h;simp at h
    . have es:=Jp aq;rw[l0 aq g]at h;simp only[aS,ao,uD i]at h;by_cases t:((m/2:Nat):Int)<=(last:Int)\/1000<((m/2:Nat):Int)
      . grind
      . have:¬((bif bif (!true)then true else decide (((m/2:Nat):Int)<=(last:Int))then true else decide (1000<((m/2:Nat):Int)))=true):=(by grind);rw[al this,l3 (by rw[mc];omega)]at h;simp only[ao]at h;cases a:iy (s.drop k)with
        |none=>
         rw[a]at h;simp[dR]at h
        |some r=>
         obtain⟨x,d⟩:=r;rw[a]at h;have af:=nY a;have p:=M6 a;rw[mc]at af;have j:¬((!(dR (some (x,d))).2.2)=true):=(by simp[dR]);have o:bT .i64 ((m/2:Nat):Int)=((m/2:Nat):Int):=jC;rw[al j,o]at h;have ag:room 32 (b++[(⟨((m/2:Nat):Int),decide (b7 (m:Int) 2=1),(dR (some (x,d))).1⟩:cT)]).length=true:=cO;rw[ae ag]at h
         match n,aH with
         |0,aH=>omega
         |n+1,aH=>
          obtain⟨c,aN,f⟩:=LY n d (m/2) _ l (by omega) (by simp;omega) h;refine⟨⟨((m/2:Nat):Int),decide (b7 (m:Int) 2=1),x⟩::c,by rw[aN];simp[dR],?_⟩;rw[eY,f];unfold nU eW;have v:2*(((m/2:Nat):Int)).toNat+(if (b7 (m:Int) 2=1:Bool) then 1 else 0)=m:=by
           rw[hj];grind
          grind
theorem Pt(c:p.length<=90000){l:List cT}(h:iI p=some l):l.flatMap nU=p:=by
 unfold iI at h;rw[lT]at h;have c4:ga (0,p,[])=ga (((0:Nat):Int),p,[]):=rfl;rw[c4]at h;cases a:ga (((0:Nat):Int),p,[])with
 |none=>rw[a]at h;simp at h
 |some o=>
  rw[a]at h;cases o with
  |inl e=>
   by_cases he:e=0
   . exfalso;exact LX p.length p 0 [] (by omega) (by simp;omega) (by rw[a,he])
   grind
  |inr l2=>
   have e:l2=l:=(by simpa using h);obtain⟨d,aN,b⟩:=LY p.length p 0 [] l2 (by omega) (by simp;omega) a;grind
theorem Qa(h:jA p=some (id,q)):p=dP id.toNat++q:=by
 unfold jA at h;rw[lY]at h;rcases lG p with⟨e,he,aq⟩|⟨m,k,aq,d,a,f⟩
 . rw[oi he aq]at h;simp at h
 . have es:=Jp aq;rw[l0 aq a]at h;simp only[aS,ao]at h;by_cases c:(m:Int)<1\/1000<(m:Int)
   . grind
   . have:¬((bif bif (!true)then true else decide ((m:Int)<1)then true else decide (1000<(m:Int)))=true):=(by grind);have b:bT .i64 (m:Int)=(m:Int):=jC;rw[al this,b]at h;simp only[b5,dG,dV]at h;rw[<-h.1,<-h.2];simpa using es
theorem I7{d:Type}{f:α->Option d}(d1:α)(d2:d):∀{l:List α} {m:List d},cg f l=some m->∀i,i<l.length->f (l.getD i d1)=some (m.getD i d2)
 |[],m,h,i,c=>by simp at c
 |a::l,m,h,i,c=>by
  rw[cg]at h;split at h
  . rename_i b g h1 e;cases h;cases i with
    |zero=>exact h1
    |succ i=>exact I7 d1 d2 e i (by simpa using c)
  . cases h
theorem Qb:∀{l:List α},l.length%2=0->(e5 l).length=l.length/2/\(fh l).length=l.length/2
 |[],_=>⟨by simp[e5],by simp[fh]⟩
 |[a],h=>by simp at h
 |a::b::l,h=>by
  obtain⟨h1,c⟩:=Qb (l:=l) (by simp at h;omega);show(e5 l).length+1=(l.length+1+1)/2/\(fh l).length+1=(l.length+1+1)/2;omega
theorem D0:∀{l:List α} {y:α},y∈fh l->y∈l
 |[],y,h=>by cases h
 |[_],y,h=>by cases h
 |a::b::l,y,h=>by
  rcases eJ.1 h with rfl|h
  . grind
  . exact .tail _ (.tail _ (D0 h))
def np(l:List ak):Nat:=(l.map λq=>q.length+1).sum
theorem wX(q:ak)(l:List ak):np (q::l)=q.length+1+np l:=by unfold np;simp
theorem Jq:∀(l:List ak),np l<=(l.flatMap da).length
 |[]=>by simp[np]
 |q::l=>by
  have:=Jq l;have:=om q.length;have e:(da q).length=(dP q.length).length+q.length:=by unfold da;rw[cq]
  rw[wX,eY,cq];omega
theorem Nl:∀(l:List ak),np (e5 l)+np (fh l)<=np l
 |[]=>by simp[e5,fh,np]
 |[a]=>by simp[e5,fh,np]
 |a::b::l=>by
  have:=Nl l;rw[e5,fh,wX,wX,wX,wX];omega
theorem EN{C:Nat}{f:ak->Option I}:∀{l:List ak} {m:List I},cg f l=some m->(∀q,q∈l->∀v,f q=some v->wt v<=C*(q.length+1))->cK m<=C*np l
 |[],m,h,_=>by rw[cg]at h;cases h;rw[gH];exact hR _
 |q::l,m,h,k=>by
  rw[cg]at h;split at h
  . rename_i b g h1 d;cases h;have a:=k q (.head _) b h1;have c:=EN d (λq e=>k q (.tail _ e));rw[hh,wX,Nat.mul_add];omega
  . cases h
def va(l:List cT):Nat:=(l.map λf=>f.Data.length+1).sum
theorem Pu(f:cT)(l:List cT):va (f::l)=f.Data.length+1+va l:=by unfold va;simp
theorem Pv:∀(l:List cT),va l<=(l.flatMap nU).length
 |[]=>by simp[va]
 |f::l=>by
  have:=Pv l;have:=om f.Data.length;have e:(nU f).length=(dP (2*f.ad.toNat+(if f.ch then 1 else 0))).length+((dP f.Data.length).length+f.Data.length):=by unfold nU eW da;rw[cq,cq]
  rw[Pu,eY,cq];omega
def dp(C d:Nat)(l:List cT)(m:aU):Nat:=match l.find? (λf=>decide (f.ad=m.ad))with
 |some f=>C*(f.Data.length+1)
 |none=>d
def aI(C d:Nat)(l:List cT)(ms:List aU):Nat:=(ms.map (dp C d l)).sum
def oJ(id:Int)(A:Nat)(ms:List aU):Nat:=(ms.map λm=>if m.ad=id then A else 0).sum
theorem I8{A:Nat}:∀{ms:List aU},(∀m,m∈ms->m.ad≠id)->oJ id A ms=0
 |[],_=>rfl
 |m::ms,h=>by
  have:=I8 (A:=A) (λm a=>h m (.tail _ a));unfold oJ at this⊢;grind
theorem Qc{id:Int}{A:Nat}:∀{ms:List aU},ms.Pairwise (λa b=>a.ad<b.ad)->oJ id A ms<=A
 |[],_=>hR _
 |m::ms,h=>by
  rw[h6]at h;by_cases e:m.ad=id
  . have:oJ id A ms=0:=I8 λx c=>by have:=h.1 x c;omega
    unfold oJ at this⊢;grind
  . have:=Qc (id:=id) (A:=A) h.2;unfold oJ at this⊢;grind
theorem aew(C d:Nat)(f:cT)(l:List cT)(m:aU):dp C d (f::l) m<=(if m.ad=f.ad then C*(f.Data.length+1)else 0)+dp C d l m:=by
 unfold dp;grind
theorem Pw(C d:Nat)(f:cT)(l:List cT):∀(ms:List aU),aI C d (f::l) ms<=oJ f.ad (C*(f.Data.length+1)) ms+aI C d l ms
 |[]=>by simp[aI,oJ]
 |m::ms=>by
  have a:=Pw C d f l ms;have b:=aew C d f l m;unfold aI oJ at*;grind
theorem Qd(C d:Nat):∀(ms:List aU),aI C d [] ms=d*ms.length
 |[]=>by simp[aI]
 |m::ms=>by
  have:=Qd C d ms;unfold aI at*;simp only[gB,oG,gA];rw[this,Nat.mul_succ];have:dp C d [] m=d:=rfl;omega
theorem Qe{C d:Nat}(cv:1<=C)(b:gQ x.ah):∀(l:List cT),aI C d l x.ah+((fa x l).map λr=>r.Data.length+1).sum<=d*x.ah.length+C*va l
 |[]=>by rw[Qd];simp[fa]
 |f::l=>by
  have ih:=Qe (d:=d) cv b l;have a:=Pw C d f l x.ah;rw[Pu,Nat.mul_add];cases bx:cB x.ah f.ad with
  |some m=>
   have ag:fa x (f::l)=fa x l:=by unfold fa;rw[FX (by rw[bx];simp)]
   rw[ag];have:=Qc (id:=f.ad) (A:=C*(f.Data.length+1)) b.1;omega
  |none=>
   have ag:fa x (f::l)=⟨f.ad,f.Data⟩::fa x l:=by unfold fa;rw[FY (by rw[bx];rfl)];rfl
   have:oJ f.ad (C*(f.Data.length+1)) x.ah=0:=I8 (nW bx);rw[ag,gB,oG];have:f.Data.length+1<=C*(f.Data.length+1):=Nat.le_mul_of_pos_left _ cv;grind
theorem Px{C d:Nat}{f:Int->ak->Option I}{l:List cT}(i:∀(m:aU),m.bU=true->True):∀{ms:List aU} {a:List I},(∀m,m∈ms->(m.bU=true->wt m.bA<=d)/\∀g,g∈l->∀v,f m.aw g.Data=some v->wt v<=C*(g.Data.length+1))->cg (eg f l) ms=some a->cK a<=aI C d l ms
 |[],a,_,h=>by rw[cg]at h;cases h;rw[gH];exact hR _
 |m::ms,a,k,h=>by
  rw[cg]at h;split at h
  . rename_i b o h1 e;cases h;have ih:=Px (C:=C) (d:=d) i (λm j=>k m (.tail _ j)) e;have n:wt b<=dp C d l m:=by
     unfold eg at h1;unfold dp;cases c:l.find? (λf=>decide (f.ad=m.ad))with
     |some g=>
      rw[c]at h1;exact(k m (.head _)).2 g (Ck c) b h1
     |none=>grind
    unfold aI at*;rw[hh,gB,oG];omega
  . cases h
theorem H3{l:List cT}{r:bW}(h:r∈fa x l):∃f,f∈l/\cB x.ah f.ad=none/\r=⟨f.ad,f.Data⟩:=by
 unfold fa at h;obtain⟨f,a,rfl⟩:=e'.1 h;obtain⟨h1,b⟩:=r2.1 a;refine⟨f,h1,?_,rfl⟩;simp_all
theorem Nn{l:List cT}(c:l.Pairwise (λa b=>a.ad<b.ad))(d:∀f,f∈l->cm f.ad):jR x.ah (fa x l):=by
 refine⟨?_,λr ag=>?_⟩
 . unfold fa;grind
 . obtain⟨f,f1,f2,rfl⟩:=H3 ag;grind
section
variable {ts:List ai}
def sq(ts:List ai)(t:Int)(p:ak)(v:I):Prop:=bX ts false t v/\bK v/\wt v<=300*(p.length+1)
theorem mY{k:Int}{b:Bool}{i:Int}{s:ak}{a:List I}{r:List bW}(h0:0<=k/\k<=9)(h1:cx i)(d:0<=id/\id<=1000)(hs:s.length<=90000)(f:ks.length<=90000)(e:a.length<=90000)(ag:r.length<=90000)
 (k1:∀x,x∈ks->bK x)(k2:∀x,x∈a->bK x)(k3:∀x,x∈r->x.Data.length<=90000/\cm x.ad):bK ⟨k,b,i,s,id,ks,a,r⟩:=by
 refine .mk _ (by unfold reachBytes;show s.length<=_;omega) (by unfold reachBytes;show ks.length<=_;omega) (by unfold reachBytes;show a.length<=_;omega) (by unfold reachBytes;show r.length<=_;omega) k1 k2 (λx c=>by have:=(k3 x c).1;unfold reachBytes;omega) ?_ h1 ?_ (λx c=>by have:=(k3 x c).2;unfold cm at this;omega)
 . show -9223372036854775808<=k/\k<=9223372036854775807;omega
 . show -9223372036854775808<=id/\id<=9223372036854775807;omega
theorem adv(H:c' ts){n:Nat}(ih:∀(t:Int) (p:ak) (v:I),p.length<=90000->0<=t->t<ts.length->cY ts n t p=some v->sq ts t p v)(G:p.length<=90000)(t0:0<=t)(t1:t<ts.length)(h:cY ts (n+1) t p=some v):sq ts t p v:=by
 rw[tJ]at h;have az:t.toNat<ts.length:=by omega
 have B:=bd az aK;have cv:=H.gT;unfold sq;rw[eH];generalize ts.getD t.toNat aK=x at*;unfold qs at h;have jB:∀(k i id:Int) (b:Bool) (s:ak),wt ⟨k,b,i,s,id,[],[],[]⟩=10+s.length:=λk i id b s=>by rw[fD,gH];simp
 by_cases k1:x.Kind=1
 . rw[ae k1]at h;have:∃b,v=⟨1,b,0,[],0,[],[],[]⟩:=by
    unfold xg at h;grind
   obtain⟨b,rfl⟩:=this;exact⟨⟨⟨t0,t1,k1.symm,λh=>by cases h⟩,.inl ⟨rfl,rfl,rfl,rfl,rfl,rfl,rfl⟩⟩,mY (by omega) l8 (by omega) (by simp) (by simp) (by simp) (by simp) (by simp) (by simp) (by simp),by rw[jB];simp;omega⟩
 rw[al k1]at h;by_cases k2:x.Kind=2
 . rw[ae k2]at h;unfold xh at h;cases z:gD p with
   |none=>rw[z]at h;cases h
   |some m=>
    rw[z]at h;dsimp only at h;split at h
    . rename_i ag;cases h;exact⟨⟨⟨t0,t1,k2.symm,λh=>by cases h⟩,.inr (.inl ⟨rfl,rfl,rfl,rfl,rfl,rfl,rfl,ag.1,ag.2⟩)⟩,mY (by omega) (Pq (EK z)) (by omega) (by simp) (by simp) (by simp) (by simp) (by simp) (by simp) (by simp),by rw[jB];simp;omega⟩
    . cases h
 rw[al k2]at h;by_cases k3:x.Kind=3
 . rw[ae k3]at h;unfold xi at h;split at h
   . rename_i ag;cases h;exact⟨⟨⟨t0,t1,k3.symm,λh=>by cases h⟩,.inr (.inr (.inl ⟨rfl,rfl,rfl,rfl,rfl,rfl,rfl,ag⟩))⟩,mY (by omega) l8 (by omega) (by omega) (by simp) (by simp) (by simp) (by simp) (by simp) (by simp),by rw[jB];omega⟩
   . cases h
 rw[al k3]at h;by_cases k4:x.Kind=4
 . rw[ae k4]at h;unfold xj at h;cases z:gD p with
   |none=>rw[z]at h;cases h
   |some m=>
    rw[z]at h;dsimp only at h;split at h
    . rename_i ag;cases h;refine⟨⟨⟨t0,t1,k4.symm,λh=>by cases h⟩,.inr (.inr (.inr (.inl ⟨rfl,rfl,rfl,rfl,rfl,rfl,rfl,?_⟩)))⟩,mY (by omega) l8 (by omega) (by simp) (by simp) (by simp) (by simp) (by simp) (by simp) (by simp),by rw[jB];simp;omega⟩;have N:=ag.2.2;rw[me]at N;rcases N with N|N
      . grind
      . exact .inr ⟨N,rfl,by unfold cm;show 1<=(m:Int)/\(m:Int)<=1000;omega⟩
    . cases h
 rw[al k4]at h;by_cases k9:x.Kind=9
 . rw[ae k9]at h;obtain⟨aN,L⟩:=cv.elem B (by omega);cases p with
   |nil=>
    rw[mn]at h;cases h;exact⟨⟨⟨t0,t1,k9.symm,λh=>by cases h⟩,.inr (.inr (.inr (.inr (.inr (.inr (.inr (.inr ⟨rfl,rfl,rfl,rfl,rfl,rfl,rfl,by simp,cI.2 (by simp)⟩)))))))⟩,mY (by omega) l8 (by omega) (by simp) (by simp) (by simp) (by simp) (by simp) (by simp) (by simp),by rw[jB];simp⟩
   |cons c q=>
    rw[mn]at h;split at h
    . obtain⟨w,aj,rfl⟩:=kQ.1 h;obtain⟨f1,f2,f3⟩:=ih _ _ _ (by simp at G;omega) aN L aj;refine⟨⟨⟨t0,t1,k9.symm,λh=>by cases h⟩,.inr (.inr (.inr (.inr (.inr (.inr (.inr (.inr ⟨rfl,rfl,rfl,rfl,rfl,rfl,rfl,by simp,cI.2 ?_⟩)))))))⟩,mY (by omega) l8 (by omega) (by simp) (by simp) (by simp) (by simp) (by simp) ?_ (by simp),?_⟩
      . grind
      . grind
      . rw[fD];show 10+0+0+cK []+cK [w]<=_;rw[hh,gH,gA];omega
    . cases h
 rw[al k9]at h;by_cases k6:x.Kind=6
 . rw[ae k6]at h;unfold qp at h;cases V:jA p with
   |none=>rw[V]at h;cases h
   |some a=>
    obtain⟨id,q⟩:=a;rw[V]at h;dsimp only at h;have ar:=Qa V;have aJ:=om id.toNat;have aL:q.length+1<=p.length:=by rw[ar,cq];omega
    obtain⟨o,aa,ab,ai⟩:=I4 p;have ay:cm id:=(by grind);unfold cm at ay;cases bx:cB x.ah id with
    |some m=>
     rw[bx]at h;obtain⟨w,aj,rfl⟩:=kQ.1 h;obtain⟨F,aQ⟩:=kf bx;obtain⟨f1,f2,f3⟩:=ih _ _ _ (by omega) (cv.mem B F).1 (cv.mem B F).2 aj;refine⟨⟨⟨t0,t1,k6.symm,λh=>by cases h⟩,.inr (.inr (.inr (.inr (.inr (.inl ⟨rfl,rfl,rfl,rfl,rfl,?_⟩)))))⟩,mY (by omega) l8 (by omega) (by simp) (by simp) (by simp) (by simp) (by simp) ?_ (by simp),?_⟩
     . show(match cB x.ah id with
        |some m=>_
        |none=>_)
       rw[bx];refine⟨rfl,rfl,cI.2 ?_⟩;grind
     . grind
     . rw[fD];show 10+0+0+cK []+cK [w]<=_;rw[hh,gH];omega
    |none=>
     rw[bx]at h;dsimp only at h;split at h
     . rename_i aH;cases h;refine⟨⟨⟨t0,t1,k6.symm,λh=>by cases h⟩,.inr (.inr (.inr (.inr (.inr (.inl ⟨rfl,rfl,rfl,rfl,rfl,?_⟩)))))⟩,mY (by omega) l8 (by omega) (by simp) (by simp) (by simp) (by simp) (by simp) (by simp) ?_,?_⟩
       . grind
       . grind
       . rw[fD];show 10+0+((q.length+1)+0)+cK []+cK []<=_;rw[gH];omega
     . cases h
 rw[al k6]at h;by_cases k7:x.Kind=7
 . rw[ae k7]at h;unfold nn at h;obtain⟨aN,L⟩:=cv.elem B (by omega);cases E:ib p with
   |none=>rw[E]at h;cases h
   |some l=>
    rw[E]at h;dsimp only at h;obtain⟨o,aa,ab,ai⟩:=tZ G;have af:(∀q,q∈l->q.length<=p.length)/\l.length<=p.length:=(by grind);have U:=Jq l;rw[EM G E]at U;split at h
    . rename_i am;obtain⟨m,F,rfl⟩:=kQ.1 h;have Y:=qS F;have Q:∀y,y∈m->∃q,q∈l/\sq ts x.aF q y:=λy j=>by
       obtain⟨q,M,u⟩:=pU F y j;grind
      have ap:=EN (C:=300) F (λq R v J=>(ih _ _ _ (by have:=af.1 q R;omega) aN L J).2.2);refine⟨⟨⟨t0,t1,k7.symm,λh=>by cases h⟩,.inr (.inr (.inr (.inr (.inr (.inr (.inl ⟨rfl,rfl,rfl,rfl,rfl,rfl,rfl,?_,cI.2 ?_⟩))))))⟩,mY (by omega) l8 (by omega) (by simp) (by simp) (by omega) (by simp) (by simp) ?_ (by simp),?_⟩
      . grind
      . intro y j;obtain⟨q,_,u⟩:=Q y j;exact u.1
      . intro y j;obtain⟨q,_,u⟩:=Q y j;exact u.2.1
      . rw[fD];show 10+0+0+cK []+cK m<=_;rw[gH];omega
    . cases h
 rw[al k7]at h;by_cases k8:x.Kind=8
 . rw[ae k8]at h;unfold qq at h;obtain⟨aN,L⟩:=cv.elem B (by omega);obtain⟨d1,d2⟩:=cv.key B k8;cases E:ib p with
   |none=>rw[E]at h;cases h
   |some l=>
    rw[E]at h;dsimp only at h;obtain⟨o,aa,ab,ai⟩:=tZ G;have af:(∀q,q∈l->q.length<=p.length)/\l.length<=p.length:=(by grind);have U:=Jq l;rw[EM G E]at U;have aO:=Nl l;split at h
    . rename_i am;cases hs:cg (cY ts n x.Key) (e5 l)with
      |none=>rw[hs]at h;cases h
      |some ks=>
       rw[hs]at h;dsimp only at h;split at h
       . rename_i an;obtain⟨m,F,rfl⟩:=kQ.1 h;have aI:=qS hs;have Y:=qS F;obtain⟨aD,aE⟩:=Qb am.1;have ao:∀y,y∈ks->∃q,q∈e5 l/\sq ts x.Key q y:=λy j=>by
          obtain⟨q,M,u⟩:=pU hs y j;exact⟨q,M,ih _ _ _ (by have:=af.1 q (Ah M);omega) d1 d2 u⟩
         have Q:∀y,y∈m->∃q,q∈fh l/\sq ts x.aF q y:=λy j=>by
          obtain⟨q,M,u⟩:=pU F y j;exact⟨q,M,ih _ _ _ (by have:=af.1 q (D0 M);omega) aN L u⟩
         have aP:=EN (C:=300) hs (λq R v J=>(ih _ _ _ (by have:=af.1 q (Ah R);omega) d1 d2 J).2.2);have ap:=EN (C:=300) F (λq R v J=>(ih _ _ _ (by have:=af.1 q (D0 R);omega) aN L J).2.2);refine⟨⟨⟨t0,t1,k8.symm,λh=>by cases h⟩,.inr (.inr (.inr (.inr (.inr (.inr (.inr (.inl ⟨rfl,rfl,rfl,rfl,rfl,rfl,?_,?_,cI.2 ?_,cI.2 ?_,wa.1 an⟩)))))))⟩,mY (by omega) l8 (by omega) (by simp) (by omega) (by omega) (by simp) ?_ ?_ (by simp),?_⟩
         . grind
         . grind
         . intro y j;obtain⟨q,_,u⟩:=ao y j;exact u.1
         . intro y j;obtain⟨q,_,u⟩:=Q y j;exact u.1
         . intro y j;obtain⟨q,_,u⟩:=ao y j;exact u.2.1
         . intro y j;obtain⟨q,_,u⟩:=Q y j;exact u.2.1
         . rw[fD];grind
       . cases h
    . cases h
 rw[al k8]at h;have k5:x.Kind=5:=by obtain⟨aA,aB⟩:=cv.S.K x B;omega
 unfold nk at h;obtain⟨au,aG⟩:=cv.S.A x B (.inl k5);cases E:iI p with
 |none=>rw[E]at h;cases h
 |some l=>
  rw[E]at h;dsimp only at h;obtain⟨o,aa,ab,ai⟩:=Et G;have af:(∀f,f∈l->f.Data.length<=p.length/\cm f.ad)/\l.Pairwise (λa b=>a.ad<b.ad)/\l.length<=p.length:=by grind
  have U:=Pv l;rw[Pt G E]at U;cases hs:cg (eg (cY ts n) l) x.ah with
  |none=>rw[hs]at h;cases h
  |some Z=>
   rw[hs]at h;dsimp only at h;split at h
   . rename_i an;cases h;have Y:=qS hs;have ax:∀i,i<x.ah.length->bX ts false (x.ah.getD i aC).aw (Z.getD i av)/\bK (Z.getD i av):=λi P=>by
      have z:=bd P aC;have:=I7 aC av hs i P;unfold eg at this;cases O:l.find? (λf=>decide (f.ad=(x.ah.getD i aC).ad))with
      |some g=>
       rw[O]at this;have:=ih _ _ _ (by have:=(af.1 g (Ck O)).1;omega) (cv.mem B z).1 (cv.mem B z).2 this;exact⟨this.1,this.2.1⟩
      |none=>
       rw[O]at this;dsimp only at this;split at this
       . rename_i X;have e:=(mh this)
         rw[<-e];exact⟨oK _ _ (H.D x B _ z X),(H.T x B).3 _ z⟩
       . cases this
     have ap:=Px (C:=300) (d:=13) (λ_ _=>trivial) (λm z=>⟨λX=>H.W x B m z X,λg aq v J=>(ih _ _ _ (by have:=(af.1 g aq).1;omega) (cv.mem B z).1 (cv.mem B z).2 J).2.2⟩) hs;have aM:=Qe (C:=300) (d:=13) (by omega) au l;refine⟨⟨⟨t0,t1,k5.symm,λh=>by cases h⟩,.inr (.inr (.inr (.inr (.inl ⟨rfl,rfl,rfl,rfl,rfl,rfl,Nn af.2.1 (λf O=>(af.1 f O).2),hG.2 ⟨Y,λi P=>(ax i P).1⟩⟩))))⟩,mY (by omega) l8 (by omega) (by simp) (by simp) (by omega) ?_ (by simp) ?_ ?_,?_⟩
     . unfold fa;grind
     . intro y j;obtain⟨i,P,rfl⟩:=e1 j;grind
     . intro r ag;obtain⟨f,f1,_,rfl⟩:=H3 ag;grind
     . rw[fD];show 10+0+((fa x l).map λr=>r.Data.length+1).sum+cK []+cK Z<=_;rw[gH];omega
   . cases h
theorem No(H:c' ts):∀(n:Nat) (t:Int) (p:ak) (v:I),p.length<=90000->0<=t->t<ts.length->cY ts n t p=some v->sq ts t p v
 |0,t,p,v,_,_,_,h=>by rw[zs]at h;cases h
 |n+1,t,p,v,a,t0,t1,h=>adv H (No H n) a t0 t1 h
end
theorem Np:∀{A B:List Fd},A.Pairwise (λa b=>a.id<b.id)->B.Pairwise (λa b=>a.id<b.id)->(∀x,x∈A↔x∈B)->A=B
 |[],[],_,_,_=>rfl
 |[],b::B,_,_,h=>by have:=(h b).2 (.head _);cases this
 |a::A,[],_,_,h=>by have:=(h a).1 (.head _);cases this
 |a::A,b::B,c,dj,h=>by
  rw[h6]at c dj;have e:a=b:=by grind
  subst e;rw[Np c.2 dj.2 λx=>?_];grind
theorem Js{l:List α}{y:α}(d:α)(h:y∈l):∃i,i<l.length/\l.getD i d=y:=by
 obtain⟨i,a,rfl⟩:=e1 h;exact⟨i,a,dv a d⟩
section
variable {ts:List ai}
theorem I9:∀{ms:List aU} {l:List I} {j:Nat},j<ms.length->j<l.length->di (ms.getD j aC) (l.getD j av)=false->
 (⟨(ms.getD j aC).ad.toNat,(ms.getD j aC).ch,bo ts (ms.getD j aC).aw (l.getD j av)⟩:Fd)∈dm ts ms l
 |[],l,j,h,_,_=>by simp at h
 |m::ms,[],j,_,h,_=>by simp at h
 |m::ms,v::l,0,_,_,h=>by
  rw[dm];grind
 |m::ms,v::l,j+1,h1,a,h=>by
  rw[dm];have:=I9 (ms:=ms) (l:=l) (j:=j) (by simpa using h1) (by simpa using a) h;grind
theorem Nq{r:Nat}:∀{ms:List aU} {l:List I},(∀j,j<ms.length->j<l.length->di (ms.getD j aC) (l.getD j av)=false->dH ts (ms.getD j aC).aw (l.getD j av)<=r)->fc ts ms l<=r
 |[],l,_=>by
  have:fc ts [] l=0:=by rw[fc]<;>simp
  omega
 |m::ms,[],_=>by
  have:fc ts (m::ms) []=0:=by rw[fc]<;>simp
  omega
 |m::ms,v::l,h=>by
  have ih:=Nq (ms:=ms) (l:=l) λj h1 a b=>h (j+1) (by simpa using h1) (by simpa using a) b;rw[fc];split
  . exact ih
  . rename_i c;have:=h 0 (by simp) (by simp) (by simpa using c);grind
theorem zF{r:Nat}:∀{l:List I},(∀y,y∈l->dH ts t y<=r)->dC ts t l<=r
 |[],_=>by rw[dC];exact hR _
 |v::l,h=>by
  rw[dC];exact Nat.max_le.2 ⟨h v (.head _),zF λy a=>h y (.tail _ a)⟩
end
abbrev fN:=Int->I->Int->ar->I ⊕ ar
def iT{α:Type}:α ⊕ ar->List α ⊕ ar->List α ⊕ ar
 |.inr p,_=>.inr p
 |.inl _,.inr p=>.inr p
 |.inl u,.inl l=>.inl (u::l)
def h5{α a:Type}(g:α->a):α ⊕ ar->a ⊕ ar
 |.inr p=>.inr p
 |.inl u=>.inl (g u)
def mB{α a:Type}(g:α->a ⊕ ar):α ⊕ ar->a ⊕ ar
 |.inr p=>.inr p
 |.inl u=>g u
def hp(l:List aU)(id:Int):Option Nat:=l.findIdx? λm=>decide (m.ad=id)
def l5(l:List aU)(id:Int):Int×Bool:=match hp l id with
 |some j=>((j:Int),true)
 |none=>(0,false)
def e0(f:fN)(path:ar)(t rt:Int):Nat->List I->List I ⊕ ar
 |_,[]=>.inl []
 |i,v::l=>iT (f t v rt (path++[(i:Int)])) (e0 f path t rt (i+1) l)
noncomputable def AL (m:aU)(w:I)(n:aU)(a:ar):I ⊕ ar->I ⊕ ar
 |.inr p=>if di m w then .inr a else .inr p
 |.inl u=>if di m w=true/\di n u=false then .inr a else .inl u
noncomputable def w6 (f:fN)(x:ai)(v:I)(path:ar)(n:aU):I ⊕ ar:=match hp x.ah n.ad with
 |none=>if n.bU then .inl n.bA else .inr (path++[n.ad])
 |some i=>AL (x.ah.getD i aC) (v.aj.getD i av) n (path++[n.ad]) (f (x.ah.getD i aC).aw (v.aj.getD i av) n.aw (path++[n.ad]))
noncomputable def jd (f:fN)(x:ai)(v:I)(path:ar):List aU->List I ⊕ ar
 |[]=>.inl []
 |n::l=>iT (w6 f x v path n) (jd f x v path l)
noncomputable def ix (tw:List ai)(y:ai)(path:ar):List aU->List I->List bW ⊕ ar
 |m::ms,v::l=>if(cB y.ah m.ad).isSome then ix tw y path ms l
  else if m.ch then .inr (path++[m.ad])
  else if di m v then ix tw y path ms l
  else iT (.inl ⟨m.ad,bo tw m.aw v⟩) (ix tw y path ms l)
 |_,_=>.inl []
def jy(x y:ai)(v:I):Prop:=(x.Kind=2->y.bE<=v.bc/\v.bc<=y.bH)/\(x.Kind=3->(v.bl.length:Int)<=y.Max)/\(x.Kind=4->(∃s,s∈y.bh/\s.ad=v.ad)\/y.Open=true)
noncomputable def w5 (tw:List ai)(f:fN)(x y:ai)(v:I)(path:ar):I ⊕ ar:=
 mB (λa=>h5 (λr=>⟨5,false,0,[],0,[],a,r⟩) (ix tw y path x.ah v.aj)) (jd f x v path y.ah)
noncomputable def uF (tw:List ai)(f:fN)(x y:ai)(v:I)(path:ar):I ⊕ ar:=match hp x.ah v.ad with
 |none=>.inr path
 |some i=>match hp y.ah v.ad with
  |some k=>h5 (λu=>⟨6,false,0,[],v.ad,[],[u],[]⟩) (f (x.ah.getD i aC).aw (v.aj.getD 0 av) (y.ah.getD k aC).aw (path++[v.ad]))
  |none=>if y.Open then .inl ⟨6,false,0,[],v.ad,[],[],[⟨v.ad,bo tw (x.ah.getD i aC).aw (v.aj.getD 0 av)⟩]⟩else .inr path
def AI(f:fN)(x y:ai)(v:I)(path:ar):I ⊕ ar:=
 if(v.aj.length:Int)<=y.Max then h5 (λa=>⟨7,false,0,[],0,[],a,[]⟩) (e0 f path x.aF y.aF 0 v.aj)else .inr path
def AJ(f:fN)(x y:ai)(v:I)(path:ar):I ⊕ ar:=
 if(v.aj.length:Int)<=y.Max then mB (λks=>h5 (λa=>⟨8,false,0,[],0,ks,a,[]⟩) (e0 f path x.aF y.aF 0 v.aj)) (e0 f path x.Key y.Key 0 v.ay)else .inr path
def AK(f:fN)(x y:ai)(v:I)(path:ar):I ⊕ ar:=
 h5 (λa=>⟨9,false,0,[],0,[],a,[]⟩) (e0 f path x.aF y.aF 0 v.aj)
open Classical in
noncomputable def iw (tw:List ai)(f:fN)(x y:ai)(v:I)(path:ar):I ⊕ ar:=
 if ¬x.Kind=y.Kind then .inr path
 else if x.Kind=5 then w5 tw f x y v path
 else if x.Kind=6 then uF tw f x y v path
 else if x.Kind=7 then AI f x y v path
 else if x.Kind=8 then AJ f x y v path
 else if x.Kind=9 then AK f x y v path
 else if jy x y v then .inl v else .inr path
noncomputable def ep (tw tr:List ai):Nat->fN
 |0=>λ_ _ _ path=>.inr path
 |n+1=>λt v rt path=>iw tw (ep tw tr n) (tw.getD t.toNat aK) (tr.getD rt.toNat aK) v path
theorem Dv(n:Nat)(t:Int)(v:I)(rt:Int)(path:ar):ep tw tr (n+1) t v rt path=iw tw (ep tw tr n) (tw.getD t.toNat aK) (tr.getD rt.toNat aK) v path:=rfl
section
variable {tw:List ai}{f:fN}{x y:ai}{v:I}{path:ar}
theorem PN(bD:¬x.Kind=y.Kind):iw tw f x y v path= .inr path:=by unfold iw;rw[ae bD]
theorem Ta(bD:x.Kind=y.Kind)(h:x.Kind=5):iw tw f x y v path=w5 tw f x y v path:=by unfold iw;rw[al (λh=>h bD),ae h]
theorem Tb(bD:x.Kind=y.Kind)(h:x.Kind=6):iw tw f x y v path=uF tw f x y v path:=by unfold iw;rw[al (λh=>h bD),bB,ae h]
theorem Tc(bD:x.Kind=y.Kind)(h:x.Kind=7):iw tw f x y v path=AI f x y v path:=by unfold iw;rw[al (λh=>h bD),bB,bB,ae h]
theorem Td(bD:x.Kind=y.Kind)(h:x.Kind=8):iw tw f x y v path=AJ f x y v path:=by unfold iw;rw[al (λh=>h bD),bB,bB,bB,ae h]
theorem Te(bD:x.Kind=y.Kind)(h:x.Kind=9):iw tw f x y v path=AK f x y v path:=by unfold iw;rw[al (λh=>h bD),bB,bB,bB,bB,ae h]
theorem rS(bD:x.Kind=y.Kind)(h:x.Kind<=4)(af:jy x y v):iw tw f x y v path= .inl v:=by unfold iw;rw[al (λh=>h bD),bB,bB,bB,bB,bB,ae af]
theorem wH(bD:x.Kind=y.Kind)(h:x.Kind<=4)(af:¬jy x y v):iw tw f x y v path= .inr path:=by unfold iw;rw[al (λh=>h bD),bB,bB,bB,bB,bB,al af]
end
theorem Nr{m:aU}{n:aU}{a p:ar}:AL m w n a (.inr p)=if di m w then .inr a else .inr p:=rfl
theorem Ns{m:aU}{n:aU}{a:ar}{u:I}:AL m w n a (.inl u)=if di m w=true/\di n u=false then .inr a else .inl u:=rfl
theorem kg{l:List aU}{j:Nat}(h:hp l id=some j):j<l.length/\(l.getD j aC).ad=id/\∀k,k<j->(l.getD k aC).ad≠id:=by
 obtain⟨h1,a,b⟩:=List.findIdx?_eq_some_iff_getElem.1 h;refine⟨h1,?_,λk c=>?_⟩
 . rw[dv h1];simpa using a
 . rw[dv (by omega)];simpa using b k c
theorem Py{l:List aU}(h:hp l id=none):∀k,k<l.length->(l.getD k aC).ad≠id:=λk a=>by
 have:=List.findIdx?_eq_none_iff.1 h _ (bd a aC);simpa using this
theorem Mk(l:List aU)(id:Int):uj l id (l5 l id):=by
 unfold l5;cases h:hp l id with
 |some j=>exact .inl ⟨j,(kg h).1,(kg h).2.1,(kg h).2.2,rfl⟩
 |none=>exact .inr ⟨Py h,rfl⟩
theorem wY(l:List aU)(id:Int):(hp l id).isSome=(cB l id).isSome:=by
 cases h:hp l id with
 |some j=>
  obtain⟨h1,b,_⟩:=kg h;cases g:cB l id with
  |some _=>rfl
  |none=>exact absurd b (nW g _ (bd h1 aC))
 |none=>
  cases g:cB l id with
  |none=>rfl
  |some m=>
   obtain⟨c,d⟩:=kf g;obtain⟨i,a,rfl⟩:=e1 c;exact absurd d (by rw[<-dv a aC];exact Py h i a)
theorem H4{a:α ⊕ ar}{b:List α ⊕ ar}{l:List α}(h:iT a b= .inl l):∃u us,a= .inl u/\b= .inl us/\l=u::us:=by
 cases a with
 |inr p=>simp[iT]at h
 |inl u=>cases b with
  |inr p=>simp[iT]at h
  |inl us=>exact⟨u,us,rfl,rfl,by simpa[iT]using h.symm⟩
theorem zG{g:α->c}{a:α ⊕ ar}{b:c}(h:h5 g a= .inl b):∃u,a= .inl u/\b=g u:=by
 cases a with
 |inr p=>simp[h5]at h
 |inl u=>exact⟨u,rfl,by simpa[h5]using h.symm⟩
theorem Ml{g:α->c ⊕ ar}{a:α ⊕ ar}{b:c}(h:mB g a= .inl b):∃u,a= .inl u/\g u= .inl b:=by
 cases a with
 |inr p=>simp[mB]at h
 |inl u=>exact⟨u,rfl,by simpa[mB]using h⟩
theorem Dw{f:fN}{path:ar}{t rt:Int}:∀{l:List I} {i:Nat} {us:List I},e0 f path t rt i l= .inl us->us.length=l.length/\∀j,j<l.length->f t (l.getD j av) rt (path++[((i+j:Nat):Int)])= .inl (us.getD j av)
 |[],i,us,h=>by
  simp only[e0,Sum.inl.injEq]at h;subst h;exact⟨rfl,λj c=>by simp at c⟩
 |v::l,i,us,h=>by
  obtain⟨u,e,h1,d,rfl⟩:=H4 h;obtain⟨a,b⟩:=Dw d;refine⟨by simp[a],λj c=>?_⟩;cases j with
  |zero=>exact h1
  |succ j=>
   have:=b j (by simpa using c);rw[show i+1+j=i+(j+1) by omega]at this;exact this
theorem Mm{f:fN}{x:ai}{v:I}{path:ar}:∀{l:List aU} {us:List I},jd f x v path l= .inl us->us.length=l.length/\∀j,j<l.length->w6 f x v path (l.getD j aC)= .inl (us.getD j av)
 |[],us,h=>by
  simp only[jd,Sum.inl.injEq]at h;subst h;exact⟨rfl,λj c=>by simp at c⟩
 |n::l,us,h=>by
  obtain⟨u,e,h1,d,rfl⟩:=H4 h;obtain⟨a,b⟩:=Mm d;refine⟨by simp[a],λj c=>?_⟩;cases j with
  |zero=>exact h1
  |succ j=>exact b j (by simpa using c)
variable{f:fN}
theorem adw{n:aU}{u:I}(h:w6 f x v path n= .inl u):
 (hp x.ah n.ad=none/\n.bU=true/\u=n.bA)\/∃i,hp x.ah n.ad=some i/\f (x.ah.getD i aC).aw (v.aj.getD i av) n.aw (path++[n.ad])= .inl u/\(di (x.ah.getD i aC) (v.aj.getD i av)=true->di n u=true):=by
 unfold w6 at h;cases b:hp x.ah n.ad with
 |none=>
  simp only[b]at h;by_cases a:n.bU=true
  . rw[ae a]at h;exact .inl ⟨rfl,a,by simpa using h.symm⟩
  . rw[al a]at h;cases h
 |some i=>
  simp only[b]at h;refine .inr ⟨i,rfl,?_⟩;revert h;cases f (x.ah.getD i aC).aw (v.aj.getD i av) n.aw (path++[n.ad])with
  |inr p=>intro h;unfold AL at h;grind
  |inl w=>intro h;unfold AL at h;grind
theorem Ev{tw:List ai}{y:ai}{path:ar}:∀{ms:List aU} {l:List I} {r:List bW},ix tw y path ms l= .inl r->
 r.length<=ms.length/\(r.map λa=>a.ad).Sublist (ms.map λm=>m.ad)/\∀a,a∈r->cB y.ah a.ad=none/\∃j,j<ms.length/\j<l.length/\a=⟨(ms.getD j aC).ad,bo tw (ms.getD j aC).aw (l.getD j av)⟩
 |[],l,r,h=>by
  rw[ix]at h
  . cases h;simp
  . intros;simp_all
 |m::ms,[],r,h=>by
  rw[ix]at h
  . cases h;simp
  . intros;simp_all
 |m::ms,v::l,r,h=>by
  have g:∀{r},ix tw y path ms l= .inl r->r.length<=(m::ms).length/\(r.map λa=>a.ad).Sublist ((m::ms).map λm=>m.ad)/\∀a,a∈r->cB y.ah a.ad=none/\∃j,j<(m::ms).length/\j<(v::l).length/\a=⟨((m::ms).getD j aC).ad,bo tw ((m::ms).getD j aC).aw ((v::l).getD j av)⟩:=λ{r} h=>by
   obtain⟨a,b,c⟩:=Ev h;refine⟨by simp;omega,by rw[gB];exact b.cons _,λq f=>?_⟩;obtain⟨d,j,o,p,e⟩:=c q f;exact⟨d,j+1,by simp;omega,by simp;omega,e⟩
  rw[ix]at h;by_cases d:(cB y.ah m.ad).isSome=true
  . rw[ae d]at h;exact g h
  rw[al d]at h;by_cases i:m.ch=true
  . rw[ae i]at h;cases h
  rw[al i]at h;by_cases k:di m v=true
  . rw[ae k]at h;exact g h
  rw[al k]at h;obtain⟨u,us,aN,n,rfl⟩:=H4 h;cases aN;obtain⟨a,b,c⟩:=Ev n;refine⟨by simp;omega,by rw[gB,gB];exact b.cons₂ _,λq f=>?_⟩;rcases eJ.1 f with rfl|f
  . exact⟨by simpa using d,0,by simp,by simp,rfl⟩
  . exact(g n).2.2 q f
section
variable {ts:List ai}
theorem A1{n:Nat}(h:n<16384):(dP n).length<=2:=HL 1 n (by simpa using h)
theorem wZ(h:p.length<16384):(da p).length<=p.length+2:=by
 have:=A1 h;unfold da;simp;omega
def lL(ts:List ai)(t:Int)(v:I):Prop:=(bo ts t v).length+4<=wt v
theorem Ec{t:Int}:∀{l:List I},cK l<=3000->(∀y,y∈l->lL ts t y)->((bt ts t l).flatMap da).length<=cK l
 |[],_,_=>by rw[bt];simp
 |v::l,a,h=>by
  rw[bt,eY,cq];rw[hh]at a⊢;have h1:=h v (.head _);unfold lL at h1;have c:=Ec (t:=t) (l:=l) (by omega) λx b=>h x (.tail _ b);have d:=wZ (p:=bo ts t v) (by omega);omega
theorem Pz{l:List I}(h:∀y,y∈l->lL ts t y):((bt ts t l).headD []).length+4<=cK l\/l=[]:=by
 cases l with
 |nil=>exact .inr rfl
 |cons v l=>
  refine .inl ?_;have h1:=h v (.head _);unfold lL at h1;rw[bt,hh];grind
theorem Nt:∀{ms:List aU} {l:List I},cK l<=3000->(∀m,m∈ms->m.ad<=1000)->l.length=ms.length->(∀i,i<ms.length->lL ts (ms.getD i aC).aw (l.getD i av))->((dm ts ms l).flatMap Fd.text).length<=cK l
 |[],l,_,_,_,_=>by rw[dm]<;>simp
 |m::ms,[],_,_,af,_=>by simp at af
 |m::ms,v::l,c,a,af,h=>by
  rw[hh]at c⊢;rw[dm];have h1:lL ts m.aw v:=h 0 (by simp);unfold lL at h1;have e:=Nt (ms:=ms) (l:=l) (by omega) (λx d=>a x (.tail _ d)) (by simpa using af) λi b=>h (i+1) (by simpa using b);have g:=a m (.head _);split
  . omega
  . rw[eY,cq];have a1:=wZ (p:=bo ts m.aw v) (by omega);have a2:=A1 (n:=2*m.ad.toNat+(if m.ch then 1 else 0)) (by split<;>omega);have f:(Fd.text ⟨m.ad.toNat,m.ch,bo ts m.aw v⟩).length<=(bo ts m.aw v).length+4:=by
     show(eW m.ad.toNat m.ch (bo ts m.aw v)).length<=_;unfold eW;grind
    omega
theorem acm(H:c' ts)(x:bK v):∀t,bX ts true t v->wt v<=3000->lL ts t v:=by
 have d:=H.V.hr H.T;induction x with
 |mk v hs h1 P Q W R X dc aa ab ae B z=>
  intro t u Y;obtain⟨⟨K,N,O,p⟩,s⟩:=(eH _ _ _).1 u;have w:t.toNat<ts.length:=by omega
  have c:=bd w aK;have r:=p rfl;have Z:=fD v;have a8:∀y,y∈v.ay->wt y+10<=wt v:=λy a=>by have:=fx a;omega
  have D:∀y,y∈v.aj->wt y+10<=wt v:=λy a=>by have:=fx a;omega
  have C:∀t,e3 ts true t v.ay->∀y,y∈v.ay->lL ts t y:=λt ht y a=>B y a t (cI.1 ht y a) (by have:=a8 y a;omega);have f:∀t,e3 ts true t v.aj->∀y,y∈v.aj->lL ts t y:=λt ht y a=>z y a t (cI.1 ht y a) (by have:=D y a;omega);unfold lL;rcases s with h|h|h|h|h|h|h|h|h
  . rw[xk (by omega)];grind
  . have cX:=H.L _ c (by omega);rw[xl (by omega)];have:=v8 1 (fE v.bc).toNat (by unfold fE;split<;>omega);omega
  . rw[xm (by omega)];omega
  . rw[xn (by omega)];have j:v.ad.toNat<256^2:=by
     rcases h.2.2.2.2.2.2.2 with⟨y,F,af⟩|⟨_,h,_⟩
     . have:=d.S _ c (by omega) y F;unfold cm at this;omega
     . cases h
    have:=v8 2 _ j;omega
  . obtain⟨a1,a2,a3,a4,a5,b,g,e⟩:=h;obtain⟨k,E⟩:=d.A _ c (.inl (by omega));obtain⟨f1,f2⟩:=hG.1 e;rw[qt (by omega),za (kL _ _)];unfold fe;rw[r,mj,mg];have:=Nt (ts:=ts) (l:=v.aj) (by omega) (d.M _ c) f1 λi U=>by grind
    omega
  . obtain⟨a1,a2,a3,a4,a5,b⟩:=h;rw[oL (by omega)];cases bx:cB (ts.getD t.toNat aK).ah v.ad with
    |none=>rw[bx]at b;cases b.2.1
    |some m=>
     rw[bx]at b;obtain⟨b1,b2,b3⟩:=b;obtain⟨k,E⟩:=kf bx;have j:=d.M _ c m k;have:=A1 (n:=v.ad.toNat) (by omega);rw[cq];rcases Pz (f _ b3)with q|q
     . grind
     grind
  . obtain⟨a1,a2,a3,a4,a5,b,g,e,a9⟩:=h;rw[oM (by omega)];have:=Ec (l:=v.aj) (by omega) (f _ a9);omega
  . obtain⟨a1,a2,a3,a4,a5,b,g,e,a9,o,G⟩:=h;rw[oN (by omega)];have aN:=Ec (l:=v.aj) (by omega) (f _ o);have J:=Ec (l:=v.ay) (by omega) (C _ a9);have:=D8 (bt ts (ts.getD t.toNat aK).Key v.ay) (bt ts (ts.getD t.toNat aK).aF v.aj);omega
  . obtain⟨a1,a2,a3,a4,a5,b,g,e,a9⟩:=h;rw[oO (by omega)];rcases Pz (f _ a9)with q|q
    . grind
    . rw[q,bt];simp;omega
end
def gu(ts:List ai):Nat->Int->I->Prop
 |0,_,_=>False
 |n+1,t,v=>((bo ts t v).length<=4096/\v.aj.length<=1000/\v.ay.length<=1000)/\
  ((ts.getD t.toNat aK).Kind=5->∀i,i<(ts.getD t.toNat aK).ah.length->gu ts n ((ts.getD t.toNat aK).ah.getD i aC).aw (v.aj.getD i av))/\
  ((ts.getD t.toNat aK).Kind=6->∀m,cB (ts.getD t.toNat aK).ah v.ad=some m->∀y,y∈v.aj->gu ts n m.aw y)/\
  (7<=(ts.getD t.toNat aK).Kind->(∀y,y∈v.aj->gu ts n (ts.getD t.toNat aK).aF y)/\∀y,y∈v.ay->gu ts n (ts.getD t.toNat aK).Key y)
section
variable {ts:List ai}
theorem gu.len{n:Nat}(h:gu ts n t v):(bo ts t v).length<=4096:=by
 cases n with
 |zero=>cases h
 |succ n=>exact h.1.1
theorem Ew(p:ak):p.length<=(da p).length:=by unfold da;simp
theorem IK{t:Int}:∀{l:List I} {y:I},y∈l->(bo ts t y).length<=((bt ts t l).flatMap da).length
 |v::l,y,h=>by
  rw[bt,eY,cq];rcases eJ.1 h with rfl|h
  . have:=Ew (bo ts t y);omega
  . have:=IK (t:=t) h;omega
theorem I':∀{ms:List aU} {l:List I} (i:Nat),i<ms.length->i<l.length->di (ms.getD i aC) (l.getD i av)=false->(bo ts (ms.getD i aC).aw (l.getD i av)).length<=((dm ts ms l).flatMap Fd.text).length
 |m::ms,v::l,0,_,_,a=>by
  rw[dm];simp only[jv]at a⊢;rw[al (by simp[a]),eY,cq];have c:(bo ts m.aw v).length<=(Fd.text ⟨m.ad.toNat,m.ch,bo ts m.aw v⟩).length:=by
   show _<=(eW m.ad.toNat m.ch (bo ts m.aw v)).length;have:=Ew (bo ts m.aw v);unfold eW;simp only[cq];omega
  omega
 |m::ms,v::l,i+1,h1,b,a=>by
  have:=I' (ms:=ms) (l:=l) i (by simpa using h1) (by simpa using b) (by simpa using a);rw[dm];simp only[wQ];split
  . exact this
  . rw[eY,cq];omega
theorem SX{m:aU}(h:di m v=true):m.bU=true/\v=m.bA:=by
 unfold di at h;grind
theorem EO:∀{a b:List ak} {p:ak},a.length=b.length->p∈a\/p∈b->p.length<=(fg a b).length
 |[],[],p,_,h=>by simp at h
 |k::ks,v::vs,p,af,h=>by
  have aN:=Ew k;have c:=Ew v;have ih:=@EO ks vs p (by simpa using af);simp only[fg,cq];simp only[eJ]at h;grind
theorem zt:∀{l:List I} {y:I},y∈l->bo ts t y∈bt ts t l
 |v::l,y,h=>by
  rw[bt];rcases eJ.1 h with rfl|h
  . simp
  . exact .tail _ (zt h)
theorem aex(c:(ts.getD t.toNat aK).Kind<=4)(b:bX ts true t v):dH ts t v=1:=by
 obtain⟨⟨_,_,k3,_⟩,a⟩:=(eH _ _ _).1 b;refine Ag ?_ ?_
 . rcases a with k|k|k|k|k|k|k|k|k
   . exact k.2.2.2.2.1
   . exact k.2.2.2.2.1
   . exact k.2.2.2.2.1
   . exact k.2.2.2.2.1
   all_goals omega
 . rcases a with k|k|k|k|k|k|k|k|k
   . exact k.2.2.2.2.2.1
   . exact k.2.2.2.2.2.1
   . exact k.2.2.2.2.2.1
   . exact k.2.2.2.2.2.1
   all_goals omega
theorem oH(H:c' ts):∀(n:Nat) {v:I} {t:Int},bK v->bX ts true t v->(bo ts t v).length<=4096\/wt v<=3000->dH ts t v+13<=n\/wt v<=n->gu ts n t v
 |0,v,t,_,_,_,f=>by have:=aeG v;omega
 |n+1,v,t,k,D,d,f=>by
  have E:=H.V.hr H.T;have af:(bo ts t v).length<=4096:=by
   rcases d with h|h
   . exact h
   . have:=acm H k t D h;unfold lL at this;omega
  have ap:=fD v;obtain⟨⟨Y,Z,aa,G⟩,K⟩:=(eH _ _ _).1 D;have L:t.toNat<ts.length:=by omega
  have w:=bd L aK;have am:=H.M _ w;have ak:=(H.cw _ w).2.2;have J:=G rfl;cases k with
  |mk _ hs h1 ab ag N l ao dc ar au ax=>
  have u:wt v<=3000->∀y,y∈v.aj->wt y<=3000:=λh y c=>by have:=fx c;omega
  have U:wt v<=3000->∀y,y∈v.ay->wt y<=3000:=λh y c=>by have:=fx c;omega
  have z:wt v<=n+1->∀y,y∈v.aj->wt y<=n:=λh y c=>by have:=fx c;omega
  have Q:wt v<=n+1->∀y,y∈v.ay->wt y<=n:=λh y c=>by have:=fx c;omega
  have r:=pW (ts:=ts) t v
  have bL:7<=(ts.getD t.toNat aK).Kind->∀y,y∈v.aj->dH ts (ts.getD t.toNat aK).aF y+13<=n\/wt y<=n:=λai y c=>f.imp (λf=>by
   rw[al (show ¬(ts.getD t.toNat aK).Kind=5 by omega),al (show ¬(ts.getD t.toNat aK).Kind=6 by omega)]at r;have:=tI (ts:=ts) (t:=(ts.getD t.toNat aK).aF) c
   omega) λf=>z f _ c
  have x:v.aj=[]->v.ay=[]->v.aj.length<=1000/\v.ay.length<=1000:=λa b=>by rw[a,b];simp
  unfold gu;rcases K with h|h|h|h|h|h|h|h|h
  . obtain⟨a1,a2,a3,a4,a5,g,j⟩:=h;exact⟨⟨af,x g a5⟩,by omega,by omega,by omega⟩
  . obtain⟨a1,a2,a3,a4,a5,g,j,_⟩:=h;exact⟨⟨af,x g a5⟩,by omega,by omega,by omega⟩
  . obtain⟨a1,a2,a3,a4,a5,g,j,_⟩:=h;exact⟨⟨af,x g a5⟩,by omega,by omega,by omega⟩
  . obtain⟨a1,a2,a3,a4,a5,g,j,_⟩:=h;exact⟨⟨af,x g a5⟩,by omega,by omega,by omega⟩
  . obtain⟨a1,a2,a3,a4,a5,g,j,o⟩:=h;obtain⟨f1,f2⟩:=hG.1 o;refine⟨⟨af,by omega,by rw[g];simp⟩,λ_ i q=>?_,by omega,by omega⟩;have s:=bd (by omega:i<v.aj.length) av;cases A:di ((ts.getD t.toNat aK).ah.getD i aC) (v.aj.getD i av)with
    |true=>
     obtain⟨R,S⟩:=SX A;have dp:=H.W _ w _ (bd q aC) R;rw[<-S]at dp;refine oH H n (l _ s) (f2 i q) (.inr (by omega)) (.inr ?_);rcases f with f|f
     . omega
     . exact z f _ s
    |false=>
     refine oH H n (l _ s) (f2 i q) ?_ (f.imp (λf=>by
      rw[ae (show(ts.getD t.toNat aK).Kind=5 by omega)]at r;have:=H0 (ts:=ts) q (by omega:i<v.aj.length) A
      omega) λf=>z f _ s)
     rcases d with d|d
     . left;have h0:=I' (ts:=ts) i q (by omega:i<v.aj.length) A;rw[qt (by omega),za (kL _ _)]at af;unfold fe at af;rw[J,mj,mg]at af;omega
     . exact .inr (u d _ s)
  . obtain⟨a1,a2,a3,a4,a5,g⟩:=h;cases bx:cB (ts.getD t.toNat aK).ah v.ad with
    |none=>rw[bx]at g;cases g.2.1
    |some m=>
     rw[bx]at g;obtain⟨b1,b2,b3⟩:=g;refine⟨⟨af,by omega,by rw[a5];simp⟩,by omega,λ_ aq O y c=>?_,by omega⟩;cases O
     refine oH H n (l _ c) (cI.1 b3 _ c) ?_ (f.imp (λf=>by
      rw[al (show ¬(ts.getD t.toNat aK).Kind=5 by omega),ae (show(ts.getD t.toNat aK).Kind=6 by omega),bx]at r;have:=tI (ts:=ts) (t:=m.aw) c;dsimp only at r
      omega) λf=>z f _ c)
     rcases d with d|d
     . left;rw[oL (by omega),bx,cq]at af;have B:(bt ts m.aw v.aj).headD []=bo ts m.aw y:=by
        match k:v.aj,b2 with
        |[a],_=>rw[k]at c;rw[oC.1 c,bt,bt];rfl
       simp only[B]at af;omega
     . exact .inr (u d _ c)
  . obtain⟨a1,a2,a3,a4,a5,g,j,o,a9⟩:=h;have C:=bL (by omega);refine⟨⟨af,by omega,by simp_all⟩,by omega,by omega,λ_=>⟨λy c=>oH H n (l _ c) (cI.1 a9 _ c) ?_ (C _ c),λy c=>by simp_all⟩⟩;rcases d with d|d
    . left;rw[oM (by omega)]at af;have:=IK (ts:=ts) (t:=(ts.getD t.toNat aK).aF) c;omega
    . exact .inr (u d _ c)
  . obtain⟨a1,a2,a3,a4,a5,g,j,o,a9,F,X⟩:=h;have an:=D8 (bt ts (ts.getD t.toNat aK).Key v.ay) (bt ts (ts.getD t.toNat aK).aF v.aj)
    refine⟨⟨af,by omega,by omega⟩,by omega,by omega,λ_=>⟨λy c=>oH H n (l _ c) (cI.1 F _ c) ?_ (bL (by omega) _ c),λy c=>oH H n (N _ c) (cI.1 a9 _ c) ?_ (f.imp (λf=>by
     have P:v.ay≠[]:=λe=>by rw[e]at c;cases c
     rw[al P]at r;have:=aex (E.qA _ w (by omega)).2 (cI.1 a9 _ c)
     omega) λf=>Q f _ c)⟩⟩
    all_goals
     rcases d with d|d
     case inr=>first|exact .inr (u d _ c)|exact .inr (U d _ c)
     left;rw[oN (by omega)]at af;have e:(bt ts (ts.getD t.toNat aK).Key v.ay).length=(bt ts (ts.getD t.toNat aK).aF v.aj).length:=by rw[kK,kK];omega
     have:=EO (p:=bo ts _ y) e (by first|exact .inr (zt c)|exact .inl (zt c));omega
  . obtain⟨a1,a2,a3,a4,a5,g,j,o,a9⟩:=h;have C:=bL (by omega);refine⟨⟨af,by omega,by simp_all⟩,by omega,by omega,λ_=>⟨λy c=>oH H n (l _ c) (cI.1 a9 _ c) ?_ (C _ c),λy c=>by simp_all⟩⟩;rcases d with d|d
    . left;rw[oO (by omega)]at af;have B:bt ts (ts.getD t.toNat aK).aF v.aj=[bo ts (ts.getD t.toNat aK).aF y]:=by
       match k:v.aj,o with
       |[a],_=>rw[k]at c;rw[oC.1 c,bt,bt]
       |[],_=>rw[k]at c;cases c
      rw[B]at af;rw[gA]at af;omega
    . exact .inr (u d _ c)
end
section
variable {tw tr:List ai}
theorem acn{n:Nat}{u:I}(a:(tw.getD t.toNat aK).Kind<=4)(h:ep tw tr n t v rt path= .inl u):u=v:=by
 cases n with
 |zero=>cases h
 |succ n=>
  rw[Dv]at h;unfold iw at h;grind
theorem aco(c:∀v rt path u,f t v rt path= .inl u->u=v){i:Nat}{l us:List I}(h:e0 f path t rt i l= .inl us):us=l:=by
 obtain⟨a,b⟩:=Dw h;exact adm a λj d=>c _ _ _ _ (b j (by omega))
theorem adx{l:List I}{r:List bW}(d:gQ ms)(h:ix tw y path ms l= .inl r):jR y.ah r:=by
 obtain⟨_,b,c⟩:=Ev h;refine⟨?_,λa g=>?_⟩
 . have h1:(ms.map λm=>m.ad).Pairwise (· < ·):=oD.2 d.1;grind
 . obtain⟨f,j,i,k,e⟩:=c a g;refine⟨?_,f⟩;rw[e];exact d.2 _ (bd i aC)
theorem cm.i64{n:Int}(h:cm n): -9223372036854775808<=n/\n<=9223372036854775807:=by unfold cm at h;omega
def I6(tr:List ai)(rt:Int)(u:I):Prop:=bK u/\bX tr false rt u
def E9(tw tr:List ai)(n:Nat):Prop:=∀{v:I},bK v->∀{t rt:Int} {path:ar} {u:I},bX tw true t v->gu tw n t v->0<=rt->rt<tr.length->ep tw tr n t v rt path= .inl u->I6 tr rt u
theorem aar(dn:c' tw)(cN:c' tr){n:Nat}(ih:E9 tw tr n):E9 tw tr (n+1):=by
 intro v ar t rt path u aE au p s h;unfold gu at au;obtain⟨⟨z1,z2,z3⟩,ag,ai,J⟩:=au;have SW:=dn.V.hr dn.T;have cz:=cN.V.hr cN.T;have Q:=ar;have a6:=fD v;obtain⟨⟨aS,aT,aU,aV⟩,aD⟩:=(eH _ _ _).1 aE;have aF:t.toNat<tw.length:=by omega
 have aG:rt.toNat<tr.length:=by omega
 have O:=bd aF aK;have o:=bd aG aK;have l:=λu=>(eH (ts:=tr) false rt u).2;rw[Dv]at h;generalize a7:tw.getD t.toNat aK=x at*;generalize a8:tr.getD rt.toNat aK=y at*;cases ar with
 |mk _ hs h1 aW aX ap Z aZ dc bc be bf=>
 have ae:∀{t rt:Int} {i:Nat} {us:List I},e3 tw true t v.aj->(∀y,y∈v.aj->gu tw n t y)->0<=rt->rt<tr.length->e0 (ep tw tr n) path t rt i v.aj= .inl us->us.length=v.aj.length/\(∀q,q∈us->bK q)/\e3 tr false rt us:=λ{t rt i us} Y c a0 a1 P=>by
  obtain⟨a,b⟩:=Dw P;have key:∀q,q∈us->I6 tr rt q:=λq aa=>by
   obtain⟨j,F,rfl⟩:=Js av aa;have g:=bd (by omega:j<v.aj.length) av;exact ih (Z _ g) (cI.1 Y _ g) (c _ g) a0 a1 (b j (by omega))
  exact⟨a,λq c=>(key q c).1,cI.2 λq c=>(key q c).2⟩
 have aI:∀t,e3 tw true t v.ay->(∀y,y∈v.ay->gu tw n t y)->(tw.getD t.toNat aK).Kind<=4->∀{rt:Int} {i:Nat} {us:List I},0<=rt->rt<tr.length->e0 (ep tw tr n) path t rt i v.ay= .inl us->us=v.ay/\e3 tr false rt v.ay:=λt Y aa aH rt i us a0 a1 P=>by
  have e:=aco (λv rt path u h=>acn aH h) P;subst e;obtain⟨a,b⟩:=Dw P;refine⟨rfl,cI.2 λq c=>?_⟩;obtain⟨j,F,rfl⟩:=Js av c;exact(ih (ap _ c) (cI.1 Y _ c) (aa _ c) a0 a1 (b j F)).2
 unfold iw at h;by_cases bD:x.Kind=y.Kind
 . rw[al (by simpa using bD)]at h;rcases aD with d|d|d|d|d|d|d|d|d
   . rw[bB,bB,bB,bB,bB]at h;split at h<;>cases h;exact⟨Q,l _ ⟨⟨p,s,by omega,by simp⟩,.inl d⟩⟩
   . rw[bB,bB,bB,bB,bB]at h;split at h<;>cases h;rename_i af;exact⟨Q,l _ ⟨⟨p,s,by omega,by simp⟩,.inr (.inl (by have:=af.1 (by omega);simp_all))⟩⟩
   . rw[bB,bB,bB,bB,bB]at h;split at h<;>cases h;rename_i af;exact⟨Q,l _ ⟨⟨p,s,by omega,by simp⟩,.inr (.inr (.inl (by have:=af.2.1 (by omega);simp_all)))⟩⟩
   . rw[bB,bB,bB,bB,bB]at h;split at h<;>cases h;rename_i af;have L:cm v.ad:=by
      rcases d.2.2.2.2.2.2.2 with⟨y,aQ,aR⟩|⟨_,h,_⟩
      . rw[<-aR];exact SW.S _ O (by omega) y aQ
      . cases h
     refine⟨Q,l _ ⟨⟨p,s,by omega,by simp⟩,.inr (.inr (.inr (.inl ⟨d.1,d.2.1,d.2.2.1,d.2.2.2.1,d.2.2.2.2.1,d.2.2.2.2.2.1,d.2.2.2.2.2.2.1,?_⟩)))⟩⟩;rcases af.2.2 (by omega)with q|q
     . exact .inl q
     grind
   . obtain⟨a1,a2,a3,a4,a5,C,U,K⟩:=d;obtain⟨R,aL⟩:=SW.A _ O (.inl (by omega));obtain⟨ba,bb⟩:=cz.A _ o (.inl (by omega));obtain⟨f1,f2⟩:=hG.1 K;rw[fz]at h;obtain⟨f,aN,h⟩:=Ml h;obtain⟨r,am,rfl⟩:=zG h;obtain⟨b1,b2⟩:=Mm aN;have key:∀j,j<y.ah.length->I6 tr (y.ah.getD j aC).aw (f.getD j av):=λj N=>by
      have E:=bd N aC;rcases adw (b2 j N)with⟨_,W,X⟩|⟨i,ak,W,_⟩
      . rw[X];exact⟨(cN.T _ o).iG _ E,oK _ _ (cN.D _ o _ E W)⟩
      . obtain⟨d1,_,_⟩:=kg ak;have g:=bd (by omega:i<v.aj.length) av;obtain⟨z,B⟩:=cN.gT.mem o E;exact ih (Z _ g) (f2 i d1) (ag (by omega) i d1) z B W
     have aq:=adx R am;obtain⟨ak,_,X⟩:=Ev am;refine⟨.mk _ (by simp) (by simp) (by show f.length<=_;unfold reachBytes;omega) (by show r.length<=_;unfold reachBytes;omega) (λq c=>by cases c) (λq c=>?_) (λq c=>?_) (by simp) (by simp) (by simp) (λq c=>(aq.2 q c).1.i64),l _ ⟨⟨p,s,by show(5:Int)=_;omega,by simp⟩,.inr (.inr (.inr (.inr (.inl ⟨rfl,rfl,rfl,rfl,rfl,rfl,aq,hG.2 ⟨b1,λj N=>(key j N).2⟩⟩))))⟩⟩
     . obtain⟨j,F,rfl⟩:=Js av c;exact(key j (by have:f.length=_:=b1;have a':j<f.length:=F;omega)).1
     . obtain⟨_,j,F,aJ,e⟩:=X q c;have g:=bd aJ av;have:=(ag (by omega) j F).len;rw[e];unfold reachBytes;grind
   . obtain⟨a1,a2,a3,a4,a5,C⟩:=d;rw[bB,fz]at h;unfold uF at h;obtain⟨R,aL⟩:=SW.A _ O (.inr (by omega));cases bx:cB x.ah v.ad with
     |none=>rw[bx]at C;cases C.2.1
     |some m=>
      rw[bx]at C;obtain⟨b1,b2,b3⟩:=C;have ab:=wY x.ah v.ad;rw[bx]at ab;cases L:hp x.ah v.ad with
      |none=>rw[L]at ab;cases ab
      |some i=>
      obtain⟨d1,d2,_⟩:=kg L;obtain⟨d3,d4⟩:=kf bx;have em:x.ah.getD i aC=m:=rP R (bd d1 aC) d3 (by rw[d2,d4]);have ao:cm v.ad:=by rw[<-d4];exact R.2 m d3
      simp only[L,em]at h;have g:=bd (by omega:0<v.aj.length) av;cases M:hp y.ah v.ad with
      |some k=>
       simp only[M]at h;obtain⟨w,aN,rfl⟩:=zG h;obtain⟨k1,k2,_⟩:=kg M;have E:=bd k1 aC;obtain⟨z,B⟩:=cN.gT.mem o E;obtain⟨z1,z2⟩:=ih (Z _ g) (cI.1 b3 _ g) (ai (by omega) _ bx _ g) z B aN;have an:cB y.ah v.ad=some (y.ah.getD k aC):=by rw[<-k2];exact NX (cz.A _ o (.inr (by omega))).1 E
       refine⟨.mk _ (by simp) (by simp) (by show[w].length<=_;unfold reachBytes;simp) (by simp) (λq c=>by cases c) (λq c=>?_) (λq c=>by cases c) (by simp) (by simp) ao.i64 (λq c=>by cases c),l _ ⟨⟨p,s,by show(6:Int)=_;omega,by simp⟩,.inr (.inr (.inr (.inr (.inr (.inl ⟨rfl,rfl,rfl,rfl,rfl,?_⟩)))))⟩⟩
       . grind
       . show match cB y.ah v.ad with|some m=>_|none=>_
         rw[an];exact⟨rfl,rfl,z2,trivial⟩
      |none=>
       simp only[M]at h;split at h
       . cases h;rename_i aY;have an:cB y.ah v.ad=none:=by
          have:=wY y.ah v.ad;rw[M]at this;cases c:cB y.ah v.ad with
          |none=>rfl
          |some _=>rw[c]at this;cases this
         have:=(ai (by omega) _ bx _ g).len;refine⟨.mk _ (by simp) (by simp) (by simp) (by show[_].length<=_;unfold reachBytes;simp) (λq c=>by cases c) (λq c=>by cases c) (λq c=>?_) (by simp) (by simp) ao.i64 (λq c=>?_),l _ ⟨⟨p,s,by show(6:Int)=_;omega,by simp⟩,.inr (.inr (.inr (.inr (.inr (.inl ⟨rfl,rfl,rfl,rfl,rfl,?_⟩)))))⟩⟩
         . rw[oC.1 c];show(bo tw _ _).length<=_;unfold reachBytes;omega
         . grind
         grind
       . cases h
   . obtain⟨a1,a2,a3,a4,a5,C,U,K,a9⟩:=d;rw[bB,bB,fz]at h;unfold AI at h;split at h
     . rename_i aB;obtain⟨f,aN,rfl⟩:=zG h;obtain⟨z,B⟩:=cN.gT.elem o (by omega);obtain⟨ax,G,H⟩:=ae a9 (J (by omega)).1 z B aN;exact⟨.mk _ (by simp) (by simp) (by show f.length<=_;omega) (by simp) (λq c=>by cases c) G (λq c=>by cases c) (by simp) (by simp) (by simp) (λq c=>by cases c),l _ ⟨⟨p,s,by show(7:Int)=_;omega,by simp⟩,.inr (.inr (.inr (.inr (.inr (.inr (.inl ⟨rfl,rfl,rfl,rfl,rfl,rfl,rfl,by show(f.length:Int)<=_;omega,H⟩))))))⟩⟩
     . cases h
   . obtain⟨a1,a2,a3,a4,a5,C,U,K,a9,az,aA⟩:=d;rw[bB,bB,bB,fz]at h;unfold AJ at h;split at h
     . rename_i aB;obtain⟨ks,c4,h⟩:=Ml h;obtain⟨f,aN,rfl⟩:=zG h;obtain⟨z,B⟩:=cN.gT.elem o (by omega);obtain⟨aO,aP⟩:=cN.gT.key o (by omega);obtain⟨ax,G,H⟩:=ae az (J (by omega)).1 z B aN;obtain⟨rfl,aM⟩:=aI _ a9 (J (by omega)).2 (SW.qA _ O (by omega)).2 aO aP c4;exact⟨.mk _ (by simp) (by show v.ay.length<=_;omega) (by show f.length<=_;omega) (by simp) ap G (λq c=>by cases c) (by simp) (by simp) (by simp) (λq c=>by cases c),l _ ⟨⟨p,s,by show(8:Int)=_;omega,by simp⟩,.inr (.inr (.inr (.inr (.inr (.inr (.inr (.inl ⟨rfl,rfl,rfl,rfl,rfl,rfl,by show(v.ay.length:Int)<=_;omega,by show f.length=v.ay.length;omega,aM,H,aA⟩)))))))⟩⟩
     . cases h
   . obtain⟨a1,a2,a3,a4,a5,C,U,K,a9⟩:=d;rw[bB,bB,bB,bB,fz]at h;obtain⟨f,aN,rfl⟩:=zG h;obtain⟨z,B⟩:=cN.gT.elem o (by omega);obtain⟨ax,G,H⟩:=ae a9 (J (by omega)).1 z B aN;exact⟨.mk _ (by simp) (by simp) (by show f.length<=_;omega) (by simp) (λq c=>by cases c) G (λq c=>by cases c) (by simp) (by simp) (by simp) (λq c=>by cases c),l _ ⟨⟨p,s,by show(9:Int)=_;omega,by simp⟩,.inr (.inr (.inr (.inr (.inr (.inr (.inr (.inr ⟨rfl,rfl,rfl,rfl,rfl,rfl,rfl,by show f.length<=1;omega,H⟩)))))))⟩⟩
 grind
theorem Mn(dn:c' tw)(cN:c' tr):∀n,E9 tw tr n
 |0=>λ_ _ _ _ _ _ _ _ _ h=>by cases h
 |n+1=>aar dn cN (Mn dn cN n)
end
theorem aas{s:aT}(H:iM s.Types)(f:bK v)(i:wt v<=1099511627776)(e:bX s.Types false t v)(c:tm (s,t,v)=some 0):
 lU (s,t,v)=some (lz s.Types t v):=by
 have h1:=aef H f i e;have d:tm ((⟨s.Types⟩:aT),t,v)=some 0:=c;rw[lU];simp only[I.aV];rw[d,h1];simp only[aS,ao];rw[bw];unfold lz;generalize bo s.Types t v=p;generalize dH s.Types t v=l;by_cases g:4096<p.length
 . rw [ae (by have:(4096:Int)<p.length:= by omega
              simp[this]),ae (.inl g)]
 . by_cases b:200<l
   . rw [ae (by have:¬ (4096:Int)<p.length:= by omega
                have a:(200:Int)<l:=by omega
                simp[this,a]),ae (.inr b)]
   . rw [al (by have:¬ (4096:Int)<p.length:= by omega
                have a:¬(200:Int)<l:=by omega
                simp[this,a]),bB]
theorem aat{s:aT}(H:iM s.Types)(b:bK v)(c:wt v<=1099511627776)(a:bX s.Types false t v)(ag:tS (s,t,v)=some 0):
 rK (s,t,v)=some (lz s.Types t v):=by
 have e:iV (s,t,v)=some (bo s.Types t v):=Ea H b c t a;have f:mJ (s,t,v)=_:=aee H b c t a;rw[rK];simp only[I.aV];rw[ag];simp only[aS,ao];rw[bw,e];simp only[ao];rw[f];unfold lz;generalize bo s.Types t v=p;generalize dH s.Types t v=l;by_cases g:4096<p.length
 . have:decide ((4096:Int)<p.length)=true:=by simp;omega
   rw[this,bw];simp only[ao,et];rw[ae trivial,ae (.inl g)]
 . have:decide ((4096:Int)<p.length)=false:=by simp;omega
   rw[this,hO];simp only[ao,dW];by_cases d:200<l
   . rw[br,ae (.inr d)]
   . rw[b',bB]
theorem Nu(H:c' ts)(a:sr ts t v):lU ((⟨ts⟩:aT),t,v)=some (lz ts t v):=
 aas (s:=⟨ts⟩) (H.V.hr H.T) a.2.1 (gp a.2.2 (by decide)) a.1 (Hc H.T H.V a.2.1 a.1)
theorem Nv(H:c' ts)(a:sr ts t v):rK ((⟨ts⟩:aT),t,v)=some (lz ts t v):=
 aat (s:=⟨ts⟩) (H.V.hr H.T) a.2.1 (gp a.2.2 (by decide)) a.1 (MV H.T H.V a.2.1 a.1)
noncomputable def gJ (ts:List ai)(t:Int)(m:ak):I×Int:=
 if t<0\/(ts.length:Int)<=t then(ey,4)else if 4096<m.length then(ey,12)else match cY ts 200 t m with
  |some v=>(v,0)
  |none=>(ey,12)
theorem LZ(ts:List ai)(t:Int)(m:ak):(∃e,e≠0/\gJ ts t m=(ey,e))\/∃v,gJ ts t m=(v,0)/\(0<=t/\t<ts.length)/\m.length<=4096/\cY ts 200 t m=some v:=by
 unfold gJ;by_cases h1:t<0\/(ts.length:Int)<=t
 . rw[ae h1];exact .inl ⟨4,by omega,rfl⟩
 . rw[al h1];by_cases a:4096<m.length
   . rw[ae a];exact .inl ⟨12,by omega,rfl⟩
   . rw[al a];cases b:cY ts 200 t m with
     |none=>exact .inl ⟨12,by omega,rfl⟩
     |some v=>exact .inr ⟨v,rfl,by omega,by omega,rfl⟩
section
variable {ts:List ai}
theorem L0(H:jh ts)(t:Int)(m:ak):tq ((⟨ts⟩:aT),t,m)=some (gJ ts t m):=by
 rw[tq,Hr,(pR H.S.T H.V).1];simp only[aS,ao];unfold gJ;by_cases h1:t<0\/(ts.length:Int)<=t
 . have c:(bif decide (t<0)then true else decide ((ts.length:Int)<=t))=true:=by rcases h1 with h1|h1<;>simp[h1]
   rw[bw,ae c,ae h1];rfl
 . have c:¬(bif decide (t<0)then true else decide ((ts.length:Int)<=t))=true:=by
    have a:¬t<0:=λh=>h1 (.inl h);have b:¬(ts.length:Int)<=t:=λh=>h1 (.inr h);simp[a,b]
   by_cases d:4096<m.length
   . rw[bw,al c,br,al h1,ae d];rfl
   . have d1:=Pr H 200 (by omega) t m [] 0 [] (by omega) (by omega) (by omega) rfl;rw[bw,al c,b',al h1,al d];cases e:cY ts 200 t m with
     |none=>
      obtain⟨w,f1,f2,f⟩:=d1.2 e;rw[f];rfl
     |some v=>
      rw[d1.1 v e];simp[I.aV]
theorem L1(H:jh ts)(t:Int)(m:ak):s6 ((⟨ts⟩:aT),t,m)=some (gJ ts t m):=by
 have ag:jJ ((⟨ts⟩:aT),t)=some (if t<0\/(ts.length:Int)<=t then 4 else 0):=by
  rw[jJ,(pR H.S.T H.V).2];simp only[aS,ao];rw[bw];by_cases h1:t<0\/(ts.length:Int)<=t
  . rw[ae h1,ae];rcases h1 with h1|h1<;>simp[h1]
  . rw[al h1,al];have a:¬t<0:=λh=>h1 (.inl h);have b:¬(ts.length:Int)<=t:=λh=>h1 (.inr h);simp[a,b]
 rw[s6,GM,ag];simp only[aS,ao];unfold gJ;by_cases h1:t<0\/(ts.length:Int)<=t
 . simp only[ae h1];rfl
 . by_cases d:4096<m.length
   . simp only[al h1];rw[bw,br,ae d,zN (by simp)];rfl
   . have d2:=Nj H 200 (by omega) t m [] (by omega) (by omega) (by omega) (by simp);rw[show((201-200:Nat):Int)=1 from rfl]at d2;simp only[al h1];rw[bw,b',al d];cases e:cY ts 200 t m with
     |none=>
      obtain⟨F,c⟩:=d2.2 e;rw[c];rfl
     |some v=>
      obtain⟨F,c⟩:=d2.1 v e;rw[c];simp[I.aV]
theorem Nw(H:c' ts){m:ak}(ht:0<=t/\t<ts.length)(d:m.length<=4096)(h:cY ts 200 t m=some v):sr ts t v:=by
 obtain⟨a,b,c⟩:=No H 200 t m v (by omega) ht.1 ht.2 h;exact⟨a,b,by omega⟩
end
theorem D1{m:aU}(a:bK v):tQ (m,v)=some (di m v):=by
 rw[tQ];simp only[I.aV];unfold di;cases b:m.bU with
 |false=>rfl
 |true=>
  obtain⟨r,c,d⟩:=adp a m.bA;grind
theorem H5(h:p.length<=100000:=by omega):wq p=some (da p):=by
 rw[wq,hy,ui];have:=kd (n:=p.length) (by omega);simp only[aS,ao];rw[ae (gb)];rfl
theorem acp{c:Bool}(d:cm id)(h:p.length<=4096):DH (id,c,p)=some (eW id.toNat c p,0):=by
 unfold cm at d;obtain⟨n,rfl⟩:=BX (by omega:0<=id);have a:¬(n:Int)<1:=by omega
 have b:¬(1000:Int)<n:=by omega
 rw[DH,al (by simp[a,b]),b',HM (by omega),aZ];rfl
section
variable {ts:List ai}
theorem IA:∀{ms:List aU} {l:List I},((dm ts ms l).map λf=>f.id).Sublist (ms.map λm=>m.ad.toNat)
 |[],l=>by rw[dm]<;>simp
 |m::ms,[]=>by rw[dm]<;>simp
 |m::ms,v::l=>by
  rw[dm];split
  . exact(IA (ms:=ms) (l:=l)).cons _
  . exact(IA (ms:=ms) (l:=l)).cons₂ _
theorem acq{l:List I}(c:gQ ms):(dm ts ms l).Pairwise (λa b=>a.id<b.id):=by
 have h1:(ms.map λm=>m.ad.toNat).Pairwise (· < ·):=oD.2 (c.1.imp_of_mem λ{a b} d e h=>by
  have:=c.2 a d;unfold cm at this
  omega)
 exact oD.1 (h1.sublist IA)
theorem L2(h:(ts.getD t.toNat aK).Kind=5)(ag:v.Rest=[])(a:gQ (ts.getD t.toNat aK).ah):bo ts t v=(dm ts (ts.getD t.toNat aK).ah v.aj).flatMap Fd.text:=by
 rw[qt h];have b:jR (ts.getD t.toNat aK).ah v.Rest:=by rw[ag];exact⟨.nil,λx c=>by cases c⟩
 congr 1
 have e:fe ts (ts.getD t.toNat aK).ah v.aj v.Rest=dm ts (ts.getD t.toNat aK).ah v.aj:=by
  unfold fe;grind
 rw[<-e];refine Np (HO (wu a b) (HY a b)) ?_ λy=>(kL fm _).mem_iff;rw[e];exact acq a
def jE(ts:List ai)(t:Int)(v:I):Prop:=lh ((⟨ts⟩:aT),t,v)=some (bo ts t v)
theorem SK(b:∀m,m∈ms->cm m.ad)(af:v.aj.length=ms.length)(f:ms.length<=1000)(d:∀y,y∈v.aj->bK y)(hs:∀i,i<ms.length->di (ms.getD i aC) (v.aj.getD i av)=false->(bo ts (ms.getD i aC).aw (v.aj.getD i av)).length<=4096/\jE ts (ms.getD i aC).aw (v.aj.getD i av)):
 ∀(k i:Nat) (acc:ak),i+k=ms.length->acc.length<=i*5000->
 rJ (acc,ms,(ms.length:Int),(i:Int),ts,v)=some (acc++(dm ts (ms.drop i) (v.aj.drop i)).flatMap Fd.text)
 |0,i,acc,j,g=>by
  rw[rJ,b',en (by omega:ms.length<=i),dm]
  . simp
  grind
 |k+1,i,acc,j,g=>by
  have aB:i<ms.length:=by omega
  have a:i<v.aj.length:=by omega
  have o:=bd a av;rw[rJ,br,ae (aP aB)];simp only[aS,ao,aZ,I.aV,jo];rw[ae (aP a),D1 (d _ o),eE aB aC,eE a av,dm];have e:=λacc=>SK b af f d hs k (i+1) acc (by omega);cases q:di (ms.getD i aC) (v.aj.getD i av)with
  |true=>
   simp only[ao,c8,bY,b6,b5];rw[bC,e acc (by omega)]
  |false=>
   obtain⟨h1,c⟩:=hs i aB q;unfold jE at c;simp only[ao,eU,b5,bY,b6];rw[ae (aP a),c];simp only[ao];rw[acp (b _ (bd aB aC)) (by omega)];simp only[ao];have l:=b _ (bd aB aC);unfold cm at l;have a1:=wZ (p:=bo ts (ms.getD i aC).aw (v.aj.getD i av)) (by omega);have a2:=A1 (n:=2*(ms.getD i aC).ad.toNat+(if(ms.getD i aC).ch then 1 else 0)) (by split<;>omega);have r:(eW (ms.getD i aC).ad.toNat (ms.getD i aC).ch (bo ts (ms.getD i aC).aw (v.aj.getD i av))).length<=5000:=by
    unfold eW;grind
   rw[ae (gb),bC,e _ (by rw[cq];omega),ir];rfl
theorem SL(b:¬x.Kind=8)(af:v.aj.length<=3000)(hs:∀y,y∈v.aj->(bo ts x.aF y).length<=4096/\jE ts x.aF y):
 ∀(k i:Nat) (acc:ak),i+k=v.aj.length->acc.length<=i*5000->
 lb (acc,v.aj,(v.aj.length:Int),(i:Int),ts,v,x)=some (acc++(bt ts x.aF (v.aj.drop i)).flatMap da)
 |0,i,acc,d,c=>by
  rw[lb,b',en (by omega:v.aj.length<=i),bt];simp
 |k+1,i,acc,d,c=>by
  have aB:i<v.aj.length:=by omega
  obtain⟨h1,a⟩:=hs _ (bd aB av);unfold jE at a;rw[lb,br,ae (aP aB)];simp only[aS,ao,aZ,I.aV];have a1:=wZ (p:=bo ts x.aF (v.aj.getD i av)) (by omega);rw[al (by simp[b]),a];simp only[ao];rw[H5];simp only[ao];rw[ae (gb),bC,SL b af hs k (i+1) _ (by omega) (by rw[cq];omega),eE aB av,bt,eY,ir]
theorem PO(d:x.Kind=8)(j:v.aj.length=v.ay.length)(af:v.aj.length<=3000)(hs:∀y,y∈v.aj->(bo ts x.aF y).length<=4096/\jE ts x.aF y)(e:∀y,y∈v.ay->(bo ts x.Key y).length<=4096/\jE ts x.Key y):
 ∀(k i:Nat) (acc:ak),i+k=v.aj.length->acc.length<=i*9000->
 lb (acc,v.aj,(v.aj.length:Int),(i:Int),ts,v,x)=some (acc++fg (bt ts x.Key (v.ay.drop i)) (bt ts x.aF (v.aj.drop i)))
 |0,i,acc,g,f=>by
  rw[lb,b',en (by omega:v.aj.length<=i),en (by omega:v.ay.length<=i),bt,bt,fg]
  . simp
  grind
 |k+1,i,acc,g,f=>by
  have aB:i<v.aj.length:=by omega
  have a:i<v.ay.length:=by omega
  obtain⟨h1,b⟩:=hs _ (bd aB av);obtain⟨l,c⟩:=e _ (bd a av);unfold jE at b c;rw[lb,br,ae (aP aB)];simp only[aS,ao,aZ,I.aV];have a1:=wZ (p:=bo ts x.aF (v.aj.getD i av)) (by omega);have a2:=wZ (p:=bo ts x.Key (v.ay.getD i av)) (by omega);rw[ae (by simp[d]),ae (aP a),c];simp only[ao];rw[H5];simp only[ao];rw[ae (gb),b];simp only[ao];rw[H5];simp only[ao];rw[ae (gb (by rw[cq];omega)),bC,PO d j af hs e k (i+1) _ (by omega) (by rw[cq,cq];omega),eE aB av,eE a av,bt,bt,fg,ir,ir]
theorem Ts(H:iM ts)(l:bK v)(i:bX ts true t v)(k4:v.Kind<=4):j8 (t,v,1,ts,0)=some (bo ts t v,ts,1):=by
 obtain⟨⟨q,r,g,_⟩,b⟩:=(eH _ _ _).1 i;have a:cx v.bc:=by cases l with|mk _ _ _ _ _ _ _ _ _ a _ _=>exact a
 obtain⟨j,rfl⟩:∃j:Nat,t=(j:Int):=⟨t.toNat,by omega⟩
 have c:j<ts.length:=by omega
 have k:=bd c aK;have m:=@xk ts (j:Int) v;have d:=@xl ts (j:Int) v;have o:=@xm ts (j:Int) v;have e:=@xn ts (j:Int) v;rw[j8];simp only[aS,ao];rw[ae (aP c),show iq 0 1=1 by decide];simp only[aZ,I.aV]at g b m d o e⊢;generalize ts.getD j aK=x at*;rcases b with h|h|h|h|h|h|h|h|h
 . grind
 . rw[al (mt gM (by omega)),ae (jX (by omega)),d (by omega),EI a];simp only[ao];have f:=AF a;obtain⟨n,aH⟩:∃n:Nat,fE v.bc=(n:Int):=⟨(fE v.bc).toNat,by unfold fE;split<;>omega⟩
   rw[aH,aZ]at f;rw[aH,EJ f];rfl
 . grind
 . obtain⟨n,aH,af⟩:∃n:Nat,v.ad=(n:Int)/\n<=1000:=by
    rcases h.2.2.2.2.2.2.2 with⟨y,p,s⟩|⟨_,h,_⟩
    . have:=H.S x k (by omega) y p;unfold cm at this;grind
    . cases h
   rw[al (mt gM (by omega)),al (mt gM (by omega)),al (mt gM (by omega)),ae (jX (by omega)),e (by omega),aH,hy,EJ (by omega),aZ];rfl
 all_goals omega
theorem aey(H:c' ts)(b:bK v)(a:bX ts true t v)(hs:(bo ts t v).length<=4096)(k4:v.Kind<=4):lU ((⟨ts⟩:aT),t,v)=some (bo ts t v,0):=by
 rw[lU];simp only[I.aV];rw[Hc H.T H.V b (oK _ _ a)];simp only[aS,ao];rw[bw,Ts (H.V.hr H.T) b a k4];grind
theorem PQ(H:c' ts)(w:bK v):∀t,bX ts true t v->(bo ts t v).length<=4096->jE ts t v:=by
 have z:=H.V.hr H.T;have Q:=w;induction w with
 |mk v hs h1 ag ai N g am dc ap aq ar R o=>
  intro t C c;obtain⟨⟨Z,aa,ab,J⟩,K⟩:=(eH _ _ _).1 C;obtain⟨j,rfl⟩:∃j:Nat,t=(j:Int):=⟨t.toNat,by omega⟩
  have E:j<ts.length:=by omega
  have p:=bd E aK;have B:=J rfl;have an:=aey H Q C c;have ak:=H.M _ p;have s:=(H.cw _ p).2.2;unfold jE;rw[lh,ae (aP E)];simp only[aS,ao,I.aV];rw[aZ]at*;rcases K with h|h|h|h|h|h|h|h|h
  . grind
  . grind
  . grind
  . grind
  . obtain⟨a1,a2,a3,a4,a5,d,r,f⟩:=h;obtain⟨k,S⟩:=z.A _ p (.inl (by omega));obtain⟨f1,f2⟩:=hG.1 f;rw[L2 (by rw[aZ];omega) B (by rw[aZ];exact k),aZ]at c
    have h0:=SK (ts:=ts) (ms:=(ts.getD j aK).ah) (v:=v) k.2 f1 (by omega) g (λi D O=>by
     have F:=bd (by omega:i<v.aj.length) av;have af:=gp (I' (ts:=ts) i D (by omega) O) c
     exact⟨af,o _ F (g _ F) _ (f2 i D) af⟩) (ts.getD j aK).ah.length 0 [] (by omega) (by simp)
    have l:rJ ([],(ts.getD j aK).ah,((ts.getD j aK).ah.length:Int),0,ts,v)=_:=h0;rw[ae (jX (by omega)),l];rw[L2 (by rw[aZ];omega) B (by rw[aZ];exact k),aZ];rfl
  . obtain⟨a1,a2,a3,a4,a5,d⟩:=h;obtain⟨k,S⟩:=z.A _ p (.inr (by omega));cases bx:cB (ts.getD j aK).ah v.ad with
    |none=>rw[bx]at d;cases d.2.1
    |some m=>
     rw[bx]at d;obtain⟨b1,b2,b3⟩:=d;obtain⟨d3,d4⟩:=kf bx;obtain⟨q,U,W,X⟩:=FL k (by omega) bx;have L:=k.2 m d3;unfold cm at L;have b:=bd (by omega:0<v.aj.length) av;have P:bt ts m.aw v.aj=[bo ts m.aw (v.aj.getD 0 av)]:=by
      match w:v.aj,b2 with
      |[a],_=>rw[bt,bt];rfl
     have z1:(bo ts m.aw (v.aj.getD 0 av)).length<=4096:=by
      rw[oL (t:=(j:Int)) (v:=v) (by rw[aZ];omega),aZ,bx,cq]at c;simp only[P,B8]at c;omega
     have z2:=o _ b (g _ b) m.aw (cI.1 b3 _ b) z1;unfold jE at z2;obtain⟨n,aH⟩:∃n:Nat,v.ad=(n:Int):=⟨v.ad.toNat,by omega⟩
     have:=A1 (n:=n) (by omega);rw[al (mt gM (by omega)),ae (jX (by omega)),W];simp only[ao];rw[aH,hy,ui];simp only[ao];rw[ae (aP U),ae (by rw[b2];rfl),aZ,X,show(0:Int).toNat=0 from rfl,z2];simp only[ao];rw[ae (gb),oL (t:=(j:Int)) (v:=v) (by rw[aZ];omega),aZ,bx,aH,aZ];grind
  . obtain⟨a1,a2,a3,a4,a5,d,r,f,a9⟩:=h
    have h0:=SL (ts:=ts) (x:=ts.getD j aK) (v:=v) (by omega) (by omega) (λy b=>by
     rw[oM (by rw[aZ];omega),aZ]at c;have af:=gp (IK (ts:=ts) (t:=(ts.getD j aK).aF) b) c
     exact⟨af,o _ b (g _ b) _ (cI.1 a9 y b) af⟩) v.aj.length 0 [] (by omega) (by simp)
    have l:lb ([],v.aj,(v.aj.length:Int),0,ts,v,ts.getD j aK)=_:=h0;rw[al (mt gM (by omega)),al (mt gM (by omega)),al (mt gM (by omega)),ae (jX (by omega)),ae (jX (by omega)),l,oM (by rw[aZ];omega),aZ];rfl
  . obtain⟨a1,a2,a3,a4,a5,d,r,f,a9,G,Y⟩:=h;rw[oN (by rw[aZ];omega),aZ]at c;have e:(bt ts (ts.getD j aK).Key v.ay).length=(bt ts (ts.getD j aK).aF v.aj).length:=by rw[kK,kK];omega
    have h0:=PO (ts:=ts) (x:=ts.getD j aK) (v:=v) (by omega) f (by omega) (λy b=>by
     have af:=gp (EO e (.inr (zt b))) c;exact⟨af,o _ b (g _ b) _ (cI.1 G y b) af⟩) (λy b=>by
     have af:=gp (EO e (.inl (zt b))) c
     exact⟨af,R _ b (N _ b) _ (cI.1 a9 y b) af⟩) v.aj.length 0 [] (by omega) (by simp)
    have l:lb ([],v.aj,(v.aj.length:Int),0,ts,v,ts.getD j aK)=_:=h0;rw[al (mt gM (by omega)),al (mt gM (by omega)),al (mt gM (by omega)),al (mt gM (by omega)),ae (jX (by omega)),l,oN (by rw[aZ];omega),aZ];rfl
  . obtain⟨a1,a2,a3,a4,a5,d,r,f,a9⟩:=h;rw[al (mt gM (by omega)),al (mt gM (by omega)),ae (jX (by omega)),oO (by rw[aZ];omega),aZ]
    match s:v.aj,f with
    |[],_=>
     rw[vw,bw,bt];rfl
    |[a],_=>
     have u:a∈v.aj:=by rw[s];exact .head _
     have z1:(bo ts (ts.getD j aK).aF a).length<=4096:=by
      rw[oO (by rw[aZ];omega),aZ,s,bt,bt,gA]at c;omega
     have z2:=o _ u (g _ u) _ (cI.1 a9 a u) z1;unfold jE at z2;rw[vw,hO,ae (show aG 0 [a].length=true from rfl)];simp only[I.aV];rw[show[a].getD (Int.toNat 0) av=a from rfl,z2];simp only[aS,ao];rw[ae (gb (by show 1+(bo ts (ts.getD j aK).aF a).length<=_;omega)),show aM .i64 0 1=1 from by decide,vw,al (show ¬decide ((1:Int)<([a].length:Int))=true from by simp),bt,bt];rfl
end
theorem L3{a0 a2 a4 z0 z2 z4:Int}{a1 z1:Bool}{a3 z3:ak}{l l2:List I}{r:List bW}(af:l.length<=1000000000)(h:∀y,y∈l->kb y=some y):∀(k i:Nat),i+k=l.length->
 tN ((l.length:Int),(i:Int),a0,a1,a2,a3,a4,z0,z1,z2,z3,z4,l,l2,r)=some (a0,a1,a2,a3,a4,z0,z1,z2,z3,z4,l,l2,r)
 |0,i,a=>by rw[tN,b']
 |k+1,i,a=>by
  have aB:i<l.length:=by omega
  rw[tN,br,ae (aP aB),aZ,br];simp only[I.aV];rw[h _ (bd aB av)];simp only[aS,ao,I.aV];rw[ae (aP aB),br,bC,DZ aB];exact L3 af h k (i+1) (by omega)
theorem L4{a0 a2 a4 z0 z2 z4:Int}{a1 z1:Bool}{a3 z3:ak}{l l2:List I}{r:List bW}(af:l.length<=1000000000)(h:∀y,y∈l->kb y=some y):∀(k i:Nat),i+k=l.length->
 tP ((l.length:Int),(i:Int),a0,a1,a2,a3,a4,z0,z1,z2,z3,z4,l,l2,r)=some (a0,a1,a2,a3,a4,z0,z1,z2,z3,z4,l2,l,r)
 |0,i,a=>by rw[tP,b']
 |k+1,i,a=>by
  have aB:i<l.length:=by omega
  rw[tP,br,ae (aP aB),aZ,br];simp only[I.aV];rw[h _ (bd aB av)];simp only[aS,ao,I.aV];rw[ae (aP aB),br,bC,DZ aB];exact L4 af h k (i+1) (by omega)
theorem aau(j:bK v):wt v<=1000000000->kb v=some v:=by
 induction j with
 |mk v hs h1 o p s q t dc A B C m k=>
  intro u;have w:=fD v;have x:=A4 v.ay;have l2:=A4 v.aj;have z:=N1 v.Rest;have kk:∀y,y∈v.ay->kb y=some y:=λy a=>m y a (by have:=fx a;omega);have n:∀y,y∈v.aj->kb y=some y:=λy a=>k y a (by have:=fx a;omega);have f:fj 120 v.ay=some v.ay:=by unfold fj;rw[ae (mW (wG))]
  have g:fj 120 v.aj=some v.aj:=by unfold fj;rw[ae (mW (wG))]
  have i:fj 24 v.Rest=some v.Rest:=by unfold fj;rw[ae (mW (wG))]
  have b:=L3 (a0:=v.Kind) (a1:=v.bN) (a2:=v.bc) (a3:=v.bl) (a4:=v.ad) (z0:=0) (z1:=false) (z2:=0) (z3:=[]) (z4:=0) (l:=v.ay) (l2:=v.aj) (r:=v.Rest) (by omega) kk v.ay.length 0 (by omega);have d:=L4 (a0:=v.Kind) (a1:=v.bN) (a2:=v.bc) (a3:=v.bl) (a4:=v.ad) (z0:=0) (z1:=false) (z2:=0) (z3:=[]) (z4:=0) (l:=v.aj) (l2:=v.ay) (r:=v.Rest) (by omega) n v.aj.length 0 (by omega);have c:tN ((v.ay.length:Int),0,v.Kind,v.bN,v.bc,v.bl,v.ad,0,false,0,[],0,v.ay,v.aj,v.Rest)=_:=b;have e:tP ((v.aj.length:Int),0,v.Kind,v.bN,v.bc,v.bl,v.ad,0,false,0,[],0,v.aj,v.ay,v.Rest)=_:=d;rw[kb,f,g,i];simp only[aS,ao];rw[c];simp only[ao];rw[e];simp only[ao];cases v;rfl
theorem S2(b:path.length<=90000)(a:ar):tM (tw,tr,a,path)=some ((⟨0,false,0,[],0,[],[],[]⟩:I),false,tw,tr,path,path):=by
 rw[tM];unfold uf fj;rw[ae (mW (cO (by omega) (by omega)))];simp
theorem Ed(b:path.length<=90000)(id:Int)(a:ar):vq (id,tw,tr,a,path)=some ((⟨0,false,0,[],0,[],[],[]⟩:I),false,tw,tr,path,path++[id]):=by
 rw[vq];unfold uf fj;rw[ae (mW (cO (by omega) (by omega)))];simp only[mf,aS,ao];rw[hO,ae (cO)]
theorem Ee(af:x.ah.length<=1000)(id:Int):hg (x,id)=some (l5 x.ah id):=by
 obtain⟨r,a,b⟩:=wk (t:=x) (id:=id) (by omega);rw[a,Ht b (Mk _ _)]
section
variable {tw tr:List ai}
def fF(tw tr:List ai)(a path:ar):I ⊕ ar->I×Bool×List ai×List ai×ar×ar
 |.inl u=>(u,true,tw,tr,a,path)
 |.inr p=>(⟨0,false,0,[],0,[],[],[]⟩,false,tw,tr,p,path)
def E7(tw tr:List ai)(a path:ar)(acc:List I):List I ⊕ ar->(Bool×List ai×List ai×ar×ar) ⊕ (List ai×List ai×ar×List I×ar)
 |.inl us=>.inr (tw,tr,a,acc++us,path)
 |.inr p=>.inl (false,tw,tr,p,path)
def oW(tw tr:List ai)(a path:ar):List I ⊕ ar->List I×Bool×List ai×List ai×ar×ar
 |.inl us=>(us,true,tw,tr,a,path)
 |.inr p=>([],false,tw,tr,p,path)
def Part(tw tr:List ai)(f:fN)(path:ar)(t rt:Int)(v:I):Prop:=∀(step:Int) (a:ar),qU (step,t,v,rt,tw,tr,a,path)=some (fF tw tr a path (f t v rt (path++[step])))
theorem Nx{step:Int}{a:ar}{o:I ⊕ ar}(c:path.length<=90000)(h:tR (t,v,rt,tw,tr,a,path++[step])=some (fF tw tr a (path++[step]) o)):qU (step,t,v,rt,tw,tr,a,path)=some (fF tw tr a path o):=by
 rw[qU];simp only[aS,ao,I.aV];rw[ae (cO),h];have aN:c9 .i64 ((path++[step]).length:Int) 1=(path.length:Int):=by rw[gS (by simp<;>omega) (by simp<;>omega)];simp
 have b:dN 0 (path.length:Int) (path++[step]).length=true:=ij.2 (by simp;omega);cases o with
 |inl u=>
  simp only[ao,I.aV,fF];simp_all
 |inr p=>
  simp only[ao,I.aV,fF];simp_all
theorem JI{l:List I}(af:l.length<=50000)(h:∀y,y∈l->Part tw tr f path t rt y):∀(k i:Nat) (acc:List I) (a:ar),i+k=l.length->acc.length<=i->
 sT (t,rt,l,(l.length:Int),(i:Int),tw,tr,a,acc,path)=some (E7 tw tr a path acc (e0 f path t rt i (l.drop i)))
 |0,i,acc,a,c,b=>by
  rw[sT,b',en (by omega:l.length<=i)];simp[e0,E7]
 |k+1,i,acc,a,c,b=>by
  have aB:i<l.length:=by omega
  rw[sT,br,ae (aP aB),aZ];simp only[I.aV];rw[h _ (bd aB av),eE aB av,e0];cases f t (l.getD i av) rt (path++[(i:Int)])with
  |inr p=>rfl
  |inl u=>
   simp only[aS,ao,fF,c8,I.aV];rw[bw,ae (cO),bC,JI af h k (i+1) _ a (by omega) (by simp;omega)];cases e0 f path t rt (i+1) (l.drop (i+1))with
   |inr p=>rfl
   |inl us=>simp[E7,iT]
theorem zu{l:List I}(af:l.length<=50000)(h:∀y,y∈l->Part tw tr f path t rt y)(a:ar):
 nJ (t,l,rt,tw,tr,a,path)=some (oW tw tr a path (e0 f path t rt 0 l)):=by
 have h0:=JI af h l.length 0 [] a (by omega) (by simp);have b:sT (t,rt,l,(l.length:Int),0,tw,tr,a,[],path)=_:=h0;rw[nJ,b,fT];cases e0 f path t rt 0 l with
 |inr p=>rfl
 |inl us=>rfl
def uV(tw tr:List ai)(a path:ar)(x:ai)(v:I)(y:ai)(acc:List I):List I ⊕ ar->(Bool×List ai×List ai×ar×I×ar) ⊕ (List ai×List ai×ar×ai×I×ai×Int×Bool×Int×ak×Int×Int×Bool×Int×ak×Int×ar×List I)
 |.inl us=>.inr (tw,tr,a,x,v,y,0,false,0,[],0,v.Kind,false,0,[],0,path,acc++us)
 |.inr p=>.inl (false,tw,tr,p,⟨0,false,0,[],0,[],[],[]⟩,path)
theorem Ny(c:path.length<=90000)(s:x.ah.length<=1000)(D:y.ah.length<=1000)(af:v.aj.length=x.ah.length)(r:∀q,q∈v.aj->bK q)
 (g:∀n,n∈y.ah->n.bU=true->kb n.bA=some n.bA)
 (h:∀i,i<x.ah.length->∀n,n∈y.ah->Part tw tr f path (x.ah.getD i aC).aw n.aw (v.aj.getD i av)/\∀p u,f (x.ah.getD i aC).aw (v.aj.getD i av) n.aw p= .inl u->bK u):∀(k j:Nat) (acc:List I) (a:ar),j+k=y.ah.length->acc.length<=j->
 pf (y.ah,(y.ah.length:Int),(j:Int),tw,tr,a,x,v,y,0,false,0,[],0,v.Kind,false,0,[],0,path,acc)=some (uV tw tr a path x v y acc (jd f x v path (y.ah.drop j)))
 |0,j,acc,a,B,w=>by
  rw[pf,b',en (by omega:y.ah.length<=j)];simp[jd,uV,I.aV]
 |k+1,j,acc,a,B,w=>by
  have aB:j<y.ah.length:=by omega
  have l:=bd aB aC;have t:=λacc a=>Ny c s D af r g h k (j+1) acc a (by omega);rw[pf,br,ae (aP aB),aZ];simp only[aS,ao,I.aV,jo];rw[Ee s,eE aB aC,jd];unfold w6 l5;generalize aH:y.ah.getD j aC=n at*;cases bx:hp x.ah n.ad with
  |none=>
   simp only[ao,eU];rw[ae trivial];cases A:n.bU with
   |false=>
    simp only[eU];rw[ae trivial,Ed c];rfl
   |true=>
    simp only[c8];rw[bw,g n l A];simp only[ao];rw[ae (cO),bC,t _ _ (by simp;omega),ae trivial];cases jd f x v path (y.ah.drop (j+1))with
    |inr p=>rfl
    |inl us=>simp[uV,iT]
  |some i=>
   obtain⟨d,_,_⟩:=kg bx;have e:i<v.aj.length:=(by omega);obtain⟨E,F⟩:=h i d n l;simp only[ao,c8];rw[bw,ae (aP d),ae (aP e),aZ,E n.ad a];have o:=D1 (m:=x.ah.getD i aC) (r _ (bd e av));cases z:f (x.ah.getD i aC).aw (v.aj.getD i av) n.aw (path++[n.ad])with
   |inr p=>
    simp only[ao,fF,I.aV,eU,c8,Bool.and_false];rw[ae (aP d),ae (aP e),o];simp only[ao,bY,b6];rw[Nr];generalize di (x.ah.getD i aC) (v.aj.getD i av)=b at*;cases b with
    |false=>rfl
    |true=>
     simp only[et];rw[ae trivial,Ed c];rfl
   |inl u=>
    have C:=D1 (m:=n) (F _ u z);simp only[ao,fF,I.aV,eU,c8,B'];rw[ae (aP d),ae (aP e),o];simp only[ao,bY,b6];rw[Ns];generalize di (x.ah.getD i aC) (v.aj.getD i av)=b at*;have tail:(some [u]>>=λt110=>if room 120 (acc++t110).length then pf (y.ah,(y.ah.length:Int),aM .i64 (j:Int) 1,tw,tr,a,x,v,y,0,false,0,[],0,v.Kind,false,0,[],0,path,acc++t110)else none)=some (uV tw tr a path x v y acc (iT (.inl u) (jd f x v path (y.ah.drop (j+1))))):=by
     simp only[aS,ao];rw[ae (cO),bC,t _ _ (by simp;omega)];cases jd f x v path (y.ah.drop (j+1))with
     |inr p=>rfl
     |inl us=>simp[uV,iT]
    cases b with
    |false=>grind
    |true=>
     rw[ae rfl,C];cases G:di n u with
     |true=>grind
     |false=>
      simp only[ao,et,dW,eU,and_self,b5];rw[Ed c];rfl
def Bg(tw tr:List ai)(a path:ar)(v:I)(its:List I)(acc:List bW):List bW ⊕ ar->(Bool×List ai×List ai×I×ar×ar) ⊕ (List ai×List ai×ar×Int×Bool×Int×ak×Int×Int×Bool×Int×ak×Int×ar×List I×List bW)
 |.inl b=>.inr (tw,tr,a,0,false,0,[],0,v.Kind,false,0,[],0,path,its,acc++b)
 |.inr p=>.inl (false,tw,tr,⟨0,false,0,[],0,[],[],[]⟩,path,p)
theorem Nz(g:path.length<=90000)(r:x.ah.length<=1000)(l:y.ah.length<=1000)(af:v.aj.length=x.ah.length)(j:∀q,q∈v.aj->bK q)
 (h:∀i,i<x.ah.length->jE tw (x.ah.getD i aC).aw (v.aj.getD i av)){its:List I}(d:ar):∀(k i:Nat) (acc:List bW),i+k=x.ah.length->acc.length<=i->
 n4 (x.ah,(x.ah.length:Int),(i:Int),tw,tr,d,v,y,0,false,0,[],0,v.Kind,false,0,[],0,path,its,acc)=some (Bg tw tr d path v its acc (ix tw y path (x.ah.drop i) (v.aj.drop i)))
 |0,i,acc,n,m=>by
  rw[n4,b',en (by omega:x.ah.length<=i),ix]
  . simp[Bg]
  grind
 |k+1,i,acc,n,m=>by
  have aB:i<x.ah.length:=by omega
  have c:i<v.aj.length:=by omega
  have e:=λacc=>Nz g r l af j h (its:=its) d k (i+1) acc (by omega);rw[n4,br,ae (aP aB),aZ];simp only[aS,ao,I.aV,jo];rw[Ee l,eE aB aC,eE c av,ix];have hs:=wY y.ah (x.ah.getD i aC).ad;have o:(l5 y.ah (x.ah.getD i aC).ad).2=(cB y.ah (x.ah.getD i aC).ad).isSome:=by
   rw[<-hs];unfold l5;grind
  simp only[ao];rw[o];by_cases a:(cB y.ah (x.ah.getD i aC).ad).isSome=true
  . rw[ae a,ae a,bC,e _ (by omega)]
  rw[al a,al a];by_cases b:(x.ah.getD i aC).ch=true
  . rw[ae b,ae b,Ed g];rfl
  rw[al b,al b,ae (aP c),D1 (j _ (bd c av))];simp only[ao];cases di (x.ah.getD i aC) (v.aj.getD i av)with
  |true=>rw[bw,ae rfl,bC,e _ (by omega)]
  |false=>
   have f:=h i aB;unfold jE at f;rw[ae (show(!false)=true from rfl),al (show ¬false=true by simp),ae (aP c),f];simp only[ao];rw[ae (cO),bC,e _ (by simp;omega)];cases ix tw y path (x.ah.drop (i+1)) (v.aj.drop (i+1))with
   |inr p=>rfl
   |inl us=>simp[Bg,iT]
theorem aav(b:path.length<=90000)(k5:v.Kind=5)(d:x.ah.length<=1000)(e:y.ah.length<=1000)(af:v.aj.length=x.ah.length)(c:∀q,q∈v.aj->bK q)
 (k:∀n,n∈y.ah->n.bU=true->kb n.bA=some n.bA)
 (h:∀i,i<x.ah.length->∀n,n∈y.ah->Part tw tr f path (x.ah.getD i aC).aw n.aw (v.aj.getD i av)/\∀p u,f (x.ah.getD i aC).aw (v.aj.getD i av) n.aw p= .inl u->bK u)
 (l:∀i,i<x.ah.length->jE tw (x.ah.getD i aC).aw (v.aj.getD i av))(a:ar):
 yz (x,v,y,tw,tr,a,path)=some (fF tw tr a path (w5 tw f x y v path)):=by
 have h0:=Ny b d e af c k h y.ah.length 0 [] a (by omega) (by simp);have g:pf (y.ah,(y.ah.length:Int),0,tw,tr,a,x,v,y,0,false,0,[],0,v.Kind,false,0,[],0,path,[])=_:=h0;rw[yz];simp only[I.aV];rw[g,fT];unfold w5;cases jd f x v path y.ah with
 |inr p=>rfl
 |inl its=>
  have h1:=Nz (tr:=tr) b d e af c l (its:=its) a x.ah.length 0 [] (by omega) (by simp);have j:n4 (x.ah,(x.ah.length:Int),0,tw,tr,a,v,y,0,false,0,[],0,v.Kind,false,0,[],0,path,its,[])=_:=h1;simp only[aS,ao,uV,fS,I.aV];rw[j,fT,fT];cases ix tw y path x.ah v.aj with
  |inr p=>rfl
  |inl r=>simp only[ao,Bg,fS,k5,mB,h5,fF]
theorem acr(g:path.length<=90000)(k6:v.Kind=6)(j:x.ah.length<=1000)(l:y.ah.length<=1000)(h1:v.aj.length=1){i:Nat}(a:hp x.ah v.ad=some i)
 (h:∀n,n∈y.ah->Part tw tr f path (x.ah.getD i aC).aw n.aw (v.aj.getD 0 av))
 (c:jE tw (x.ah.getD i aC).aw (v.aj.getD 0 av))(e:ar):
 yi (x,v,y,tw,tr,e,path)=some (fF tw tr e path (uF tw f x y v path)):=by
 obtain⟨d,_,_⟩:=kg a;have b:aG 0 v.aj.length=true:=by rw[h1];rfl
 rw[yi,Ee j,Ee l];unfold uF l5;simp only[aS,ao,I.aV,a];cases bx:hp y.ah v.ad with
 |some k=>
  obtain⟨k1,_,_⟩:=kg bx;simp only;rw[ae trivial,ae (aP d),ae b,ae (aP k1),aZ,aZ,show(0:Int).toNat=0 from rfl,h _ (bd k1 aC)];cases f (x.ah.getD i aC).aw (v.aj.getD 0 av) (y.ah.getD k aC).aw (path++[v.ad])with
  |inr p=>
   simp only[ao,fF,eU,h5];rw[ae trivial]
  |inl u=>
   simp only[ao,fF,c8,h5,I.aV,k6];rw[bw]
 |none=>
  simp only;rw[bw];cases y.Open with
  |false=>
   simp only[eU];rw[ae trivial,S2 g];simp only[ao,I.aV,bY,b6,fF]
  |true=>
   unfold jE at c;simp only[c8];rw[bw,ae (aP d),ae b,aZ,show(0:Int).toNat=0 from rfl,c];simp only[ao,b5,fF,k6]
def Bi(tw tr:List ai)(n:Nat):Prop:=∀{v:I},bK v->∀{t rt:Int} {path:ar} (a:ar),bX tw true t v->gu tw n t v->0<=rt->rt<tr.length->path.length+n<=50000->
 tR (t,v,rt,tw,tr,a,path)=some (fF tw tr a path (ep tw tr n t v rt path))
theorem acs(dn:c' tw)(cN:c' tr){n:Nat}(ih:Bi tw tr n):Bi tw tr (n+1):=by
 intro v aA t rt path e J au ba S aT;unfold gu at au;obtain⟨⟨z1,a8,a'⟩,L,N,G⟩:=au;have SW:=dn.V.hr dn.T;have cz:=cN.V.hr cN.T;have aV:=fD v;obtain⟨⟨aM,aN,am,an⟩,U⟩:=(eH _ _ _).1 J;obtain⟨j,rfl⟩:∃j:Nat,t=(j:Int):=⟨t.toNat,by omega⟩
 obtain⟨k,rfl⟩:∃k:Nat,rt=(k:Int):=⟨rt.toNat,by omega⟩
 have Y:j<tw.length:=by omega
 have Z:k<tr.length:=by omega
 have aa:=bd Y aK;have o:=bd Z aK;have aR:=an rfl;cases aA with
 |mk _ hs h1 aO aQ aq B aU dc aY a6 a7=>
 rw[tR,ae (aP Y),Dv];simp only[aS,ao,aZ,I.aV];rw[aZ]at am U L N G;rw[ae (aP Z)];have ak:∀q,q∈(tr.getD k aK).ah->q.bU=true->kb q.bA=some q.bA:=λq a ap=>aau ((cN.T _ o).iG _ a) (by have:=cN.W _ o q a ap;omega);generalize aW:tw.getD j aK=x at*;generalize aX:tr.getD k aK=y at*;have K:∀{t rt:Int} {q:I},q∈v.aj->bX tw true t q->gu tw n t q->0<=rt->rt<tr.length->Part tw tr (ep tw tr n) path t rt q:=λ{t rt q} a J Q a0 a1 step e=>Nx (by omega) (ih (B q a) e J Q a0 a1 (by simp;omega));have aG:∀{t rt:Int} {q:I},q∈v.ay->bX tw true t q->gu tw n t q->0<=rt->rt<tr.length->Part tw tr (ep tw tr n) path t rt q:=λ{t rt q} a J Q a0 a1 step e=>Nx (by omega) (ih (aq q a) e J Q a0 a1 (by simp;omega));have F:=S2 (tw:=tw) (tr:=tr) (path:=path) (by omega) e;by_cases bD:x.Kind=y.Kind
 . rw[al (show ¬(!(decide (x.Kind=y.Kind)))=true by simp[bD])];have M:∀{t rt:Int},v.aj=[]->nJ (t,v.aj,rt,tw,tr,e,path)=some ([],true,tw,tr,e,path):=λ{t rt} he=>by
    have:=zu (tw:=tw) (tr:=tr) (f:=ep tw tr n) (path:=path) (t:=t) (rt:=rt) (l:=v.aj) (by omega) (λq a=>by rw[he]at a;cases a) e;rw[this,he];rfl
   rcases U with h|h|h|h|h|h|h|h|h
   . obtain⟨a1,a2,a3,a4,a5,d,C⟩:=h;have b:x.Kind=1:=(by omega);have af:jy x y v:=⟨λh=>by omega,λh=>by omega,λh=>by omega⟩
     rw[rS bD (by omega) af];simp only[b];simp only[M d,ao,dk,bY,b6,Int.reduceEq,c8,fF];cases v;simp_all
   . obtain⟨a1,a2,a3,a4,a5,d,C,D,a9⟩:=h;have b:x.Kind=2:=(by omega);by_cases af:y.bE<=v.bc/\v.bc<=y.bH
     . rw[rS bD (by omega) (show jy x y v from⟨λ_=>af,λh=>by omega,λh=>by omega⟩)];simp only[b];simp only[M d,af.1,af.2,ao,dk,dd,bY,b6,b5,Int.reduceEq,c8,et,fF];cases v;simp_all
     . rw[wH bD (by omega) (show ¬jy x y v fromλh=>af (h.1 b))];have H:(bif decide (y.bE<=v.bc)then decide (v.bc<=y.bH)else false)=false:=by
        by_cases c:y.bE<=v.bc<;>simp[c];omega
       simp only[b,H];simp only[F,ao,dd,b5,eU,fF,I.aV]
   . obtain⟨a1,a2,a3,a4,a5,d,C,D⟩:=h;have b:x.Kind=3:=(by omega);by_cases af:(v.bl.length:Int)<=y.Max
     . rw[rS bD (by omega) (show jy x y v from⟨λh=>by omega,λ_=>af,λh=>by omega⟩)];simp only[b];simp only[M d,af,ao,dk,dd,bY,b6,b5,Int.reduceEq,c8,et,fF];cases v;simp_all
     . rw[wH bD (by omega) (show ¬jy x y v fromλh=>af (h.2.1 b))];simp only[b];simp only[F,af,ao,dd,dk,b5,b6,Int.reduceEq,bY,eU,fF,I.aV]
   . obtain⟨a1,a2,a3,a4,a5,d,C,D⟩:=h;have b:x.Kind=4:=(by omega);obtain⟨r,S,_,aI⟩:=rb (t:=y) v.ad (by have:=(cN.T _ o).1;have:=dA (d' reachBytes);omega);have ag:r.2=true↔∃s,s∈y.bh/\s.ad=v.ad:=by
      rcases aI with⟨q,g,R,_,rfl⟩|⟨q,rfl⟩
      . exact⟨λ_=>⟨_,bd g dK,R⟩,λ_=>rfl⟩
      . constructor
        . intro h;simp at h
        intro a;obtain⟨s,s1,aJ⟩:=a;obtain⟨i,B,rfl⟩:=e1 s1;exact absurd aJ (by have:=q i B;rwa [dv B]at this)
     by_cases af:(∃s,s∈y.bh/\s.ad=v.ad)\/y.Open=true
     . rw[rS bD (by omega) (show jy x y v from⟨λh=>by omega,λh=>by omega,λ_=>af⟩)];have H:(bif r.2 then true else y.Open)=true:=by
        rcases af with af|af
        . rw[ag.2 af];rfl
        . rw[af];cases r.2<;>rfl
       simp only[b,S];simp only[M d,H,ao,dk,dd,bY,b6,b5,Int.reduceEq,c8,fF];cases v;simp_all
     . rw[wH bD (by omega) (show ¬jy x y v fromλh=>af (h.2.2 b))];have H:(bif r.2 then true else y.Open)=false:=by
        cases ax:r.2 with
        |true=>exact absurd (.inl (ag.1 ax)) af
        |false=>
         cases ar:y.Open with
         |true=>exact absurd (.inr ar) af
         |false=>rfl
       simp only[b,S];simp only[F,H,ao,dd,dk,b5,b6,Int.reduceEq,bY,eU,fF,I.aV]
   . obtain⟨a1,a2,a3,a4,a5,d,C,D⟩:=h;have b:x.Kind=5:=(by omega);obtain⟨ab,aB⟩:=SW.A _ aa (.inl (by omega));obtain⟨aD,aE⟩:=cz.A _ o (.inl (by omega));obtain⟨f1,f2⟩:=hG.1 D
     have ag:=aav (tw:=tw) (tr:=tr) (f:=ep tw tr n) (path:=path) (by omega) (x:=x) (y:=y) a1 (by omega) (by omega) f1 B ak (λi E q a=>by
      have w:=bd (by omega:i<v.aj.length) av;obtain⟨z,g⟩:=cN.gT.mem o a;exact⟨K w (f2 i E) (L b i E) z g,λp u az=>(Mn dn cN n (B _ w) (f2 i E) (L b i E) z g az).1⟩) (λi E=>by
      have w:=bd (by omega:i<v.aj.length) av
      exact PQ dn (B _ w) _ (f2 i E) (L b i E).len) e
     rw[Ta bD b];simp only[b,ag,ao,dk,dd,bY,b6,b5,Int.reduceEq,I.aV]
   . obtain⟨a1,a2,a3,a4,a5,d⟩:=h;have b:x.Kind=6:=(by omega);obtain⟨ab,aB⟩:=SW.A _ aa (.inr (by omega));obtain⟨aD,aE⟩:=cz.A _ o (.inr (by omega));cases bx:cB x.ah v.ad with
     |none=>rw[bx]at d;cases d.2.1
     |some m=>
      rw[bx]at d;obtain⟨b1,b2,b3⟩:=d;have P:=wY x.ah v.ad;rw[bx]at P;cases O:hp x.ah v.ad with
      |none=>rw[O]at P;cases P
      |some i=>
      obtain⟨d1,d2,_⟩:=kg O;obtain⟨d3,d4⟩:=kf bx;have em:x.ah.getD i aC=m:=rP ab (bd d1 aC) d3 (by rw[d2,d4]);have w:=bd (by omega:0<v.aj.length) av;have X:=cI.1 b3 _ w
      have ag:=acr (tw:=tw) (tr:=tr) (f:=ep tw tr n) (path:=path) (by omega) (x:=x) (y:=y) a1 (by omega) (by omega) b2 O (λq a=>by
       obtain⟨z,g⟩:=cN.gT.mem o a;rw[em]
       exact K w X (N b _ bx _ w) z g) (by rw[em];exact PQ dn (B _ w) _ X (N b _ bx _ w).len) e
      rw[Tb bD b];simp only[b,ag,ao,dk,dd,bY,b6,b5,Int.reduceEq,I.aV]
   . obtain⟨a1,a2,a3,a4,a5,d,C,D,a9⟩:=h;have b:x.Kind=7:=(by omega);obtain⟨z,g⟩:=cN.gT.elem o (by omega);have a:=zu (tw:=tw) (tr:=tr) (f:=ep tw tr n) (path:=path) (t:=x.aF) (rt:=y.aF) (l:=v.aj) (by omega) (λq a=>K a (cI.1 a9 q a) ((G (by omega)).1 q a) z g) e;rw[Tc bD b];unfold AI;by_cases af:(v.aj.length:Int)<=y.Max
     . rw[ae af];simp only[b,a,af,ao,dk,dd,bY,b6,b5,Int.reduceEq,c8];cases e0 (ep tw tr n) path x.aF y.aF 0 v.aj with
       |inr p=>rfl
       |inl us=>simp only[oW,h5,fF,c8,bY,b6,a1,a2,a3,a4,a5]
     . rw[al af];simp only[b];simp only[F,af,ao,dd,dk,b5,b6,Int.reduceEq,bY,eU,fF,I.aV]
   . obtain⟨a1,a2,a3,a4,a5,d,C,D,a9,ai,aL⟩:=h;have b:x.Kind=8:=(by omega);obtain⟨z,g⟩:=cN.gT.elem o (by omega);obtain⟨R,aH⟩:=cN.gT.key o (by omega);have a:=zu (tw:=tw) (tr:=tr) (f:=ep tw tr n) (path:=path) (t:=x.aF) (rt:=y.aF) (l:=v.aj) (by omega) (λq a=>K a (cI.1 ai q a) ((G (by omega)).1 q a) z g) e;have aw:=zu (tw:=tw) (tr:=tr) (f:=ep tw tr n) (path:=path) (t:=x.Key) (rt:=y.Key) (l:=v.ay) (by omega) (λq a=>aG a (cI.1 a9 q a) ((G (by omega)).2 q a) R aH) e;rw[Td bD b];unfold AJ;by_cases af:(v.aj.length:Int)<=y.Max
     . rw[ae af];simp only[b,aw,af,ao,dk,dd,bY,b6,b5,Int.reduceEq,c8];cases e0 (ep tw tr n) path x.Key y.Key 0 v.ay with
       |inr p=>rfl
       |inl ks=>
        simp only[oW,mB,c8,bY,b6,a,ao];cases e0 (ep tw tr n) path x.aF y.aF 0 v.aj with
        |inr p=>rfl
        |inl us=>simp only[oW,h5,fF,c8,bY,b6,a1,a2,a3,a4,a5]
     . rw[al af];simp only[b];simp only[F,af,ao,dd,dk,b5,b6,Int.reduceEq,bY,eU,fF,I.aV]
   . obtain⟨a1,a2,a3,a4,a5,d,C,D,a9⟩:=h;have b:x.Kind=9:=(by omega);obtain⟨z,g⟩:=cN.gT.elem o (by omega);have a:=zu (tw:=tw) (tr:=tr) (f:=ep tw tr n) (path:=path) (t:=x.aF) (rt:=y.aF) (l:=v.aj) (by omega) (λq a=>K a (cI.1 a9 q a) ((G (by omega)).1 q a) z g) e;rw[Te bD b];unfold AK;simp only[b,a,ao,dk,dd,bY,b6,b5,Int.reduceEq,c8];cases e0 (ep tw tr n) path x.aF y.aF 0 v.aj with
     |inr p=>rfl
     |inl us=>simp only[oW,h5,fF,c8,bY,b6,a1,a2,a3,a4,a5]
 . rw[ae (show(!(decide (x.Kind=y.Kind)))=true by simp[bD]),PN bD,F];simp only[ao,I.aV,fF]
theorem acu:Bi tw tr 0:=by
 intro v _ _ _ _ _ _ h;cases h
theorem NA(dn:c' tw)(cN:c' tr):∀n,Bi tw tr n
 |0=>acu
 |n+1=>acs dn cN (NA dn cN n)
end
def hA:I ⊕ ar->dJ
 |.inl u=>⟨u,[],true⟩
 |.inr p=>⟨⟨0,false,0,[],0,[],[],[]⟩,p,false⟩
theorem Cv(a:path.length<=90000):kD path=some (hA (.inr path)):=by
 rw[kD,ae (cO),fS];rfl
theorem Ai(a:path.length<=90000)(step:Int):q6 (path,step)=some (path++[step]):=by
 rw[q6,ae (cO),fS];simp only[aS,ao];rw[ae (cO)]
theorem Gc{m:aU}(b:bK m.bA)(v:I):vo (m,v)=some (di m v):=by
 rw[vo];simp only[I.aV];unfold di;cases d:m.bU with
 |false=>rfl
 |true=>
  obtain⟨r,c,a⟩:=ado b v;rw[ae rfl,c];by_cases e:m.bA=v
  . have:=a.2 e;subst this;simp[e]
  . have:r=false:=by
     cases r with
     |false=>rfl
     |true=>exact absurd (a.1 rfl) e
    subst this;simp[e]
theorem Ef(af:x.ah.length<=1000)(id:Int):hC (x,id)=some (l5 x.ah id):=by
 obtain⟨r,a,b⟩:=CS (t:=x) (id:=id) (by omega);rw[a,Ht b (Mk _ _)]
section
variable {tw tr:List ai}
def oX(tw tr:List ai)(f:fN)(path:ar)(t rt:Int)(v:I):Prop:=∀step:Int,mM ((⟨tw⟩:aT),t,v,(⟨tr⟩:aT),rt,path++[step])=some (hA (f t v rt (path++[step])))
def Bf(tw tr:List ai)(path:ar)(x y:ai)(v:I)(acc:List I):List I ⊕ ar->dJ ⊕ (ar×List ai×I×List ai×Int×Bool×Int×ak×Int×Bool×ai×ai×Int×Bool×Int×ak×Int×List bW×List I)
 |.inl us=>.inr (path,tw,v,tr,0,false,0,[],0,false,x,y,v.Kind,v.bN,v.bc,v.bl,v.ad,v.Rest,acc++us)
 |.inr p=>.inl (hA (.inr p))
theorem NB(a:path.length<=90000)(af:v.ay.length<=50000)(h:∀q,q∈v.ay->oX tw tr f path x.Key y.Key q):∀(k i:Nat) (acc:List I),i+k=v.ay.length->acc.length<=i->
 og (path,(i:Int),tw,v,tr,0,false,0,[],0,false,x,y,v.Kind,v.bN,v.bc,v.bl,v.ad,v.Rest,acc)=some (Bf tw tr path x y v acc (e0 f path x.Key y.Key i (v.ay.drop i)))
 |0,i,acc,c,b=>by
  rw[og,b',en (by omega:v.ay.length<=i)];simp[e0,Bf,I.aV]
 |k+1,i,acc,c,b=>by
  have aB:i<v.ay.length:=by omega
  rw[og,br,ae (aP aB),aZ,Ai a];simp only[I.aV,aS,ao];rw[h _ (bd aB av),eE aB av,e0];cases f x.Key (v.ay.getD i av) y.Key (path++[(i:Int)])with
  |inr p=>rfl
  |inl u=>
   simp only[ao,hA,c8];rw[bw,ae (cO),bC,NB a af h k (i+1) _ (by omega) (by simp;omega)];cases e0 f path x.Key y.Key (i+1) (v.ay.drop (i+1))with
   |inr p=>rfl
   |inl us=>simp[Bf,iT]
def Be(v:I)(ks acc:List I):List I ⊕ ar->dJ ⊕ (Int×Bool×Int×ak×Int×Bool×Int×Bool×Int×ak×Int×List bW×List I×List I)
 |.inl us=>.inr (0,false,0,[],0,false,v.Kind,v.bN,v.bc,v.bl,v.ad,v.Rest,ks,acc++us)
 |.inr p=>.inl (hA (.inr p))
theorem Mo(a:path.length<=90000)(af:v.aj.length<=50000)(h:∀q,q∈v.aj->oX tw tr f path x.aF y.aF q):∀(k i:Nat) (acc:List I),i+k=v.aj.length->acc.length<=i->
 nE (path,(i:Int),tw,v,tr,0,false,0,[],0,false,x,y,v.Kind,v.bN,v.bc,v.bl,v.ad,v.Rest,ks,acc)=some (Be v ks acc (e0 f path x.aF y.aF i (v.aj.drop i)))
 |0,i,acc,c,b=>by
  rw[nE,b',en (by omega:v.aj.length<=i)];simp[e0,Be]
 |k+1,i,acc,c,b=>by
  have aB:i<v.aj.length:=by omega
  rw[nE,br,ae (aP aB),aZ,Ai a];simp only[I.aV,aS,ao];rw[h _ (bd aB av),eE aB av,e0];cases f x.aF (v.aj.getD i av) y.aF (path++[(i:Int)])with
  |inr p=>rfl
  |inl u=>
   simp only[ao,hA,c8];rw[bw,ae (cO),bC,Mo a af h k (i+1) _ (by omega) (by simp;omega)];cases e0 f path x.aF y.aF (i+1) (v.aj.drop (i+1))with
   |inr p=>rfl
   |inl us=>simp[Be,iT]
def mm(f:fN)(x y:ai)(v:I)(path:ar):I ⊕ ar:=
 mB (λks=>h5 (λa=>⟨v.Kind,v.bN,v.bc,v.bl,v.ad,ks,a,v.Rest⟩) (e0 f path x.aF y.aF 0 v.aj)) (e0 f path x.Key y.Key 0 v.ay)
theorem uq(a:path.length<=90000)(e:v.ay.length<=50000)(af:v.aj.length<=50000)(d:∀q,q∈v.ay->oX tw tr f path x.Key y.Key q)(h:∀q,q∈v.aj->oX tw tr f path x.aF y.aF q):
 (∃p,mm f x y v path= .inr p/\og (path,0,tw,v,tr,0,false,0,[],0,false,x,y,v.Kind,v.bN,v.bc,v.bl,v.ad,v.Rest,[])=some (.inl (hA (.inr p))))\/
 ∃ks,og (path,0,tw,v,tr,0,false,0,[],0,false,x,y,v.Kind,v.bN,v.bc,v.bl,v.ad,v.Rest,[])=some (.inr (path,tw,v,tr,0,false,0,[],0,false,x,y,v.Kind,v.bN,v.bc,v.bl,v.ad,v.Rest,ks))/\
  ((∃p,mm f x y v path= .inr p/\nE (path,0,tw,v,tr,0,false,0,[],0,false,x,y,v.Kind,v.bN,v.bc,v.bl,v.ad,v.Rest,ks,[])=some (.inl (hA (.inr p))))\/
  ∃us,mm f x y v path= .inl ⟨v.Kind,v.bN,v.bc,v.bl,v.ad,ks,us,v.Rest⟩/\nE (path,0,tw,v,tr,0,false,0,[],0,false,x,y,v.Kind,v.bN,v.bc,v.bl,v.ad,v.Rest,ks,[])=some (.inr (0,false,0,[],0,false,v.Kind,v.bN,v.bc,v.bl,v.ad,v.Rest,ks,us))):=by
 have h0:=NB a e d v.ay.length 0 [] (by omega) (by simp);have b:og (path,0,tw,v,tr,0,false,0,[],0,false,x,y,v.Kind,v.bN,v.bc,v.bl,v.ad,v.Rest,[])=_:=h0;rw[b,fT];unfold mm;cases e0 f path x.Key y.Key 0 v.ay with
 |inr p=>exact .inl ⟨p,rfl,rfl⟩
 |inl ks=>
  have h1:=Mo (tw:=tw) (tr:=tr) a af h (ks:=ks) v.aj.length 0 [] (by omega) (by simp);have c:nE (path,0,tw,v,tr,0,false,0,[],0,false,x,y,v.Kind,v.bN,v.bc,v.bl,v.ad,v.Rest,ks,[])=_:=h1;refine .inr ⟨ks,by simp[Bf],?_⟩;rw[c,fT];cases e0 f path x.aF y.aF 0 v.aj with
  |inr p=>exact .inl ⟨p,rfl,rfl⟩
  |inl us=>exact .inr ⟨us,rfl,by simp[Be]⟩
def uW(tw:List ai)(path:ar)(x y:ai)(v:I)(acc:List I):List I ⊕ ar->dJ ⊕ (ar×List ai×ai×I×ai×Int×Bool×Int×ak×Int×Bool×Int×Bool×Int×ak×Int×List I)
 |.inl us=>.inr (path,tw,x,v,y,0,false,0,[],0,false,v.Kind,false,0,[],0,acc++us)
 |.inr p=>.inl (hA (.inr p))
theorem NC{path:ar}(t:path.length<=80000)(m:x.ah.length<=1000)(z:y.ah.length<=1000)(af:v.aj.length=x.ah.length)
 (d:∀n,n∈x.ah->bK n.bA)(e:∀n,n∈y.ah->bK n.bA)
 (h:∀i,i<x.ah.length->∀n,n∈y.ah->oX tw tr f path (x.ah.getD i aC).aw n.aw (v.aj.getD i av)):∀(k j:Nat) (acc:List I),j+k=y.ah.length->acc.length<=j->
 pr (path,(j:Int),tw,x,v,tr,y,0,false,0,[],0,false,v.Kind,false,0,[],0,acc)=some (uW tw path x y v acc (jd f x v path (y.ah.drop j)))
 |0,j,acc,s,q=>by
  rw[pr,b',en (by omega:y.ah.length<=j)];simp[jd,uW,I.aV]
 |k+1,j,acc,s,q=>by
  have aB:j<y.ah.length:=by omega
  have g:=bd aB aC;have o:=λacc=>NC t m z af d e h k (j+1) acc (by omega);rw[pr,br,ae (aP aB),aZ];simp only[aS,ao,I.aV,jo];rw[Ai (by omega),Ef m,eE aB aC,jd];unfold w6 l5;have r:=e _ g;generalize aH:y.ah.getD j aC=n at*;have M:=Cv (path:=path++[n.ad]) (by simp;omega);cases bx:hp x.ah n.ad with
  |none=>
   simp only[ao,eU,et];cases D:n.bU with
   |false=>
    rw[ae (show(!false)=true from rfl),M,al (show ¬false=true by simp)];rfl
   |true=>
    rw[al (show ¬(!true)=true by simp),ae trivial,ae (cO),bC,o _ (by simp;omega),ae (show true=true from rfl)];cases jd f x v path (y.ah.drop (j+1))with
    |inr p=>rfl
    |inl us=>simp[uW,iT]
  |some i=>
   obtain⟨a,_,_⟩:=kg bx;have c:i<v.aj.length:=(by omega);have A:=h i a n g;simp only[ao,c8,dW];rw[bw,bw,ae (aP a),ae (aP c),aZ,A n.ad];have l:=Gc (d _ (bd a aC)) (v.aj.getD i av);cases C:f (x.ah.getD i aC).aw (v.aj.getD i av) n.aw (path++[n.ad])with
   |inr p=>
    simp only[ao,hA,I.aV,eU,c8,Bool.and_false];rw[ae (aP a),ae (aP c),l];simp only[ao,bY,b6];rw[Nr];generalize di (x.ah.getD i aC) (v.aj.getD i av)=b at*;cases b with
    |false=>rfl
    |true=>
     simp only[et];rw[ae trivial,M];rfl
   |inl u=>
    have w:=Gc r u;simp only[ao,hA,I.aV,eU,c8,B'];rw[ae (aP a),ae (aP c),l];simp only[ao,bY,b6];rw[Ns];generalize di (x.ah.getD i aC) (v.aj.getD i av)=b at*;have tail:(some [u]>>=λt110=>if room 120 (acc++t110).length then pr (path,aM .i64 (j:Int) 1,tw,x,v,tr,y,0,false,0,[],0,false,v.Kind,false,0,[],0,acc++t110)else none)=some (uW tw path x y v acc (iT (.inl u) (jd f x v path (y.ah.drop (j+1))))):=by
     simp only[aS,ao];rw[ae (cO),bC,o _ (by simp;omega)];cases jd f x v path (y.ah.drop (j+1))with
     |inr p=>rfl
     |inl us=>simp[uW,iT]
    cases b with
    |false=>
     simp only[bY,b6,ao,dW,false_and];exact tail
    |true=>
     rw[ae rfl,w];cases B:di n u with
     |true=>
      simp only[bY,b6,ao,dW,et,c8,oB,Bool.true_eq_false];exact tail
     |false=>
      simp only[ao,et,dW,eU,and_self,b5];rw[M];rfl
def Bh(v:I)(its:List I)(acc:List bW):List bW ⊕ ar->dJ ⊕ (Int×Bool×Int×ak×Int×Bool×Int×Bool×Int×ak×Int×List I×List bW)
 |.inl a=>.inr (0,false,0,[],0,false,v.Kind,false,0,[],0,its,acc++a)
 |.inr p=>.inl (hA (.inr p))
theorem M9(o:path.length<=80000)(q:x.ah.length<=1000)(g:y.ah.length<=1000)(af:v.aj.length=x.ah.length)(e:∀n,n∈x.ah->bK n.bA)
 (h:∀i,i<x.ah.length->iL tw (v.aj.getD i av) (x.ah.getD i aC).aw){its:List I}:∀(k i:Nat) (acc:List bW),i+k=x.ah.length->acc.length<=i->
 ob (path,(i:Int),tw,x,v,y,0,false,0,[],0,false,v.Kind,false,0,[],0,its,acc)=some (Bh v its acc (ix tw y path (x.ah.drop i) (v.aj.drop i)))
 |0,i,acc,l,j=>by
  rw[ob,b',en (by omega:x.ah.length<=i),ix]
  . simp[Bh]
  . intros;simp_all
 |k+1,i,acc,l,j=>by
  have aB:i<x.ah.length:=by omega
  have c:i<v.aj.length:=by omega
  have d:=λacc=>M9 o q g af e h (its:=its) k (i+1) acc (by omega);rw[ob,br,ae (aP aB),aZ];simp only[aS,ao,I.aV,jo];rw[Ef g,eE aB aC,eE c av,ix];have hs:=wY y.ah (x.ah.getD i aC).ad;have m:(l5 y.ah (x.ah.getD i aC).ad).2=(cB y.ah (x.ah.getD i aC).ad).isSome:=by
   rw[<-hs];unfold l5;cases hp y.ah (x.ah.getD i aC).ad<;>rfl
  simp only[ao];rw[m];by_cases a:(cB y.ah (x.ah.getD i aC).ad).isSome=true
  . rw[ae a,ae a,bC,d _ (by omega)]
  rw[al a,al a];by_cases b:(x.ah.getD i aC).ch=true
  . rw[ae b,ae b,Ai (by omega)];simp only[ao];rw[Cv (by simp;omega)];rfl
  rw[al b,al b,ae (aP c),Gc (e _ (bd aB aC))];simp only[ao];cases di (x.ah.getD i aC) (v.aj.getD i av)with
  |true=>
   rw[bw,ae rfl,bC,d _ (by omega)]
  |false=>
   have f:=h i aB;unfold iL at f;rw[ae (show(!false)=true from rfl),al (show ¬false=true by simp),ae (aP c),f];simp only[ao];rw[ae (cO),bC,d _ (by simp;omega)];cases ix tw y path (x.ah.drop (i+1)) (v.aj.drop (i+1))with
   |inr p=>rfl
   |inl us=>simp[Bh,iT]
theorem aaw(b:path.length<=80000)(k5:v.Kind=5)(c:x.ah.length<=1000)(d:y.ah.length<=1000)(af:v.aj.length=x.ah.length)
 (a:∀n,n∈x.ah->bK n.bA)(e:∀n,n∈y.ah->bK n.bA)
 (h:∀i,i<x.ah.length->∀n,n∈y.ah->oX tw tr f path (x.ah.getD i aC).aw n.aw (v.aj.getD i av))
 (k:∀i,i<x.ah.length->iL tw (v.aj.getD i av) (x.ah.getD i aC).aw):
 zg ((⟨tw⟩:aT),x,v,(⟨tr⟩:aT),y,path)=some (hA (w5 tw f x y v path)):=by
 have h0:=NC b c d af a e h y.ah.length 0 [] (by omega) (by simp);have g:pr (path,0,tw,x,v,tr,y,0,false,0,[],0,false,v.Kind,false,0,[],0,[])=_:=h0;rw[zg];simp only[I.aV];rw[g,fT];unfold w5;cases jd f x v path y.ah with
 |inr p=>rfl
 |inl its=>
  have h1:=M9 (tw:=tw) b c d af a k (its:=its) x.ah.length 0 [] (by omega) (by simp);have j:ob (path,0,tw,x,v,y,0,false,0,[],0,false,v.Kind,false,0,[],0,its,[])=_:=h1;simp only[aS,ao,uW,fS,I.aV];rw[j,fT,fT];cases ix tw y path x.ah v.aj with
  |inr p=>rfl
  |inl r=>simp only[ao,Bh,fS,k5,mB,h5,hA,nM,I.aV]
theorem acv(j:path.length<=80000)(k6:v.Kind=6)(e:x.ah.length<=1000)(g:y.ah.length<=1000)(h1:v.aj.length=1){i:Nat}(a:hp x.ah v.ad=some i)
 (h:∀n,n∈y.ah->oX tw tr f path (x.ah.getD i aC).aw n.aw (v.aj.getD 0 av))
 (c:iL tw (v.aj.getD 0 av) (x.ah.getD i aC).aw):
 zo ((⟨tw⟩:aT),x,v,(⟨tr⟩:aT),y,path)=some (hA (uF tw f x y v path)):=by
 obtain⟨d,_,_⟩:=kg a;have b:aG 0 v.aj.length=true:=by rw[h1];rfl
 rw[zo,Ef e,Ef g];unfold uF l5;simp only[aS,ao,I.aV,a];cases bx:hp y.ah v.ad with
 |some k=>
  obtain⟨k1,_,_⟩:=kg bx;simp only[c8,dW];rw[bw,bw,ae (aP d),ae b,ae (aP k1),aZ,aZ,show(0:Int).toNat=0 from rfl,Ai (by omega)];simp only[ao];rw[h _ (bd k1 aC)];cases f (x.ah.getD i aC).aw (v.aj.getD 0 av) (y.ah.getD k aC).aw (path++[v.ad])with
  |inr p=>
   simp only[ao,hA,eU,h5,I.aV];rw[ae trivial]
  |inl u=>
   simp only[ao,hA,c8,h5,I.aV,k6,nM];rw[bw]
 |none=>
  simp only[eU,et];cases y.Open with
  |false=>
   rw[ae (show(!false)=true from rfl),Cv (by omega)];simp only[ao,I.aV,bY,b6,hA]
  |true=>
   unfold iL at c;rw[al (show ¬(!true)=true by simp),ae trivial,ae (aP d),ae b,aZ,show(0:Int).toNat=0 from rfl,c];simp only[ao,b5,hA,k6,nM,I.aV]
def xD(tw tr:List ai)(n:Nat):Prop:=∀{v:I},bK v->wt v<=2147483648->∀{t rt:Int} {path:ar},bX tw true t v->gu tw n t v->0<=rt->rt<tr.length->path.length+n<=50000->
 mM ((⟨tw⟩:aT),t,v,(⟨tr⟩:aT),rt,path)=some (hA (ep tw tr n t v rt path))
theorem aax(dn:c' tw)(cN:c' tr){n:Nat}(ih:xD tw tr n):xD tw tr (n+1):=by
 intro v aE a7 t rt path J au bi W aY;unfold gu at au;obtain⟨⟨z1,bf,bg⟩,Y,Z,G⟩:=au;have SW:=dn.V.hr dn.T;have cz:=cN.V.hr cN.T;have a8:=fD v;obtain⟨⟨aT,aU,ax,az⟩,aa⟩:=(eH _ _ _).1 J;obtain⟨j,rfl⟩:∃j:Nat,t=(j:Int):=⟨t.toNat,by omega⟩
 obtain⟨k,rfl⟩:∃k:Nat,rt=(k:Int):=⟨rt.toNat,by omega⟩
 have ai:j<tw.length:=by omega
 have ak:k<tr.length:=by omega
 have P:=bd ai aK;have u:=bd ak aK;have aX:=az rfl;cases aE with
 |mk _ hs h1 aV aW aA E a6 dc ba bb be=>
 rw[mM,ae (aP ai),Dv];simp only[aS,ao,aZ,I.aV];rw[aZ]at ax aa Y Z G;rw[ae (aP ak)];have ar:=(dn.T _ P).iG;have aw:=(cN.T _ u).iG;generalize a':tw.getD j aK=x at*;generalize M:tr.getD k aK=y at*;have X:∀y,y∈v.aj->wt y<=2147483648:=λy M=>by have:=fx M;omega
 have aQ:∀y,y∈v.ay->wt y<=2147483648:=λy M=>by have:=fx M;omega
 have K:∀{t rt:Int} {q:I},q∈v.aj->bX tw true t q->gu tw n t q->0<=rt->rt<tr.length->oX tw tr (ep tw tr n) path t rt q:=λ{t rt q} a J R a0 a1 step=>ih (E q a) (X q a) J R a0 a1 (by simp;omega);have aJ:∀{t rt:Int} {q:I},q∈v.ay->bX tw true t q->gu tw n t q->0<=rt->rt<tr.length->oX tw tr (ep tw tr n) path t rt q:=λ{t rt q} a J R a0 a1 step=>ih (aA q a) (aQ q a) J R a0 a1 (by simp;omega);have F:=Cv (path:=path) (by omega);have D:(kD path).bind (λr=>some (⟨r.Value,r.Path,r.ck⟩:dJ))=some (hA (.inr path)):=by rw[F];rfl
 by_cases bD:x.Kind=y.Kind
 . rw[al (show ¬(!(decide (x.Kind=y.Kind)))=true by simp[bD])];have N:v.ay=[]->v.aj=[]->mm (ep tw tr n) x y v path= .inl v:=λaN H=>by
    unfold mm;cases v;simp_all [e0,mB,h5]
   rcases aa with h|h|h|h|h|h|h|h|h
   case' inl=>
    obtain⟨a1,a2,a3,a4,a5,d,w⟩:=h;have b:x.Kind=1:=(by omega);have af:jy x y v:=⟨λh=>by omega,λh=>by omega,λh=>by omega⟩
    have C:=uq (tw:=tw) (tr:=tr) (f:=ep tw tr n) (path:=path) (by omega) (x:=x) (y:=y) (v:=v) (by omega) (by omega) (λq a=>by rw[a5]at a;cases a) (λq a=>by rw[d]at a;cases a);rw[rS bD (by omega) af,<-N a5 d];simp only[b,Int.reduceEq,dk,dd,dW,et,bY,b6,b5]
   case' inr.inl=>
    obtain⟨a1,a2,a3,a4,a5,d,w,B,a9⟩:=h;have b:x.Kind=2:=(by omega);by_cases af:y.bE<=v.bc/\v.bc<=y.bH
    case' neg=>
     have g:(bif decide (v.bc<y.bE)then true else decide (y.bH<v.bc))=true:=by
      by_cases c:v.bc<y.bE<;>simp[c];omega
     rw[wH bD (by omega) (show ¬jy x y v fromλh=>af (h.1 b))];simp only[b,g,Int.reduceEq,dk,dd,dW,et,bY,b6,b5];exact D
    case' pos=>
     have g:(bif decide (v.bc<y.bE)then true else decide (y.bH<v.bc))=false:=by
      have ap:¬v.bc<y.bE:=(by omega);have aq:¬y.bH<v.bc:=(by omega);simp[ap,aq]
     have C:=uq (tw:=tw) (tr:=tr) (f:=ep tw tr n) (path:=path) (by omega) (x:=x) (y:=y) (v:=v) (by omega) (by omega) (λq a=>by rw[a5]at a;cases a) (λq a=>by rw[d]at a;cases a);rw[rS bD (by omega) (show jy x y v from⟨λ_=>af,λh=>by omega,λh=>by omega⟩),<-N a5 d];simp only[b,g,Int.reduceEq,dk,dd,dW,et,bY,b6,b5]
   case' inr.inr.inl=>
    obtain⟨a1,a2,a3,a4,a5,d,w,B⟩:=h;have b:x.Kind=3:=(by omega);by_cases af:(v.bl.length:Int)<=y.Max
    case' neg=>
     have g:decide (y.Max<(v.bl.length:Int))=true:=jX (by omega);rw[wH bD (by omega) (show ¬jy x y v fromλh=>af (h.2.1 b))];simp only[b,g,Int.reduceEq,dk,dd,dW,et,bY,b6,b5];exact D
    case' pos=>
     have g:decide (y.Max<(v.bl.length:Int))=false:=uA (by omega);have C:=uq (tw:=tw) (tr:=tr) (f:=ep tw tr n) (path:=path) (by omega) (x:=x) (y:=y) (v:=v) (by omega) (by omega) (λq a=>by rw[a5]at a;cases a) (λq a=>by rw[d]at a;cases a);rw[rS bD (by omega) (show jy x y v from⟨λh=>by omega,λ_=>af,λh=>by omega⟩),<-N a5 d];simp only[b,g,Int.reduceEq,dk,dd,dW,et,bY,b6,b5]
   case' inr.inr.inr.inl=>
    obtain⟨a1,a2,a3,a4,a5,d,w,B⟩:=h;have b:x.Kind=4:=(by omega);obtain⟨r,_,W,aM⟩:=rb (t:=y) v.ad (by have:=(cN.T _ u).1;have:=dA (d' reachBytes);omega);have ag:r.2=true↔∃s,s∈y.bh/\s.ad=v.ad:=by
     rcases aM with⟨q,l,U,_,rfl⟩|⟨q,rfl⟩
     . exact⟨λ_=>⟨_,bd l dK,U⟩,λ_=>rfl⟩
     . constructor
       . intro h;simp at h
       intro a;obtain⟨s,s1,aO⟩:=a;obtain⟨i,E,rfl⟩:=e1 s1;exact absurd aO (by have:=q i E;rwa [dv E]at this)
    by_cases af:(∃s,s∈y.bh/\s.ad=v.ad)\/y.Open=true
    case' neg=>
     have g:(bif (!r.2)then(!y.Open)else false)=true:=by
      cases aD:r.2 with
      |true=>exact absurd (.inl (ag.1 aD)) af
      |false=>
       cases aB:y.Open with
       |true=>exact absurd (.inr aB) af
       |false=>rfl
     rw[wH bD (by omega) (show ¬jy x y v fromλh=>af (h.2.2 b))];simp only[b,W,g,ao,Int.reduceEq,dk,dd,dW,et,bY,b6,b5];exact D
    case' pos=>
     have g:(bif (!r.2)then(!y.Open)else false)=false:=by
      rcases af with af|af
      . rw[ag.2 af];rfl
      . rw[af];cases r.2<;>rfl
     have C:=uq (tw:=tw) (tr:=tr) (f:=ep tw tr n) (path:=path) (by omega) (x:=x) (y:=y) (v:=v) (by omega) (by omega) (λq a=>by rw[a5]at a;cases a) (λq a=>by rw[d]at a;cases a);rw[rS bD (by omega) (show jy x y v from⟨λh=>by omega,λh=>by omega,λ_=>af⟩),<-N a5 d];simp only[b,W,g,ao,Int.reduceEq,dk,dd,dW,et,bY,b6,b5]
   case' inr.inr.inr.inr.inl=>
    obtain⟨a1,a2,a3,a4,a5,d,w,B⟩:=h;have b:x.Kind=5:=(by omega);obtain⟨am,aG⟩:=SW.A _ P (.inl (by omega));obtain⟨aH,aI⟩:=cz.A _ u (.inl (by omega));obtain⟨f1,f2⟩:=hG.1 B
    have ag:=aaw (tw:=tw) (tr:=tr) (f:=ep tw tr n) (path:=path) (by omega) (x:=x) (y:=y) a1 (by omega) (by omega) f1 ar aw (λi L q a=>by
     have o:=bd (by omega:i<v.aj.length) av;obtain⟨z,l⟩:=cN.gT.mem u a;exact K o (f2 i L) (Y b i L) z l) (λi L=>by
     have o:=bd (by omega:i<v.aj.length) av
     exact Ea SW (E _ o) (by have:=X _ o;omega) _ (oK _ _ (f2 i L)))
    rw[Ta bD b];simp only[b,ag,ao,Int.reduceEq,dk,dd,dW,et,bY,b6,b5]
    done
   case' inr.inr.inr.inr.inr.inl=>
    obtain⟨a1,a2,a3,a4,a5,d⟩:=h;have b:x.Kind=6:=(by omega);obtain⟨am,aG⟩:=SW.A _ P (.inr (by omega));obtain⟨aH,aI⟩:=cz.A _ u (.inr (by omega));cases bx:cB x.ah v.ad with
    |none=>rw[bx]at d;cases d.2.1
    |some m=>
     rw[bx]at d;obtain⟨b1,b2,b3⟩:=d;have Q:=wY x.ah v.ad;rw[bx]at Q;cases O:hp x.ah v.ad with
     |none=>rw[O]at Q;cases Q
     |some i=>
     obtain⟨d1,d2,_⟩:=kg O;obtain⟨d3,d4⟩:=kf bx;have em:x.ah.getD i aC=m:=rP am (bd d1 aC) d3 (by rw[d2,d4]);have o:=bd (by omega:0<v.aj.length) av;have ab:=cI.1 b3 _ o
     have ag:=acv (tw:=tw) (tr:=tr) (f:=ep tw tr n) (path:=path) (by omega) (x:=x) (y:=y) a1 (by omega) (by omega) b2 O (λq a=>by
      obtain⟨z,l⟩:=cN.gT.mem u a;rw[em]
      exact K o ab (Z b _ bx _ o) z l) (by rw[em];exact Ea SW (E _ o) (by have:=X _ o;omega) _ (oK _ _ ab))
     rw[Tb bD b];simp only[b,ag,ao,Int.reduceEq,dk,dd,dW,et,bY,b6,b5]
    done
   case' inr.inr.inr.inr.inr.inr.inl=>
    obtain⟨a1,a2,a3,a4,a5,d,w,B,a9⟩:=h;have b:x.Kind=7:=(by omega);obtain⟨z,l⟩:=cN.gT.elem u (by omega);rw[Tc bD b];unfold AI;by_cases af:(v.aj.length:Int)<=y.Max
    case' neg=>
     have g:decide (y.Max<(v.aj.length:Int))=true:=jX (by omega);rw[al af];simp only[b,g,Int.reduceEq,dk,dd,dW,et,bY,b6,b5];exact D
    case' pos=>
     have g:decide (y.Max<(v.aj.length:Int))=false:=uA (by omega);have C:=uq (tw:=tw) (tr:=tr) (f:=ep tw tr n) (path:=path) (by omega) (x:=x) (y:=y) (v:=v) (by omega) (by omega) (λq a=>by rw[d]at a;cases a) (λq a=>K a (cI.1 a9 q a) ((G (by omega)).1 q a) z l);have e:(if(v.aj.length:Int)<=y.Max then h5 (λS=>(⟨7,false,0,[],0,[],S,[]⟩:I)) (e0 (ep tw tr n) path x.aF y.aF 0 v.aj)else .inr path)=mm (ep tw tr n) x y v path:=by
      unfold mm;rw[ae af,a1,a2,a3,a4,a5,d,w];rfl
     rw[e];simp only[b,g,Int.reduceEq,dk,dd,dW,et,bY,b6,b5]
   case' inr.inr.inr.inr.inr.inr.inr.inl=>
    obtain⟨a1,a2,a3,a4,a5,d,w,B,a9,an,aR⟩:=h;have b:x.Kind=8:=(by omega);obtain⟨z,l⟩:=cN.gT.elem u (by omega);obtain⟨U,aL⟩:=cN.gT.key u (by omega);rw[Td bD b];unfold AJ;by_cases af:(v.aj.length:Int)<=y.Max
    case' neg=>
     have g:decide (y.Max<(v.aj.length:Int))=true:=jX (by omega);rw[al af];simp only[b,g,Int.reduceEq,dk,dd,dW,et,bY,b6,b5];exact D
    case' pos=>
     have g:decide (y.Max<(v.aj.length:Int))=false:=uA (by omega);have C:=uq (tw:=tw) (tr:=tr) (f:=ep tw tr n) (path:=path) (by omega) (x:=x) (y:=y) (v:=v) (by omega) (by omega) (λq a=>aJ a (cI.1 a9 q a) ((G (by omega)).2 q a) U aL) (λq a=>K a (cI.1 an q a) ((G (by omega)).1 q a) z l);have e:(if(v.aj.length:Int)<=y.Max then mB (λks=>h5 (λS=>(⟨8,false,0,[],0,ks,S,[]⟩:I)) (e0 (ep tw tr n) path x.aF y.aF 0 v.aj)) (e0 (ep tw tr n) path x.Key y.Key 0 v.ay)else .inr path)=mm (ep tw tr n) x y v path:=by
      unfold mm;rw[ae af,a1,a2,a3,a4,a5,d]
     rw[e];simp only[b,g,Int.reduceEq,dk,dd,dW,et,bY,b6,b5]
   case' inr.inr.inr.inr.inr.inr.inr.inr=>
    obtain⟨a1,a2,a3,a4,a5,d,w,B,a9⟩:=h;have b:x.Kind=9:=(by omega);obtain⟨z,l⟩:=cN.gT.elem u (by omega);have C:=uq (tw:=tw) (tr:=tr) (f:=ep tw tr n) (path:=path) (by omega) (x:=x) (y:=y) (v:=v) (by omega) (by omega) (λq a=>by rw[d]at a;cases a) (λq a=>K a (cI.1 a9 q a) ((G (by omega)).1 q a) z l);have e:AK (ep tw tr n) x y v path=mm (ep tw tr n) x y v path:=by
     unfold mm AK;rw[a1,a2,a3,a4,a5,d,w];rfl
    rw[Te bD b,e];simp only[b,Int.reduceEq,dk,dd,dW,et,bY,b6,b5]
   all_goals
    rcases C with⟨p,aN,H⟩|⟨ks,H,⟨p,aN,dx⟩|⟨us,aN,dx⟩⟩
    . rw[aN,H];rfl
    . rw[aN,H];simp only[ao];rw[dx];rfl
    . rw[aN,H];simp only[ao];rw[dx];simp only[ao,hA,nM,I.aV]
 . rw[ae (show(!(decide (x.Kind=y.Kind)))=true by simp[bD]),PN bD,D]
theorem aay:xD tw tr 0:=by
 unfold xD;intro v _ _ _ _ _ _ h;cases h
theorem M'(dn:c' tw)(cN:c' tr):∀n,xD tw tr n
 |0=>aay
 |n+1=>aax dn cN (M' dn cN n)
end
def xB(x:fu):Prop:=oV x/\x.c0.length*3<=reachBytes
def ku(aJ:List fu):Prop:=aJ.length*32<=reachBytes/\∀x,x∈aJ->xB x
def nu(c:iY):Prop:=de c.Kind/\de c.Node/\de c.A/\de c.B
theorem ku.set(h:ku aJ)(j:Nat){x:fu}(c:xB x):ku (aJ.set j x):=by
 refine⟨by rw[iu];exact h.1,λy a=>?_⟩;rcases Ci a with a|rfl
 . exact h.2 y a
 . exact c
theorem mZ(a:Int):de (IntKind.wrap .u8 a):=by
 have:IntKind.wrap .u8 a=a%256:=by rfl
 unfold de;omega
theorem Gf{n:Nat}(h:n*3<=reachBytes):room 3 n=true:=by
 unfold reachBytes at h;unfold room hZ dY;simp only[c5,eT];omega
theorem ah1{n:Nat}(h:n*32<=reachBytes):room 32 n=true:=by
 unfold reachBytes at h;unfold room hZ dY;simp only[c5,eT];omega
theorem adN{L:List iY}(R:L.length<=reachBytes)(F:∀c,c∈L->nu c){i:Nat}(K:i<L.length)(h:ku aJ)(aH:0<aJ.length):
 ∃I,ku I/\I.length=aJ.length/\hB (L,(i:Int),aJ)=hB (L,((i+1:Nat):Int),I):=by
 obtain⟨O,J,n,v⟩:=F _ (bd K nG);have ag:=dA R;unfold de at O J n v;have X:aJ.length<9223372036854775807:=by have:=h.1;unfold reachBytes at this;omega
 obtain⟨j,U,o⟩:∃j:Nat,b7 (bT .i64 (L.getD i nG).Node) (aJ.length:Int)=(j:Int)/\j<aJ.length:=by
  have e:b7 (bT .i64 (L.getD i nG).Node) (aJ.length:Int)=(L.getD i nG).Node%(aJ.length:Int):=by
   rw[ly ⟨by omega,by omega⟩,hj J.1]
  have h0:=mi (L.getD i nG).Node (by omega:(aJ.length:Int)≠0);have h1:=ma (L.getD i nG).Node (by omega:(0:Int)<aJ.length);exact⟨((L.getD i nG).Node%(aJ.length:Int)).toNat,by rw[e];omega,by omega⟩
 obtain⟨⟨dc,t,k,m,fB,aa⟩,M⟩:=h.2 _ (bd o eQ);have x:∀z:Nat,z<(aJ.getD j eQ).c0.length->de ((aJ.getD j eQ).c0.getD z iP).ad/\de ((aJ.getD j eQ).c0.getD z iP).aw/\de ((aJ.getD j eQ).c0.getD z iP).ha:=λz G=>fB _ (bd G _)
 rw[hB,ae (by
  have a:(i:Int)<(L.length:Int):=by omega
  simp[a,aH]),ae (aP K),aZ]
 simp only[aS,ao];rw[ae (show(!(decide ((aJ.length:Int)=0)))=true from by rw[uy];exact uA (by omega)),U,ae (aP o),aZ,ae (jX o),fS,ae (Gf M),ae (jX o)];simp only[dd,b5,o];have aN:aM .i64 (i:Int) 1=((i+1:Nat):Int):=bC;rw[aN];generalize Y:aJ.getD j eQ=p at*;generalize W:L.getD i nG=c at*;have g:∀{a b D:Int} {l:List lR},de a->de b->de D->(∀q,q∈l->de q.ad/\de q.aw/\de q.ha)->l.length<=p.c0.length+8/\(l.length<=p.c0.length\/l.length<=8)->xB ⟨p.Kind,a,b,D,l⟩:=λ{a b D l} S T F af aH=>⟨⟨dc,S,T,F,af,by show l.length<=_;unfold reachBytes at*;omega⟩,by show l.length*3<=_;unfold reachBytes at*;omega⟩
 have gs:∀q:fu,(aJ.set j q).getD j bu=q:=λq=>by rw[dv (by rw[iu];exact o)];simp
 have u:∀{a:Int},0<=a/\a<=255->de a:=λh=>h;have Z:(p.c0.length:Int)<9223372036854775807:=by unfold reachBytes at M;omega
 have r:∀{l:List lR},(∀q,q∈l->de q.ad/\de q.aw/\de q.ha)->l.length<=p.c0.length+8/\(l.length<=p.c0.length\/l.length<=8)->xB ⟨p.Kind,p.A,p.B,p.C,l⟩:=λ{l} h1 Q=>g t k m h1 Q;have self:p.c0.length<=p.c0.length+8/\(p.c0.length<=p.c0.length\/p.c0.length<=8):=by omega
 by_cases af:0<p.c0.length
 . have y:(0:Int)<(p.c0.length:Int):=(by omega);obtain⟨z,G,f⟩:∃z:Nat,b7 (bT .i64 c.A) (p.c0.length:Int)=(z:Int)/\z<p.c0.length:=by
    have e:b7 (bT .i64 c.A) (p.c0.length:Int)=c.A%(p.c0.length:Int):=by
     rw[ly ⟨by omega,by omega⟩,hj n.1]
    have h0:=mi c.A (by omega:(p.c0.length:Int)≠0);have h1:=ma c.A y;exact⟨(c.A%(p.c0.length:Int)).toNat,by rw[e];omega,by omega⟩
   simp only[y,G,dd,b5,gs,List.set_set];rw[ae (show(!(decide ((p.c0.length:Int)=0)))=true from by rw[uy];exact uA (by omega))];by_cases s:b7 c.Kind 8=0
   . simp only[s,dd,b5];exact⟨_,h.set j (g (mZ _) k m fB self),iu,rfl⟩
   by_cases k1:b7 c.Kind 8=1
   . simp only[k1,dd,dk,Int.reduceEq,bY,b5,b6];exact⟨_,h.set j (g t (mZ _) m fB self),iu,rfl⟩
   by_cases k2:b7 c.Kind 8=2
   . have H:0<=b7 c.A 6:=by rw[hj n.1];omega
     simp only[k2,H,dd,dk,Int.reduceEq,bY,b5,b6];exact⟨_,h.set j (g (mZ _) k m fB self),iu,rfl⟩
   by_cases k3:b7 c.Kind 8=3
   . simp only[k3,dd,dk,Int.reduceEq,bY,b5,b6];exact⟨_,h.set j (g t k (mZ _) fB self),iu,rfl⟩
   by_cases k4:b7 c.Kind 8=4
   . by_cases k8:(p.c0.length:Int)<8
     . simp only[k4,k8,dd,dk,Int.reduceEq,bY,b5,b6];rw[ae (Gf (by rw[cq];unfold reachBytes;simp;omega))];refine⟨_,h.set j (r (λq d=>?_) (by rw[cq];simp;omega)),iu,rfl⟩;rcases hQ.1 d with d|d
       . exact fB q d
       . rw[oC.1 d];exact⟨u n,u v,mZ _⟩
     . simp only[k4,k8,dd,dk,Int.reduceEq,bY,b5,b6];exact⟨_,h.set j (r fB self),iu,rfl⟩
   by_cases k5:b7 c.Kind 8=5
   . simp only[k5,dd,dk,Int.reduceEq,bY,b5,b6];have P:aM .i64 (z:Int) 1=((z+1:Nat):Int):=bC;rw[P,ae (ij.2 (by omega)),ae (ij.2 (by omega)),aZ,aZ,aZ,br];refine⟨_,h.set j (r (λq d=>?_) (by rw[cq,oF,oF,mc];omega)),iu,rfl⟩;rcases hQ.1 d with d|d
     . exact fB q (r0 d)
     . exact fB q (F2 (r0 d))
   have N:∀{w:lR},de w.ad/\de w.aw/\de w.ha->xB ⟨p.Kind,p.A,p.B,p.C,p.c0.set z w⟩:=λ{w} V=>r (λq d=>by
    rcases Ci d with d|rfl
    . exact fB q d
    . exact V) (by rw[iu];exact self)
   by_cases k6:b7 c.Kind 8=6
   . simp only[k6,dd,dk,Int.reduceEq,bY,b5,b6];rw[ae (aP f),aZ,ae (jX f)];exact⟨_,h.set j (N (w:=⟨(p.c0.getD z iP).ad,(p.c0.getD z iP).aw,c.B⟩) ⟨(x z f).1,(x z f).2.1,u v⟩),iu,rfl⟩
   . simp only[s,k1,k2,k3,k4,k5,k6,dk,bY,b6];rw[ae (aP f),aZ,ae (jX f),ae (aP f),ae (jX f)];exact⟨_,h.set j (N (w:=⟨(p.c0.getD z iP).ad,aM .u8 (p.c0.getD z iP).aw c.B,(p.c0.getD z iP).ha⟩) ⟨(x z f).1,mZ _,(x z f).2.2⟩),iu,rfl⟩
 . have y:¬(0:Int)<(p.c0.length:Int):=(by omega);simp only[y,dk,bY,b6,gs,List.set_set];by_cases s:b7 c.Kind 8=0
   . simp only[s,dd,b5];exact⟨_,h.set j (g (mZ _) k m fB self),iu,rfl⟩
   by_cases k1:b7 c.Kind 8=1
   . simp only[k1,dd,dk,Int.reduceEq,bY,b5,b6];exact⟨_,h.set j (g t (mZ _) m fB self),iu,rfl⟩
   by_cases k2:b7 c.Kind 8=2
   . have H:0<=b7 c.A 6:=by rw[hj n.1];omega
     simp only[k2,H,dd,dk,Int.reduceEq,bY,b5,b6];exact⟨_,h.set j (g (mZ _) k m fB self),iu,rfl⟩
   by_cases k3:b7 c.Kind 8=3
   . simp only[k3,dd,dk,Int.reduceEq,bY,b5,b6];exact⟨_,h.set j (g t k (mZ _) fB self),iu,rfl⟩
   by_cases k4:b7 c.Kind 8=4
   . have k8:(p.c0.length:Int)<8:=(by omega);simp only[k4,k8,dd,dk,Int.reduceEq,bY,b5,b6];rw[ae (Gf (by rw[cq];unfold reachBytes;simp;omega))];refine⟨_,h.set j (r (λq d=>?_) (by rw[cq];simp;omega)),iu,rfl⟩;rcases hQ.1 d with d|d
     . exact fB q d
     . rw[oC.1 d];exact⟨u n,u v,mZ _⟩
   have E:=h.set j (r fB self);by_cases k5:b7 c.Kind 8=5
   . simp only[k5,dd,dk,Int.reduceEq,bY,b5,b6];exact⟨_,E,iu,rfl⟩
   by_cases k6:b7 c.Kind 8=6
   . simp only[k6,dd,dk,Int.reduceEq,bY,b5,b6];exact⟨_,E,iu,rfl⟩
   . simp only[s,k1,k2,k3,k4,k5,k6,dk,bY,b6];exact⟨_,E,iu,rfl⟩
theorem PR{L:List iY}(e:L.length<=reachBytes)(f:∀c,c∈L->nu c):∀(k i:Nat) {aJ:List fu},i+k=L.length->ku aJ->∃d,ku d/\d.length=aJ.length/\hB (L,(i:Int),aJ)=some d
 |0,i,aJ,l,h=>⟨aJ,h,rfl,by
  have a:¬(i:Int)<(L.length:Int):=by omega
  rw[hB,al (by simp[a])]⟩
 |k+1,i,aJ,l,h=>by
  by_cases aH:0<aJ.length
  . obtain⟨d,h1,j,g⟩:=adN e f (by omega:i<L.length) h aH;rw[g,<-j];exact PR e f k (i+1) (by omega) h1
  . refine⟨aJ,h,rfl,?_⟩;have b:decide ((0:Int)<(aJ.length:Int))=false:=uA (by omega);rw[hB,b,al];cases decide ((i:Int)<(L.length:Int))<;>simp
theorem ku.xK{d:ej}(h:ku d.dI):uP d:=⟨by have:=h.1;unfold reachBytes at*;omega,λx a=>(h.2 x a).1⟩
theorem IB{d:ej}(h:ku d.dI){L:List iY}(i:L.length<=reachBytes)(j:∀c,c∈L->nu c):∃a,ku a.dI/\a.dI.length=d.dI.length/\vp (d,L)=some a:=by
 obtain⟨b,h1,g,e⟩:=PR i j L.length 0 (by omega) h;have f:hB (L,0,d.dI)=some b:=e;refine⟨⟨b⟩,h1,g,?_⟩;rw[vp,fS,ae (ah1 h.1),f];rfl
theorem adO(h:WF cy ⟨.slice (.nm vx),aJ⟩):ku aJ:=by
 obtain⟨a,b,c⟩:=tg (t:= .nm vx) h;have D:=N9 (d:=⟨aJ⟩) h;refine⟨b,λx e=>⟨D.2 x e,?_⟩⟩;exact(tg (t:= .nm CE) (c x e ⟨.slice (.nm CE),x.c0⟩ (.tail _ (.tail _ (.tail _ (.tail _ (.head _))))))).2.1
theorem A3{n:Int}(h:WF cy ⟨.int .u8,n⟩):de n:=by
 cases h with
 |int k n h=>
  simp[Lit.wf,IntKind.min,IntKind.max,IntKind.bits,IntKind.signed]at h;unfold de;omega
theorem IL{d:lf}(f:uP d.S)(h:qc d=some (⟨ts⟩,t,v,w,true)):ts.length=d.S.dI.length:=by
 rw[qc]at h;rcases of_eq f with e|⟨l,e,_,_,c,_⟩
 . rw[e]at h;simp at h
 . rw[e]at h;simp only[aS,ao,c8,bY,b6]at h;split at h
   . cases a:yT ((⟨l⟩:aT),b7 (bT .i64 d.T) (l.length:Int),d.C)with
     |none=>rw[a]at h;cases h
     |some x=>
      rw[a]at h;simp only[ao]at h;cases b:yx ((⟨l⟩:aT),b7 (bT .i64 d.T) (l.length:Int),d.C)with
      |none=>rw[b]at h;cases h
      |some y=>
       rw[b]at h;simp only[ao,dG,dV,aT.mk.injEq]at h;rw[<-h.1,c]
   . cases h
structure xv (c:mN):Prop where
 d:E3 c.D
 n:ku c.D.S.dI
 l:c.L.length<=reachBytes
 c:∀x,x∈c.L->nu x
structure xw (tw tr:List ai)(t:Int)(v:I):Prop where
 W:c' tw
 R:c' tr
 t0:0<=t
 t1:t<tw.length
 t2:t<tr.length
 f:bX tw true t v
 o:bK v
 w:wt v<=3000
theorem xw.z{tw tr:List ai}{t:Int}{v:I}(C:xw tw tr t v):gu tw 3000 t v:=oH C.W 3000 C.o C.f (.inr C.w) (.inr C.w)
theorem xw.u{tw tr:List ai}{t:Int}{v:I}(C:xw tw tr t v):wt v<=2147483648:=gp C.w (by decide)
theorem ady{c:mN}(h:xv c):(∃w r t v,y2 c=some (w,r,t,v,false))\/∃tw tr t v,(y2 c=some (⟨tw⟩,⟨tr⟩,t,v,true)/\xw tw tr t v)/\∃w,qc c.D=some (⟨tw⟩,t,v,w,true)/\bX tw false t w/\bK w:=by
 obtain⟨m,d1,d3,d2⟩:=IB h.n h.l h.c;rw[y2];rcases ahK h.d with⟨s,t,v,w,e⟩|⟨ts,t,v,w,e,H,ht,⟨v1,g,v3⟩,j,k,_⟩
 . rw[e];simp only[aS,ao];rw[d2];simp only[ao];rcases Cm d1.xK with a|⟨l,a,_⟩<;>rw[a]<;>exact .inl ⟨_,_,_,_,rfl⟩
 . have af:=IL h.d.s e;rw[e];simp only[aS,ao];rw[d2];simp only[ao];rcases of_eq d1.xK with a|⟨l,a,_,_,l2,_⟩
   . rw[a];exact .inl ⟨_,_,_,_,rfl⟩
   . rcases Cm d1.xK with f|⟨i,f,cN⟩
     . rw[a]at f;cases f
     . rw[a]at f;have:l=i:=by injection f with q;injection q with q _;injection q
       subst this;rw[a];simp only[ao,c8,dW];cases o:decide (4<(c.L.length:Int))with
       |true=>exact .inl ⟨_,_,_,_,rfl⟩
       |false=>
        obtain⟨b,b1,b2⟩:=Hu g;simp only[eU,b5,dW,I.aV];rw[b1];cases b with
        |false=>exact .inl ⟨_,_,_,_,rfl⟩
        |true=>exact .inr ⟨ts,l,t,v,⟨rfl,H,cN,ht.1,ht.2,by omega,v1,g,b2 rfl⟩,w,rfl,j,k⟩
section
variable {tw tr:List ai}{t rt:Int}{v:I}
theorem acw(dn:c' tw)(cN:c' tr)(j:bK v)(d:bX tw true t v)(m:0<=rt)(n:rt<tr.length):Cz ((⟨tw⟩:aT),t,v,(⟨tr⟩:aT),rt)=some 0:=by
 obtain⟨⟨g,i,_⟩,_⟩:=(eH _ _ _).1 d;have c:∀{ts:List ai} {t:Int},c' ts->0<=t->t<ts.length->y7 ((⟨ts⟩:aT),t)=some 0:=λ{ts t} H a b=>by
  rw[y7,(pR H.T H.V).1];simp only[aS,ao];have e:¬t<0:=by omega
  have f:¬(ts.length:Int)<=t:=by omega
  rw[bw,al (by simp[e,f])]
 obtain⟨r,k,l⟩:=NU (dn.V.hr dn.T) j t true;have ag:=l.2 d;subst ag;rw[Cz];simp only[I.aV];rw[c dn g i];simp only[aS,ao];rw[bw,c cN m n];simp only[ao];rw[bw,Hs];simp only[I.aV];rw[k];rfl
theorem acx(dn:c' tw)(cN:c' tr)(k:bK v)(e:bX tw true t v)(o:0<=rt)(p:rt<tr.length):CI ((⟨tw⟩:aT),t,v,(⟨tr⟩:aT),rt)=some 0:=by
 obtain⟨⟨i,j,_⟩,_⟩:=(eH _ _ _).1 e;have d:∀{ts:List ai} {t:Int},c' ts->0<=t->t<ts.length->jJ ((⟨ts⟩:aT),t)=some 0:=λ{ts t} H a b=>by
  rw[jJ,(pR H.T H.V).2];simp only[aS,ao];have f:¬t<0:=by omega
  have g:¬(ts.length:Int)<=t:=by omega
  rw[bw,al (by simp[f,g])]
 have c:=dn.V.hr dn.T;obtain⟨q,l,m⟩:=zB (by have:=c.n;omega) dn.T c.K k t true;have ag:=m.2 e;subst ag;rw[CI];simp only[I.aV];rw[d dn i j];simp only[aS,ao];rw[bw,d cN o p];simp only[ao];rw[bw,vB];simp only[I.aV];rw[l];rfl
def lJ:I ⊕ ar->I×Int
 |.inl u=>(u,0)
 |.inr _=>(⟨0,false,0,[],0,[],[],[]⟩,12)
noncomputable def uJ (tw tr:List ai)(t:Int)(v:I)(rt:Int):I ⊕ ar:=ep tw tr 3000 t v rt []
theorem YO(dn:c' tw)(cN:c' tr)(b:bK v)(a:bX tw true t v)(e:gu tw 3000 t v)(c:0<=rt)(d:rt<tr.length):yY ((⟨tw⟩:aT),t,v,(⟨tr⟩:aT),rt)=some (lJ (uJ tw tr t v rt)):=by
 have h:=NA dn cN 3000 b [] a e c d (path:=[]) (by simp);rw[yY];simp only[I.aV];rw[acw dn cN b a c d];simp only[aS,ao];rw[bw,h];unfold uJ;cases ep tw tr 3000 t v rt []<;>rfl
theorem ZP(dn:c' tw)(cN:c' tr)(b:bK v)(e:wt v<=2147483648)(a:bX tw true t v)(f:gu tw 3000 t v)(c:0<=rt)(d:rt<tr.length):ye ((⟨tw⟩:aT),t,v,(⟨tr⟩:aT),rt)=some (lJ (uJ tw tr t v rt)):=by
 have h:=M' dn cN 3000 b e a f c d (path:=[]) (by simp);rw[ye];simp only[I.aV];rw[acx dn cN b a c d];simp only[aS,ao];rw[bw,h];unfold uJ;cases ep tw tr 3000 t v rt []<;>rfl
end
theorem ahz{c:mN}(h:∀d,d∈cy.oa Uh c->WF cy d):xv c:=by
 have i:=h ⟨.slice (.nm vx),c.D.S.dI⟩ (.head _);have j:=h ⟨.slice (.nm C6),c.L⟩ (.tail _ (.tail _ (.tail _ (.head _))));obtain⟨a,_,e⟩:=tg (t:= .nm C6) j;have g:∀{n:Int},WF cy ⟨.int .u8,n⟩->de n:=A3;refine⟨adk λd b=>?_,adO i,a,λx k=>?_⟩
 . refine h d ?_;cases b with
   |head=>exact .head _
   |tail _ b=>cases b with
    |head=>exact .tail _ (.head _)
    |tail _ b=>cases b with
     |head=>exact .tail _ (.tail _ (.head _))
     |tail _ b=>cases b
 . have f:=e x k;exact⟨g (f ⟨.int .u8,x.Kind⟩ (.head _)),g (f ⟨.int .u8,x.Node⟩ (.tail _ (.head _))),g (f ⟨.int .u8,x.A⟩ (.tail _ (.tail _ (.head _)))),g (f ⟨.int .u8,x.B⟩ (.tail _ (.tail _ (.tail _ (.head _)))))⟩
theorem EP{f:α->Option c}(d:α)(e:c):∀{l:List α} {m:List c},m.length=l.length->(∀j,j<l.length->f (l.getD j d)=some (m.getD j e))->cg f l=some m
 |[],[],_,_=>rfl
 |[],b::m,h,_=>by simp at h
 |a::l,[],h,_=>by simp at h
 |a::l,b::m,h,g=>by
  have h0:f a=some b:=g 0 (by simp);rw[vU,h0,EP d e (l:=l) (m:=m) (by simpa using h) λj i=>g (j+1) (by simpa using i)];rfl
theorem Na:∀{a b:List ak},a.length=b.length->e5 (mo a b)=a/\fh (mo a b)=b
 |[],[],_=>⟨rfl,rfl⟩
 |[],_::_,h=>by simp at h
 |_::_,[],h=>by simp at h
 |x::a,y::b,h=>by
  obtain⟨h1,c⟩:=Na (a:=a) (b:=b) (by simpa using h);exact⟨by rw[mo,e5,h1],by rw[mo,fh,c]⟩
theorem ahP{m:aU}:di m v=true↔m.bU=true/\m.bA=v:=by unfold di;simp
theorem Nb:∀{F:List cT} {f:cT},F.Pairwise (λa b=>a.ad<b.ad)->f∈F->F.find? (λg=>decide (g.ad=f.ad))=some f
 |g::F,f,d,c=>by
  rw[h6]at d;rw[List.find?_cons];rcases eJ.1 c with rfl|c
  . simp
  . have:=d.1 f c;have e:decide (g.ad=f.ad)=false:=uA (by omega);rw[e];exact Nb d.2 c
section
variable {ts:List ai}
theorem acy{its:List I}{r:List bW}(c:gQ x.ah)(ag:jR x.ah r)(af:its.length=x.ah.length){f:qy}
 (A:∀j,j<x.ah.length->di (x.ah.getD j aC) (its.getD j av)=false->f (x.ah.getD j aC).aw (bo ts (x.ah.getD j aC).aw (its.getD j av))=some (its.getD j av))
 (B:((gX fm (fe ts x.ah its r)).flatMap Fd.text).length<=90000):
 nk f x ((gX fm (fe ts x.ah its r)).flatMap Fd.text)=some ⟨5,false,0,[],0,[],its,r⟩:=by
 have t:=HO (wu (ts:=ts) (l:=its) c ag) (HY c ag);have n:∀g,g∈gX fm (fe ts x.ah its r)↔g∈fe ts x.ah its r:=λg=>(kL fm _).mem_iff;have D:∀g,g∈gX fm (fe ts x.ah its r)->1<=g.id/\g.id<=1000:=λg aq=>JG c ag ((n g).1 aq);unfold nk;rw[adn t D B];generalize gX fm (fe ts x.ah its r)=L at*;have bx:(L.map o9).Pairwise (λa b=>a.ad<b.ad):=oD.2 (t.imp λ{a b} h=>by show(a.id:Int)<(b.id:Int);omega);have p:∀g,g∈L.map o9->(∃j,j<x.ah.length/\di (x.ah.getD j aC) (its.getD j av)=false/\g=⟨(x.ah.getD j aC).ad,(x.ah.getD j aC).ch,bo ts (x.ah.getD j aC).aw (its.getD j av)⟩)\/∃a,a∈r/\g=⟨a.ad,false,a.Data⟩:=λg aq=>by
  obtain⟨e,aN,rfl⟩:=e'.1 aq;have:=(n e).1 aN;unfold fe at this;rcases hQ.1 this with h|h
  . obtain⟨j,m,u,G,rfl⟩:=Du h;have d:=c.2 _ (bd m aC);unfold cm at d;refine .inl ⟨j,m,G,?_⟩;show(⟨(((x.ah.getD j aC).ad.toNat:Nat):Int),_,_⟩:cT)=_;rw[yA (by omega)]
  . obtain⟨a,a1,rfl⟩:=e'.1 h;have d:=(ag.2 a a1).1;unfold cm at d;refine .inr ⟨a,a1,?_⟩;show(⟨((a.ad.toNat:Nat):Int),_,_⟩:cT)=_;rw[yA (by omega)];rfl
 have K:∀j,j<x.ah.length->di (x.ah.getD j aC) (its.getD j av)=false->(⟨(x.ah.getD j aC).ad,(x.ah.getD j aC).ch,bo ts (x.ah.getD j aC).aw (its.getD j av)⟩:cT)∈L.map o9:=λj m u=>by
  have d:=c.2 _ (bd m aC);unfold cm at d;refine e'.2 ⟨_,(n _).2 (B1 _ (I9 m (by omega) u)),?_⟩;show(⟨(((x.ah.getD j aC).ad.toNat:Nat):Int),_,_⟩:cT)=_;rw[yA (by omega)]
 have M:∀a,a∈r->(⟨a.ad,false,a.Data⟩:cT)∈L.map o9:=λa a1=>by
  have d:=(ag.2 a a1).1;unfold cm at d;refine e'.2 ⟨jY a,(n _).2 (List.mem_append_right _ (e'.2 ⟨a,a1,rfl⟩)),?_⟩;show(⟨((a.ad.toNat:Nat):Int),_,_⟩:cT)=_;rw[yA (by omega)];rfl
 generalize L.map o9=F at*;have q:∀j,j<x.ah.length->cB x.ah (x.ah.getD j aC).ad=some (x.ah.getD j aC):=λj m=>NX c (bd m aC);have E:cg (eg f F) x.ah=some its:=EP aC av af λj i=>by
  unfold eg;cases o:di (x.ah.getD j aC) (its.getD j av)with
  |false=>
   have:=Nb bx (K j i o);rw[this];exact A j i o
  |true=>
   have aH:F.find? (λg=>decide (g.ad=(x.ah.getD j aC).ad))=none:=by
    rw[yD];intro g aq;simp only[eT];intro e;rcases p g aq with⟨k,k1,k2,rfl⟩|⟨a,a1,rfl⟩
    . have em:=rP c (bd k1 aC) (bd i aC) e;have v:k=j:=by
       rw[dv k1,dv i]at em;rcases Nat.lt_trichotomy k j with h|h|h
       . have:=wN.1 c.1 k j k1 i h;rw[em]at this;omega
       . exact h
       . have:=wN.1 c.1 j k i k1 h;rw[em]at this;omega
      subst v;rw[o]at k2;cases k2
    . have:=(ag.2 a a1).2;rw[show a.ad=(x.ah.getD j aC).ad from e,q j i]at this;cases this
   rw[aH];obtain⟨H,J⟩:=ahP.1 o;simp only;rw[ae H,J]
 have z:F.all (fU x)=true:=by
  rw[fK];intro g aq;unfold fU;rcases p g aq with⟨k,k1,k2,rfl⟩|⟨a,a1,rfl⟩
  . rw[q k k1];rfl
  . simp
 have C:fa x F=r:=by
  unfold fa;refine aeo (oD.2 ((bx.filter _).imp λ{a b} h=>h)) ag.1 λa=>?_;constructor
  . intro h;obtain⟨g,w,rfl⟩:=e'.1 h;obtain⟨y,s⟩:=r2.1 w;rcases p g y with⟨k,k1,k2,rfl⟩|⟨a,a1,rfl⟩
    . rw[q k k1]at s;simp at s
    . exact a1
  . intro h;refine e'.2 ⟨⟨a.ad,false,a.Data⟩,r2.2 ⟨M a h,?_⟩,rfl⟩;rw[(ag.2 a h).2];rfl
 simp only;rw[E];simp only;rw[ae z,C]
theorem Nc(H:iM ts)(aQ:bK v):∀{t:Int} {m:Nat},(bo ts t v).length<=90000->bX ts false t v->dH ts t v<=m->cY ts m t (bo ts t v)=some v:=by
 induction aQ with
 |mk v hs h1 a8 a' M be bf dc ab bi bj aS K=>
 intro t m C aI F;have aO:=th (ts:=ts) t v;obtain⟨m,rfl⟩:∃k,m=k+1:=⟨m-1,by omega⟩
 have r:=pW (ts:=ts) t v;have N:∀q,q∈v.ay->(if v.ay=[]then 0 else 1)=1:=λq b=>al λe=>by rw[e]at b;cases b
 generalize (if v.ay=[]then 0 else 1)=kk at r N;obtain⟨⟨a0,a6,a7,_⟩,z⟩:=(eH _ _ _).1 aI;have p:t.toNat<ts.length:=by omega
 have G:=bd p aK;have aq:=λh=>xk (ts:=ts) (t:=t) (v:=v) h;have ar:=λh=>xl (ts:=ts) (t:=t) (v:=v) h;have au:=λh=>xm (ts:=ts) (t:=t) (v:=v) h;have ax:=λh=>xn (ts:=ts) (t:=t) (v:=v) h;have az:=λh=>qt (ts:=ts) (t:=t) (v:=v) h;have aA:=λh=>oL (ts:=ts) (t:=t) (v:=v) h;have aB:=λh=>oM (ts:=ts) (t:=t) (v:=v) h;have aC:=λh=>oN (ts:=ts) (t:=t) (v:=v) h;have aD:=λh=>oO (ts:=ts) (t:=t) (v:=v) h;rw[tJ];generalize bg:ts.getD t.toNat aK=x at*;have an:x.Kind=5->∀c,c<=fc ts x.ah v.aj->c<=m:=λh c z=>by rw[ae h]at r;exact I5 r F z
 have ao:x.Kind=6->∀s,cB x.ah v.ad=some s->∀c,c<=dC ts s.aw v.aj->c<=m:=λh s bx c z=>by
  rw[al (by rw[h];decide),ae h,bx]at r;exact I5 r F z
 have L:7<=x.Kind->∀c,c<=dC ts x.aF v.aj->c<=m:=λh c z=>by
  rw[al (λe=>by rw[e]at h;exact absurd h (by decide)),al (λe=>by rw[e]at h;exact absurd h (by decide))]at r;exact I5 r F z
 have ap:∀q,q∈v.ay->1<=m:=λq b=>by
  rw[N q b]at r;exact aep r F rfl
 clear r F aO N;have ag:∀{t:Int},(∀q,q∈v.aj->(bo ts t q).length<=90000/\bX ts false t q/\dH ts t q<=m)->cg (cY ts m t) (bt ts t v.aj)=some v.aj:=λ{t} af=>EP [] av (by rw[kK]) λj p=>by
  rw[kK]at p;rw[LU p];obtain⟨T,U,V⟩:=af _ (bd p av);exact K _ (bd p av) T U V
 have aW:∀{t:Int},(∀q,q∈v.ay->(bo ts t q).length<=90000/\bX ts false t q/\dH ts t q<=m)->cg (cY ts m t) (bt ts t v.ay)=some v.ay:=λ{t} af=>EP [] av (by rw[kK]) λj p=>by
  rw[kK]at p;rw[LU p];obtain⟨T,U,V⟩:=af _ (bd p av);exact aS _ (bd p av) T U V
 have P:∀{t:Int} {l:List I} {q:I},q∈l->bo ts t q∈bt ts t l:=λ{t l q} b=>by rw[Er];exact e'.2 ⟨q,b,rfl⟩
 unfold qs;rcases z with f|f|f|f|f|f|f|f|f
 . rw[fz,aq (by omega)];obtain⟨a1,a2,a3,a4,a5,o,u⟩:=f;unfold xg;cases bb:v.bN with
   |true=>
    rw[ae (show true=true from rfl),al (show ¬([1]:ak)=[] by simp),ae (show([1]:ak)=[1]from rfl)];cases v;simp_all
   |false=>
    rw[al (show ¬false=true by simp),ae (show([]:ak)=[]from rfl)];cases v;simp_all
 . obtain⟨a1,a2,a3,a4,a5,o,u,i,a9⟩:=f;rw[bB,fz,ar (by omega)];have aR:=aem (n:=v.bc) ab;unfold xh;rw[NW (AF ab)];simp only;rw[aR,ae ⟨i,a9⟩];cases v;simp_all
 . obtain⟨a1,a2,a3,a4,a5,o,u,i⟩:=f;rw[bB,bB,fz,au (by omega)];unfold xi;rw[ae i];cases v;simp_all
 . obtain⟨a1,a2,a3,a4,a5,o,u,i⟩:=f;have aH:cm v.ad:=by
    rcases i with⟨y,aX,aY⟩|⟨_,_,h⟩
    . rw[<-aY];exact H.S _ G (by omega) y aX
    . exact h
   unfold cm at aH;obtain⟨k,M⟩:∃k:Nat,v.ad=(k:Int):=⟨v.ad.toNat,by omega⟩
   rw[bB,bB,bB,fz,ax (by omega),M,aZ];unfold xj;rw[NW (by omega)];simp only;have hs:((x.bh.any λy=>decide (y.ad=(k:Int)))||x.Open)=true:=by
    rcases i with q|⟨q,_⟩
    . rw[M]at q;rw[Jo.1 q];rfl
    . rw[q];simp
   rw[ae ⟨by omega,by omega,hs⟩];cases v;simp_all
 . obtain⟨a1,a2,a3,a4,a5,o,u,i⟩:=f;obtain⟨R,aV⟩:=H.A _ G (.inl (by omega));obtain⟨f1,f2⟩:=hG.1 i;have Y:=az (by omega);have E:((gX fm (fe ts x.ah v.aj v.Rest)).flatMap Fd.text).length<=90000:=by rw[<-Y];exact C
   rw[bB,bB,bB,bB,bB,bB,bB,bB,Y,acy R u f1 (λj Q Z=>?_) E]
   . cases v;simp_all
   . have aP:=bd (by omega:j<v.aj.length) av;have aL:=I9 (ts:=ts) Q (by omega:j<v.aj.length) Z;have:=MY ((kL fm _).mem_iff.2 (show _∈fe ts x.ah v.aj v.Rest from B1 _ aL));exact K _ aP (gp this E) (f2 j Q) (an (by omega) _ (H0 Q (by omega) Z))
 . obtain⟨a1,a2,a3,a4,a5,o⟩:=f;obtain⟨R,aV⟩:=H.A _ G (.inr (by omega));rw[bB,bB,bB,bB,bB,fz];have J:=aA (by omega);unfold qp;cases bx:cB x.ah v.ad with
   |none=>
    rw[bx]at o J;obtain⟨b1,_,b2,b3,d,b4⟩:=o;unfold cm at b2;obtain⟨k,D⟩:∃k:Nat,v.ad=(k:Int):=⟨v.ad.toNat,by omega⟩
    have g:bo ts t v=dP k++d:=by
     rw[J,b4,D,aZ];rfl
    rw[g,P8 (by omega)];simp only;rw[<-D,bx];simp only;rw[ae b1];cases v;simp_all
   |some s=>
    rw[bx]at o J;obtain⟨b1,b2,b3⟩:=o;obtain⟨d3,d4⟩:=kf bx;have aJ:cm v.ad:=by rw[<-d4];exact R.2 s d3
    unfold cm at aJ;obtain⟨k,D⟩:∃k:Nat,v.ad=(k:Int):=⟨v.ad.toNat,by omega⟩
    match gW:v.aj,b2 with
    |[a],_=>
     have w:a∈v.aj:=by rw[gW];exact .head _
     have g:bo ts t v=dP k++bo ts s.aw a:=by
      rw[J,D,aZ];show dP k++(bt ts s.aw v.aj).headD []=_;rw[gW,bt];rfl
     have O:(bo ts s.aw a).length<=90000:=by
      rw[g,cq]at C;exact gp (Nat.le_add_left _ _) C
     rw[g,P8 (by omega)];simp only;rw[<-D,bx];simp only;rw[K a w O (cI.1 b3 a w) (ao (by omega) s bx _ (tI w))];cases v;simp_all
 . obtain⟨a1,a2,a3,a4,a5,o,u,i,a9⟩:=f;have g:=aB (by omega);have B:((bt ts x.aF v.aj).flatMap da).length<=90000:=by rw[<-g];exact C
   rw[bB,bB,bB,bB,bB,bB,fz,g];unfold nn;rw[Oa B];simp only;rw[ae (by rw[kK];exact i),ag λq b=>⟨gp (DK (P b)) B,cI.1 a9 q b,L (by omega) _ (tI b)⟩];cases v;simp_all
 . obtain⟨a1,a2,a3,a4,a5,o,u,i,a9,aE,aG⟩:=f;have g:=aC (by omega);have ba:=H.qA _ G (by omega);have E:(bt ts x.Key v.ay).length=(bt ts x.aF v.aj).length:=by rw[kK,kK];omega
   obtain⟨ai,am⟩:=Na E;have W:=MX _ _ E;rw[kK,kK]at W;have B:((mo (bt ts x.Key v.ay) (bt ts x.aF v.aj)).flatMap da).length<=90000:=by rw[<-HZ,<-g];exact C
   have aT:∀{a:ak} {l:List ak},a∈e5 l->a∈l:=λh=>Ah h;have aU:∀{l:List ak} {a:ak},a∈fh l->a∈l:=by
    intro l;induction l using fh.induct with
    |case1 x y l ih=>
     intro a h;rw[fh]at h;rcases eJ.1 h with rfl|h
     . exact .tail _ (.head _)
     . exact .tail _ (.tail _ (ih h))
    |case2 l af=>
     intro a h;rw[fh]at h
     . cases h
     . exact af
   have aM:∀q,q∈v.ay->dH ts x.Key q<=m:=λq b=>by
    have aN:=ap q b;have e:dH ts x.Key q=1:=by
     obtain⟨⟨_,_,k3,_⟩,aa⟩:=(eH _ _ _).1 (cI.1 a9 q b);refine Ag ?_ ?_
     . rcases aa with k|k|k|k|k|k|k|k|k
       . exact k.2.2.2.2.1
       . exact k.2.2.2.2.1
       . exact k.2.2.2.2.1
       . exact k.2.2.2.2.1
       all_goals (exfalso;omega)
     . rcases aa with k|k|k|k|k|k|k|k|k
       . exact k.2.2.2.2.2.1
       . exact k.2.2.2.2.2.1
       . exact k.2.2.2.2.2.1
       . exact k.2.2.2.2.2.1
       all_goals (exfalso;omega)
    rw[e];exact aN
   rw[bB,bB,bB,bB,bB,bB,bB,fz,g,HZ];unfold qq;rw[Oa B];simp only;rw[ae ⟨by rw[W];omega,by rw[W];omega⟩,ai,am,aW λq b=>⟨gp (DK (aT (by rw[ai];exact P b))) B,cI.1 a9 q b,aM q b⟩];simp only;rw[ae (wa.2 aG),ag λq b=>⟨gp (DK (aU (by rw[am];exact P b))) B,cI.1 aE q b,L (by omega) _ (tI b)⟩];cases v;simp_all
 . obtain⟨a1,a2,a3,a4,a5,o,u,i,a9⟩:=f;have g:=aD (by omega);rw[bB,bB,bB,bB,fz]
   match gW:v.aj,i with
   |[],_=>
    rw[gW,bt]at g;rw[g];cases v;simp_all [mn]
   |[a],_=>
    have w:a∈v.aj:=by rw[gW];exact .head _
    rw[gW,bt]at g;have X:bo ts t v=1::bo ts x.aF a:=g;have O:(bo ts x.aF a).length<=90000:=by
     rw[X,gA]at C;omega
    rw[X];show((if(1:UInt8)=1 then(cY ts m x.aF (bo ts x.aF a)).map _ else none):Option I)=_;rw[ae rfl,K a w O (cI.1 a9 a w) (L (by omega) _ (tI w))];cases v;simp_all
end
theorem zv{f g:α->Option c}:∀{l:List α} {m:List c},(∀a b,a∈l->f a=some b->g a=some b)->cg f l=some m->cg g l=some m
 |[],m,_,h=>h
 |a::l,m,aq,h=>by
  simp only[cg]at h⊢;split at h
  . rename_i b j d e;rw[aq a b (.head _) d,zv (λx y i=>aq x y (.tail _ i)) e];exact h
  . cases h
section
variable {f g:qy}(h:∀t p v,f t p=some v->g t p=some v){x:ai}{v:I}
include h
theorem adz(a:mn f x p=some v):mn g x p=some v:=by
 cases p with
 |nil=>exact a
 |cons c q=>
  simp only[mn]at a⊢;split at a
  . rename_i b;obtain⟨u,d,rfl⟩:=kQ.1 a;rw[ae b,h _ _ _ d];rfl
  . cases a
theorem adA(b:qp f x p=some v):qp g x p=some v:=by
 unfold qp at b⊢;cases c:jA p with
 |none=>rw[c]at b;cases b
 |some a=>
  obtain⟨id,q⟩:=a;rw[c]at b;dsimp only at b⊢;cases bx:cB x.ah id with
  |none=>rw[bx]at b;exact b
  |some m=>
   rw[bx]at b;obtain⟨u,d,rfl⟩:=kQ.1 b;dsimp only;rw[h _ _ _ d];rfl
theorem adB(c:nn f x p=some v):nn g x p=some v:=by
 unfold nn at c⊢;split at c
 . split at c
   . rename_i i;obtain⟨u,d,rfl⟩:=kQ.1 c;simp only[*,b5];rw[zv (λa b _ e=>h _ _ _ e) d];rfl
   . cases c
 . cases c
theorem adC(c:qq f x p=some v):qq g x p=some v:=by
 unfold qq at c⊢;split at c
 . split at c
   . rename_i k;split at c
     . rename_i ks i;split at c
       . rename_i d;obtain⟨u,j,rfl⟩:=kQ.1 c;simp only[*];rw[ae ⟨trivial,trivial⟩];rw[zv (λa b _ e=>h _ _ _ e) i];simp only[d,b5];rw[zv (λa b _ e=>h _ _ _ e) j];rfl
       . cases c
     . cases c
   . cases c
 . cases c
theorem adD(c:nk f x p=some v):nk g x p=some v:=by
 unfold nk at c⊢;split at c
 . rename_i l af;split at c
   . rename_i i d
     have:cg (eg g l) x.ah=some i:=zv (λa b _ e=>by
      unfold eg at e⊢;split at e
      . exact h _ _ _ e
      . exact e) d
     simp only[af,this];exact c
   . cases c
 . cases c
theorem acQ(a:qs f x p=some v):qs g x p=some v:=by
 unfold qs at a⊢;by_cases k1:x.Kind=1
 . rw[ae k1]at a⊢;exact a
 rw[al k1]at a⊢;by_cases k2:x.Kind=2
 . rw[ae k2]at a⊢;exact a
 rw[al k2]at a⊢;by_cases k3:x.Kind=3
 . rw[ae k3]at a⊢;exact a
 rw[al k3]at a⊢;by_cases k4:x.Kind=4
 . rw[ae k4]at a⊢;exact a
 rw[al k4]at a⊢;by_cases k9:x.Kind=9
 . rw[ae k9]at a⊢;exact adz h a
 rw[al k9]at a⊢;by_cases k6:x.Kind=6
 . rw[ae k6]at a⊢;exact adA h a
 rw[al k6]at a⊢;by_cases k7:x.Kind=7
 . rw[ae k7]at a⊢;exact adB h a
 rw[al k7]at a⊢;by_cases k8:x.Kind=8
 . rw[ae k8]at a⊢;exact adC h a
 rw[al k8]at a⊢;exact adD h a
end
section
variable {ts:List ai}
theorem Mp:∀(n k:Nat) (t:Int) (p:ak) (v:I),cY ts n t p=some v->cY ts (n+k) t p=some v
 |0,k,t,p,v,h=>by rw[zs]at h;cases h
 |n+1,k,t,p,v,h=>by
  rw[tJ]at h;rw[show n+1+k=n+k+1 by omega,tJ];exact acQ (Mp n k) h
theorem acR(H:iM ts){u:I}(c:bK v){m:Nat}(b:(bo ts t v).length<=90000)(a:bX ts false t v)(h:cY ts m t (bo ts t v)=some u):u=v:=by
 have h1:=Nc H c b a (Nat.le_add_left (dH ts t v) m);rw[Mp m _ t _ u h]at h1;exact mh h1
end
theorem Mq:∀(l:List I),(∀v,v∈l->wt (cQ v)<=wt v)->cK (l.map cQ)<=cK l
 |[],_=>by simp
 |v::l,h=>by
  rw[gB,hh,hh];have:=h v (.head _);have:=Mq l λw a=>h w (.tail _ a);omega
theorem Nd(a:bK v):wt (cQ v)<=wt v:=by
 induction a with
 |mk v hs h1 c d f e g dc j k l i b=>
  rw[mT,fD,fD v];have:=Mq v.aj b;dsimp only;split
  . simp only[mj,uv];omega
  . omega
theorem PA(H:c' ts)(ht:0<=t/\t<ts.length)(m:ak):gJ ts t m=(ey,12)\/∃v,gJ ts t m=(v,0)/\sr ts t v:=by
 unfold gJ;rw[bB];by_cases a:4096<m.length
 . rw[ae a];exact .inl rfl
 . rw[al a];cases b:cY ts 200 t m with
   |none=>exact .inl rfl
   |some v=>exact .inr ⟨v,rfl,Nw H ht (by omega) b⟩
theorem PB(ts:List ai)(t:Int)(v:I):lz ts t v=([],3)\/lz ts t v=(bo ts t v,0)/\(bo ts t v).length<=4096/\dH ts t v<=200:=by
 unfold lz;split
 . exact .inl rfl
 . rename_i h;exact .inr ⟨rfl,Nat.le_of_not_lt λa=>h (.inl a),Nat.le_of_not_lt λa=>h (.inr a)⟩
theorem acS(H:c' ts)(ht:0<=t/\t<ts.length)(c:bK v)(b:bX ts false t v)(h1:(bo ts t v).length<=4096)(a:dH ts t v<=200):gJ ts t (bo ts t v)=(v,0):=by
 unfold gJ;rw[bB,al (Nat.not_lt.2 h1),Nc (H.V.hr H.T) c (gp h1 (by decide)) b a]
section
variable {tw tr:List ai}{t rt:Int}
abbrev e2(tw:List ai)(t:Int):cD:=⟨⟨tw⟩,t⟩
def oR(tw tr:List ai)(t rt:Int)(m:ak)(v u:I)(o:ak)(e:Int):Prop:=
 pL (e2 tw t,e2 tr rt,m)=some (⟨v,u,o⟩,e)/\nF (e2 tw t,e2 tr rt,m)=some (⟨v,u,o⟩,e)
theorem wc(H:c' ts)(ht:0<=t/\t<ts.length):wm (e2 ts t)=some 0/\jJ ((⟨ts⟩:aT),t)=some 0:=by
 have a:¬t<0:=by omega
 have b:¬(ts.length:Int)<=t:=by omega
 rw[wm,jJ];simp only[e2];rw[(pR H.T H.V).1,(pR H.T H.V).2];simp[a,b]
theorem Nf(dn:c' tw)(cN:c' tr)(ht:0<=t/\t<tw.length)(ag:0<=rt/\rt<tr.length):wo [e2 tw t,e2 tr rt]=some 0/\CG (e2 tw t,e2 tr rt)=some 0:=by
 constructor
 . have a:ka ([e2 tw t,e2 tr rt],2,2)=some (.inr ()):=by rw[ka];rfl
   have h1:ka ([e2 tw t,e2 tr rt],2,1)=some (.inr ()):=by
    rw[ka,ae (by decide),ae (by rfl)];show(wm (e2 tr rt)>>=_)=_;rw[(wc cN ag).1];exact a
   have h0:ka ([e2 tw t,e2 tr rt],2,0)=some (.inr ()):=by
    rw[ka,ae (by decide),ae (by rfl)];show(wm (e2 tw t)>>=_)=_;rw[(wc dn ht).1];exact h1
   rw[wo];show(ka ([e2 tw t,e2 tr rt],2,0)>>=_)=_;rw[h0];rfl
 . rw[CG];show(jJ ((⟨tw⟩:aT),t)>>=_)=_;rw[(wc dn ht).2];simp only[aS,ao];rw[bw];show((jJ ((⟨tr⟩:aT),rt)).bind _)=_;rw[(wc cN ag).2];rfl
theorem Mr(dn:c' tw)(cN:c' tr)(ht:0<=t/\t<tw.length)(ag:0<=rt/\rt<tr.length){m:ak}(hs:∀v,gJ tw t m=(v,0)->bX tw true t (cQ v)->gu tw 3000 t (cQ v)):
 (gJ tw t m=(ey,12)/\oR tw tr t rt m ey ey [] 12)\/∃v,gJ tw t m=(v,0)/\sr tw t v/\((¬bX tw true t (cQ v)/\oR tw tr t rt m ey ey [] 12)\/bX tw true t (cQ v)/\
  (((∃p,uJ tw tr t (cQ v) rt= .inr p)/\oR tw tr t rt m ey ey [] 12)\/(∃x,uJ tw tr t (cQ v) rt= .inl x)/\
  ((lz tw t v=([],3)/\oR tw tr t rt m ey ey [] 3)\/(lz tw t v=(bo tw t v,0)/\(bo tw t v).length<=4096/\dH tw t v<=200)/\
  ((gJ tr rt (bo tw t v)=(ey,12)/\oR tw tr t rt m ey ey [] 12)\/∃u,gJ tr rt (bo tw t v)=(u,0)/\sr tr rt u/\
  ((lz tr rt u=([],3)/\oR tw tr t rt m ey ey [] 3)\/lz tr rt u=(bo tr rt u,0)/\((bo tr rt u).length<=4096/\dH tr rt u<=200)/\oR tw tr t rt m v u (bo tr rt u) 0))))):=by
 obtain⟨c,d⟩:=Nf dn cN ht ag;have d1:tq ((⟨tw⟩:aT),t,m)=some (gJ tw t m):=L0 dn.gT t m;have d2:s6 ((⟨tw⟩:aT),t,m)=some (gJ tw t m):=L1 dn.gT t m;rcases PA dn ht m with a|⟨v,a,F⟩
 . left;refine⟨a,?_,?_⟩
   . rw[pL,c];simp[I.aV,zeroV,mO,d1,a,ey]
   . rw[nF,d];simp[I.aV,zeroV,d2,a,ey]
 . right;refine⟨v,a,F,?_⟩;obtain⟨b,b1,b2,b3⟩:=aap dn F.2.1 F.1;have s1:wB ((⟨tw⟩:aT),t,v)=_:=b2;have i:vC ((⟨tw⟩:aT),t,v)=_:=b3;cases b with
   |false=>
    left;refine⟨λh=>(by have:=b1.2 h;cases this),?_,?_⟩
    . rw[pL,c];simp[I.aV,zeroV,mO,d1,a,ey,s1]
    . rw[nF,d];simp[I.aV,zeroV,d2,a,ey,i]
   |true=>
    right;have k:=b1.1 rfl;refine⟨k,?_⟩;have l:=Eu F.2.1;have q:=gp (Nd F.2.1) F.2.2;have o:=hs v a k;have e:yY ((⟨tw⟩:aT),t,cQ v,(⟨tr⟩:aT),rt)=_:=YO dn cN l k o ag.1 ag.2;have f:ye ((⟨tw⟩:aT),t,cQ v,(⟨tr⟩:aT),rt)=_:=ZP dn cN l q k o ag.1 ag.2;cases n:uJ tw tr t (cQ v) rt with
    |inr p=>
     left;rw[n]at e f;refine⟨⟨p,rfl⟩,?_,?_⟩
     . rw[pL,c];simp[I.aV,zeroV,mO,d1,a,ey,s1,e,lJ]
     . rw[nF,d];simp[I.aV,zeroV,d2,a,ey,i,f,lJ]
    |inl x=>
     right;rw[n]at e f;refine⟨⟨x,rfl⟩,?_⟩;have aN:lU ((⟨tw⟩:aT),t,v)=_:=Nu dn F;have g:rK ((⟨tw⟩:aT),t,v)=_:=Nv dn F;rcases PB tw t v with he|⟨he,af⟩
     . left;rw[he]at aN g;refine⟨he,?_,?_⟩
       . rw[pL,c];simp[I.aV,zeroV,mO,d1,a,ey,s1,e,lJ,aN]
       . rw[nF,d];simp[I.aV,zeroV,d2,a,ey,i,f,lJ,g]
     . right;rw[he]at aN g;refine⟨⟨he,af⟩,?_⟩;have d3:tq ((⟨tr⟩:aT),rt,bo tw t v)=some (gJ tr rt (bo tw t v)):=L0 cN.gT rt _;have d4:s6 ((⟨tr⟩:aT),rt,bo tw t v)=some (gJ tr rt (bo tw t v)):=L1 cN.gT rt _;rcases PA cN ag (bo tw t v)with j|⟨u,j,G⟩
       . left;rw[j]at d3 d4;refine⟨j,?_,?_⟩
         . rw[pL,c];simp[I.aV,zeroV,mO,d1,a,ey,s1,e,lJ,aN,d3]
         . rw[nF,d];simp[I.aV,zeroV,d2,a,ey,i,f,lJ,g,d4]
       . right;rw[j]at d3 d4;refine⟨u,j,G,?_⟩;have dx:lU ((⟨tr⟩:aT),rt,u)=_:=Nu cN G;have hI:rK ((⟨tr⟩:aT),rt,u)=_:=Nv cN G;rcases PB tr rt u with dL|⟨dL,cX⟩
         . left;rw[dL]at dx hI;refine⟨dL,?_,?_⟩
           . rw[pL,c];simp[I.aV,zeroV,mO,d1,a,ey,s1,e,lJ,aN,d3,dx]
           . rw[nF,d];simp[I.aV,zeroV,d2,a,ey,i,f,lJ,g,d4,hI]
         . right;rw[dL]at dx hI;refine⟨dL,cX,?_,?_⟩
           . rw[pL,c];simp[I.aV,zeroV,mO,d1,a,s1,e,lJ,aN,d3,dx]
           . rw[nF,d];simp[I.aV,zeroV,d2,a,i,f,lJ,g,d4,hI]
end
structure sm (tw tr:List ai)(t:Int)(v:I):Prop where
 W:c' tw
 R:c' tr
 t1:0<=t/\t<tw.length
 t2:0<=t/\t<tr.length
 f:bX tw false t v
 o:bK v
 w:wt v<=3000
theorem ahJ{c:nN}(h:xv c.C):(∃w r m,y3 c=some (w,r,m,false))\/∃tw tr t v,y3 c=some (e2 tw t,e2 tr t,bo tw t v,true)/\sm tw tr t v/\tw.length=c.C.D.S.dI.length:=by
 have g:∀{ts:List ai} {t:Int} {v:I},c' ts->bK v->wt v<=3000->bX ts false t v->iV ((⟨ts⟩:aT),t,v)=some (bo ts t v):=λH k l j=>Ea (H.V.hr H.T) k (by omega) _ j;rw[y3];rcases ady h with⟨w,r,t,v,e⟩|⟨tw,tr,t,v,⟨e,C⟩,w,e8,i,a⟩
 . rw[e];exact .inl ⟨_,_,_,rfl⟩
 . rw[e];simp only[aS,ao,c8,bY,b6];cases c.xy with
   |true=>
    obtain⟨b,b1,b2⟩:=Hu a;rw[ae rfl,e8];simp only[ao,I.aV];rw[b1];cases b with
    |false=>exact .inl ⟨_,_,_,rfl⟩
    |true=>
     right;refine⟨tw,tr,t,w,?_,⟨C.W,C.R,⟨C.t0,C.t1⟩,⟨C.t0,C.t2⟩,i,a,b2 rfl⟩,IL h.d.s e8⟩;simp[g C.W a (b2 rfl) i]
   |false=>
    obtain⟨b,b1,b2⟩:=Hu C.o;rw[bw];simp only[I.aV];rw[b1];cases b with
    |false=>exact .inl ⟨_,_,_,rfl⟩
    |true=>
     right;refine⟨tw,tr,t,v,?_,⟨C.W,C.R,⟨C.t0,C.t1⟩,⟨C.t0,C.t2⟩,oK _ _ C.f,C.o,C.w⟩,IL h.d.s e8⟩;simp[g C.W C.o C.w (oK _ _ C.f)]
theorem sm.back(C:sm tw tr t v):∀u,gJ tw t (bo tw t v)=(u,0)->u=v:=λu h=>by
 rcases LZ tw t (bo tw t v)with⟨e,he,a⟩|⟨x,a,_,c,j⟩
 . rw[a]at h;exact absurd (eu Prod.snd h) he
 . rw[a]at h;have:x=u:=eu Prod.fst h;subst this;exact acR (C.W.V.hr C.W.T) C.o (gp c (by decide)) C.f j
theorem sm.z{tw tr:List ai}{t:Int}{v:I}(C:sm tw tr t v):∀u,gJ tw t (bo tw t v)=(u,0)->bX tw true t (cQ u)->gu tw 3000 t (cQ u):=λu h a=>by
 have c:=gp (Nd C.o) C.w;rw[C.back u h]at a⊢;exact oH C.W 3000 (Eu C.o) a (.inr c) (.inr c)
theorem sm.some(C:sm tw tr t v):∃x u o e,oR tw tr t t (bo tw t v) x u o e/\(e=0->bK x/\sr tr t u/\gJ tr t o=(u,0)):=by
 rcases Mr C.W C.R C.t1 C.t2 (m:=bo tw t v) C.z with⟨_,h⟩|⟨x,_,F,⟨_,h⟩|⟨_,⟨_,h⟩|⟨_,⟨_,h⟩|⟨_,⟨_,h⟩|⟨u,_,G,⟨_,h⟩|⟨_,⟨a,l2⟩,h⟩⟩⟩⟩⟩⟩
 . exact⟨_,_,_,_,h,by omega⟩
 . exact⟨_,_,_,_,h,by omega⟩
 . exact⟨_,_,_,_,h,by omega⟩
 . exact⟨_,_,_,_,h,by omega⟩
 . exact⟨_,_,_,_,h,by omega⟩
 . exact⟨_,_,_,_,h,by omega⟩
 . exact⟨_,_,_,_,h,λ_=>⟨F.2.1,G,acS C.R C.t2 G.2.1 G.1 a l2⟩⟩
theorem acT{c:nN}(h:∀d,d∈cy.oa GF c->WF cy d):xv c.C:=
 ahz λd a=>h d (by
  show d∈cy.oa Uh c.C++[⟨.bool,c.xy⟩]
  exact B1 _ a)
end
end Go.Proofs.YtdjagncoefjfeaaGreat
