/- The functions of the program as functions of Lean, that its code does what they say, and what they answer; part D. -/
import Derived.Test.YtdjagncoefjfeaaGreatCrC

namespace Go.Proofs.YtdjagncoefjfeaaGreat
set_option linter.all false
section
open Go Go.Proofs.YtdjagncoefjfeaaGreat.Shv Go.Sort
set_option maxRecDepth 100000
variable{α c:Type}{x y:ah}{path b1:aq}{b2 L t id rt:Int}{p q:aj}{ts tr tw:List ah}{a:Option (I×Bool×List ah×aq×Int×aq)}{o:Option I}{v w u:I}{f:aj->Option I}{ks:List I}{F:iY}{ms:List aR}{aJ:List fG}
section
variable {ts:List ah}
theorem aal{l:List cO}(m:aR)(af:l.length<=90000):(∃j,j<l.length/\l.find? (λf=>decide (f.ad=m.ad))=some (l.getD j gu)/\yK (l,m)=some ((j:Int),m))\/
 (l.find? (λf=>decide (f.ad=m.ad))=none/\yK (l,m)=some (-1,m)):=by
 have h:=q3 (λi=>pq (l,(l.length:Int),(i:Int),m)) l.length (λi=>decide ((l.getD i gu).ad=m.ad)) (λi=>.inl ((i:Int),m)) (.inr m)
  (λi a=>by
   rw[pq,bz,ae (aQ a)];simp only[aT,ao,bc,I.aU,Gp]
   rw[bH])
  (by rw[pq,bx];simp only[jz])
 have cW:pq (l,(l.length:Int),((0:Nat):Int),m)=pq (l,(l.length:Int),0,m):=rfl;simp only[cW]at h;rw[yK];simp only[jz];rcases h with⟨j,h1,c,d,b⟩|⟨h1,b⟩
 . left;refine⟨j,h1,?_,by rw[b];simp only[aT,ao,jz]⟩;rw[du h1]at c⊢;rw[B1];refine⟨c,j,h1,rfl,λk g=>?_⟩;have:=d k g;rw[du (by omega)]at this;simpa using this
 . right;refine⟨?_,by rw[b];simp only[aT,ao,jz]⟩;rw[yt];intro f e;obtain⟨i,a,rfl⟩:=e5 e;have:=h1 i a;rw[du a]at this;simpa using this
def xm{a:Type}:Option a->Option (List a)->Option (List a)
 |some b,some m=>some (b::m)
 |_,_=>none
theorem qB{b:Type}(f:α->Option b)(a:α)(l:List α):ch f (a::l)=xm (f a) (ch f l):=by rfl
def d'(f:Int->aj->Option I)(l:List cO)(m:aR):Option I:=match l.find? (λf=>decide (f.ad=m.ad))with
 |some g=>f m.av g.Data
 |none=>if m.bZ then some m.bu else none
theorem L8 {x:ah}{path:aq}(F:path.length<=900){f:Int->aj->Option I}{l:List cO}(af:l.length<=90000)(B:x.ag.length<=16)
 (s:∀m,m∈x.ag->m.bZ=true->jO m.bu=some m.bu)
 (h:∀m,m∈x.ag->∀q,q∈l->∀step b1 b2,fN ts b1 b2 path (f m.av q.Data) (jc (step,m.av,q.Data,ts,b1,b2,path)))
 {z0 z2 z4 a0 a2 a4:Int}{z1 a1:Bool}{z3 a3:aj}{b1:aq}{b2:Int}:∀(k i:Nat) (acc:List I),i+k=x.ag.length->acc.length=i->
 (∀m,ch (d' f l) (x.ag.drop i)=some m->mw (l,x.ag,(x.ag.length:Int),(i:Int),ts,b1,b2,x,z0,z1,z2,z3,z4,a0,a1,a2,a3,a4,path,acc)=some (.inr (l,ts,b1,b2,x,z0,z1,z2,z3,z4,a0,a1,a2,a3,a4,path,acc++m)))/\
 (ch (d' f l) (x.ag.drop i)=none->∃w f1 f2,mw (l,x.ag,(x.ag.length:Int),(i:Int),ts,b1,b2,x,z0,z1,z2,z3,z4,a0,a1,a2,a3,a4,path,acc)=some (.inl (false,ts,f1,f2,w,path)))
 |0,i,acc,E,D=>by
  rw[mw,cp,en (by omega),ch];grind
 |k+1,i,acc,E,D=>by
  have aC:i<x.ag.length:=by omega
  have u:=bg aC ay;have e:x.ag.drop i=x.ag.getD i ay::x.ag.drop (i+1):=by rw[du aC];exact lr aC
  have go:∀v,(∀n,ch (d' f l) (x.ag.drop (i+1))=some n->mw (l,x.ag,(x.ag.length:Int),((i+1:Nat):Int),ts,b1,b2,x,z0,z1,z2,z3,z4,a0,a1,a2,a3,a4,path,acc++[v])=some (.inr (l,ts,b1,b2,x,z0,z1,z2,z3,z4,a0,a1,a2,a3,a4,path,acc++[v]++n)))/\(ch (d' f l) (x.ag.drop (i+1))=none->∃w f1 f2,mw (l,x.ag,(x.ag.length:Int),((i+1:Nat):Int),ts,b1,b2,x,z0,z1,z2,z3,z4,a0,a1,a2,a3,a4,path,acc++[v])=some (.inl (false,ts,f1,f2,w,path))):=λv=>
   L8 F af B s h k (i+1) (acc++[v]) (by omega) (by simp;omega)
  rw [mw,bz,ae (aQ aC),bc,e,qB];simp only [aT,ao,jz];generalize x.ag.getD i ay = a at *;have z:∀ (v:I) (d:Option _),d' f l a = some v->d = mw (l,x.ag,(x.ag.length:Int),((i+1:Nat):Int),ts,b1,b2,x,z0,z1,z2,z3,z4,a0,a1,a2,a3,a4,path,acc++[v])->
   (∀m,xm (d' f l a) (ch (d' f l) (x.ag.drop (i+1)))=some m->d=some (.inr (l,ts,b1,b2,x,z0,z1,z2,z3,z4,a0,a1,a2,a3,a4,path,acc++m)))/\
   (xm (d' f l a) (ch (d' f l) (x.ag.drop (i+1)))=none->∃w f1 f2,d=some (.inl (false,ts,f1,f2,w,path))):=by
   intro v d c C;obtain⟨H,A⟩:=go v;rw[c,C];cases hs:ch (d' f l) (x.ag.drop (i+1))with
   |none=>exact⟨λm b=>(by cases b),λ_=>A hs⟩
   |some n=>
    refine⟨λm b=>?_,λh=>(by cases h)⟩;have:m=v::n:=(by cases b;rfl)
    grind
  rcases aal a af with⟨j,y,g,r⟩|⟨g,r⟩
  . rw[r];simp only[ao];rw[hT,ae (aQ y),bc];have t:=h a u _ (bg y gu) a.ad b1 b2;have p:d' f l a=f a.av (l.getD j gu).Data:=by unfold d';rw[g]
    cases c:f a.av (l.getD j gu).Data with
    |none=>
     obtain⟨w,f1,f2,G⟩:=t.2 c;rw[G,p,c];exact⟨λm b=>(by cases b),λ_=>⟨w,f1,f2,by simp[I.aU]⟩⟩
    |some v=>
     rw[t.1 v c];simp only[ao,I.aU,dn];rw[bx,ae (cS),bH];grind
  . rw[r];simp only[ao];rw[bx];cases o:a.bZ with
    |true=>
     rw[ae rfl];simp only[I.aU];rw[s a u o];simp only[ao,I.aU];rw[ae (cS),bH];exact z a.bu _ (by unfold d';rw[g];simp[o]) rfl
    |false=>
     have p:d' f l a=none:=by unfold d';rw[g];simp[o]
     rw[bx,ae (cS),Aj (by simp;omega),p];simp only[ao,I.aU];have aI:dj .i64 ((path++[a.ad]).length:Int) 1=(path.length:Int):=by rw[hP (by simp<;>omega) (by simp<;>omega)];simp
     rw[aI,ae (iN.2 (by simp;omega)),hT,bc];exact⟨λm b=>(by cases b),λ_=>⟨_,_,_,by simp;exact⟨rfl,rfl,rfl⟩⟩⟩
theorem agy(d:x.ag.length<=1000)(c:gT x.ag)(id:Int):∃r,hl (x,id)=some r/\r.2=(cz x.ag id).isSome:=by
 cases bw:cz x.ag id with
 |some m=>
  obtain⟨j,a,b,g⟩:=Fk c d bw;grind
 |none=>
  obtain⟨r,e,f⟩:=vo (t:=x) (id:=id) (by omega);refine⟨r,e,?_⟩;rcases f with⟨j,a,b,_,_⟩|⟨_,q⟩
  . exact absurd b (nI bw _ (bg a ay))
  grind
def fv(x:ah)(f:cO):Bool:=(cz x.ag f.ad).isSome || !f.cf
def eO(x:ah)(l:List cO):List bX:=(l.filter λf=>!(cz x.ag f.ad).isSome).map λf=>⟨f.ad,f.Data⟩
theorem H'(j:path.length<=900)(c:x.ag.length<=1000)(b:gT x.ag){l:List cO}(af:l.length<=90000)
 {z0 z2 z4 a0 a2 a4:Int}{z1 a1:Bool}{z3 a3:aj}{b1:aq}{b2:Int}{its:List I}:∀(k i:Nat) (acc:List bX),i+k=l.length->acc.length<=i->
 ((l.drop i).all (fv x)=true->oY (l,(l.length:Int),(i:Int),ts,b1,b2,x,z0,z1,z2,z3,z4,a0,a1,a2,a3,a4,path,its,acc)=some (.inr (ts,b1,b2,z0,z1,z2,z3,z4,a0,a1,a2,a3,a4,path,its,acc++eO x (l.drop i))))/\
 ((l.drop i).all (fv x)=false->∃w f1 f2,oY (l,(l.length:Int),(i:Int),ts,b1,b2,x,z0,z1,z2,z3,z4,a0,a1,a2,a3,a4,path,its,acc)=some (.inl (false,ts,f2,w,path,f1)))
 |0,i,acc,p,n=>by
  rw[oY,cp,en (by omega)];exact⟨λ_=>by simp[eO],λh=>by simp at h⟩
 |k+1,i,acc,p,n=>by
  have aC:i<l.length:=by omega
  have e:l.drop i=l.getD i gu::l.drop (i+1):=by rw[du aC];exact lr aC
  obtain⟨r,q,m⟩:=agy c b (l.getD i gu).ad;rw[oY,bz,ae (aQ aC),bc,e];simp only[aT,ao];generalize l.getD i gu=f at*;rw[q];simp only[ao];have o:(f::l.drop (i+1)).all (fv x)=(fv x f&&(l.drop (i+1)).all (fv x)):=rfl;rw[o];cases hs:(cz x.ag f.ad).isSome with
  |true=>
   have a:fv x f=true:=by unfold fv;rw[hs];rfl
   have d:eO x (f::l.drop (i+1))=eO x (l.drop (i+1)):=by unfold eO;rw[Ft (by rw[hs];simp)]
   rw[m,hs,ae rfl,a,d,bH,mS];exact H' j c b af k (i+1) acc (by omega) (by omega)
  |false=>
   rw[m,hs,bx];cases g:f.cf with
   |true=>
    have a:fv x f=false:=by unfold fv;rw[hs,g];rfl
    rw[ae rfl,ae (cS),Aj (by simp;omega),a];simp only[ao,I.aU];have aI:dj .i64 ((path++[f.ad]).length:Int) 1=(path.length:Int):=by rw[hP (by simp<;>omega) (by simp<;>omega)];simp
    rw[aI,ae (iN.2 (by simp;omega)),hT,bc];simp_all
   |false=>
    have a:fv x f=true:=by unfold fv;rw[hs,g];rfl
    have d:eO x (f::l.drop (i+1))=⟨f.ad,f.Data⟩::eO x (l.drop (i+1)):=by unfold eO;rw[Fu (by rw[hs];rfl)];rfl
    rw[bx,ae (cS),a,d,bH,mS];have:=H' j c b af (z0:=z0) (z1:=z1) (z2:=z2) (z3:=z3) (z4:=z4) (a0:=a0) (a1:=a1) (a2:=a2) (a3:=a3) (a4:=a4) (b1:=b1) (b2:=b2) (its:=its) k (i+1) (acc++[⟨f.ad,f.Data⟩]) (by omega) (by simp;omega);grind
theorem Z'(H:iV ts)(i:∀x,x∈ts->∀m,m∈x.ag->m.bZ=true->jO m.bu=some m.bu){n:Nat}(ih:xc ts n)(e:x∈ts)(g:x.Kind=5)(c8:∀m,m∈x.ag->0<=m.av/\m.av<ts.length)(F:p.length<=4096)(G:path.length+(n+1)=200):
 (∀l,iS p=some l->∀a,ch (d' (cP ts n) l) x.ag=some a->l.all (fv x)=true->yS (x,p,ts,b1,b2,path)=some (⟨5,false,0,[],0,[],a,eO x l⟩,true,ts,b1,b2,path))/\
 ((iS p=none\/(∃l,iS p=some l/\(ch (d' (cP ts n) l) x.ag=none\/l.all (fv x)=false)))->∃w f1 f2,yS (x,p,ts,b1,b2,path)=some (w,false,ts,f1,f2,path)):=by
 obtain⟨j,D⟩:=H.A x e (.inl g);obtain⟨o,v,y,z⟩:=Df (p:=p) (by omega);rw[yS,v];simp only[aT,ao];by_cases h0:o.2=0
 . obtain⟨v1,C,v3,v4⟩:=y h0;rw[ak (by simp[h0]),v1];have E:=H.T x e;have k:∀m,m∈x.ag->m.bZ=true->jO m.bu=some m.bu:=λm b s=>i x e m b s;have ar:∀m,m∈x.ag->∀q,q∈o.1->∀step b1 b2,fN ts b1 b2 path (cP ts n m.av q.Data) (jc (step,m.av,q.Data,ts,b1,b2,path)):=λm b q u step b1 b2=>
    vR (by omega) (ih m.av q.Data b1 b2 (path++[step]) (c8 m b).1 (c8 m b).2 (by have:=(C q u).1;omega) (by simp;omega))
   obtain⟨gK,c⟩:=L8 (x:=x) (path:=path) (by omega) (f:=cP ts n) (l:=o.1) (by omega) (by omega) k ar (z0:=0) (z1:=false) (z2:=0) (z3:=[]) (z4:=0) (a0:=x.Kind) (a1:=false) (a2:=0) (a3:=[]) (a4:=0) (b1:=b1) (b2:=b2) x.ag.length 0 [] (by omega) rfl;rw[fL]at gK c;have z0:((0:Nat):Int)=0:=rfl;rw[z0]at gK c;have B:=λits=>H' (ts:=ts) (x:=x) (path:=path) (by omega) (by omega) j (l:=o.1) (by omega) (z0:=0) (z1:=false) (z2:=0) (z3:=[]) (z4:=0) (a0:=x.Kind) (a1:=false) (a2:=0) (a3:=[]) (a4:=0) (b1:=b1) (b2:=b2) (its:=its) o.1.length 0 [] (by omega) (dU _);rw[fL,z0]at B;constructor
   . intro l af a t r;cases af;rw[gK a t];simp only[ao,fZ];rw[(B a).1 r];simp[g]
   . intro h;rcases h with h|⟨l,af,h⟩
     . cases h
     . cases af;cases hs:ch (d' (cP ts n) o.1) x.ag with
       |none=>
        obtain⟨w,f1,f2,d⟩:=c hs;rw[d];exact⟨_,_,_,rfl⟩
       |some a=>
        rcases h with h|h
        . rw[hs]at h;cases h
        . obtain⟨w,f1,f2,d⟩:=(B a).2 h;rw[gK a hs];simp only[ao,fZ];rw[d];exact⟨I.eta w,f1,f2,rfl⟩
 . rw[ae (by simp[h0]),z h0];constructor
   . intro l af;cases af
   . intro _;rw[Aj (by omega)];exact⟨_,_,_,rfl⟩
end
structure jq (ts:List ah):Prop where
 S:iV ts
 V:nk ts
 W:∀x,x∈ts->∀m,m∈x.ag->m.bZ=true->jO m.bu=some m.bu
theorem da.fA(H:da ts):jq ts:=⟨H.V.hB H.T,H.V,λx c m a e=>aaj ((H.T x c).3 m a) (by have:=H.W x c m a e;omega)⟩
section
variable {ts:List ah}
theorem jq.mem(H:jq ts)(c:x∈ts){m:aR}(a:m∈x.ag):0<=m.av/\m.av<ts.length:=
 H.V.U x c m.av (by unfold fj;simp;exact .inl ⟨m,a,rfl⟩)
theorem jq.elem(H:jq ts)(c:x∈ts)(a:7<=x.Kind):0<=x.aG/\x.aG<ts.length:=
 H.V.U x c x.aG (by unfold fj;simp[a])
theorem jq.key(H:jq ts)(c:x∈ts)(a:x.Kind=8):0<=x.Key/\x.Key<ts.length:=
 H.V.U x c x.Key (by unfold fj;simp[a])
def eg:I:=⟨0,false,0,[],0,[],[],[]⟩
abbrev qm:=Int->aj->Option I
def uu(p:aj):Option I:=if p=[]then some ⟨1,false,0,[],0,[],[],[]⟩else if p=[1]then some ⟨1,true,0,[],0,[],[],[]⟩else none
def uv(x:ah)(p:aj):Option I:=match gJ p with
 |some m=>if x.bC<=iq m/\iq m<=x.bG then some ⟨2,false,iq m,[],0,[],[],[]⟩else none
 |none=>none
def uw(x:ah)(p:aj):Option I:=if(p.length:Int)<=x.Max then some ⟨3,false,0,p,0,[],[],[]⟩else none
def ux(x:ah)(p:aj):Option I:=match gJ p with
 |some m=>if 1<=m/\m<=1000/\((x.bj.any λy=>decide (y.ad=(m:Int)))||x.Open)=true then some ⟨4,false,0,[],(m:Int),[],[],[]⟩else none
 |none=>none
def me(f:qm)(x:ah):aj->Option I
 |[]=>some ⟨9,false,0,[],0,[],[],[]⟩
 |c::q=>if c=1 then(f x.aG q).map λv=>⟨9,false,0,[],0,[],[v],[]⟩else none
def oC(f:qm)(x:ah)(p:aj):Option I:=match jG p with
 |some (id,q)=>(match cz x.ag id with
  |some m=>(f m.av q).map λv=>⟨6,false,0,[],id,[],[v],[]⟩
  |none=>if x.Open then some ⟨6,false,0,[],id,[],[],[⟨id,q⟩]⟩else none)
 |none=>none
def mc(f:qm)(x:ah)(p:aj):Option I:=match ir p with
 |some l=>if(l.length:Int)<=x.Max then(ch (f x.aG) l).map λa=>⟨7,false,0,[],0,[],a,[]⟩else none
 |none=>none
def oD(f:qm)(x:ah)(p:aj):Option I:=match ir p with
 |some l=>if l.length%2 = 0/\((l.length/2:Nat):Int)<=x.Max then (match ch (f x.Key) (e0 l) with
  |some ks=>if oP ks then(ch (f x.aG) (e6 l)).map λa=>⟨8,false,0,[],0,ks,a,[]⟩else none
  |none=>none)else none
 |none=>none
def mb(f:qm)(x:ah)(p:aj):Option I:=match iS p with
 |some l=>(match ch (d' f l) x.ag with
  |some a=>if l.all (fv x) then some ⟨5,false,0,[],0,[],a,eO x l⟩else none
  |none=>none)
 |none=>none
def oE(f:qm)(x:ah)(p:aj):Option I:=
 if x.Kind=1 then uu p else if x.Kind=2 then uv x p else if x.Kind=3 then uw x p else if x.Kind=4 then ux x p else if x.Kind=9 then me f x p else if x.Kind=6 then oC f x p else if x.Kind=7 then mc f x p else if x.Kind=8 then oD f x p else mb f x p
theorem zY(t:Int)(p:aj):cP ts 0 t p=none:=by rw[cP.eq_def]
theorem qC(n:Nat)(t:Int)(p:aj):cP ts (n+1) t p=oE (cP ts n) (ts.getD t.toNat aN) p:=by rfl
theorem fN.eta(h:fN ts b1 b2 path o a):
 fN ts b1 b2 path o (a>>=λr=>some (I.eta r.1,r.2.1,r.2.2.1,r.2.2.2.1,r.2.2.2.2.1,r.2.2.2.2.2)):=by
 refine⟨λv c=>?_,λaE=>?_⟩
 . rw[h.1 v c];simp[I.aU]
 . obtain⟨w,f1,f2,e⟩:=h.2 aE;exact⟨w,f1,f2,by rw[e];simp[I.aU]⟩
theorem fN.one(v:I):fN ts b1 b2 path (some v) (some (v,true,ts,b1,b2,path)):=⟨λa h=>by cases h;rfl,λh=>by cases h⟩
theorem fN.cast{c:Option I}(e:o=c)(h:fN ts b1 b2 path o a):fN ts b1 b2 path c a:=e▸h
theorem Eg{l:List c4}{m:Nat}:(∃y,y∈l/\y.ad=(m:Int))↔(l.any λy=>decide (y.ad=(m:Int)))=true:=by grind
theorem aam(H:jq ts){n:Nat}(ih:xc ts n)(g:x∈ts)(e4:x.Kind=7)(s:p.length<=4096)(t:path.length+(n+1)=200):
 fN ts b1 b2 path (mc (cP ts n) x p) (Co (x,p,ts,b1,b2,path)):=by
 obtain⟨o,j,k,m⟩:=tA (p:=p) (by omega);obtain⟨aI,c⟩:=H.elem g (by omega);rw[Co,j];unfold mc;simp only[aT,ao];by_cases h0:o.2=0
 . obtain⟨v1,r,v3⟩:=k h0;rw[ak (by simp[h0]),v1];dsimp only;by_cases b:(o.1.length:Int)<=x.Max
   . rw[ae b,cp];have d:∀q,q∈o.1->∀step b1 b2,fN ts b1 b2 path (cP ts n x.aG q) (jc (step,x.aG,q,ts,b1,b2,path)):=λq e step b1 b2=>
      vR (by omega) (ih x.aG q b1 b2 (path++[step]) aI c (by have:=r q e;omega) (by simp;omega))
     obtain⟨gK,a⟩:=L4 (x:=x) (l:=o.1) (by omega) d (z0:=0) (z1:=false) (z2:=0) (z3:=[]) (z4:=0) (a0:=x.Kind) (a1:=false) (a2:=0) (a3:=[]) (a4:=0) (b1:=b1) (b2:=b2) o.1.length 0 [] (by omega) rfl;rw[fL]at gK a;have z0:((0:Nat):Int)=0:=rfl;rw[z0]at gK a;cases hs:ch (cP ts n x.aG) o.1 with
     |none=>
      obtain⟨w,f1,f2,f⟩:=a hs;rw[f];exact⟨λv h=>by simp at h,λ_=>⟨_,_,_,rfl⟩⟩
     |some i=>
      rw[gK i hs];exact⟨λu h=>by grind,λh=>by simp at h⟩
   . rw[ak b,bz];exact jQ (by omega) _ _ _
 . rw[ae (by simp[h0]),m h0];exact jQ (by omega) _ _ _
theorem N2(H:jq ts):∀n,n<=200->xc ts n
 |0,_=>λt p b1 b2 path t0 t1 d o=>by
  rw[o7,bz,zY];exact jQ (by omega) _ _ _
 |n+1,aE=>λt p b1 b2 path t0 t1 d o=>by
  have ih:=N2 H n (by omega);obtain⟨j,rfl⟩:=BN t0;have M:j<ts.length:=by omega
  rw[o7,cp,ae (aQ M),qC,bc];have a:=bg M aN;generalize ts.getD j aN=x at*;obtain⟨an,ap⟩:=H.S.K x a;have Z:x.bj.length<9223372036854775807:=dB (iv (H.S.T x a).1);unfold oE;simp only[aT,ao];obtain⟨u,O,P,Q⟩:=adt p;by_cases f:x.Kind=1
  . rw[ae f,ae (show decide (x.Kind=1)=true by simpa using f)];unfold uu;by_cases h0:p=[]
    . rw[ae h0,ak (by simp[h0]),f,h0];exact .one _
    . by_cases h1:p=[1]
      . rw[ak h0,ae h1,ak (by simp[h1]),f,h1];exact .one _
      . rw[ak h0,ak h1,ae (by simp[h0,h1])];exact jQ (by omega) _ _ _
  rw[ak f,ak (show ¬decide (x.Kind=1)=true by simpa using f)];by_cases r:x.Kind=2
  . rw[ae r,ae (show decide (x.Kind=2)=true by simpa using r),O];unfold uv;simp only[ao];by_cases h0:u.2=0
    . obtain⟨m,B,F⟩:=P h0;rw[B,F,adS (D0 B),ak (by simp[h0])];simp only[ao];by_cases b:x.bC<=iq m/\iq m<=x.bG
      . rw[ae b,cp,r];exact .one _
      . rw[ak b,bz];exact jQ (by omega) _ _ _
    . rw[Q h0,ae (by simp[h0])];exact jQ (by omega) _ _ _
  rw[ak r,ak (show ¬decide (x.Kind=2)=true by simpa using r)];by_cases s:x.Kind=3
  . rw[ae s,ae (show decide (x.Kind=3)=true by simpa using s)];unfold uw;by_cases b:(p.length:Int)<=x.Max
    . rw[ae b,cp,s];exact .one _
    . rw[ak b,bz];exact jQ (by omega) _ _ _
  rw[ak s,ak (show ¬decide (x.Kind=3)=true by simpa using s)];by_cases z:x.Kind=4
  . rw[ae z,ae (show decide (x.Kind=4)=true by simpa using z),O];unfold ux;simp only[ao];by_cases h0:u.2=0
    . obtain⟨m,B,F⟩:=P h0;rw[B,F];dsimp only;by_cases b:1<=m/\m<=1000
      . obtain⟨q,aj,_,al⟩:=qW (t:=x) (m:Int) Z;have e:bY .i64 (m:Int)=(m:Int):=jI;rw[ak (show ¬(bif bif !decide (u.2=0)then true else decide ((m:Int)<1)then true else decide (1000<(m:Int)))=true by simp[h0];omega),e,aj];simp only[ao];have Y:q.2=(x.bj.any λy=>decide (y.ad=(m:Int))):=by
         have:=(DH al).trans Eg;grind
        rw[Y,z];by_cases J:((x.bj.any λy=>decide (y.ad=(m:Int)))||x.Open)=true
        . rw[ae (show 1<=m/\m<=1000/\((x.bj.any λy=>decide (y.ad=(m:Int)))||x.Open)=true from⟨b.1,b.2,J⟩),ak]
          . exact .one _
          grind
        . rw[ak (show ¬(1<=m/\m<=1000/\((x.bj.any λy=>decide (y.ad=(m:Int)))||x.Open)=true)fromλh=>J h.2.2),ae]
          . exact jQ (by omega) _ _ _
          grind
      . rw[ak (show ¬(1<=m/\m<=1000/\((x.bj.any λy=>decide (y.ad=(m:Int)))||x.Open)=true)fromλh=>b ⟨h.1,h.2.1⟩),ae (by simp[h0];omega)];exact jQ (by omega) _ _ _
    . rw[Q h0,ae (by simp[h0])];exact jQ (by omega) _ _ _
  rw[ak z,ak (show ¬decide (x.Kind=4)=true by simpa using z)];by_cases i:x.Kind=9
  . rw[ae i,ae (show decide (x.Kind=9)=true by simpa using i)];obtain⟨aI,V⟩:=H.elem a (by omega);cases p with
    |nil=>
     rw[hT,me,i];exact .one _
    |cons c q=>
     have af:(c::q).length=q.length+1:=rfl;have ab:aH 0 (c::q).length=true:=aQ (k:=0) (by simp);have b0:fz (c::q) 0=(c.toNat:Int):=rfl;have rS:dY 1 ((c::q).length:Int) (c::q).length=true:=iN.2 (by simp<;>omega);have U:ef (c::q) 1 ((c::q).length:Int)=q:=by
      unfold ef;simp
     rw[bx,ae ab,b0,me];by_cases D:c=1
     . subst D;rw[ae rfl,bx,ae rS,U];have L:=vR (step:=0) (path:=path) (by omega) (ih x.aG q b1 b2 (path++[0]) aI V (by simp at d;omega) (by simp;omega));cases N:cP ts n x.aG q with
       |none=>
        obtain⟨w,f1,f2,aa⟩:=L.2 N;rw[aa];exact⟨λv h=>by simp at h,λ_=>⟨_,_,_,rfl⟩⟩
       |some v=>
        rw[L.1 v N]
        exact⟨λam h=>by
         have:am=⟨9,false,0,[],0,[],[v],[]⟩:=(by simpa using h.symm);rw[this]
         simp[I.aU,i],λh=>by simp at h⟩
     . have X:¬((c.toNat:Int)=1):=λh=>D (UInt8.toNat.inj (by show c.toNat=1;omega));rw[ak D,ae (by simpa using X)];exact jQ (by omega) _ _ _
  rw[ak i,ak (show ¬decide (x.Kind=9)=true by simpa using i)];by_cases A:x.Kind=6
  . rw[ae A,ae (show decide (x.Kind=6)=true by simpa using A)];refine fN.eta (fN.cast ?_ (aak H.S ih a A (λm E=>H.mem a E) d o));rfl
  rw[ak A,ak (show ¬decide (x.Kind=6)=true by simpa using A)];by_cases e4:x.Kind=7
  . rw[ae e4,ae (show decide (x.Kind=7)=true by simpa using e4)];exact fN.eta (aam H ih a e4 d o)
  rw[ak e4,ak (show ¬decide (x.Kind=7)=true by simpa using e4)];by_cases g:x.Kind=8
  . rw[ae g,ae (show decide (x.Kind=8)=true by simpa using g)];refine fN.eta (fN.cast ?_ (Ts ih g (H.key a g) (H.elem a (by omega)) d o));rfl
  rw[ak g,ak (show ¬decide (x.Kind=8)=true by simpa using g)];have ai:x.Kind=5:=by omega
  obtain⟨R,C⟩:=Z' H.S H.W ih a ai (λm E=>H.mem a E) d (b1:=b1) (b2:=b2) o;refine fN.eta ?_;unfold mb;cases af:iS p with
  |none=>exact⟨λv h=>(by cases h),λ_=>C (.inl af)⟩
  |some l=>
   dsimp only;cases hs:ch (d' (cP ts n) l) x.ag with
   |none=>exact⟨λv h=>(by cases h),λ_=>C (.inr ⟨l,af,.inl hs⟩)⟩
   |some ah=>
    dsimp only;cases G:l.all (fv x)with
    |true=>exact⟨λv h=>(by cases h;exact R l af ah hs G),λh=>(by cases h)⟩
    |false=>exact⟨λv h=>(by cases h),λ_=>C (.inr ⟨l,af,.inr G⟩)⟩
end
def fI(o:Option I)(r:Option cU):Prop:=(∀v,o=some v->∃F,r=some ⟨v,F,true⟩)/\(o=none->∃F,r=some ⟨eg,F,false⟩)
theorem zC(b:path.length<=1000)(a:Int):hj (path,a)=some ⟨eg,⟨path,a⟩,false⟩:=by rw[hj,ae (cS),fZ];rfl
theorem mW(a:path.length<=1000)(step:Int):lK (path,step)=some (path++[step]):=by
 rw[lK,ae (cS)];simp only[aT,ao,fZ];rw[ae (cS)]
theorem jA(a:path.length<=1000)(b:Int):fI none (hj (path,b)>>=λr=>some (⟨I.eta r.Value,r.dS,r.cn⟩:cU)):=by
 rw[zC a];exact⟨λv h=>(by cases h),λ_=>⟨_,rfl⟩⟩
theorem fI.eta{o:Option I}{a:Option cU}(h:fI o a):fI o (a>>=λr=>some (⟨I.eta r.Value,r.dS,r.cn⟩:cU)):=by
 refine⟨λv c=>?_,λaE=>?_⟩
 . obtain⟨F,bw⟩:=h.1 v c;exact⟨F,by rw[bw];simp[I.aU]⟩
 . obtain⟨F,bw⟩:=h.2 aE;exact⟨F,by rw[bw];rfl⟩
theorem um(v:I):nA v=some ⟨v,⟨[],0⟩,true⟩:=by rw[nA,I.aU]
theorem fI.one(v:I):fI (some v) (nA v>>=λr=>some (⟨I.eta r.Value,r.dS,r.cn⟩:cU)):=by
 rw[um];exact⟨λa h=>(by cases h;exact⟨_,by simp[I.aU];rfl⟩),λh=>(by cases h)⟩
section
variable {ts:List ah}
def lD(ts:List ah)(o:Option I)(L:Int)(path:aq)(t:Int)(q:aj)(step:Int):Prop:=
 fI o (lK (path,step)>>=λr=>jN ((⟨ts⟩:aS),t,q,aM .i64 L 1,r))
theorem lD.yes{step:Int}(h:lD ts o L path t q step)(a:path.length<=1000)(c:o=some v):∃F,jN ((⟨ts⟩:aS),t,q,aM .i64 L 1,path++[step])=some ⟨v,F,true⟩:=by
 unfold lD at h;rw[mW a]at h;exact h.1 v c
theorem lD.no{step:Int}(h:lD ts o L path t q step)(a:path.length<=1000)(c:o=none):∃F,jN ((⟨ts⟩:aS),t,q,aM .i64 L 1,path++[step])=some ⟨eg,F,false⟩:=by
 unfold lD at h;rw[mW a]at h;exact h.2 c
theorem Sk(n:path.length<=900){l:List aj}(af:l.length<=90000)(h:∀q,q∈l->∀step,lD ts (f q) L path x.aG q step)
 {z0 z2 z4 z5 z7 z9 z11:Int}{z1 z6 z8:Bool}{z3 z10:aj}:∀(k i:Nat) (acc:List I),i+k=l.length->acc.length=i->
 (∀m,ch f (l.drop i)=some m->sG (L,path,l,(i:Int),ts,x,z0,z1,z2,z3,z4,z5,z6,z7,z8,z9,z10,z11,acc)=some (.inr (z0,z1,z2,z3,z4,z5,z6,z7,z8,z9,z10,z11,acc++m)))/\
 (ch f (l.drop i)=none->∃F,sG (L,path,l,(i:Int),ts,x,z0,z1,z2,z3,z4,z5,z6,z7,z8,z9,z10,z11,acc)=some (.inl ⟨eg,F,false⟩))
 |0,i,acc,j,g=>by
  rw[sG,cp,en (by omega),ch];grind
 |k+1,i,acc,j,g=>by
  have aC:i<l.length:=by omega
  have c:=h _ (bg aC []) (i:Int);have e:l.drop i=l.getD i []::l.drop (i+1):=by rw[du aC];exact lr aC
  rw[sG,bz,ae (aQ aC),bc,e,qB,mW (by omega)];simp only[aT,ao];cases d:f (l.getD i [])with
  |none=>
   obtain⟨F,b⟩:=c.no (by omega) d;rw[b];exact⟨λm a=>(by cases a),λ_=>⟨F,by simp[I.aU]⟩⟩
  |some v=>
   obtain⟨F,b⟩:=c.yes (by omega) d;rw[b];simp only[ao,I.aU,dn];rw[bx,ae (cS),bH];obtain⟨r,o⟩:=Sk n af h (z0:=z0) (z1:=z1) (z2:=z2) (z3:=z3) (z4:=z4) (z5:=z5) (z6:=z6) (z7:=z7) (z8:=z8) (z9:=z9) (z10:=z10) (z11:=z11) k (i+1) (acc++[v]) (by omega) (by simp;omega);cases hs:ch f (l.drop (i+1))with
   |none=>exact⟨λm a=>(by cases a),λ_=>o hs⟩
   |some p=>
    refine⟨λm a=>?_,λh=>(by cases h)⟩;have:m=v::p:=(by cases a;rfl)
    grind
theorem BE{i:Nat}(h:i<1000000:=by omega):gF .i64 2 (i:Int)=((2*i:Nat):Int):=by
 unfold gF;have e:(2:Int)*(i:Int)=((2*i:Nat):Int):=by omega
 rw[e];exact jI
theorem Sj(i:path.length<=900){l:List aj}(af:l.length<=90000)(h:∀q,q∈l->∀step,lD ts (f q) L path x.Key q step)
 {z0 z2 z4 z5 z7 z9 z11:Int}{z1 z6 z8:Bool}{z3 z10:aj}:∀(k j:Nat) (acc:List I),2*(j+k)=l.length->acc.length=j->
 (∀m,ch f (e0 (l.drop (2*j)))=some m->s0 (L,path,l,(j:Int),ts,x,z0,z1,z2,z3,z4,z5,z6,z7,z8,z9,z10,z11,acc)=some (.inr (L,path,l,ts,x,z0,z1,z2,z3,z4,z5,z6,z7,z8,z9,z10,z11,acc++m)))/\
 (ch f (e0 (l.drop (2*j)))=none->∃F,s0 (L,path,l,(j:Int),ts,x,z0,z1,z2,z3,z4,z5,z6,z7,z8,z9,z10,z11,acc)=some (.inl ⟨eg,F,false⟩))
 |0,j,acc,g,e=>by
  rw[s0,BE,cp,en (by omega),show e0 ([]:List aj)=[]from rfl,ch];grind
 |k+1,j,acc,g,e=>by
  have aC:2*j<l.length:=by omega
  have c:=h _ (bg aC []) (j:Int);rw[s0,BE,bz];simp only[aT,ao];rw[ae (aQ aC),bc,Kx (by omega) [],qB,mW (by omega)];simp only[ao];cases d:f (l.getD (2*j) [])with
  |none=>
   obtain⟨F,b⟩:=c.no (by omega) d;rw[b];exact⟨λm a=>(by cases a),λ_=>⟨F,by simp[I.aU]⟩⟩
  |some v=>
   obtain⟨F,b⟩:=c.yes (by omega) d;rw[b];simp only[ao,I.aU,dn];rw[bx,ae (cS),bH];obtain⟨p,n⟩:=Sj i af h (z0:=z0) (z1:=z1) (z2:=z2) (z3:=z3) (z4:=z4) (z5:=z5) (z6:=z6) (z7:=z7) (z8:=z8) (z9:=z9) (z10:=z10) (z11:=z11) k (j+1) (acc++[v]) (by omega) (by simp;omega);cases hs:ch f (e0 (l.drop (2*(j+1))))with
   |none=>exact⟨λm a=>(by cases a),λ_=>n hs⟩
   |some o=>
    refine⟨λm a=>?_,λh=>(by cases h)⟩;have:m=v::o:=(by cases a;rfl)
    grind
theorem PJ(i:path.length<=900){l:List aj}(af:l.length<=90000)(h:∀q,q∈l->∀step,lD ts (f q) L path x.aG q step)
 {z0 z2 z4 z5 z7 z9 z11:Int}{z1 z6 z8:Bool}{z3 z10:aj}{ks:List I}:∀(k j:Nat) (acc:List I),2*(j+k)=l.length->acc.length=j->
 (∀m,ch f (e6 (l.drop (2*j)))=some m->s3 (L,path,l,(j:Int),ts,x,z0,z1,z2,z3,z4,z5,z6,z7,z8,z9,z10,z11,ks,acc)=some (.inr (z0,z1,z2,z3,z4,z5,z6,z7,z8,z9,z10,z11,ks,acc++m)))/\
 (ch f (e6 (l.drop (2*j)))=none->∃F,s3 (L,path,l,(j:Int),ts,x,z0,z1,z2,z3,z4,z5,z6,z7,z8,z9,z10,z11,ks,acc)=some (.inl ⟨eg,F,false⟩))
 |0,j,acc,g,e=>by
  rw[s3,BE,cp,en (by omega),show e6 ([]:List aj)=[]from rfl,ch];grind
 |k+1,j,acc,g,e=>by
  have aC:2*j+1<l.length:=by omega
  have c:=h _ (bg aC []) (j:Int);have aI:aM .i64 ((2*j:Nat):Int) 1=((2*j+1:Nat):Int):=bH;rw[s3,BE,bz,aI];simp only[aT,ao];rw[ae (aQ aC),bc,Lv aC [],qB,mW (by omega)];simp only[ao];cases d:f (l.getD (2*j+1) [])with
  |none=>
   obtain⟨F,b⟩:=c.no (by omega) d;rw[b];exact⟨λm a=>(by cases a),λ_=>⟨F,by simp[I.aU]⟩⟩
  |some v=>
   obtain⟨F,b⟩:=c.yes (by omega) d;rw[b];simp only[ao,I.aU,dn];rw[bx,ae (cS),bH];obtain⟨p,n⟩:=PJ i af h (z0:=z0) (z1:=z1) (z2:=z2) (z3:=z3) (z4:=z4) (z5:=z5) (z6:=z6) (z7:=z7) (z8:=z8) (z9:=z9) (z10:=z10) (z11:=z11) (ks:=ks) k (j+1) (acc++[v]) (by omega) (by simp;omega);cases hs:ch f (e6 (l.drop (2*(j+1))))with
   |none=>exact⟨λm a=>(by cases a),λ_=>n hs⟩
   |some o=>
    refine⟨λm a=>?_,λh=>(by cases h)⟩;have:m=v::o:=(by cases a;rfl)
    grind
theorem Sg{x:ah}(c:path.length<=1000){l:List aj}(a:∀y,y∈ks->cy y.bf)(af:ks.length<=90000){L:Int}
 {z0 z2 z4 z5 z7 z9 z11:Int}{z1 z6 z8:Bool}{z3 z10:aj}:∀(k i:Nat),ks.length-(i+1)=k->
 ((∀m,i<=m->m+1<ks.length->hc (ks.getD m au) (ks.getD (m+1) au)<0)/\q8 (L,path,l,((i+1:Nat):Int),ts,x,z0,z1,z2,z3,z4,z5,z6,z7,z8,z9,z10,z11,ks)=some (.inr (L,path,l,ts,x,z0,z1,z2,z3,z4,z5,z6,z7,z8,z9,z10,z11,ks)))\/
 ((∃m,m+1<ks.length/\¬hc (ks.getD m au) (ks.getD (m+1) au)<0)/\∃F,q8 (L,path,l,((i+1:Nat):Int),ts,x,z0,z1,z2,z3,z4,z5,z6,z7,z8,z9,z10,z11,ks)=some (.inl ⟨eg,F,false⟩))
 |0,i,d=>by
  rw[q8,cp];grind
 |k+1,i,d=>by
  have aC:i+1<ks.length:=by omega
  have aI:dj .i64 ((i+1:Nat):Int) 1=(i:Int):=by rw[hP];omega
  rw[q8,bz,aI];simp only[aT,ao];rw[ae (aQ (by omega)),bz,ae (aQ aC),bz,bc,bc];simp only[I.aU];rw[vQ (a _ (bg (by omega) au)) (a _ (bg aC au))];simp only[ao];by_cases b:hc (ks.getD i au) (ks.getD (i+1) au)<0
  . rw[ak (by simpa using b),bH];rcases Sg c a af (x:=x) (l:=l) (L:=L) (z0:=z0) (z1:=z1) (z2:=z2) (z3:=z3) (z4:=z4) (z5:=z5) (z6:=z6) (z7:=z7) (z8:=z8) (z9:=z9) (z10:=z10) (z11:=z11) k (i+1) (by omega)with⟨h1,e⟩|h
    . grind
    grind
  . rw[ae (by simpa using b),zC c];grind
theorem adT{l:List cO}(id:Int)(af:l.length<=90000):(∃j,j<l.length/\l.find? (λf=>decide (f.ad=id))=some (l.getD j gu)/\yl (l,id)=some (j:Int))\/
 (l.find? (λf=>decide (f.ad=id))=none/\yl (l,id)=some (-1)):=by
 have h:=q3 (λi=>pc (l,id,(i:Int))) l.length (λi=>decide ((l.getD i gu).ad=id)) (λi=>.inl (i:Int)) (.inr ())
  (λi a=>by
   rw[pc,bz,ae (aQ a),bH]
   grind)
  (by rw[pc,bx])
 have cW:pc (l,id,((0:Nat):Int))=pc (l,id,0):=rfl;simp only[cW]at h;rw[yl];rcases h with⟨j,h1,c,d,b⟩|⟨h1,b⟩
 . left;refine⟨j,h1,?_,by rw[b];rfl⟩;rw[du h1]at c⊢;rw[B1];refine⟨c,j,h1,rfl,λk g=>?_⟩;have:=d k g;rw[du (by omega)]at this;simpa using this
 . right;refine⟨?_,by rw[b];rfl⟩;rw[yt];intro f e;obtain⟨i,a,rfl⟩:=e5 e;have:=h1 i a;rw[du a]at this;simpa using this
theorem Sm {x:ah}{path:aq}(E:path.length<=900){f:Int->aj->Option I}{l:List cO}(af:l.length<=90000)(z:x.ag.length<=16){L:Int}
 (h:∀m,m∈x.ag->∀q,q∈l->∀step,lD ts (f m.av q.Data) L path m.av q.Data step)
 {z0 z2 z4 z5 z7 z9 z11:Int}{z1 z6 z8:Bool}{z3 z10:aj}:∀(k i:Nat) (acc:List I),i+k=x.ag.length->acc.length=i->
 (∀m,ch (d' f l) (x.ag.drop i)=some m->mx (L,path,l,(i:Int),ts,x,z0,z1,z2,z3,z4,z5,z6,z7,z8,z9,z10,z11,acc)=some (.inr (path,l,x,z0,z1,z2,z3,z4,z5,z6,z7,z8,z9,z10,z11,acc++m)))/\
 (ch (d' f l) (x.ag.drop i)=none->∃F,mx (L,path,l,(i:Int),ts,x,z0,z1,z2,z3,z4,z5,z6,z7,z8,z9,z10,z11,acc)=some (.inl ⟨eg,F,false⟩))
 |0,i,acc,C,B=>by
  rw[mx,cp,en (by omega),ch];grind
 |k+1,i,acc,C,B=>by
  have aC:i<x.ag.length:=by omega
  have D:=bg aC ay;have e:x.ag.drop i=x.ag.getD i ay::x.ag.drop (i+1):=by rw[du aC];exact lr aC
  have go:∀v,(∀n,ch (d' f l) (x.ag.drop (i+1))=some n->mx (L,path,l,((i+1:Nat):Int),ts,x,z0,z1,z2,z3,z4,z5,z6,z7,z8,z9,z10,z11,acc++[v])=some (.inr (path,l,x,z0,z1,z2,z3,z4,z5,z6,z7,z8,z9,z10,z11,acc++[v]++n)))/\(ch (d' f l) (x.ag.drop (i+1))=none->∃F,mx (L,path,l,((i+1:Nat):Int),ts,x,z0,z1,z2,z3,z4,z5,z6,z7,z8,z9,z10,z11,acc++[v])=some (.inl ⟨eg,F,false⟩)):=λv=>
   Sm E af z h k (i+1) (acc++[v]) (by omega) (by simp;omega)
  rw [mx,bz,ae (aQ aC),bc,e,qB];simp only [aT,ao];generalize x.ag.getD i ay = a at *;have w:∀ (v:I) (d:Option _),d' f l a = some v->d = mx (L,path,l,((i+1:Nat):Int),ts,x,z0,z1,z2,z3,z4,z5,z6,z7,z8,z9,z10,z11,acc++[v])->
   (∀m,xm (d' f l a) (ch (d' f l) (x.ag.drop (i+1)))=some m->d=some (.inr (path,l,x,z0,z1,z2,z3,z4,z5,z6,z7,z8,z9,z10,z11,acc++m)))/\
   (xm (d' f l a) (ch (d' f l) (x.ag.drop (i+1)))=none->∃F,d=some (.inl ⟨eg,F,false⟩)):=by
   intro v d c A;obtain⟨G,y⟩:=go v;rw[c,A];cases hs:ch (d' f l) (x.ag.drop (i+1))with
   |none=>exact⟨λm b=>(by cases b),λ_=>y hs⟩
   |some n=>
    refine⟨λm b=>?_,λh=>(by cases h)⟩;have:m=v::n:=(by cases b;rfl)
    grind
  rcases adT a.ad af with⟨j,u,g,r⟩|⟨g,r⟩
  . rw[r];simp only[ao];rw[bx,ae (aQ u),bc,mW (by omega)];have s:=h a D _ (bg u gu) a.ad;have o:d' f l a=f a.av (l.getD j gu).Data:=by unfold d';rw[g]
    simp only[ao];cases c:f a.av (l.getD j gu).Data with
    |none=>
     obtain⟨F,p⟩:=s.no (by omega) c;rw[p,o,c];exact⟨λm b=>(by cases b),λ_=>⟨F,by simp[I.aU]⟩⟩
    |some v=>
     obtain⟨F,p⟩:=s.yes (by omega) c;rw[p];simp only[ao,I.aU,dn];rw[bx,ae (cS),bH];grind
  . rw[r];simp only[ao];rw[hT];cases t:a.bZ with
    |true=>
     rw[bx];simp only[I.aU];rw[ae (cS),bH];exact w a.bu _ (by unfold d';rw[g];simp[t]) rfl
    |false=>
     have o:d' f l a=none:=by unfold d';rw[g];simp[t]
     rw[hT,mW (by omega),o];simp only[ao];rw[zC (by simp;omega)];simp only[ao,I.aU];exact⟨λm b=>(by cases b),λ_=>⟨_,rfl⟩⟩
theorem agS(f:x.ag.length<=1000)(id:Int):∃r,hJ (x,id)=some r/\r.2=(cz x.ag id).isSome:=by
 obtain⟨r,e,c⟩:=C2 (t:=x) (id:=id) (by omega);refine⟨r,e,?_⟩;cases bw:cz x.ag id with
 |some m=>
  obtain⟨d,k⟩:=jP bw;rcases c with⟨j,a,b,_,rfl⟩|⟨q,_⟩
  . rfl
  . obtain⟨i,g,rfl⟩:=e5 d;grind
 |none=>
  rcases c with⟨j,a,b,_,_⟩|⟨_,q⟩
  . exact absurd b (nI bw _ (bg a ay))
  grind
theorem F3 {x:ah}{path:aq}(g:path.length<=900)(b:x.ag.length<=1000){l:List cO}(af:l.length<=90000)
 {z0 z2 z4 z5 z7 z9 z11:Int}{z1 z6 z8:Bool}{z3 z10:aj}{its:List I}:∀(k i:Nat) (acc:List bX),i+k=l.length->acc.length<=i->
 ((l.drop i).all (fv x)=true->o9 (path,l,(i:Int),x,z0,z1,z2,z3,z4,z5,z6,z7,z8,z9,z10,z11,its,acc)=some (.inr (z0,z1,z2,z3,z4,z5,z6,z7,z8,z9,z10,z11,its,acc++eO x (l.drop i))))/\
 ((l.drop i).all (fv x)=false->∃F,o9 (path,l,(i:Int),x,z0,z1,z2,z3,z4,z5,z6,z7,z8,z9,z10,z11,its,acc)=some (.inl ⟨eg,F,false⟩))
 |0,i,acc,o,m=>by
  rw[o9,cp,en (by omega)];exact⟨λ_=>by simp[eO],λh=>by simp at h⟩
 |k+1,i,acc,o,m=>by
  have aC:i<l.length:=by omega
  have e:l.drop i=l.getD i gu::l.drop (i+1):=by rw[du aC];exact lr aC
  obtain⟨r,p,j⟩:=agS b (l.getD i gu).ad;rw[o9,bz,ae (aQ aC),bc,e];simp only[aT,ao];generalize l.getD i gu=f at*;rw[p];simp only[ao];have n:(f::l.drop (i+1)).all (fv x)=(fv x f&&(l.drop (i+1)).all (fv x)):=rfl;rw[n];cases hs:(cz x.ag f.ad).isSome with
  |true=>
   have a:fv x f=true:=by unfold fv;rw[hs];rfl
   have c:eO x (f::l.drop (i+1))=eO x (l.drop (i+1)):=by unfold eO;rw[Ft (by rw[hs];simp)]
   rw[j,hs,ae rfl,a,c,bH,mS];exact F3 g b af k (i+1) acc (by omega) (by omega)
  |false=>
   rw[j,hs,bx,ae (aQ aC)];cases d:f.cf with
   |true=>
    have a:fv x f=false:=by unfold fv;rw[hs,d];rfl
    rw[ae rfl,ae (aQ aC),mW (by omega),a];simp only[ao];rw[zC (by simp;omega)];exact⟨λh=>(by cases h),λ_=>⟨_,rfl⟩⟩
   |false=>
    have a:fv x f=true:=by unfold fv;rw[hs,d];rfl
    have c:eO x (f::l.drop (i+1))=⟨f.ad,f.Data⟩::eO x (l.drop (i+1)):=by unfold eO;rw[Fu (by rw[hs];rfl)];rfl
    rw[bx,ae (aQ aC),ae (aQ aC),ae (cS),a,c,bH,mS];have:=F3 g b af (z0:=z0) (z1:=z1) (z2:=z2) (z3:=z3) (z4:=z4) (z5:=z5) (z6:=z6) (z7:=z7) (z8:=z8) (z9:=z9) (z10:=z10) (z11:=z11) (its:=its) k (i+1) (acc++[⟨f.ad,f.Data⟩]) (by omega) (by simp;omega);grind
def oI(ts:List ah)(n:Nat):Prop:=∀(t:Int) (p:aj) (path:aq),0<=t->t<ts.length->p.length<=4096->path.length+n<=200->
 fI (cP ts n t p) (jN ((⟨ts⟩:aS),t,p,((201-n:Nat):Int),path))
theorem oI.part{n:Nat}(ih:oI ts n)(aE:n+1<=200)(t0:0<=t/\t<ts.length)(a:q.length<=4096)(c:path.length+(n+1)<=200)(step:Int):
 lD ts (cP ts n t q) ((201-(n+1):Nat):Int) path t q step:=by
 unfold lD;rw[mW (by omega)];have e:aM .i64 ((201-(n+1):Nat):Int) 1=((201-n:Nat):Int):=by rw[bH];omega
 rw[e];exact ih t q (path++[step]) t0.1 t0.2 a (by simp;omega)
theorem fI.cast{c:Option I}{a:Option cU}(e:o=c)(h:fI o a):fI c a:=e▸h
theorem fI.rG{a:Option cU}(h:a=some ⟨eg,F,false⟩):fI none a:=⟨λv h=>(by cases h),λ_=>⟨F,h⟩⟩
theorem fI.wW{a:Option cU}(h:a=some ⟨v,F,true⟩):fI (some v) a:=⟨λe c=>(by cases c;exact⟨F,h⟩),λh=>(by cases h)⟩
theorem adU(H:jq ts){n:Nat}(aE:n+1<=200)(ih:oI ts n)(l:x∈ts)(d:x.Kind=6)(L:p.length<=4096)(y:path.length+(n+1)<=200):
 fI (oC (cP ts n) x p) (B6 ((⟨ts⟩:aS),x,p,((201-(n+1):Nat):Int),path)):=by
 obtain⟨o,_,C,D,E⟩:=ack p;rw[B6,C];simp only[aT,ao];unfold oC;by_cases h0:o.2.2=0
 . obtain⟨v1,M,v3⟩:=D h0;obtain⟨w,J⟩:=H.S.A x l (.inr d);rw[ak (by simp[h0]),v1];dsimp only;obtain⟨r,G,u⟩:=C2 (t:=x) (id:=o.1) (by omega);rw[G];simp only[ao];cases bw:cz x.ag o.1 with
   |some m=>
    dsimp only;obtain⟨e,s⟩:=jP bw;rcases u with⟨j,a,c,_,rfl⟩|⟨q,_⟩
    . have B:x.ag.getD j ay=m:=pJ w (bg a ay) e (by rw[c,s]);rw[bx,bx,ae (aQ a),bc,B];have f:=ih.part aE (t:=m.av) (q:=o.2.1) (path:=path) (H.mem l e) (by omega) y o.1;rw[mW (by omega)];simp only[ao];cases k:cP ts n m.av o.2.1 with
      |none=>
       obtain⟨F,b⟩:=f.no (by omega) k;rw[b];exact .rG rfl
      |some v=>
       obtain⟨F,b⟩:=f.yes (by omega) k;rw[b];simp only[ao];rw[bx,um];refine fI.cast rfl (fI.wW (F:=⟨[],0⟩) ?_);simp[I.aU,d]
    . obtain⟨i,g,rfl⟩:=e5 e;exact absurd s (by have:=q i g;rwa [du g]at this)
   |none=>
    dsimp only;have z:r=(0,false):=by
     rcases u with⟨j,a,c,_,_⟩|⟨_,q⟩
     . exact absurd c (nI bw _ (bg a ay))
     . exact q
    rw[z];cases K:x.Open with
    |false=>
     rw[bx,hT];exact jA (by omega) _
    |true=>
     rw[hT,bx,hT,um,d];refine fI.wW (F:=⟨[],0⟩) ?_;simp[I.aU]
 . rw[ae (by simp[h0]),E h0];exact jA (by omega) _
theorem adV(H:jq ts){n:Nat}(aE:n+1<=200)(ih:oI ts n)(g:x∈ts)(e4:x.Kind=7)(s:p.length<=4096)(c:path.length+(n+1)<=200):
 fI (mc (cP ts n) x p) (CX ((⟨ts⟩:aS),x,p,((201-(n+1):Nat):Int),path)):=by
 obtain⟨o,_,j,k,m⟩:=Kv (p:=p) (by omega);rw[CX,j];unfold mc;simp only[aT,ao];by_cases h0:o.2=0
 . obtain⟨v1,r,v3⟩:=k h0;rw[v1];dsimp only;by_cases b:(o.1.length:Int)<=x.Max
   . rw[ae b,ak (by simp[h0]),cp];obtain⟨gK,a⟩:=Sk (ts:=ts) (x:=x) (path:=path) (by omega) (f:=cP ts n x.aG) (l:=o.1) (by omega) (L:=((201-(n+1):Nat):Int)) (λq d step=>ih.part aE (H.elem g (by omega)) (by have:=r q d;omega) c step)
      (z0:=0) (z1:=false) (z2:=0) (z3:=[]) (z4:=0) (z5:=0) (z6:=false) (z7:=x.Kind) (z8:=false) (z9:=0) (z10:=[]) (z11:=0) o.1.length 0 [] (by omega) rfl
     rw[fL]at gK a;have z0:((0:Nat):Int)=0:=rfl;rw[z0]at gK a;cases hs:ch (cP ts n x.aG) o.1 with
     |none=>
      obtain⟨F,e⟩:=a hs;rw[e];exact .rG rfl
     |some i=>
      rw[gK i hs];simp only[ao];rw[um];refine fI.cast rfl (fI.wW (F:=⟨[],0⟩) ?_);simp[I.aU,e4]
   . rw[ak b,ak (by simp[h0]),bz];exact jA (by omega) _
 . rw[ae (by simp[h0]),m h0];exact jA (by omega) _
theorem agN(H:jq ts){n:Nat}(aE:n+1<=200)(ih:oI ts n)(u:x∈ts)(v:x.Kind=8)(P:p.length<=4096)(s:path.length+(n+1)<=200):
 fI (oD (cP ts n) x p) (Cc ((⟨ts⟩:aS),x,p,((201-(n+1):Nat):Int),path)):=by
 obtain⟨o,_,J,K,M⟩:=Kv (p:=p) (by omega);rw[Cc,J];unfold oD;simp only[aT,ao];by_cases h0:o.2=0
 . obtain⟨v1,w,v3⟩:=K h0;rw[v1];dsimp only;have B:b' (o.1.length:Int) 2=((o.1.length%2:Nat):Int):=by rw[ho];omega
   rw[B,Sf (by omega)];by_cases he:o.1.length%2=0
   . by_cases r:((o.1.length/2:Nat):Int)<=x.Max
     . rw[ae (show o.1.length%2=0/\((o.1.length/2:Nat):Int)<=x.Max from⟨he,r⟩),ak (show ¬(bif !decide (o.2=0)then true else decide (((o.1.length%2:Nat):Int)=1))=true by rw[he,h0];simp),ak (show ¬decide (x.Max<((o.1.length/2:Nat):Int))=true by simp only[dw];omega)];have z0:((0:Nat):Int)=0:=rfl;obtain⟨gK,g⟩:=Sj (ts:=ts) (x:=x) (path:=path) (by omega) (f:=cP ts n x.Key) (l:=o.1) (by omega) (L:=((201-(n+1):Nat):Int)) (λq d step=>ih.part aE (H.key u v) (by have:=w q d;omega) s step)
        (z0:=0) (z1:=false) (z2:=0) (z3:=[]) (z4:=0) (z5:=0) (z6:=false) (z7:=x.Kind) (z8:=false) (z9:=0) (z10:=[]) (z11:=0) (o.1.length/2) 0 [] (by omega) rfl
       rw[Nat.mul_zero,fL,z0]at gK g;cases hs:ch (cP ts n x.Key) (e0 o.1)with
       |none=>
        obtain⟨F,e⟩:=g hs;rw[e];exact .rG rfl
       |some ks=>
        have O:=qA hs;have N:=IC o.1;rw[gK ks hs];simp only[ao,fZ];have A:∀y,y∈ks->cy y.bf:=λy C=>by
         obtain⟨a,_,a2⟩:=pK hs y C;exact L7 a2
        have one:((0+1:Nat):Int)=1:=rfl;rcases Sg (ts:=ts) (x:=x) (path:=path) (by omega) (l:=o.1) (ks:=ks) A (by omega) (L:=((201-(n+1):Nat):Int))
         (z0:=0) (z1:=false) (z2:=0) (z3:=[]) (z4:=0) (z5:=0) (z6:=false) (z7:=x.Kind) (z8:=false) (z9:=0) (z10:=[]) (z11:=0) (ks.length-(0+1)) 0 rfl with⟨h1,b⟩|⟨⟨m,E,G⟩,F,b⟩
        . have c:oP ks=true:=tB.2 λi z=>h1 i (by omega) z;rw[one]at b;rw[b,ae c];simp only[ao];obtain⟨j,k⟩:=PJ (ts:=ts) (x:=x) (path:=path) (by omega) (f:=cP ts n x.aG) (l:=o.1) (by omega) (L:=((201-(n+1):Nat):Int)) (λq d step=>ih.part aE (H.elem u (by omega)) (by have:=w q d;omega) s step)
           (z0:=0) (z1:=false) (z2:=0) (z3:=[]) (z4:=0) (z5:=0) (z6:=false) (z7:=x.Kind) (z8:=false) (z9:=0) (z10:=[]) (z11:=0) (ks:=ks) (o.1.length/2) 0 [] (by omega) rfl
          rw[Nat.mul_zero,fL,z0]at j k;cases t:ch (cP ts n x.aG) (e6 o.1)with
          |none=>
           obtain⟨F,e⟩:=k t;rw[e];exact .rG rfl
          |some D=>
           rw[j D t];simp only[ao];rw[um];refine fI.cast rfl (fI.wW (F:=⟨[],0⟩) ?_);simp[I.aU,v]
        . have c:¬oP ks=true:=λh=>G (tB.1 h m E);rw[one]at b;rw[b,ak c];exact .rG rfl
     . rw[ak (show ¬(o.1.length%2=0/\((o.1.length/2:Nat):Int)<=x.Max)fromλh=>r h.2),ak (show ¬(bif !decide (o.2=0)then true else decide (((o.1.length%2:Nat):Int)=1))=true by rw[he,h0];simp),ae (show decide (x.Max<((o.1.length/2:Nat):Int))=true by simp only[dw];omega)];exact jA (by omega) _
   . have h1:o.1.length%2=1:=(by omega);rw[ak (show ¬(o.1.length%2=0/\((o.1.length/2:Nat):Int)<=x.Max)fromλh=>he h.1),ae (show(bif !decide (o.2=0)then true else decide (((o.1.length%2:Nat):Int)=1))=true by rw[h1,h0];simp)];exact jA (by omega) _
 . rw[M h0,ae (by simp[h0])];exact jA (by omega) _
theorem adz(H:jq ts){n:Nat}(aE:n+1<=200)(ih:oI ts n)(e:x∈ts)(g:x.Kind=5)(y:p.length<=4096)(j:path.length+(n+1)<=200):
 fI (mb (cP ts n) x p) (Cp ((⟨ts⟩:aS),x,p,((201-(n+1):Nat):Int),path)):=by
 obtain⟨v,w⟩:=H.S.A x e (.inl g);obtain⟨o,_,r,s,t⟩:=Zg (p:=p) (by omega);rw[Cp,r];unfold mb;simp only[aT,ao];by_cases h0:o.2=0
 . obtain⟨v1,u,v3,v4⟩:=s h0;rw[ak (by simp[h0]),v1];dsimp only;obtain⟨gK,c⟩:=Sm (ts:=ts) (x:=x) (path:=path) (by omega) (f:=cP ts n) (l:=o.1) (by omega) (by omega) (L:=((201-(n+1):Nat):Int)) (λm i q k step=>ih.part aE (H.mem e i) (by have:=(u q k).1;omega) j step)
    (z0:=0) (z1:=false) (z2:=0) (z3:=[]) (z4:=0) (z5:=0) (z6:=false) (z7:=x.Kind) (z8:=false) (z9:=0) (z10:=[]) (z11:=0) x.ag.length 0 [] (by omega) rfl
   have z0:((0:Nat):Int)=0:=rfl;rw[fL,z0]at gK c;have B:=λits=>F3 (x:=x) (path:=path) (by omega) (by omega) (l:=o.1) (by omega) (z0:=0) (z1:=false) (z2:=0) (z3:=[]) (z4:=0) (z5:=0) (z6:=false) (z7:=x.Kind) (z8:=false) (z9:=0) (z10:=[]) (z11:=0) (its:=its) o.1.length 0 [] (by omega) (dU _);rw[fL,z0]at B;cases hs:ch (d' (cP ts n) o.1) x.ag with
   |none=>
    obtain⟨F,a⟩:=c hs;rw[a];exact .rG rfl
   |some b=>
    rw[gK b hs];simp only[ao,fZ];cases d:o.1.all (fv x)with
    |true=>
     rw[(B b).1 d,ae rfl];simp only[ao];rw[um];refine fI.cast rfl (fI.wW (F:=⟨[],0⟩) ?_);simp[I.aU,g]
    |false=>
     obtain⟨F,a⟩:=(B b).2 d;rw[a,bx];exact .rG rfl
 . rw[ae (by simp[h0]),t h0];exact jA (by omega) _
theorem abw(H:jq ts){n:Nat}(aE:n+1<=200)(ih:oI ts n):oI ts (n+1):=λt p path t0 t1 f g=>by
 obtain⟨j,rfl⟩:=BN t0;have z:j<ts.length:=by omega
 have a:¬(200:Int)<((201-(n+1):Nat):Int):=by omega
 rw[jN,ae (aQ z),qC,bc];have d:=bg z aN;generalize ts.getD j aN=x at*;obtain⟨ab,af⟩:=H.S.K x d;have P:x.bj.length<9223372036854775807:=dB (iv (H.S.T x d).1);unfold oE;obtain⟨u,_,aa,G,J⟩:=Z8 p;have A:yc p=some (u.1,decide (u.2=0)):=by rw[yc,aa];rfl
 by_cases R:x.Kind=1
 . simp only[R,a,dw,↓reduceIte,Int.reduceEq,di,dW,bV,aT,ao];unfold uu;by_cases h0:p=[]
   . rw[ae h0,ak (by simp[h0])];simp only[h0,dp,dn];exact .one _
   . by_cases h1:p=[1]
     . rw[ak h0,ae h1,ak (by simp[h1])];simp only[h0,di,eN];exact .one _
     . rw[ak h0,ak h1,ae (by simp[h0,h1])];exact jA (by omega) _
 by_cases U:x.Kind=2
 . simp only[U,a,dw,↓reduceIte,Int.reduceEq,di,dW,bV,aT,ao,A];unfold uv;by_cases h0:u.2=0
   . obtain⟨m,i,r⟩:=G h0;rw[i,r,adR (D0 i),ak (by simp[h0])];simp only[ao];by_cases b:x.bC<=iq m/\iq m<=x.bG
     . rw[ae b,cp];exact .one _
     . rw[ak b,bz];exact jA (by omega) _
   . rw[J h0,ae (by simp[h0])];exact jA (by omega) _
 by_cases V:x.Kind=3
 . simp only[V,a,dw,↓reduceIte,Int.reduceEq,di,dW,bV,aT,ao];unfold uw;by_cases b:(p.length:Int)<=x.Max
   . rw[ae b,a8];exact .one _
   . rw[ak b,eT];exact jA (by omega) _
 by_cases W:x.Kind=4
 . simp only[W,a,dw,↓reduceIte,Int.reduceEq,di,dW,bV,aT,ao,A];unfold ux;by_cases h0:u.2=0
   . obtain⟨m,i,r⟩:=G h0;rw[i,r];dsimp only;by_cases b:1<=m/\m<=1000
     . obtain⟨q,_,Y,Z⟩:=qW (t:=x) (m:Int) P;have e:bY .i64 (m:Int)=(m:Int):=jI;rw[ak (show ¬(bif bif !decide (u.2=0)then true else decide ((m:Int)<1)then true else decide (1000<(m:Int)))=true by simp[h0];omega),e,Y];simp only[ao];have O:q.2=(x.bj.any λy=>decide (y.ad=(m:Int))):=by
        have:=(DH Z).trans Eg;grind
       rw[O];by_cases s:((x.bj.any λy=>decide (y.ad=(m:Int)))||x.Open)=true
       . rw[ae (show 1<=m/\m<=1000/\((x.bj.any λy=>decide (y.ad=(m:Int)))||x.Open)=true from⟨b.1,b.2,s⟩),ak]
         . exact .one _
         grind
       . rw[ak (show ¬(1<=m/\m<=1000/\((x.bj.any λy=>decide (y.ad=(m:Int)))||x.Open)=true)fromλh=>s h.2.2),ae]
         . exact jA (by omega) _
         grind
     . rw[ak (show ¬(1<=m/\m<=1000/\((x.bj.any λy=>decide (y.ad=(m:Int)))||x.Open)=true)fromλh=>b ⟨h.1,h.2.1⟩),ae (by simp[h0];omega)];exact jA (by omega) _
   . rw[J h0,ae (by simp[h0])];exact jA (by omega) _
 by_cases X:x.Kind=9
 . obtain⟨aI,M⟩:=H.elem d (by omega);simp only[X,a,dw,↓reduceIte,Int.reduceEq,di,dp,dW,ev,bV,aT,ao];cases p with
   |nil=>
    rw[bx,me];exact .one _
   |cons c q=>
    have Q:aH 0 (c::q).length=true:=aQ (k:=0) (by simp);have b0:fz (c::q) 0=(c.toNat:Int):=rfl;have rS:dY 1 ((c::q).length:Int) (c::q).length=true:=iN.2 (by simp<;>omega);have L:ef (c::q) 1 ((c::q).length:Int)=q:=by
     unfold ef;simp
    rw[hT,ae Q,b0,me];by_cases l:c=1
    . subst l;rw[ae rfl,bx,ae rS,L];have w:=ih.part aE (t:=x.aG) (q:=q) (path:=path) ⟨aI,M⟩ (by simp at f;omega) g 0;rw[mW (by omega)];simp only[ao];cases B:cP ts n x.aG q with
      |none=>
       obtain⟨F,o⟩:=w.no (by omega) B;rw[o];exact .rG rfl
      |some v=>
       obtain⟨F,o⟩:=w.yes (by omega) B;rw[o];simp only[ao];rw[bx,um];refine fI.cast rfl (fI.wW (F:=⟨[],0⟩) ?_);simp[I.aU]
    . have N:¬((c.toNat:Int)=1):=λh=>l (UInt8.toNat.inj (by show c.toNat=1;omega));rw[ak l,ae (by simpa using N)];exact jA (by omega) _
 by_cases D:x.Kind=6
 . have:=(adU H aE ih d D f (path:=path) g).eta;simp only[D,a,dw,↓reduceIte,Int.reduceEq,di,dW,bV,aT,ao];exact this
 by_cases e4:x.Kind=7
 . have:=(adV H aE ih d e4 f (path:=path) g).eta;simp only[e4,a,dw,↓reduceIte,Int.reduceEq,di,dW,bV,aT,ao];exact this
 by_cases E:x.Kind=8
 . have:=(agN H aE ih d E f (path:=path) g).eta;simp only[E,a,dw,↓reduceIte,Int.reduceEq,di,dW,bV,aT,ao];exact this
 have C:x.Kind=5:=by omega
 have:=(adz H aE ih d C f (path:=path) g).eta;simp only[C,a,dw,↓reduceIte,Int.reduceEq,di,dW,bV,aT,ao];exact this
theorem Ns(H:jq ts):∀n,n<=200->oI ts n
 |0,_=>λt p path t0 t1 b c=>by
  obtain⟨j,rfl⟩:=BN t0;have a:j<ts.length:=by omega
  rw[jN,ae (aQ a)];simp only[aT,ao];rw[hT,zY];exact jA (by omega) _
 |n+1,aE=>abw H aE (Ns H n (by omega))
end
theorem adA(n:Nat):(fF (iq n)).toNat=n:=by
 unfold iq fF;omega
theorem N3:∀(k:Nat) (s:aj),s.length=k->s.head?≠some 0->fe (gi 0 s)=s
 |0,s,d,h=>by
  have:s=[]:=jE d;subst this;rw[gi,fe,ae rfl]
 |k+1,s,d,h=>by
  have f:s≠[]:=λh0=>by rw[h0]at d;cases d
  have es:=List.dropLast_concat_getLast f;generalize s.getLast f=b at es;have af:s.dropLast.length=k:=by simp[d]
  generalize s.dropLast=c at es af;subst es;have i:b.toNat<256:=BX b;rw[HV];by_cases h0:c=[]
  . subst h0;have g:b≠0:=λe=>h (by rw[e];rfl);have:b.toNat≠0:=λe=>g (UInt8.toNat.inj e);show fe (0*256+b.toNat)=[b];rw[fe,a8,show(0*256+b.toNat)/256=0 by omega,fe,ae rfl,show(0*256+b.toNat)%256=b.toNat by omega];simp
  . have ih:=N3 k c af (λe=>h (by cases c with|nil=>exact absurd rfl h0|cons a l=>simpa using e));have j:gi 0 c≠0:=λe=>by rw[e,fe,ae rfl]at ih;exact h0 ih.symm
    rw[fe,a8,show(gi 0 c*256+b.toNat)/256=gi 0 c by omega,ih,show(gi 0 c*256+b.toNat)%256=b.toNat by omega];simp
theorem Nt{s:aj}{n:Nat}(h:gJ s=some n):fe n=s:=by
 unfold gJ at h;split at h
 . cases h
 . rename_i aa;cases h;exact N3 _ s rfl (λe=>aa (.inl e))
theorem PK(s:aj):∀(f i n m k:Nat),hD s f i n=((m:Int),(k:Int),0)->∃q,m=n+q*2^(7*i)/\s.drop i=dM q++s.drop k/\(0<i->0<q)
 |0,i,n,m,k,h=>by rw[hD]at h;simp at h
 |f+1,i,n,m,k,h=>by
  rw[hD]at h;split at h
  . rename_i b;have a:s.drop i=s.getD i 0::s.drop (i+1):=by rw[du b];exact lr b
    have o:(s.getD i 0).toNat<256:=BX _;generalize s.getD i 0=c at*;split at h
    . simp at h
    . split at h
      . rename_i d;obtain⟨q,t,j,l⟩:=PK s f (i+1) _ m k h;have r:=l (by omega);refine⟨c.toNat%128+128*q,?_,?_,λ_=>by omega⟩
        . grind
        . rw[nQ (by omega),show(c.toNat%128+128*q)/128=q by omega,show(c.toNat%128+128*q)%128+128=c.toNat by omega,a,j];simp
      . rename_i d;split at h
        . simp at h
        . rename_i h0;simp only[bE,qa]at h;have g:m=n+c.toNat*2^(7*i):=by have:=h.1;exact_mod_cast this.symm
          have e:k=i+1:=by have:=h.2;exact_mod_cast this.symm
          refine⟨c.toNat,g,?_,λp=>?_⟩
          . rw[pB (by omega),a,e];simp
          omega
  . simp at h
theorem HW{s:aj}{m k:Nat}(h:hD s 10 0 0=((m:Int),(k:Int),0)):s=dM m++s.drop k:=by
 obtain⟨q,a,b,_⟩:=PK s 10 0 0 m k h;grind
theorem Lx{s a b:aj}(h:iE s=some (a,b)):s=dg a++b:=by
 unfold iE at h;rcases lC s with⟨e,he,c⟩|⟨m,k,c,j,i,l⟩
 . grind
 . have cW:=HW c;rw[c]at h;dsimp only at h;split at h
   . rename_i g;simp only[bI,bE]at h;obtain⟨h1,d⟩:=h;have f:a.length=m:=by
      rw[<-h1,ox,l3];omega
     unfold dg;rw[f,hz,<-h1,<-d,yp];simpa using cW
   . cases h
theorem K7:∀(n:Nat) (s:aj) (b l:List aj),s.length<=n->s.length+b.length<=100000->hL (s,b)=some (.inr l)->∃c,l=b++c/\c.flatMap dg=s
 |n,s,b,l,aE,i,h=>by
  rw[hL]at h;by_cases h0:s=[]
  . simp_all
  . rw[ae (by simp[h0]),lV]at h;simp only[aT,ao]at h;cases a:iE s with
    |none=>
     rw[a]at h;simp[dT]at h
    |some r=>
     obtain⟨x,d⟩:=r;rw[a]at h;have af:=nJ a;have f:¬((!(dT (some (x,d))).2.2)=true):=(by simp[dT]);have g:room 16 (b++[(dT (some (x,d))).1]).length=true:=cS;rw[ak f,ae g]at h
     match n,aE with
     |0,aE=>omega
     |n+1,aE=>
      obtain⟨c,aI,e⟩:=K7 n d _ l (by omega) (by simp;omega) h;refine⟨x::c,by rw[aI];simp[dT],?_⟩;rw[eX,e];exact(Lx a).symm
theorem K8:∀(n:Nat) (s:aj) (b:List aj),s.length<=n->s.length+b.length<=100000->hL (s,b)=some (.inl 0)->False
 |n,s,b,aE,f,h=>by
  rw[hL]at h;by_cases h0:s=[]
  . grind
  . rw[ae (by simp[h0]),lV]at h;simp only[aT,ao]at h;cases a:iE s with
    |none=>
     rw[a]at h;simp[dT]at h
    |some r=>
     obtain⟨x,c⟩:=r;rw[a]at h;have af:=nJ a;have d:¬((!(dT (some (x,c))).2.2)=true):=(by simp[dT]);have e:room 16 (b++[(dT (some (x,c))).1]).length=true:=cS;rw[ak d,ae e]at h
     match n,aE with
     |0,aE=>omega
     |n+1,aE=>exact K8 n c _ (by omega) (by simp;omega) h
theorem Ky:∀(n:Nat) (s:aj) (last:Nat) (b:List cO),s.length<=n->s.length+b.length<=100000->gg ((last:Int),s,b)=some (.inl 0)->False
 |n,s,last,b,aE,i,h=>by
  rw[gg]at h;by_cases h0:s=[]
  . grind
  . rw[ae (by simp[h0])]at h;rcases lC s with⟨e,he,al⟩|⟨m,k,al,j,d,f⟩
    . rw[nP he al]at h;simp at h
    . rw[lU al d]at h;simp only[aT,ao,uj f]at h;split at h
      . cases h
      . rw[lV (by rw[l3];omega)]at h;simp only[ao]at h;cases a:iE (s.drop k)with
        |none=>
         rw[a]at h;simp[dT]at h
        |some r=>
         obtain⟨x,c⟩:=r;rw[a]at h;have af:=nJ a;rw[l3]at af;have g:¬((!(dT (some (x,c))).2.2)=true):=(by simp[dT]);rw[ak g]at h;split at h
         . match n,aE with
           |0,aE=>omega
           |n+1,aE=>exact Ky n c (m/2) _ (by omega) (by simp;omega) h
         . cases h
theorem D2(c:p.length<=90000){l:List aj}(h:ir p=some l):l.flatMap dg=p:=by
 unfold ir at h;rw[lf]at h;cases a:hL (p,[])with
 |none=>rw[a]at h;simp at h
 |some o=>
  rw[a]at h;cases o with
  |inl e=>
   by_cases he:e=0
   . simp[he]at h;exfalso;obtain⟨f,a1,_⟩:=H3 p.length p [] (by omega) (by simp;omega);exact K8 p.length p [] (by omega) (by simp;omega) (by rw[a,he])
   grind
  |inr l2=>
   have e:l2=l:=(by simpa using h);obtain⟨d,aI,b⟩:=K7 p.length p [] l2 (by omega) (by simp;omega) a;grind
def nL(f:cO):aj:=fa f.ad.toNat f.cf f.Data
theorem Kz:∀(n:Nat) (s:aj) (last:Nat) (b l:List cO),s.length<=n->s.length+b.length<=100000->gg ((last:Int),s,b)=some (.inr l)->
 ∃c,l=b++c/\c.flatMap nL=s
 |n,s,last,b,l,aE,t,h=>by
  rw[gg]at h;by_cases h0:s=[]
  . simp_all
  . rw[ae (by simp[h0])]at h;rcases lC s with⟨e,he,al⟩|⟨m,k,al,v,g,i⟩
    . rw[nP he al]at h;simp at h
    . have es:=HW al;rw[lU al g]at h;simp only[aT,ao,uj i]at h;by_cases u:((m/2:Nat):Int)<=(last:Int)\/1000<((m/2:Nat):Int)
      . grind
      . have:¬((bif bif (!true)then true else decide (((m/2:Nat):Int)<=(last:Int))then true else decide (1000<((m/2:Nat):Int)))=true):=(by grind);rw[ak this,lV (by rw[l3];omega)]at h;simp only[ao]at h;cases a:iE (s.drop k)with
        |none=>
         rw[a]at h;simp[dT]at h
        |some r=>
         obtain⟨x,d⟩:=r;rw[a]at h;have af:=nJ a;have q:=Lx a;rw[l3]at af;have j:¬((!(dT (some (x,d))).2.2)=true):=(by simp[dT]);have p:bY .i64 ((m/2:Nat):Int)=((m/2:Nat):Int):=jI;rw[ak j,p]at h;have o:room 32 (b++[(⟨((m/2:Nat):Int),decide (b' (m:Int) 2=1),(dT (some (x,d))).1⟩:cO)]).length=true:=cS;rw[ae o]at h
         match n,aE with
         |0,aE=>omega
         |n+1,aE=>
          obtain⟨c,aI,f⟩:=Kz n d (m/2) _ l (by omega) (by simp;omega) h;refine⟨⟨((m/2:Nat):Int),decide (b' (m:Int) 2=1),x⟩::c,by rw[aI];simp[dT],?_⟩;rw[eX,f];unfold nL fa;have w:2*(((m/2:Nat):Int)).toNat+(if (b' (m:Int) 2=1:Bool) then 1 else 0)=m:=by
           rw[ho];grind
          grind
theorem N4(c:p.length<=90000){l:List cO}(h:iS p=some l):l.flatMap nL=p:=by
 unfold iS at h;rw[lL]at h;have cW:gg (0,p,[])=gg (((0:Nat):Int),p,[]):=rfl;rw[cW]at h;cases a:gg (((0:Nat):Int),p,[])with
 |none=>rw[a]at h;simp at h
 |some o=>
  rw[a]at h;cases o with
  |inl e=>
   by_cases he:e=0
   . exfalso;exact Ky p.length p 0 [] (by omega) (by simp;omega) (by rw[a,he])
   grind
  |inr l2=>
   have e:l2=l:=(by simpa using h);obtain⟨d,aI,b⟩:=Kz p.length p 0 [] l2 (by omega) (by simp;omega) a;grind
theorem PL(h:jG p=some (id,q)):p=dM id.toNat++q:=by
 unfold jG at h;rw[lR]at h;rcases lC p with⟨e,he,al⟩|⟨m,k,al,d,a,f⟩
 . rw[nP he al]at h;simp at h
 . have es:=HW al;rw[lU al a]at h;simp only[aT,ao]at h;by_cases c:(m:Int)<1\/1000<(m:Int)
   . grind
   . have:¬((bif bif (!true)then true else decide ((m:Int)<1)then true else decide (1000<(m:Int)))=true):=(by grind);have b:bY .i64 (m:Int)=(m:Int):=jI;rw[ak this,b]at h;simp only[bS,bI,bE]at h;rw[<-h.1,<-h.2];simpa using es
theorem Ia{d:Type}{f:α->Option d}(d1:α)(d2:d):∀{l:List α} {m:List d},ch f l=some m->∀i,i<l.length->f (l.getD i d1)=some (m.getD i d2)
 |[],m,h,i,c=>by simp at c
 |a::l,m,h,i,c=>by
  rw[ch]at h;split at h
  . rename_i b g h1 e;cases h;cases i with
    |zero=>exact h1
    |succ i=>exact Ia d1 d2 e i (by simpa using c)
  . cases h
theorem PM:∀{l:List α},l.length%2=0->(e0 l).length=l.length/2/\(e6 l).length=l.length/2
 |[],_=>⟨by simp[e0],by simp[e6]⟩
 |[a],h=>by simp at h
 |a::b::l,h=>by
  obtain⟨h1,c⟩:=PM (l:=l) (by simp at h;omega);show(e0 l).length+1=(l.length+1+1)/2/\(e6 l).length+1=(l.length+1+1)/2;omega
theorem Dw:∀{l:List α} {y:α},y∈e6 l->y∈l
 |[],y,h=>by cases h
 |[_],y,h=>by cases h
 |a::b::l,y,h=>by
  rcases eU.1 h with rfl|h
  . grind
  . exact .tail _ (.tail _ (Dw h))
def mZ(l:List aj):Nat:=(l.map λq=>q.length+1).sum
theorem v'(q:aj)(l:List aj):mZ (q::l)=q.length+1+mZ l:=by unfold mZ;simp
theorem HX:∀(l:List aj),mZ l<=(l.flatMap dg).length
 |[]=>by simp[mZ]
 |q::l=>by
  have:=HX l;have:=nR q.length;have e:(dg q).length=(dM q.length).length+q.length:=by unfold dg;rw[cJ]
  rw[v',eX,cJ];omega
theorem Nu:∀(l:List aj),mZ (e0 l)+mZ (e6 l)<=mZ l
 |[]=>by simp[e0,e6,mZ]
 |[a]=>by simp[e0,e6,mZ]
 |a::b::l=>by
  have:=Nu l;rw[e0,e6,v',v',v',v'];omega
theorem D3{C:Nat}:∀{l:List aj} {m:List I},ch f l=some m->(∀q,q∈l->∀v,f q=some v->wt v<=C*(q.length+1))->cK m<=C*mZ l
 |[],m,h,_=>by rw[ch]at h;cases h;rw[gM];exact hA _
 |q::l,m,h,k=>by
  rw[ch]at h;split at h
  . rename_i b g h1 d;cases h;have a:=k q (.head _) b h1;have c:=D3 d (λq e=>k q (.tail _ e));rw[hn,v',Nat.mul_add];omega
  . cases h
def u4(l:List cO):Nat:=(l.map λf=>f.Data.length+1).sum
theorem N5(f:cO)(l:List cO):u4 (f::l)=f.Data.length+1+u4 l:=by unfold u4;simp
theorem N6:∀(l:List cO),u4 l<=(l.flatMap nL).length
 |[]=>by simp[u4]
 |f::l=>by
  have:=N6 l;have:=nR f.Data.length;have e:(nL f).length=(dM (2*f.ad.toNat+(if f.cf then 1 else 0))).length+((dM f.Data.length).length+f.Data.length):=by unfold nL fa dg;rw[cJ,cJ]
  rw[N5,eX,cJ];omega
def dm(C d:Nat)(l:List cO)(m:aR):Nat:=match l.find? (λf=>decide (f.ad=m.ad))with
 |some f=>C*(f.Data.length+1)
 |none=>d
def aF(C d:Nat)(l:List cO)(ms:List aR):Nat:=(ms.map (dm C d l)).sum
def oA(id:Int)(A:Nat)(ms:List aR):Nat:=(ms.map λm=>if m.ad=id then A else 0).sum
theorem Ib{A:Nat}:∀{ms:List aR},(∀m,m∈ms->m.ad≠id)->oA id A ms=0
 |[],_=>rfl
 |m::ms,h=>by
  have:=Ib (A:=A) (λm a=>h m (.tail _ a));unfold oA at this⊢;grind
theorem PN{id:Int}{A:Nat}:∀{ms:List aR},ms.Pairwise (λa b=>a.ad<b.ad)->oA id A ms<=A
 |[],_=>hA _
 |m::ms,h=>by
  rw[hV]at h;by_cases e:m.ad=id
  . have:oA id A ms=0:=Ib λx c=>by have:=h.1 x c;omega
    unfold oA at this⊢;grind
  . have:=PN (id:=id) (A:=A) h.2;unfold oA at this⊢;grind
theorem adB(C d:Nat)(f:cO)(l:List cO)(m:aR):dm C d (f::l) m<=(if m.ad=f.ad then C*(f.Data.length+1)else 0)+dm C d l m:=by
 unfold dm;grind
theorem N7(C d:Nat)(f:cO)(l:List cO):∀(ms:List aR),aF C d (f::l) ms<=oA f.ad (C*(f.Data.length+1)) ms+aF C d l ms
 |[]=>by simp[aF,oA]
 |m::ms=>by
  have a:=N7 C d f l ms;have b:=adB C d f l m;unfold aF oA at*;grind
theorem PO(C d:Nat):∀(ms:List aR),aF C d [] ms=d*ms.length
 |[]=>by simp[aF]
 |m::ms=>by
  have:=PO C d ms;unfold aF at*;simp only[fu,oy,gQ];rw[this,Nat.mul_succ];have:dm C d [] m=d:=rfl;omega
theorem PQ{C d:Nat}(cx:1<=C)(c:gT x.ag):∀(l:List cO),aF C d l x.ag+((eO x l).map λr=>r.Data.length+1).sum<=d*x.ag.length+C*u4 l
 |[]=>by rw[PO];simp[eO]
 |f::l=>by
  have ih:=PQ (d:=d) cx c l;have a:=N7 C d f l x.ag;rw[N5,Nat.mul_add];cases bw:cz x.ag f.ad with
  |some m=>
   have b:eO x (f::l)=eO x l:=by unfold eO;rw[Ft (by rw[bw];simp)]
   rw[b];have:=PN (id:=f.ad) (A:=C*(f.Data.length+1)) c.1;omega
  |none=>
   have b:eO x (f::l)=⟨f.ad,f.Data⟩::eO x l:=by unfold eO;rw[Fu (by rw[bw];rfl)];rfl
   have:oA f.ad (C*(f.Data.length+1)) x.ag=0:=Ib (nI bw);rw[b,fu,oy];have:f.Data.length+1<=C*(f.Data.length+1):=Nat.le_mul_of_pos_left _ cx;grind
theorem N8{C d:Nat}{f:Int->aj->Option I}{l:List cO}(i:∀(m:aR),m.bZ=true->True):∀{ms:List aR} {a:List I},(∀m,m∈ms->(m.bZ=true->wt m.bu<=d)/\∀g,g∈l->∀v,f m.av g.Data=some v->wt v<=C*(g.Data.length+1))->ch (d' f l) ms=some a->cK a<=aF C d l ms
 |[],a,_,h=>by rw[ch]at h;cases h;rw[gM];exact hA _
 |m::ms,a,k,h=>by
  rw[ch]at h;split at h
  . rename_i b o h1 e;cases h;have ih:=N8 (C:=C) (d:=d) i (λm j=>k m (.tail _ j)) e;have n:wt b<=dm C d l m:=by
     unfold d' at h1;unfold dm;cases c:l.find? (λf=>decide (f.ad=m.ad))with
     |some g=>
      rw[c]at h1;exact(k m (.head _)).2 g (BK c) b h1
     |none=>grind
    unfold aF at*;rw[hn,fu,oy];omega
  . cases h
theorem ID{l:List cO}{r:bX}(h:r∈eO x l):∃f,f∈l/\cz x.ag f.ad=none/\r=⟨f.ad,f.Data⟩:=by
 unfold eO at h;obtain⟨f,a,rfl⟩:=eJ.1 h;obtain⟨h1,b⟩:=rN.1 a;refine⟨f,h1,?_,rfl⟩;simp_all
theorem Nv{l:List cO}(d:l.Pairwise (λa b=>a.ad<b.ad))(e:∀f,f∈l->cj f.ad):jU x.ag (eO x l):=by
 refine⟨?_,λr c=>?_⟩
 . unfold eO;grind
 . obtain⟨f,f1,f2,rfl⟩:=ID c;grind
section
variable {ts:List ah}
def r7(ts:List ah)(t:Int)(p:aj)(v:I):Prop:=b6 ts false t v/\bK v/\wt v<=300*(p.length+1)
theorem mN{k:Int}{b:Bool}{i:Int}{s:aj}{a:List I}{r:List bX}(h0:0<=k/\k<=9)(h1:cy i)(g:0<=id/\id<=1000)(hs:s.length<=90000)(l:ks.length<=90000)(j:a.length<=90000)(m:r.length<=90000)
 (e:∀x,x∈ks->bK x)(f:∀x,x∈a->bK x)(d:∀x,x∈r->x.Data.length<=90000/\cj x.ad):bK ⟨k,b,i,s,id,ks,a,r⟩:=by
 refine .mk _ (by unfold reachBytes;show s.length<=_;omega) (by unfold reachBytes;show ks.length<=_;omega) (by unfold reachBytes;show a.length<=_;omega) (by unfold reachBytes;show r.length<=_;omega) e f (λx c=>by have:=(d x c).1;unfold reachBytes;omega) ?_ h1 ?_ (λx c=>by have:=(d x c).2;unfold cj at this;omega)
 . show -9223372036854775808<=k/\k<=9223372036854775807;omega
 . show -9223372036854775808<=id/\id<=9223372036854775807;omega
theorem acu(H:da ts){n:Nat}(ih:∀(t:Int) (p:aj) (v:I),p.length<=90000->0<=t->t<ts.length->cP ts n t p=some v->r7 ts t p v)(J:p.length<=90000)(t0:0<=t)(t1:t<ts.length)(h:cP ts (n+1) t p=some v):r7 ts t p v:=by
 rw[qC]at h;have aK:t.toNat<ts.length:=by omega
 have B:=bg aK aN;have cx:=H.fA;unfold r7;rw[eL];generalize ts.getD t.toNat aN=x at*;unfold oE at h;have jH:∀(k i id:Int) (b:Bool) (s:aj),wt ⟨k,b,i,s,id,[],[],[]⟩=10+s.length:=λk i id b s=>by rw[fw,gM];simp
 by_cases am:x.Kind=1
 . rw[ae am]at h;have:∃b,v=⟨1,b,0,[],0,[],[],[]⟩:=by
    unfold uu at h;grind
   obtain⟨b,rfl⟩:=this;exact⟨⟨⟨t0,t1,am.symm,λh=>by cases h⟩,.inl ⟨rfl,rfl,rfl,rfl,rfl,rfl,rfl⟩⟩,mN (by omega) lY (by omega) (by simp) (by simp) (by simp) (by simp) (by simp) (by simp) (by simp),by rw[jH];simp;omega⟩
 rw[ak am]at h;by_cases an:x.Kind=2
 . rw[ae an]at h;unfold uv at h;cases z:gJ p with
   |none=>rw[z]at h;cases h
   |some m=>
    rw[z]at h;dsimp only at h;split at h
    . rename_i G;cases h;exact⟨⟨⟨t0,t1,an.symm,λh=>by cases h⟩,.inr (.inl ⟨rfl,rfl,rfl,rfl,rfl,rfl,rfl,G.1,G.2⟩)⟩,mN (by omega) (OJ (D0 z)) (by omega) (by simp) (by simp) (by simp) (by simp) (by simp) (by simp) (by simp),by rw[jH];simp;omega⟩
    . cases h
 rw[ak an]at h;by_cases ao:x.Kind=3
 . rw[ae ao]at h;unfold uw at h;split at h
   . rename_i G;cases h;exact⟨⟨⟨t0,t1,ao.symm,λh=>by cases h⟩,.inr (.inr (.inl ⟨rfl,rfl,rfl,rfl,rfl,rfl,rfl,G⟩))⟩,mN (by omega) lY (by omega) (by omega) (by simp) (by simp) (by simp) (by simp) (by simp) (by simp),by rw[jH];omega⟩
   . cases h
 rw[ak ao]at h;by_cases ap:x.Kind=4
 . rw[ae ap]at h;unfold ux at h;cases z:gJ p with
   |none=>rw[z]at h;cases h
   |some m=>
    rw[z]at h;dsimp only at h;split at h
    . rename_i G;cases h;refine⟨⟨⟨t0,t1,ap.symm,λh=>by cases h⟩,.inr (.inr (.inr (.inl ⟨rfl,rfl,rfl,rfl,rfl,rfl,rfl,?_⟩)))⟩,mN (by omega) lY (by omega) (by simp) (by simp) (by simp) (by simp) (by simp) (by simp) (by simp),by rw[jH];simp;omega⟩;have O:=G.2.2;rw[hW]at O;rcases O with O|O
      . grind
      . exact .inr ⟨O,rfl,by unfold cj;show 1<=(m:Int)/\(m:Int)<=1000;omega⟩
    . cases h
 rw[ak ap]at h;by_cases Z:x.Kind=9
 . rw[ae Z]at h;obtain⟨aI,M⟩:=cx.elem B (by omega);cases p with
   |nil=>
    rw[me]at h;cases h;exact⟨⟨⟨t0,t1,Z.symm,λh=>by cases h⟩,.inr (.inr (.inr (.inr (.inr (.inr (.inr (.inr ⟨rfl,rfl,rfl,rfl,rfl,rfl,rfl,by simp,cN.2 (by simp)⟩)))))))⟩,mN (by omega) lY (by omega) (by simp) (by simp) (by simp) (by simp) (by simp) (by simp) (by simp),by rw[jH];simp⟩
   |cons c q=>
    rw[me]at h;split at h
    . obtain⟨w,ax,rfl⟩:=kV.1 h;obtain⟨f1,f2,f3⟩:=ih _ _ _ (by simp at J;omega) aI M ax;refine⟨⟨⟨t0,t1,Z.symm,λh=>by cases h⟩,.inr (.inr (.inr (.inr (.inr (.inr (.inr (.inr ⟨rfl,rfl,rfl,rfl,rfl,rfl,rfl,by simp,cN.2 ?_⟩)))))))⟩,mN (by omega) lY (by omega) (by simp) (by simp) (by simp) (by simp) (by simp) ?_ (by simp),?_⟩
      . grind
      . grind
      . rw[fw];show 10+0+0+cK []+cK [w]<=_;rw[hn,gM,gQ];omega
    . cases h
 rw[ak Z]at h;by_cases X:x.Kind=6
 . rw[ae X]at h;unfold oC at h;cases aa:jG p with
   |none=>rw[aa]at h;cases h
   |some a=>
    obtain⟨id,q⟩:=a;rw[aa]at h;dsimp only at h;have aE:=PL aa;have aT:=nR id.toNat;have aU:q.length+1<=p.length:=by rw[aE,cJ];omega
    obtain⟨o,aq,ar,aw⟩:=Ja p;have aJ:cj id:=(by grind);unfold cj at aJ;cases bw:cz x.ag id with
    |some m=>
     rw[bw]at h;obtain⟨w,ax,rfl⟩:=kV.1 h;obtain⟨F,aY⟩:=jP bw;obtain⟨f1,f2,f3⟩:=ih _ _ _ (by omega) (cx.mem B F).1 (cx.mem B F).2 ax;refine⟨⟨⟨t0,t1,X.symm,λh=>by cases h⟩,.inr (.inr (.inr (.inr (.inr (.inl ⟨rfl,rfl,rfl,rfl,rfl,?_⟩)))))⟩,mN (by omega) lY (by omega) (by simp) (by simp) (by simp) (by simp) (by simp) ?_ (by simp),?_⟩
     . show(match cz x.ag id with
        |some m=>_
        |none=>_)
       rw[bw];refine⟨rfl,rfl,cN.2 ?_⟩;grind
     . grind
     . rw[fw];show 10+0+0+cK []+cK [w]<=_;rw[hn,gM];omega
    |none=>
     rw[bw]at h;dsimp only at h;split at h
     . rename_i aR;cases h;refine⟨⟨⟨t0,t1,X.symm,λh=>by cases h⟩,.inr (.inr (.inr (.inr (.inr (.inl ⟨rfl,rfl,rfl,rfl,rfl,?_⟩)))))⟩,mN (by omega) lY (by omega) (by simp) (by simp) (by simp) (by simp) (by simp) (by simp) ?_,?_⟩
       . grind
       . grind
       . rw[fw];show 10+0+((q.length+1)+0)+cK []+cK []<=_;rw[gM];omega
     . cases h
 rw[ak X]at h;by_cases e4:x.Kind=7
 . rw[ae e4]at h;unfold mc at h;obtain⟨aI,M⟩:=cx.elem B (by omega);cases E:ir p with
   |none=>rw[E]at h;cases h
   |some l=>
    rw[E]at h;dsimp only at h;obtain⟨o,aq,ar,aw⟩:=tA J;have af:(∀q,q∈l->q.length<=p.length)/\l.length<=p.length:=(by grind);have V:=HX l;rw[D2 J E]at V;split at h
    . rename_i az;obtain⟨m,F,rfl⟩:=kV.1 h;have ah:=qA F;have R:∀y,y∈m->∃q,q∈l/\r7 ts x.aG q y:=λy j=>by
       obtain⟨q,N,u⟩:=pK F y j;grind
      have aC:=D3 (C:=300) F (λq U v L=>(ih _ _ _ (by have:=af.1 q U;omega) aI M L).2.2);refine⟨⟨⟨t0,t1,e4.symm,λh=>by cases h⟩,.inr (.inr (.inr (.inr (.inr (.inr (.inl ⟨rfl,rfl,rfl,rfl,rfl,rfl,rfl,?_,cN.2 ?_⟩))))))⟩,mN (by omega) lY (by omega) (by simp) (by simp) (by omega) (by simp) (by simp) ?_ (by simp),?_⟩
      . grind
      . intro y j;obtain⟨q,_,u⟩:=R y j;exact u.1
      . intro y j;obtain⟨q,_,u⟩:=R y j;exact u.2.1
      . rw[fw];show 10+0+0+cK []+cK m<=_;rw[gM];omega
    . cases h
 rw[ak e4]at h;by_cases Y:x.Kind=8
 . rw[ae Y]at h;unfold oD at h;obtain⟨aI,M⟩:=cx.elem B (by omega);obtain⟨d1,d2⟩:=cx.key B Y;cases E:ir p with
   |none=>rw[E]at h;cases h
   |some l=>
    rw[E]at h;dsimp only at h;obtain⟨o,aq,ar,aw⟩:=tA J;have af:(∀q,q∈l->q.length<=p.length)/\l.length<=p.length:=(by grind);have V:=HX l;rw[D2 J E]at V;have aW:=Nu l;split at h
    . rename_i az;cases hs:ch (cP ts n x.Key) (e0 l)with
      |none=>rw[hs]at h;cases h
      |some ks=>
       rw[hs]at h;dsimp only at h;split at h
       . rename_i aA;obtain⟨m,F,rfl⟩:=kV.1 h;have aS:=qA hs;have ah:=qA F;obtain⟨aO,aP⟩:=PM az.1;have aB:∀y,y∈ks->∃q,q∈e0 l/\r7 ts x.Key q y:=λy j=>by
          obtain⟨q,N,u⟩:=pK hs y j;exact⟨q,N,ih _ _ _ (by have:=af.1 q (zX N);omega) d1 d2 u⟩
         have R:∀y,y∈m->∃q,q∈e6 l/\r7 ts x.aG q y:=λy j=>by
          obtain⟨q,N,u⟩:=pK F y j;exact⟨q,N,ih _ _ _ (by have:=af.1 q (Dw N);omega) aI M u⟩
         have aX:=D3 (C:=300) hs (λq U v L=>(ih _ _ _ (by have:=af.1 q (zX U);omega) d1 d2 L).2.2);have aC:=D3 (C:=300) F (λq U v L=>(ih _ _ _ (by have:=af.1 q (Dw U);omega) aI M L).2.2);refine⟨⟨⟨t0,t1,Y.symm,λh=>by cases h⟩,.inr (.inr (.inr (.inr (.inr (.inr (.inr (.inl ⟨rfl,rfl,rfl,rfl,rfl,rfl,?_,?_,cN.2 ?_,cN.2 ?_,tB.1 aA⟩)))))))⟩,mN (by omega) lY (by omega) (by simp) (by omega) (by omega) (by simp) ?_ ?_ (by simp),?_⟩
         . grind
         . grind
         . intro y j;obtain⟨q,_,u⟩:=aB y j;exact u.1
         . intro y j;obtain⟨q,_,u⟩:=R y j;exact u.1
         . intro y j;obtain⟨q,_,u⟩:=aB y j;exact u.2.1
         . intro y j;obtain⟨q,_,u⟩:=R y j;exact u.2.1
         . rw[fw];grind
       . cases h
    . cases h
 rw[ak Y]at h;have aD:x.Kind=5:=by obtain⟨aL,aM⟩:=cx.S.K x B;omega
 unfold mb at h;obtain⟨aF,aQ⟩:=cx.S.A x B (.inl aD);cases E:iS p with
 |none=>rw[E]at h;cases h
 |some l=>
  rw[E]at h;dsimp only at h;obtain⟨o,aq,ar,aw⟩:=Df J;have af:(∀f,f∈l->f.Data.length<=p.length/\cj f.ad)/\l.Pairwise (λa b=>a.ad<b.ad)/\l.length<=p.length:=by grind
  have V:=N6 l;rw[N4 J E]at V;cases hs:ch (d' (cP ts n) l) x.ag with
  |none=>rw[hs]at h;cases h
  |some ai=>
   rw[hs]at h;dsimp only at h;split at h
   . rename_i aA;cases h;have ah:=qA hs;have aH:∀i,i<x.ag.length->b6 ts false (x.ag.getD i ay).av (ai.getD i au)/\bK (ai.getD i au):=λi Q=>by
      have z:=bg Q ay;have:=Ia ay au hs i Q;unfold d' at this;cases P:l.find? (λf=>decide (f.ad=(x.ag.getD i ay).ad))with
      |some g=>
       rw[P]at this;have:=ih _ _ _ (by have:=(af.1 g (BK P)).1;omega) (cx.mem B z).1 (cx.mem B z).2 this;exact⟨this.1,this.2.1⟩
      |none=>
       rw[P]at this;dsimp only at this;split at this
       . rename_i ab;have e:=(l5 this)
         rw[<-e];exact⟨mY _ _ (H.D x B _ z ab),(H.T x B).3 _ z⟩
       . cases this
     have aC:=N8 (C:=300) (d:=13) (λ_ _=>trivial) (λm z=>⟨λab=>H.W x B m z ab,λg al v L=>(ih _ _ _ (by have:=(af.1 g al).1;omega) (cx.mem B z).1 (cx.mem B z).2 L).2.2⟩) hs;have aV:=PQ (C:=300) (d:=13) (by omega) aF l;refine⟨⟨⟨t0,t1,aD.symm,λh=>by cases h⟩,.inr (.inr (.inr (.inr (.inl ⟨rfl,rfl,rfl,rfl,rfl,rfl,Nv af.2.1 (λf P=>(af.1 f P).2),h9.2 ⟨ah,λi Q=>(aH i Q).1⟩⟩))))⟩,mN (by omega) lY (by omega) (by simp) (by simp) (by omega) ?_ (by simp) ?_ ?_,?_⟩
     . unfold eO;grind
     . intro y j;obtain⟨i,Q,rfl⟩:=e5 j;grind
     . intro r G;obtain⟨f,f1,_,rfl⟩:=ID G;grind
     . rw[fw];show 10+0+((eO x l).map λr=>r.Data.length+1).sum+cK []+cK ai<=_;rw[gM];omega
   . cases h
theorem Nw(H:da ts):∀(n:Nat) (t:Int) (p:aj) (v:I),p.length<=90000->0<=t->t<ts.length->cP ts n t p=some v->r7 ts t p v
 |0,t,p,v,_,_,_,h=>by rw[zY]at h;cases h
 |n+1,t,p,v,a,t0,t1,h=>acu H (Nw H n) a t0 t1 h
end
theorem Nx:∀{A B:List Fd},A.Pairwise (λa b=>a.id<b.id)->B.Pairwise (λa b=>a.id<b.id)->(∀x,x∈A↔x∈B)->A=B
 |[],[],_,_,_=>rfl
 |[],b::B,_,_,h=>by have:=(h b).2 (.head _);cases this
 |a::A,[],_,_,h=>by have:=(h a).1 (.head _);cases this
 |a::A,b::B,c,dv,h=>by
  rw[hV]at c dv;have e:a=b:=by grind
  subst e;rw[Nx c.2 dv.2 λx=>?_];grind
theorem HY{l:List α}{y:α}(d:α)(h:y∈l):∃i,i<l.length/\l.getD i d=y:=by
 obtain⟨i,a,rfl⟩:=e5 h;exact⟨i,a,du a d⟩
section
variable {ts:List ah}
theorem Ic:∀{ms:List aR} {l:List I} {j:Nat},j<ms.length->j<l.length->c7 (ms.getD j ay) (l.getD j au)=false->
 (⟨(ms.getD j ay).ad.toNat,(ms.getD j ay).cf,br ts (ms.getD j ay).av (l.getD j au)⟩:Fd)∈dd ts ms l
 |[],l,j,h,_,_=>by simp at h
 |m::ms,[],j,_,h,_=>by simp at h
 |m::ms,v::l,0,_,_,h=>by
  rw[dd];grind
 |m::ms,v::l,j+1,h1,a,h=>by
  rw[dd];have:=Ic (ms:=ms) (l:=l) (j:=j) (by simpa using h1) (by simpa using a) h;grind
theorem Ny{r:Nat}:∀{ms:List aR} {l:List I},(∀j,j<ms.length->j<l.length->c7 (ms.getD j ay) (l.getD j au)=false->dL ts (ms.getD j ay).av (l.getD j au)<=r)->fD ts ms l<=r
 |[],l,_=>by
  have:fD ts [] l=0:=by rw[fD]<;>simp
  omega
 |m::ms,[],_=>by
  have:fD ts (m::ms) []=0:=by rw[fD]<;>simp
  omega
 |m::ms,v::l,h=>by
  have ih:=Ny (ms:=ms) (l:=l) λj h1 a b=>h (j+1) (by simpa using h1) (by simpa using a) b;rw[fD];split
  . exact ih
  . rename_i c;have:=h 0 (by simp) (by simp) (by simpa using c);grind
theorem Ak{r:Nat}:∀{l:List I},(∀y,y∈l->dL ts t y<=r)->dR ts t l<=r
 |[],_=>by rw[dR];exact hA _
 |v::l,h=>by
  rw[dR];exact Nat.max_le.2 ⟨h v (.head _),Ak λy a=>h y (.tail _ a)⟩
end
abbrev fP:=Int->I->Int->aq->I ⊕ aq
def ja{α:Type}:α ⊕ aq->List α ⊕ aq->List α ⊕ aq
 |.inr p,_=>.inr p
 |.inl _,.inr p=>.inr p
 |.inl u,.inl l=>.inl (u::l)
def ig{α a:Type}(g:α->a):α ⊕ aq->a ⊕ aq
 |.inr p=>.inr p
 |.inl u=>.inl (g u)
def mn{α a:Type}(g:α->a ⊕ aq):α ⊕ aq->a ⊕ aq
 |.inr p=>.inr p
 |.inl u=>g u
def fi(l:List aR)(id:Int):Option Nat:=l.findIdx? λm=>decide (m.ad=id)
def lW(l:List aR)(id:Int):Int×Bool:=match fi l id with
 |some j=>((j:Int),true)
 |none=>(0,false)
def eZ(f:fP)(path:aq)(t rt:Int):Nat->List I->List I ⊕ aq
 |_,[]=>.inl []
 |i,v::l=>ja (f t v rt (path++[(i:Int)])) (eZ f path t rt (i+1) l)
noncomputable def Aw (m:aR)(w:I)(n:aR)(a:aq):I ⊕ aq->I ⊕ aq
 |.inr p=>if c7 m w then .inr a else .inr p
 |.inl u=>if c7 m w=true/\c7 n u=false then .inr a else .inl u
noncomputable def wT (f:fP)(x:ah)(v:I)(path:aq)(n:aR):I ⊕ aq:=match fi x.ag n.ad with
 |none=>if n.bZ then .inl n.bu else .inr (path++[n.ad])
 |some i=>Aw (x.ag.getD i ay) (v.ai.getD i au) n (path++[n.ad]) (f (x.ag.getD i ay).av (v.ai.getD i au) n.av (path++[n.ad]))
noncomputable def jl (f:fP)(x:ah)(v:I)(path:aq):List aR->List I ⊕ aq
 |[]=>.inl []
 |n::l=>ja (wT f x v path n) (jl f x v path l)
noncomputable def ha (tw:List ah)(y:ah)(path:aq):List aR->List I->List bX ⊕ aq
 |m::ms,v::l=>if(cz y.ag m.ad).isSome then ha tw y path ms l
  else if m.cf then .inr (path++[m.ad])
  else if c7 m v then ha tw y path ms l
  else ja (.inl ⟨m.ad,br tw m.av v⟩) (ha tw y path ms l)
 |_,_=>.inl []
def iR(x y:ah)(v:I):Prop:=(x.Kind=2->y.bC<=v.bf/\v.bf<=y.bG)/\(x.Kind=3->(v.bn.length:Int)<=y.Max)/\(x.Kind=4->(∃s,s∈y.bj/\s.ad=v.ad)\/y.Open=true)
noncomputable def wQ (tw:List ah)(f:fP)(x y:ah)(v:I)(path:aq):I ⊕ aq:=
 mn (λa=>ig (λr=>⟨5,false,0,[],0,[],a,r⟩) (ha tw y path x.ag v.ai)) (jl f x v path y.ag)
noncomputable def rR (tw:List ah)(f:fP)(x y:ah)(v:I)(path:aq):I ⊕ aq:=match fi x.ag v.ad with
 |none=>.inr path
 |some i=>match fi y.ag v.ad with
  |some k=>ig (λu=>⟨6,false,0,[],v.ad,[],[u],[]⟩) (f (x.ag.getD i ay).av (v.ai.getD 0 au) (y.ag.getD k ay).av (path++[v.ad]))
  |none=>if y.Open then .inl ⟨6,false,0,[],v.ad,[],[],[⟨v.ad,br tw (x.ag.getD i ay).av (v.ai.getD 0 au)⟩]⟩else .inr path
def wR(f:fP)(x y:ah)(v:I)(path:aq):I ⊕ aq:=
 if(v.ai.length:Int)<=y.Max then ig (λa=>⟨7,false,0,[],0,[],a,[]⟩) (eZ f path x.aG y.aG 0 v.ai)else .inr path
def wS(f:fP)(x y:ah)(v:I)(path:aq):I ⊕ aq:=
 if(v.ai.length:Int)<=y.Max then mn (λks=>ig (λa=>⟨8,false,0,[],0,ks,a,[]⟩) (eZ f path x.aG y.aG 0 v.ai)) (eZ f path x.Key y.Key 0 v.aw)else .inr path
def Av(f:fP)(x y:ah)(v:I)(path:aq):I ⊕ aq:=
 ig (λa=>⟨9,false,0,[],0,[],a,[]⟩) (eZ f path x.aG y.aG 0 v.ai)
open Classical in
noncomputable def iC (tw:List ah)(f:fP)(x y:ah)(v:I)(path:aq):I ⊕ aq:=
 if ¬x.Kind=y.Kind then .inr path
 else if x.Kind=5 then wQ tw f x y v path
 else if x.Kind=6 then rR tw f x y v path
 else if x.Kind=7 then wR f x y v path
 else if x.Kind=8 then wS f x y v path
 else if x.Kind=9 then Av f x y v path
 else if iR x y v then .inl v else .inr path
noncomputable def ec (tw tr:List ah):Nat->fP
 |0=>λ_ _ _ path=>.inr path
 |n+1=>λt v rt path=>iC tw (ec tw tr n) (tw.getD t.toNat aN) (tr.getD rt.toNat aN) v path
theorem zc(n:Nat)(t:Int)(v:I)(rt:Int)(path:aq):ec tw tr (n+1) t v rt path=iC tw (ec tw tr n) (tw.getD t.toNat aN) (tr.getD rt.toNat aN) v path:=rfl
section
variable {tw:List ah}{f:fP}{x y:ah}{v:I}{path:aq}
theorem Jd(bD:¬x.Kind=y.Kind):iC tw f x y v path= .inr path:=by unfold iC;rw[ae bD]
theorem FW(bD:x.Kind=y.Kind)(h:x.Kind=5):iC tw f x y v path=wQ tw f x y v path:=by unfold iC;rw[ak (λh=>h bD),ae h]
theorem FX(bD:x.Kind=y.Kind)(h:x.Kind=6):iC tw f x y v path=rR tw f x y v path:=by unfold iC;rw[ak (λh=>h bD),a8,ae h]
theorem FY(bD:x.Kind=y.Kind)(h:x.Kind=7):iC tw f x y v path=wR f x y v path:=by unfold iC;rw[ak (λh=>h bD),a8,a8,ae h]
theorem FZ(bD:x.Kind=y.Kind)(h:x.Kind=8):iC tw f x y v path=wS f x y v path:=by unfold iC;rw[ak (λh=>h bD),a8,a8,a8,ae h]
theorem F0(bD:x.Kind=y.Kind)(h:x.Kind=9):iC tw f x y v path=Av f x y v path:=by unfold iC;rw[ak (λh=>h bD),a8,a8,a8,a8,ae h]
theorem pN(bD:x.Kind=y.Kind)(h:x.Kind<=4)(af:iR x y v):iC tw f x y v path= .inl v:=by unfold iC;rw[ak (λh=>h bD),a8,a8,a8,a8,a8,ae af]
theorem tZ(bD:x.Kind=y.Kind)(h:x.Kind<=4)(af:¬iR x y v):iC tw f x y v path= .inr path:=by unfold iC;rw[ak (λh=>h bD),a8,a8,a8,a8,a8,ak af]
end
theorem Nz{m:aR}{n:aR}{a p:aq}:Aw m w n a (.inr p)=if c7 m w then .inr a else .inr p:=rfl
theorem NA{m:aR}{n:aR}{a:aq}:Aw m w n a (.inl u)=if c7 m w=true/\c7 n u=false then .inr a else .inl u:=rfl
theorem iO{l:List aR}{j:Nat}(h:fi l id=some j):j<l.length/\(l.getD j ay).ad=id/\∀k,k<j->(l.getD k ay).ad≠id:=by
 obtain⟨h1,a,b⟩:=List.findIdx?_eq_some_iff_getElem.1 h;refine⟨h1,?_,λk c=>?_⟩
 . rw[du h1];simpa using a
 . rw[du (by omega)];simpa using b k c
theorem N9{l:List aR}(h:fi l id=none):∀k,k<l.length->(l.getD k ay).ad≠id:=λk a=>by
 have:=List.findIdx?_eq_none_iff.1 h _ (bg a ay);simpa using this
theorem K9(l:List aR)(id:Int):tW l id (lW l id):=by
 unfold lW;cases h:fi l id with
 |some j=>exact .inl ⟨j,(iO h).1,(iO h).2.1,(iO h).2.2,rfl⟩
 |none=>exact .inr ⟨N9 h,rfl⟩
theorem rA(l:List aR)(id:Int):(fi l id).isSome=(cz l id).isSome:=by
 cases h:fi l id with
 |some j=>
  obtain⟨h1,b,_⟩:=iO h;cases g:cz l id with
  |some _=>rfl
  |none=>exact absurd b (nI g _ (bg h1 ay))
 |none=>
  cases g:cz l id with
  |none=>rfl
  |some m=>
   obtain⟨c,d⟩:=jP g;obtain⟨i,a,rfl⟩:=e5 c;exact absurd d (by rw[<-du a ay];exact N9 h i a)
theorem Dg{a:α ⊕ aq}{b:List α ⊕ aq}{l:List α}(h:ja a b= .inl l):∃u us,a= .inl u/\b= .inl us/\l=u::us:=by
 cases a with
 |inr p=>simp[ja]at h
 |inl u=>cases b with
  |inr p=>simp[ja]at h
  |inl us=>exact⟨u,us,rfl,rfl,by simpa[ja]using h.symm⟩
theorem n5{g:α->c}{a:α ⊕ aq}{b:c}(h:ig g a= .inl b):∃u,a= .inl u/\b=g u:=by
 cases a with
 |inr p=>simp[ig]at h
 |inl u=>exact⟨u,rfl,by simpa[ig]using h.symm⟩
theorem Dh{g:α->c ⊕ aq}{a:α ⊕ aq}{b:c}(h:mn g a= .inl b):∃u,a= .inl u/\g u= .inl b:=by
 cases a with
 |inr p=>simp[mn]at h
 |inl u=>exact⟨u,rfl,by simpa[mn]using h⟩
theorem zd{f:fP}{path:aq}{t rt:Int}:∀{l:List I} {i:Nat} {us:List I},eZ f path t rt i l= .inl us->us.length=l.length/\∀j,j<l.length->f t (l.getD j au) rt (path++[((i+j:Nat):Int)])= .inl (us.getD j au)
 |[],i,us,h=>by
  simp only[eZ,Sum.inl.injEq]at h;subst h;exact⟨rfl,λj c=>by simp at c⟩
 |v::l,i,us,h=>by
  obtain⟨u,e,h1,d,rfl⟩:=Dg h;obtain⟨a,b⟩:=zd d;refine⟨by simp[a],λj c=>?_⟩;cases j with
  |zero=>exact h1
  |succ j=>
   have:=b j (by simpa using c);rw[show i+1+j=i+(j+1) by omega]at this;exact this
theorem IE{f:fP}{x:ah}{v:I}{path:aq}:∀{l:List aR} {us:List I},jl f x v path l= .inl us->us.length=l.length/\∀j,j<l.length->wT f x v path (l.getD j ay)= .inl (us.getD j au)
 |[],us,h=>by
  simp only[jl,Sum.inl.injEq]at h;subst h;exact⟨rfl,λj c=>by simp at c⟩
 |n::l,us,h=>by
  obtain⟨u,e,h1,d,rfl⟩:=Dg h;obtain⟨a,b⟩:=IE d;refine⟨by simp[a],λj c=>?_⟩;cases j with
  |zero=>exact h1
  |succ j=>exact b j (by simpa using c)
theorem NB{f:fP}{n:aR}(h:wT f x v path n= .inl u):
 (fi x.ag n.ad=none/\n.bZ=true/\u=n.bu)\/∃i,fi x.ag n.ad=some i/\f (x.ag.getD i ay).av (v.ai.getD i au) n.av (path++[n.ad])= .inl u/\(c7 (x.ag.getD i ay) (v.ai.getD i au)=true->c7 n u=true):=by
 unfold wT at h;cases b:fi x.ag n.ad with
 |none=>
  simp only[b]at h;by_cases a:n.bZ=true
  . rw[ae a]at h;exact .inl ⟨rfl,a,by simpa using h.symm⟩
  . rw[ak a]at h;cases h
 |some i=>
  simp only[b]at h;refine .inr ⟨i,rfl,?_⟩;revert h;cases f (x.ag.getD i ay).av (v.ai.getD i au) n.av (path++[n.ad])with
  |inr p=>intro h;unfold Aw at h;grind
  |inl w=>intro h;unfold Aw at h;grind
theorem Di{tw:List ah}{y:ah}{path:aq}:∀{ms:List aR} {l:List I} {r:List bX},ha tw y path ms l= .inl r->
 r.length<=ms.length/\(r.map λa=>a.ad).Sublist (ms.map λm=>m.ad)/\∀a,a∈r->cz y.ag a.ad=none/\∃j,j<ms.length/\j<l.length/\a=⟨(ms.getD j ay).ad,br tw (ms.getD j ay).av (l.getD j au)⟩
 |[],l,r,h=>by
  rw[ha]at h
  . cases h;simp
  . intros;simp_all
 |m::ms,[],r,h=>by
  rw[ha]at h
  . cases h;simp
  . intros;simp_all
 |m::ms,v::l,r,h=>by
  have g:∀{r},ha tw y path ms l= .inl r->r.length<=(m::ms).length/\(r.map λa=>a.ad).Sublist ((m::ms).map λm=>m.ad)/\∀a,a∈r->cz y.ag a.ad=none/\∃j,j<(m::ms).length/\j<(v::l).length/\a=⟨((m::ms).getD j ay).ad,br tw ((m::ms).getD j ay).av ((v::l).getD j au)⟩:=λ{r} h=>by
   obtain⟨a,b,c⟩:=Di h;refine⟨by simp;omega,by rw[fu];exact b.cons _,λq f=>?_⟩;obtain⟨d,j,o,p,e⟩:=c q f;exact⟨d,j+1,by simp;omega,by simp;omega,e⟩
  rw[ha]at h;by_cases d:(cz y.ag m.ad).isSome=true
  . rw[ae d]at h;exact g h
  rw[ak d]at h;by_cases i:m.cf=true
  . rw[ae i]at h;cases h
  rw[ak i]at h;by_cases k:c7 m v=true
  . rw[ae k]at h;exact g h
  rw[ak k]at h;obtain⟨u,us,aI,n,rfl⟩:=Dg h;cases aI;obtain⟨a,b,c⟩:=Di n;refine⟨by simp;omega,by rw[fu,fu];exact b.cons₂ _,λq f=>?_⟩;rcases eU.1 f with rfl|f
  . exact⟨by simpa using d,0,by simp,by simp,rfl⟩
  . exact(g n).2.2 q f
section
variable {ts:List ah}
theorem AO{n:Nat}(h:n<16384):(dM n).length<=2:=H4 1 n (by simpa using h)
theorem wa(h:p.length<16384):(dg p).length<=p.length+2:=by
 have:=AO h;unfold dg;simp;omega
def h4(ts:List ah)(t:Int)(v:I):Prop:=(br ts t v).length+4<=wt v
theorem Eh{t:Int}:∀{l:List I},cK l<=3000->(∀y,y∈l->h4 ts t y)->((bF ts t l).flatMap dg).length<=cK l
 |[],_,_=>by rw[bF];simp
 |v::l,a,h=>by
  rw[bF,eX,cJ];rw[hn]at a⊢;have h1:=h v (.head _);unfold h4 at h1;have c:=Eh (t:=t) (l:=l) (by omega) λx b=>h x (.tail _ b);have d:=wa (p:=br ts t v) (by omega);omega
theorem Oa{l:List I}(h:∀y,y∈l->h4 ts t y):((bF ts t l).headD []).length+4<=cK l\/l=[]:=by
 cases l with
 |nil=>exact .inr rfl
 |cons v l=>
  refine .inl ?_;have h1:=h v (.head _);unfold h4 at h1;rw[bF,hn];grind
theorem NC:∀{ms:List aR} {l:List I},cK l<=3000->(∀m,m∈ms->m.ad<=1000)->l.length=ms.length->(∀i,i<ms.length->h4 ts (ms.getD i ay).av (l.getD i au))->((dd ts ms l).flatMap Fd.text).length<=cK l
 |[],l,_,_,_,_=>by rw[dd]<;>simp
 |m::ms,[],_,_,af,_=>by simp at af
 |m::ms,v::l,c,a,af,h=>by
  rw[hn]at c⊢;rw[dd];have h1:h4 ts m.av v:=h 0 (by simp);unfold h4 at h1;have e:=NC (ms:=ms) (l:=l) (by omega) (λx d=>a x (.tail _ d)) (by simpa using af) λi b=>h (i+1) (by simpa using b);have g:=a m (.head _);split
  . omega
  . rw[eX,cJ];have a1:=wa (p:=br ts m.av v) (by omega);have a2:=AO (n:=2*m.ad.toNat+(if m.cf then 1 else 0)) (by split<;>omega);have f:(Fd.text ⟨m.ad.toNat,m.cf,br ts m.av v⟩).length<=(br ts m.av v).length+4:=by
     show(fa m.ad.toNat m.cf (br ts m.av v)).length<=_;unfold fa;grind
    omega
theorem wx(H:da ts)(x:bK v):∀t,b6 ts true t v->wt v<=3000->h4 ts t v:=by
 have d:=H.V.hB H.T;induction x with
 |mk v hs h1 P Q X U Y c9 ab ae af B z=>
  intro t u Z;obtain⟨⟨K,N,O,p⟩,s⟩:=(eL _ _ _).1 u;have w:t.toNat<ts.length:=by omega
  have c:=bg w aN;have r:=p rfl;have aa:=fw v;have aX:∀y,y∈v.aw->wt y+10<=wt v:=λy a=>by have:=e' a;omega
  have D:∀y,y∈v.ai->wt y+10<=wt v:=λy a=>by have:=e' a;omega
  have C:∀t,e7 ts true t v.aw->∀y,y∈v.aw->h4 ts t y:=λt ht y a=>B y a t (cN.1 ht y a) (by have:=aX y a;omega);have f:∀t,e7 ts true t v.ai->∀y,y∈v.ai->h4 ts t y:=λt ht y a=>z y a t (cN.1 ht y a) (by have:=D y a;omega);unfold h4;rcases s with h|h|h|h|h|h|h|h|h
  . rw[uy (by omega)];grind
  . have R:=H.L _ c (by omega);rw[uz (by omega)];have:=vP 1 (fF v.bf).toNat (by unfold fF;split<;>omega);omega
  . rw[uA (by omega)];omega
  . rw[uB (by omega)];have j:v.ad.toNat<256^2:=by
     rcases h.2.2.2.2.2.2.2 with⟨y,F,ah⟩|⟨_,h,_⟩
     . have:=d.S _ c (by omega) y F;unfold cj at this;omega
     . cases h
    have:=vP 2 _ j;omega
  . obtain⟨a1,a2,a3,a4,a5,b,g,e⟩:=h;obtain⟨k,E⟩:=d.A _ c (.inl (by omega));obtain⟨f1,f2⟩:=h9.1 e;rw[w3 (by omega),Ti (mK _ _)];unfold fk;rw[r,p',l4];have:=NC (ts:=ts) (l:=v.ai) (by omega) (d.M _ c) f1 λi W=>by grind
    omega
  . obtain⟨a1,a2,a3,a4,a5,b⟩:=h;rw[uC (by omega)];cases bw:cz (ts.getD t.toNat aN).ag v.ad with
    |none=>rw[bw]at b;cases b.2.1
    |some m=>
     rw[bw]at b;obtain⟨b1,b2,b3⟩:=b;obtain⟨k,E⟩:=jP bw;have j:=d.M _ c m k;have:=AO (n:=v.ad.toNat) (by omega);rw[cJ];rcases Oa (f _ b3)with q|q
     . grind
     grind
  . obtain⟨a1,a2,a3,a4,a5,b,g,e,a9⟩:=h;rw[uD (by omega)];have:=Eh (l:=v.ai) (by omega) (f _ a9);omega
  . obtain⟨a1,a2,a3,a4,a5,b,g,e,a9,o,G⟩:=h;rw[uE (by omega)];have aI:=Eh (l:=v.ai) (by omega) (f _ o);have J:=Eh (l:=v.aw) (by omega) (C _ a9);have:=HT (bF ts (ts.getD t.toNat aN).Key v.aw) (bF ts (ts.getD t.toNat aN).aG v.ai);omega
  . obtain⟨a1,a2,a3,a4,a5,b,g,e,a9⟩:=h;rw[uF (by omega)];rcases Oa (f _ a9)with q|q
    . grind
    . rw[q,bF];simp;omega
end
section
variable {tw tr:List ah}
theorem K'{n:Nat}(a:(tw.getD t.toNat aN).Kind<=4)(h:ec tw tr n t v rt path= .inl u):u=v:=by
 cases n with
 |zero=>cases h
 |succ n=>
  rw[zc]at h;unfold iC at h;grind
theorem La{f:fP}(c:∀v rt path u,f t v rt path= .inl u->u=v){i:Nat}{l us:List I}(h:eZ f path t rt i l= .inl us):us=l:=by
 obtain⟨a,b⟩:=zd h;exact acm a λj d=>c _ _ _ _ (b j (by omega))
theorem acv{l:List I}{r:List bX}(d:gT ms)(h:ha tw y path ms l= .inl r):jU y.ag r:=by
 obtain⟨_,b,c⟩:=Di h;refine⟨?_,λa g=>?_⟩
 . have h1:(ms.map λm=>m.ad).Pairwise (· < ·):=ov.2 d.1;grind
 . obtain⟨f,j,i,k,e⟩:=c a g;refine⟨?_,f⟩;rw[e];exact d.2 _ (bg i ay)
theorem cj.i64{n:Int}(h:cj n): -9223372036854775808<=n/\n<=9223372036854775807:=by unfold cj at h;omega
def Je(tr:List ah)(rt:Int)(u:I):Prop:=bK u/\b6 tr false rt u
def EG(tw tr:List ah)(n:Nat):Prop:=∀{v:I},bK v->wt v<=3000->∀{t rt:Int} {path:aq} {u:I},b6 tw true t v->0<=rt->rt<tr.length->ec tw tr n t v rt path= .inl u->Je tr rt u
theorem aaa(M:da tw)(l:da tr){n:Nat}(ih:EG tw tr n):EG tw tr (n+1):=by
 intro v ar a' t rt path u aD s z h;have SW:=M.V.hB M.T;have cv:=l.V.hB l.T;have W:=ar;have ba:=fw v;obtain⟨⟨aU,aV,aW,aX⟩,aC⟩:=(eL _ _ _).1 aD;have aE:t.toNat<tw.length:=by omega
 have aF:rt.toNat<tr.length:=by omega
 have R:=bg aE aN;have p:=bg aF aN;have o:=λu=>(eL (ts:=tr) false rt u).2;rw[zc]at h;generalize bb:tw.getD t.toNat aN=x at*;generalize X:tr.getD rt.toNat aN=y at*;cases ar with
 |mk _ hs h1 aY aZ ap J a7 c9 bf bh bi=>
 have F:∀y,y∈v.ai->wt y<=3000:=λy X=>by have:=e' X;omega
 have aR:∀y,y∈v.aw->wt y<=3000:=λy X=>by have:=e' X;omega
 have aj:∀{t rt:Int} {i:Nat} {us:List I},e7 tw true t v.ai->0<=rt->rt<tr.length->eZ (ec tw tr n) path t rt i v.ai= .inl us->us.length=v.ai.length/\(∀q,q∈us->bK q)/\e7 tr false rt us:=λ{t rt i us} ae a0 a1 U=>by
  obtain⟨a,b⟩:=zd U;have key:∀q,q∈us->Je tr rt q:=λq c=>by
   obtain⟨j,H,rfl⟩:=HY au c;have f:=bg (by omega:j<v.ai.length) au;exact ih (J _ f) (F _ f) (cN.1 ae _ f) a0 a1 (b j (by omega))
  exact⟨a,λq c=>(key q c).1,cN.2 λq c=>(key q c).2⟩
 have aH:∀t,e7 tw true t v.aw->(tw.getD t.toNat aN).Kind<=4->∀{rt:Int} {i:Nat} {us:List I},0<=rt->rt<tr.length->eZ (ec tw tr n) path t rt i v.aw= .inl us->us=v.aw/\e7 tr false rt v.aw:=λt ae aG rt i us a0 a1 U=>by
  have e:=La (λv rt path u h=>K' aG h) U;subst e;obtain⟨a,b⟩:=zd U;refine⟨rfl,cN.2 λq c=>?_⟩;obtain⟨j,H,rfl⟩:=HY au c;exact(ih (ap _ c) (aR _ c) (cN.1 ae _ c) a0 a1 (b j H)).2
 unfold iC at h;by_cases bD:x.Kind=y.Kind
 . rw[ak (by simpa using bD)]at h;rcases aC with d|d|d|d|d|d|d|d|d
   . rw[a8,a8,a8,a8,a8]at h;split at h<;>cases h;exact⟨W,o _ ⟨⟨s,z,by omega,by simp⟩,.inl d⟩⟩
   . rw[a8,a8,a8,a8,a8]at h;split at h<;>cases h;rename_i af;exact⟨W,o _ ⟨⟨s,z,by omega,by simp⟩,.inr (.inl (by have:=af.1 (by omega);simp_all))⟩⟩
   . rw[a8,a8,a8,a8,a8]at h;split at h<;>cases h;rename_i af;exact⟨W,o _ ⟨⟨s,z,by omega,by simp⟩,.inr (.inr (.inl (by have:=af.2.1 (by omega);simp_all)))⟩⟩
   . rw[a8,a8,a8,a8,a8]at h;split at h<;>cases h;rename_i af;have O:cj v.ad:=by
      rcases d.2.2.2.2.2.2.2 with⟨y,aS,aT⟩|⟨_,h,_⟩
      . rw[<-aT];exact SW.S _ R (by omega) y aS
      . cases h
     refine⟨W,o _ ⟨⟨s,z,by omega,by simp⟩,.inr (.inr (.inr (.inl ⟨d.1,d.2.1,d.2.2.1,d.2.2.2.1,d.2.2.2.2.1,d.2.2.2.2.2.1,d.2.2.2.2.2.2.1,?_⟩)))⟩⟩;rcases af.2.2 (by omega)with q|q
     . exact .inl q
     grind
   . obtain⟨a1,a2,a3,a4,a5,E,Z,N⟩:=d;obtain⟨Y,aM⟩:=SW.A _ R (.inl (by omega));obtain⟨bd,be⟩:=cv.A _ p (.inl (by omega));obtain⟨f1,f2⟩:=h9.1 N;rw[eT]at h;obtain⟨g,aI,h⟩:=Dh h;obtain⟨r,am,rfl⟩:=n5 h;obtain⟨b1,b2⟩:=IE aI;have key:∀j,j<y.ag.length->Je tr (y.ag.getD j ay).av (g.getD j au):=λj Q=>by
      have G:=bg Q ay;rcases NB (b2 j Q)with⟨_,aa,ab⟩|⟨i,al,aa,_⟩
      . rw[ab];exact⟨(l.T _ p).jf _ G,mY _ _ (l.D _ p _ G aa)⟩
      . obtain⟨d1,_,_⟩:=iO al;have f:=bg (by omega:i<v.ai.length) au;obtain⟨B,C⟩:=l.fA.mem p G;exact ih (J _ f) (F _ f) (f2 i d1) B C aa
     have aq:=acv Y am;obtain⟨al,_,ab⟩:=Di am;refine⟨.mk _ (by simp) (by simp) (by show g.length<=_;unfold reachBytes;omega) (by show r.length<=_;unfold reachBytes;omega) (λq c=>by cases c) (λq c=>?_) (λq c=>?_) (by simp) (by simp) (by simp) (λq c=>(aq.2 q c).1.i64),o _ ⟨⟨s,z,by show(5:Int)=_;omega,by simp⟩,.inr (.inr (.inr (.inr (.inl ⟨rfl,rfl,rfl,rfl,rfl,rfl,aq,h9.2 ⟨b1,λj Q=>(key j Q).2⟩⟩))))⟩⟩
     . obtain⟨j,H,rfl⟩:=HY au c;exact(key j (by have:g.length=_:=b1;have bc:j<g.length:=H;omega)).1
     . obtain⟨_,j,H,aJ,e⟩:=ab q c;have f:=bg aJ au;have:=wx M (J _ f) _ (f2 j H) (F _ f);unfold h4 at this;have:=F _ f;rw[e];unfold reachBytes;grind
   . obtain⟨a1,a2,a3,a4,a5,E⟩:=d;rw[a8,eT]at h;unfold rR at h;obtain⟨Y,aM⟩:=SW.A _ R (.inr (by omega));cases bw:cz x.ag v.ad with
     |none=>rw[bw]at E;cases E.2.1
     |some m=>
      rw[bw]at E;obtain⟨b1,b2,b3⟩:=E;have ah:=rA x.ag v.ad;rw[bw]at ah;cases O:fi x.ag v.ad with
      |none=>rw[O]at ah;cases ah
      |some i=>
      obtain⟨d1,d2,_⟩:=iO O;obtain⟨d3,d4⟩:=jP bw;have em:x.ag.getD i ay=m:=pJ Y (bg d1 ay) d3 (by rw[d2,d4]);have ao:cj v.ad:=by rw[<-d4];exact Y.2 m d3
      simp only[O,em]at h;have f:=bg (by omega:0<v.ai.length) au;cases P:fi y.ag v.ad with
      |some k=>
       simp only[P]at h;obtain⟨w,aI,rfl⟩:=n5 h;obtain⟨aK,aL,_⟩:=iO P;have G:=bg aK ay;obtain⟨B,C⟩:=l.fA.mem p G;obtain⟨z1,z2⟩:=ih (J _ f) (F _ f) (cN.1 b3 _ f) B C aI;have an:cz y.ag v.ad=some (y.ag.getD k ay):=by rw[<-aL];exact H9 (cv.A _ p (.inr (by omega))).1 G
       refine⟨.mk _ (by simp) (by simp) (by show[w].length<=_;unfold reachBytes;simp) (by simp) (λq c=>by cases c) (λq c=>?_) (λq c=>by cases c) (by simp) (by simp) ao.i64 (λq c=>by cases c),o _ ⟨⟨s,z,by show(6:Int)=_;omega,by simp⟩,.inr (.inr (.inr (.inr (.inr (.inl ⟨rfl,rfl,rfl,rfl,rfl,?_⟩)))))⟩⟩
       . grind
       . show match cz y.ag v.ad with|some m=>_|none=>_
         rw[an];exact⟨rfl,rfl,z2,trivial⟩
      |none=>
       simp only[P]at h;split at h
       . cases h;rename_i a6;have an:cz y.ag v.ad=none:=by
          have:=rA y.ag v.ad;rw[P]at this;cases c:cz y.ag v.ad with
          |none=>rfl
          |some _=>rw[c]at this;cases this
         have:=wx M (J _ f) _ (cN.1 b3 _ f) (F _ f);unfold h4 at this;have:=F _ f;refine⟨.mk _ (by simp) (by simp) (by simp) (by show[_].length<=_;unfold reachBytes;simp) (λq c=>by cases c) (λq c=>by cases c) (λq c=>?_) (by simp) (by simp) ao.i64 (λq c=>?_),o _ ⟨⟨s,z,by show(6:Int)=_;omega,by simp⟩,.inr (.inr (.inr (.inr (.inr (.inl ⟨rfl,rfl,rfl,rfl,rfl,?_⟩)))))⟩⟩
         . rw[wC.1 c];show(br tw _ _).length<=_;unfold reachBytes;omega
         . grind
         grind
       . cases h
   . obtain⟨a1,a2,a3,a4,a5,E,Z,N,a9⟩:=d;rw[a8,a8,eT]at h;unfold wR at h;split at h
     . rename_i aB;obtain⟨g,aI,rfl⟩:=n5 h;obtain⟨B,C⟩:=l.fA.elem p (by omega);obtain⟨ax,K,L⟩:=aj a9 B C aI;exact⟨.mk _ (by simp) (by simp) (by show g.length<=_;omega) (by simp) (λq c=>by cases c) K (λq c=>by cases c) (by simp) (by simp) (by simp) (λq c=>by cases c),o _ ⟨⟨s,z,by show(7:Int)=_;omega,by simp⟩,.inr (.inr (.inr (.inr (.inr (.inr (.inl ⟨rfl,rfl,rfl,rfl,rfl,rfl,rfl,by show(g.length:Int)<=_;omega,L⟩))))))⟩⟩
     . cases h
   . obtain⟨a1,a2,a3,a4,a5,E,Z,N,a9,az,aA⟩:=d;rw[a8,a8,a8,eT]at h;unfold wS at h;split at h
     . rename_i aB;obtain⟨ks,cW,h⟩:=Dh h;obtain⟨g,aI,rfl⟩:=n5 h;obtain⟨B,C⟩:=l.fA.elem p (by omega);obtain⟨aP,aQ⟩:=l.fA.key p (by omega);obtain⟨ax,K,L⟩:=aj az B C aI;obtain⟨rfl,aO⟩:=aH _ a9 (SW.qo _ R (by omega)).2 aP aQ cW;exact⟨.mk _ (by simp) (by show v.aw.length<=_;omega) (by show g.length<=_;omega) (by simp) ap K (λq c=>by cases c) (by simp) (by simp) (by simp) (λq c=>by cases c),o _ ⟨⟨s,z,by show(8:Int)=_;omega,by simp⟩,.inr (.inr (.inr (.inr (.inr (.inr (.inr (.inl ⟨rfl,rfl,rfl,rfl,rfl,rfl,by show(v.aw.length:Int)<=_;omega,by show g.length=v.aw.length;omega,aO,L,aA⟩)))))))⟩⟩
     . cases h
   . obtain⟨a1,a2,a3,a4,a5,E,Z,N,a9⟩:=d;rw[a8,a8,a8,a8,eT]at h;obtain⟨g,aI,rfl⟩:=n5 h;obtain⟨B,C⟩:=l.fA.elem p (by omega);obtain⟨ax,K,L⟩:=aj a9 B C aI;exact⟨.mk _ (by simp) (by simp) (by show g.length<=_;omega) (by simp) (λq c=>by cases c) K (λq c=>by cases c) (by simp) (by simp) (by simp) (λq c=>by cases c),o _ ⟨⟨s,z,by show(9:Int)=_;omega,by simp⟩,.inr (.inr (.inr (.inr (.inr (.inr (.inr (.inr ⟨rfl,rfl,rfl,rfl,rfl,rfl,rfl,by show g.length<=1;omega,L⟩)))))))⟩⟩
 grind
theorem My(b:da tw)(a:da tr):∀n,EG tw tr n
 |0=>λ_ _ _ _ _ _ _ _ _ h=>by cases h
 |n+1=>aaa b a (My b a n)
end
theorem aab{s:aS}(H:iV s.Types)(f:bK v)(i:wt v<=1099511627776)(e:b6 s.Types false t v)(c:tQ (s,t,v)=some 0):
 lM (s,t,v)=some (ki s.Types t v):=by
 have h1:=adn H f i e;have d:tQ ((⟨s.Types⟩:aS),t,v)=some 0:=c;rw[lM];simp only[I.aU];rw[d,h1];simp only[aT,ao];rw[bx];unfold ki;generalize br s.Types t v=p;generalize dL s.Types t v=l;by_cases g:4096<p.length
 . rw [ae (by have:(4096:Int)<p.length:= by omega
              simp[this]),ae (.inl g)]
 . by_cases b:200<l
   . rw [ae (by have:¬ (4096:Int)<p.length:= by omega
                have a:(200:Int)<l:=by omega
                simp[this,a]),ae (.inr b)]
   . rw [ak (by have:¬ (4096:Int)<p.length:= by omega
                have a:¬(200:Int)<l:=by omega
                simp[this,a]),a8]
theorem aac{s:aS}(H:iV s.Types)(b:bK v)(c:wt v<=1099511627776)(a:b6 s.Types false t v)(i:sU (s,t,v)=some 0):
 ny (s,t,v)=some (ki s.Types t v):=by
 have e:ju (s,t,v)=some (br s.Types t v):=Ed H b c t a;have f:mA (s,t,v)=_:=adm H b c t a;rw[ny];simp only[I.aU];rw[i];simp only[aT,ao];rw[bx,e];simp only[ao];rw[f];unfold ki;generalize br s.Types t v=p;generalize dL s.Types t v=l;by_cases g:4096<p.length
 . have:decide ((4096:Int)<p.length)=true:=by simp;omega
   rw[this,bx];simp only[ao,ev];rw[ae trivial,ae (.inl g)]
 . have:decide ((4096:Int)<p.length)=false:=by simp;omega
   rw[this,hT];simp only[ao,dW];by_cases d:200<l
   . rw[bz,ae (.inr d)]
   . rw[cp,a8]
theorem ND(H:da ts)(a:r8 ts t v):lM ((⟨ts⟩:aS),t,v)=some (ki ts t v):=
 aab (s:=⟨ts⟩) (H.V.hB H.T) a.2.1 (g' a.2.2 (by decide)) a.1 (Gt H.T H.V a.2.1 a.1)
theorem Ie(H:da ts)(a:r8 ts t v):ny ((⟨ts⟩:aS),t,v)=some (ki ts t v):=
 aac (s:=⟨ts⟩) (H.V.hB H.T) a.2.1 (g' a.2.2 (by decide)) a.1 (Ln H.T H.V a.2.1 a.1)
noncomputable def gN (ts:List ah)(t:Int)(m:aj):I×Int:=
 if t<0\/(ts.length:Int)<=t then(eg,4)else if 4096<m.length then(eg,12)else match cP ts 200 t m with
  |some v=>(v,0)
  |none=>(eg,12)
theorem Zz(ts:List ah)(t:Int)(m:aj):(∃e,e≠0/\gN ts t m=(eg,e))\/∃v,gN ts t m=(v,0)/\(0<=t/\t<ts.length)/\m.length<=4096/\cP ts 200 t m=some v:=by
 unfold gN;by_cases h1:t<0\/(ts.length:Int)<=t
 . rw[ae h1];exact .inl ⟨4,by omega,rfl⟩
 . rw[ak h1];by_cases a:4096<m.length
   . rw[ae a];exact .inl ⟨12,by omega,rfl⟩
   . rw[ak a];cases b:cP ts 200 t m with
     |none=>exact .inl ⟨12,by omega,rfl⟩
     |some v=>exact .inr ⟨v,rfl,by omega,by omega,rfl⟩
section
variable {ts:List ah}
theorem KA(H:jq ts)(t:Int)(m:aj):tT ((⟨ts⟩:aS),t,m)=some (gN ts t m):=by
 rw[tT,HQ,(pG H.S.T H.V).1];simp only[aT,ao];unfold gN;by_cases h1:t<0\/(ts.length:Int)<=t
 . have c:(bif decide (t<0)then true else decide ((ts.length:Int)<=t))=true:=by rcases h1 with h1|h1<;>simp[h1]
   rw[bx,ae c,ae h1];rfl
 . have c:¬(bif decide (t<0)then true else decide ((ts.length:Int)<=t))=true:=by
    have a:¬t<0:=λh=>h1 (.inl h);have b:¬(ts.length:Int)<=t:=λh=>h1 (.inr h);simp[a,b]
   by_cases d:4096<m.length
   . rw[bx,ak c,bz,ak h1,ae d];rfl
   . have d1:=N2 H 200 (by omega) t m [] 0 [] (by omega) (by omega) (by omega) rfl;rw[bx,ak c,cp,ak h1,ak d];cases e:cP ts 200 t m with
     |none=>
      obtain⟨w,f1,f2,f⟩:=d1.2 e;rw[f];rfl
     |some v=>
      rw[d1.1 v e];simp[I.aU]
theorem Hy(H:jq ts)(t:Int)(m:aj):pU ((⟨ts⟩:aS),t,m)=some (gN ts t m):=by
 have f:kN ((⟨ts⟩:aS),t)=some (if t<0\/(ts.length:Int)<=t then 4 else 0):=by
  rw[kN,(pG H.S.T H.V).2];simp only[aT,ao];rw[bx];by_cases h1:t<0\/(ts.length:Int)<=t
  . rw[ae h1,ae];rcases h1 with h1|h1<;>simp[h1]
  . rw[ak h1,ak];have a:¬t<0:=λh=>h1 (.inl h);have b:¬(ts.length:Int)<=t:=λh=>h1 (.inr h);simp[a,b]
 rw[pU,G1,f];simp only[aT,ao];unfold gN;by_cases h1:t<0\/(ts.length:Int)<=t
 . simp only[ae h1];rfl
 . by_cases d:4096<m.length
   . simp only[ak h1];rw[bx,bz,ae d,zC (by simp)];rfl
   . have d2:=Ns H 200 (by omega) t m [] (by omega) (by omega) (by omega) (by simp);rw[show((201-200:Nat):Int)=1 from rfl]at d2;simp only[ak h1];rw[bx,cp,ak d];cases e:cP ts 200 t m with
     |none=>
      obtain⟨F,c⟩:=d2.2 e;rw[c];rfl
     |some v=>
      obtain⟨F,c⟩:=d2.1 v e;rw[c];simp[I.aU]
theorem NF(H:da ts){m:aj}(ht:0<=t/\t<ts.length)(d:m.length<=4096)(h:cP ts 200 t m=some v):r8 ts t v:=by
 obtain⟨a,b,c⟩:=Nw H 200 t m v (by omega) ht.1 ht.2 h;exact⟨a,b,by omega⟩
end
theorem Dx{m:aR}(a:bK v):sS (m,v)=some (c7 m v):=by
 rw[sS];simp only[I.aU];unfold c7;cases b:m.bZ with
 |false=>rfl
 |true=>
  obtain⟨r,c,d⟩:=acn a m.bu;grind
theorem IF(h:p.length<=100000:=by omega):vr p=some (dg p):=by
 rw[vr,hE,tV];have:=kc (n:=p.length) (by omega);simp only[aT,ao];rw[ae (gf)];rfl
theorem abx{c:Bool}(d:cj id)(h:p.length<=4096):CH (id,c,p)=some (fa id.toNat c p,0):=by
 unfold cj at d;obtain⟨n,rfl⟩:=BN (by omega:0<=id);have a:¬(n:Int)<1:=by omega
 have b:¬(1000:Int)<n:=by omega
 rw[CH,ak (by simp[a,b]),cp,H5 (by omega),bc];rfl
section
variable {ts:List ah}
theorem Hz:∀{ms:List aR} {l:List I},((dd ts ms l).map λf=>f.id).Sublist (ms.map λm=>m.ad.toNat)
 |[],l=>by rw[dd]<;>simp
 |m::ms,[]=>by rw[dd]<;>simp
 |m::ms,v::l=>by
  rw[dd];split
  . exact(Hz (ms:=ms) (l:=l)).cons _
  . exact(Hz (ms:=ms) (l:=l)).cons₂ _
theorem Mz{l:List I}(c:gT ms):(dd ts ms l).Pairwise (λa b=>a.id<b.id):=by
 have h1:(ms.map λm=>m.ad.toNat).Pairwise (· < ·):=ov.2 (c.1.imp_of_mem λ{a b} d e h=>by
  have:=c.2 a d;unfold cj at this
  omega)
 exact ov.1 (h1.sublist Hz)
theorem KB(h:(ts.getD t.toNat aN).Kind=5)(c:v.Rest=[])(a:gT (ts.getD t.toNat aN).ag):br ts t v=(dd ts (ts.getD t.toNat aN).ag v.ai).flatMap Fd.text:=by
 rw[w3 h];have b:jU (ts.getD t.toNat aN).ag v.Rest:=by rw[c];exact⟨.nil,λx d=>by cases d⟩
 congr 1
 have e:fk ts (ts.getD t.toNat aN).ag v.ai v.Rest=dd ts (ts.getD t.toNat aN).ag v.ai:=by
  unfold fk;grind
 rw[<-e];refine Nx (H7 (vt a b) (Iz a b)) ?_ λy=>(mK fp _).mem_iff;rw[e];exact Mz a
def iG(ts:List ah)(t:Int)(v:I):Prop:=la ((⟨ts⟩:aS),t,v)=some (br ts t v)
theorem RU(b:∀m,m∈ms->cj m.ad)(af:v.ai.length=ms.length)(j:ms.length<=1000)(e:∀y,y∈v.ai->bK y)(hs:∀i,i<ms.length->h4 ts (ms.getD i ay).av (v.ai.getD i au)/\iG ts (ms.getD i ay).av (v.ai.getD i au))(f:∀y,y∈v.ai->wt y<=3000):
 ∀(k i:Nat) (acc:aj),i+k=ms.length->acc.length<=i*4000->
 rq (acc,ms,(ms.length:Int),(i:Int),ts,v)=some (acc++(dd ts (ms.drop i) (v.ai.drop i)).flatMap Fd.text)
 |0,i,acc,o,l=>by
  rw[rq,cp,en (by omega:ms.length<=i),dd]
  . simp
  grind
 |k+1,i,acc,o,l=>by
  have aC:i<ms.length:=by omega
  have a:i<v.ai.length:=by omega
  have d:=bg a au;rw[rq,bz,ae (aQ aC)];simp only[aT,ao,bc,I.aU,jz];rw[ae (aQ a),Dx (e _ d),eB aC ay,eB a au,dd];obtain⟨h1,c⟩:=hs i aC;have t:=f _ d;unfold h4 at h1;unfold iG at c;have g:=λacc=>RU b af j e hs f k (i+1) acc (by omega);cases s:c7 (ms.getD i ay) (v.ai.getD i au)with
  |true=>
   simp only[ao,dn,bV,b7,bS];rw[bH,g acc (by omega)]
  |false=>
   simp only[ao,eN,bS,bV,b7];rw[ae (aQ a),c];simp only[ao];rw[abx (b _ (bg aC ay)) (by omega)];simp only[ao];have q:=b _ (bg aC ay);unfold cj at q;have a1:=wa (p:=br ts (ms.getD i ay).av (v.ai.getD i au)) (by omega);have a2:=AO (n:=2*(ms.getD i ay).ad.toNat+(if(ms.getD i ay).cf then 1 else 0)) (by split<;>omega);have r:(fa (ms.getD i ay).ad.toNat (ms.getD i ay).cf (br ts (ms.getD i ay).av (v.ai.getD i au))).length<=4000:=by
    unfold fa;grind
   rw[ae (gf),bH,g _ (by rw[cJ];omega),hz];rfl
theorem RV(b:¬x.Kind=8)(af:v.ai.length<=3000)(hs:∀y,y∈v.ai->(br ts x.aG y).length<=3000/\iG ts x.aG y):
 ∀(k i:Nat) (acc:aj),i+k=v.ai.length->acc.length<=i*4000->
 k8 (acc,v.ai,(v.ai.length:Int),(i:Int),ts,v,x)=some (acc++(bF ts x.aG (v.ai.drop i)).flatMap dg)
 |0,i,acc,d,c=>by
  rw[k8,cp,en (by omega:v.ai.length<=i),bF];simp
 |k+1,i,acc,d,c=>by
  have aC:i<v.ai.length:=by omega
  obtain⟨h1,a⟩:=hs _ (bg aC au);unfold iG at a;rw[k8,bz,ae (aQ aC)];simp only[aT,ao,bc,I.aU];have a1:=wa (p:=br ts x.aG (v.ai.getD i au)) (by omega);rw[ak (by simp[b]),a];simp only[ao];rw[IF];simp only[ao];rw[ae (gf),bH,RV b af hs k (i+1) _ (by omega) (by rw[cJ];omega),eB aC au,bF,eX,hz]
theorem PR(d:x.Kind=8)(j:v.ai.length=v.aw.length)(af:v.ai.length<=3000)(hs:∀y,y∈v.ai->(br ts x.aG y).length<=3000/\iG ts x.aG y)(e:∀y,y∈v.aw->(br ts x.Key y).length<=3000/\iG ts x.Key y):
 ∀(k i:Nat) (acc:aj),i+k=v.ai.length->acc.length<=i*8000->
 k8 (acc,v.ai,(v.ai.length:Int),(i:Int),ts,v,x)=some (acc++gj (bF ts x.Key (v.aw.drop i)) (bF ts x.aG (v.ai.drop i)))
 |0,i,acc,g,f=>by
  rw[k8,cp,en (by omega:v.ai.length<=i),en (by omega:v.aw.length<=i),bF,bF,gj]
  . simp
  grind
 |k+1,i,acc,g,f=>by
  have aC:i<v.ai.length:=by omega
  have a:i<v.aw.length:=by omega
  obtain⟨h1,b⟩:=hs _ (bg aC au);obtain⟨l,c⟩:=e _ (bg a au);unfold iG at b c;rw[k8,bz,ae (aQ aC)];simp only[aT,ao,bc,I.aU];have a1:=wa (p:=br ts x.aG (v.ai.getD i au)) (by omega);have a2:=wa (p:=br ts x.Key (v.aw.getD i au)) (by omega);rw[ae (by simp[d]),ae (aQ a),c];simp only[ao];rw[IF];simp only[ao];rw[ae (gf),b];simp only[ao];rw[IF];simp only[ao];rw[ae (gf (by rw[cJ];omega)),bH,PR d j af hs e k (i+1) _ (by omega) (by rw[cJ,cJ];omega),eB aC au,eB a au,bF,bF,gj,hz,hz]
theorem acw(H:iV ts)(l:bK v)(i:b6 ts true t v)(s:v.Kind<=4):j8 (t,v,1,ts,0)=some (br ts t v,ts,1):=by
 obtain⟨⟨q,r,g,_⟩,b⟩:=(eL _ _ _).1 i;have a:cy v.bf:=by cases l with|mk _ _ _ _ _ _ _ _ _ a _ _=>exact a
 obtain⟨j,rfl⟩:∃j:Nat,t=(j:Int):=⟨t.toNat,by omega⟩
 have c:j<ts.length:=by omega
 have k:=bg c aN;have m:=@uy ts (j:Int) v;have d:=@uz ts (j:Int) v;have o:=@uA ts (j:Int) v;have e:=@uB ts (j:Int) v;rw[j8];simp only[aT,ao];rw[ae (aQ c),show iz 0 1=1 by decide];simp only[bc,I.aU]at g b m d o e⊢;generalize ts.getD j aN=x at*;rcases b with h|h|h|h|h|h|h|h|h
 . grind
 . rw[ak (mt gZ (by omega)),ae (jF (by omega)),d (by omega),DY a];simp only[ao];have f:=wN a;obtain⟨n,aE⟩:∃n:Nat,fF v.bf=(n:Int):=⟨(fF v.bf).toNat,by unfold fF;split<;>omega⟩
   rw[aE,bc]at f;rw[aE,DZ f];rfl
 . grind
 . obtain⟨n,aE,af⟩:∃n:Nat,v.ad=(n:Int)/\n<=1000:=by
    rcases h.2.2.2.2.2.2.2 with⟨y,p,u⟩|⟨_,h,_⟩
    . have:=H.S x k (by omega) y p;unfold cj at this;grind
    . cases h
   rw[ak (mt gZ (by omega)),ak (mt gZ (by omega)),ak (mt gZ (by omega)),ae (jF (by omega)),e (by omega),aE,hE,DZ (by omega),bc];rfl
 all_goals omega
theorem adC(H:da ts)(b:bK v)(a:b6 ts true t v)(hs:h4 ts t v)(d:wt v<=3000)(c:v.Kind<=4):lM ((⟨ts⟩:aS),t,v)=some (br ts t v,0):=by
 unfold h4 at hs;rw[lM];simp only[I.aU];rw[Gt H.T H.V b (mY _ _ a)];simp only[aT,ao];rw[bx,acw (H.V.hB H.T) b a c];grind
theorem PS(H:da ts)(s:bK v):∀t,b6 ts true t v->wt v<=3000->iG ts t v:=by
 have u:=H.V.hB H.T;have D:=s;induction s with
 |mk v hs h1 ab af B r aj c9 an ap aq Q P=>
  intro t c E;have O:=wx H D t c E;obtain⟨⟨Y,Z,aa,J⟩,L⟩:=(eL _ _ _).1 c;obtain⟨j,rfl⟩:∃j:Nat,t=(j:Int):=⟨t.toNat,by omega⟩
  have z:j<ts.length:=by omega
  have C:=bg z aN;have K:=J rfl;have al:=fw v;have aX:∀y,y∈v.aw->wt y<=3000:=λy b=>by have:=e' b;omega
  have l:∀y,y∈v.ai->wt y<=3000:=λy b=>by have:=e' b;omega
  have p:∀t y,y∈v.ai->b6 ts true t y->h4 ts t y/\iG ts t y:=λt y b c=>⟨wx H (r y b) t c (l y b),P y b (r y b) t c (l y b)⟩
  have G:∀t y,y∈v.aw->b6 ts true t y->(br ts t y).length<=3000/\iG ts t y:=λt y b c=>⟨by have:=wx H (B y b) t c (aX y b);unfold h4 at this;have:=aX y b;omega,Q y b (B y b) t c (aX y b)⟩
  have k:∀t y,y∈v.ai->b6 ts true t y->(br ts t y).length<=3000/\iG ts t y:=λt y b c=>⟨by have:=(p t y b c).1;unfold h4 at this;have:=l y b;omega,(p t y b c).2⟩
  have ax:=na v.aw;have ar:=na v.ai;have am:=adC H D c O E;unfold iG;rw[la,ae (aQ z)];simp only[aT,ao,I.aU];rw[bc]at*;rcases L with h|h|h|h|h|h|h|h|h
  . grind
  . grind
  . grind
  . grind
  . obtain⟨a1,a2,a3,a4,a5,d,o,e⟩:=h;obtain⟨g,R⟩:=u.A _ C (.inl (by omega));obtain⟨f1,f2⟩:=h9.1 e;have h0:=RU (ts:=ts) (ms:=(ts.getD j aN).ag) (v:=v) g.2 f1 (by omega) r (λi M=>p _ _ (bg (by omega) au) (f2 i M)) l (ts.getD j aN).ag.length 0 [] (by omega) (by simp);have f:rq ([],(ts.getD j aN).ag,((ts.getD j aN).ag.length:Int),0,ts,v)=_:=h0;rw[ae (jF (by omega)),f];rw[KB (by rw[bc];omega) K (by rw[bc];exact g),bc];rfl
  . obtain⟨a1,a2,a3,a4,a5,d⟩:=h;obtain⟨g,R⟩:=u.A _ C (.inr (by omega));cases bw:cz (ts.getD j aN).ag v.ad with
    |none=>rw[bw]at d;cases d.2.1
    |some m=>
     rw[bw]at d;obtain⟨b1,b2,b3⟩:=d;obtain⟨d3,d4⟩:=jP bw;obtain⟨q,S,U,W⟩:=Fk g (by omega) bw;have N:=g.2 m d3;unfold cj at N;have b:=bg (by omega:0<v.ai.length) au;obtain⟨z1,z2⟩:=k m.av _ b (cN.1 b3 _ b);unfold iG at z2;obtain⟨n,aE⟩:∃n:Nat,v.ad=(n:Int):=⟨v.ad.toNat,by omega⟩
     have:=AO (n:=n) (by omega);rw[ak (mt gZ (by omega)),ae (jF (by omega)),U];simp only[ao];rw[aE,hE,tV];simp only[ao];rw[ae (aQ S),ae (by rw[b2];rfl),bc,W,show(0:Int).toNat=0 from rfl,z2];simp only[ao];rw[ae (gf),uC (t:=(j:Int)) (v:=v) (by rw[bc];omega),bc,bw,aE,bc];have ah:bF ts m.av v.ai=[br ts m.av (v.ai.getD 0 au)]:=by
      match s:v.ai,b2 with
      |[a],_=>rw[bF,bF];rfl
     grind
  . obtain⟨a1,a2,a3,a4,a5,d,o,e,a9⟩:=h;have h0:=RV (ts:=ts) (x:=ts.getD j aN) (v:=v) (by omega) (by omega) (λy b=>k _ y b (cN.1 a9 y b)) v.ai.length 0 [] (by omega) (by simp);have f:k8 ([],v.ai,(v.ai.length:Int),0,ts,v,ts.getD j aN)=_:=h0;rw[ak (mt gZ (by omega)),ak (mt gZ (by omega)),ak (mt gZ (by omega)),ae (jF (by omega)),ae (jF (by omega)),f,uD (by rw[bc];omega),bc];rfl
  . obtain⟨a1,a2,a3,a4,a5,d,o,e,a9,F,X⟩:=h;have h0:=PR (ts:=ts) (x:=ts.getD j aN) (v:=v) (by omega) e (by omega) (λy b=>k _ y b (cN.1 F y b)) (λy b=>G _ y b (cN.1 a9 y b)) v.ai.length 0 [] (by omega) (by simp);have f:k8 ([],v.ai,(v.ai.length:Int),0,ts,v,ts.getD j aN)=_:=h0;rw[ak (mt gZ (by omega)),ak (mt gZ (by omega)),ak (mt gZ (by omega)),ak (mt gZ (by omega)),ae (jF (by omega)),f,uE (by rw[bc];omega),bc];rfl
  . obtain⟨a1,a2,a3,a4,a5,d,o,e,a9⟩:=h;rw[ak (mt gZ (by omega)),ak (mt gZ (by omega)),ae (jF (by omega)),uF (by rw[bc];omega),bc]
    match w:v.ai,e with
    |[],_=>
     rw[vd,bx,bF];rfl
    |[a],_=>
     obtain⟨z1,z2⟩:=k (ts.getD j aN).aG a (by rw[w];exact .head _) (cN.1 a9 a (by rw[w];exact .head _));unfold iG at z2;rw[vd,hT,ae (show aH 0 [a].length=true from rfl)];simp only[I.aU];rw[show[a].getD (Int.toNat 0) au=a from rfl,z2];simp only[aT,ao];rw[ae (gf (by show 1+(br ts (ts.getD j aN).aG a).length<=_;omega)),show aM .i64 0 1=1 from by decide,vd,ak (show ¬decide ((1:Int)<([a].length:Int))=true from by simp),bF,bF];rfl
end
theorem KC{a0 a2 a4 z0 z2 z4:Int}{a1 z1:Bool}{a3 z3:aj}{l l2:List I}{r:List bX}(af:l.length<=1000000000)(h:∀y,y∈l->ka y=some y):∀(k i:Nat),i+k=l.length->
 sQ ((l.length:Int),(i:Int),a0,a1,a2,a3,a4,z0,z1,z2,z3,z4,l,l2,r)=some (a0,a1,a2,a3,a4,z0,z1,z2,z3,z4,l,l2,r)
 |0,i,a=>by rw[sQ,cp]
 |k+1,i,a=>by
  have aC:i<l.length:=by omega
  rw[sQ,bz,ae (aQ aC),bc,bz];simp only[I.aU];rw[h _ (bg aC au)];simp only[aT,ao,I.aU];rw[ae (aQ aC),bz,bH,Dv aC];exact KC af h k (i+1) (by omega)
theorem KD{a0 a2 a4 z0 z2 z4:Int}{a1 z1:Bool}{a3 z3:aj}{l l2:List I}{r:List bX}(af:l.length<=1000000000)(h:∀y,y∈l->ka y=some y):∀(k i:Nat),i+k=l.length->
 sR ((l.length:Int),(i:Int),a0,a1,a2,a3,a4,z0,z1,z2,z3,z4,l,l2,r)=some (a0,a1,a2,a3,a4,z0,z1,z2,z3,z4,l2,l,r)
 |0,i,a=>by rw[sR,cp]
 |k+1,i,a=>by
  have aC:i<l.length:=by omega
  rw[sR,bz,ae (aQ aC),bc,bz];simp only[I.aU];rw[h _ (bg aC au)];simp only[aT,ao,I.aU];rw[ae (aQ aC),bz,bH,Dv aC];exact KD af h k (i+1) (by omega)
theorem ZA(j:bK v):wt v<=1000000000->ka v=some v:=by
 induction j with
 |mk v hs h1 o p s q t c9 A B C m k=>
  intro u;have w:=fw v;have x:=na v.aw;have l2:=na v.ai;have z:=L5 v.Rest;have kk:∀y,y∈v.aw->ka y=some y:=λy a=>m y a (by have:=e' a;omega);have n:∀y,y∈v.ai->ka y=some y:=λy a=>k y a (by have:=e' a;omega);have f:fK 120 v.aw=some v.aw:=by unfold fK;rw[ae (oa (wP))]
  have g:fK 120 v.ai=some v.ai:=by unfold fK;rw[ae (oa (wP))]
  have i:fK 24 v.Rest=some v.Rest:=by unfold fK;rw[ae (oa (wP))]
  have b:=KC (a0:=v.Kind) (a1:=v.bL) (a2:=v.bf) (a3:=v.bn) (a4:=v.ad) (z0:=0) (z1:=false) (z2:=0) (z3:=[]) (z4:=0) (l:=v.aw) (l2:=v.ai) (r:=v.Rest) (by omega) kk v.aw.length 0 (by omega);have d:=KD (a0:=v.Kind) (a1:=v.bL) (a2:=v.bf) (a3:=v.bn) (a4:=v.ad) (z0:=0) (z1:=false) (z2:=0) (z3:=[]) (z4:=0) (l:=v.ai) (l2:=v.aw) (r:=v.Rest) (by omega) n v.ai.length 0 (by omega);have c:sQ ((v.aw.length:Int),0,v.Kind,v.bL,v.bf,v.bn,v.ad,0,false,0,[],0,v.aw,v.ai,v.Rest)=_:=b;have e:sR ((v.ai.length:Int),0,v.Kind,v.bL,v.bf,v.bn,v.ad,0,false,0,[],0,v.ai,v.aw,v.Rest)=_:=d;rw[ka,f,g,i];simp only[aT,ao];rw[c];simp only[ao];rw[e];simp only[ao];cases v;rfl
theorem R9(b:path.length<=90000)(a:aq):sP (tw,tr,a,path)=some ((⟨0,false,0,[],0,[],[],[]⟩:I),false,tw,tr,path,path):=by
 rw[sP];unfold tb fK;rw[ae (oa (cS (by omega) (by omega)))];simp
theorem Ei(b:path.length<=90000)(id:Int)(a:aq):vJ (id,tw,tr,a,path)=some ((⟨0,false,0,[],0,[],[],[]⟩:I),false,tw,tr,path,path++[id]):=by
 rw[vJ];unfold tb fK;rw[ae (oa (cS (by omega) (by omega)))];simp only[gk,aT,ao];rw[hT,ae (cS)]
theorem Ej(af:x.ag.length<=1000)(id:Int):hl (x,id)=some (lW x.ag id):=by
 obtain⟨r,a,b⟩:=vo (t:=x) (id:=id) (by omega);rw[a,HS b (K9 _ _)]
section
variable {tw tr:List ah}
def fH(tw tr:List ah)(a path:aq):I ⊕ aq->I×Bool×List ah×List ah×aq×aq
 |.inl u=>(u,true,tw,tr,a,path)
 |.inr p=>(⟨0,false,0,[],0,[],[],[]⟩,false,tw,tr,p,path)
def EE(tw tr:List ah)(a path:aq)(acc:List I):List I ⊕ aq->(Bool×List ah×List ah×aq×aq) ⊕ (List ah×List ah×aq×List I×aq)
 |.inl us=>.inr (tw,tr,a,acc++us,path)
 |.inr p=>.inl (false,tw,tr,p,path)
def oL(tw tr:List ah)(a path:aq):List I ⊕ aq->List I×Bool×List ah×List ah×aq×aq
 |.inl us=>(us,true,tw,tr,a,path)
 |.inr p=>([],false,tw,tr,p,path)
def Part(tw tr:List ah)(f:fP)(path:aq)(t rt:Int)(v:I):Prop:=∀(step:Int) (a:aq),ru (step,t,v,rt,tw,tr,a,path)=some (fH tw tr a path (f t v rt (path++[step])))
theorem NG{step:Int}{a:aq}{o:I ⊕ aq}(c:path.length<=90000)(h:sT (t,v,rt,tw,tr,a,path++[step])=some (fH tw tr a (path++[step]) o)):ru (step,t,v,rt,tw,tr,a,path)=some (fH tw tr a path o):=by
 rw[ru];simp only[aT,ao,I.aU];rw[ae (cS),h];have aI:dj .i64 ((path++[step]).length:Int) 1=(path.length:Int):=by rw[hP (by simp<;>omega) (by simp<;>omega)];simp
 have b:dY 0 (path.length:Int) (path++[step]).length=true:=iN.2 (by simp;omega);cases o with
 |inl u=>
  simp only[ao,I.aU,fH];simp_all
 |inr p=>
  simp only[ao,I.aU,fH];simp_all
theorem JO{f:fP}{l:List I}(af:l.length<=50000)(h:∀y,y∈l->Part tw tr f path t rt y):∀(k i:Nat) (acc:List I) (a:aq),i+k=l.length->acc.length<=i->
 sB (t,rt,l,(l.length:Int),(i:Int),tw,tr,a,acc,path)=some (EE tw tr a path acc (eZ f path t rt i (l.drop i)))
 |0,i,acc,a,c,b=>by
  rw[sB,cp,en (by omega:l.length<=i)];simp[eZ,EE]
 |k+1,i,acc,a,c,b=>by
  have aC:i<l.length:=by omega
  rw[sB,bz,ae (aQ aC),bc];simp only[I.aU];rw[h _ (bg aC au),eB aC au,eZ];cases f t (l.getD i au) rt (path++[(i:Int)])with
  |inr p=>rfl
  |inl u=>
   simp only[aT,ao,fH,dn,I.aU];rw[bx,ae (cS),bH,JO af h k (i+1) _ a (by omega) (by simp;omega)];cases eZ f path t rt (i+1) (l.drop (i+1))with
   |inr p=>rfl
   |inl us=>simp[EE,ja]
theorem zZ{f:fP}{l:List I}(af:l.length<=50000)(h:∀y,y∈l->Part tw tr f path t rt y)(a:aq):
 nx (t,l,rt,tw,tr,a,path)=some (oL tw tr a path (eZ f path t rt 0 l)):=by
 have h0:=JO af h l.length 0 [] a (by omega) (by simp);have b:sB (t,rt,l,(l.length:Int),0,tw,tr,a,[],path)=_:=h0;rw[nx,b,fL];cases eZ f path t rt 0 l with
 |inr p=>rfl
 |inl us=>rfl
def uP(tw tr:List ah)(a path:aq)(x:ah)(v:I)(y:ah)(acc:List I):List I ⊕ aq->(Bool×List ah×List ah×aq×I×aq) ⊕ (List ah×List ah×aq×ah×I×ah×Int×Bool×Int×aj×Int×Int×Bool×Int×aj×Int×aq×List I)
 |.inl us=>.inr (tw,tr,a,x,v,y,0,false,0,[],0,v.Kind,false,0,[],0,path,acc++us)
 |.inr p=>.inl (false,tw,tr,p,⟨0,false,0,[],0,[],[],[]⟩,path)
theorem NH{f:fP}(c:path.length<=90000)(s:x.ag.length<=1000)(D:y.ag.length<=1000)(af:v.ai.length=x.ag.length)(r:∀q,q∈v.ai->bK q)
 (g:∀n,n∈y.ag->n.bZ=true->ka n.bu=some n.bu)
 (h:∀i,i<x.ag.length->∀n,n∈y.ag->Part tw tr f path (x.ag.getD i ay).av n.av (v.ai.getD i au)/\∀p u,f (x.ag.getD i ay).av (v.ai.getD i au) n.av p= .inl u->bK u):∀(k j:Nat) (acc:List I) (a:aq),j+k=y.ag.length->acc.length<=j->
 o2 (y.ag,(y.ag.length:Int),(j:Int),tw,tr,a,x,v,y,0,false,0,[],0,v.Kind,false,0,[],0,path,acc)=some (uP tw tr a path x v y acc (jl f x v path (y.ag.drop j)))
 |0,j,acc,a,B,w=>by
  rw[o2,cp,en (by omega:y.ag.length<=j)];simp[jl,uP,I.aU]
 |k+1,j,acc,a,B,w=>by
  have aC:j<y.ag.length:=by omega
  have l:=bg aC ay;have t:=λacc a=>NH c s D af r g h k (j+1) acc a (by omega);rw[o2,bz,ae (aQ aC),bc];simp only[aT,ao,I.aU,jz];rw[Ej s,eB aC ay,jl];unfold wT lW;generalize aE:y.ag.getD j ay=n at*;cases bw:fi x.ag n.ad with
  |none=>
   simp only[ao,eN];rw[ae trivial];cases A:n.bZ with
   |false=>
    simp only[eN];rw[ae trivial,Ei c];rfl
   |true=>
    simp only[dn];rw[bx,g n l A];simp only[ao];rw[ae (cS),bH,t _ _ (by simp;omega),ae trivial];cases jl f x v path (y.ag.drop (j+1))with
    |inr p=>rfl
    |inl us=>simp[uP,ja]
  |some i=>
   obtain⟨d,_,_⟩:=iO bw;have e:i<v.ai.length:=(by omega);obtain⟨E,F⟩:=h i d n l;simp only[ao,dn];rw[bx,ae (aQ d),ae (aQ e),bc,E n.ad a];have o:=Dx (m:=x.ag.getD i ay) (r _ (bg e au));cases z:f (x.ag.getD i ay).av (v.ai.getD i au) n.av (path++[n.ad])with
   |inr p=>
    simp only[ao,fH,I.aU,eN,dn,Bool.and_false];rw[ae (aQ d),ae (aQ e),o];simp only[ao,bV,b7];rw[Nz];generalize c7 (x.ag.getD i ay) (v.ai.getD i au)=b at*;cases b with
    |false=>rfl
    |true=>
     simp only[ev];rw[ae trivial,Ei c];rfl
   |inl u=>
    have C:=Dx (m:=n) (F _ u z);simp only[ao,fH,I.aU,eN,dn,yy];rw[ae (aQ d),ae (aQ e),o];simp only[ao,bV,b7];rw[NA];generalize c7 (x.ag.getD i ay) (v.ai.getD i au)=b at*;have tail:(some [u]>>=λt110=>if room 120 (acc++t110).length then o2 (y.ag,(y.ag.length:Int),aM .i64 (j:Int) 1,tw,tr,a,x,v,y,0,false,0,[],0,v.Kind,false,0,[],0,path,acc++t110)else none)=some (uP tw tr a path x v y acc (ja (.inl u) (jl f x v path (y.ag.drop (j+1))))):=by
     simp only[aT,ao];rw[ae (cS),bH,t _ _ (by simp;omega)];cases jl f x v path (y.ag.drop (j+1))with
     |inr p=>rfl
     |inl us=>simp[uP,ja]
    cases b with
    |false=>grind
    |true=>
     rw[ae rfl,C];cases G:c7 n u with
     |true=>grind
     |false=>
      simp only[ao,ev,dW,eN,and_self,bS];rw[Ei c];rfl
def A7(tw tr:List ah)(a path:aq)(v:I)(its:List I)(acc:List bX):List bX ⊕ aq->(Bool×List ah×List ah×I×aq×aq) ⊕ (List ah×List ah×aq×Int×Bool×Int×aj×Int×Int×Bool×Int×aj×Int×aq×List I×List bX)
 |.inl b=>.inr (tw,tr,a,0,false,0,[],0,v.Kind,false,0,[],0,path,its,acc++b)
 |.inr p=>.inl (false,tw,tr,⟨0,false,0,[],0,[],[],[]⟩,path,p)
theorem NI(g:path.length<=90000)(r:x.ag.length<=1000)(l:y.ag.length<=1000)(af:v.ai.length=x.ag.length)(j:∀q,q∈v.ai->bK q)
 (h:∀i,i<x.ag.length->iG tw (x.ag.getD i ay).av (v.ai.getD i au)){its:List I}(d:aq):∀(k i:Nat) (acc:List bX),i+k=x.ag.length->acc.length<=i->
 nT (x.ag,(x.ag.length:Int),(i:Int),tw,tr,d,v,y,0,false,0,[],0,v.Kind,false,0,[],0,path,its,acc)=some (A7 tw tr d path v its acc (ha tw y path (x.ag.drop i) (v.ai.drop i)))
 |0,i,acc,n,m=>by
  rw[nT,cp,en (by omega:x.ag.length<=i),ha]
  . simp[A7]
  grind
 |k+1,i,acc,n,m=>by
  have aC:i<x.ag.length:=by omega
  have c:i<v.ai.length:=by omega
  have e:=λacc=>NI g r l af j h (its:=its) d k (i+1) acc (by omega);rw[nT,bz,ae (aQ aC),bc];simp only[aT,ao,I.aU,jz];rw[Ej l,eB aC ay,eB c au,ha];have hs:=rA y.ag (x.ag.getD i ay).ad;have o:(lW y.ag (x.ag.getD i ay).ad).2=(cz y.ag (x.ag.getD i ay).ad).isSome:=by
   rw[<-hs];unfold lW;grind
  simp only[ao];rw[o];by_cases a:(cz y.ag (x.ag.getD i ay).ad).isSome=true
  . rw[ae a,ae a,bH,e _ (by omega)]
  rw[ak a,ak a];by_cases b:(x.ag.getD i ay).cf=true
  . rw[ae b,ae b,Ei g];rfl
  rw[ak b,ak b,ae (aQ c),Dx (j _ (bg c au))];simp only[ao];cases c7 (x.ag.getD i ay) (v.ai.getD i au)with
  |true=>rw[bx,ae rfl,bH,e _ (by omega)]
  |false=>
   have f:=h i aC;unfold iG at f;rw[ae (show(!false)=true from rfl),ak (show ¬false=true by simp),ae (aQ c),f];simp only[ao];rw[ae (cS),bH,e _ (by simp;omega)];cases ha tw y path (x.ag.drop (i+1)) (v.ai.drop (i+1))with
   |inr p=>rfl
   |inl us=>simp[A7,ja]
theorem ZB{f:fP}(b:path.length<=90000)(m:v.Kind=5)(d:x.ag.length<=1000)(e:y.ag.length<=1000)(af:v.ai.length=x.ag.length)(c:∀q,q∈v.ai->bK q)
 (k:∀n,n∈y.ag->n.bZ=true->ka n.bu=some n.bu)
 (h:∀i,i<x.ag.length->∀n,n∈y.ag->Part tw tr f path (x.ag.getD i ay).av n.av (v.ai.getD i au)/\∀p u,f (x.ag.getD i ay).av (v.ai.getD i au) n.av p= .inl u->bK u)
 (l:∀i,i<x.ag.length->iG tw (x.ag.getD i ay).av (v.ai.getD i au))(a:aq):
 x6 (x,v,y,tw,tr,a,path)=some (fH tw tr a path (wQ tw f x y v path)):=by
 have h0:=NH b d e af c k h y.ag.length 0 [] a (by omega) (by simp);have g:o2 (y.ag,(y.ag.length:Int),0,tw,tr,a,x,v,y,0,false,0,[],0,v.Kind,false,0,[],0,path,[])=_:=h0;rw[x6];simp only[I.aU];rw[g,fL];unfold wQ;cases jl f x v path y.ag with
 |inr p=>rfl
 |inl its=>
  have h1:=NI (tr:=tr) b d e af c l (its:=its) a x.ag.length 0 [] (by omega) (by simp);have j:nT (x.ag,(x.ag.length:Int),0,tw,tr,a,v,y,0,false,0,[],0,v.Kind,false,0,[],0,path,its,[])=_:=h1;simp only[aT,ao,uP,fZ,I.aU];rw[j,fL,fL];cases ha tw y path x.ag v.ai with
  |inr p=>rfl
  |inl r=>simp only[ao,A7,fZ,m,mn,ig,fH]
theorem aby{f:fP}(l:path.length<=90000)(g:v.Kind=6)(m:x.ag.length<=1000)(o:y.ag.length<=1000)(h1:v.ai.length=1){i:Nat}(a:fi x.ag v.ad=some i)
 (h:∀n,n∈y.ag->Part tw tr f path (x.ag.getD i ay).av n.av (v.ai.getD 0 au))
 (c:iG tw (x.ag.getD i ay).av (v.ai.getD 0 au))(j:aq):
 ya (x,v,y,tw,tr,j,path)=some (fH tw tr j path (rR tw f x y v path)):=by
 obtain⟨d,_,_⟩:=iO a;have b:aH 0 v.ai.length=true:=by rw[h1];rfl
 rw[ya,Ej m,Ej o];unfold rR lW;simp only[aT,ao,I.aU,a];cases bw:fi y.ag v.ad with
 |some k=>
  obtain⟨e,_,_⟩:=iO bw;simp only;rw[ae trivial,ae (aQ d),ae b,ae (aQ e),bc,bc,show(0:Int).toNat=0 from rfl,h _ (bg e ay)];cases f (x.ag.getD i ay).av (v.ai.getD 0 au) (y.ag.getD k ay).av (path++[v.ad])with
  |inr p=>
   simp only[ao,fH,eN,ig];rw[ae trivial]
  |inl u=>
   simp only[ao,fH,dn,ig,I.aU,g];rw[bx]
 |none=>
  simp only;rw[bx];cases y.Open with
  |false=>
   simp only[eN];rw[ae trivial,R9 l];simp only[ao,I.aU,bV,b7,fH]
  |true=>
   unfold iG at c;simp only[dn];rw[bx,ae (aQ d),ae b,bc,show(0:Int).toNat=0 from rfl,c];simp only[ao,bS,fH,g]
def xh(tw tr:List ah)(n:Nat):Prop:=∀{v:I},bK v->wt v<=3000->wt v<=n->∀{t rt:Int} {path:aq} (a:aq),b6 tw true t v->0<=rt->rt<tr.length->path.length+n<=50000->
 sT (t,v,rt,tw,tr,a,path)=some (fH tw tr a path (ec tw tr n t v rt path))
theorem abz(H:da tw)(g:da tr){n:Nat}(ih:xh tw tr n):xh tw tr (n+1):=by
 intro v aB aW aE t rt path e K ba U aU;have SW:=H.V.hB H.T;have cv:=g.V.hB g.T;have aX:=fw v;obtain⟨⟨aM,aO,an,ap⟩,X⟩:=(eL _ _ _).1 K;obtain⟨j,rfl⟩:∃j:Nat,t=(j:Int):=⟨t.toNat,by omega⟩
 obtain⟨k,rfl⟩:∃k:Nat,rt=(k:Int):=⟨rt.toNat,by omega⟩
 have Z:j<tw.length:=by omega
 have aa:k<tr.length:=by omega
 have ab:=bg Z aN;have z:=bg aa aN;have aS:=ap rfl;cases aB with
 |mk _ hs h1 aP aR ar C aV c9 aZ a6 a7=>
 rw[sT,ae (aQ Z),zc];simp only[aT,ao,bc,I.aU];rw[bc]at an X;rw[ae (aQ aa)];have am:∀q,q∈(tr.getD k aN).ag->q.bZ=true->ka q.bu=some q.bu:=λq a aq=>ZA ((g.T _ z).jf _ a) (by have:=g.W _ z q a aq;omega);generalize aY:tw.getD j aN=x at*;generalize O:tr.getD k aN=y at*;have M:∀y,y∈v.ai->wt y<=3000/\wt y<=n:=λy O=>by have:=e' O;omega
 have aj:∀y,y∈v.aw->wt y<=3000/\wt y<=n:=λy O=>by have:=e' O;omega
 have L:∀{t rt:Int} {q:I},q∈v.ai->b6 tw true t q->0<=rt->rt<tr.length->Part tw tr (ec tw tr n) path t rt q:=λ{t rt q} a K a0 a1 step e=>NG (by omega) (ih (C q a) (M q a).1 (M q a).2 e K a0 a1 (by simp;omega));have aH:∀{t rt:Int} {q:I},q∈v.aw->b6 tw true t q->0<=rt->rt<tr.length->Part tw tr (ec tw tr n) path t rt q:=λ{t rt q} a K a0 a1 step e=>NG (by omega) (ih (ar q a) (aj q a).1 (aj q a).2 e K a0 a1 (by simp;omega));have a':=na v.aw;have a8:=na v.ai;have F:=R9 (tw:=tw) (tr:=tr) (path:=path) (by omega) e;by_cases bD:x.Kind=y.Kind
 . rw[ak (show ¬(!(decide (x.Kind=y.Kind)))=true by simp[bD])];have P:∀{t rt:Int},v.ai=[]->nx (t,v.ai,rt,tw,tr,e,path)=some ([],true,tw,tr,e,path):=λ{t rt} he=>by
    have:=zZ (tw:=tw) (tr:=tr) (f:=ec tw tr n) (path:=path) (t:=t) (rt:=rt) (l:=v.ai) (by omega) (λq a=>by rw[he]at a;cases a) e;rw[this,he];rfl
   rcases X with h|h|h|h|h|h|h|h|h
   . obtain⟨a1,a2,a3,a4,a5,d,D⟩:=h;have b:x.Kind=1:=(by omega);have af:iR x y v:=⟨λh=>by omega,λh=>by omega,λh=>by omega⟩
     rw[pN bD (by omega) af];simp only[b];simp only[P d,ao,di,bV,b7,Int.reduceEq,dn,fH];cases v;simp_all
   . obtain⟨a1,a2,a3,a4,a5,d,D,E,a9⟩:=h;have b:x.Kind=2:=(by omega);by_cases af:y.bC<=v.bf/\v.bf<=y.bG
     . rw[pN bD (by omega) (show iR x y v from⟨λ_=>af,λh=>by omega,λh=>by omega⟩)];simp only[b];simp only[P d,af.1,af.2,ao,di,dp,bV,b7,bS,Int.reduceEq,dn,ev,fH];cases v;simp_all
     . rw[tZ bD (by omega) (show ¬iR x y v fromλh=>af (h.1 b))];have J:(bif decide (y.bC<=v.bf)then decide (v.bf<=y.bG)else false)=false:=by
        by_cases c:y.bC<=v.bf<;>simp[c];omega
       simp only[b,J];simp only[F,ao,dp,bS,eN,fH,I.aU]
   . obtain⟨a1,a2,a3,a4,a5,d,D,E⟩:=h;have b:x.Kind=3:=(by omega);by_cases af:(v.bn.length:Int)<=y.Max
     . rw[pN bD (by omega) (show iR x y v from⟨λh=>by omega,λ_=>af,λh=>by omega⟩)];simp only[b];simp only[P d,af,ao,di,dp,bV,b7,bS,Int.reduceEq,dn,ev,fH];cases v;simp_all
     . rw[tZ bD (by omega) (show ¬iR x y v fromλh=>af (h.2.1 b))];simp only[b];simp only[F,af,ao,dp,di,bS,b7,Int.reduceEq,bV,eN,fH,I.aU]
   . obtain⟨a1,a2,a3,a4,a5,d,D,E⟩:=h;have b:x.Kind=4:=(by omega);obtain⟨r,U,_,aJ⟩:=qW (t:=y) v.ad (by have:=(g.T _ z).1;have:=dB (dU reachBytes);omega);have G:r.2=true↔∃s,s∈y.bj/\s.ad=v.ad:=by
      rcases aJ with⟨q,o,S,_,rfl⟩|⟨q,rfl⟩
      . exact⟨λ_=>⟨_,bg o dN,S⟩,λ_=>rfl⟩
      . constructor
        . intro h;simp at h
        intro a;obtain⟨s,s1,aK⟩:=a;obtain⟨i,C,rfl⟩:=e5 s1;exact absurd aK (by have:=q i C;rwa [du C]at this)
     by_cases af:(∃s,s∈y.bj/\s.ad=v.ad)\/y.Open=true
     . rw[pN bD (by omega) (show iR x y v from⟨λh=>by omega,λh=>by omega,λ_=>af⟩)];have J:(bif r.2 then true else y.Open)=true:=by
        rcases af with af|af
        . rw[G.2 af];rfl
        . rw[af];cases r.2<;>rfl
       simp only[b,U];simp only[P d,J,ao,di,dp,bV,b7,bS,Int.reduceEq,dn,fH];cases v;simp_all
     . rw[tZ bD (by omega) (show ¬iR x y v fromλh=>af (h.2.2 b))];have J:(bif r.2 then true else y.Open)=false:=by
        cases az:r.2 with
        |true=>exact absurd (.inl (G.1 az)) af
        |false=>
         cases av:y.Open with
         |true=>exact absurd (.inr av) af
         |false=>rfl
       simp only[b,U];simp only[F,J,ao,dp,di,bS,b7,Int.reduceEq,bV,eN,fH,I.aU]
   . obtain⟨a1,a2,a3,a4,a5,d,D,E⟩:=h;have b:x.Kind=5:=(by omega);obtain⟨ah,aC⟩:=SW.A _ ab (.inl (by omega));obtain⟨aD,aF⟩:=cv.A _ z (.inl (by omega));obtain⟨f1,f2⟩:=h9.1 E
     have G:=ZB (tw:=tw) (tr:=tr) (f:=ec tw tr n) (path:=path) (by omega) (x:=x) (y:=y) a1 (by omega) (by omega) f1 C am (λi N q a=>by
      have w:=bg (by omega:i<v.ai.length) au;obtain⟨B,o⟩:=g.fA.mem z a;exact⟨L w (f2 i N) B o,λp u aA=>(My H g n (C _ w) (M _ w).1 (f2 i N) B o aA).1⟩) (λi N=>by
      have w:=bg (by omega:i<v.ai.length) au
      exact PS H (C _ w) _ (f2 i N) (M _ w).1) e
     rw[FW bD b];simp only[b,G,ao,di,dp,bV,b7,bS,Int.reduceEq,I.aU]
   . obtain⟨a1,a2,a3,a4,a5,d⟩:=h;have b:x.Kind=6:=(by omega);obtain⟨ah,aC⟩:=SW.A _ ab (.inr (by omega));obtain⟨aD,aF⟩:=cv.A _ z (.inr (by omega));cases bw:cz x.ag v.ad with
     |none=>rw[bw]at d;cases d.2.1
     |some m=>
      rw[bw]at d;obtain⟨b1,b2,b3⟩:=d;have R:=rA x.ag v.ad;rw[bw]at R;cases Q:fi x.ag v.ad with
      |none=>rw[Q]at R;cases R
      |some i=>
      obtain⟨d1,d2,_⟩:=iO Q;obtain⟨d3,d4⟩:=jP bw;have em:x.ag.getD i ay=m:=pJ ah (bg d1 ay) d3 (by rw[d2,d4]);have w:=bg (by omega:0<v.ai.length) au;have Y:=cN.1 b3 _ w
      have G:=aby (tw:=tw) (tr:=tr) (f:=ec tw tr n) (path:=path) (by omega) (x:=x) (y:=y) a1 (by omega) (by omega) b2 Q (λq a=>by
       obtain⟨B,o⟩:=g.fA.mem z a;rw[em]
       exact L w Y B o) (by rw[em];exact PS H (C _ w) _ Y (M _ w).1) e
      rw[FX bD b];simp only[b,G,ao,di,dp,bV,b7,bS,Int.reduceEq,I.aU]
   . obtain⟨a1,a2,a3,a4,a5,d,D,E,a9⟩:=h;have b:x.Kind=7:=(by omega);obtain⟨B,o⟩:=g.fA.elem z (by omega);have a:=zZ (tw:=tw) (tr:=tr) (f:=ec tw tr n) (path:=path) (t:=x.aG) (rt:=y.aG) (l:=v.ai) (by omega) (λq a=>L a (cN.1 a9 q a) B o) e;rw[FY bD b];unfold wR;by_cases af:(v.ai.length:Int)<=y.Max
     . rw[ae af];simp only[b,a,af,ao,di,dp,bV,b7,bS,Int.reduceEq,dn];cases eZ (ec tw tr n) path x.aG y.aG 0 v.ai with
       |inr p=>rfl
       |inl us=>simp only[oL,ig,fH,dn,bV,b7,a1,a2,a3,a4,a5]
     . rw[ak af];simp only[b];simp only[F,af,ao,dp,di,bS,b7,Int.reduceEq,bV,eN,fH,I.aU]
   . obtain⟨a1,a2,a3,a4,a5,d,D,E,a9,al,aL⟩:=h;have b:x.Kind=8:=(by omega);obtain⟨B,o⟩:=g.fA.elem z (by omega);obtain⟨S,aI⟩:=g.fA.key z (by omega);have a:=zZ (tw:=tw) (tr:=tr) (f:=ec tw tr n) (path:=path) (t:=x.aG) (rt:=y.aG) (l:=v.ai) (by omega) (λq a=>L a (cN.1 al q a) B o) e;have ax:=zZ (tw:=tw) (tr:=tr) (f:=ec tw tr n) (path:=path) (t:=x.Key) (rt:=y.Key) (l:=v.aw) (by omega) (λq a=>aH a (cN.1 a9 q a) S aI) e;rw[FZ bD b];unfold wS;by_cases af:(v.ai.length:Int)<=y.Max
     . rw[ae af];simp only[b,ax,af,ao,di,dp,bV,b7,bS,Int.reduceEq,dn];cases eZ (ec tw tr n) path x.Key y.Key 0 v.aw with
       |inr p=>rfl
       |inl ks=>
        simp only[oL,mn,dn,bV,b7,a,ao];cases eZ (ec tw tr n) path x.aG y.aG 0 v.ai with
        |inr p=>rfl
        |inl us=>simp only[oL,ig,fH,dn,bV,b7,a1,a2,a3,a4,a5]
     . rw[ak af];simp only[b];simp only[F,af,ao,dp,di,bS,b7,Int.reduceEq,bV,eN,fH,I.aU]
   . obtain⟨a1,a2,a3,a4,a5,d,D,E,a9⟩:=h;have b:x.Kind=9:=(by omega);obtain⟨B,o⟩:=g.fA.elem z (by omega);have a:=zZ (tw:=tw) (tr:=tr) (f:=ec tw tr n) (path:=path) (t:=x.aG) (rt:=y.aG) (l:=v.ai) (by omega) (λq a=>L a (cN.1 a9 q a) B o) e;rw[F0 bD b];unfold Av;simp only[b,a,ao,di,dp,bV,b7,bS,Int.reduceEq,dn];cases eZ (ec tw tr n) path x.aG y.aG 0 v.ai with
     |inr p=>rfl
     |inl us=>simp only[oL,ig,fH,dn,bV,b7,a1,a2,a3,a4,a5]
 . rw[ae (show(!(decide (x.Kind=y.Kind)))=true by simp[bD]),Jd bD,F];simp only[ao,I.aU,fH]
theorem abA:xh tw tr 0:=by
 unfold xh;intro v _ _ aE;have:=ON v;omega
theorem NJ(b:da tw)(a:da tr):∀n,xh tw tr n
 |0=>abA
 |n+1=>abz b a (NJ b a n)
end
def hG:I ⊕ aq->dJ
 |.inl u=>⟨u,[],true⟩
 |.inr p=>⟨⟨0,false,0,[],0,[],[],[]⟩,p,false⟩
theorem Cq(a:path.length<=90000):kI path=some (hG (.inr path)):=by
 rw[kI,ae (cS),fZ];rfl
theorem Am(a:path.length<=90000)(step:Int):qR (path,step)=some (path++[step]):=by
 rw[qR,ae (cS),fZ];simp only[aT,ao];rw[ae (cS)]
theorem FU{m:aR}(b:bK m.bu)(v:I):vH (m,v)=some (c7 m v):=by
 rw[vH];simp only[I.aU];unfold c7;cases d:m.bZ with
 |false=>rfl
 |true=>
  obtain⟨r,c,a⟩:=L1 b v;rw[ae rfl,c];by_cases e:m.bu=v
  . have:=a.2 e;subst this;simp[e]
  . have:r=false:=by
     cases r with
     |false=>rfl
     |true=>exact absurd (a.1 rfl) e
    subst this;simp[e]
theorem Ek(af:x.ag.length<=1000)(id:Int):hJ (x,id)=some (lW x.ag id):=by
 obtain⟨r,a,b⟩:=C2 (t:=x) (id:=id) (by omega);rw[a,HS b (K9 _ _)]
section
variable {tw tr:List ah}
def oM(tw tr:List ah)(f:fP)(path:aq)(t rt:Int)(v:I):Prop:=∀step:Int,mE ((⟨tw⟩:aS),t,v,(⟨tr⟩:aS),rt,path++[step])=some (hG (f t v rt (path++[step])))
def A6(tw tr:List ah)(path:aq)(x y:ah)(v:I)(acc:List I):List I ⊕ aq->dJ ⊕ (aq×List ah×I×List ah×Int×Bool×Int×aj×Int×Bool×ah×ah×Int×Bool×Int×aj×Int×List bX×List I)
 |.inl us=>.inr (path,tw,v,tr,0,false,0,[],0,false,x,y,v.Kind,v.bL,v.bf,v.bn,v.ad,v.Rest,acc++us)
 |.inr p=>.inl (hG (.inr p))
theorem NK{f:fP}(a:path.length<=90000)(af:v.aw.length<=50000)(h:∀q,q∈v.aw->oM tw tr f path x.Key y.Key q):∀(k i:Nat) (acc:List I),i+k=v.aw.length->acc.length<=i->
 n1 (path,(i:Int),tw,v,tr,0,false,0,[],0,false,x,y,v.Kind,v.bL,v.bf,v.bn,v.ad,v.Rest,acc)=some (A6 tw tr path x y v acc (eZ f path x.Key y.Key i (v.aw.drop i)))
 |0,i,acc,c,b=>by
  rw[n1,cp,en (by omega:v.aw.length<=i)];simp[eZ,A6,I.aU]
 |k+1,i,acc,c,b=>by
  have aC:i<v.aw.length:=by omega
  rw[n1,bz,ae (aQ aC),bc,Am a];simp only[I.aU,aT,ao];rw[h _ (bg aC au),eB aC au,eZ];cases f x.Key (v.aw.getD i au) y.Key (path++[(i:Int)])with
  |inr p=>rfl
  |inl u=>
   simp only[ao,hG,dn];rw[bx,ae (cS),bH,NK a af h k (i+1) _ (by omega) (by simp;omega)];cases eZ f path x.Key y.Key (i+1) (v.aw.drop (i+1))with
   |inr p=>rfl
   |inl us=>simp[A6,ja]
def A5(v:I)(ks acc:List I):List I ⊕ aq->dJ ⊕ (Int×Bool×Int×aj×Int×Bool×Int×Bool×Int×aj×Int×List bX×List I×List I)
 |.inl us=>.inr (0,false,0,[],0,false,v.Kind,v.bL,v.bf,v.bn,v.ad,v.Rest,ks,acc++us)
 |.inr p=>.inl (hG (.inr p))
theorem MA{f:fP}(a:path.length<=90000)(af:v.ai.length<=50000)(h:∀q,q∈v.ai->oM tw tr f path x.aG y.aG q):∀(k i:Nat) (acc:List I),i+k=v.ai.length->acc.length<=i->
 n2 (path,(i:Int),tw,v,tr,0,false,0,[],0,false,x,y,v.Kind,v.bL,v.bf,v.bn,v.ad,v.Rest,ks,acc)=some (A5 v ks acc (eZ f path x.aG y.aG i (v.ai.drop i)))
 |0,i,acc,c,b=>by
  rw[n2,cp,en (by omega:v.ai.length<=i)];simp[eZ,A5]
 |k+1,i,acc,c,b=>by
  have aC:i<v.ai.length:=by omega
  rw[n2,bz,ae (aQ aC),bc,Am a];simp only[I.aU,aT,ao];rw[h _ (bg aC au),eB aC au,eZ];cases f x.aG (v.ai.getD i au) y.aG (path++[(i:Int)])with
  |inr p=>rfl
  |inl u=>
   simp only[ao,hG,dn];rw[bx,ae (cS),bH,MA a af h k (i+1) _ (by omega) (by simp;omega)];cases eZ f path x.aG y.aG (i+1) (v.ai.drop (i+1))with
   |inr p=>rfl
   |inl us=>simp[A5,ja]
def ma(f:fP)(x y:ah)(v:I)(path:aq):I ⊕ aq:=
 mn (λks=>ig (λa=>⟨v.Kind,v.bL,v.bf,v.bn,v.ad,ks,a,v.Rest⟩) (eZ f path x.aG y.aG 0 v.ai)) (eZ f path x.Key y.Key 0 v.aw)
theorem t'{f:fP}(a:path.length<=90000)(e:v.aw.length<=50000)(af:v.ai.length<=50000)(d:∀q,q∈v.aw->oM tw tr f path x.Key y.Key q)(h:∀q,q∈v.ai->oM tw tr f path x.aG y.aG q):
 (∃p,ma f x y v path= .inr p/\n1 (path,0,tw,v,tr,0,false,0,[],0,false,x,y,v.Kind,v.bL,v.bf,v.bn,v.ad,v.Rest,[])=some (.inl (hG (.inr p))))\/
 ∃ks,n1 (path,0,tw,v,tr,0,false,0,[],0,false,x,y,v.Kind,v.bL,v.bf,v.bn,v.ad,v.Rest,[])=some (.inr (path,tw,v,tr,0,false,0,[],0,false,x,y,v.Kind,v.bL,v.bf,v.bn,v.ad,v.Rest,ks))/\
  ((∃p,ma f x y v path= .inr p/\n2 (path,0,tw,v,tr,0,false,0,[],0,false,x,y,v.Kind,v.bL,v.bf,v.bn,v.ad,v.Rest,ks,[])=some (.inl (hG (.inr p))))\/
  ∃us,ma f x y v path= .inl ⟨v.Kind,v.bL,v.bf,v.bn,v.ad,ks,us,v.Rest⟩/\n2 (path,0,tw,v,tr,0,false,0,[],0,false,x,y,v.Kind,v.bL,v.bf,v.bn,v.ad,v.Rest,ks,[])=some (.inr (0,false,0,[],0,false,v.Kind,v.bL,v.bf,v.bn,v.ad,v.Rest,ks,us))):=by
 have h0:=NK a e d v.aw.length 0 [] (by omega) (by simp);have b:n1 (path,0,tw,v,tr,0,false,0,[],0,false,x,y,v.Kind,v.bL,v.bf,v.bn,v.ad,v.Rest,[])=_:=h0;rw[b,fL];unfold ma;cases eZ f path x.Key y.Key 0 v.aw with
 |inr p=>exact .inl ⟨p,rfl,rfl⟩
 |inl ks=>
  have h1:=MA (tw:=tw) (tr:=tr) a af h (ks:=ks) v.ai.length 0 [] (by omega) (by simp);have c:n2 (path,0,tw,v,tr,0,false,0,[],0,false,x,y,v.Kind,v.bL,v.bf,v.bn,v.ad,v.Rest,ks,[])=_:=h1;refine .inr ⟨ks,by simp[A6],?_⟩;rw[c,fL];cases eZ f path x.aG y.aG 0 v.ai with
  |inr p=>exact .inl ⟨p,rfl,rfl⟩
  |inl us=>exact .inr ⟨us,rfl,by simp[A5]⟩
def uQ(tw:List ah)(path:aq)(x y:ah)(v:I)(acc:List I):List I ⊕ aq->dJ ⊕ (aq×List ah×ah×I×ah×Int×Bool×Int×aj×Int×Bool×Int×Bool×Int×aj×Int×List I)
 |.inl us=>.inr (path,tw,x,v,y,0,false,0,[],0,false,v.Kind,false,0,[],0,acc++us)
 |.inr p=>.inl (hG (.inr p))
theorem NL{f:fP}{path:aq}(t:path.length<=80000)(m:x.ag.length<=1000)(z:y.ag.length<=1000)(af:v.ai.length=x.ag.length)
 (d:∀n,n∈x.ag->bK n.bu)(e:∀n,n∈y.ag->bK n.bu)
 (h:∀i,i<x.ag.length->∀n,n∈y.ag->oM tw tr f path (x.ag.getD i ay).av n.av (v.ai.getD i au)):∀(k j:Nat) (acc:List I),j+k=y.ag.length->acc.length<=j->
 o' (path,(j:Int),tw,x,v,tr,y,0,false,0,[],0,false,v.Kind,false,0,[],0,acc)=some (uQ tw path x y v acc (jl f x v path (y.ag.drop j)))
 |0,j,acc,s,q=>by
  rw[o',cp,en (by omega:y.ag.length<=j)];simp[jl,uQ,I.aU]
 |k+1,j,acc,s,q=>by
  have aC:j<y.ag.length:=by omega
  have g:=bg aC ay;have o:=λacc=>NL t m z af d e h k (j+1) acc (by omega);rw[o',bz,ae (aQ aC),bc];simp only[aT,ao,I.aU,jz];rw[Am (by omega),Ek m,eB aC ay,jl];unfold wT lW;have r:=e _ g;generalize aE:y.ag.getD j ay=n at*;have M:=Cq (path:=path++[n.ad]) (by simp;omega);cases bw:fi x.ag n.ad with
  |none=>
   simp only[ao,eN,ev];cases D:n.bZ with
   |false=>
    rw[ae (show(!false)=true from rfl),M,ak (show ¬false=true by simp)];rfl
   |true=>
    rw[ak (show ¬(!true)=true by simp),ae trivial,ae (cS),bH,o _ (by simp;omega),ae (show true=true from rfl)];cases jl f x v path (y.ag.drop (j+1))with
    |inr p=>rfl
    |inl us=>simp[uQ,ja]
  |some i=>
   obtain⟨a,_,_⟩:=iO bw;have c:i<v.ai.length:=(by omega);have A:=h i a n g;simp only[ao,dn,dW];rw[bx,bx,ae (aQ a),ae (aQ c),bc,A n.ad];have l:=FU (d _ (bg a ay)) (v.ai.getD i au);cases C:f (x.ag.getD i ay).av (v.ai.getD i au) n.av (path++[n.ad])with
   |inr p=>
    simp only[ao,hG,I.aU,eN,dn,Bool.and_false];rw[ae (aQ a),ae (aQ c),l];simp only[ao,bV,b7];rw[Nz];generalize c7 (x.ag.getD i ay) (v.ai.getD i au)=b at*;cases b with
    |false=>rfl
    |true=>
     simp only[ev];rw[ae trivial,M];rfl
   |inl u=>
    have w:=FU r u;simp only[ao,hG,I.aU,eN,dn,yy];rw[ae (aQ a),ae (aQ c),l];simp only[ao,bV,b7];rw[NA];generalize c7 (x.ag.getD i ay) (v.ai.getD i au)=b at*;have tail:(some [u]>>=λt110=>if room 120 (acc++t110).length then o' (path,aM .i64 (j:Int) 1,tw,x,v,tr,y,0,false,0,[],0,false,v.Kind,false,0,[],0,acc++t110)else none)=some (uQ tw path x y v acc (ja (.inl u) (jl f x v path (y.ag.drop (j+1))))):=by
     simp only[aT,ao];rw[ae (cS),bH,o _ (by simp;omega)];cases jl f x v path (y.ag.drop (j+1))with
     |inr p=>rfl
     |inl us=>simp[uQ,ja]
    cases b with
    |false=>
     simp only[bV,b7,ao,dW,false_and];exact tail
    |true=>
     rw[ae rfl,w];cases B:c7 n u with
     |true=>
      simp only[bV,b7,ao,dW,ev,dn,kn,Bool.true_eq_false];exact tail
     |false=>
      simp only[ao,ev,dW,eN,and_self,bS];rw[M];rfl
def A8(v:I)(its:List I)(acc:List bX):List bX ⊕ aq->dJ ⊕ (Int×Bool×Int×aj×Int×Bool×Int×Bool×Int×aj×Int×List I×List bX)
 |.inl a=>.inr (0,false,0,[],0,false,v.Kind,false,0,[],0,its,acc++a)
 |.inr p=>.inl (hG (.inr p))
theorem NM(o:path.length<=80000)(q:x.ag.length<=1000)(g:y.ag.length<=1000)(af:v.ai.length=x.ag.length)(e:∀n,n∈x.ag->bK n.bu)
 (h:∀i,i<x.ag.length->iU tw (v.ai.getD i au) (x.ag.getD i ay).av){its:List I}:∀(k i:Nat) (acc:List bX),i+k=x.ag.length->acc.length<=i->
 nX (path,(i:Int),tw,x,v,y,0,false,0,[],0,false,v.Kind,false,0,[],0,its,acc)=some (A8 v its acc (ha tw y path (x.ag.drop i) (v.ai.drop i)))
 |0,i,acc,l,j=>by
  rw[nX,cp,en (by omega:x.ag.length<=i),ha]
  . simp[A8]
  . intros;simp_all
 |k+1,i,acc,l,j=>by
  have aC:i<x.ag.length:=by omega
  have c:i<v.ai.length:=by omega
  have d:=λacc=>NM o q g af e h (its:=its) k (i+1) acc (by omega);rw[nX,bz,ae (aQ aC),bc];simp only[aT,ao,I.aU,jz];rw[Ek g,eB aC ay,eB c au,ha];have hs:=rA y.ag (x.ag.getD i ay).ad;have m:(lW y.ag (x.ag.getD i ay).ad).2=(cz y.ag (x.ag.getD i ay).ad).isSome:=by
   rw[<-hs];unfold lW;cases fi y.ag (x.ag.getD i ay).ad<;>rfl
  simp only[ao];rw[m];by_cases a:(cz y.ag (x.ag.getD i ay).ad).isSome=true
  . rw[ae a,ae a,bH,d _ (by omega)]
  rw[ak a,ak a];by_cases b:(x.ag.getD i ay).cf=true
  . rw[ae b,ae b,Am (by omega)];simp only[ao];rw[Cq (by simp;omega)];rfl
  rw[ak b,ak b,ae (aQ c),FU (e _ (bg aC ay))];simp only[ao];cases c7 (x.ag.getD i ay) (v.ai.getD i au)with
  |true=>
   rw[bx,ae rfl,bH,d _ (by omega)]
  |false=>
   have f:=h i aC;unfold iU at f;rw[ae (show(!false)=true from rfl),ak (show ¬false=true by simp),ae (aQ c),f];simp only[ao];rw[ae (cS),bH,d _ (by simp;omega)];cases ha tw y path (x.ag.drop (i+1)) (v.ai.drop (i+1))with
   |inr p=>rfl
   |inl us=>simp[A8,ja]
theorem ZC{f:fP}(b:path.length<=80000)(l:v.Kind=5)(c:x.ag.length<=1000)(d:y.ag.length<=1000)(af:v.ai.length=x.ag.length)
 (a:∀n,n∈x.ag->bK n.bu)(e:∀n,n∈y.ag->bK n.bu)
 (h:∀i,i<x.ag.length->∀n,n∈y.ag->oM tw tr f path (x.ag.getD i ay).av n.av (v.ai.getD i au))
 (k:∀i,i<x.ag.length->iU tw (v.ai.getD i au) (x.ag.getD i ay).av):
 yf ((⟨tw⟩:aS),x,v,(⟨tr⟩:aS),y,path)=some (hG (wQ tw f x y v path)):=by
 have h0:=NL b c d af a e h y.ag.length 0 [] (by omega) (by simp);have g:o' (path,0,tw,x,v,tr,y,0,false,0,[],0,false,v.Kind,false,0,[],0,[])=_:=h0;rw[yf];simp only[I.aU];rw[g,fL];unfold wQ;cases jl f x v path y.ag with
 |inr p=>rfl
 |inl its=>
  have h1:=NM (tw:=tw) b c d af a k (its:=its) x.ag.length 0 [] (by omega) (by simp);have j:nX (path,0,tw,x,v,y,0,false,0,[],0,false,v.Kind,false,0,[],0,its,[])=_:=h1;simp only[aT,ao,uQ,fZ,I.aU];rw[j,fL,fL];cases ha tw y path x.ag v.ai with
  |inr p=>rfl
  |inl r=>simp only[ao,A8,fZ,l,mn,ig,hG,nB,I.aU]
theorem abB{f:fP}(m:path.length<=80000)(g:v.Kind=6)(j:x.ag.length<=1000)(l:y.ag.length<=1000)(h1:v.ai.length=1){i:Nat}(a:fi x.ag v.ad=some i)
 (h:∀n,n∈y.ag->oM tw tr f path (x.ag.getD i ay).av n.av (v.ai.getD 0 au))
 (c:iU tw (v.ai.getD 0 au) (x.ag.getD i ay).av):
 xW ((⟨tw⟩:aS),x,v,(⟨tr⟩:aS),y,path)=some (hG (rR tw f x y v path)):=by
 obtain⟨d,_,_⟩:=iO a;have b:aH 0 v.ai.length=true:=by rw[h1];rfl
 rw[xW,Ek j,Ek l];unfold rR lW;simp only[aT,ao,I.aU,a];cases bw:fi y.ag v.ad with
 |some k=>
  obtain⟨e,_,_⟩:=iO bw;simp only[dn,dW];rw[bx,bx,ae (aQ d),ae b,ae (aQ e),bc,bc,show(0:Int).toNat=0 from rfl,Am (by omega)];simp only[ao];rw[h _ (bg e ay)];cases f (x.ag.getD i ay).av (v.ai.getD 0 au) (y.ag.getD k ay).av (path++[v.ad])with
  |inr p=>
   simp only[ao,hG,eN,ig,I.aU];rw[ae trivial]
  |inl u=>
   simp only[ao,hG,dn,ig,I.aU,g,nB];rw[bx]
 |none=>
  simp only[eN,ev];cases y.Open with
  |false=>
   rw[ae (show(!false)=true from rfl),Cq (by omega)];simp only[ao,I.aU,bV,b7,hG]
  |true=>
   unfold iU at c;rw[ak (show ¬(!true)=true by simp),ae trivial,ae (aQ d),ae b,bc,show(0:Int).toNat=0 from rfl,c];simp only[ao,bS,hG,g,nB,I.aU]
def xi(tw tr:List ah)(n:Nat):Prop:=∀{v:I},bK v->wt v<=3000->wt v<=n->∀{t rt:Int} {path:aq},b6 tw true t v->0<=rt->rt<tr.length->path.length+n<=50000->
 mE ((⟨tw⟩:aS),t,v,(⟨tr⟩:aS),rt,path)=some (hG (ec tw tr n t v rt path))
theorem ZD(P:da tw)(o:da tr){n:Nat}(ih:xi tw tr n):xi tw tr (n+1):=by
 intro v aC aY aE t rt path K bd Y aW;have SW:=P.V.hB P.T;have cv:=o.V.hB o.T;have aZ:=fw v;obtain⟨⟨aP,aR,av,ax⟩,Z⟩:=(eL _ _ _).1 K;obtain⟨j,rfl⟩:∃j:Nat,t=(j:Int):=⟨t.toNat,by omega⟩
 obtain⟨k,rfl⟩:∃k:Nat,rt=(k:Int):=⟨rt.toNat,by omega⟩
 have ab:j<tw.length:=by omega
 have ah:k<tr.length:=by omega
 have S:=bg ab aN;have u:=bg ah aN;have aV:=ax rfl;cases aC with
 |mk _ hs h1 aS aU az G aX c9 a7 a8 a'=>
 rw[mE,ae (aQ ab),zc];simp only[aT,ao,bc,I.aU];rw[bc]at av Z;rw[ae (aQ ah)];have aq:=(P.T _ S).jf;have ar:=(o.T _ u).jf;generalize a6:tw.getD j aN=x at*;generalize M:tr.getD k aN=y at*;have O:∀y,y∈v.ai->wt y<=3000/\wt y<=n:=λy M=>by have:=e' M;omega
 have al:∀y,y∈v.aw->wt y<=3000/\wt y<=n:=λy M=>by have:=e' M;omega
 have L:∀{t rt:Int} {q:I},q∈v.ai->b6 tw true t q->0<=rt->rt<tr.length->oM tw tr (ec tw tr n) path t rt q:=λ{t rt q} a K a0 a1 step=>ih (G q a) (O q a).1 (O q a).2 K a0 a1 (by simp;omega);have aJ:∀{t rt:Int} {q:I},q∈v.aw->b6 tw true t q->0<=rt->rt<tr.length->oM tw tr (ec tw tr n) path t rt q:=λ{t rt q} a K a0 a1 step=>ih (az q a) (al q a).1 (al q a).2 K a0 a1 (by simp;omega);have bb:=na v.aw;have ba:=na v.ai;have F:=Cq (path:=path) (by omega);have E:(kI path).bind (λr=>some (⟨r.Value,r.Path,r.cn⟩:dJ))=some (hG (.inr path)):=by rw[F];rfl
 by_cases bD:x.Kind=y.Kind
 . rw[ak (show ¬(!(decide (x.Kind=y.Kind)))=true by simp[bD])];have N:v.aw=[]->v.ai=[]->ma (ec tw tr n) x y v path= .inl v:=λaI J=>by
    unfold ma;cases v;simp_all [eZ,mn,ig]
   rcases Z with h|h|h|h|h|h|h|h|h
   case' inl=>
    obtain⟨a1,a2,a3,a4,a5,d,w⟩:=h;have b:x.Kind=1:=(by omega);have af:iR x y v:=⟨λh=>by omega,λh=>by omega,λh=>by omega⟩
    have D:=t' (tw:=tw) (tr:=tr) (f:=ec tw tr n) (path:=path) (by omega) (x:=x) (y:=y) (v:=v) (by omega) (by omega) (λq a=>by rw[a5]at a;cases a) (λq a=>by rw[d]at a;cases a);rw[pN bD (by omega) af,<-N a5 d];simp only[b,Int.reduceEq,di,dp,dW,ev,bV,b7,bS]
   case' inr.inl=>
    obtain⟨a1,a2,a3,a4,a5,d,w,C,a9⟩:=h;have b:x.Kind=2:=(by omega);by_cases af:y.bC<=v.bf/\v.bf<=y.bG
    case' neg=>
     have g:(bif decide (v.bf<y.bC)then true else decide (y.bG<v.bf))=true:=by
      by_cases c:v.bf<y.bC<;>simp[c];omega
     rw[tZ bD (by omega) (show ¬iR x y v fromλh=>af (h.1 b))];simp only[b,g,Int.reduceEq,di,dp,dW,ev,bV,b7,bS];exact E
    case' pos=>
     have g:(bif decide (v.bf<y.bC)then true else decide (y.bG<v.bf))=false:=by
      have an:¬v.bf<y.bC:=(by omega);have ap:¬y.bG<v.bf:=(by omega);simp[an,ap]
     have D:=t' (tw:=tw) (tr:=tr) (f:=ec tw tr n) (path:=path) (by omega) (x:=x) (y:=y) (v:=v) (by omega) (by omega) (λq a=>by rw[a5]at a;cases a) (λq a=>by rw[d]at a;cases a);rw[pN bD (by omega) (show iR x y v from⟨λ_=>af,λh=>by omega,λh=>by omega⟩),<-N a5 d];simp only[b,g,Int.reduceEq,di,dp,dW,ev,bV,b7,bS]
   case' inr.inr.inl=>
    obtain⟨a1,a2,a3,a4,a5,d,w,C⟩:=h;have b:x.Kind=3:=(by omega);by_cases af:(v.bn.length:Int)<=y.Max
    case' neg=>
     have g:decide (y.Max<(v.bn.length:Int))=true:=jF (by omega);rw[tZ bD (by omega) (show ¬iR x y v fromλh=>af (h.2.1 b))];simp only[b,g,Int.reduceEq,di,dp,dW,ev,bV,b7,bS];exact E
    case' pos=>
     have g:decide (y.Max<(v.bn.length:Int))=false:=rO (by omega);have D:=t' (tw:=tw) (tr:=tr) (f:=ec tw tr n) (path:=path) (by omega) (x:=x) (y:=y) (v:=v) (by omega) (by omega) (λq a=>by rw[a5]at a;cases a) (λq a=>by rw[d]at a;cases a);rw[pN bD (by omega) (show iR x y v from⟨λh=>by omega,λ_=>af,λh=>by omega⟩),<-N a5 d];simp only[b,g,Int.reduceEq,di,dp,dW,ev,bV,b7,bS]
   case' inr.inr.inr.inl=>
    obtain⟨a1,a2,a3,a4,a5,d,w,C⟩:=h;have b:x.Kind=4:=(by omega);obtain⟨r,_,Y,aL⟩:=qW (t:=y) v.ad (by have:=(o.T _ u).1;have:=dB (dU reachBytes);omega);have H:r.2=true↔∃s,s∈y.bj/\s.ad=v.ad:=by
     rcases aL with⟨q,l,X,_,rfl⟩|⟨q,rfl⟩
     . exact⟨λ_=>⟨_,bg l dN,X⟩,λ_=>rfl⟩
     . constructor
       . intro h;simp at h
       intro a;obtain⟨s,s1,aM⟩:=a;obtain⟨i,G,rfl⟩:=e5 s1;exact absurd aM (by have:=q i G;rwa [du G]at this)
    by_cases af:(∃s,s∈y.bj/\s.ad=v.ad)\/y.Open=true
    case' neg=>
     have g:(bif (!r.2)then(!y.Open)else false)=true:=by
      cases aB:r.2 with
      |true=>exact absurd (.inl (H.1 aB)) af
      |false=>
       cases aA:y.Open with
       |true=>exact absurd (.inr aA) af
       |false=>rfl
     rw[tZ bD (by omega) (show ¬iR x y v fromλh=>af (h.2.2 b))];simp only[b,Y,g,ao,Int.reduceEq,di,dp,dW,ev,bV,b7,bS];exact E
    case' pos=>
     have g:(bif (!r.2)then(!y.Open)else false)=false:=by
      rcases af with af|af
      . rw[H.2 af];rfl
      . rw[af];cases r.2<;>rfl
     have D:=t' (tw:=tw) (tr:=tr) (f:=ec tw tr n) (path:=path) (by omega) (x:=x) (y:=y) (v:=v) (by omega) (by omega) (λq a=>by rw[a5]at a;cases a) (λq a=>by rw[d]at a;cases a);rw[pN bD (by omega) (show iR x y v from⟨λh=>by omega,λh=>by omega,λ_=>af⟩),<-N a5 d];simp only[b,Y,g,ao,Int.reduceEq,di,dp,dW,ev,bV,b7,bS]
   case' inr.inr.inr.inr.inl=>
    obtain⟨a1,a2,a3,a4,a5,d,w,C⟩:=h;have b:x.Kind=5:=(by omega);obtain⟨aj,aD⟩:=SW.A _ S (.inl (by omega));obtain⟨aF,aH⟩:=cv.A _ u (.inl (by omega));obtain⟨f1,f2⟩:=h9.1 C
    have H:=ZC (tw:=tw) (tr:=tr) (f:=ec tw tr n) (path:=path) (by omega) (x:=x) (y:=y) a1 (by omega) (by omega) f1 aq ar (λi R q a=>by
     have z:=bg (by omega:i<v.ai.length) au;obtain⟨B,l⟩:=o.fA.mem u a;exact L z (f2 i R) B l) (λi R=>by
     have z:=bg (by omega:i<v.ai.length) au
     exact Ed SW (G _ z) (by have:=(O _ z).1;omega) _ (mY _ _ (f2 i R)))
    rw[FW bD b];simp only[b,H,ao,Int.reduceEq,di,dp,dW,ev,bV,b7,bS]
    done
   case' inr.inr.inr.inr.inr.inl=>
    obtain⟨a1,a2,a3,a4,a5,d⟩:=h;have b:x.Kind=6:=(by omega);obtain⟨aj,aD⟩:=SW.A _ S (.inr (by omega));obtain⟨aF,aH⟩:=cv.A _ u (.inr (by omega));cases bw:cz x.ag v.ad with
    |none=>rw[bw]at d;cases d.2.1
    |some m=>
     rw[bw]at d;obtain⟨b1,b2,b3⟩:=d;have U:=rA x.ag v.ad;rw[bw]at U;cases Q:fi x.ag v.ad with
     |none=>rw[Q]at U;cases U
     |some i=>
     obtain⟨d1,d2,_⟩:=iO Q;obtain⟨d3,d4⟩:=jP bw;have em:x.ag.getD i ay=m:=pJ aj (bg d1 ay) d3 (by rw[d2,d4]);have z:=bg (by omega:0<v.ai.length) au;have aa:=cN.1 b3 _ z
     have H:=abB (tw:=tw) (tr:=tr) (f:=ec tw tr n) (path:=path) (by omega) (x:=x) (y:=y) a1 (by omega) (by omega) b2 Q (λq a=>by
      obtain⟨B,l⟩:=o.fA.mem u a;rw[em]
      exact L z aa B l) (by rw[em];exact Ed SW (G _ z) (by have:=(O _ z).1;omega) _ (mY _ _ aa))
     rw[FX bD b];simp only[b,H,ao,Int.reduceEq,di,dp,dW,ev,bV,b7,bS]
    done
   case' inr.inr.inr.inr.inr.inr.inl=>
    obtain⟨a1,a2,a3,a4,a5,d,w,C,a9⟩:=h;have b:x.Kind=7:=(by omega);obtain⟨B,l⟩:=o.fA.elem u (by omega);rw[FY bD b];unfold wR;by_cases af:(v.ai.length:Int)<=y.Max
    case' neg=>
     have g:decide (y.Max<(v.ai.length:Int))=true:=jF (by omega);rw[ak af];simp only[b,g,Int.reduceEq,di,dp,dW,ev,bV,b7,bS];exact E
    case' pos=>
     have g:decide (y.Max<(v.ai.length:Int))=false:=rO (by omega);have D:=t' (tw:=tw) (tr:=tr) (f:=ec tw tr n) (path:=path) (by omega) (x:=x) (y:=y) (v:=v) (by omega) (by omega) (λq a=>by rw[d]at a;cases a) (λq a=>L a (cN.1 a9 q a) B l);have e:(if(v.ai.length:Int)<=y.Max then ig (λW=>(⟨7,false,0,[],0,[],W,[]⟩:I)) (eZ (ec tw tr n) path x.aG y.aG 0 v.ai)else .inr path)=ma (ec tw tr n) x y v path:=by
      unfold ma;rw[ae af,a1,a2,a3,a4,a5,d,w];rfl
     rw[e];simp only[b,g,Int.reduceEq,di,dp,dW,ev,bV,b7,bS]
   case' inr.inr.inr.inr.inr.inr.inr.inl=>
    obtain⟨a1,a2,a3,a4,a5,d,w,C,a9,am,aO⟩:=h;have b:x.Kind=8:=(by omega);obtain⟨B,l⟩:=o.fA.elem u (by omega);obtain⟨X,aK⟩:=o.fA.key u (by omega);rw[FZ bD b];unfold wS;by_cases af:(v.ai.length:Int)<=y.Max
    case' neg=>
     have g:decide (y.Max<(v.ai.length:Int))=true:=jF (by omega);rw[ak af];simp only[b,g,Int.reduceEq,di,dp,dW,ev,bV,b7,bS];exact E
    case' pos=>
     have g:decide (y.Max<(v.ai.length:Int))=false:=rO (by omega);have D:=t' (tw:=tw) (tr:=tr) (f:=ec tw tr n) (path:=path) (by omega) (x:=x) (y:=y) (v:=v) (by omega) (by omega) (λq a=>aJ a (cN.1 a9 q a) X aK) (λq a=>L a (cN.1 am q a) B l);have e:(if(v.ai.length:Int)<=y.Max then mn (λks=>ig (λW=>(⟨8,false,0,[],0,ks,W,[]⟩:I)) (eZ (ec tw tr n) path x.aG y.aG 0 v.ai)) (eZ (ec tw tr n) path x.Key y.Key 0 v.aw)else .inr path)=ma (ec tw tr n) x y v path:=by
      unfold ma;rw[ae af,a1,a2,a3,a4,a5,d]
     rw[e];simp only[b,g,Int.reduceEq,di,dp,dW,ev,bV,b7,bS]
   case' inr.inr.inr.inr.inr.inr.inr.inr=>
    obtain⟨a1,a2,a3,a4,a5,d,w,C,a9⟩:=h;have b:x.Kind=9:=(by omega);obtain⟨B,l⟩:=o.fA.elem u (by omega);have D:=t' (tw:=tw) (tr:=tr) (f:=ec tw tr n) (path:=path) (by omega) (x:=x) (y:=y) (v:=v) (by omega) (by omega) (λq a=>by rw[d]at a;cases a) (λq a=>L a (cN.1 a9 q a) B l);have e:Av (ec tw tr n) x y v path=ma (ec tw tr n) x y v path:=by
     unfold ma Av;rw[a1,a2,a3,a4,a5,d,w];rfl
    rw[F0 bD b,e];simp only[b,Int.reduceEq,di,dp,dW,ev,bV,b7,bS]
   all_goals
    rcases D with⟨p,aI,J⟩|⟨ks,J,⟨p,aI,dh⟩|⟨us,aI,dh⟩⟩
    . rw[aI,J];rfl
    . rw[aI,J];simp only[ao];rw[dh];rfl
    . rw[aI,J];simp only[ao];rw[dh];simp only[ao,hG,nB,I.aU]
 . rw[ae (show(!(decide (x.Kind=y.Kind)))=true by simp[bD]),Jd bD,E]
theorem ZE:xi tw tr 0:=by
 unfold xi;intro v _ _ aE;have:=ON v;omega
theorem NN(b:da tw)(a:da tr):∀n,xi tw tr n
 |0=>ZE
 |n+1=>ZD b a (NN b a n)
end
def xf(x:fG):Prop:=oK x/\x.c1.length*3<=reachBytes
def k5(aJ:List fG):Prop:=aJ.length*32<=reachBytes/\∀x,x∈aJ->xf x
def A2(c:kK):Prop:=c' c.Kind/\c' c.Node/\c' c.A/\c' c.B
theorem k5.set(h:k5 aJ)(j:Nat){x:fG}(c:xf x):k5 (aJ.set j x):=by
 refine⟨by rw[iA];exact h.1,λy a=>?_⟩;rcases ue a with a|rfl
 . exact h.2 y a
 . exact c
theorem mO(a:Int):c' (IntKind.wrap .u8 a):=by
 have:IntKind.wrap .u8 a=a%256:=by rfl
 unfold c';omega
theorem F2{n:Nat}(h:n*3<=reachBytes):room 3 n=true:=by
 unfold reachBytes at h;unfold room kf eH;simp only[cd,dw];omega
theorem agU{n:Nat}(h:n*32<=reachBytes):room 32 n=true:=by
 unfold reachBytes at h;unfold room kf eH;simp only[cd,dw];omega
theorem adD{L:List kK}(Y:L.length<=reachBytes)(N:∀c,c∈L->A2 c){i:Nat}(S:i<L.length)(h:k5 aJ)(aE:0<aJ.length):
 ∃Q,k5 Q/\Q.length=aJ.length/\hI (L,(i:Int),aJ)=hI (L,((i+1:Nat):Int),Q):=by
 obtain⟨V,R,n,G⟩:=N _ (bg S n3);have ak:=dB Y;unfold c' at V R n G;have ai:aJ.length<9223372036854775807:=by have:=h.1;unfold reachBytes at this;omega
 obtain⟨j,ab,o⟩:∃j:Nat,b' (bY .i64 (L.getD i n3).Node) (aJ.length:Int)=(j:Int)/\j<aJ.length:=by
  have e:b' (bY .i64 (L.getD i n3).Node) (aJ.length:Int)=(L.getD i n3).Node%(aJ.length:Int):=by
   rw[lo ⟨by omega,by omega⟩,ho R.1]
  have h0:=l6 (L.getD i n3).Node (by omega:(aJ.length:Int)≠0);have h1:=l1 (L.getD i n3).Node (by omega:(0:Int)<aJ.length);exact⟨((L.getD i n3).Node%(aJ.length:Int)).toNat,by rw[e];omega,by omega⟩
 obtain⟨⟨c9,E,k,m,ft,am⟩,T⟩:=h.2 _ (bg o eS);have H:∀z:Nat,z<(aJ.getD j eS).c1.length->c' ((aJ.getD j eS).c1.getD z je).ad/\c' ((aJ.getD j eS).c1.getD z je).av/\c' ((aJ.getD j eS).c1.getD z je).hd:=λz O=>ft _ (bg O _)
 rw[hI,ae (by
  have a:(i:Int)<(L.length:Int):=by omega
  simp[a,aE]),ae (aQ S),bc]
 simp only[aT,ao];rw[ae (show(!(decide ((aJ.length:Int)=0)))=true from by rw[qe];exact rO (by omega)),ab,ae (aQ o),bc,ae (jF o),fZ,ae (F2 T),ae (jF o)];simp only[dp,bS,o];have aI:aM .i64 (i:Int) 1=((i+1:Nat):Int):=bH;rw[aI];generalize aj:aJ.getD j eS=p at*;generalize ah:L.getD i n3=c at*;have g:∀{a b K:Int} {l:List lJ},c' a->c' b->c' K->(∀q,q∈l->c' q.ad/\c' q.av/\c' q.hd)->l.length<=p.c1.length+8/\(l.length<=p.c1.length\/l.length<=8)->xf ⟨p.Kind,a,b,K,l⟩:=λ{a b K l} Z aa N af aE=>⟨⟨c9,Z,aa,N,af,by show l.length<=_;unfold reachBytes at*;omega⟩,by show l.length*3<=_;unfold reachBytes at*;omega⟩
 have gs:∀q:fG,(aJ.set j q).getD j bt=q:=λq=>by rw[du (by rw[iA];exact o)];simp
 have F:∀{a:Int},0<=a/\a<=255->c' a:=λh=>h;have al:(p.c1.length:Int)<9223372036854775807:=by unfold reachBytes at T;omega
 have s:∀{l:List lJ},(∀q,q∈l->c' q.ad/\c' q.av/\c' q.hd)->l.length<=p.c1.length+8/\(l.length<=p.c1.length\/l.length<=8)->xf ⟨p.Kind,p.A,p.B,p.C,l⟩:=λ{l} h1 X=>g E k m h1 X;have self:p.c1.length<=p.c1.length+8/\(p.c1.length<=p.c1.length\/p.c1.length<=8):=by omega
 by_cases af:0<p.c1.length
 . have I:(0:Int)<(p.c1.length:Int):=(by omega);obtain⟨z,O,f⟩:∃z:Nat,b' (bY .i64 c.A) (p.c1.length:Int)=(z:Int)/\z<p.c1.length:=by
    have e:b' (bY .i64 c.A) (p.c1.length:Int)=c.A%(p.c1.length:Int):=by
     rw[lo ⟨by omega,by omega⟩,ho n.1]
    have h0:=l6 c.A (by omega:(p.c1.length:Int)≠0);have h1:=l1 c.A I;exact⟨(c.A%(p.c1.length:Int)).toNat,by rw[e];omega,by omega⟩
   simp only[I,O,dp,bS,gs,List.set_set];rw[ae (show(!(decide ((p.c1.length:Int)=0)))=true from by rw[qe];exact rO (by omega))];by_cases t:b' c.Kind 8=0
   . simp only[t,dp,bS];exact⟨_,h.set j (g (mO _) k m ft self),iA,rfl⟩
   by_cases u:b' c.Kind 8=1
   . simp only[u,dp,di,Int.reduceEq,bV,bS,b7];exact⟨_,h.set j (g E (mO _) m ft self),iA,rfl⟩
   by_cases v:b' c.Kind 8=2
   . have P:0<=b' c.A 6:=by rw[ho n.1];omega
     simp only[v,P,dp,di,Int.reduceEq,bV,bS,b7];exact⟨_,h.set j (g (mO _) k m ft self),iA,rfl⟩
   by_cases x:b' c.Kind 8=3
   . simp only[x,dp,di,Int.reduceEq,bV,bS,b7];exact⟨_,h.set j (g E k (mO _) ft self),iA,rfl⟩
   by_cases r:b' c.Kind 8=4
   . by_cases J:(p.c1.length:Int)<8
     . simp only[r,J,dp,di,Int.reduceEq,bV,bS,b7];rw[ae (F2 (by rw[cJ];unfold reachBytes;simp;omega))];refine⟨_,h.set j (s (λq d=>?_) (by rw[cJ];simp;omega)),iA,rfl⟩;rcases fY.1 d with d|d
       . exact ft q d
       . rw[wC.1 d];exact⟨F n,F G,mO _⟩
     . simp only[r,J,dp,di,Int.reduceEq,bV,bS,b7];exact⟨_,h.set j (s ft self),iA,rfl⟩
   by_cases y:b' c.Kind 8=5
   . simp only[y,dp,di,Int.reduceEq,bV,bS,b7];have W:aM .i64 (z:Int) 1=((z+1:Nat):Int):=bH;rw[W,ae (iN.2 (by omega)),ae (iN.2 (by omega)),bc,bc,bc,bz];refine⟨_,h.set j (s (λq d=>?_) (by rw[cJ,ox,ox,l3];omega)),iA,rfl⟩;rcases fY.1 d with d|d
     . exact ft q (qc d)
     . exact ft q (BR (qc d))
   have U:∀{w:lJ},c' w.ad/\c' w.av/\c' w.hd->xf ⟨p.Kind,p.A,p.B,p.C,p.c1.set z w⟩:=λ{w} ag=>s (λq d=>by
    rcases ue d with d|rfl
    . exact ft q d
    . exact ag) (by rw[iA];exact self)
   by_cases D:b' c.Kind 8=6
   . simp only[D,dp,di,Int.reduceEq,bV,bS,b7];rw[ae (aQ f),bc,ae (jF f)];exact⟨_,h.set j (U (w:=⟨(p.c1.getD z je).ad,(p.c1.getD z je).av,c.B⟩) ⟨(H z f).1,(H z f).2.1,F G⟩),iA,rfl⟩
   . simp only[t,u,v,x,r,y,D,di,bV,b7];rw[ae (aQ f),bc,ae (jF f),ae (aQ f),ae (jF f)];exact⟨_,h.set j (U (w:=⟨(p.c1.getD z je).ad,aM .u8 (p.c1.getD z je).av c.B,(p.c1.getD z je).hd⟩) ⟨(H z f).1,mO _,(H z f).2.2⟩),iA,rfl⟩
 . have I:¬(0:Int)<(p.c1.length:Int):=(by omega);simp only[I,di,bV,b7,gs,List.set_set];by_cases t:b' c.Kind 8=0
   . simp only[t,dp,bS];exact⟨_,h.set j (g (mO _) k m ft self),iA,rfl⟩
   by_cases u:b' c.Kind 8=1
   . simp only[u,dp,di,Int.reduceEq,bV,bS,b7];exact⟨_,h.set j (g E (mO _) m ft self),iA,rfl⟩
   by_cases v:b' c.Kind 8=2
   . have P:0<=b' c.A 6:=by rw[ho n.1];omega
     simp only[v,P,dp,di,Int.reduceEq,bV,bS,b7];exact⟨_,h.set j (g (mO _) k m ft self),iA,rfl⟩
   by_cases x:b' c.Kind 8=3
   . simp only[x,dp,di,Int.reduceEq,bV,bS,b7];exact⟨_,h.set j (g E k (mO _) ft self),iA,rfl⟩
   by_cases r:b' c.Kind 8=4
   . have J:(p.c1.length:Int)<8:=(by omega);simp only[r,J,dp,di,Int.reduceEq,bV,bS,b7];rw[ae (F2 (by rw[cJ];unfold reachBytes;simp;omega))];refine⟨_,h.set j (s (λq d=>?_) (by rw[cJ];simp;omega)),iA,rfl⟩;rcases fY.1 d with d|d
     . exact ft q d
     . rw[wC.1 d];exact⟨F n,F G,mO _⟩
   have M:=h.set j (s ft self);by_cases y:b' c.Kind 8=5
   . simp only[y,dp,di,Int.reduceEq,bV,bS,b7];exact⟨_,M,iA,rfl⟩
   by_cases D:b' c.Kind 8=6
   . simp only[D,dp,di,Int.reduceEq,bV,bS,b7];exact⟨_,M,iA,rfl⟩
   . simp only[t,u,v,x,r,y,D,di,bV,b7];exact⟨_,M,iA,rfl⟩
theorem PT{L:List kK}(e:L.length<=reachBytes)(f:∀c,c∈L->A2 c):∀(k i:Nat) {aJ:List fG},i+k=L.length->k5 aJ->∃d,k5 d/\d.length=aJ.length/\hI (L,(i:Int),aJ)=some d
 |0,i,aJ,l,h=>⟨aJ,h,rfl,by
  have a:¬(i:Int)<(L.length:Int):=by omega
  rw[hI,ak (by simp[a])]⟩
 |k+1,i,aJ,l,h=>by
  by_cases aE:0<aJ.length
  . obtain⟨d,h1,j,g⟩:=adD e f (by omega:i<L.length) h aE;rw[g,<-j];exact PT e f k (i+1) (by omega) h1
  . refine⟨aJ,h,rfl,?_⟩;have b:decide ((0:Int)<(aJ.length:Int))=false:=rO (by omega);rw[hI,b,ak];cases decide ((i:Int)<(L.length:Int))<;>simp
theorem k5.ER{d:et}(h:k5 d.ej):uJ d:=⟨by have:=h.1;unfold reachBytes at*;omega,λx a=>(h.2 x a).1⟩
theorem ZF{d:et}(h:k5 d.ej){L:List kK}(i:L.length<=reachBytes)(j:∀c,c∈L->A2 c):∃a,k5 a.ej/\a.ej.length=d.ej.length/\Ck (d,L)=some a:=by
 obtain⟨b,h1,g,e⟩:=PT i j L.length 0 (by omega) h;have f:hI (L,0,d.ej)=some b:=e;refine⟨⟨b⟩,h1,g,?_⟩;rw[Ck,fZ,ae (agU h.1),f];rfl
theorem adE(h:WF cY ⟨.slice (.nm ve),aJ⟩):k5 aJ:=by
 obtain⟨a,b,c⟩:=vO (t:= .nm ve) h;have D:=OD (d:=⟨aJ⟩) h;refine⟨b,λx e=>⟨D.2 x e,?_⟩⟩;exact(vO (t:= .nm B3) (c x e ⟨.slice (.nm B3),x.c1⟩ (.tail _ (.tail _ (.tail _ (.tail _ (.head _))))))).2.1
theorem ahl{n:Int}(h:WF cY ⟨.int .u8,n⟩):c' n:=by
 cases h with
 |int k n h=>
  simp[Lit.wf,IntKind.min,IntKind.max,IntKind.bits,IntKind.signed]at h;unfold c';omega
theorem acR{d:k9}(f:uJ d.S)(h:qO d=some (⟨ts⟩,t,v,w,true)):ts.length=d.S.ej.length:=by
 rw[qO]at h;rcases of_eq f with e|⟨l,e,_,_,c,_⟩
 . rw[e]at h;simp at h
 . rw[e]at h;simp only[aT,ao,dn,bV,b7]at h;split at h
   . cases a:xY ((⟨l⟩:aS),b' (bY .i64 d.T) (l.length:Int),d.C)with
     |none=>rw[a]at h;cases h
     |some x=>
      rw[a]at h;simp only[ao]at h;cases b:x4 ((⟨l⟩:aS),b' (bY .i64 d.T) (l.length:Int),d.C)with
      |none=>rw[b]at h;cases h
      |some y=>
       rw[b]at h;simp only[ao,bI,bE,aS.mk.injEq]at h;rw[<-h.1,c]
   . cases h
structure A1 (c:kO):Prop where
 d:EA c.D
 n:k5 c.D.S.ej
 l:c.L.length<=reachBytes
 c:∀x,x∈c.L->A2 x
structure Lz (tw tr:List ah)(t:Int)(v:I):Prop where
 W:da tw
 R:da tr
 t0:0<=t
 t1:t<tw.length
 t2:t<tr.length
 f:b6 tw true t v
 o:bK v
 w:wt v<=3000
theorem acx{c:kO}(h:A1 c):(∃w r t v,tN c=some (w,r,t,v,false))\/∃tw tr t v,(tN c=some (⟨tw⟩,⟨tr⟩,t,v,true)/\Lz tw tr t v)/\∃w,qO c.D=some (⟨tw⟩,t,v,w,true)/\b6 tw false t w/\bK w:=by
 obtain⟨o,d1,d3,d2⟩:=ZF h.n h.l h.c;rw[tN];rcases agD h.d with⟨s,t,v,w,e⟩|⟨ts,t,v,w,e,H,ht,⟨v1,g,v3⟩,k,m,_⟩
 . rw[e];simp only[aT,ao];rw[d2];simp only[ao];rcases FM d1.ER with a|⟨l,a,_⟩<;>rw[a]<;>exact .inl ⟨_,_,_,_,rfl⟩
 . have af:=acR h.d.s e;rw[e];simp only[aT,ao];rw[d2];simp only[ao];rcases of_eq d1.ER with a|⟨l,a,_,_,l2,_⟩
   . rw[a];exact .inl ⟨_,_,_,_,rfl⟩
   . rcases FM d1.ER with f|⟨j,f,i⟩
     . rw[a]at f;cases f
     . rw[a]at f;have:l=j:=by injection f with q;injection q with q _;injection q
       subst this;rw[a];simp only[ao,dn,dW];cases p:decide (4<(c.L.length:Int))with
       |true=>exact .inl ⟨_,_,_,_,rfl⟩
       |false=>
        obtain⟨b,b1,b2⟩:=Ze g;simp only[eN,bS,dW,I.aU];rw[b1];cases b with
        |false=>exact .inl ⟨_,_,_,_,rfl⟩
        |true=>exact .inr ⟨ts,l,t,v,⟨rfl,H,i,ht.1,ht.2,by omega,v1,g,b2 rfl⟩,w,rfl,k,m⟩
theorem acS{c:kO}(h:A1 c):(∃w r t v,tN c=some (w,r,t,v,false))\/∃tw tr t v,tN c=some (⟨tw⟩,⟨tr⟩,t,v,true)/\Lz tw tr t v:=
 (acx h).imp id λ⟨tw,tr,t,v,h,_⟩=>⟨tw,tr,t,v,h⟩
section
variable {tw tr:List ah}{t rt:Int}{v:I}
theorem abC(c:da tw)(f:da tr)(m:bK v)(e:b6 tw true t v)(p:0<=rt)(q:rt<tr.length):Cz ((⟨tw⟩:aS),t,v,(⟨tr⟩:aS),rt)=some 0:=by
 obtain⟨⟨j,k,_⟩,_⟩:=(eL _ _ _).1 e;have d:∀{ts:List ah} {t:Int},da ts->0<=t->t<ts.length->zr ((⟨ts⟩:aS),t)=some 0:=λ{ts t} H a b=>by
  rw[zr,(pG H.T H.V).1];simp only[aT,ao];have g:¬t<0:=by omega
  have i:¬(ts.length:Int)<=t:=by omega
  rw[bx,ak (by simp[g,i])]
 obtain⟨r,n,o⟩:=Mx (c.V.hB c.T) m t true;have l:=o.2 e;subst l;rw[Cz];simp only[I.aU];rw[d c j k];simp only[aT,ao];rw[bx,d f p q];simp only[ao];rw[bx,HR];simp only[I.aU];rw[n];rfl
theorem abD(c:da tw)(g:da tr)(o:bK v)(f:b6 tw true t v)(s:0<=rt)(u:rt<tr.length):B7 ((⟨tw⟩:aS),t,v,(⟨tr⟩:aS),rt)=some 0:=by
 obtain⟨⟨k,l,_⟩,_⟩:=(eL _ _ _).1 f;have e:∀{ts:List ah} {t:Int},da ts->0<=t->t<ts.length->kN ((⟨ts⟩:aS),t)=some 0:=λ{ts t} H a b=>by
  rw[kN,(pG H.T H.V).2];simp only[aT,ao];have i:¬t<0:=by omega
  have j:¬(ts.length:Int)<=t:=by omega
  rw[bx,ak (by simp[i,j])]
 have d:=c.V.hB c.T;obtain⟨q,p,r⟩:=Ag (by have:=d.n;omega) c.T d.K o t true;have m:=r.2 f;subst m;rw[B7];simp only[I.aU];rw[e c k l];simp only[aT,ao];rw[bx,e g s u];simp only[ao];rw[bx,vh];simp only[I.aU];rw[p];rfl
def kz:I ⊕ aq->I×Int
 |.inl u=>(u,0)
 |.inr _=>(⟨0,false,0,[],0,[],[],[]⟩,12)
noncomputable def rZ (tw tr:List ah)(t:Int)(v:I)(rt:Int):I ⊕ aq:=ec tw tr 3000 t v rt []
theorem Zk(b:da tw)(a:da tr)(d:bK v)(e:wt v<=3000)(c:b6 tw true t v)(f:0<=rt)(g:rt<tr.length):zj ((⟨tw⟩:aS),t,v,(⟨tr⟩:aS),rt)=some (kz (rZ tw tr t v rt)):=by
 have h:=NJ b a 3000 d e e [] c f g (path:=[]) (by simp);rw[zj];simp only[I.aU];rw[abC b a d c f g];simp only[aT,ao];rw[bx,h];unfold rZ;cases ec tw tr 3000 t v rt []<;>rfl
theorem JF(b:da tw)(a:da tr)(d:bK v)(e:wt v<=3000)(c:b6 tw true t v)(f:0<=rt)(g:rt<tr.length):sH ((⟨tw⟩:aS),t,v,(⟨tr⟩:aS),rt)=some (kz (rZ tw tr t v rt)):=by
 have h:=NN b a 3000 d e e c f g (path:=[]) (by simp);rw[sH];simp only[I.aU];rw[abD b a d c f g];simp only[aT,ao];rw[bx,h];unfold rZ;cases ec tw tr 3000 t v rt []<;>rfl
end
theorem ags{c:kO}(h:∀d,d∈cY.sw GS c->WF cY d):A1 c:=by
 have i:=h ⟨.slice (.nm ve),c.D.S.ej⟩ (.head _);have j:=h ⟨.slice (.nm SQ),c.L⟩ (.tail _ (.tail _ (.tail _ (.head _))));obtain⟨a,_,e⟩:=vO (t:= .nm SQ) j;have g:∀{n:Int},WF cY ⟨.int .u8,n⟩->c' n:=ahl;refine⟨abd λd b=>?_,adE i,a,λx k=>?_⟩
 . refine h d ?_;cases b with
   |head=>exact .head _
   |tail _ b=>cases b with
    |head=>exact .tail _ (.head _)
    |tail _ b=>cases b with
     |head=>exact .tail _ (.tail _ (.head _))
     |tail _ b=>cases b
 . have f:=e x k;exact⟨g (f ⟨.int .u8,x.Kind⟩ (.head _)),g (f ⟨.int .u8,x.Node⟩ (.tail _ (.head _))),g (f ⟨.int .u8,x.A⟩ (.tail _ (.tail _ (.head _)))),g (f ⟨.int .u8,x.B⟩ (.tail _ (.tail _ (.tail _ (.head _)))))⟩
theorem D4{f:α->Option c}(d:α)(e:c):∀{l:List α} {m:List c},m.length=l.length->(∀j,j<l.length->f (l.getD j d)=some (m.getD j e))->ch f l=some m
 |[],[],_,_=>rfl
 |[],b::m,h,_=>by simp at h
 |a::l,[],h,_=>by simp at h
 |a::l,b::m,h,g=>by
  have h0:f a=some b:=g 0 (by simp);rw[qB,h0,D4 d e (l:=l) (m:=m) (by simpa using h) λj i=>g (j+1) (by simpa using i)];rfl
theorem NO:∀{a b:List aj},a.length=b.length->e0 (j2 a b)=a/\e6 (j2 a b)=b
 |[],[],_=>⟨rfl,rfl⟩
 |[],_::_,h=>by simp at h
 |_::_,[],h=>by simp at h
 |x::a,y::b,h=>by
  obtain⟨h1,c⟩:=NO (a:=a) (b:=b) (by simpa using h);exact⟨by rw[j2,e0,h1],by rw[j2,e6,c]⟩
theorem agI{m:aR}:c7 m v=true↔m.bZ=true/\m.bu=v:=by unfold c7;simp
theorem NP:∀{F:List cO} {f:cO},F.Pairwise (λa b=>a.ad<b.ad)->f∈F->F.find? (λg=>decide (g.ad=f.ad))=some f
 |g::F,f,d,c=>by
  rw[hV]at d;rw[List.find?_cons];rcases eU.1 c with rfl|c
  . simp
  . have:=d.1 f c;have e:decide (g.ad=f.ad)=false:=rO (by omega);rw[e];exact NP d.2 c
section
variable {ts:List ah}
theorem abE{its:List I}{r:List bX}(c:gT x.ag)(d:jU x.ag r)(af:its.length=x.ag.length){f:qm}
 (D:∀j,j<x.ag.length->c7 (x.ag.getD j ay) (its.getD j au)=false->f (x.ag.getD j ay).av (br ts (x.ag.getD j ay).av (its.getD j au))=some (its.getD j au))
 (E:((gX fp (fk ts x.ag its r)).flatMap Fd.text).length<=90000):
 mb f x ((gX fp (fk ts x.ag its r)).flatMap Fd.text)=some ⟨5,false,0,[],0,[],its,r⟩:=by
 have w:=H7 (vt (ts:=ts) (l:=its) c d) (Iz c d);have p:∀g,g∈gX fp (fk ts x.ag its r)↔g∈fk ts x.ag its r:=λg=>(mK fp _).mem_iff;have H:∀g,g∈gX fp (fk ts x.ag its r)->1<=g.id/\g.id<=1000:=λg al=>GR c d ((p g).1 al);unfold mb;rw[L0 w H E];generalize gX fp (fk ts x.ag its r)=L at*;have bw:(L.map jD).Pairwise (λa b=>a.ad<b.ad):=ov.2 (w.imp λ{a b} h=>by show(a.id:Int)<(b.id:Int);omega);have t:∀g,g∈L.map jD->(∃j,j<x.ag.length/\c7 (x.ag.getD j ay) (its.getD j au)=false/\g=⟨(x.ag.getD j ay).ad,(x.ag.getD j ay).cf,br ts (x.ag.getD j ay).av (its.getD j au)⟩)\/∃a,a∈r/\g=⟨a.ad,false,a.Data⟩:=λg al=>by
  obtain⟨e,aI,rfl⟩:=eJ.1 al;have:=(p e).1 aI;unfold fk at this;rcases fY.1 this with h|h
  . obtain⟨j,o,y,K,rfl⟩:=DI h;have m:=c.2 _ (bg o ay);unfold cj at m;refine .inl ⟨j,o,K,?_⟩;show(⟨(((x.ag.getD j ay).ad.toNat:Nat):Int),_,_⟩:cO)=_;rw[yr (by omega)]
  . obtain⟨a,a1,rfl⟩:=eJ.1 h;have m:=(d.2 a a1).1;unfold cj at m;refine .inr ⟨a,a1,?_⟩;show(⟨((a.ad.toNat:Nat):Int),_,_⟩:cO)=_;rw[yr (by omega)];rfl
 have O:∀j,j<x.ag.length->c7 (x.ag.getD j ay) (its.getD j au)=false->(⟨(x.ag.getD j ay).ad,(x.ag.getD j ay).cf,br ts (x.ag.getD j ay).av (its.getD j au)⟩:cO)∈L.map jD:=λj o y=>by
  have m:=c.2 _ (bg o ay);unfold cj at m;refine eJ.2 ⟨_,(p _).2 (FA _ (Ic o (by omega) y)),?_⟩;show(⟨(((x.ag.getD j ay).ad.toNat:Nat):Int),_,_⟩:cO)=_;rw[yr (by omega)]
 have P:∀a,a∈r->(⟨a.ad,false,a.Data⟩:cO)∈L.map jD:=λa a1=>by
  have m:=(d.2 a a1).1;unfold cj at m;refine eJ.2 ⟨j0 a,(p _).2 (List.mem_append_right _ (eJ.2 ⟨a,a1,rfl⟩)),?_⟩;show(⟨((a.ad.toNat:Nat):Int),_,_⟩:cO)=_;rw[yr (by omega)];rfl
 generalize L.map jD=F at*;have u:∀j,j<x.ag.length->cz x.ag (x.ag.getD j ay).ad=some (x.ag.getD j ay):=λj o=>H9 c (bg o ay);have J:ch (d' f F) x.ag=some its:=D4 ay au af λj n=>by
  unfold d';cases q:c7 (x.ag.getD j ay) (its.getD j au)with
  |false=>
   have:=NP bw (O j n q);rw[this];exact D j n q
  |true=>
   have aE:F.find? (λg=>decide (g.ad=(x.ag.getD j ay).ad))=none:=by
    rw[yt];intro g al;simp only[dw];intro e;rcases t g al with⟨k,i,s,rfl⟩|⟨a,a1,rfl⟩
    . have em:=pJ c (bg i ay) (bg n ay) e;have z:k=j:=by
       rw[du i,du n]at em;rcases FE k j with h|h|h
       . have:=rJ.1 c.1 k j i n h;rw[em]at this;omega
       . exact h
       . have:=rJ.1 c.1 j k n i h;rw[em]at this;omega
      subst z;rw[q]at s;cases s
    . have:=(d.2 a a1).2;rw[show a.ad=(x.ag.getD j ay).ad from e,u j n]at this;cases this
   rw[aE];obtain⟨M,N⟩:=agI.1 q;simp only;rw[ae M,N]
 have C:F.all (fv x)=true:=by
  rw[c0];intro g al;unfold fv;rcases t g al with⟨k,i,s,rfl⟩|⟨a,a1,rfl⟩
  . rw[u k i];rfl
  . simp
 have G:eO x F=r:=by
  unfold eO;refine adv (ov.2 ((bw.filter _).imp λ{a b} h=>h)) d.1 λa=>?_;constructor
  . intro h;obtain⟨g,A,rfl⟩:=eJ.1 h;obtain⟨B,v⟩:=rN.1 A;rcases t g B with⟨k,i,s,rfl⟩|⟨a,a1,rfl⟩
    . rw[u k i]at v;simp at v
    . exact a1
  . intro h;refine eJ.2 ⟨⟨a.ad,false,a.Data⟩,rN.2 ⟨P a h,?_⟩,rfl⟩;rw[(d.2 a h).2];rfl
 simp only;rw[J];simp only;rw[ae C,G]
theorem NQ(H:iV ts)(aQ:bK v):∀{t:Int} {m:Nat},(br ts t v).length<=90000->b6 ts false t v->dL ts t v<=m->cP ts m t (br ts t v)=some v:=by
 induction aQ with
 |mk v hs h1 a7 a' M bd be c9 ab bk bl aS K=>
 intro t m C aI F;have aO:=qF (ts:=ts) t v;obtain⟨m,rfl⟩:∃k,m=k+1:=⟨m-1,by omega⟩
 have r:=tF (ts:=ts) t v;have N:∀q,q∈v.aw->(if v.aw=[]then 0 else 1)=1:=λq b=>ak λe=>by rw[e]at b;cases b
 generalize (if v.aw=[]then 0 else 1)=kk at r N;obtain⟨⟨aZ,a0,a6,_⟩,z⟩:=(eL _ _ _).1 aI;have p:t.toNat<ts.length:=by omega
 have G:=bg p aN;have aq:=λh=>uy (ts:=ts) (t:=t) (v:=v) h;have ar:=λh=>uz (ts:=ts) (t:=t) (v:=v) h;have ax:=λh=>uA (ts:=ts) (t:=t) (v:=v) h;have ay:=λh=>uB (ts:=ts) (t:=t) (v:=v) h;have az:=λh=>w3 (ts:=ts) (t:=t) (v:=v) h;have aA:=λh=>uC (ts:=ts) (t:=t) (v:=v) h;have aB:=λh=>uD (ts:=ts) (t:=t) (v:=v) h;have aC:=λh=>uE (ts:=ts) (t:=t) (v:=v) h;have aD:=λh=>uF (ts:=ts) (t:=t) (v:=v) h;rw[qC];generalize bh:ts.getD t.toNat aN=x at*;have an:x.Kind=5->∀c,c<=fD ts x.ag v.ai->c<=m:=λh c z=>by rw[ae h]at r;exact wO r F z
 have ao:x.Kind=6->∀s,cz x.ag v.ad=some s->∀c,c<=dR ts s.av v.ai->c<=m:=λh s bw c z=>by
  rw[ak (by rw[h];decide),ae h,bw]at r;exact wO r F z
 have L:7<=x.Kind->∀c,c<=dR ts x.aG v.ai->c<=m:=λh c z=>by
  rw[ak (λe=>by rw[e]at h;exact absurd h (by decide)),ak (λe=>by rw[e]at h;exact absurd h (by decide))]at r;exact wO r F z
 have ap:∀q,q∈v.aw->1<=m:=λq b=>by
  rw[N q b]at r;exact OF r F rfl
 clear r F aO N;have ah:∀{t:Int},(∀q,q∈v.ai->(br ts t q).length<=90000/\b6 ts false t q/\dL ts t q<=m)->ch (cP ts m t) (bF ts t v.ai)=some v.ai:=λ{t} af=>D4 [] au (by rw[jx]) λj p=>by
  rw[jx]at p;rw[Hx p];obtain⟨T,U,V⟩:=af _ (bg p au);exact K _ (bg p au) T U V
 have aW:∀{t:Int},(∀q,q∈v.aw->(br ts t q).length<=90000/\b6 ts false t q/\dL ts t q<=m)->ch (cP ts m t) (bF ts t v.aw)=some v.aw:=λ{t} af=>D4 [] au (by rw[jx]) λj p=>by
  rw[jx]at p;rw[Hx p];obtain⟨T,U,V⟩:=af _ (bg p au);exact aS _ (bg p au) T U V
 have P:∀{t:Int} {l:List I} {q:I},q∈l->br ts t q∈bF ts t l:=λ{t l q} b=>by rw[Dd];exact eJ.2 ⟨q,b,rfl⟩
 unfold oE;rcases z with f|f|f|f|f|f|f|f|f
 . rw[eT,aq (by omega)];obtain⟨a1,a2,a3,a4,a5,o,u⟩:=f;unfold uu;cases bb:v.bL with
   |true=>
    rw[ae (show true=true from rfl),ak (show ¬([1]:aj)=[] by simp),ae (show([1]:aj)=[1]from rfl)];cases v;simp_all
   |false=>
    rw[ak (show ¬false=true by simp),ae (show([]:aj)=[]from rfl)];cases v;simp_all
 . obtain⟨a1,a2,a3,a4,a5,o,u,i,a9⟩:=f;rw[a8,eT,ar (by omega)];have aR:=OE (n:=v.bf) ab;unfold uv;rw[Du (wN ab)];simp only;rw[aR,ae ⟨i,a9⟩];cases v;simp_all
 . obtain⟨a1,a2,a3,a4,a5,o,u,i⟩:=f;rw[a8,a8,eT,ax (by omega)];unfold uw;rw[ae i];cases v;simp_all
 . obtain⟨a1,a2,a3,a4,a5,o,u,i⟩:=f;have aH:cj v.ad:=by
    rcases i with⟨y,aX,aY⟩|⟨_,_,h⟩
    . rw[<-aY];exact H.S _ G (by omega) y aX
    . exact h
   unfold cj at aH;obtain⟨k,M⟩:∃k:Nat,v.ad=(k:Int):=⟨v.ad.toNat,by omega⟩
   rw[a8,a8,a8,eT,ay (by omega),M,bc];unfold ux;rw[Du (by omega)];simp only;have hs:((x.bj.any λy=>decide (y.ad=(k:Int)))||x.Open)=true:=by
    rcases i with q|⟨q,_⟩
    . rw[M]at q;rw[Eg.1 q];rfl
    . rw[q];simp
   rw[ae ⟨by omega,by omega,hs⟩];cases v;simp_all
 . obtain⟨a1,a2,a3,a4,a5,o,u,i⟩:=f;obtain⟨R,aV⟩:=H.A _ G (.inl (by omega));obtain⟨f1,f2⟩:=h9.1 i;have Y:=az (by omega);have E:((gX fp (fk ts x.ag v.ai v.Rest)).flatMap Fd.text).length<=90000:=by rw[<-Y];exact C
   rw[a8,a8,a8,a8,a8,a8,a8,a8,Y,abE R u f1 (λj Q Z=>?_) E]
   . cases v;simp_all
   . have aP:=bg (by omega:j<v.ai.length) au;have aK:=Ic (ts:=ts) Q (by omega:j<v.ai.length) Z;have:=Lp ((mK fp _).mem_iff.2 (show _∈fk ts x.ag v.ai v.Rest from FA _ aK));exact K _ aP (g' this E) (f2 j Q) (an (by omega) _ (IB Q (by omega) Z))
 . obtain⟨a1,a2,a3,a4,a5,o⟩:=f;obtain⟨R,aV⟩:=H.A _ G (.inr (by omega));rw[a8,a8,a8,a8,a8,eT];have J:=aA (by omega);unfold oC;cases bw:cz x.ag v.ad with
   |none=>
    rw[bw]at o J;obtain⟨b1,_,b2,b3,d,b4⟩:=o;unfold cj at b2;obtain⟨k,D⟩:∃k:Nat,v.ad=(k:Int):=⟨v.ad.toNat,by omega⟩
    have g:br ts t v=dM k++d:=by
     rw[J,b4,D,bc];rfl
    rw[g,Jb (by omega)];simp only;rw[<-D,bw];simp only;rw[ae b1];cases v;simp_all
   |some s=>
    rw[bw]at o J;obtain⟨b1,b2,b3⟩:=o;obtain⟨d3,d4⟩:=jP bw;have aJ:cj v.ad:=by rw[<-d4];exact R.2 s d3
    unfold cj at aJ;obtain⟨k,D⟩:∃k:Nat,v.ad=(k:Int):=⟨v.ad.toNat,by omega⟩
    match gy:v.ai,b2 with
    |[a],_=>
     have w:a∈v.ai:=by rw[gy];exact .head _
     have g:br ts t v=dM k++br ts s.av a:=by
      rw[J,D,bc];show dM k++(bF ts s.av v.ai).headD []=_;rw[gy,bF];rfl
     have O:(br ts s.av a).length<=90000:=by
      rw[g,cJ]at C;exact g' (Nat.le_add_left _ _) C
     rw[g,Jb (by omega)];simp only;rw[<-D,bw];simp only;rw[K a w O (cN.1 b3 a w) (ao (by omega) s bw _ (pC w))];cases v;simp_all
 . obtain⟨a1,a2,a3,a4,a5,o,u,i,a9⟩:=f;have g:=aB (by omega);have B:((bF ts x.aG v.ai).flatMap dg).length<=90000:=by rw[<-g];exact C
   rw[a8,a8,a8,a8,a8,a8,eT,g];unfold mc;rw[Ee B];simp only;rw[ae (by rw[jx];exact i),ah λq b=>⟨g' (CK (P b)) B,cN.1 a9 q b,L (by omega) _ (pC b)⟩];cases v;simp_all
 . obtain⟨a1,a2,a3,a4,a5,o,u,i,a9,aE,aF⟩:=f;have g:=aC (by omega);have ba:=H.qo _ G (by omega);have E:(bF ts x.Key v.aw).length=(bF ts x.aG v.ai).length:=by rw[jx,jx];omega
   obtain⟨al,am⟩:=NO E;have W:=IA _ _ E;rw[jx,jx]at W;have B:((j2 (bF ts x.Key v.aw) (bF ts x.aG v.ai)).flatMap dg).length<=90000:=by rw[<-zW,<-g];exact C
   have aT:∀{a:aj} {l:List aj},a∈e0 l->a∈l:=λh=>zX h;have aU:∀{l:List aj} {a:aj},a∈e6 l->a∈l:=by
    intro l;induction l using e6.induct with
    |case1 x y l ih=>
     intro a h;rw[e6]at h;rcases eU.1 h with rfl|h
     . exact .tail _ (.head _)
     . exact .tail _ (.tail _ (ih h))
    |case2 l af=>
     intro a h;rw[e6]at h
     . cases h
     . exact af
   have aL:∀q,q∈v.aw->dL ts x.Key q<=m:=λq b=>by
    have aM:=ap q b;have e:dL ts x.Key q=1:=by
     obtain⟨⟨_,_,bi,_⟩,aa⟩:=(eL _ _ _).1 (cN.1 a9 q b);refine zV ?_ ?_
     . rcases aa with k|k|k|k|k|k|k|k|k
       . exact k.2.2.2.2.1
       . exact k.2.2.2.2.1
       . exact k.2.2.2.2.1
       . exact k.2.2.2.2.1
       all_goals (exfalso;omega)
     . rcases aa with k|k|k|k|k|k|k|k|k
       . exact k.2.2.2.2.2.1
       . exact k.2.2.2.2.2.1
       . exact k.2.2.2.2.2.1
       . exact k.2.2.2.2.2.1
       all_goals (exfalso;omega)
    rw[e];exact aM
   rw[a8,a8,a8,a8,a8,a8,a8,eT,g,zW];unfold oD;rw[Ee B];simp only;rw[ae ⟨by rw[W];omega,by rw[W];omega⟩,al,am,aW λq b=>⟨g' (CK (aT (by rw[al];exact P b))) B,cN.1 a9 q b,aL q b⟩];simp only;rw[ae (tB.2 aF),ah λq b=>⟨g' (CK (aU (by rw[am];exact P b))) B,cN.1 aE q b,L (by omega) _ (pC b)⟩];cases v;simp_all
 . obtain⟨a1,a2,a3,a4,a5,o,u,i,a9⟩:=f;have g:=aD (by omega);rw[a8,a8,a8,a8,eT]
   match gy:v.ai,i with
   |[],_=>
    rw[gy,bF]at g;rw[g];cases v;simp_all [me]
   |[a],_=>
    have w:a∈v.ai:=by rw[gy];exact .head _
    rw[gy,bF]at g;have X:br ts t v=1::br ts x.aG a:=g;have O:(br ts x.aG a).length<=90000:=by
     rw[X,gQ]at C;omega
    rw[X];show((if(1:UInt8)=1 then(cP ts m x.aG (br ts x.aG a)).map _ else none):Option I)=_;rw[ae rfl,K a w O (cN.1 a9 a w) (L (by omega) _ (pC w))];cases v;simp_all
end
theorem z'{f g:α->Option c}:∀{l:List α} {m:List c},(∀a b,a∈l->f a=some b->g a=some b)->ch f l=some m->ch g l=some m
 |[],m,_,h=>h
 |a::l,m,al,h=>by
  simp only[ch]at h⊢;split at h
  . rename_i b j d e;rw[al a b (.head _) d,z' (λx y i=>al x y (.tail _ i)) e];exact h
  . cases h
section
variable {f g:qm}(h:∀t p v,f t p=some v->g t p=some v){x:ah}{v:I}
include h
theorem acy(a:me f x p=some v):me g x p=some v:=by
 cases p with
 |nil=>exact a
 |cons c q=>
  simp only[me]at a⊢;split at a
  . rename_i b;obtain⟨u,d,rfl⟩:=kV.1 a;rw[ae b,h _ _ _ d];rfl
  . cases a
theorem acz(b:oC f x p=some v):oC g x p=some v:=by
 unfold oC at b⊢;cases c:jG p with
 |none=>rw[c]at b;cases b
 |some a=>
  obtain⟨id,q⟩:=a;rw[c]at b;dsimp only at b⊢;cases bw:cz x.ag id with
  |none=>rw[bw]at b;exact b
  |some m=>
   rw[bw]at b;obtain⟨u,d,rfl⟩:=kV.1 b;dsimp only;rw[h _ _ _ d];rfl
theorem acA(c:mc f x p=some v):mc g x p=some v:=by
 unfold mc at c⊢;split at c
 . split at c
   . rename_i i;obtain⟨u,d,rfl⟩:=kV.1 c;simp only[*,bS];rw[z' (λa b _ e=>h _ _ _ e) d];rfl
   . cases c
 . cases c
theorem acB(c:oD f x p=some v):oD g x p=some v:=by
 unfold oD at c⊢;split at c
 . split at c
   . rename_i k;split at c
     . rename_i ks i;split at c
       . rename_i d;obtain⟨u,j,rfl⟩:=kV.1 c;simp only[*];rw[ae ⟨trivial,trivial⟩];rw[z' (λa b _ e=>h _ _ _ e) i];simp only[d,bS];rw[z' (λa b _ e=>h _ _ _ e) j];rfl
       . cases c
     . cases c
   . cases c
 . cases c
theorem acC(c:mb f x p=some v):mb g x p=some v:=by
 unfold mb at c⊢;split at c
 . rename_i l af;split at c
   . rename_i i d
     have:ch (d' g l) x.ag=some i:=z' (λa b _ e=>by
      unfold d' at e⊢;split at e
      . exact h _ _ _ e
      . exact e) d
     simp only[af,this];exact c
   . cases c
 . cases c
theorem acD(a:oE f x p=some v):oE g x p=some v:=by
 unfold oE at a⊢;by_cases b:x.Kind=1
 . rw[ae b]at a⊢;exact a
 rw[ak b]at a⊢;by_cases c:x.Kind=2
 . rw[ae c]at a⊢;exact a
 rw[ak c]at a⊢;by_cases d:x.Kind=3
 . rw[ae d]at a⊢;exact a
 rw[ak d]at a⊢;by_cases e:x.Kind=4
 . rw[ae e]at a⊢;exact a
 rw[ak e]at a⊢;by_cases k:x.Kind=9
 . rw[ae k]at a⊢;exact acy h a
 rw[ak k]at a⊢;by_cases i:x.Kind=6
 . rw[ae i]at a⊢;exact acz h a
 rw[ak i]at a⊢;by_cases e4:x.Kind=7
 . rw[ae e4]at a⊢;exact acA h a
 rw[ak e4]at a⊢;by_cases j:x.Kind=8
 . rw[ae j]at a⊢;exact acB h a
 rw[ak j]at a⊢;exact acC h a
end
section
variable {ts:List ah}
theorem MB:∀(n k:Nat) (t:Int) (p:aj) (v:I),cP ts n t p=some v->cP ts (n+k) t p=some v
 |0,k,t,p,v,h=>by rw[zY]at h;cases h
 |n+1,k,t,p,v,h=>by
  rw[qC]at h;rw[show n+1+k=n+k+1 by omega,qC];exact acD (MB n k) h
theorem acE(H:iV ts)(c:bK v){m:Nat}(b:(br ts t v).length<=90000)(a:b6 ts false t v)(h:cP ts m t (br ts t v)=some u):u=v:=by
 have h1:=NQ H c b a (Nat.le_add_left (dL ts t v) m);rw[MB m _ t _ u h]at h1;exact l5 h1
end
theorem MC:∀(l:List I),(∀v,v∈l->wt (dq v)<=wt v)->cK (l.map dq)<=cK l
 |[],_=>by simp
 |v::l,h=>by
  rw[fu,hn,hn];have:=h v (.head _);have:=MC l λw a=>h w (.tail _ a);omega
theorem acF(a:bK v):wt (dq v)<=wt v:=by
 induction a with
 |mk v hs h1 c d f e g c9 j k l i b=>
  rw[nK,fw,fw v];have:=MC v.ai b;dsimp only;split
  . simp only[p',ud];omega
  . omega
theorem Ob(H:da ts)(ht:0<=t/\t<ts.length)(m:aj):gN ts t m=(eg,12)\/∃v,gN ts t m=(v,0)/\r8 ts t v:=by
 unfold gN;rw[a8];by_cases a:4096<m.length
 . rw[ae a];exact .inl rfl
 . rw[ak a];cases b:cP ts 200 t m with
   |none=>exact .inl rfl
   |some v=>exact .inr ⟨v,rfl,NF H ht (by omega) b⟩
theorem HZ(ts:List ah)(t:Int)(v:I):ki ts t v=([],3)\/ki ts t v=(br ts t v,0)/\(br ts t v).length<=4096/\dL ts t v<=200:=by
 unfold ki;split
 . exact .inl rfl
 . rename_i h;exact .inr ⟨rfl,Nat.le_of_not_lt λa=>h (.inl a),Nat.le_of_not_lt λa=>h (.inr a)⟩
theorem Ig(H:da ts)(ht:0<=t/\t<ts.length)(c:bK v)(b:b6 ts false t v)(h1:(br ts t v).length<=4096)(a:dL ts t v<=200):gN ts t (br ts t v)=(v,0):=by
 unfold gN;rw[a8,ak (Nat.not_lt.2 h1),NQ (H.V.hB H.T) c (g' h1 (by decide)) b a]
section
variable {tw tr:List ah}{t rt:Int}
abbrev iB(tw:List ah)(t:Int):dO:=⟨⟨tw⟩,t⟩
def nd(tw tr:List ah)(t rt:Int)(m:aj)(v u:I)(o:aj)(e:Int):Prop:=
 lP (iB tw t,iB tr rt,m)=some (⟨v,u,o⟩,e)/\rn (iB tw t,iB tr rt,m)=some (⟨v,u,o⟩,e)
theorem D5(H:da ts)(ht:0<=t/\t<ts.length):vp (iB ts t)=some 0/\kN ((⟨ts⟩:aS),t)=some 0:=by
 have a:¬t<0:=by omega
 have b:¬(ts.length:Int)<=t:=by omega
 rw[vp,kN];simp only[iB];rw[(pG H.T H.V).1,(pG H.T H.V).2];simp[a,b]
theorem acG(b:da tw)(a:da tr)(ht:0<=t/\t<tw.length)(c:0<=rt/\rt<tr.length):C8 [iB tw t,iB tr rt]=some 0/\GX (iB tw t,iB tr rt)=some 0:=by
 constructor
 . have d:mD ([iB tw t,iB tr rt],2,2)=some (.inr ()):=by rw[mD];rfl
   have h1:mD ([iB tw t,iB tr rt],2,1)=some (.inr ()):=by
    rw[mD,ae (by decide),ae (by rfl)];show(vp (iB tr rt)>>=_)=_;rw[(D5 a c).1];exact d
   have h0:mD ([iB tw t,iB tr rt],2,0)=some (.inr ()):=by
    rw[mD,ae (by decide),ae (by rfl)];show(vp (iB tw t)>>=_)=_;rw[(D5 b ht).1];exact h1
   rw[C8];show(mD ([iB tw t,iB tr rt],2,0)>>=_)=_;rw[h0];rfl
 . rw[GX];show(kN ((⟨tw⟩:aS),t)>>=_)=_;rw[(D5 b ht).2];simp only[aT,ao];rw[bx];show((kN ((⟨tr⟩:aS),rt)).bind _)=_;rw[(D5 a c).2];rfl
theorem MD(c:da tw)(d:da tr)(ht:0<=t/\t<tw.length)(k:0<=rt/\rt<tr.length){m:aj}(hs:∀v,gN tw t m=(v,0)->wt v<=3000):
 (gN tw t m=(eg,12)/\nd tw tr t rt m eg eg [] 12)\/∃v,gN tw t m=(v,0)/\r8 tw t v/\((¬b6 tw true t (dq v)/\nd tw tr t rt m eg eg [] 12)\/b6 tw true t (dq v)/\
  (((∃p,rZ tw tr t (dq v) rt= .inr p)/\nd tw tr t rt m eg eg [] 12)\/(∃x,rZ tw tr t (dq v) rt= .inl x)/\
  ((ki tw t v=([],3)/\nd tw tr t rt m eg eg [] 3)\/(ki tw t v=(br tw t v,0)/\(br tw t v).length<=4096/\dL tw t v<=200)/\
  ((gN tr rt (br tw t v)=(eg,12)/\nd tw tr t rt m eg eg [] 12)\/∃u,gN tr rt (br tw t v)=(u,0)/\r8 tr rt u/\
  ((ki tr rt u=([],3)/\nd tw tr t rt m eg eg [] 3)\/ki tr rt u=(br tr rt u,0)/\((br tr rt u).length<=4096/\dL tr rt u<=200)/\nd tw tr t rt m v u (br tr rt u) 0))))):=by
 obtain⟨e,f⟩:=acG c d ht k;have d1:tT ((⟨tw⟩:aS),t,m)=some (gN tw t m):=KA c.fA t m;have d2:pU ((⟨tw⟩:aS),t,m)=some (gN tw t m):=Hy c.fA t m;rcases Ob c ht m with a|⟨v,a,F⟩
 . left;refine⟨a,?_,?_⟩
   . rw[lP,e];simp[I.aU,zeroV,p0,d1,a,eg]
   . rw[rn,f];simp[I.aU,zeroV,d2,a,eg]
 . right;refine⟨v,a,F,?_⟩;obtain⟨b,b1,b2,b3⟩:=Z9 c F.2.1 F.1;have s1:vz ((⟨tw⟩:aS),t,v)=_:=b2;have l:ym ((⟨tw⟩:aS),t,v)=_:=b3;cases b with
   |false=>
    left;refine⟨λh=>(by have:=b1.2 h;cases this),?_,?_⟩
    . rw[lP,e];simp[I.aU,zeroV,p0,d1,a,eg,s1]
    . rw[rn,f];simp[I.aU,zeroV,d2,a,eg,l]
   |true=>
    right;have o:=b1.1 rfl;refine⟨o,?_⟩;have q:=Ls F.2.1;have r:=g' (acF F.2.1) (hs v a);have g:zj ((⟨tw⟩:aS),t,dq v,(⟨tr⟩:aS),rt)=_:=Zk c d q r o k.1 k.2;have i:sH ((⟨tw⟩:aS),t,dq v,(⟨tr⟩:aS),rt)=_:=JF c d q r o k.1 k.2;cases s:rZ tw tr t (dq v) rt with
    |inr p=>
     left;rw[s]at g i;refine⟨⟨p,rfl⟩,?_,?_⟩
     . rw[lP,e];simp[I.aU,zeroV,p0,d1,a,eg,s1,g,kz]
     . rw[rn,f];simp[I.aU,zeroV,d2,a,eg,l,i,kz]
    |inl x=>
     right;rw[s]at g i;refine⟨⟨x,rfl⟩,?_⟩;have aI:lM ((⟨tw⟩:aS),t,v)=_:=ND c F;have j:ny ((⟨tw⟩:aS),t,v)=_:=Ie c F;rcases HZ tw t v with he|⟨he,af⟩
     . left;rw[he]at aI j;refine⟨he,?_,?_⟩
       . rw[lP,e];simp[I.aU,zeroV,p0,d1,a,eg,s1,g,kz,aI]
       . rw[rn,f];simp[I.aU,zeroV,d2,a,eg,l,i,kz,j]
     . right;rw[he]at aI j;refine⟨⟨he,af⟩,?_⟩;have d3:tT ((⟨tr⟩:aS),rt,br tw t v)=some (gN tr rt (br tw t v)):=KA d.fA rt _;have d4:pU ((⟨tr⟩:aS),rt,br tw t v)=some (gN tr rt (br tw t v)):=Hy d.fA rt _;rcases Ob d k (br tw t v)with n|⟨u,n,G⟩
       . left;rw[n]at d3 d4;refine⟨n,?_,?_⟩
         . rw[lP,e];simp[I.aU,zeroV,p0,d1,a,eg,s1,g,kz,aI,d3]
         . rw[rn,f];simp[I.aU,zeroV,d2,a,eg,l,i,kz,j,d4]
       . right;rw[n]at d3 d4;refine⟨u,n,G,?_⟩;have dh:lM ((⟨tr⟩:aS),rt,u)=_:=ND d G;have gx:ny ((⟨tr⟩:aS),rt,u)=_:=Ie d G;rcases HZ tr rt u with dD|⟨dD,w⟩
         . left;rw[dD]at dh gx;refine⟨dD,?_,?_⟩
           . rw[lP,e];simp[I.aU,zeroV,p0,d1,a,eg,s1,g,kz,aI,d3,dh]
           . rw[rn,f];simp[I.aU,zeroV,d2,a,eg,l,i,kz,j,d4,gx]
         . right;rw[dD]at dh gx;refine⟨dD,w,?_,?_⟩
           . rw[lP,e];simp[I.aU,zeroV,p0,d1,a,s1,g,kz,aI,d3,dh]
           . rw[rn,f];simp[I.aU,zeroV,d2,a,l,i,kz,j,d4,gx]
end
structure xa (tw tr:List ah)(t:Int)(v:I):Prop where
 W:da tw
 R:da tr
 t1:0<=t/\t<tw.length
 t2:0<=t/\t<tr.length
 f:b6 tw false t v
 o:bK v
 w:wt v<=3000
theorem xa.back(C:xa tw tr t v):∀u,gN tw t (br tw t v)=(u,0)->u=v:=λu h=>by
 rcases Zz tw t (br tw t v)with⟨e,he,a⟩|⟨x,a,_,c,j⟩
 . rw[a]at h;exact absurd (dX Prod.snd h) he
 . rw[a]at h;have:x=u:=dX Prod.fst h;subst this;exact acE (C.W.V.hB C.W.T) C.o (g' c (by decide)) C.f j
theorem xa.some(C:xa tw tr t v):∃x u o e,nd tw tr t t (br tw t v) x u o e/\(e=0->bK x/\r8 tr t u/\gN tr t o=(u,0)):=by
 rcases MD C.W C.R C.t1 C.t2 (m:=br tw t v) (λu h=>by rw[C.back u h];exact C.w)with⟨_,h⟩|⟨x,_,F,⟨_,h⟩|⟨_,⟨_,h⟩|⟨_,⟨_,h⟩|⟨_,⟨_,h⟩|⟨u,_,G,⟨_,h⟩|⟨_,⟨a,l2⟩,h⟩⟩⟩⟩⟩⟩
 . exact⟨_,_,_,_,h,by omega⟩
 . exact⟨_,_,_,_,h,by omega⟩
 . exact⟨_,_,_,_,h,by omega⟩
 . exact⟨_,_,_,_,h,by omega⟩
 . exact⟨_,_,_,_,h,by omega⟩
 . exact⟨_,_,_,_,h,by omega⟩
 . exact⟨_,_,_,_,h,λ_=>⟨F.2.1,G,Ig C.R C.t2 G.2.1 G.1 a l2⟩⟩
theorem C'{b n:Nat}(h:b<=n):1+max 0 b<=n+1:=by omega
theorem adW{a b n:Nat}(c:a<=n)(d:b<=n):1+max a b<=n+1:=by omega
theorem rW{a b n:Nat}(h:1+max a b<=n):1<=n:=by omega
theorem abF:∀(m n:Nat),n<=m->(dM n).length<=(dM m).length:=by
 intro m;induction m using Nat.strongRecOn with
 |ind m ih=>
  intro n h;by_cases aE:n<128
  . rw[pB aE];exact nR m
  . have a:¬m<128:=(by omega);rw[nQ aE,nQ a,gQ,gQ];exact Nat.succ_le_succ (ih (m/128) (by omega) (n/128) (Nat.div_le_div_right h))
theorem ab1(n:Nat)(a b:Bool):(dM (2*n+if a then 1 else 0)).length=(dM (2*n+if b then 1 else 0)).length:=by
 have key:∀c:Bool,(dM (2*n+if c then 1 else 0)).length=(dM (2*n)).length:=λc=>by
  cases c with
  |false=>rfl
  |true=>
   show(dM (2*n+1)).length=_;by_cases h:2*n<128
   . rw[pB h,pB (by omega)];rfl
   . rw[nQ h,nQ (by omega),gQ,gQ];rw[show(2*n+1)/128=2*n/128 by omega]
 rw[key a,key b]
theorem Cu{a b:aj}(h:a.length<=b.length):(dg a).length<=(dg b).length:=by
 unfold dg;rw[cJ,cJ];exact Nat.add_le_add (abF _ _ h) h
theorem KE{n:Nat}(a b:Bool)(h:p.length<=q.length):(fa n a p).length<=(fa n b q).length:=by
 unfold fa;rw[cJ,cJ,ab1 n a b];exact Nat.add_le_add (dU _) (Cu h)
theorem IV:∀(l:List cO) (E:List Fd),l.Pairwise (λa b=>a.ad<b.ad)->(∀f,f∈l->0<=f.ad)->E.Pairwise (λa b=>a.id<b.id)->
 (∀e,e∈E->∃f,f∈l/\f.ad.toNat=e.id/\e.text.length<=(nL f).length)->(E.flatMap Fd.text).length<=(l.flatMap nL).length
 |[],[],_,_,_,_=>by simp
 |[],e::E,_,_,_,h=>by
  obtain⟨f,p,_⟩:=h e (.head _);cases p
 |f::l,[],_,_,_,_=>by simp
 |f::l,e::E,af,h0,dD,h=>by
  rw[hV]at af;have m:∀f,f∈l->0<=f.ad:=λg al=>h0 g (.tail _ al);have q:=h0 f (.head _);have o:∀{i:List Fd},(∀x,x∈i->f.ad.toNat<x.id)->(∀x,x∈i->∃g,g∈f::l/\g.ad.toNat=x.id/\x.text.length<=(nL g).length)->∀x,x∈i->∃g,g∈l/\g.ad.toNat=x.id/\x.text.length<=(nL g).length:=λ{i} a b x d=>by
   obtain⟨g,c,j,k⟩:=b x d;rcases eU.1 c with rfl|c
   . have:=a x d;omega
   . exact⟨g,c,j,k⟩
  obtain⟨g,c,j,k⟩:=h e (.head _);by_cases he:f.ad.toNat=e.id
  . have al:g=f:=by
     rcases eU.1 c with rfl|c
     . rfl
     . have:=af.1 g c;omega
    subst al;have n:=(hV.1 dD)
    have:=IV l E af.2 m n.2 (o (λx d=>by have:=n.1 x d;omega) λx d=>h x (.tail _ d));simp only[eX,cJ];omega
  . have aC:f.ad.toNat<e.id:=by
     rcases eU.1 c with rfl|c
     . omega
     . have:=af.1 g c;omega
    have:=IV l (e::E) af.2 m dD (o (λx d=>by
     rcases eU.1 d with rfl|d
     . exact aC
     . have:=(hV.1 dD).1 x d;omega) h)
    simp only[eX,cJ]at this⊢;omega
section
variable {ts:List ah}
theorem ME:∀{l:List aj} {m:List I},ch f l=some m->(∀q,q∈l->∀v,f q=some v->(br ts t v).length<=q.length)->((bF ts t m).flatMap dg).length<=(l.flatMap dg).length
 |[],m,h,_=>by cases h;rw[bF];simp
 |q::l,m,h,a=>by
  simp only[ch]at h;split at h
  . rename_i b j c d;cases h;rw[bF];have h1:=Cu (a q (.head _) b c);have i:=ME d λg e=>a g (.tail _ e);simp only[eX,cJ];omega
  . cases h
theorem NR{k:Int}{g:aj->Option I}:∀{l:List aj} {ks d:List I},ch f (e0 l)=some ks->ch g (e6 l)=some d->(∀q,q∈l->∀v,(f q=some v->(br ts k v).length<=q.length)/\(g q=some v->(br ts t v).length<=q.length))->(gj (bF ts k ks) (bF ts t d)).length<=(l.flatMap dg).length
 |[],ks,d,h1,c,_=>by cases h1;rw[bF,gj];simp;intros;simp_all
 |[q],ks,d,h1,c,_=>by cases h1;rw[bF,gj];simp;intros;simp_all
 |a::b::l,ks,d,h1,c,h=>by
  simp only[e0,e6,ch]at h1 c;split at h1
  . rename_i x p m e;cases h1;split at c
    . rename_i y r n i;cases c;rw[bF,bF,gj];have aI:=Cu ((h a (.head _) x).1 m);have o:=Cu ((h b (.tail _ (.head _)) y).2 n);have dh:=NR e i λq j=>h q (.tail _ (.tail _ j));simp only[eX,cJ];omega
    . cases c
  . cases h1
def EI(ts:List ah)(n:Nat):Prop:=∀(t:Int) (p:aj) (v:I),p.length<=90000->0<=t->t<ts.length->cP ts n t p=some v->(br ts t v).length<=p.length/\dL ts t v<=n
theorem acT(H:da ts){n:Nat}(ih:EI ts n):EI ts (n+1):=by
 intro t p v z t0 t1 h;rw[qC]at h;have N:t.toNat<ts.length:=by omega
 have g:=bg N aN;have cx:=H.fA;obtain⟨aM,aO⟩:=cx.S.K _ g;have aI:=λv=>@uy ts t v;have aB:=λv=>@uz ts t v;have dh:=λv=>@uA ts t v;have gx:=λv=>@uB ts t v;have jW:=λv=>@w3 ts t v;have oU:=λv=>@uC ts t v;have Bx:=λv=>@uD ts t v;have e8:=λv=>@uE ts t v;have ai:=λv=>@uF ts t v;have J:=λv=>tF (ts:=ts) t v;have C:=λv a b=>@zV ts t v a b;generalize ts.getD t.toNat aN=x at*;unfold oE at h;by_cases Q:x.Kind=1
 . rw[ae Q]at h;unfold uu at h;split at h
   . cases h;exact⟨by rw[aI _ Q];simp,by rw[C _ rfl rfl];omega⟩
   . split at h
     . rename_i aH;cases h;exact⟨by rw[aI _ Q,aH];simp,by rw[C _ rfl rfl];omega⟩
     . cases h
 rw[ak Q]at h;by_cases Z:x.Kind=2
 . rw[ae Z]at h;unfold uv at h;cases B:gJ p with
   |none=>rw[B]at h;cases h
   |some m=>
    rw[B]at h;dsimp only at h;split at h
    . cases h;refine⟨?_,by rw[C _ rfl rfl];omega⟩;rw[aB _ Z];show(fe (fF (iq m)).toNat).length<=_;rw[adA,Nt B];exact dU _
    . cases h
 rw[ak Z]at h;by_cases aa:x.Kind=3
 . rw[ae aa]at h;unfold uw at h;split at h
   . cases h;exact⟨by rw[dh _ aa];exact dU _,by rw[C _ rfl rfl];omega⟩
   . cases h
 rw[ak aa]at h;by_cases ab:x.Kind=4
 . rw[ae ab]at h;unfold ux at h;cases B:gJ p with
   |none=>rw[B]at h;cases h
   |some m=>
    rw[B]at h;dsimp only at h;split at h
    . cases h;refine⟨?_,by rw[C _ rfl rfl];omega⟩;rw[gx _ ab];show(fe (m:Int).toNat).length<=_;rw[bc,Nt B];exact dU _
    . cases h
 rw[ak ab]at h;by_cases T:x.Kind=9
 . rw[ae T]at h;obtain⟨k,s⟩:=cx.elem g (by omega);cases p with
   |nil=>
    cases h;refine⟨?_,by rw[C _ rfl rfl];omega⟩;rw[ai _ T];show(match bF ts x.aG []with|[]=>[]|p::_=>1::p).length<=_;rw[bF];simp
   |cons c q=>
    simp only[me]at h;split at h
    . obtain⟨w,aJ,rfl⟩:=kV.1 h;obtain⟨W,F⟩:=ih _ _ _ (by simp at z;omega) k s aJ;constructor
      . rw[ai _ T];show(match bF ts x.aG [w]with|[]=>[]|p::_=>1::p).length<=_;rw[bF];simp only[gQ];omega
      . rw[J,ae rfl,a8,a8];have:dR ts x.aG [w]<=n:=Ak λy d=>by rcases eU.1 d with rfl|d;exact F;cases d
        exact C' this
    . cases h
 rw[ak T]at h;by_cases I:x.Kind=6
 . rw[ae I]at h;unfold oC at h;cases U:jG p with
   |none=>rw[U]at h;cases h
   |some a=>
    obtain⟨id,q⟩:=a;rw[U]at h;dsimp only at h;have aC:=PL U;have aS:q.length+(dM id.toNat).length=p.length:=by rw[aC,cJ];omega
    have aR:=nR id.toNat;cases bw:cz x.ag id with
    |some m=>
     rw[bw]at h;obtain⟨w,aL,rfl⟩:=kV.1 h;obtain⟨i,aT⟩:=jP bw;obtain⟨W,F⟩:=ih _ _ _ (by omega) (cx.mem g i).1 (cx.mem g i).2 aL;constructor
     . rw[oU _ I];dsimp only;rw[bw];dsimp only;rw[bF,List.headD_cons,cJ];omega
     . rw[J,ae rfl,a8,ae I];dsimp only;rw[bw];dsimp only;have:dR ts m.av [w]<=n:=Ak λy d=>by rcases eU.1 d with rfl|d;exact F;cases d
       exact C' this
    |none=>
     rw[bw]at h;dsimp only at h;split at h
     . cases h;constructor
       . rw[oU _ I];dsimp only;rw[bw];simp only[fu,List.headD_cons,cJ];omega
       . rw[C _ rfl rfl];omega
     . cases h
 rw[ak I]at h;by_cases e4:x.Kind=7
 . rw[ae e4]at h;unfold mc at h;obtain⟨k,s⟩:=cx.elem g (by omega);cases u:ir p with
   |none=>rw[u]at h;cases h
   |some l=>
    rw[u]at h;dsimp only at h;obtain⟨o,ax,az,aA⟩:=tA z;have af:(∀q,q∈l->q.length<=p.length)/\l.length<=p.length:=(by grind);split at h
    . obtain⟨m,i,rfl⟩:=kV.1 h;constructor
      . rw[Bx _ e4];have:=ME i λq P v E=>(ih _ _ _ (by have:=af.1 q P;omega) k s E).1
        rwa [D2 z u]at this
      . rw[J,ae rfl,a8,a8];have:dR ts x.aG m<=n:=Ak λy d=>by
         obtain⟨q,L,M⟩:=pK i y d;exact(ih _ _ _ (by have:=af.1 q L;omega) k s M).2
        exact C' this
    . cases h
 rw[ak e4]at h;by_cases R:x.Kind=8
 . rw[ae R]at h;unfold oD at h;obtain⟨k,s⟩:=cx.elem g (by omega);obtain⟨d1,d2⟩:=cx.key g R;cases u:ir p with
   |none=>rw[u]at h;cases h
   |some l=>
    rw[u]at h;dsimp only at h;obtain⟨o,ax,az,aA⟩:=tA z;have af:(∀q,q∈l->q.length<=p.length)/\l.length<=p.length:=(by grind);split at h
    . split at h
      . rename_i ks ap;split at h
        . obtain⟨m,i,rfl⟩:=kV.1 h;constructor
          . rw[e8 _ R];have:=NR ap i λq P v=>⟨λE=>(ih _ _ _ (by have:=af.1 q P;omega) d1 d2 E).1,λE=>(ih _ _ _ (by have:=af.1 q P;omega) k s E).1⟩
            rwa [D2 z u]at this
          . rw[J,ak (show ¬x.Kind=5 by omega),ak (show ¬x.Kind=6 by omega)];dsimp only;have O:dR ts x.aG m<=n:=Ak λy d=>by
             obtain⟨q,L,M⟩:=pK i y d;exact(ih _ _ _ (by have:=af.1 q (Dw L);omega) k s M).2
            have aF:(if ks=[]then 0 else 1)<=n:=by
             cases ks with
             |nil=>exact hA _
             |cons y ks=>
              obtain⟨q,L,M⟩:=pK ap y (.head _);have:=(ih _ _ _ (by have:=af.1 q (zX L);omega) d1 d2 M).2;rw[tF]at this;show 1<=n;exact rW this
            exact adW aF O
        . cases h
      . cases h
    . cases h
 rw[ak R]at h;have ah:x.Kind=5:=by omega
 unfold mb at h;obtain⟨am,aP⟩:=cx.S.A _ g (.inl ah);cases af:iS p with
 |none=>rw[af]at h;cases h
 |some l=>
  rw[af]at h;dsimp only at h;obtain⟨o,ax,az,aA⟩:=Df z;have D:(∀f,f∈l->f.Data.length<=p.length/\cj f.ad)/\l.Pairwise (λa b=>a.ad<b.ad)/\l.length<=p.length:=by grind
  split at h
  . rename_i G ao;split at h
    . cases h;have ar:jU x.ag (eO x l):=Nv D.2.1 (λf V=>(D.1 f V).2);have aQ:=qA ao;have aw:∀j,j<x.ag.length->c7 (x.ag.getD j ay) (G.getD j au)=false->∃f,f∈l/\f.ad=(x.ag.getD j ay).ad/\(br ts (x.ag.getD j ay).av (G.getD j au)).length<=f.Data.length/\dL ts (x.ag.getD j ay).av (G.getD j au)<=n:=λj N aq=>by
       have al:=Ia ay au ao j N;have O:=bg N ay;generalize x.ag.getD j ay=m at*;generalize G.getD j au=w at*;unfold d' at al;split at al
       . rename_i f an;have aj:=BK an;have aD:f.ad=m.ad:=by have:=List.find?_some an;simpa using this
         obtain⟨W,F⟩:=ih _ _ _ (by have:=(D.1 f aj).1;omega) (cx.mem g O).1 (cx.mem g O).2 al;exact⟨f,aj,aD,W,F⟩
       . split at al
         . rename_i aE;cases al;unfold c7 at aq;simp[aE]at aq
         . cases al
      constructor
      . rw[jW _ ah];dsimp only;rw[<-N4 z af];refine IV l _ D.2.1 (λf V=>by have:=(D.1 f V).2;unfold cj at this;omega) (H7 (vt am ar) (Iz am ar)) λe he=>?_;rw[(mK fp _).mem_iff]at he;unfold fk at he;rcases fY.1 he with he|he
        . obtain⟨j,X,aK,Y,rfl⟩:=DI he;obtain⟨f,f1,f2,f3,_⟩:=aw j X Y;refine⟨f,f1,by rw[f2],?_⟩;show(fa _ _ _).length<=(fa _ _ _).length;rw[f2];exact KE _ _ f3
        . obtain⟨a,a1,rfl⟩:=eJ.1 he;obtain⟨f,f1,f2,rfl⟩:=ID a1;refine⟨f,f1,rfl,?_⟩;exact KE (n:=f.ad.toNat) false f.cf (dU _)
      . rw[J,ae rfl,ae ah];have:=Ny (ts:=ts) (r:=n) (ms:=x.ag) (l:=G) λj X aK Y=>by
         obtain⟨f,_,_,_,f4⟩:=aw j X Y;exact f4
        exact C' this
    . cases h
  . cases h
theorem Oc(H:da ts):∀n,EI ts n
 |0=>λt p v _ _ _ h=>by rw[zY]at h;cases h
 |n+1=>acT H (Oc H n)
end
end
end Go.Proofs.YtdjagncoefjfeaaGreat
