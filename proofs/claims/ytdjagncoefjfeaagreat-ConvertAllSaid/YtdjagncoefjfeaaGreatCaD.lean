/- The functions of the program as functions of Lean, that its code does what they say, and what they answer; part D. -/
import Derived.Test.YtdjagncoefjfeaaGreatCaC

namespace Go.Proofs.YtdjagncoefjfeaaGreat
set_option linter.all false
section
open Go Go.Proofs.YtdjagncoefjfeaaGreat.Shv Go.Sort
set_option maxRecDepth 100000
variable{ks:List I}{path b1:ar}{v w:I}{p q:ak}{t b2 L id rt:Int}{α c:Type}{x y:ai}{ts tw tr:List ai}{o:Option I}{a:Option (I×Bool×List ai×ar×Int×ar)}{F:iV}{ms:List aS}{aK:List fF}
section
variable {ts:List ai}
theorem acR{a b:I}(c:cw a.bd)(d:cw b.bd):p7 (a,b)=some (ha a b):=by
 obtain⟨r,e,f⟩:=DD c d;have:=vV c d;grind
theorem Om{x:ai}(c:path.length<=1000){l:List ak}(a:∀y,y∈ks->cw y.bd)(af:ks.length<=90000)
 {z0 z2 z4 a0 a2 a4:Int}{z1 a1:Bool}{z3 a3:ak}{b1:ar}{b2:Int}:∀(k i:Nat),ks.length-(i+1)=k->
 ((∀m,i<=m->m+1<ks.length->ha (ks.getD m av) (ks.getD (m+1) av)<0)/\rm (l,((i+1:Nat):Int),ts,b1,b2,x,z0,z1,z2,z3,z4,a0,a1,a2,a3,a4,path,ks)=some (.inr (l,ts,b1,b2,x,z0,z1,z2,z3,z4,a0,a1,a2,a3,a4,path,ks)))\/
 ((∃m,m+1<ks.length/\¬ha (ks.getD m av) (ks.getD (m+1) av)<0)/\∃w f1 f2,rm (l,((i+1:Nat):Int),ts,b1,b2,x,z0,z1,z2,z3,z4,a0,a1,a2,a3,a4,path,ks)=some (.inl (false,ts,f2,w,path,f1)))
 |0,i,d=>by
  rw[rm,ch];grind
 |k+1,i,d=>by
  have aC:i+1<ks.length:=by omega
  have aM:dq .i64 ((i+1:Nat):Int) 1=(i:Int):=by rw[hK];omega
  rw[rm,bA,aM];simp only[aU,ao];rw[ae (aP (by omega)),bA,ae (aP aC),bA,a7,a7];simp only[I.aV];rw[acR (a _ (bg (by omega) av)) (a _ (bg aC av))];simp only[ao];by_cases b:ha (ks.getD i av) (ks.getD (i+1) av)<0
  . rw[al (by simpa using b),bE];rcases Om c a af (x:=x) (l:=l) (z0:=z0) (z1:=z1) (z2:=z2) (z3:=z3) (z4:=z4) (a0:=a0) (a1:=a1) (a2:=a2) (a3:=a3) (a4:=a4) (b1:=b1) (b2:=b2) k (i+1) (by omega)with⟨h1,e⟩|h
    . grind
    grind
  . rw[ae (by simpa using b),zz c];grind
theorem On{m:Nat}(h:m<18446744073709551616):cw (h' m):=by
 unfold h' cw;omega
theorem l8:cw 0:=by unfold cw;omega
def mq(o:Option I):Prop:=∀v,o=some v->cw v.bd
theorem mq.ite{c:Prop}[Decidable c]{a b:Option I}(e:c->mq a)(f:¬c->mq b):mq (if c then a else b):=by grind
theorem mq.no:mq none:=λv h=>(by cases h)
theorem mq.zero{k i:Int}{b:Bool}{s:ak}{a:List I}{r:List bX}:mq (some ⟨k,b,0,s,i,ks,a,r⟩):=λv h=>(by cases h;exact l8)
theorem mq.map{α:Type}{o:Option α}{k i:Int}{b:Bool}{s:ak}{ks a:α->List I}{r:List bX}:mq (o.map λv=>⟨k,b,0,s,i,ks v,a v,r⟩):=λv h=>by obtain⟨_,_,rfl⟩:=kR.1 h;exact l8
theorem NL{n:Nat}(h:cX ts n t p=some v):cw v.bd:=by
 have key:mq (cX ts n t p):=by
  cases n with
  |zero=>unfold cX;exact .no
  |succ n=>
   unfold cX;refine .ite (λ_=>.ite (λ_=>.zero) λ_=>.ite (λ_=>.zero) λ_=>.no) λ_=>?_;refine .ite (λ_=>?_) λ_=>?_
   . cases b:gD p with
     |none=>exact .no
     |some m=>exact .ite (λ_=>λv h=>(by cases h;exact On (DX b))) λ_=>.no
   refine .ite (λ_=>.ite (λ_=>.zero) λ_=>.no) λ_=>?_;refine .ite (λ_=>?_) λ_=>?_
   . cases b:gD p with
     |none=>exact .no
     |some m=>exact .ite (λ_=>.zero) λ_=>.no
   refine .ite (λ_=>?_) λ_=>?_
   . cases p with
     |nil=>exact .zero
     |cons c q=>exact .ite (λ_=>.map) λ_=>.no
   refine .ite (λ_=>?_) λ_=>?_
   . cases jB p with
     |none=>exact .no
     |some a=>
      obtain⟨id,q⟩:=a;dsimp only;cases cB (ts.getD t.toNat aJ).ah id with
      |none=>exact .ite (λ_=>.zero) λ_=>.no
      |some m=>exact .map
   refine .ite (λ_=>?_) λ_=>?_
   . cases ia p with
     |none=>exact .no
     |some l=>exact .ite (λ_=>.map) λ_=>.no
   refine .ite (λ_=>?_) λ_=>?_
   . cases ia p with
     |none=>exact .no
     |some l=>
      refine .ite (λ_=>?_) λ_=>.no;cases cf (cX ts n (ts.getD t.toNat aJ).Key) (e6 l)with
      |none=>exact .no
      |some ks=>exact .ite (λ_=>.map) λ_=>.no
   . cases iO p with
     |none=>exact .no
     |some l=>
      dsimp only;split
      . exact .ite (λ_=>.zero) λ_=>.no
      . exact .no
 exact key v h
theorem pN{d:Type}{f:α->Option d}:∀{l:List α} {m:List d},cf f l=some m->∀y,y∈m->∃a,a∈l/\f a=some y
 |[],m,h,y,c=>by rw[cf]at h;cases h;cases c
 |a::l,m,h,y,c=>by
  rw[cf]at h;split at h
  . rename_i b i h1 e;cases h;rcases eK.1 c with rfl|c
    . grind
    . obtain⟨g,k1,k2⟩:=pN e y c;grind
  . cases h
theorem Ab:∀{l:List α} {y:α},y∈e6 l->y∈l
 |[],y,h=>by cases h
 |[_],y,h=>by cases h
 |a::b::l,y,h=>by
  rcases eK.1 h with rfl|h
  . grind
  . exact .tail _ (.tail _ (Ab h))
theorem HV:∀(l:List α),(e6 l).length<=l.length
 |[]=>dV _
 |[_]=>hv _
 |a::b::l=>by
  show(e6 l).length+1<=l.length+1+1;have:=HV l;omega
theorem SL{a:Nat}(h:a<1000000):fC .i64 (a:Int) 2=((a/2:Nat):Int):=by
 unfold fC;have e:(a:Int).tdiv 2=((a/2:Nat):Int):=by rw[yJ (by omega)];omega
 rw[e];exact jD
theorem aec{n:Nat}(ih:xn ts n)(k8:x.Kind=8)(bC:0<=x.Key/\x.Key<ts.length)(dM:0<=x.aF/\x.aF<ts.length)(O:p.length<=4096)(P:path.length+(n+1)=200):
 fK ts b1 b2 path (match ia p with
  |some l=>if l.length%2 = 0/\((l.length/2:Nat):Int)<=x.Max then (match cf (cX ts n x.Key) (e6 l) with
   |some ks=>if oT ks then(cf (cX ts n x.aF) (fk l)).map λs=>(⟨8,false,0,[],0,ks,s,[]⟩:I)else none
   |none=>none)else none
  |none=>none) (yi (x,p,ts,b1,b2,path)):=by
 obtain⟨o,L,M,N⟩:=th (p:=p) (by omega);rw[yi,L];simp only[aU,ao];by_cases h0:o.2=0
 . obtain⟨v1,z,v3⟩:=M h0;rw[v1];dsimp only;have G:b6 (o.1.length:Int) 2=((o.1.length%2:Nat):Int):=by rw[hl];omega
   rw[G,SL (by omega)];by_cases he:o.1.length%2=0
   . have b:¬(bif (!(decide (o.2=0)))then true else(!(decide (((o.1.length%2:Nat):Int)=0))))=true:=(by grind);rw[al b];by_cases t:((o.1.length/2:Nat):Int)<=x.Max
     . rw[ae (show o.1.length%2=0/\((o.1.length/2:Nat):Int)<=x.Max from⟨he,t⟩),al (show ¬decide (x.Max<((o.1.length/2:Nat):Int))=true by simp only[dO];omega)];have D:∀q,q∈o.1->∀step b1 b2,fK ts b1 b2 path (cX ts n x.Key q) (ja (step,x.Key,q,ts,b1,b2,path)):=λq k step b1 b2=>
        vX (by omega) (ih x.Key q b1 b2 (path++[step]) bC.1 bC.2 (by have:=z q k;omega) (by simp;omega))
       have j:∀q,q∈o.1->∀step b1 b2,fK ts b1 b2 path (cX ts n x.aF q) (ja (step,x.aF,q,ts,b1,b2,path)):=λq k step b1 b2=>
        vX (by omega) (ih x.aF q b1 b2 (path++[step]) dM.1 dM.2 (by have:=z q k;omega) (by simp;omega))
       obtain⟨gF,c⟩:=NK (x:=x) (l:=o.1) (by omega) he D (z0:=0) (z1:=false) (z2:=0) (z3:=[]) (z4:=0) (a0:=x.Kind) (a1:=false) (a2:=0) (a3:=[]) (a4:=0) (b1:=b1) (b2:=b2) (o.1.length/2) 0 [] (by omega) rfl;have d0:o.1.drop (2*0)=o.1:=rfl;rw[d0]at gF c;have z0:((2*0:Nat):Int)=0:=rfl;rw[z0]at gF c;cases hs:cf (cX ts n x.Key) (e6 o.1)with
       |none=>
        obtain⟨w,f1,f2,r⟩:=c hs;rw[r];exact⟨λv h=>(by cases h),λ_=>⟨_,_,_,rfl⟩⟩
       |some ks=>
        rw[gF ks hs];simp only[ao,fT];have E:∀y,y∈ks->cw y.bd:=λy H=>by
         obtain⟨a,_,C⟩:=pN hs y H;exact NL C
        have F:ks.length<=90000:=by
         have:=qO hs;have:=HV o.1;omega
        have B:=Om (ts:=ts) (x:=x) (path:=path) (by omega) (l:=o.1) E F (z0:=0) (z1:=false) (z2:=0) (z3:=[]) (z4:=0) (a0:=x.Kind) (a1:=false) (a2:=0) (a3:=[]) (a4:=0) (b1:=b1) (b2:=b2) _ 0 rfl;have z1:((0+1:Nat):Int)=1:=rfl;rw[z1]at B;rcases B with⟨A,d⟩|⟨⟨m,J,K⟩,w,f1,f2,d⟩
        . have g:oT ks=true:=vW.2 λi j=>A i (hv _) j;rw[ae g,d];simp only[ao];obtain⟨e,f⟩:=MM (x:=x) (l:=o.1) (by omega) he j (z0:=0) (z1:=false) (z2:=0) (z3:=[]) (z4:=0) (a0:=x.Kind) (a1:=false) (a2:=0) (a3:=[]) (a4:=0) (b1:=b1) (b2:=b2) (ks:=ks) (o.1.length/2) 0 [] (by omega) rfl;rw[d0]at e f;have z2:((2*0+1:Nat):Int)=1:=rfl;rw[z2]at e f;cases u:cf (cX ts n x.aF) (fk o.1)with
          |none=>
           obtain⟨w,f1,f2,r⟩:=f u;rw[r];exact⟨λv h=>(by cases h),λ_=>⟨_,_,_,rfl⟩⟩
          |some s=>
           rw[e s u];exact⟨λv h=>(by cases h;simp[k8]),λh=>(by cases h)⟩
        . have g:¬oT ks=true:=λh=>K (vW.1 h m J);rw[al g,d];exact⟨λv h=>(by cases h),λ_=>⟨I.eta w,f1,f2,rfl⟩⟩
     . rw[al (show ¬(o.1.length%2=0/\((o.1.length/2:Nat):Int)<=x.Max)fromλh=>t h.2),ae (show decide (x.Max<((o.1.length/2:Nat):Int))=true by simp only[dO];omega)];exact jL (by omega) _ _ _
   . have b:(bif (!(decide (o.2=0)))then true else(!(decide (((o.1.length%2:Nat):Int)=0))))=true:=(by grind);rw[al (show ¬(o.1.length%2=0/\((o.1.length/2:Nat):Int)<=x.Max)fromλh=>he h.1),ae b];exact jL (by omega) _ _ _
 . have b:(bif (!(decide (o.2=0)))then true else(!(decide (b6 (o.1.length:Int) 2=0))))=true:=(by simp[h0]);rw[ae b,N h0];exact jL (by omega) _ _ _
theorem abk{l:List cS}(m:aS)(af:l.length<=90000):(∃j,j<l.length/\l.find? (λf=>decide (f.ad=m.ad))=some (l.getD j gn)/\yP (l,m)=some ((j:Int),m))\/
 (l.find? (λf=>decide (f.ad=m.ad))=none/\yP (l,m)=some (-1,m)):=by
 have h:=qM (λi=>py (l,(l.length:Int),(i:Int),m)) l.length (λi=>decide ((l.getD i gn).ad=m.ad)) (λi=>.inl ((i:Int),m)) (.inr m)
  (λi a=>by
   rw[py,bA,ae (aP a)];simp only[aU,ao,a7,I.aV,G0]
   rw[bE])
  (by rw[py,bz];simp only[ju])
 have cZ:py (l,(l.length:Int),((0:Nat):Int),m)=py (l,(l.length:Int),0,m):=rfl;simp only[cZ]at h;rw[yP];simp only[ju];rcases h with⟨j,h1,c,d,b⟩|⟨h1,b⟩
 . left;refine⟨j,h1,?_,by rw[b];simp only[aU,ao,ju]⟩;rw[du h1]at c⊢;rw[Ch];refine⟨c,j,h1,rfl,λk g=>?_⟩;have:=d k g;rw[du (by omega)]at this;simpa using this
 . right;refine⟨?_,by rw[b];simp only[aU,ao,ju]⟩;rw[yB];intro f e;obtain⟨i,a,rfl⟩:=e3 e;have:=h1 i a;rw[du a]at this;simpa using this
def xy{a:Type}:Option a->Option (List a)->Option (List a)
 |some b,some m=>some (b::m)
 |_,_=>none
theorem vM{b:Type}(f:α->Option b)(a:α)(l:List α):cf f (a::l)=xy (f a) (cf f l):=by rfl
def ef(f:Int->ak->Option I)(l:List cS)(m:aS):Option I:=match l.find? (λf=>decide (f.ad=m.ad))with
 |some g=>f m.aw g.Data
 |none=>if m.bV then some m.bB else none
theorem NM {x:ai}{path:ar}(F:path.length<=900){f:Int->ak->Option I}{l:List cS}(af:l.length<=90000)(B:x.ah.length<=16)
 (s:∀m,m∈x.ah->m.bV=true->jK m.bB=some m.bB)
 (h:∀m,m∈x.ah->∀q,q∈l->∀step b1 b2,fK ts b1 b2 path (f m.aw q.Data) (ja (step,m.aw,q.Data,ts,b1,b2,path)))
 {z0 z2 z4 a0 a2 a4:Int}{z1 a1:Bool}{z3 a3:ak}{b1:ar}{b2:Int}:∀(k i:Nat) (acc:List I),i+k=x.ah.length->acc.length=i->
 (∀m,cf (ef f l) (x.ah.drop i)=some m->mA (l,x.ah,(x.ah.length:Int),(i:Int),ts,b1,b2,x,z0,z1,z2,z3,z4,a0,a1,a2,a3,a4,path,acc)=some (.inr (l,ts,b1,b2,x,z0,z1,z2,z3,z4,a0,a1,a2,a3,a4,path,acc++m)))/\
 (cf (ef f l) (x.ah.drop i)=none->∃w f1 f2,mA (l,x.ah,(x.ah.length:Int),(i:Int),ts,b1,b2,x,z0,z1,z2,z3,z4,a0,a1,a2,a3,a4,path,acc)=some (.inl (false,ts,f1,f2,w,path)))
 |0,i,acc,E,D=>by
  rw[mA,ch,en (by omega),cf];grind
 |k+1,i,acc,E,D=>by
  have aC:i<x.ah.length:=by omega
  have u:=bg aC aB;have e:x.ah.drop i=x.ah.getD i aB::x.ah.drop (i+1):=by rw[du aC];exact lB aC
  have go:∀v,(∀n,cf (ef f l) (x.ah.drop (i+1))=some n->mA (l,x.ah,(x.ah.length:Int),((i+1:Nat):Int),ts,b1,b2,x,z0,z1,z2,z3,z4,a0,a1,a2,a3,a4,path,acc++[v])=some (.inr (l,ts,b1,b2,x,z0,z1,z2,z3,z4,a0,a1,a2,a3,a4,path,acc++[v]++n)))/\(cf (ef f l) (x.ah.drop (i+1))=none->∃w f1 f2,mA (l,x.ah,(x.ah.length:Int),((i+1:Nat):Int),ts,b1,b2,x,z0,z1,z2,z3,z4,a0,a1,a2,a3,a4,path,acc++[v])=some (.inl (false,ts,f1,f2,w,path))):=λv=>
   NM F af B s h k (i+1) (acc++[v]) (by omega) (by simp;omega)
  rw [mA,bA,ae (aP aC),a7,e,vM];simp only [aU,ao,ju];generalize x.ah.getD i aB = a at *;have z:∀ (v:I) (d:Option _),ef f l a = some v->d = mA (l,x.ah,(x.ah.length:Int),((i+1:Nat):Int),ts,b1,b2,x,z0,z1,z2,z3,z4,a0,a1,a2,a3,a4,path,acc++[v])->
   (∀m,xy (ef f l a) (cf (ef f l) (x.ah.drop (i+1)))=some m->d=some (.inr (l,ts,b1,b2,x,z0,z1,z2,z3,z4,a0,a1,a2,a3,a4,path,acc++m)))/\
   (xy (ef f l a) (cf (ef f l) (x.ah.drop (i+1)))=none->∃w f1 f2,d=some (.inl (false,ts,f1,f2,w,path))):=by
   intro v d c C;obtain⟨H,A⟩:=go v;rw[c,C];cases hs:cf (ef f l) (x.ah.drop (i+1))with
   |none=>exact⟨λm b=>(by cases b),λ_=>A hs⟩
   |some n=>
    refine⟨λm b=>?_,λh=>(by cases h)⟩;have:m=v::n:=(by cases b;rfl)
    grind
  rcases abk a af with⟨j,y,g,r⟩|⟨g,r⟩
  . rw[r];simp only[ao];rw[gM,ae (aP y),a7];have t:=h a u _ (bg y gn) a.ad b1 b2;have p:ef f l a=f a.aw (l.getD j gn).Data:=by unfold ef;rw[g]
    cases c:f a.aw (l.getD j gn).Data with
    |none=>
     obtain⟨w,f1,f2,G⟩:=t.2 c;rw[G,p,c];exact⟨λm b=>(by cases b),λ_=>⟨w,f1,f2,by simp[I.aV]⟩⟩
    |some v=>
     rw[t.1 v c];simp only[ao,I.aV,db];rw[bz,ae (cN),bE];grind
  . rw[r];simp only[ao];rw[bz];cases o:a.bV with
    |true=>
     rw[ae rfl];simp only[I.aV];rw[s a u o];simp only[ao,I.aV];rw[ae (cN),bE];exact z a.bB _ (by unfold ef;rw[g];simp[o]) rfl
    |false=>
     have p:ef f l a=none:=by unfold ef;rw[g];simp[o]
     rw[bz,ae (cN),zz (by simp;omega),p];simp only[ao,I.aV];have aM:dq .i64 ((path++[a.ad]).length:Int) 1=(path.length:Int):=by rw[hK (by simp<;>omega) (by simp<;>omega)];simp
     rw[aM,ae (iJ.2 (by simp;omega)),gM,a7];exact⟨λm b=>(by cases b),λ_=>⟨_,_,_,by simp;exact⟨rfl,rfl,rfl⟩⟩⟩
theorem ahn(d:x.ah.length<=1000)(c:gQ x.ah)(id:Int):∃r,hh (x,id)=some r/\r.2=(cB x.ah id).isSome:=by
 cases bw:cB x.ah id with
 |some m=>
  obtain⟨j,a,b,g⟩:=FG c d bw;grind
 |none=>
  obtain⟨r,e,f⟩:=vy (t:=x) (id:=id) (by omega);refine⟨r,e,?_⟩;rcases f with⟨j,a,b,_,_⟩|⟨_,q⟩
  . exact absurd b (nQ bw _ (bg a aB))
  grind
def fV(x:ai)(f:cS):Bool:=(cB x.ah f.ad).isSome || !f.cg
def fa(x:ai)(l:List cS):List bX:=(l.filter λf=>!(cB x.ah f.ad).isSome).map λf=>⟨f.ad,f.Data⟩
theorem Ii(g:path.length<=900)(c:x.ah.length<=1000)(b:gQ x.ah){l:List cS}(af:l.length<=90000)
 {z0 z2 z4 a0 a2 a4:Int}{z1 a1:Bool}{z3 a3:ak}{b1:ar}{b2:Int}{its:List I}:∀(k i:Nat) (acc:List bX),i+k=l.length->acc.length<=i->
 ((l.drop i).all (fV x)=true->o4 (l,(l.length:Int),(i:Int),ts,b1,b2,x,z0,z1,z2,z3,z4,a0,a1,a2,a3,a4,path,its,acc)=some (.inr (ts,b1,b2,z0,z1,z2,z3,z4,a0,a1,a2,a3,a4,path,its,acc++fa x (l.drop i))))/\
 ((l.drop i).all (fV x)=false->∃w f1 f2,o4 (l,(l.length:Int),(i:Int),ts,b1,b2,x,z0,z1,z2,z3,z4,a0,a1,a2,a3,a4,path,its,acc)=some (.inl (false,ts,f2,w,path,f1)))
 |0,i,acc,o,m=>by
  rw[o4,ch,en (by omega)];exact⟨λ_=>by simp[fa],λh=>by simp at h⟩
 |k+1,i,acc,o,m=>by
  have aC:i<l.length:=by omega
  have e:l.drop i=l.getD i gn::l.drop (i+1):=by rw[du aC];exact lB aC
  obtain⟨r,p,j⟩:=ahn c b (l.getD i gn).ad;rw[o4,bA,ae (aP aC),a7,e];simp only[aU,ao];generalize l.getD i gn=f at*;rw[p];simp only[ao];have n:(f::l.drop (i+1)).all (fV x)=(fV x f&&(l.drop (i+1)).all (fV x)):=rfl;rw[n];cases hs:(cB x.ah f.ad).isSome with
  |true=>
   have a:fV x f=true:=by unfold fV;rw[hs];rfl
   have ag:fa x (f::l.drop (i+1))=fa x (l.drop (i+1)):=by unfold fa;rw[FP (by rw[hs];simp)]
   rw[j,hs,ae rfl,a,ag,bE,na];exact Ii g c b af k (i+1) acc (by omega) (by omega)
  |false=>
   rw[j,hs,bz];cases d:f.cg with
   |true=>
    have a:fV x f=false:=by unfold fV;rw[hs,d];rfl
    rw[ae rfl,ae (cN),zz (by simp;omega),a];simp only[ao,I.aV];have aM:dq .i64 ((path++[f.ad]).length:Int) 1=(path.length:Int):=by rw[hK (by simp<;>omega) (by simp<;>omega)];simp
    rw[aM,ae (iJ.2 (by simp;omega)),gM,a7];simp_all
   |false=>
    have a:fV x f=true:=by unfold fV;rw[hs,d];rfl
    have ag:fa x (f::l.drop (i+1))=⟨f.ad,f.Data⟩::fa x (l.drop (i+1)):=by unfold fa;rw[FQ (by rw[hs];rfl)];rfl
    rw[bz,ae (cN),a,ag,bE,na];have:=Ii g c b af (z0:=z0) (z1:=z1) (z2:=z2) (z3:=z3) (z4:=z4) (a0:=a0) (a1:=a1) (a2:=a2) (a3:=a3) (a4:=a4) (b1:=b1) (b2:=b2) (its:=its) k (i+1) (acc++[⟨f.ad,f.Data⟩]) (by omega) (by simp;omega);grind
theorem aaW(H:iS ts)(dh:∀x,x∈ts->∀m,m∈x.ah->m.bV=true->jK m.bB=some m.bB){n:Nat}(ih:xn ts n)(e:x∈ts)(k5:x.Kind=5)(c9:∀m,m∈x.ah->0<=m.aw/\m.aw<ts.length)(D:p.length<=4096)(E:path.length+(n+1)=200):
 (∀l,iO p=some l->∀a,cf (ef (cX ts n) l) x.ah=some a->l.all (fV x)=true->yj (x,p,ts,b1,b2,path)=some (⟨5,false,0,[],0,[],a,fa x l⟩,true,ts,b1,b2,path))/\
 ((iO p=none\/(∃l,iO p=some l/\(cf (ef (cX ts n) l) x.ah=none\/l.all (fV x)=false)))->∃w f1 f2,yj (x,p,ts,b1,b2,path)=some (w,false,ts,f1,f2,path)):=by
 obtain⟨g,z⟩:=H.A x e (.inl k5);obtain⟨o,t,u,v⟩:=Em (p:=p) (by omega);rw[yj,t];simp only[aU,ao];by_cases h0:o.2=0
 . obtain⟨v1,y,v3,v4⟩:=u h0;rw[al (by simp[h0]),v1];have C:=H.T x e;have i:∀m,m∈x.ah->m.bV=true->jK m.bB=some m.bB:=λm b k=>dh x e m b k;have au:∀m,m∈x.ah->∀q,q∈o.1->∀step b1 b2,fK ts b1 b2 path (cX ts n m.aw q.Data) (ja (step,m.aw,q.Data,ts,b1,b2,path)):=λm b q s step b1 b2=>
    vX (by omega) (ih m.aw q.Data b1 b2 (path++[step]) (c9 m b).1 (c9 m b).2 (by have:=(y q s).1;omega) (by simp;omega))
   obtain⟨gF,c⟩:=NM (x:=x) (path:=path) (by omega) (f:=cX ts n) (l:=o.1) (by omega) (by omega) i au (z0:=0) (z1:=false) (z2:=0) (z3:=[]) (z4:=0) (a0:=x.Kind) (a1:=false) (a2:=0) (a3:=[]) (a4:=0) (b1:=b1) (b2:=b2) x.ah.length 0 [] (by omega) rfl;rw[fU]at gF c;have z0:((0:Nat):Int)=0:=rfl;rw[z0]at gF c;have B:=λits=>Ii (ts:=ts) (x:=x) (path:=path) (by omega) (by omega) g (l:=o.1) (by omega) (z0:=0) (z1:=false) (z2:=0) (z3:=[]) (z4:=0) (a0:=x.Kind) (a1:=false) (a2:=0) (a3:=[]) (a4:=0) (b1:=b1) (b2:=b2) (its:=its) o.1.length 0 [] (by omega) (dV _);rw[fU,z0]at B;constructor
   . intro l af a r j;cases af;rw[gF a r];simp only[ao,fT];rw[(B a).1 j];simp[k5]
   . intro h;rcases h with h|⟨l,af,h⟩
     . cases h
     . cases af;cases hs:cf (ef (cX ts n) o.1) x.ah with
       |none=>
        obtain⟨w,f1,f2,d⟩:=c hs;rw[d];exact⟨_,_,_,rfl⟩
       |some a=>
        rcases h with h|h
        . rw[hs]at h;cases h
        . obtain⟨w,f1,f2,d⟩:=(B a).2 h;rw[gF a hs];simp only[ao,fT];rw[d];exact⟨I.eta w,f1,f2,rfl⟩
 . rw[ae (by simp[h0]),v h0];constructor
   . intro l af;cases af
   . intro _;rw[zz (by omega)];exact⟨_,_,_,rfl⟩
end
structure jm (ts:List ai):Prop where
 S:iS ts
 V:ns ts
 W:∀x,x∈ts->∀m,m∈x.ah->m.bV=true->jK m.bB=some m.bB
theorem c8.gS(H:c8 ts):jm ts:=⟨H.V.hx H.T,H.V,λx c m a e=>abi ((H.T x c).3 m a) (by have:=H.W x c m a e;omega)⟩
section
variable {ts:List ai}
theorem jm.mem(H:jm ts)(c:x∈ts){m:aS}(a:m∈x.ah):0<=m.aw/\m.aw<ts.length:=
 H.V.U x c m.aw (by unfold fl;simp;exact .inl ⟨m,a,rfl⟩)
theorem jm.elem(H:jm ts)(c:x∈ts)(a:7<=x.Kind):0<=x.aF/\x.aF<ts.length:=
 H.V.U x c x.aF (by unfold fl;simp[a])
theorem jm.key(H:jm ts)(c:x∈ts)(a:x.Kind=8):0<=x.Key/\x.Key<ts.length:=
 H.V.U x c x.Key (by unfold fl;simp[a])
def ez:I:=⟨0,false,0,[],0,[],[],[]⟩
abbrev qv:=Int->ak->Option I
def w6(p:ak):Option I:=if p=[]then some ⟨1,false,0,[],0,[],[],[]⟩else if p=[1]then some ⟨1,true,0,[],0,[],[],[]⟩else none
def w7(x:ai)(p:ak):Option I:=match gD p with
 |some m=>if x.bF<=h' m/\h' m<=x.bH then some ⟨2,false,h' m,[],0,[],[],[]⟩else none
 |none=>none
def w8(x:ai)(p:ak):Option I:=if(p.length:Int)<=x.Max then some ⟨3,false,0,p,0,[],[],[]⟩else none
def w9(x:ai)(p:ak):Option I:=match gD p with
 |some m=>if 1<=m/\m<=1000/\((x.bh.any λy=>decide (y.ad=(m:Int)))||x.Open)=true then some ⟨4,false,0,[],(m:Int),[],[],[]⟩else none
 |none=>none
def mj(f:qv)(x:ai):ak->Option I
 |[]=>some ⟨9,false,0,[],0,[],[],[]⟩
 |c::q=>if c=1 then(f x.aF q).map λv=>⟨9,false,0,[],0,[],[v],[]⟩else none
def qn(f:qv)(x:ai)(p:ak):Option I:=match jB p with
 |some (id,q)=>(match cB x.ah id with
  |some m=>(f m.aw q).map λv=>⟨6,false,0,[],id,[],[v],[]⟩
  |none=>if x.Open then some ⟨6,false,0,[],id,[],[],[⟨id,q⟩]⟩else none)
 |none=>none
def nh(f:qv)(x:ai)(p:ak):Option I:=match ia p with
 |some l=>if(l.length:Int)<=x.Max then(cf (f x.aF) l).map λa=>⟨7,false,0,[],0,[],a,[]⟩else none
 |none=>none
def qo(f:qv)(x:ai)(p:ak):Option I:=match ia p with
 |some l=>if l.length%2 = 0/\((l.length/2:Nat):Int)<=x.Max then (match cf (f x.Key) (e6 l) with
  |some ks=>if oT ks then(cf (f x.aF) (fk l)).map λa=>⟨8,false,0,[],0,ks,a,[]⟩else none
  |none=>none)else none
 |none=>none
def ng(f:qv)(x:ai)(p:ak):Option I:=match iO p with
 |some l=>(match cf (ef f l) x.ah with
  |some a=>if l.all (fV x) then some ⟨5,false,0,[],0,[],a,fa x l⟩else none
  |none=>none)
 |none=>none
def qp(f:qv)(x:ai)(p:ak):Option I:=
 if x.Kind=1 then w6 p else if x.Kind=2 then w7 x p else if x.Kind=3 then w8 x p else if x.Kind=4 then w9 x p else if x.Kind=9 then mj f x p else if x.Kind=6 then qn f x p else if x.Kind=7 then nh f x p else if x.Kind=8 then qo f x p else ng f x p
theorem Ac(t:Int)(p:ak):cX ts 0 t p=none:=by rw[cX.eq_def]
theorem tJ(n:Nat)(t:Int)(p:ak):cX ts (n+1) t p=qp (cX ts n) (ts.getD t.toNat aJ) p:=by rfl
theorem fK.eta(h:fK ts b1 b2 path o a):
 fK ts b1 b2 path o (a>>=λr=>some (I.eta r.1,r.2.1,r.2.2.1,r.2.2.2.1,r.2.2.2.2.1,r.2.2.2.2.2)):=by
 refine⟨λv c=>?_,λaG=>?_⟩
 . rw[h.1 v c];simp[I.aV]
 . obtain⟨w,f1,f2,e⟩:=h.2 aG;exact⟨w,f1,f2,by rw[e];simp[I.aV]⟩
theorem fK.one(v:I):fK ts b1 b2 path (some v) (some (v,true,ts,b1,b2,path)):=⟨λa h=>by cases h;rfl,λh=>by cases h⟩
theorem fK.cast{c:Option I}(e:o=c)(h:fK ts b1 b2 path o a):fK ts b1 b2 path c a:=e▸h
theorem I7{l:List c3}{m:Nat}:(∃y,y∈l/\y.ad=(m:Int))↔(l.any λy=>decide (y.ad=(m:Int)))=true:=by grind
theorem abl(H:jm ts){n:Nat}(ih:xn ts n)(g:x∈ts)(k7:x.Kind=7)(s:p.length<=4096)(t:path.length+(n+1)=200):
 fK ts b1 b2 path (nh (cX ts n) x p) (C8 (x,p,ts,b1,b2,path)):=by
 obtain⟨o,j,k,m⟩:=th (p:=p) (by omega);obtain⟨aM,c⟩:=H.elem g (by omega);rw[C8,j];unfold nh;simp only[aU,ao];by_cases h0:o.2=0
 . obtain⟨v1,r,v3⟩:=k h0;rw[al (by simp[h0]),v1];dsimp only;by_cases b:(o.1.length:Int)<=x.Max
   . rw[ae b,ch];have d:∀q,q∈o.1->∀step b1 b2,fK ts b1 b2 path (cX ts n x.aF q) (ja (step,x.aF,q,ts,b1,b2,path)):=λq e step b1 b2=>
      vX (by omega) (ih x.aF q b1 b2 (path++[step]) aM c (by have:=r q e;omega) (by simp;omega))
     obtain⟨gF,a⟩:=NI (x:=x) (l:=o.1) (by omega) d (z0:=0) (z1:=false) (z2:=0) (z3:=[]) (z4:=0) (a0:=x.Kind) (a1:=false) (a2:=0) (a3:=[]) (a4:=0) (b1:=b1) (b2:=b2) o.1.length 0 [] (by omega) rfl;rw[fU]at gF a;have z0:((0:Nat):Int)=0:=rfl;rw[z0]at gF a;cases hs:cf (cX ts n x.aF) o.1 with
     |none=>
      obtain⟨w,f1,f2,f⟩:=a hs;rw[f];exact⟨λv h=>by simp at h,λ_=>⟨_,_,_,rfl⟩⟩
     |some i=>
      rw[gF i hs];exact⟨λu h=>by grind,λh=>by simp at h⟩
   . rw[al b,bA];exact jL (by omega) _ _ _
 . rw[ae (by simp[h0]),m h0];exact jL (by omega) _ _ _
theorem NW(H:jm ts):∀n,n<=200->xn ts n
 |0,_=>λt p b1 b2 path t0 t1 b d=>by
  rw[pc,bA,Ac];exact jL (by omega) _ _ _
 |n+1,aG=>λt p b1 b2 path t0 t1 b d=>by
  have ih:=NW H n (by omega);obtain⟨j,rfl⟩:=B1 t0;have B:j<ts.length:=by omega
  rw[pc,ch,ae (aP B),tJ,a7];have a:=bg B aJ;generalize ts.getD j aJ=x at*;obtain⟨Y,Z⟩:=H.S.K x a;have O:x.bh.length<9223372036854775807:=dB (ij (H.S.T x a).1);unfold qp;simp only[aU,ao];obtain⟨u,D,E,F⟩:=acK p;by_cases k1:x.Kind=1
  . rw[ae k1,ae (show decide (x.Kind=1)=true by simpa using k1)];unfold w6;by_cases h0:p=[]
    . rw[ae h0,al (by simp[h0]),k1,h0];exact .one _
    . by_cases h1:p=[1]
      . rw[al h0,ae h1,al (by simp[h1]),k1,h1];exact .one _
      . rw[al h0,al h1,ae (by simp[h0,h1])];exact jL (by omega) _ _ _
  rw[al k1,al (show ¬decide (x.Kind=1)=true by simpa using k1)];by_cases k2:x.Kind=2
  . rw[ae k2,ae (show decide (x.Kind=2)=true by simpa using k2),D];unfold w7;simp only[ao];by_cases h0:u.2=0
    . obtain⟨m,f,r⟩:=E h0;rw[f,r,adN (DX f),al (by simp[h0])];simp only[ao];by_cases ag:x.bF<=h' m/\h' m<=x.bH
      . rw[ae ag,ch,k2];exact .one _
      . rw[al ag,bA];exact jL (by omega) _ _ _
    . rw[F h0,ae (by simp[h0])];exact jL (by omega) _ _ _
  rw[al k2,al (show ¬decide (x.Kind=2)=true by simpa using k2)];by_cases k3:x.Kind=3
  . rw[ae k3,ae (show decide (x.Kind=3)=true by simpa using k3)];unfold w8;by_cases ag:(p.length:Int)<=x.Max
    . rw[ae ag,ch,k3];exact .one _
    . rw[al ag,bA];exact jL (by omega) _ _ _
  rw[al k3,al (show ¬decide (x.Kind=3)=true by simpa using k3)];by_cases k4:x.Kind=4
  . rw[ae k4,ae (show decide (x.Kind=4)=true by simpa using k4),D];unfold w9;simp only[ao];by_cases h0:u.2=0
    . obtain⟨m,f,r⟩:=E h0;rw[f,r];dsimp only;by_cases ag:1<=m/\m<=1000
      . obtain⟨q,U,_,V⟩:=q9 (t:=x) (m:Int) O;have e:bU .i64 (m:Int)=(m:Int):=jD;rw[al (show ¬(bif bif !decide (u.2=0)then true else decide ((m:Int)<1)then true else decide (1000<(m:Int)))=true by simp[h0];omega),e,U];simp only[ao];have N:q.2=(x.bh.any λy=>decide (y.ad=(m:Int))):=by
         have:=(Dn V).trans I7;grind
        rw[N,k4];by_cases z:((x.bh.any λy=>decide (y.ad=(m:Int)))||x.Open)=true
        . rw[ae (show 1<=m/\m<=1000/\((x.bh.any λy=>decide (y.ad=(m:Int)))||x.Open)=true from⟨ag.1,ag.2,z⟩),al]
          . exact .one _
          grind
        . rw[al (show ¬(1<=m/\m<=1000/\((x.bh.any λy=>decide (y.ad=(m:Int)))||x.Open)=true)fromλh=>z h.2.2),ae]
          . exact jL (by omega) _ _ _
          grind
      . rw[al (show ¬(1<=m/\m<=1000/\((x.bh.any λy=>decide (y.ad=(m:Int)))||x.Open)=true)fromλh=>ag ⟨h.1,h.2.1⟩),ae (by simp[h0];omega)];exact jL (by omega) _ _ _
    . rw[F h0,ae (by simp[h0])];exact jL (by omega) _ _ _
  rw[al k4,al (show ¬decide (x.Kind=4)=true by simpa using k4)];by_cases k9:x.Kind=9
  . rw[ae k9,ae (show decide (x.Kind=9)=true by simpa using k9)];obtain⟨aM,L⟩:=H.elem a (by omega);cases p with
    |nil=>
     rw[gM,mj,k9];exact .one _
    |cons c q=>
     have af:(c::q).length=q.length+1:=rfl;have Q:aH 0 (c::q).length=true:=aP (k:=0) (by simp);have b0:fw (c::q) 0=(c.toNat:Int):=rfl;have r6:dY 1 ((c::q).length:Int) (c::q).length=true:=iJ.2 (by simp<;>omega);have J:ej (c::q) 1 ((c::q).length:Int)=q:=by
      unfold ej;simp
     rw[bz,ae Q,b0,mj];by_cases i:c=1
     . subst i;rw[ae rfl,bz,ae r6,J];have A:=vX (step:=0) (path:=path) (by omega) (ih x.aF q b1 b2 (path++[0]) aM L (by simp at b;omega) (by simp;omega));cases C:cX ts n x.aF q with
       |none=>
        obtain⟨w,f1,f2,P⟩:=A.2 C;rw[P];exact⟨λv h=>by simp at h,λ_=>⟨_,_,_,rfl⟩⟩
       |some v=>
        rw[A.1 v C]
        exact⟨λX h=>by
         have:X=⟨9,false,0,[],0,[],[v],[]⟩:=(by simpa using h.symm);rw[this]
         simp[I.aV,k9],λh=>by simp at h⟩
     . have M:¬((c.toNat:Int)=1):=λh=>i (UInt8.toNat.inj (by show c.toNat=1;omega));rw[al i,ae (by simpa using M)];exact jL (by omega) _ _ _
  rw[al k9,al (show ¬decide (x.Kind=9)=true by simpa using k9)];by_cases k6:x.Kind=6
  . rw[ae k6,ae (show decide (x.Kind=6)=true by simpa using k6)];refine fK.eta (fK.cast ?_ (abj H.S ih a k6 (λm o=>H.mem a o) b d));rfl
  rw[al k6,al (show ¬decide (x.Kind=6)=true by simpa using k6)];by_cases k7:x.Kind=7
  . rw[ae k7,ae (show decide (x.Kind=7)=true by simpa using k7)];exact fK.eta (abl H ih a k7 b d)
  rw[al k7,al (show ¬decide (x.Kind=7)=true by simpa using k7)];by_cases k8:x.Kind=8
  . rw[ae k8,ae (show decide (x.Kind=8)=true by simpa using k8)];refine fK.eta (fK.cast ?_ (aec ih k8 (H.key a k8) (H.elem a (by omega)) b d));rfl
  rw[al k8,al (show ¬decide (x.Kind=8)=true by simpa using k8)];have k5:x.Kind=5:=by omega
  obtain⟨G,g⟩:=aaW H.S H.W ih a k5 (λm o=>H.mem a o) b (b1:=b1) (b2:=b2) d;refine fK.eta ?_;unfold ng;cases af:iO p with
  |none=>exact⟨λv h=>(by cases h),λ_=>g (.inl af)⟩
  |some l=>
   dsimp only;cases hs:cf (ef (cX ts n) l) x.ah with
   |none=>exact⟨λv h=>(by cases h),λ_=>g (.inr ⟨l,af,.inl hs⟩)⟩
   |some R=>
    dsimp only;cases s:l.all (fV x)with
    |true=>exact⟨λv h=>(by cases h;exact G l af R hs s),λh=>(by cases h)⟩
    |false=>exact⟨λv h=>(by cases h),λ_=>g (.inr ⟨l,af,.inr s⟩)⟩
end
def fH(o:Option I)(r:Option cV):Prop:=(∀v,o=some v->∃F,r=some ⟨v,F,true⟩)/\(o=none->∃F,r=some ⟨ez,F,false⟩)
theorem zI(b:path.length<=1000)(a:Int):hg (path,a)=some ⟨ez,⟨path,a⟩,false⟩:=by rw[hg,ae (cN),fT];rfl
theorem nc(a:path.length<=1000)(step:Int):lU (path,step)=some (path++[step]):=by
 rw[lU,ae (cN)];simp only[aU,ao,fT];rw[ae (cN)]
theorem jv(a:path.length<=1000)(b:Int):fH none (hg (path,b)>>=λr=>some (⟨I.eta r.Value,r.dR,r.ck⟩:cV)):=by
 rw[zI a];exact⟨λv h=>(by cases h),λ_=>⟨_,rfl⟩⟩
theorem fH.eta{o:Option I}{a:Option cV}(h:fH o a):fH o (a>>=λr=>some (⟨I.eta r.Value,r.dR,r.ck⟩:cV)):=by
 refine⟨λv c=>?_,λaG=>?_⟩
 . obtain⟨F,bw⟩:=h.1 v c;exact⟨F,by rw[bw];simp[I.aV]⟩
 . obtain⟨F,bw⟩:=h.2 aG;exact⟨F,by rw[bw];rfl⟩
theorem uG(v:I):nG v=some ⟨v,⟨[],0⟩,true⟩:=by rw[nG,I.aV]
theorem fH.one(v:I):fH (some v) (nG v>>=λr=>some (⟨I.eta r.Value,r.dR,r.ck⟩:cV)):=by
 rw[uG];exact⟨λa h=>(by cases h;exact⟨_,by simp[I.aV];rfl⟩),λh=>(by cases h)⟩
section
variable {ts:List ai}
def lM(ts:List ai)(o:Option I)(L:Int)(path:ar)(t:Int)(q:ak)(step:Int):Prop:=
 fH o (lU (path,step)>>=λr=>jJ ((⟨ts⟩:aT),t,q,aN .i64 L 1,r))
theorem lM.yes{step:Int}(h:lM ts o L path t q step)(a:path.length<=1000)(c:o=some v):∃F,jJ ((⟨ts⟩:aT),t,q,aN .i64 L 1,path++[step])=some ⟨v,F,true⟩:=by
 unfold lM at h;rw[nc a]at h;exact h.1 v c
theorem lM.no{step:Int}(h:lM ts o L path t q step)(a:path.length<=1000)(c:o=none):∃F,jJ ((⟨ts⟩:aT),t,q,aN .i64 L 1,path++[step])=some ⟨ez,F,false⟩:=by
 unfold lM at h;rw[nc a]at h;exact h.2 c
theorem SX(n:path.length<=900){f:ak->Option I}{l:List ak}(af:l.length<=90000)(h:∀q,q∈l->∀step,lM ts (f q) L path x.aF q step)
 {z0 z2 z4 z5 z7 z9 z11:Int}{z1 z6 z8:Bool}{z3 z10:ak}:∀(k i:Nat) (acc:List I),i+k=l.length->acc.length=i->
 (∀m,cf f (l.drop i)=some m->sV (L,path,l,(i:Int),ts,x,z0,z1,z2,z3,z4,z5,z6,z7,z8,z9,z10,z11,acc)=some (.inr (z0,z1,z2,z3,z4,z5,z6,z7,z8,z9,z10,z11,acc++m)))/\
 (cf f (l.drop i)=none->∃F,sV (L,path,l,(i:Int),ts,x,z0,z1,z2,z3,z4,z5,z6,z7,z8,z9,z10,z11,acc)=some (.inl ⟨ez,F,false⟩))
 |0,i,acc,j,g=>by
  rw[sV,ch,en (by omega),cf];grind
 |k+1,i,acc,j,g=>by
  have aC:i<l.length:=by omega
  have c:=h _ (bg aC []) (i:Int);have e:l.drop i=l.getD i []::l.drop (i+1):=by rw[du aC];exact lB aC
  rw[sV,bA,ae (aP aC),a7,e,vM,nc (by omega)];simp only[aU,ao];cases d:f (l.getD i [])with
  |none=>
   obtain⟨F,b⟩:=c.no (by omega) d;rw[b];exact⟨λm a=>(by cases a),λ_=>⟨F,by simp[I.aV]⟩⟩
  |some v=>
   obtain⟨F,b⟩:=c.yes (by omega) d;rw[b];simp only[ao,I.aV,db];rw[bz,ae (cN),bE];obtain⟨r,o⟩:=SX n af h (z0:=z0) (z1:=z1) (z2:=z2) (z3:=z3) (z4:=z4) (z5:=z5) (z6:=z6) (z7:=z7) (z8:=z8) (z9:=z9) (z10:=z10) (z11:=z11) k (i+1) (acc++[v]) (by omega) (by simp;omega);cases hs:cf f (l.drop (i+1))with
   |none=>exact⟨λm a=>(by cases a),λ_=>o hs⟩
   |some p=>
    refine⟨λm a=>?_,λh=>(by cases h)⟩;have:m=v::p:=(by cases a;rfl)
    grind
theorem BS{i:Nat}(h:i<1000000:=by omega):gB .i64 2 (i:Int)=((2*i:Nat):Int):=by
 unfold gB;have e:(2:Int)*(i:Int)=((2*i:Nat):Int):=by omega
 rw[e];exact jD
theorem SV(i:path.length<=900){f:ak->Option I}{l:List ak}(af:l.length<=90000)(h:∀q,q∈l->∀step,lM ts (f q) L path x.Key q step)
 {z0 z2 z4 z5 z7 z9 z11:Int}{z1 z6 z8:Bool}{z3 z10:ak}:∀(k j:Nat) (acc:List I),2*(j+k)=l.length->acc.length=j->
 (∀m,cf f (e6 (l.drop (2*j)))=some m->tc (L,path,l,(j:Int),ts,x,z0,z1,z2,z3,z4,z5,z6,z7,z8,z9,z10,z11,acc)=some (.inr (L,path,l,ts,x,z0,z1,z2,z3,z4,z5,z6,z7,z8,z9,z10,z11,acc++m)))/\
 (cf f (e6 (l.drop (2*j)))=none->∃F,tc (L,path,l,(j:Int),ts,x,z0,z1,z2,z3,z4,z5,z6,z7,z8,z9,z10,z11,acc)=some (.inl ⟨ez,F,false⟩))
 |0,j,acc,g,e=>by
  rw[tc,BS,ch,en (by omega),show e6 ([]:List ak)=[]from rfl,cf];grind
 |k+1,j,acc,g,e=>by
  have aC:2*j<l.length:=by omega
  have c:=h _ (bg aC []) (j:Int);rw[tc,BS,bA];simp only[aU,ao];rw[ae (aP aC),a7,LG (by omega) [],vM,nc (by omega)];simp only[ao];cases d:f (l.getD (2*j) [])with
  |none=>
   obtain⟨F,b⟩:=c.no (by omega) d;rw[b];exact⟨λm a=>(by cases a),λ_=>⟨F,by simp[I.aV]⟩⟩
  |some v=>
   obtain⟨F,b⟩:=c.yes (by omega) d;rw[b];simp only[ao,I.aV,db];rw[bz,ae (cN),bE];obtain⟨p,n⟩:=SV i af h (z0:=z0) (z1:=z1) (z2:=z2) (z3:=z3) (z4:=z4) (z5:=z5) (z6:=z6) (z7:=z7) (z8:=z8) (z9:=z9) (z10:=z10) (z11:=z11) k (j+1) (acc++[v]) (by omega) (by simp;omega);cases hs:cf f (e6 (l.drop (2*(j+1))))with
   |none=>exact⟨λm a=>(by cases a),λ_=>n hs⟩
   |some o=>
    refine⟨λm a=>?_,λh=>(by cases h)⟩;have:m=v::o:=(by cases a;rfl)
    grind
theorem PI(i:path.length<=900){f:ak->Option I}{l:List ak}(af:l.length<=90000)(h:∀q,q∈l->∀step,lM ts (f q) L path x.aF q step)
 {z0 z2 z4 z5 z7 z9 z11:Int}{z1 z6 z8:Bool}{z3 z10:ak}{ks:List I}:∀(k j:Nat) (acc:List I),2*(j+k)=l.length->acc.length=j->
 (∀m,cf f (fk (l.drop (2*j)))=some m->td (L,path,l,(j:Int),ts,x,z0,z1,z2,z3,z4,z5,z6,z7,z8,z9,z10,z11,ks,acc)=some (.inr (z0,z1,z2,z3,z4,z5,z6,z7,z8,z9,z10,z11,ks,acc++m)))/\
 (cf f (fk (l.drop (2*j)))=none->∃F,td (L,path,l,(j:Int),ts,x,z0,z1,z2,z3,z4,z5,z6,z7,z8,z9,z10,z11,ks,acc)=some (.inl ⟨ez,F,false⟩))
 |0,j,acc,g,e=>by
  rw[td,BS,ch,en (by omega),show fk ([]:List ak)=[]from rfl,cf];grind
 |k+1,j,acc,g,e=>by
  have aC:2*j+1<l.length:=by omega
  have c:=h _ (bg aC []) (j:Int);have aM:aN .i64 ((2*j:Nat):Int) 1=((2*j+1:Nat):Int):=bE;rw[td,BS,bA,aM];simp only[aU,ao];rw[ae (aP aC),a7,ML aC [],vM,nc (by omega)];simp only[ao];cases d:f (l.getD (2*j+1) [])with
  |none=>
   obtain⟨F,b⟩:=c.no (by omega) d;rw[b];exact⟨λm a=>(by cases a),λ_=>⟨F,by simp[I.aV]⟩⟩
  |some v=>
   obtain⟨F,b⟩:=c.yes (by omega) d;rw[b];simp only[ao,I.aV,db];rw[bz,ae (cN),bE];obtain⟨p,n⟩:=PI i af h (z0:=z0) (z1:=z1) (z2:=z2) (z3:=z3) (z4:=z4) (z5:=z5) (z6:=z6) (z7:=z7) (z8:=z8) (z9:=z9) (z10:=z10) (z11:=z11) (ks:=ks) k (j+1) (acc++[v]) (by omega) (by simp;omega);cases hs:cf f (fk (l.drop (2*(j+1))))with
   |none=>exact⟨λm a=>(by cases a),λ_=>n hs⟩
   |some o=>
    refine⟨λm a=>?_,λh=>(by cases h)⟩;have:m=v::o:=(by cases a;rfl)
    grind
theorem SM{x:ai}(c:path.length<=1000){l:List ak}(a:∀y,y∈ks->cw y.bd)(af:ks.length<=90000){L:Int}
 {z0 z2 z4 z5 z7 z9 z11:Int}{z1 z6 z8:Bool}{z3 z10:ak}:∀(k i:Nat),ks.length-(i+1)=k->
 ((∀m,i<=m->m+1<ks.length->ha (ks.getD m av) (ks.getD (m+1) av)<0)/\rl (L,path,l,((i+1:Nat):Int),ts,x,z0,z1,z2,z3,z4,z5,z6,z7,z8,z9,z10,z11,ks)=some (.inr (L,path,l,ts,x,z0,z1,z2,z3,z4,z5,z6,z7,z8,z9,z10,z11,ks)))\/
 ((∃m,m+1<ks.length/\¬ha (ks.getD m av) (ks.getD (m+1) av)<0)/\∃F,rl (L,path,l,((i+1:Nat):Int),ts,x,z0,z1,z2,z3,z4,z5,z6,z7,z8,z9,z10,z11,ks)=some (.inl ⟨ez,F,false⟩))
 |0,i,d=>by
  rw[rl,ch];grind
 |k+1,i,d=>by
  have aC:i+1<ks.length:=by omega
  have aM:dq .i64 ((i+1:Nat):Int) 1=(i:Int):=by rw[hK];omega
  rw[rl,bA,aM];simp only[aU,ao];rw[ae (aP (by omega)),bA,ae (aP aC),bA,a7,a7];simp only[I.aV];rw[vV (a _ (bg (by omega) av)) (a _ (bg aC av))];simp only[ao];by_cases b:ha (ks.getD i av) (ks.getD (i+1) av)<0
  . rw[al (by simpa using b),bE];rcases SM c a af (x:=x) (l:=l) (L:=L) (z0:=z0) (z1:=z1) (z2:=z2) (z3:=z3) (z4:=z4) (z5:=z5) (z6:=z6) (z7:=z7) (z8:=z8) (z9:=z9) (z10:=z10) (z11:=z11) k (i+1) (by omega)with⟨h1,e⟩|h
    . grind
    grind
  . rw[ae (by simpa using b),zI c];grind
theorem adO{l:List cS}(id:Int)(af:l.length<=90000):(∃j,j<l.length/\l.find? (λf=>decide (f.ad=id))=some (l.getD j gn)/\ze (l,id)=some (j:Int))\/
 (l.find? (λf=>decide (f.ad=id))=none/\ze (l,id)=some (-1)):=by
 have h:=qM (λi=>pj (l,id,(i:Int))) l.length (λi=>decide ((l.getD i gn).ad=id)) (λi=>.inl (i:Int)) (.inr ())
  (λi a=>by
   rw[pj,bA,ae (aP a),bE]
   grind)
  (by rw[pj,bz])
 have cZ:pj (l,id,((0:Nat):Int))=pj (l,id,0):=rfl;simp only[cZ]at h;rw[ze];rcases h with⟨j,h1,c,d,b⟩|⟨h1,b⟩
 . left;refine⟨j,h1,?_,by rw[b];rfl⟩;rw[du h1]at c⊢;rw[Ch];refine⟨c,j,h1,rfl,λk g=>?_⟩;have:=d k g;rw[du (by omega)]at this;simpa using this
 . right;refine⟨?_,by rw[b];rfl⟩;rw[yB];intro f e;obtain⟨i,a,rfl⟩:=e3 e;have:=h1 i a;rw[du a]at this;simpa using this
theorem SZ {x:ai}{path:ar}(E:path.length<=900){f:Int->ak->Option I}{l:List cS}(af:l.length<=90000)(z:x.ah.length<=16){L:Int}
 (h:∀m,m∈x.ah->∀q,q∈l->∀step,lM ts (f m.aw q.Data) L path m.aw q.Data step)
 {z0 z2 z4 z5 z7 z9 z11:Int}{z1 z6 z8:Bool}{z3 z10:ak}:∀(k i:Nat) (acc:List I),i+k=x.ah.length->acc.length=i->
 (∀m,cf (ef f l) (x.ah.drop i)=some m->mB (L,path,l,(i:Int),ts,x,z0,z1,z2,z3,z4,z5,z6,z7,z8,z9,z10,z11,acc)=some (.inr (path,l,x,z0,z1,z2,z3,z4,z5,z6,z7,z8,z9,z10,z11,acc++m)))/\
 (cf (ef f l) (x.ah.drop i)=none->∃F,mB (L,path,l,(i:Int),ts,x,z0,z1,z2,z3,z4,z5,z6,z7,z8,z9,z10,z11,acc)=some (.inl ⟨ez,F,false⟩))
 |0,i,acc,C,B=>by
  rw[mB,ch,en (by omega),cf];grind
 |k+1,i,acc,C,B=>by
  have aC:i<x.ah.length:=by omega
  have D:=bg aC aB;have e:x.ah.drop i=x.ah.getD i aB::x.ah.drop (i+1):=by rw[du aC];exact lB aC
  have go:∀v,(∀n,cf (ef f l) (x.ah.drop (i+1))=some n->mB (L,path,l,((i+1:Nat):Int),ts,x,z0,z1,z2,z3,z4,z5,z6,z7,z8,z9,z10,z11,acc++[v])=some (.inr (path,l,x,z0,z1,z2,z3,z4,z5,z6,z7,z8,z9,z10,z11,acc++[v]++n)))/\(cf (ef f l) (x.ah.drop (i+1))=none->∃F,mB (L,path,l,((i+1:Nat):Int),ts,x,z0,z1,z2,z3,z4,z5,z6,z7,z8,z9,z10,z11,acc++[v])=some (.inl ⟨ez,F,false⟩)):=λv=>
   SZ E af z h k (i+1) (acc++[v]) (by omega) (by simp;omega)
  rw [mB,bA,ae (aP aC),a7,e,vM];simp only [aU,ao];generalize x.ah.getD i aB = a at *;have w:∀ (v:I) (d:Option _),ef f l a = some v->d = mB (L,path,l,((i+1:Nat):Int),ts,x,z0,z1,z2,z3,z4,z5,z6,z7,z8,z9,z10,z11,acc++[v])->
   (∀m,xy (ef f l a) (cf (ef f l) (x.ah.drop (i+1)))=some m->d=some (.inr (path,l,x,z0,z1,z2,z3,z4,z5,z6,z7,z8,z9,z10,z11,acc++m)))/\
   (xy (ef f l a) (cf (ef f l) (x.ah.drop (i+1)))=none->∃F,d=some (.inl ⟨ez,F,false⟩)):=by
   intro v d c A;obtain⟨G,y⟩:=go v;rw[c,A];cases hs:cf (ef f l) (x.ah.drop (i+1))with
   |none=>exact⟨λm b=>(by cases b),λ_=>y hs⟩
   |some n=>
    refine⟨λm b=>?_,λh=>(by cases h)⟩;have:m=v::n:=(by cases b;rfl)
    grind
  rcases adO a.ad af with⟨j,u,g,r⟩|⟨g,r⟩
  . rw[r];simp only[ao];rw[bz,ae (aP u),a7,nc (by omega)];have s:=h a D _ (bg u gn) a.ad;have o:ef f l a=f a.aw (l.getD j gn).Data:=by unfold ef;rw[g]
    simp only[ao];cases c:f a.aw (l.getD j gn).Data with
    |none=>
     obtain⟨F,p⟩:=s.no (by omega) c;rw[p,o,c];exact⟨λm b=>(by cases b),λ_=>⟨F,by simp[I.aV]⟩⟩
    |some v=>
     obtain⟨F,p⟩:=s.yes (by omega) c;rw[p];simp only[ao,I.aV,db];rw[bz,ae (cN),bE];grind
  . rw[r];simp only[ao];rw[gM];cases t:a.bV with
    |true=>
     rw[bz];simp only[I.aV];rw[ae (cN),bE];exact w a.bB _ (by unfold ef;rw[g];simp[t]) rfl
    |false=>
     have o:ef f l a=none:=by unfold ef;rw[g];simp[t]
     rw[gM,nc (by omega),o];simp only[ao];rw[zI (by simp;omega)];simp only[ao,I.aV];exact⟨λm b=>(by cases b),λ_=>⟨_,rfl⟩⟩
theorem ahH(f:x.ah.length<=1000)(id:Int):∃r,hE (x,id)=some r/\r.2=(cB x.ah id).isSome:=by
 obtain⟨r,e,c⟩:=CM (t:=x) (id:=id) (by omega);refine⟨r,e,?_⟩;cases bw:cB x.ah id with
 |some m=>
  obtain⟨d,k⟩:=j' bw;rcases c with⟨j,a,b,_,rfl⟩|⟨q,_⟩
  . rfl
  . obtain⟨i,g,rfl⟩:=e3 d;grind
 |none=>
  rcases c with⟨j,a,b,_,_⟩|⟨_,q⟩
  . exact absurd b (nQ bw _ (bg a aB))
  grind
theorem Gf {x:ai}{path:ar}(d:path.length<=900)(b:x.ah.length<=1000){l:List cS}(af:l.length<=90000)
 {z0 z2 z4 z5 z7 z9 z11:Int}{z1 z6 z8:Bool}{z3 z10:ak}{its:List I}:∀(k i:Nat) (acc:List bX),i+k=l.length->acc.length<=i->
 ((l.drop i).all (fV x)=true->pe (path,l,(i:Int),x,z0,z1,z2,z3,z4,z5,z6,z7,z8,z9,z10,z11,its,acc)=some (.inr (z0,z1,z2,z3,z4,z5,z6,z7,z8,z9,z10,z11,its,acc++fa x (l.drop i))))/\
 ((l.drop i).all (fV x)=false->∃F,pe (path,l,(i:Int),x,z0,z1,z2,z3,z4,z5,z6,z7,z8,z9,z10,z11,its,acc)=some (.inl ⟨ez,F,false⟩))
 |0,i,acc,n,j=>by
  rw[pe,ch,en (by omega)];exact⟨λ_=>by simp[fa],λh=>by simp at h⟩
 |k+1,i,acc,n,j=>by
  have aC:i<l.length:=by omega
  have e:l.drop i=l.getD i gn::l.drop (i+1):=by rw[du aC];exact lB aC
  obtain⟨r,o,g⟩:=ahH b (l.getD i gn).ad;rw[pe,bA,ae (aP aC),a7,e];simp only[aU,ao];generalize l.getD i gn=f at*;rw[o];simp only[ao];have m:(f::l.drop (i+1)).all (fV x)=(fV x f&&(l.drop (i+1)).all (fV x)):=rfl;rw[m];cases hs:(cB x.ah f.ad).isSome with
  |true=>
   have a:fV x f=true:=by unfold fV;rw[hs];rfl
   have ag:fa x (f::l.drop (i+1))=fa x (l.drop (i+1)):=by unfold fa;rw[FP (by rw[hs];simp)]
   rw[g,hs,ae rfl,a,ag,bE,na];exact Gf d b af k (i+1) acc (by omega) (by omega)
  |false=>
   rw[g,hs,bz,ae (aP aC)];cases c:f.cg with
   |true=>
    have a:fV x f=false:=by unfold fV;rw[hs,c];rfl
    rw[ae rfl,ae (aP aC),nc (by omega),a];simp only[ao];rw[zI (by simp;omega)];exact⟨λh=>(by cases h),λ_=>⟨_,rfl⟩⟩
   |false=>
    have a:fV x f=true:=by unfold fV;rw[hs,c];rfl
    have ag:fa x (f::l.drop (i+1))=⟨f.ad,f.Data⟩::fa x (l.drop (i+1)):=by unfold fa;rw[FQ (by rw[hs];rfl)];rfl
    rw[bz,ae (aP aC),ae (aP aC),ae (cN),a,ag,bE,na];have:=Gf d b af (z0:=z0) (z1:=z1) (z2:=z2) (z3:=z3) (z4:=z4) (z5:=z5) (z6:=z6) (z7:=z7) (z8:=z8) (z9:=z9) (z10:=z10) (z11:=z11) (its:=its) k (i+1) (acc++[⟨f.ad,f.Data⟩]) (by omega) (by simp;omega);grind
def oM(ts:List ai)(n:Nat):Prop:=∀(t:Int) (p:ak) (path:ar),0<=t->t<ts.length->p.length<=4096->path.length+n<=200->
 fH (cX ts n t p) (jJ ((⟨ts⟩:aT),t,p,((201-n:Nat):Int),path))
theorem oM.part{n:Nat}(ih:oM ts n)(aG:n+1<=200)(t0:0<=t/\t<ts.length)(a:q.length<=4096)(c:path.length+(n+1)<=200)(step:Int):
 lM ts (cX ts n t q) ((201-(n+1):Nat):Int) path t q step:=by
 unfold lM;rw[nc (by omega)];have e:aN .i64 ((201-(n+1):Nat):Int) 1=((201-n:Nat):Int):=by rw[bE];omega
 rw[e];exact ih t q (path++[step]) t0.1 t0.2 a (by simp;omega)
theorem fH.cast{c:Option I}{a:Option cV}(e:o=c)(h:fH o a):fH c a:=e▸h
theorem fH.rT{a:Option cV}(h:a=some ⟨ez,F,false⟩):fH none a:=⟨λv h=>(by cases h),λ_=>⟨F,h⟩⟩
theorem fH.wZ{a:Option cV}(h:a=some ⟨v,F,true⟩):fH (some v) a:=⟨λe c=>(by cases c;exact⟨F,h⟩),λh=>(by cases h)⟩
theorem aeB(H:jm ts){n:Nat}(aG:n+1<=200)(ih:oM ts n)(k:x∈ts)(k6:x.Kind=6)(J:p.length<=4096)(w:path.length+(n+1)<=200):
 fH (qn (cX ts n) x p) (Dc ((⟨ts⟩:aT),x,p,((201-(n+1):Nat):Int),path)):=by
 obtain⟨o,_,z,B,C⟩:=acg p;rw[Dc,z];simp only[aU,ao];unfold qn;by_cases h0:o.2.2=0
 . obtain⟨v1,K,v3⟩:=B h0;obtain⟨u,E⟩:=H.S.A x k (.inr k6);rw[al (by simp[h0]),v1];dsimp only;obtain⟨r,D,s⟩:=CM (t:=x) (id:=o.1) (by omega);rw[D];simp only[ao];cases bw:cB x.ah o.1 with
   |some m=>
    dsimp only;obtain⟨d,l⟩:=j' bw;rcases s with⟨j,a,c,_,rfl⟩|⟨q,_⟩
    . have y:x.ah.getD j aB=m:=qR u (bg a aB) d (by rw[c,l]);rw[bz,bz,ae (aP a),a7,y];have e:=ih.part aG (t:=m.aw) (q:=o.2.1) (path:=path) (H.mem k d) (by omega) w o.1;rw[nc (by omega)];simp only[ao];cases g:cX ts n m.aw o.2.1 with
      |none=>
       obtain⟨F,b⟩:=e.no (by omega) g;rw[b];exact .rT rfl
      |some v=>
       obtain⟨F,b⟩:=e.yes (by omega) g;rw[b];simp only[ao];rw[bz,uG];refine fH.cast rfl (fH.wZ (F:=⟨[],0⟩) ?_);simp[I.aV,k6]
    . obtain⟨i,f,rfl⟩:=e3 d;exact absurd l (by have:=q i f;rwa [du f]at this)
   |none=>
    dsimp only;have ag:r=(0,false):=by
     rcases s with⟨j,a,c,_,_⟩|⟨_,q⟩
     . exact absurd c (nQ bw _ (bg a aB))
     . exact q
    rw[ag];cases G:x.Open with
    |false=>
     rw[bz,gM];exact jv (by omega) _
    |true=>
     rw[gM,bz,gM,uG,k6];refine fH.wZ (F:=⟨[],0⟩) ?_;simp[I.aV]
 . rw[ae (by simp[h0]),C h0];exact jv (by omega) _
theorem aeC(H:jm ts){n:Nat}(aG:n+1<=200)(ih:oM ts n)(g:x∈ts)(k7:x.Kind=7)(s:p.length<=4096)(c:path.length+(n+1)<=200):
 fH (nh (cX ts n) x p) (CG ((⟨ts⟩:aT),x,p,((201-(n+1):Nat):Int),path)):=by
 obtain⟨o,_,j,k,m⟩:=Kl (p:=p) (by omega);rw[CG,j];unfold nh;simp only[aU,ao];by_cases h0:o.2=0
 . obtain⟨v1,r,v3⟩:=k h0;rw[v1];dsimp only;by_cases b:(o.1.length:Int)<=x.Max
   . rw[ae b,al (by simp[h0]),ch];obtain⟨gF,a⟩:=SX (ts:=ts) (x:=x) (path:=path) (by omega) (f:=cX ts n x.aF) (l:=o.1) (by omega) (L:=((201-(n+1):Nat):Int)) (λq d step=>ih.part aG (H.elem g (by omega)) (by have:=r q d;omega) c step)
      (z0:=0) (z1:=false) (z2:=0) (z3:=[]) (z4:=0) (z5:=0) (z6:=false) (z7:=x.Kind) (z8:=false) (z9:=0) (z10:=[]) (z11:=0) o.1.length 0 [] (by omega) rfl
     rw[fU]at gF a;have z0:((0:Nat):Int)=0:=rfl;rw[z0]at gF a;cases hs:cf (cX ts n x.aF) o.1 with
     |none=>
      obtain⟨F,e⟩:=a hs;rw[e];exact .rT rfl
     |some i=>
      rw[gF i hs];simp only[ao];rw[uG];refine fH.cast rfl (fH.wZ (F:=⟨[],0⟩) ?_);simp[I.aV,k7]
   . rw[al b,al (by simp[h0]),bA];exact jv (by omega) _
 . rw[ae (by simp[h0]),m h0];exact jv (by omega) _
theorem ahC(H:jm ts){n:Nat}(aG:n+1<=200)(ih:oM ts n)(u:x∈ts)(k8:x.Kind=8)(O:p.length<=4096)(s:path.length+(n+1)<=200):
 fH (qo (cX ts n) x p) (Cv ((⟨ts⟩:aT),x,p,((201-(n+1):Nat):Int),path)):=by
 obtain⟨o,_,G,J,K⟩:=Kl (p:=p) (by omega);rw[Cv,G];unfold qo;simp only[aU,ao];by_cases h0:o.2=0
 . obtain⟨v1,v,v3⟩:=J h0;rw[v1];dsimp only;have A:b6 (o.1.length:Int) 2=((o.1.length%2:Nat):Int):=by rw[hl];omega
   rw[A,SL (by omega)];by_cases he:o.1.length%2=0
   . by_cases r:((o.1.length/2:Nat):Int)<=x.Max
     . rw[ae (show o.1.length%2=0/\((o.1.length/2:Nat):Int)<=x.Max from⟨he,r⟩),al (show ¬(bif !decide (o.2=0)then true else decide (((o.1.length%2:Nat):Int)=1))=true by rw[he,h0];simp),al (show ¬decide (x.Max<((o.1.length/2:Nat):Int))=true by simp only[dO];omega)];have z0:((0:Nat):Int)=0:=rfl;obtain⟨gF,g⟩:=SV (ts:=ts) (x:=x) (path:=path) (by omega) (f:=cX ts n x.Key) (l:=o.1) (by omega) (L:=((201-(n+1):Nat):Int)) (λq d step=>ih.part aG (H.key u k8) (by have:=v q d;omega) s step)
        (z0:=0) (z1:=false) (z2:=0) (z3:=[]) (z4:=0) (z5:=0) (z6:=false) (z7:=x.Kind) (z8:=false) (z9:=0) (z10:=[]) (z11:=0) (o.1.length/2) 0 [] (by omega) rfl
       rw[Nat.mul_zero,fU,z0]at gF g;cases hs:cf (cX ts n x.Key) (e6 o.1)with
       |none=>
        obtain⟨F,e⟩:=g hs;rw[e];exact .rT rfl
       |some ks=>
        have N:=qO hs;have M:=HV o.1;rw[gF ks hs];simp only[ao,fT];have z:∀y,y∈ks->cw y.bd:=λy B=>by
         obtain⟨a,_,a2⟩:=pN hs y B;exact NL a2
        have one:((0+1:Nat):Int)=1:=rfl;rcases SM (ts:=ts) (x:=x) (path:=path) (by omega) (l:=o.1) (ks:=ks) z (by omega) (L:=((201-(n+1):Nat):Int))
         (z0:=0) (z1:=false) (z2:=0) (z3:=[]) (z4:=0) (z5:=0) (z6:=false) (z7:=x.Kind) (z8:=false) (z9:=0) (z10:=[]) (z11:=0) (ks.length-(0+1)) 0 rfl with⟨h1,b⟩|⟨⟨m,D,E⟩,F,b⟩
        . have c:oT ks=true:=vW.2 λi w=>h1 i (by omega) w;rw[one]at b;rw[b,ae c];simp only[ao];obtain⟨j,k⟩:=PI (ts:=ts) (x:=x) (path:=path) (by omega) (f:=cX ts n x.aF) (l:=o.1) (by omega) (L:=((201-(n+1):Nat):Int)) (λq d step=>ih.part aG (H.elem u (by omega)) (by have:=v q d;omega) s step)
           (z0:=0) (z1:=false) (z2:=0) (z3:=[]) (z4:=0) (z5:=0) (z6:=false) (z7:=x.Kind) (z8:=false) (z9:=0) (z10:=[]) (z11:=0) (ks:=ks) (o.1.length/2) 0 [] (by omega) rfl
          rw[Nat.mul_zero,fU,z0]at j k;cases t:cf (cX ts n x.aF) (fk o.1)with
          |none=>
           obtain⟨F,e⟩:=k t;rw[e];exact .rT rfl
          |some C=>
           rw[j C t];simp only[ao];rw[uG];refine fH.cast rfl (fH.wZ (F:=⟨[],0⟩) ?_);simp[I.aV,k8]
        . have c:¬oT ks=true:=λh=>E (vW.1 h m D);rw[one]at b;rw[b,al c];exact .rT rfl
     . rw[al (show ¬(o.1.length%2=0/\((o.1.length/2:Nat):Int)<=x.Max)fromλh=>r h.2),al (show ¬(bif !decide (o.2=0)then true else decide (((o.1.length%2:Nat):Int)=1))=true by rw[he,h0];simp),ae (show decide (x.Max<((o.1.length/2:Nat):Int))=true by simp only[dO];omega)];exact jv (by omega) _
   . have h1:o.1.length%2=1:=(by omega);rw[al (show ¬(o.1.length%2=0/\((o.1.length/2:Nat):Int)<=x.Max)fromλh=>he h.1),ae (show(bif !decide (o.2=0)then true else decide (((o.1.length%2:Nat):Int)=1))=true by rw[h1,h0];simp)];exact jv (by omega) _
 . rw[K h0,ae (by simp[h0])];exact jv (by omega) _
theorem aed(H:jm ts){n:Nat}(aG:n+1<=200)(ih:oM ts n)(e:x∈ts)(k5:x.Kind=5)(w:p.length<=4096)(i:path.length+(n+1)<=200):
 fH (ng (cX ts n) x p) (C9 ((⟨ts⟩:aT),x,p,((201-(n+1):Nat):Int),path)):=by
 obtain⟨u,v⟩:=H.S.A x e (.inl k5);obtain⟨o,_,k,r,s⟩:=Y4 (p:=p) (by omega);rw[C9,k];unfold ng;simp only[aU,ao];by_cases h0:o.2=0
 . obtain⟨v1,t,v3,v4⟩:=r h0;rw[al (by simp[h0]),v1];dsimp only;obtain⟨gF,c⟩:=SZ (ts:=ts) (x:=x) (path:=path) (by omega) (f:=cX ts n) (l:=o.1) (by omega) (by omega) (L:=((201-(n+1):Nat):Int)) (λm g q j step=>ih.part aG (H.mem e g) (by have:=(t q j).1;omega) i step)
    (z0:=0) (z1:=false) (z2:=0) (z3:=[]) (z4:=0) (z5:=0) (z6:=false) (z7:=x.Kind) (z8:=false) (z9:=0) (z10:=[]) (z11:=0) x.ah.length 0 [] (by omega) rfl
   have z0:((0:Nat):Int)=0:=rfl;rw[fU,z0]at gF c;have B:=λits=>Gf (x:=x) (path:=path) (by omega) (by omega) (l:=o.1) (by omega) (z0:=0) (z1:=false) (z2:=0) (z3:=[]) (z4:=0) (z5:=0) (z6:=false) (z7:=x.Kind) (z8:=false) (z9:=0) (z10:=[]) (z11:=0) (its:=its) o.1.length 0 [] (by omega) (dV _);rw[fU,z0]at B;cases hs:cf (ef (cX ts n) o.1) x.ah with
   |none=>
    obtain⟨F,a⟩:=c hs;rw[a];exact .rT rfl
   |some b=>
    rw[gF b hs];simp only[ao,fT];cases d:o.1.all (fV x)with
    |true=>
     rw[(B b).1 d,ae rfl];simp only[ao];rw[uG];refine fH.cast rfl (fH.wZ (F:=⟨[],0⟩) ?_);simp[I.aV,k5]
    |false=>
     obtain⟨F,a⟩:=(B b).2 d;rw[a,bz];exact .rT rfl
 . rw[ae (by simp[h0]),s h0];exact jv (by omega) _
theorem abm(H:jm ts){n:Nat}(aG:n+1<=200)(ih:oM ts n):oM ts (n+1):=λt p path t0 t1 d f=>by
 obtain⟨j,rfl⟩:=B1 t0;have w:j<ts.length:=by omega
 have a:¬(200:Int)<((201-(n+1):Nat):Int):=by omega
 rw[jJ,ae (aP w),tJ,a7];have b:=bg w aJ;generalize ts.getD j aJ=x at*;obtain⟨Q,R⟩:=H.S.K x b;have L:x.bh.length<9223372036854775807:=dB (ij (H.S.T x b).1);unfold qp;obtain⟨u,_,P,B,C⟩:=aaU p;have z:yw p=some (u.1,decide (u.2=0)):=by rw[yw,P];rfl
 by_cases k1:x.Kind=1
 . simp only[k1,a,dO,↓reduceIte,Int.reduceEq,dk,dW,bZ,aU,ao];unfold w6;by_cases h0:p=[]
   . rw[ae h0,al (by simp[h0])];simp only[h0,de,db];exact .one _
   . by_cases h1:p=[1]
     . rw[al h0,ae h1,al (by simp[h1])];simp only[h0,dk,eV];exact .one _
     . rw[al h0,al h1,ae (by simp[h0,h1])];exact jv (by omega) _
 by_cases k2:x.Kind=2
 . simp only[k2,a,dO,↓reduceIte,Int.reduceEq,dk,dW,bZ,aU,ao,z];unfold w7;by_cases h0:u.2=0
   . obtain⟨m,g,o⟩:=B h0;rw[g,o,adM (DX g),al (by simp[h0])];simp only[ao];by_cases ag:x.bF<=h' m/\h' m<=x.bH
     . rw[ae ag,ch];exact .one _
     . rw[al ag,bA];exact jv (by omega) _
   . rw[C h0,ae (by simp[h0])];exact jv (by omega) _
 by_cases k3:x.Kind=3
 . simp only[k3,a,dO,↓reduceIte,Int.reduceEq,dk,dW,bZ,aU,ao];unfold w8;by_cases ag:(p.length:Int)<=x.Max
   . rw[ae ag,bx];exact .one _
   . rw[al ag,fz];exact jv (by omega) _
 by_cases k4:x.Kind=4
 . simp only[k4,a,dO,↓reduceIte,Int.reduceEq,dk,dW,bZ,aU,ao,z];unfold w9;by_cases h0:u.2=0
   . obtain⟨m,g,o⟩:=B h0;rw[g,o];dsimp only;by_cases ag:1<=m/\m<=1000
     . obtain⟨q,_,N,O⟩:=q9 (t:=x) (m:Int) L;have e:bU .i64 (m:Int)=(m:Int):=jD;rw[al (show ¬(bif bif !decide (u.2=0)then true else decide ((m:Int)<1)then true else decide (1000<(m:Int)))=true by simp[h0];omega),e,N];simp only[ao];have J:q.2=(x.bh.any λy=>decide (y.ad=(m:Int))):=by
        have:=(Dn O).trans I7;grind
       rw[J];by_cases r:((x.bh.any λy=>decide (y.ad=(m:Int)))||x.Open)=true
       . rw[ae (show 1<=m/\m<=1000/\((x.bh.any λy=>decide (y.ad=(m:Int)))||x.Open)=true from⟨ag.1,ag.2,r⟩),al]
         . exact .one _
         grind
       . rw[al (show ¬(1<=m/\m<=1000/\((x.bh.any λy=>decide (y.ad=(m:Int)))||x.Open)=true)fromλh=>r h.2.2),ae]
         . exact jv (by omega) _
         grind
     . rw[al (show ¬(1<=m/\m<=1000/\((x.bh.any λy=>decide (y.ad=(m:Int)))||x.Open)=true)fromλh=>ag ⟨h.1,h.2.1⟩),ae (by simp[h0];omega)];exact jv (by omega) _
   . rw[C h0,ae (by simp[h0])];exact jv (by omega) _
 by_cases k9:x.Kind=9
 . obtain⟨aM,E⟩:=H.elem b (by omega);simp only[k9,a,dO,↓reduceIte,Int.reduceEq,dk,de,dW,ev,bZ,aU,ao];cases p with
   |nil=>
    rw[bz,mj];exact .one _
   |cons c q=>
    have M:aH 0 (c::q).length=true:=aP (k:=0) (by simp);have b0:fw (c::q) 0=(c.toNat:Int):=rfl;have r6:dY 1 ((c::q).length:Int) (c::q).length=true:=iJ.2 (by simp<;>omega);have D:ej (c::q) 1 ((c::q).length:Int)=q:=by
     unfold ej;simp
    rw[gM,ae M,b0,mj];by_cases i:c=1
    . subst i;rw[ae rfl,bz,ae r6,D];have s:=ih.part aG (t:=x.aF) (q:=q) (path:=path) ⟨aM,E⟩ (by simp at d;omega) f 0;rw[nc (by omega)];simp only[ao];cases A:cX ts n x.aF q with
      |none=>
       obtain⟨F,l⟩:=s.no (by omega) A;rw[l];exact .rT rfl
      |some v=>
       obtain⟨F,l⟩:=s.yes (by omega) A;rw[l];simp only[ao];rw[bz,uG];refine fH.cast rfl (fH.wZ (F:=⟨[],0⟩) ?_);simp[I.aV]
    . have G:¬((c.toNat:Int)=1):=λh=>i (UInt8.toNat.inj (by show c.toNat=1;omega));rw[al i,ae (by simpa using G)];exact jv (by omega) _
 by_cases k6:x.Kind=6
 . have:=(aeB H aG ih b k6 d (path:=path) f).eta;simp only[k6,a,dO,↓reduceIte,Int.reduceEq,dk,dW,bZ,aU,ao];exact this
 by_cases k7:x.Kind=7
 . have:=(aeC H aG ih b k7 d (path:=path) f).eta;simp only[k7,a,dO,↓reduceIte,Int.reduceEq,dk,dW,bZ,aU,ao];exact this
 by_cases k8:x.Kind=8
 . have:=(ahC H aG ih b k8 d (path:=path) f).eta;simp only[k8,a,dO,↓reduceIte,Int.reduceEq,dk,dW,bZ,aU,ao];exact this
 have k5:x.Kind=5:=by omega
 have:=(aed H aG ih b k5 d (path:=path) f).eta;simp only[k5,a,dO,↓reduceIte,Int.reduceEq,dk,dW,bZ,aU,ao];exact this
theorem NN(H:jm ts):∀n,n<=200->oM ts n
 |0,_=>λt p path t0 t1 b c=>by
  obtain⟨j,rfl⟩:=B1 t0;have a:j<ts.length:=by omega
  rw[jJ,ae (aP a)];simp only[aU,ao];rw[gM,Ac];exact jv (by omega) _
 |n+1,aG=>abm H aG (NN H n (by omega))
end
theorem aee(n:Nat):(fE (h' n)).toNat=n:=by
 unfold h' fE;omega
theorem NX:∀(k:Nat) (s:ak),s.length=k->s.head?≠some 0->fb (gh 0 s)=s
 |0,s,d,h=>by
  have:s=[]:=jx d;subst this;rw[gh,fb,ae rfl]
 |k+1,s,d,h=>by
  have f:s≠[]:=λh0=>by rw[h0]at d;cases d
  have es:=List.dropLast_concat_getLast f;generalize s.getLast f=b at es;have af:s.dropLast.length=k:=by simp[d]
  generalize s.dropLast=c at es af;subst es;have i:b.toNat<256:=B' b;rw[I6];by_cases h0:c=[]
  . subst h0;have g:b≠0:=λe=>h (by rw[e];rfl);have:b.toNat≠0:=λe=>g (UInt8.toNat.inj e);show fb (0*256+b.toNat)=[b];rw[fb,bx,show(0*256+b.toNat)/256=0 by omega,fb,ae rfl,show(0*256+b.toNat)%256=b.toNat by omega];simp
  . have ih:=NX k c af (λe=>h (by cases c with|nil=>exact absurd rfl h0|cons a l=>simpa using e));have j:gh 0 c≠0:=λe=>by rw[e,fb,ae rfl]at ih;exact h0 ih.symm
    rw[fb,bx,show(gh 0 c*256+b.toNat)/256=gh 0 c by omega,ih,show(gh 0 c*256+b.toNat)%256=b.toNat by omega];simp
theorem NO{s:ak}{n:Nat}(h:gD s=some n):fb n=s:=by
 unfold gD at h;split at h
 . cases h
 . rename_i aa;cases h;exact NX _ s rfl (λe=>aa (.inl e))
theorem PJ(s:ak):∀(f i n m k:Nat),hz s f i n=((m:Int),(k:Int),0)->∃q,m=n+q*2^(7*i)/\s.drop i=dQ q++s.drop k/\(0<i->0<q)
 |0,i,n,m,k,h=>by rw[hz]at h;simp at h
 |f+1,i,n,m,k,h=>by
  rw[hz]at h;split at h
  . rename_i b;have a:s.drop i=s.getD i 0::s.drop (i+1):=by rw[du b];exact lB b
    have o:(s.getD i 0).toNat<256:=B' _;generalize s.getD i 0=c at*;split at h
    . simp at h
    . split at h
      . rename_i d;obtain⟨q,t,j,l⟩:=PJ s f (i+1) _ m k h;have r:=l (by omega);refine⟨c.toNat%128+128*q,?_,?_,λ_=>by omega⟩
        . grind
        . rw[ob (by omega),show(c.toNat%128+128*q)/128=q by omega,show(c.toNat%128+128*q)%128+128=c.toNat by omega,a,j];simp
      . rename_i d;split at h
        . simp at h
        . rename_i h0;simp only[dv,qc]at h;have g:m=n+c.toNat*2^(7*i):=by have:=h.1;exact_mod_cast this.symm
          have e:k=i+1:=by have:=h.2;exact_mod_cast this.symm
          refine⟨c.toNat,g,?_,λp=>?_⟩
          . rw[pH (by omega),a,e];simp
          omega
  . simp at h
theorem I8{s:ak}{m k:Nat}(h:hz s 10 0 0=((m:Int),(k:Int),0)):s=dQ m++s.drop k:=by
 obtain⟨q,a,b,_⟩:=PJ s 10 0 0 m k h;grind
theorem MN{s a b:ak}(h:iA s=some (a,b)):s=c7 a++b:=by
 unfold iA at h;rcases lI s with⟨e,he,c⟩|⟨m,k,c,j,i,l⟩
 . grind
 . have cZ:=I8 c;rw[c]at h;dsimp only at h;split at h
   . rename_i g;simp only[dp,dv]at h;obtain⟨h1,d⟩:=h;have f:a.length=m:=by
      rw[<-h1,qg,mb];omega
     unfold c7;rw[f,ir,<-h1,<-d,yL];simpa using cZ
   . cases h
theorem MO:∀(n:Nat) (s:ak) (b l:List ak),s.length<=n->s.length+b.length<=100000->hG (s,b)=some (.inr l)->∃c,l=b++c/\c.flatMap c7=s
 |n,s,b,l,aG,g,h=>by
  rw[hG]at h;by_cases h0:s=[]
  . simp_all
  . rw[ae (by simp[h0]),l5]at h;simp only[aU,ao]at h;cases a:iA s with
    |none=>
     rw[a]at h;simp[dS]at h
    |some r=>
     obtain⟨x,d⟩:=r;rw[a]at h;have af:=nS a;have f:¬((!(dS (some (x,d))).2.2)=true):=(by simp[dS]);have ag:room 16 (b++[(dS (some (x,d))).1]).length=true:=cN;rw[al f,ae ag]at h
     match n,aG with
     |0,aG=>omega
     |n+1,aG=>
      obtain⟨c,aM,e⟩:=MO n d _ l (by omega) (by simp;omega) h;refine⟨x::c,by rw[aM];simp[dS],?_⟩;rw[eZ,e];exact(MN a).symm
theorem MP:∀(n:Nat) (s:ak) (b:List ak),s.length<=n->s.length+b.length<=100000->hG (s,b)=some (.inl 0)->False
 |n,s,b,aG,e,h=>by
  rw[hG]at h;by_cases h0:s=[]
  . grind
  . rw[ae (by simp[h0]),l5]at h;simp only[aU,ao]at h;cases a:iA s with
    |none=>
     rw[a]at h;simp[dS]at h
    |some r=>
     obtain⟨x,c⟩:=r;rw[a]at h;have af:=nS a;have d:¬((!(dS (some (x,c))).2.2)=true):=(by simp[dS]);have ag:room 16 (b++[(dS (some (x,c))).1]).length=true:=cN;rw[al d,ae ag]at h
     match n,aG with
     |0,aG=>omega
     |n+1,aG=>exact MP n c _ (by omega) (by simp;omega) h
theorem LH:∀(n:Nat) (s:ak) (last:Nat) (b:List cS),s.length<=n->s.length+b.length<=100000->gb ((last:Int),s,b)=some (.inl 0)->False
 |n,s,last,b,aG,i,h=>by
  rw[gb]at h;by_cases h0:s=[]
  . grind
  . rw[ae (by simp[h0])]at h;rcases lI s with⟨e,he,aq⟩|⟨m,k,aq,j,d,f⟩
    . rw[oa he aq]at h;simp at h
    . rw[l4 aq d]at h;simp only[aU,ao,uD f]at h;split at h
      . cases h
      . rw[l5 (by rw[mb];omega)]at h;simp only[ao]at h;cases a:iA (s.drop k)with
        |none=>
         rw[a]at h;simp[dS]at h
        |some r=>
         obtain⟨x,c⟩:=r;rw[a]at h;have af:=nS a;rw[mb]at af;have g:¬((!(dS (some (x,c))).2.2)=true):=(by simp[dS]);rw[al g]at h;split at h
         . match n,aG with
           |0,aG=>omega
           |n+1,aG=>exact LH n c (m/2) _ (by omega) (by simp;omega) h
         . cases h
theorem EH(c:p.length<=90000){l:List ak}(h:ia p=some l):l.flatMap c7=p:=by
 unfold ia at h;rw[ll]at h;cases a:hG (p,[])with
 |none=>rw[a]at h;simp at h
 |some o=>
  rw[a]at h;cases o with
  |inl e=>
   by_cases he:e=0
   . simp[he]at h;exfalso;obtain⟨f,a1,_⟩:=Ia p.length p [] (by omega) (by simp;omega);exact MP p.length p [] (by omega) (by simp;omega) (by rw[a,he])
   grind
  |inr l2=>
   have e:l2=l:=(by simpa using h);obtain⟨d,aM,b⟩:=MO p.length p [] l2 (by omega) (by simp;omega) a;grind
def nP(f:cS):ak:=eX f.ad.toNat f.cg f.Data
theorem LI:∀(n:Nat) (s:ak) (last:Nat) (b l:List cS),s.length<=n->s.length+b.length<=100000->gb ((last:Int),s,b)=some (.inr l)->
 ∃c,l=b++c/\c.flatMap nP=s
 |n,s,last,b,l,aG,q,h=>by
  rw[gb]at h;by_cases h0:s=[]
  . simp_all
  . rw[ae (by simp[h0])]at h;rcases lI s with⟨e,he,aq⟩|⟨m,k,aq,u,g,i⟩
    . rw[oa he aq]at h;simp at h
    . have es:=I8 aq;rw[l4 aq g]at h;simp only[aU,ao,uD i]at h;by_cases t:((m/2:Nat):Int)<=(last:Int)\/1000<((m/2:Nat):Int)
      . grind
      . have:¬((bif bif (!true)then true else decide (((m/2:Nat):Int)<=(last:Int))then true else decide (1000<((m/2:Nat):Int)))=true):=(by grind);rw[al this,l5 (by rw[mb];omega)]at h;simp only[ao]at h;cases a:iA (s.drop k)with
        |none=>
         rw[a]at h;simp[dS]at h
        |some r=>
         obtain⟨x,d⟩:=r;rw[a]at h;have af:=nS a;have p:=MN a;rw[mb]at af;have j:¬((!(dS (some (x,d))).2.2)=true):=(by simp[dS]);have o:bU .i64 ((m/2:Nat):Int)=((m/2:Nat):Int):=jD;rw[al j,o]at h;have ag:room 32 (b++[(⟨((m/2:Nat):Int),decide (b6 (m:Int) 2=1),(dS (some (x,d))).1⟩:cS)]).length=true:=cN;rw[ae ag]at h
         match n,aG with
         |0,aG=>omega
         |n+1,aG=>
          obtain⟨c,aM,f⟩:=LI n d (m/2) _ l (by omega) (by simp;omega) h;refine⟨⟨((m/2:Nat):Int),decide (b6 (m:Int) 2=1),x⟩::c,by rw[aM];simp[dS],?_⟩;rw[eZ,f];unfold nP eX;have v:2*(((m/2:Nat):Int)).toNat+(if (b6 (m:Int) 2=1:Bool) then 1 else 0)=m:=by
           rw[hl];grind
          grind
theorem NY(c:p.length<=90000){l:List cS}(h:iO p=some l):l.flatMap nP=p:=by
 unfold iO at h;rw[lV]at h;have cZ:gb (0,p,[])=gb (((0:Nat):Int),p,[]):=rfl;rw[cZ]at h;cases a:gb (((0:Nat):Int),p,[])with
 |none=>rw[a]at h;simp at h
 |some o=>
  rw[a]at h;cases o with
  |inl e=>
   by_cases he:e=0
   . exfalso;exact LH p.length p 0 [] (by omega) (by simp;omega) (by rw[a,he])
   grind
  |inr l2=>
   have e:l2=l:=(by simpa using h);obtain⟨d,aM,b⟩:=LI p.length p 0 [] l2 (by omega) (by simp;omega) a;grind
theorem PK(h:jB p=some (id,q)):p=dQ id.toNat++q:=by
 unfold jB at h;rw[l0]at h;rcases lI p with⟨e,he,aq⟩|⟨m,k,aq,d,a,f⟩
 . rw[oa he aq]at h;simp at h
 . have es:=I8 aq;rw[l4 aq a]at h;simp only[aU,ao]at h;by_cases c:(m:Int)<1\/1000<(m:Int)
   . grind
   . have:¬((bif bif (!true)then true else decide ((m:Int)<1)then true else decide (1000<(m:Int)))=true):=(by grind);have b:bU .i64 (m:Int)=(m:Int):=jD;rw[al this,b]at h;simp only[b5,dp,dv]at h;rw[<-h.1,<-h.2];simpa using es
theorem Ij{d:Type}{f:α->Option d}(d1:α)(d2:d):∀{l:List α} {m:List d},cf f l=some m->∀i,i<l.length->f (l.getD i d1)=some (m.getD i d2)
 |[],m,h,i,c=>by simp at c
 |a::l,m,h,i,c=>by
  rw[cf]at h;split at h
  . rename_i b g h1 e;cases h;cases i with
    |zero=>exact h1
    |succ i=>exact Ij d1 d2 e i (by simpa using c)
  . cases h
theorem PL:∀{l:List α},l.length%2=0->(e6 l).length=l.length/2/\(fk l).length=l.length/2
 |[],_=>⟨by simp[e6],by simp[fk]⟩
 |[a],h=>by simp at h
 |a::b::l,h=>by
  obtain⟨h1,c⟩:=PL (l:=l) (by simp at h;omega);show(e6 l).length+1=(l.length+1+1)/2/\(fk l).length+1=(l.length+1+1)/2;omega
theorem EC:∀{l:List α} {y:α},y∈fk l->y∈l
 |[],y,h=>by cases h
 |[_],y,h=>by cases h
 |a::b::l,y,h=>by
  rcases eK.1 h with rfl|h
  . grind
  . exact .tail _ (.tail _ (EC h))
def ni(l:List ak):Nat:=(l.map λq=>q.length+1).sum
theorem wh(q:ak)(l:List ak):ni (q::l)=q.length+1+ni l:=by unfold ni;simp
theorem I9:∀(l:List ak),ni l<=(l.flatMap c7).length
 |[]=>by simp[ni]
 |q::l=>by
  have:=I9 l;have:=oc q.length;have e:(c7 q).length=(dQ q.length).length+q.length:=by unfold c7;rw[cm]
  rw[wh,eZ,cm];omega
theorem NP:∀(l:List ak),ni (e6 l)+ni (fk l)<=ni l
 |[]=>by simp[e6,fk,ni]
 |[a]=>by simp[e6,fk,ni]
 |a::b::l=>by
  have:=NP l;rw[e6,fk,wh,wh,wh,wh];omega
theorem EI{C:Nat}{f:ak->Option I}:∀{l:List ak} {m:List I},cf f l=some m->(∀q,q∈l->∀v,f q=some v->wt v<=C*(q.length+1))->cH m<=C*ni l
 |[],m,h,_=>by rw[cf]at h;cases h;rw[gH];exact hv _
 |q::l,m,h,k=>by
  rw[cf]at h;split at h
  . rename_i b g h1 d;cases h;have a:=k q (.head _) b h1;have c:=EI d (λq e=>k q (.tail _ e));rw[hi,wh,Nat.mul_add];omega
  . cases h
def u'(l:List cS):Nat:=(l.map λf=>f.Data.length+1).sum
theorem NZ(f:cS)(l:List cS):u' (f::l)=f.Data.length+1+u' l:=by unfold u';simp
theorem N0:∀(l:List cS),u' l<=(l.flatMap nP).length
 |[]=>by simp[u']
 |f::l=>by
  have:=N0 l;have:=oc f.Data.length;have e:(nP f).length=(dQ (2*f.ad.toNat+(if f.cg then 1 else 0))).length+((dQ f.Data.length).length+f.Data.length):=by unfold nP eX c7;rw[cm,cm]
  rw[NZ,eZ,cm];omega
def dj(C d:Nat)(l:List cS)(m:aS):Nat:=match l.find? (λf=>decide (f.ad=m.ad))with
 |some f=>C*(f.Data.length+1)
 |none=>d
def aI(C d:Nat)(l:List cS)(ms:List aS):Nat:=(ms.map (dj C d l)).sum
def oB(id:Int)(A:Nat)(ms:List aS):Nat:=(ms.map λm=>if m.ad=id then A else 0).sum
theorem HM{A:Nat}:∀{ms:List aS},(∀m,m∈ms->m.ad≠id)->oB id A ms=0
 |[],_=>rfl
 |m::ms,h=>by
  have:=HM (A:=A) (λm a=>h m (.tail _ a));unfold oB at this⊢;grind
theorem PM{id:Int}{A:Nat}:∀{ms:List aS},ms.Pairwise (λa b=>a.ad<b.ad)->oB id A ms<=A
 |[],_=>hv _
 |m::ms,h=>by
  rw[h5]at h;by_cases e:m.ad=id
  . have:oB id A ms=0:=HM λx c=>by have:=h.1 x c;omega
    unfold oB at this⊢;grind
  . have:=PM (id:=id) (A:=A) h.2;unfold oB at this⊢;grind
theorem aef(C d:Nat)(f:cS)(l:List cS)(m:aS):dj C d (f::l) m<=(if m.ad=f.ad then C*(f.Data.length+1)else 0)+dj C d l m:=by
 unfold dj;grind
theorem N1(C d:Nat)(f:cS)(l:List cS):∀(ms:List aS),aI C d (f::l) ms<=oB f.ad (C*(f.Data.length+1)) ms+aI C d l ms
 |[]=>by simp[aI,oB]
 |m::ms=>by
  have a:=N1 C d f l ms;have b:=aef C d f l m;unfold aI oB at*;grind
theorem PN(C d:Nat):∀(ms:List aS),aI C d [] ms=d*ms.length
 |[]=>by simp[aI]
 |m::ms=>by
  have:=PN C d ms;unfold aI at*;simp only[fB,ox,gi];rw[this,Nat.mul_succ];have:dj C d [] m=d:=rfl;omega
theorem PO{C d:Nat}(ct:1<=C)(b:gQ x.ah):∀(l:List cS),aI C d l x.ah+((fa x l).map λr=>r.Data.length+1).sum<=d*x.ah.length+C*u' l
 |[]=>by rw[PN];simp[fa]
 |f::l=>by
  have ih:=PO (d:=d) ct b l;have a:=N1 C d f l x.ah;rw[NZ,Nat.mul_add];cases bw:cB x.ah f.ad with
  |some m=>
   have ag:fa x (f::l)=fa x l:=by unfold fa;rw[FP (by rw[bw];simp)]
   rw[ag];have:=PM (id:=f.ad) (A:=C*(f.Data.length+1)) b.1;omega
  |none=>
   have ag:fa x (f::l)=⟨f.ad,f.Data⟩::fa x l:=by unfold fa;rw[FQ (by rw[bw];rfl)];rfl
   have:oB f.ad (C*(f.Data.length+1)) x.ah=0:=HM (nQ bw);rw[ag,fB,ox];have:f.Data.length+1<=C*(f.Data.length+1):=Nat.le_mul_of_pos_left _ ct;grind
theorem N2{C d:Nat}{f:Int->ak->Option I}{l:List cS}(i:∀(m:aS),m.bV=true->True):∀{ms:List aS} {a:List I},(∀m,m∈ms->(m.bV=true->wt m.bB<=d)/\∀g,g∈l->∀v,f m.aw g.Data=some v->wt v<=C*(g.Data.length+1))->cf (ef f l) ms=some a->cH a<=aI C d l ms
 |[],a,_,h=>by rw[cf]at h;cases h;rw[gH];exact hv _
 |m::ms,a,k,h=>by
  rw[cf]at h;split at h
  . rename_i b o h1 e;cases h;have ih:=N2 (C:=C) (d:=d) i (λm j=>k m (.tail _ j)) e;have n:wt b<=dj C d l m:=by
     unfold ef at h1;unfold dj;cases c:l.find? (λf=>decide (f.ad=m.ad))with
     |some g=>
      rw[c]at h1;exact(k m (.head _)).2 g (BY c) b h1
     |none=>grind
    unfold aI at*;rw[hi,fB,ox];omega
  . cases h
theorem HW{l:List cS}{r:bX}(h:r∈fa x l):∃f,f∈l/\cB x.ah f.ad=none/\r=⟨f.ad,f.Data⟩:=by
 unfold fa at h;obtain⟨f,a,rfl⟩:=e0.1 h;obtain⟨h1,b⟩:=r1.1 a;refine⟨f,h1,?_,rfl⟩;simp_all
theorem NQ{l:List cS}(c:l.Pairwise (λa b=>a.ad<b.ad))(d:∀f,f∈l->cn f.ad):jP x.ah (fa x l):=by
 refine⟨?_,λr ag=>?_⟩
 . unfold fa;grind
 . obtain⟨f,f1,f2,rfl⟩:=HW ag;grind
section
variable {ts:List ai}
def sm(ts:List ai)(t:Int)(p:ak)(v:I):Prop:=bY ts false t v/\bJ v/\wt v<=300*(p.length+1)
theorem mU{k:Int}{b:Bool}{i:Int}{s:ak}{a:List I}{r:List bX}(h0:0<=k/\k<=9)(h1:cw i)(d:0<=id/\id<=1000)(hs:s.length<=90000)(f:ks.length<=90000)(e:a.length<=90000)(ag:r.length<=90000)
 (k1:∀x,x∈ks->bJ x)(k2:∀x,x∈a->bJ x)(k3:∀x,x∈r->x.Data.length<=90000/\cn x.ad):bJ ⟨k,b,i,s,id,ks,a,r⟩:=by
 refine .mk _ (by unfold reachBytes;show s.length<=_;omega) (by unfold reachBytes;show ks.length<=_;omega) (by unfold reachBytes;show a.length<=_;omega) (by unfold reachBytes;show r.length<=_;omega) k1 k2 (λx c=>by have:=(k3 x c).1;unfold reachBytes;omega) ?_ h1 ?_ (λx c=>by have:=(k3 x c).2;unfold cn at this;omega)
 . show -9223372036854775808<=k/\k<=9223372036854775807;omega
 . show -9223372036854775808<=id/\id<=9223372036854775807;omega
theorem abZ(H:c8 ts){n:Nat}(ih:∀(t:Int) (p:ak) (v:I),p.length<=90000->0<=t->t<ts.length->cX ts n t p=some v->sm ts t p v)(G:p.length<=90000)(t0:0<=t)(t1:t<ts.length)(h:cX ts (n+1) t p=some v):sm ts t p v:=by
 rw[tJ]at h;have az:t.toNat<ts.length:=by omega
 have B:=bg az aJ;have ct:=H.gS;unfold sm;rw[eJ];generalize ts.getD t.toNat aJ=x at*;unfold qp at h;have jC:∀(k i id:Int) (b:Bool) (s:ak),wt ⟨k,b,i,s,id,[],[],[]⟩=10+s.length:=λk i id b s=>by rw[fD,gH];simp
 by_cases k1:x.Kind=1
 . rw[ae k1]at h;have:∃b,v=⟨1,b,0,[],0,[],[],[]⟩:=by
    unfold w6 at h;grind
   obtain⟨b,rfl⟩:=this;exact⟨⟨⟨t0,t1,k1.symm,λh=>by cases h⟩,.inl ⟨rfl,rfl,rfl,rfl,rfl,rfl,rfl⟩⟩,mU (by omega) l8 (by omega) (by simp) (by simp) (by simp) (by simp) (by simp) (by simp) (by simp),by rw[jC];simp;omega⟩
 rw[al k1]at h;by_cases k2:x.Kind=2
 . rw[ae k2]at h;unfold w7 at h;cases z:gD p with
   |none=>rw[z]at h;cases h
   |some m=>
    rw[z]at h;dsimp only at h;split at h
    . rename_i ag;cases h;exact⟨⟨⟨t0,t1,k2.symm,λh=>by cases h⟩,.inr (.inl ⟨rfl,rfl,rfl,rfl,rfl,rfl,rfl,ag.1,ag.2⟩)⟩,mU (by omega) (On (DX z)) (by omega) (by simp) (by simp) (by simp) (by simp) (by simp) (by simp) (by simp),by rw[jC];simp;omega⟩
    . cases h
 rw[al k2]at h;by_cases k3:x.Kind=3
 . rw[ae k3]at h;unfold w8 at h;split at h
   . rename_i ag;cases h;exact⟨⟨⟨t0,t1,k3.symm,λh=>by cases h⟩,.inr (.inr (.inl ⟨rfl,rfl,rfl,rfl,rfl,rfl,rfl,ag⟩))⟩,mU (by omega) l8 (by omega) (by omega) (by simp) (by simp) (by simp) (by simp) (by simp) (by simp),by rw[jC];omega⟩
   . cases h
 rw[al k3]at h;by_cases k4:x.Kind=4
 . rw[ae k4]at h;unfold w9 at h;cases z:gD p with
   |none=>rw[z]at h;cases h
   |some m=>
    rw[z]at h;dsimp only at h;split at h
    . rename_i ag;cases h;refine⟨⟨⟨t0,t1,k4.symm,λh=>by cases h⟩,.inr (.inr (.inr (.inl ⟨rfl,rfl,rfl,rfl,rfl,rfl,rfl,?_⟩)))⟩,mU (by omega) l8 (by omega) (by simp) (by simp) (by simp) (by simp) (by simp) (by simp) (by simp),by rw[jC];simp;omega⟩;have N:=ag.2.2;rw[iv]at N;rcases N with N|N
      . grind
      . exact .inr ⟨N,rfl,by unfold cn;show 1<=(m:Int)/\(m:Int)<=1000;omega⟩
    . cases h
 rw[al k4]at h;by_cases k9:x.Kind=9
 . rw[ae k9]at h;obtain⟨aM,L⟩:=ct.elem B (by omega);cases p with
   |nil=>
    rw[mj]at h;cases h;exact⟨⟨⟨t0,t1,k9.symm,λh=>by cases h⟩,.inr (.inr (.inr (.inr (.inr (.inr (.inr (.inr ⟨rfl,rfl,rfl,rfl,rfl,rfl,rfl,by simp,cF.2 (by simp)⟩)))))))⟩,mU (by omega) l8 (by omega) (by simp) (by simp) (by simp) (by simp) (by simp) (by simp) (by simp),by rw[jC];simp⟩
   |cons c q=>
    rw[mj]at h;split at h
    . obtain⟨w,aj,rfl⟩:=kR.1 h;obtain⟨f1,f2,f3⟩:=ih _ _ _ (by simp at G;omega) aM L aj;refine⟨⟨⟨t0,t1,k9.symm,λh=>by cases h⟩,.inr (.inr (.inr (.inr (.inr (.inr (.inr (.inr ⟨rfl,rfl,rfl,rfl,rfl,rfl,rfl,by simp,cF.2 ?_⟩)))))))⟩,mU (by omega) l8 (by omega) (by simp) (by simp) (by simp) (by simp) (by simp) ?_ (by simp),?_⟩
      . grind
      . grind
      . rw[fD];show 10+0+0+cH []+cH [w]<=_;rw[hi,gH,gi];omega
    . cases h
 rw[al k9]at h;by_cases k6:x.Kind=6
 . rw[ae k6]at h;unfold qn at h;cases V:jB p with
   |none=>rw[V]at h;cases h
   |some a=>
    obtain⟨id,q⟩:=a;rw[V]at h;dsimp only at h;have ar:=PK V;have aK:=oc id.toNat;have aL:q.length+1<=p.length:=by rw[ar,cm];omega
    obtain⟨o,aa,ab,ai⟩:=IW p;have ay:cn id:=(by grind);unfold cn at ay;cases bw:cB x.ah id with
    |some m=>
     rw[bw]at h;obtain⟨w,aj,rfl⟩:=kR.1 h;obtain⟨F,aQ⟩:=j' bw;obtain⟨f1,f2,f3⟩:=ih _ _ _ (by omega) (ct.mem B F).1 (ct.mem B F).2 aj;refine⟨⟨⟨t0,t1,k6.symm,λh=>by cases h⟩,.inr (.inr (.inr (.inr (.inr (.inl ⟨rfl,rfl,rfl,rfl,rfl,?_⟩)))))⟩,mU (by omega) l8 (by omega) (by simp) (by simp) (by simp) (by simp) (by simp) ?_ (by simp),?_⟩
     . show(match cB x.ah id with
        |some m=>_
        |none=>_)
       rw[bw];refine⟨rfl,rfl,cF.2 ?_⟩;grind
     . grind
     . rw[fD];show 10+0+0+cH []+cH [w]<=_;rw[hi,gH];omega
    |none=>
     rw[bw]at h;dsimp only at h;split at h
     . rename_i aH;cases h;refine⟨⟨⟨t0,t1,k6.symm,λh=>by cases h⟩,.inr (.inr (.inr (.inr (.inr (.inl ⟨rfl,rfl,rfl,rfl,rfl,?_⟩)))))⟩,mU (by omega) l8 (by omega) (by simp) (by simp) (by simp) (by simp) (by simp) (by simp) ?_,?_⟩
       . grind
       . grind
       . rw[fD];show 10+0+((q.length+1)+0)+cH []+cH []<=_;rw[gH];omega
     . cases h
 rw[al k6]at h;by_cases k7:x.Kind=7
 . rw[ae k7]at h;unfold nh at h;obtain⟨aM,L⟩:=ct.elem B (by omega);cases E:ia p with
   |none=>rw[E]at h;cases h
   |some l=>
    rw[E]at h;dsimp only at h;obtain⟨o,aa,ab,ai⟩:=th G;have af:(∀q,q∈l->q.length<=p.length)/\l.length<=p.length:=(by grind);have U:=I9 l;rw[EH G E]at U;split at h
    . rename_i am;obtain⟨m,F,rfl⟩:=kR.1 h;have Y:=qO F;have Q:∀y,y∈m->∃q,q∈l/\sm ts x.aF q y:=λy j=>by
       obtain⟨q,M,u⟩:=pN F y j;grind
      have ap:=EI (C:=300) F (λq R v J=>(ih _ _ _ (by have:=af.1 q R;omega) aM L J).2.2);refine⟨⟨⟨t0,t1,k7.symm,λh=>by cases h⟩,.inr (.inr (.inr (.inr (.inr (.inr (.inl ⟨rfl,rfl,rfl,rfl,rfl,rfl,rfl,?_,cF.2 ?_⟩))))))⟩,mU (by omega) l8 (by omega) (by simp) (by simp) (by omega) (by simp) (by simp) ?_ (by simp),?_⟩
      . grind
      . intro y j;obtain⟨q,_,u⟩:=Q y j;exact u.1
      . intro y j;obtain⟨q,_,u⟩:=Q y j;exact u.2.1
      . rw[fD];show 10+0+0+cH []+cH m<=_;rw[gH];omega
    . cases h
 rw[al k7]at h;by_cases k8:x.Kind=8
 . rw[ae k8]at h;unfold qo at h;obtain⟨aM,L⟩:=ct.elem B (by omega);obtain⟨d1,d2⟩:=ct.key B k8;cases E:ia p with
   |none=>rw[E]at h;cases h
   |some l=>
    rw[E]at h;dsimp only at h;obtain⟨o,aa,ab,ai⟩:=th G;have af:(∀q,q∈l->q.length<=p.length)/\l.length<=p.length:=(by grind);have U:=I9 l;rw[EH G E]at U;have aO:=NP l;split at h
    . rename_i am;cases hs:cf (cX ts n x.Key) (e6 l)with
      |none=>rw[hs]at h;cases h
      |some ks=>
       rw[hs]at h;dsimp only at h;split at h
       . rename_i an;obtain⟨m,F,rfl⟩:=kR.1 h;have aI:=qO hs;have Y:=qO F;obtain⟨aD,aE⟩:=PL am.1;have ao:∀y,y∈ks->∃q,q∈e6 l/\sm ts x.Key q y:=λy j=>by
          obtain⟨q,M,u⟩:=pN hs y j;exact⟨q,M,ih _ _ _ (by have:=af.1 q (Ab M);omega) d1 d2 u⟩
         have Q:∀y,y∈m->∃q,q∈fk l/\sm ts x.aF q y:=λy j=>by
          obtain⟨q,M,u⟩:=pN F y j;exact⟨q,M,ih _ _ _ (by have:=af.1 q (EC M);omega) aM L u⟩
         have aP:=EI (C:=300) hs (λq R v J=>(ih _ _ _ (by have:=af.1 q (Ab R);omega) d1 d2 J).2.2);have ap:=EI (C:=300) F (λq R v J=>(ih _ _ _ (by have:=af.1 q (EC R);omega) aM L J).2.2);refine⟨⟨⟨t0,t1,k8.symm,λh=>by cases h⟩,.inr (.inr (.inr (.inr (.inr (.inr (.inr (.inl ⟨rfl,rfl,rfl,rfl,rfl,rfl,?_,?_,cF.2 ?_,cF.2 ?_,vW.1 an⟩)))))))⟩,mU (by omega) l8 (by omega) (by simp) (by omega) (by omega) (by simp) ?_ ?_ (by simp),?_⟩
         . grind
         . grind
         . intro y j;obtain⟨q,_,u⟩:=ao y j;exact u.1
         . intro y j;obtain⟨q,_,u⟩:=Q y j;exact u.1
         . intro y j;obtain⟨q,_,u⟩:=ao y j;exact u.2.1
         . intro y j;obtain⟨q,_,u⟩:=Q y j;exact u.2.1
         . rw[fD];grind
       . cases h
    . cases h
 rw[al k8]at h;have k5:x.Kind=5:=by obtain⟨aA,aC⟩:=ct.S.K x B;omega
 unfold ng at h;obtain⟨au,aG⟩:=ct.S.A x B (.inl k5);cases E:iO p with
 |none=>rw[E]at h;cases h
 |some l=>
  rw[E]at h;dsimp only at h;obtain⟨o,aa,ab,ai⟩:=Em G;have af:(∀f,f∈l->f.Data.length<=p.length/\cn f.ad)/\l.Pairwise (λa b=>a.ad<b.ad)/\l.length<=p.length:=by grind
  have U:=N0 l;rw[NY G E]at U;cases hs:cf (ef (cX ts n) l) x.ah with
  |none=>rw[hs]at h;cases h
  |some Z=>
   rw[hs]at h;dsimp only at h;split at h
   . rename_i an;cases h;have Y:=qO hs;have ax:∀i,i<x.ah.length->bY ts false (x.ah.getD i aB).aw (Z.getD i av)/\bJ (Z.getD i av):=λi P=>by
      have z:=bg P aB;have:=Ij aB av hs i P;unfold ef at this;cases O:l.find? (λf=>decide (f.ad=(x.ah.getD i aB).ad))with
      |some g=>
       rw[O]at this;have:=ih _ _ _ (by have:=(af.1 g (BY O)).1;omega) (ct.mem B z).1 (ct.mem B z).2 this;exact⟨this.1,this.2.1⟩
      |none=>
       rw[O]at this;dsimp only at this;split at this
       . rename_i X;have e:=(mc this)
         rw[<-e];exact⟨oC _ _ (H.D x B _ z X),(H.T x B).3 _ z⟩
       . cases this
     have ap:=N2 (C:=300) (d:=13) (λ_ _=>trivial) (λm z=>⟨λX=>H.W x B m z X,λg aq v J=>(ih _ _ _ (by have:=(af.1 g aq).1;omega) (ct.mem B z).1 (ct.mem B z).2 J).2.2⟩) hs;have aN:=PO (C:=300) (d:=13) (by omega) au l;refine⟨⟨⟨t0,t1,k5.symm,λh=>by cases h⟩,.inr (.inr (.inr (.inr (.inl ⟨rfl,rfl,rfl,rfl,rfl,rfl,NQ af.2.1 (λf O=>(af.1 f O).2),hJ.2 ⟨Y,λi P=>(ax i P).1⟩⟩))))⟩,mU (by omega) l8 (by omega) (by simp) (by simp) (by omega) ?_ (by simp) ?_ ?_,?_⟩
     . unfold fa;grind
     . intro y j;obtain⟨i,P,rfl⟩:=e3 j;grind
     . intro r ag;obtain⟨f,f1,_,rfl⟩:=HW ag;grind
     . rw[fD];show 10+0+((fa x l).map λr=>r.Data.length+1).sum+cH []+cH Z<=_;rw[gH];omega
   . cases h
theorem NR(H:c8 ts):∀(n:Nat) (t:Int) (p:ak) (v:I),p.length<=90000->0<=t->t<ts.length->cX ts n t p=some v->sm ts t p v
 |0,t,p,v,_,_,_,h=>by rw[Ac]at h;cases h
 |n+1,t,p,v,a,t0,t1,h=>abZ H (NR H n) a t0 t1 h
end
theorem NS:∀{A B:List Fd},A.Pairwise (λa b=>a.id<b.id)->B.Pairwise (λa b=>a.id<b.id)->(∀x,x∈A↔x∈B)->A=B
 |[],[],_,_,_=>rfl
 |[],b::B,_,_,h=>by have:=(h b).2 (.head _);cases this
 |a::A,[],_,_,h=>by have:=(h a).1 (.head _);cases this
 |a::A,b::B,c,dy,h=>by
  rw[h5]at c dy;have e:a=b:=by grind
  subst e;rw[NS c.2 dy.2 λx=>?_];grind
theorem I'{l:List α}{y:α}(d:α)(h:y∈l):∃i,i<l.length/\l.getD i d=y:=by
 obtain⟨i,a,rfl⟩:=e3 h;exact⟨i,a,du a d⟩
section
variable {ts:List ai}
theorem HN:∀{ms:List aS} {l:List I} {j:Nat},j<ms.length->j<l.length->dc (ms.getD j aB) (l.getD j av)=false->
 (⟨(ms.getD j aB).ad.toNat,(ms.getD j aB).cg,bp ts (ms.getD j aB).aw (l.getD j av)⟩:Fd)∈dm ts ms l
 |[],l,j,h,_,_=>by simp at h
 |m::ms,[],j,_,h,_=>by simp at h
 |m::ms,v::l,0,_,_,h=>by
  rw[dm];grind
 |m::ms,v::l,j+1,h1,a,h=>by
  rw[dm];have:=HN (ms:=ms) (l:=l) (j:=j) (by simpa using h1) (by simpa using a) h;grind
theorem NT{r:Nat}:∀{ms:List aS} {l:List I},(∀j,j<ms.length->j<l.length->dc (ms.getD j aB) (l.getD j av)=false->dJ ts (ms.getD j aB).aw (l.getD j av)<=r)->fc ts ms l<=r
 |[],l,_=>by
  have:fc ts [] l=0:=by rw[fc]<;>simp
  omega
 |m::ms,[],_=>by
  have:fc ts (m::ms) []=0:=by rw[fc]<;>simp
  omega
 |m::ms,v::l,h=>by
  have ih:=NT (ms:=ms) (l:=l) λj h1 a b=>h (j+1) (by simpa using h1) (by simpa using a) b;rw[fc];split
  . exact ih
  . rename_i c;have:=h 0 (by simp) (by simp) (by simpa using c);grind
theorem zA{r:Nat}:∀{l:List I},(∀y,y∈l->dJ ts t y<=r)->dD ts t l<=r
 |[],_=>by rw[dD];exact hv _
 |v::l,h=>by
  rw[dD];exact Nat.max_le.2 ⟨h v (.head _),zA λy a=>h y (.tail _ a)⟩
end
abbrev fM:=Int->I->Int->ar->I ⊕ ar
def iY{α:Type}:α ⊕ ar->List α ⊕ ar->List α ⊕ ar
 |.inr p,_=>.inr p
 |.inl _,.inr p=>.inr p
 |.inl u,.inl l=>.inl (u::l)
def h4{α a:Type}(g:α->a):α ⊕ ar->a ⊕ ar
 |.inr p=>.inr p
 |.inl u=>.inl (g u)
def mx{α a:Type}(g:α->a ⊕ ar):α ⊕ ar->a ⊕ ar
 |.inr p=>.inr p
 |.inl u=>g u
def hq(l:List aS)(id:Int):Option Nat:=l.findIdx? λm=>decide (m.ad=id)
def l6(l:List aS)(id:Int):Int×Bool:=match hq l id with
 |some j=>((j:Int),true)
 |none=>(0,false)
def e2(f:fM)(path:ar)(t rt:Int):Nat->List I->List I ⊕ ar
 |_,[]=>.inl []
 |i,v::l=>iY (f t v rt (path++[(i:Int)])) (e2 f path t rt (i+1) l)
noncomputable def AH (m:aS)(w:I)(n:aS)(a:ar):I ⊕ ar->I ⊕ ar
 |.inr p=>if dc m w then .inr a else .inr p
 |.inl u=>if dc m w=true/\dc n u=false then .inr a else .inl u
noncomputable def wX (f:fM)(x:ai)(v:I)(path:ar)(n:aS):I ⊕ ar:=match hq x.ah n.ad with
 |none=>if n.bV then .inl n.bB else .inr (path++[n.ad])
 |some i=>AH (x.ah.getD i aB) (v.aj.getD i av) n (path++[n.ad]) (f (x.ah.getD i aB).aw (v.aj.getD i av) n.aw (path++[n.ad]))
noncomputable def jj (f:fM)(x:ai)(v:I)(path:ar):List aS->List I ⊕ ar
 |[]=>.inl []
 |n::l=>iY (wX f x v path n) (jj f x v path l)
noncomputable def iz (tw:List ai)(y:ai)(path:ar):List aS->List I->List bX ⊕ ar
 |m::ms,v::l=>if(cB y.ah m.ad).isSome then iz tw y path ms l
  else if m.cg then .inr (path++[m.ad])
  else if dc m v then iz tw y path ms l
  else iY (.inl ⟨m.ad,bp tw m.aw v⟩) (iz tw y path ms l)
 |_,_=>.inl []
def jz(x y:ai)(v:I):Prop:=(x.Kind=2->y.bF<=v.bd/\v.bd<=y.bH)/\(x.Kind=3->(v.bl.length:Int)<=y.Max)/\(x.Kind=4->(∃s,s∈y.bh/\s.ad=v.ad)\/y.Open=true)
noncomputable def wW (tw:List ai)(f:fM)(x y:ai)(v:I)(path:ar):I ⊕ ar:=
 mx (λa=>h4 (λr=>⟨5,false,0,[],0,[],a,r⟩) (iz tw y path x.ah v.aj)) (jj f x v path y.ah)
noncomputable def uF (tw:List ai)(f:fM)(x y:ai)(v:I)(path:ar):I ⊕ ar:=match hq x.ah v.ad with
 |none=>.inr path
 |some i=>match hq y.ah v.ad with
  |some k=>h4 (λu=>⟨6,false,0,[],v.ad,[],[u],[]⟩) (f (x.ah.getD i aB).aw (v.aj.getD 0 av) (y.ah.getD k aB).aw (path++[v.ad]))
  |none=>if y.Open then .inl ⟨6,false,0,[],v.ad,[],[],[⟨v.ad,bp tw (x.ah.getD i aB).aw (v.aj.getD 0 av)⟩]⟩else .inr path
def AE(f:fM)(x y:ai)(v:I)(path:ar):I ⊕ ar:=
 if(v.aj.length:Int)<=y.Max then h4 (λa=>⟨7,false,0,[],0,[],a,[]⟩) (e2 f path x.aF y.aF 0 v.aj)else .inr path
def AF(f:fM)(x y:ai)(v:I)(path:ar):I ⊕ ar:=
 if(v.aj.length:Int)<=y.Max then mx (λks=>h4 (λa=>⟨8,false,0,[],0,ks,a,[]⟩) (e2 f path x.aF y.aF 0 v.aj)) (e2 f path x.Key y.Key 0 v.ay)else .inr path
def AG(f:fM)(x y:ai)(v:I)(path:ar):I ⊕ ar:=
 h4 (λa=>⟨9,false,0,[],0,[],a,[]⟩) (e2 f path x.aF y.aF 0 v.aj)
open Classical in
noncomputable def iy (tw:List ai)(f:fM)(x y:ai)(v:I)(path:ar):I ⊕ ar:=
 if ¬x.Kind=y.Kind then .inr path
 else if x.Kind=5 then wW tw f x y v path
 else if x.Kind=6 then uF tw f x y v path
 else if x.Kind=7 then AE f x y v path
 else if x.Kind=8 then AF f x y v path
 else if x.Kind=9 then AG f x y v path
 else if jz x y v then .inl v else .inr path
noncomputable def er (tw tr:List ai):Nat->fM
 |0=>λ_ _ _ path=>.inr path
 |n+1=>λt v rt path=>iy tw (er tw tr n) (tw.getD t.toNat aJ) (tr.getD rt.toNat aJ) v path
theorem Dq(n:Nat)(t:Int)(v:I)(rt:Int)(path:ar):er tw tr (n+1) t v rt path=iy tw (er tw tr n) (tw.getD t.toNat aJ) (tr.getD rt.toNat aJ) v path:=rfl
section
variable {tw:List ai}{f:fM}{x y:ai}{v:I}{path:ar}
theorem PQ(bC:¬x.Kind=y.Kind):iy tw f x y v path= .inr path:=by unfold iy;rw[ae bC]
theorem SO(bC:x.Kind=y.Kind)(h:x.Kind=5):iy tw f x y v path=wW tw f x y v path:=by unfold iy;rw[al (λh=>h bC),ae h]
theorem SP(bC:x.Kind=y.Kind)(h:x.Kind=6):iy tw f x y v path=uF tw f x y v path:=by unfold iy;rw[al (λh=>h bC),bx,ae h]
theorem SQ(bC:x.Kind=y.Kind)(h:x.Kind=7):iy tw f x y v path=AE f x y v path:=by unfold iy;rw[al (λh=>h bC),bx,bx,ae h]
theorem SR(bC:x.Kind=y.Kind)(h:x.Kind=8):iy tw f x y v path=AF f x y v path:=by unfold iy;rw[al (λh=>h bC),bx,bx,bx,ae h]
theorem SS(bC:x.Kind=y.Kind)(h:x.Kind=9):iy tw f x y v path=AG f x y v path:=by unfold iy;rw[al (λh=>h bC),bx,bx,bx,bx,ae h]
theorem rN(bC:x.Kind=y.Kind)(h:x.Kind<=4)(af:jz x y v):iy tw f x y v path= .inl v:=by unfold iy;rw[al (λh=>h bC),bx,bx,bx,bx,bx,ae af]
theorem wV(bC:x.Kind=y.Kind)(h:x.Kind<=4)(af:¬jz x y v):iy tw f x y v path= .inr path:=by unfold iy;rw[al (λh=>h bC),bx,bx,bx,bx,bx,al af]
end
theorem NU{m:aS}{n:aS}{a p:ar}:AH m w n a (.inr p)=if dc m w then .inr a else .inr p:=rfl
theorem NV{m:aS}{n:aS}{a:ar}{u:I}:AH m w n a (.inl u)=if dc m w=true/\dc n u=false then .inr a else .inl u:=rfl
theorem kb{l:List aS}{j:Nat}(h:hq l id=some j):j<l.length/\(l.getD j aB).ad=id/\∀k,k<j->(l.getD k aB).ad≠id:=by
 obtain⟨h1,a,b⟩:=List.findIdx?_eq_some_iff_getElem.1 h;refine⟨h1,?_,λk c=>?_⟩
 . rw[du h1];simpa using a
 . rw[du (by omega)];simpa using b k c
theorem N3{l:List aS}(h:hq l id=none):∀k,k<l.length->(l.getD k aB).ad≠id:=λk a=>by
 have:=List.findIdx?_eq_none_iff.1 h _ (bg a aB);simpa using this
theorem MQ(l:List aS)(id:Int):ui l id (l6 l id):=by
 unfold l6;cases h:hq l id with
 |some j=>exact .inl ⟨j,(kb h).1,(kb h).2.1,(kb h).2.2,rfl⟩
 |none=>exact .inr ⟨N3 h,rfl⟩
theorem vL(l:List aS)(id:Int):(hq l id).isSome=(cB l id).isSome:=by
 cases h:hq l id with
 |some j=>
  obtain⟨h1,b,_⟩:=kb h;cases g:cB l id with
  |some _=>rfl
  |none=>exact absurd b (nQ g _ (bg h1 aB))
 |none=>
  cases g:cB l id with
  |none=>rfl
  |some m=>
   obtain⟨c,d⟩:=j' g;obtain⟨i,a,rfl⟩:=e3 c;exact absurd d (by rw[<-du a aB];exact N3 h i a)
theorem HX{a:α ⊕ ar}{b:List α ⊕ ar}{l:List α}(h:iY a b= .inl l):∃u us,a= .inl u/\b= .inl us/\l=u::us:=by
 cases a with
 |inr p=>simp[iY]at h
 |inl u=>cases b with
  |inr p=>simp[iY]at h
  |inl us=>exact⟨u,us,rfl,rfl,by simpa[iY]using h.symm⟩
theorem zB{g:α->c}{a:α ⊕ ar}{b:c}(h:h4 g a= .inl b):∃u,a= .inl u/\b=g u:=by
 cases a with
 |inr p=>simp[h4]at h
 |inl u=>exact⟨u,rfl,by simpa[h4]using h.symm⟩
theorem MR{g:α->c ⊕ ar}{a:α ⊕ ar}{b:c}(h:mx g a= .inl b):∃u,a= .inl u/\g u= .inl b:=by
 cases a with
 |inr p=>simp[mx]at h
 |inl u=>exact⟨u,rfl,by simpa[mx]using h⟩
theorem Dr{f:fM}{path:ar}{t rt:Int}:∀{l:List I} {i:Nat} {us:List I},e2 f path t rt i l= .inl us->us.length=l.length/\∀j,j<l.length->f t (l.getD j av) rt (path++[((i+j:Nat):Int)])= .inl (us.getD j av)
 |[],i,us,h=>by
  simp only[e2,Sum.inl.injEq]at h;subst h;exact⟨rfl,λj c=>by simp at c⟩
 |v::l,i,us,h=>by
  obtain⟨u,e,h1,d,rfl⟩:=HX h;obtain⟨a,b⟩:=Dr d;refine⟨by simp[a],λj c=>?_⟩;cases j with
  |zero=>exact h1
  |succ j=>
   have:=b j (by simpa using c);rw[show i+1+j=i+(j+1) by omega]at this;exact this
theorem MS{f:fM}{x:ai}{v:I}{path:ar}:∀{l:List aS} {us:List I},jj f x v path l= .inl us->us.length=l.length/\∀j,j<l.length->wX f x v path (l.getD j aB)= .inl (us.getD j av)
 |[],us,h=>by
  simp only[jj,Sum.inl.injEq]at h;subst h;exact⟨rfl,λj c=>by simp at c⟩
 |n::l,us,h=>by
  obtain⟨u,e,h1,d,rfl⟩:=HX h;obtain⟨a,b⟩:=MS d;refine⟨by simp[a],λj c=>?_⟩;cases j with
  |zero=>exact h1
  |succ j=>exact b j (by simpa using c)
variable{f:fM}
theorem ab0{n:aS}{u:I}(h:wX f x v path n= .inl u):
 (hq x.ah n.ad=none/\n.bV=true/\u=n.bB)\/∃i,hq x.ah n.ad=some i/\f (x.ah.getD i aB).aw (v.aj.getD i av) n.aw (path++[n.ad])= .inl u/\(dc (x.ah.getD i aB) (v.aj.getD i av)=true->dc n u=true):=by
 unfold wX at h;cases b:hq x.ah n.ad with
 |none=>
  simp only[b]at h;by_cases a:n.bV=true
  . rw[ae a]at h;exact .inl ⟨rfl,a,by simpa using h.symm⟩
  . rw[al a]at h;cases h
 |some i=>
  simp only[b]at h;refine .inr ⟨i,rfl,?_⟩;revert h;cases f (x.ah.getD i aB).aw (v.aj.getD i av) n.aw (path++[n.ad])with
  |inr p=>intro h;unfold AH at h;grind
  |inl w=>intro h;unfold AH at h;grind
theorem Eo{tw:List ai}{y:ai}{path:ar}:∀{ms:List aS} {l:List I} {r:List bX},iz tw y path ms l= .inl r->
 r.length<=ms.length/\(r.map λa=>a.ad).Sublist (ms.map λm=>m.ad)/\∀a,a∈r->cB y.ah a.ad=none/\∃j,j<ms.length/\j<l.length/\a=⟨(ms.getD j aB).ad,bp tw (ms.getD j aB).aw (l.getD j av)⟩
 |[],l,r,h=>by
  rw[iz]at h
  . cases h;simp
  . intros;simp_all
 |m::ms,[],r,h=>by
  rw[iz]at h
  . cases h;simp
  . intros;simp_all
 |m::ms,v::l,r,h=>by
  have g:∀{r},iz tw y path ms l= .inl r->r.length<=(m::ms).length/\(r.map λa=>a.ad).Sublist ((m::ms).map λm=>m.ad)/\∀a,a∈r->cB y.ah a.ad=none/\∃j,j<(m::ms).length/\j<(v::l).length/\a=⟨((m::ms).getD j aB).ad,bp tw ((m::ms).getD j aB).aw ((v::l).getD j av)⟩:=λ{r} h=>by
   obtain⟨a,b,c⟩:=Eo h;refine⟨by simp;omega,by rw[fB];exact b.cons _,λq f=>?_⟩;obtain⟨d,j,o,p,e⟩:=c q f;exact⟨d,j+1,by simp;omega,by simp;omega,e⟩
  rw[iz]at h;by_cases d:(cB y.ah m.ad).isSome=true
  . rw[ae d]at h;exact g h
  rw[al d]at h;by_cases i:m.cg=true
  . rw[ae i]at h;cases h
  rw[al i]at h;by_cases k:dc m v=true
  . rw[ae k]at h;exact g h
  rw[al k]at h;obtain⟨u,us,aM,n,rfl⟩:=HX h;cases aM;obtain⟨a,b,c⟩:=Eo n;refine⟨by simp;omega,by rw[fB,fB];exact b.cons₂ _,λq f=>?_⟩;rcases eK.1 f with rfl|f
  . exact⟨by simpa using d,0,by simp,by simp,rfl⟩
  . exact(g n).2.2 q f
section
variable {ts:List ai}
theorem AY{n:Nat}(h:n<16384):(dQ n).length<=2:=Ib 1 n (by simpa using h)
theorem wK(h:p.length<16384):(c7 p).length<=p.length+2:=by
 have:=AY h;unfold c7;simp;omega
def lN(ts:List ai)(t:Int)(v:I):Prop:=(bp ts t v).length+4<=wt v
theorem D9{t:Int}:∀{l:List I},cH l<=3000->(∀y,y∈l->lN ts t y)->((bt ts t l).flatMap c7).length<=cH l
 |[],_,_=>by rw[bt];simp
 |v::l,a,h=>by
  rw[bt,eZ,cm];rw[hi]at a⊢;have h1:=h v (.head _);unfold lN at h1;have c:=D9 (t:=t) (l:=l) (by omega) λx b=>h x (.tail _ b);have d:=wK (p:=bp ts t v) (by omega);omega
theorem N4{l:List I}(h:∀y,y∈l->lN ts t y):((bt ts t l).headD []).length+4<=cH l\/l=[]:=by
 cases l with
 |nil=>exact .inr rfl
 |cons v l=>
  refine .inl ?_;have h1:=h v (.head _);unfold lN at h1;rw[bt,hi];grind
theorem M':∀{ms:List aS} {l:List I},cH l<=3000->(∀m,m∈ms->m.ad<=1000)->l.length=ms.length->(∀i,i<ms.length->lN ts (ms.getD i aB).aw (l.getD i av))->((dm ts ms l).flatMap Fd.text).length<=cH l
 |[],l,_,_,_,_=>by rw[dm]<;>simp
 |m::ms,[],_,_,af,_=>by simp at af
 |m::ms,v::l,c,a,af,h=>by
  rw[hi]at c⊢;rw[dm];have h1:lN ts m.aw v:=h 0 (by simp);unfold lN at h1;have e:=M' (ms:=ms) (l:=l) (by omega) (λx d=>a x (.tail _ d)) (by simpa using af) λi b=>h (i+1) (by simpa using b);have g:=a m (.head _);split
  . omega
  . rw[eZ,cm];have a1:=wK (p:=bp ts m.aw v) (by omega);have a2:=AY (n:=2*m.ad.toNat+(if m.cg then 1 else 0)) (by split<;>omega);have f:(Fd.text ⟨m.ad.toNat,m.cg,bp ts m.aw v⟩).length<=(bp ts m.aw v).length+4:=by
     show(eX m.ad.toNat m.cg (bp ts m.aw v)).length<=_;unfold eX;grind
    omega
theorem abn(H:c8 ts)(x:bJ v):∀t,bY ts true t v->wt v<=3000->lN ts t v:=by
 have d:=H.V.hx H.T;induction x with
 |mk v hs h1 P Q X U Y c' ab ae af B z=>
  intro t u Z;obtain⟨⟨K,N,O,p⟩,s⟩:=(eJ _ _ _).1 u;have w:t.toNat<ts.length:=by omega
  have c:=bg w aJ;have r:=p rfl;have aa:=fD v;have a6:∀y,y∈v.ay->wt y+10<=wt v:=λy a=>by have:=fv a;omega
  have D:∀y,y∈v.aj->wt y+10<=wt v:=λy a=>by have:=fv a;omega
  have C:∀t,e4 ts true t v.ay->∀y,y∈v.ay->lN ts t y:=λt ht y a=>B y a t (cF.1 ht y a) (by have:=a6 y a;omega);have f:∀t,e4 ts true t v.aj->∀y,y∈v.aj->lN ts t y:=λt ht y a=>z y a t (cF.1 ht y a) (by have:=D y a;omega);unfold lN;rcases s with h|h|h|h|h|h|h|h|h
  . rw[xa (by omega)];grind
  . have R:=H.L _ c (by omega);rw[xc (by omega)];have:=vU 1 (fE v.bd).toNat (by unfold fE;split<;>omega);omega
  . rw[xd (by omega)];omega
  . rw[xe (by omega)];have j:v.ad.toNat<256^2:=by
     rcases h.2.2.2.2.2.2.2 with⟨y,F,ag⟩|⟨_,h,_⟩
     . have:=d.S _ c (by omega) y F;unfold cn at this;omega
     . cases h
    have:=vU 2 _ j;omega
  . obtain⟨a1,a2,a3,a4,a5,b,g,e⟩:=h;obtain⟨k,E⟩:=d.A _ c (.inl (by omega));obtain⟨f1,f2⟩:=hJ.1 e;rw[qq (by omega),y4 (kK _ _)];unfold fg;rw[r,mf,lD];have:=M' (ts:=ts) (l:=v.aj) (by omega) (d.M _ c) f1 λi W=>by grind
    omega
  . obtain⟨a1,a2,a3,a4,a5,b⟩:=h;rw[oD (by omega)];cases bw:cB (ts.getD t.toNat aJ).ah v.ad with
    |none=>rw[bw]at b;cases b.2.1
    |some m=>
     rw[bw]at b;obtain⟨b1,b2,b3⟩:=b;obtain⟨k,E⟩:=j' bw;have j:=d.M _ c m k;have:=AY (n:=v.ad.toNat) (by omega);rw[cm];rcases N4 (f _ b3)with q|q
     . grind
     grind
  . obtain⟨a1,a2,a3,a4,a5,b,g,e,a9⟩:=h;rw[oE (by omega)];have:=D9 (l:=v.aj) (by omega) (f _ a9);omega
  . obtain⟨a1,a2,a3,a4,a5,b,g,e,a9,o,G⟩:=h;rw[oF (by omega)];have aM:=D9 (l:=v.aj) (by omega) (f _ o);have J:=D9 (l:=v.ay) (by omega) (C _ a9);have:=D4 (bt ts (ts.getD t.toNat aJ).Key v.ay) (bt ts (ts.getD t.toNat aJ).aF v.aj);omega
  . obtain⟨a1,a2,a3,a4,a5,b,g,e,a9⟩:=h;rw[oG (by omega)];rcases N4 (f _ a9)with q|q
    . grind
    . rw[q,bt];simp;omega
end
def gy(ts:List ai):Nat->Int->I->Prop
 |0,_,_=>False
 |n+1,t,v=>((bp ts t v).length<=4096/\v.aj.length<=1000/\v.ay.length<=1000)/\
  ((ts.getD t.toNat aJ).Kind=5->∀i,i<(ts.getD t.toNat aJ).ah.length->gy ts n ((ts.getD t.toNat aJ).ah.getD i aB).aw (v.aj.getD i av))/\
  ((ts.getD t.toNat aJ).Kind=6->∀m,cB (ts.getD t.toNat aJ).ah v.ad=some m->∀y,y∈v.aj->gy ts n m.aw y)/\
  (7<=(ts.getD t.toNat aJ).Kind->(∀y,y∈v.aj->gy ts n (ts.getD t.toNat aJ).aF y)/\∀y,y∈v.ay->gy ts n (ts.getD t.toNat aJ).Key y)
section
variable {ts:List ai}
theorem gy.len{n:Nat}(h:gy ts n t v):(bp ts t v).length<=4096:=by
 cases n with
 |zero=>cases h
 |succ n=>exact h.1.1
theorem Ep(p:ak):p.length<=(c7 p).length:=by unfold c7;simp
theorem Ja{t:Int}:∀{l:List I} {y:I},y∈l->(bp ts t y).length<=((bt ts t l).flatMap c7).length
 |v::l,y,h=>by
  rw[bt,eZ,cm];rcases eK.1 h with rfl|h
  . have:=Ep (bp ts t y);omega
  . have:=Ja (t:=t) h;omega
theorem HO:∀{ms:List aS} {l:List I} (i:Nat),i<ms.length->i<l.length->dc (ms.getD i aB) (l.getD i av)=false->(bp ts (ms.getD i aB).aw (l.getD i av)).length<=((dm ts ms l).flatMap Fd.text).length
 |m::ms,v::l,0,_,_,a=>by
  rw[dm];simp only[jy]at a⊢;rw[al (by simp[a]),eZ,cm];have c:(bp ts m.aw v).length<=(Fd.text ⟨m.ad.toNat,m.cg,bp ts m.aw v⟩).length:=by
   show _<=(eX m.ad.toNat m.cg (bp ts m.aw v)).length;have:=Ep (bp ts m.aw v);unfold eX;simp only[cm];omega
  omega
 |m::ms,v::l,i+1,h1,b,a=>by
  have:=HO (ms:=ms) (l:=l) i (by simpa using h1) (by simpa using b) (by simpa using a);rw[dm];simp only[wI];split
  . exact this
  . rw[eZ,cm];omega
theorem SA{m:aS}(h:dc m v=true):m.bV=true/\v=m.bB:=by
 unfold dc at h;grind
theorem EJ:∀{a b:List ak} {p:ak},a.length=b.length->p∈a\/p∈b->p.length<=(fi a b).length
 |[],[],p,_,h=>by simp at h
 |k::ks,v::vs,p,af,h=>by
  have aM:=Ep k;have c:=Ep v;have ih:=@EJ ks vs p (by simpa using af);simp only[fi,cm];simp only[eK]at h;grind
theorem Ad:∀{l:List I} {y:I},y∈l->bp ts t y∈bt ts t l
 |v::l,y,h=>by
  rw[bt];rcases eK.1 h with rfl|h
  . simp
  . exact .tail _ (Ad h)
theorem aeg(c:(ts.getD t.toNat aJ).Kind<=4)(b:bY ts true t v):dJ ts t v=1:=by
 obtain⟨⟨_,_,k3,_⟩,a⟩:=(eJ _ _ _).1 b;refine Aa ?_ ?_
 . rcases a with k|k|k|k|k|k|k|k|k
   . exact k.2.2.2.2.1
   . exact k.2.2.2.2.1
   . exact k.2.2.2.2.1
   . exact k.2.2.2.2.1
   all_goals omega
 . rcases a with k|k|k|k|k|k|k|k|k
   . exact k.2.2.2.2.2.1
   . exact k.2.2.2.2.2.1
   . exact k.2.2.2.2.2.1
   . exact k.2.2.2.2.2.1
   all_goals omega
theorem oz(H:c8 ts):∀(n:Nat) {v:I} {t:Int},bJ v->bY ts true t v->(bp ts t v).length<=4096\/wt v<=3000->dJ ts t v+13<=n\/wt v<=n->gy ts n t v
 |0,v,t,_,_,_,f=>by have:=ad9 v;omega
 |n+1,v,t,k,D,d,f=>by
  have E:=H.V.hx H.T;have af:(bp ts t v).length<=4096:=by
   rcases d with h|h
   . exact h
   . have:=abn H k t D h;unfold lN at this;omega
  have ap:=fD v;obtain⟨⟨Y,Z,aa,G⟩,K⟩:=(eJ _ _ _).1 D;have L:t.toNat<ts.length:=by omega
  have w:=bg L aJ;have am:=H.M _ w;have ak:=(H.cv _ w).2.2;have J:=G rfl;cases k with
  |mk _ hs h1 ab ag N l ao c' ar au ax=>
  have u:wt v<=3000->∀y,y∈v.aj->wt y<=3000:=λh y c=>by have:=fv c;omega
  have U:wt v<=3000->∀y,y∈v.ay->wt y<=3000:=λh y c=>by have:=fv c;omega
  have z:wt v<=n+1->∀y,y∈v.aj->wt y<=n:=λh y c=>by have:=fv c;omega
  have Q:wt v<=n+1->∀y,y∈v.ay->wt y<=n:=λh y c=>by have:=fv c;omega
  have r:=pP (ts:=ts) t v
  have bL:7<=(ts.getD t.toNat aJ).Kind->∀y,y∈v.aj->dJ ts (ts.getD t.toNat aJ).aF y+13<=n\/wt y<=n:=λai y c=>f.imp (λf=>by
   rw[al (show ¬(ts.getD t.toNat aJ).Kind=5 by omega),al (show ¬(ts.getD t.toNat aJ).Kind=6 by omega)]at r;have:=tI (ts:=ts) (t:=(ts.getD t.toNat aJ).aF) c
   omega) λf=>z f _ c
  have x:v.aj=[]->v.ay=[]->v.aj.length<=1000/\v.ay.length<=1000:=λa b=>by rw[a,b];simp
  unfold gy;rcases K with h|h|h|h|h|h|h|h|h
  . obtain⟨a1,a2,a3,a4,a5,g,j⟩:=h;exact⟨⟨af,x g a5⟩,by omega,by omega,by omega⟩
  . obtain⟨a1,a2,a3,a4,a5,g,j,_⟩:=h;exact⟨⟨af,x g a5⟩,by omega,by omega,by omega⟩
  . obtain⟨a1,a2,a3,a4,a5,g,j,_⟩:=h;exact⟨⟨af,x g a5⟩,by omega,by omega,by omega⟩
  . obtain⟨a1,a2,a3,a4,a5,g,j,_⟩:=h;exact⟨⟨af,x g a5⟩,by omega,by omega,by omega⟩
  . obtain⟨a1,a2,a3,a4,a5,g,j,o⟩:=h;obtain⟨f1,f2⟩:=hJ.1 o;refine⟨⟨af,by omega,by rw[g];simp⟩,λ_ i q=>?_,by omega,by omega⟩;have s:=bg (by omega:i<v.aj.length) av;cases A:dc ((ts.getD t.toNat aJ).ah.getD i aB) (v.aj.getD i av)with
    |true=>
     obtain⟨R,S⟩:=SA A;have dj:=H.W _ w _ (bg q aB) R;rw[<-S]at dj;refine oz H n (l _ s) (f2 i q) (.inr (by omega)) (.inr ?_);rcases f with f|f
     . omega
     . exact z f _ s
    |false=>
     refine oz H n (l _ s) (f2 i q) ?_ (f.imp (λf=>by
      rw[ae (show(ts.getD t.toNat aJ).Kind=5 by omega)]at r;have:=HU (ts:=ts) q (by omega:i<v.aj.length) A
      omega) λf=>z f _ s)
     rcases d with d|d
     . left;have h0:=HO (ts:=ts) i q (by omega:i<v.aj.length) A;rw[qq (by omega),y4 (kK _ _)]at af;unfold fg at af;rw[J,mf,lD]at af;omega
     . exact .inr (u d _ s)
  . obtain⟨a1,a2,a3,a4,a5,g⟩:=h;cases bw:cB (ts.getD t.toNat aJ).ah v.ad with
    |none=>rw[bw]at g;cases g.2.1
    |some m=>
     rw[bw]at g;obtain⟨b1,b2,b3⟩:=g;refine⟨⟨af,by omega,by rw[a5];simp⟩,by omega,λ_ aq O y c=>?_,by omega⟩;cases O
     refine oz H n (l _ c) (cF.1 b3 _ c) ?_ (f.imp (λf=>by
      rw[al (show ¬(ts.getD t.toNat aJ).Kind=5 by omega),ae (show(ts.getD t.toNat aJ).Kind=6 by omega),bw]at r;have:=tI (ts:=ts) (t:=m.aw) c;dsimp only at r
      omega) λf=>z f _ c)
     rcases d with d|d
     . left;rw[oD (by omega),bw,cm]at af;have B:(bt ts m.aw v.aj).headD []=bp ts m.aw y:=by
        match k:v.aj,b2 with
        |[a],_=>rw[k]at c;rw[rZ.1 c,bt,bt];rfl
       simp only[B]at af;omega
     . exact .inr (u d _ c)
  . obtain⟨a1,a2,a3,a4,a5,g,j,o,a9⟩:=h;have C:=bL (by omega);refine⟨⟨af,by omega,by simp_all⟩,by omega,by omega,λ_=>⟨λy c=>oz H n (l _ c) (cF.1 a9 _ c) ?_ (C _ c),λy c=>by simp_all⟩⟩;rcases d with d|d
    . left;rw[oE (by omega)]at af;have:=Ja (ts:=ts) (t:=(ts.getD t.toNat aJ).aF) c;omega
    . exact .inr (u d _ c)
  . obtain⟨a1,a2,a3,a4,a5,g,j,o,a9,F,X⟩:=h;have an:=D4 (bt ts (ts.getD t.toNat aJ).Key v.ay) (bt ts (ts.getD t.toNat aJ).aF v.aj)
    refine⟨⟨af,by omega,by omega⟩,by omega,by omega,λ_=>⟨λy c=>oz H n (l _ c) (cF.1 F _ c) ?_ (bL (by omega) _ c),λy c=>oz H n (N _ c) (cF.1 a9 _ c) ?_ (f.imp (λf=>by
     have P:v.ay≠[]:=λe=>by rw[e]at c;cases c
     rw[al P]at r;have:=aeg (E.qx _ w (by omega)).2 (cF.1 a9 _ c)
     omega) λf=>Q f _ c)⟩⟩
    all_goals
     rcases d with d|d
     case inr=>first|exact .inr (u d _ c)|exact .inr (U d _ c)
     left;rw[oF (by omega)]at af;have e:(bt ts (ts.getD t.toNat aJ).Key v.ay).length=(bt ts (ts.getD t.toNat aJ).aF v.aj).length:=by rw[kJ,kJ];omega
     have:=EJ (p:=bp ts _ y) e (by first|exact .inr (Ad c)|exact .inl (Ad c));omega
  . obtain⟨a1,a2,a3,a4,a5,g,j,o,a9⟩:=h;have C:=bL (by omega);refine⟨⟨af,by omega,by simp_all⟩,by omega,by omega,λ_=>⟨λy c=>oz H n (l _ c) (cF.1 a9 _ c) ?_ (C _ c),λy c=>by simp_all⟩⟩;rcases d with d|d
    . left;rw[oG (by omega)]at af;have B:bt ts (ts.getD t.toNat aJ).aF v.aj=[bp ts (ts.getD t.toNat aJ).aF y]:=by
       match k:v.aj,o with
       |[a],_=>rw[k]at c;rw[rZ.1 c,bt,bt]
       |[],_=>rw[k]at c;cases c
      rw[B]at af;rw[gi]at af;omega
    . exact .inr (u d _ c)
end
section
variable {tw tr:List ai}
theorem abo{n:Nat}{u:I}(a:(tw.getD t.toNat aJ).Kind<=4)(h:er tw tr n t v rt path= .inl u):u=v:=by
 cases n with
 |zero=>cases h
 |succ n=>
  rw[Dq]at h;unfold iy at h;grind
theorem abp(c:∀v rt path u,f t v rt path= .inl u->u=v){i:Nat}{l us:List I}(h:e2 f path t rt i l= .inl us):us=l:=by
 obtain⟨a,b⟩:=Dr h;exact ach a λj d=>c _ _ _ _ (b j (by omega))
theorem ab1{l:List I}{r:List bX}(d:gQ ms)(h:iz tw y path ms l= .inl r):jP y.ah r:=by
 obtain⟨_,b,c⟩:=Eo h;refine⟨?_,λa g=>?_⟩
 . have h1:(ms.map λm=>m.ad).Pairwise (· < ·):=ov.2 d.1;grind
 . obtain⟨f,j,i,k,e⟩:=c a g;refine⟨?_,f⟩;rw[e];exact d.2 _ (bg i aB)
theorem cn.i64{n:Int}(h:cn n): -9223372036854775808<=n/\n<=9223372036854775807:=by unfold cn at h;omega
def IY(tr:List ai)(rt:Int)(u:I):Prop:=bJ u/\bY tr false rt u
def E3(tw tr:List ai)(n:Nat):Prop:=∀{v:I},bJ v->∀{t rt:Int} {path:ar} {u:I},bY tw true t v->gy tw n t v->0<=rt->rt<tr.length->er tw tr n t v rt path= .inl u->IY tr rt u
theorem aaX(dh:c8 tw)(cQ:c8 tr){n:Nat}(ih:E3 tw tr n):E3 tw tr (n+1):=by
 intro v ar t rt path u aE au p s h;unfold gy at au;obtain⟨⟨z1,z2,z3⟩,ag,ai,J⟩:=au;have SW:=dh.V.hx dh.T;have cx:=cQ.V.hx cQ.T;have Q:=ar;have a6:=fD v;obtain⟨⟨aS,aT,aU,aV⟩,aD⟩:=(eJ _ _ _).1 aE;have aF:t.toNat<tw.length:=by omega
 have aG:rt.toNat<tr.length:=by omega
 have O:=bg aF aJ;have o:=bg aG aJ;have l:=λu=>(eJ (ts:=tr) false rt u).2;rw[Dq]at h;generalize a7:tw.getD t.toNat aJ=x at*;generalize a8:tr.getD rt.toNat aJ=y at*;cases ar with
 |mk _ hs h1 aW aX ap Z aZ c' bc bd be=>
 have ae:∀{t rt:Int} {i:Nat} {us:List I},e4 tw true t v.aj->(∀y,y∈v.aj->gy tw n t y)->0<=rt->rt<tr.length->e2 (er tw tr n) path t rt i v.aj= .inl us->us.length=v.aj.length/\(∀q,q∈us->bJ q)/\e4 tr false rt us:=λ{t rt i us} Y c a0 a1 P=>by
  obtain⟨a,b⟩:=Dr P;have key:∀q,q∈us->IY tr rt q:=λq aa=>by
   obtain⟨j,F,rfl⟩:=I' av aa;have g:=bg (by omega:j<v.aj.length) av;exact ih (Z _ g) (cF.1 Y _ g) (c _ g) a0 a1 (b j (by omega))
  exact⟨a,λq c=>(key q c).1,cF.2 λq c=>(key q c).2⟩
 have aI:∀t,e4 tw true t v.ay->(∀y,y∈v.ay->gy tw n t y)->(tw.getD t.toNat aJ).Kind<=4->∀{rt:Int} {i:Nat} {us:List I},0<=rt->rt<tr.length->e2 (er tw tr n) path t rt i v.ay= .inl us->us=v.ay/\e4 tr false rt v.ay:=λt Y aa aH rt i us a0 a1 P=>by
  have e:=abp (λv rt path u h=>abo aH h) P;subst e;obtain⟨a,b⟩:=Dr P;refine⟨rfl,cF.2 λq c=>?_⟩;obtain⟨j,F,rfl⟩:=I' av c;exact(ih (ap _ c) (cF.1 Y _ c) (aa _ c) a0 a1 (b j F)).2
 unfold iy at h;by_cases bC:x.Kind=y.Kind
 . rw[al (by simpa using bC)]at h;rcases aD with d|d|d|d|d|d|d|d|d
   . rw[bx,bx,bx,bx,bx]at h;split at h<;>cases h;exact⟨Q,l _ ⟨⟨p,s,by omega,by simp⟩,.inl d⟩⟩
   . rw[bx,bx,bx,bx,bx]at h;split at h<;>cases h;rename_i af;exact⟨Q,l _ ⟨⟨p,s,by omega,by simp⟩,.inr (.inl (by have:=af.1 (by omega);simp_all))⟩⟩
   . rw[bx,bx,bx,bx,bx]at h;split at h<;>cases h;rename_i af;exact⟨Q,l _ ⟨⟨p,s,by omega,by simp⟩,.inr (.inr (.inl (by have:=af.2.1 (by omega);simp_all)))⟩⟩
   . rw[bx,bx,bx,bx,bx]at h;split at h<;>cases h;rename_i af;have L:cn v.ad:=by
      rcases d.2.2.2.2.2.2.2 with⟨y,aQ,aR⟩|⟨_,h,_⟩
      . rw[<-aR];exact SW.S _ O (by omega) y aQ
      . cases h
     refine⟨Q,l _ ⟨⟨p,s,by omega,by simp⟩,.inr (.inr (.inr (.inl ⟨d.1,d.2.1,d.2.2.1,d.2.2.2.1,d.2.2.2.2.1,d.2.2.2.2.2.1,d.2.2.2.2.2.2.1,?_⟩)))⟩⟩;rcases af.2.2 (by omega)with q|q
     . exact .inl q
     grind
   . obtain⟨a1,a2,a3,a4,a5,C,U,K⟩:=d;obtain⟨R,aL⟩:=SW.A _ O (.inl (by omega));obtain⟨ba,bb⟩:=cx.A _ o (.inl (by omega));obtain⟨f1,f2⟩:=hJ.1 K;rw[fz]at h;obtain⟨f,aM,h⟩:=MR h;obtain⟨r,am,rfl⟩:=zB h;obtain⟨b1,b2⟩:=MS aM;have key:∀j,j<y.ah.length->IY tr (y.ah.getD j aB).aw (f.getD j av):=λj N=>by
      have E:=bg N aB;rcases ab0 (b2 j N)with⟨_,W,X⟩|⟨i,ak,W,_⟩
      . rw[X];exact⟨(cQ.T _ o).iK _ E,oC _ _ (cQ.D _ o _ E W)⟩
      . obtain⟨d1,_,_⟩:=kb ak;have g:=bg (by omega:i<v.aj.length) av;obtain⟨z,B⟩:=cQ.gS.mem o E;exact ih (Z _ g) (f2 i d1) (ag (by omega) i d1) z B W
     have aq:=ab1 R am;obtain⟨ak,_,X⟩:=Eo am;refine⟨.mk _ (by simp) (by simp) (by show f.length<=_;unfold reachBytes;omega) (by show r.length<=_;unfold reachBytes;omega) (λq c=>by cases c) (λq c=>?_) (λq c=>?_) (by simp) (by simp) (by simp) (λq c=>(aq.2 q c).1.i64),l _ ⟨⟨p,s,by show(5:Int)=_;omega,by simp⟩,.inr (.inr (.inr (.inr (.inl ⟨rfl,rfl,rfl,rfl,rfl,rfl,aq,hJ.2 ⟨b1,λj N=>(key j N).2⟩⟩))))⟩⟩
     . obtain⟨j,F,rfl⟩:=I' av c;exact(key j (by have:f.length=_:=b1;have a':j<f.length:=F;omega)).1
     . obtain⟨_,j,F,aK,e⟩:=X q c;have g:=bg aK av;have:=(ag (by omega) j F).len;rw[e];unfold reachBytes;grind
   . obtain⟨a1,a2,a3,a4,a5,C⟩:=d;rw[bx,fz]at h;unfold uF at h;obtain⟨R,aL⟩:=SW.A _ O (.inr (by omega));cases bw:cB x.ah v.ad with
     |none=>rw[bw]at C;cases C.2.1
     |some m=>
      rw[bw]at C;obtain⟨b1,b2,b3⟩:=C;have ab:=vL x.ah v.ad;rw[bw]at ab;cases L:hq x.ah v.ad with
      |none=>rw[L]at ab;cases ab
      |some i=>
      obtain⟨d1,d2,_⟩:=kb L;obtain⟨d3,d4⟩:=j' bw;have em:x.ah.getD i aB=m:=qR R (bg d1 aB) d3 (by rw[d2,d4]);have ao:cn v.ad:=by rw[<-d4];exact R.2 m d3
      simp only[L,em]at h;have g:=bg (by omega:0<v.aj.length) av;cases M:hq y.ah v.ad with
      |some k=>
       simp only[M]at h;obtain⟨w,aM,rfl⟩:=zB h;obtain⟨k1,k2,_⟩:=kb M;have E:=bg k1 aB;obtain⟨z,B⟩:=cQ.gS.mem o E;obtain⟨z1,z2⟩:=ih (Z _ g) (cF.1 b3 _ g) (ai (by omega) _ bw _ g) z B aM;have an:cB y.ah v.ad=some (y.ah.getD k aB):=by rw[<-k2];exact NF (cx.A _ o (.inr (by omega))).1 E
       refine⟨.mk _ (by simp) (by simp) (by show[w].length<=_;unfold reachBytes;simp) (by simp) (λq c=>by cases c) (λq c=>?_) (λq c=>by cases c) (by simp) (by simp) ao.i64 (λq c=>by cases c),l _ ⟨⟨p,s,by show(6:Int)=_;omega,by simp⟩,.inr (.inr (.inr (.inr (.inr (.inl ⟨rfl,rfl,rfl,rfl,rfl,?_⟩)))))⟩⟩
       . grind
       . show match cB y.ah v.ad with|some m=>_|none=>_
         rw[an];exact⟨rfl,rfl,z2,trivial⟩
      |none=>
       simp only[M]at h;split at h
       . cases h;rename_i aY;have an:cB y.ah v.ad=none:=by
          have:=vL y.ah v.ad;rw[M]at this;cases c:cB y.ah v.ad with
          |none=>rfl
          |some _=>rw[c]at this;cases this
         have:=(ai (by omega) _ bw _ g).len;refine⟨.mk _ (by simp) (by simp) (by simp) (by show[_].length<=_;unfold reachBytes;simp) (λq c=>by cases c) (λq c=>by cases c) (λq c=>?_) (by simp) (by simp) ao.i64 (λq c=>?_),l _ ⟨⟨p,s,by show(6:Int)=_;omega,by simp⟩,.inr (.inr (.inr (.inr (.inr (.inl ⟨rfl,rfl,rfl,rfl,rfl,?_⟩)))))⟩⟩
         . rw[rZ.1 c];show(bp tw _ _).length<=_;unfold reachBytes;omega
         . grind
         grind
       . cases h
   . obtain⟨a1,a2,a3,a4,a5,C,U,K,a9⟩:=d;rw[bx,bx,fz]at h;unfold AE at h;split at h
     . rename_i aC;obtain⟨f,aM,rfl⟩:=zB h;obtain⟨z,B⟩:=cQ.gS.elem o (by omega);obtain⟨ax,G,H⟩:=ae a9 (J (by omega)).1 z B aM;exact⟨.mk _ (by simp) (by simp) (by show f.length<=_;omega) (by simp) (λq c=>by cases c) G (λq c=>by cases c) (by simp) (by simp) (by simp) (λq c=>by cases c),l _ ⟨⟨p,s,by show(7:Int)=_;omega,by simp⟩,.inr (.inr (.inr (.inr (.inr (.inr (.inl ⟨rfl,rfl,rfl,rfl,rfl,rfl,rfl,by show(f.length:Int)<=_;omega,H⟩))))))⟩⟩
     . cases h
   . obtain⟨a1,a2,a3,a4,a5,C,U,K,a9,az,aA⟩:=d;rw[bx,bx,bx,fz]at h;unfold AF at h;split at h
     . rename_i aC;obtain⟨ks,cZ,h⟩:=MR h;obtain⟨f,aM,rfl⟩:=zB h;obtain⟨z,B⟩:=cQ.gS.elem o (by omega);obtain⟨aO,aP⟩:=cQ.gS.key o (by omega);obtain⟨ax,G,H⟩:=ae az (J (by omega)).1 z B aM;obtain⟨rfl,aN⟩:=aI _ a9 (J (by omega)).2 (SW.qx _ O (by omega)).2 aO aP cZ;exact⟨.mk _ (by simp) (by show v.ay.length<=_;omega) (by show f.length<=_;omega) (by simp) ap G (λq c=>by cases c) (by simp) (by simp) (by simp) (λq c=>by cases c),l _ ⟨⟨p,s,by show(8:Int)=_;omega,by simp⟩,.inr (.inr (.inr (.inr (.inr (.inr (.inr (.inl ⟨rfl,rfl,rfl,rfl,rfl,rfl,by show(v.ay.length:Int)<=_;omega,by show f.length=v.ay.length;omega,aN,H,aA⟩)))))))⟩⟩
     . cases h
   . obtain⟨a1,a2,a3,a4,a5,C,U,K,a9⟩:=d;rw[bx,bx,bx,bx,fz]at h;obtain⟨f,aM,rfl⟩:=zB h;obtain⟨z,B⟩:=cQ.gS.elem o (by omega);obtain⟨ax,G,H⟩:=ae a9 (J (by omega)).1 z B aM;exact⟨.mk _ (by simp) (by simp) (by show f.length<=_;omega) (by simp) (λq c=>by cases c) G (λq c=>by cases c) (by simp) (by simp) (by simp) (λq c=>by cases c),l _ ⟨⟨p,s,by show(9:Int)=_;omega,by simp⟩,.inr (.inr (.inr (.inr (.inr (.inr (.inr (.inr ⟨rfl,rfl,rfl,rfl,rfl,rfl,rfl,by show f.length<=1;omega,H⟩)))))))⟩⟩
 grind
theorem MT(dh:c8 tw)(cQ:c8 tr):∀n,E3 tw tr n
 |0=>λ_ _ _ _ _ _ _ _ _ h=>by cases h
 |n+1=>aaX dh cQ (MT dh cQ n)
end
theorem aaY{s:aT}(H:iS s.Types)(f:bJ v)(i:wt v<=1099511627776)(e:bY s.Types false t v)(c:ub (s,t,v)=some 0):
 lW (s,t,v)=some (ly s.Types t v):=by
 have h1:=ade H f i e;have d:ub ((⟨s.Types⟩:aT),t,v)=some 0:=c;rw[lW];simp only[I.aV];rw[d,h1];simp only[aU,ao];rw[bz];unfold ly;generalize bp s.Types t v=p;generalize dJ s.Types t v=l;by_cases g:4096<p.length
 . rw [ae (by have:(4096:Int)<p.length:= by omega
              simp[this]),ae (.inl g)]
 . by_cases b:200<l
   . rw [ae (by have:¬ (4096:Int)<p.length:= by omega
                have a:(200:Int)<l:=by omega
                simp[this,a]),ae (.inr b)]
   . rw [al (by have:¬ (4096:Int)<p.length:= by omega
                have a:¬(200:Int)<l:=by omega
                simp[this,a]),bx]
theorem aaZ{s:aT}(H:iS s.Types)(b:bJ v)(c:wt v<=1099511627776)(a:bY s.Types false t v)(ag:tR (s,t,v)=some 0):
 rG (s,t,v)=some (ly s.Types t v):=by
 have e:i' (s,t,v)=some (bp s.Types t v):=D7 H b c t a;have f:mE (s,t,v)=_:=adb H b c t a;rw[rG];simp only[I.aV];rw[ag];simp only[aU,ao];rw[bz,e];simp only[ao];rw[f];unfold ly;generalize bp s.Types t v=p;generalize dJ s.Types t v=l;by_cases g:4096<p.length
 . have:decide ((4096:Int)<p.length)=true:=by simp;omega
   rw[this,bz];simp only[ao,ev];rw[ae trivial,ae (.inl g)]
 . have:decide ((4096:Int)<p.length)=false:=by simp;omega
   rw[this,gM];simp only[ao,dW];by_cases d:200<l
   . rw[bA,ae (.inr d)]
   . rw[ch,bx]
theorem Na(H:c8 ts)(a:sn ts t v):lW ((⟨ts⟩:aT),t,v)=some (ly ts t v):=
 aaY (s:=⟨ts⟩) (H.V.hx H.T) a.2.1 (gv a.2.2 (by decide)) a.1 (HJ H.T H.V a.2.1 a.1)
theorem Nb(H:c8 ts)(a:sn ts t v):rG ((⟨ts⟩:aT),t,v)=some (ly ts t v):=
 aaZ (s:=⟨ts⟩) (H.V.hx H.T) a.2.1 (gv a.2.2 (by decide)) a.1 (MD H.T H.V a.2.1 a.1)
noncomputable def gI (ts:List ai)(t:Int)(m:ak):I×Int:=
 if t<0\/(ts.length:Int)<=t then(ez,4)else if 4096<m.length then(ez,12)else match cX ts 200 t m with
  |some v=>(v,0)
  |none=>(ez,12)
theorem LJ(ts:List ai)(t:Int)(m:ak):(∃e,e≠0/\gI ts t m=(ez,e))\/∃v,gI ts t m=(v,0)/\(0<=t/\t<ts.length)/\m.length<=4096/\cX ts 200 t m=some v:=by
 unfold gI;by_cases h1:t<0\/(ts.length:Int)<=t
 . rw[ae h1];exact .inl ⟨4,by omega,rfl⟩
 . rw[al h1];by_cases a:4096<m.length
   . rw[ae a];exact .inl ⟨12,by omega,rfl⟩
   . rw[al a];cases b:cX ts 200 t m with
     |none=>exact .inl ⟨12,by omega,rfl⟩
     |some v=>exact .inr ⟨v,rfl,by omega,by omega,rfl⟩
section
variable {ts:List ai}
theorem LK(H:jm ts)(t:Int)(m:ak):tq ((⟨ts⟩:aT),t,m)=some (gI ts t m):=by
 rw[tq,Hm,(pK H.S.T H.V).1];simp only[aU,ao];unfold gI;by_cases h1:t<0\/(ts.length:Int)<=t
 . have c:(bif decide (t<0)then true else decide ((ts.length:Int)<=t))=true:=by rcases h1 with h1|h1<;>simp[h1]
   rw[bz,ae c,ae h1];rfl
 . have c:¬(bif decide (t<0)then true else decide ((ts.length:Int)<=t))=true:=by
    have a:¬t<0:=λh=>h1 (.inl h);have b:¬(ts.length:Int)<=t:=λh=>h1 (.inr h);simp[a,b]
   by_cases d:4096<m.length
   . rw[bz,al c,bA,al h1,ae d];rfl
   . have d1:=NW H 200 (by omega) t m [] 0 [] (by omega) (by omega) (by omega) rfl;rw[bz,al c,ch,al h1,al d];cases e:cX ts 200 t m with
     |none=>
      obtain⟨w,f1,f2,f⟩:=d1.2 e;rw[f];rfl
     |some v=>
      rw[d1.1 v e];simp[I.aV]
theorem LL(H:jm ts)(t:Int)(m:ak):s3 ((⟨ts⟩:aT),t,m)=some (gI ts t m):=by
 have ag:kF ((⟨ts⟩:aT),t)=some (if t<0\/(ts.length:Int)<=t then 4 else 0):=by
  rw[kF,(pK H.S.T H.V).2];simp only[aU,ao];rw[bz];by_cases h1:t<0\/(ts.length:Int)<=t
  . rw[ae h1,ae];rcases h1 with h1|h1<;>simp[h1]
  . rw[al h1,al];have a:¬t<0:=λh=>h1 (.inl h);have b:¬(ts.length:Int)<=t:=λh=>h1 (.inr h);simp[a,b]
 rw[s3,GC,ag];simp only[aU,ao];unfold gI;by_cases h1:t<0\/(ts.length:Int)<=t
 . simp only[ae h1];rfl
 . by_cases d:4096<m.length
   . simp only[al h1];rw[bz,bA,ae d,zI (by simp)];rfl
   . have d2:=NN H 200 (by omega) t m [] (by omega) (by omega) (by omega) (by simp);rw[show((201-200:Nat):Int)=1 from rfl]at d2;simp only[al h1];rw[bz,ch,al d];cases e:cX ts 200 t m with
     |none=>
      obtain⟨F,c⟩:=d2.2 e;rw[c];rfl
     |some v=>
      obtain⟨F,c⟩:=d2.1 v e;rw[c];simp[I.aV]
theorem Nc(H:c8 ts){m:ak}(ht:0<=t/\t<ts.length)(d:m.length<=4096)(h:cX ts 200 t m=some v):sn ts t v:=by
 obtain⟨a,b,c⟩:=NR H 200 t m v (by omega) ht.1 ht.2 h;exact⟨a,b,by omega⟩
end
theorem ED{m:aS}(a:bJ v):s9 (m,v)=some (dc m v):=by
 rw[s9];simp only[I.aV];unfold dc;cases b:m.bV with
 |false=>rfl
 |true=>
  obtain⟨r,c,d⟩:=ack a m.bB;grind
theorem HY(h:p.length<=100000:=by omega):vB p=some (c7 p):=by
 rw[vB,hA,uh];have:=j8 (n:=p.length) (by omega);simp only[aU,ao];rw[ae (gf)];rfl
theorem abq{c:Bool}(d:cn id)(h:p.length<=4096):CB (id,c,p)=some (eX id.toNat c p,0):=by
 unfold cn at d;obtain⟨n,rfl⟩:=B1 (by omega:0<=id);have a:¬(n:Int)<1:=by omega
 have b:¬(1000:Int)<n:=by omega
 rw[CB,al (by simp[a,b]),ch,Ic (by omega),a7];rfl
section
variable {ts:List ai}
theorem Is:∀{ms:List aS} {l:List I},((dm ts ms l).map λf=>f.id).Sublist (ms.map λm=>m.ad.toNat)
 |[],l=>by rw[dm]<;>simp
 |m::ms,[]=>by rw[dm]<;>simp
 |m::ms,v::l=>by
  rw[dm];split
  . exact(Is (ms:=ms) (l:=l)).cons _
  . exact(Is (ms:=ms) (l:=l)).cons₂ _
theorem abr{l:List I}(c:gQ ms):(dm ts ms l).Pairwise (λa b=>a.id<b.id):=by
 have h1:(ms.map λm=>m.ad.toNat).Pairwise (· < ·):=ov.2 (c.1.imp_of_mem λ{a b} d e h=>by
  have:=c.2 a d;unfold cn at this
  omega)
 exact ov.1 (h1.sublist Is)
theorem LM(h:(ts.getD t.toNat aJ).Kind=5)(ag:v.Rest=[])(a:gQ (ts.getD t.toNat aJ).ah):bp ts t v=(dm ts (ts.getD t.toNat aJ).ah v.aj).flatMap Fd.text:=by
 rw[qq h];have b:jP (ts.getD t.toNat aJ).ah v.Rest:=by rw[ag];exact⟨.nil,λx c=>by cases c⟩
 congr 1
 have e:fg ts (ts.getD t.toNat aJ).ah v.aj v.Rest=dm ts (ts.getD t.toNat aJ).ah v.aj:=by
  unfold fg;grind
 rw[<-e];refine NS (Ig (vC a b) (IL a b)) ?_ λy=>(kK fq _).mem_iff;rw[e];exact abr a
def jF(ts:List ai)(t:Int)(v:I):Prop:=lj ((⟨ts⟩:aT),t,v)=some (bp ts t v)
theorem Sp(b:∀m,m∈ms->cn m.ad)(af:v.aj.length=ms.length)(f:ms.length<=1000)(d:∀y,y∈v.aj->bJ y)(hs:∀i,i<ms.length->dc (ms.getD i aB) (v.aj.getD i av)=false->(bp ts (ms.getD i aB).aw (v.aj.getD i av)).length<=4096/\jF ts (ms.getD i aB).aw (v.aj.getD i av)):
 ∀(k i:Nat) (acc:ak),i+k=ms.length->acc.length<=i*5000->
 rF (acc,ms,(ms.length:Int),(i:Int),ts,v)=some (acc++(dm ts (ms.drop i) (v.aj.drop i)).flatMap Fd.text)
 |0,i,acc,j,g=>by
  rw[rF,ch,en (by omega:ms.length<=i),dm]
  . simp
  grind
 |k+1,i,acc,j,g=>by
  have aC:i<ms.length:=by omega
  have a:i<v.aj.length:=by omega
  have o:=bg a av;rw[rF,bA,ae (aP aC)];simp only[aU,ao,a7,I.aV,ju];rw[ae (aP a),ED (d _ o),eF aC aB,eF a av,dm];have e:=λacc=>Sp b af f d hs k (i+1) acc (by omega);cases q:dc (ms.getD i aB) (v.aj.getD i av)with
  |true=>
   simp only[ao,db,bZ,b9,b5];rw[bE,e acc (by omega)]
  |false=>
   obtain⟨h1,c⟩:=hs i aC q;unfold jF at c;simp only[ao,eV,b5,bZ,b9];rw[ae (aP a),c];simp only[ao];rw[abq (b _ (bg aC aB)) (by omega)];simp only[ao];have l:=b _ (bg aC aB);unfold cn at l;have a1:=wK (p:=bp ts (ms.getD i aB).aw (v.aj.getD i av)) (by omega);have a2:=AY (n:=2*(ms.getD i aB).ad.toNat+(if(ms.getD i aB).cg then 1 else 0)) (by split<;>omega);have r:(eX (ms.getD i aB).ad.toNat (ms.getD i aB).cg (bp ts (ms.getD i aB).aw (v.aj.getD i av))).length<=5000:=by
    unfold eX;grind
   rw[ae (gf),bE,e _ (by rw[cm];omega),ir];rfl
theorem Sq(b:¬x.Kind=8)(af:v.aj.length<=3000)(hs:∀y,y∈v.aj->(bp ts x.aF y).length<=4096/\jF ts x.aF y):
 ∀(k i:Nat) (acc:ak),i+k=v.aj.length->acc.length<=i*5000->
 lf (acc,v.aj,(v.aj.length:Int),(i:Int),ts,v,x)=some (acc++(bt ts x.aF (v.aj.drop i)).flatMap c7)
 |0,i,acc,d,c=>by
  rw[lf,ch,en (by omega:v.aj.length<=i),bt];simp
 |k+1,i,acc,d,c=>by
  have aC:i<v.aj.length:=by omega
  obtain⟨h1,a⟩:=hs _ (bg aC av);unfold jF at a;rw[lf,bA,ae (aP aC)];simp only[aU,ao,a7,I.aV];have a1:=wK (p:=bp ts x.aF (v.aj.getD i av)) (by omega);rw[al (by simp[b]),a];simp only[ao];rw[HY];simp only[ao];rw[ae (gf),bE,Sq b af hs k (i+1) _ (by omega) (by rw[cm];omega),eF aC av,bt,eZ,ir]
theorem PR(d:x.Kind=8)(j:v.aj.length=v.ay.length)(af:v.aj.length<=3000)(hs:∀y,y∈v.aj->(bp ts x.aF y).length<=4096/\jF ts x.aF y)(e:∀y,y∈v.ay->(bp ts x.Key y).length<=4096/\jF ts x.Key y):
 ∀(k i:Nat) (acc:ak),i+k=v.aj.length->acc.length<=i*9000->
 lf (acc,v.aj,(v.aj.length:Int),(i:Int),ts,v,x)=some (acc++fi (bt ts x.Key (v.ay.drop i)) (bt ts x.aF (v.aj.drop i)))
 |0,i,acc,g,f=>by
  rw[lf,ch,en (by omega:v.aj.length<=i),en (by omega:v.ay.length<=i),bt,bt,fi]
  . simp
  grind
 |k+1,i,acc,g,f=>by
  have aC:i<v.aj.length:=by omega
  have a:i<v.ay.length:=by omega
  obtain⟨h1,b⟩:=hs _ (bg aC av);obtain⟨l,c⟩:=e _ (bg a av);unfold jF at b c;rw[lf,bA,ae (aP aC)];simp only[aU,ao,a7,I.aV];have a1:=wK (p:=bp ts x.aF (v.aj.getD i av)) (by omega);have a2:=wK (p:=bp ts x.Key (v.ay.getD i av)) (by omega);rw[ae (by simp[d]),ae (aP a),c];simp only[ao];rw[HY];simp only[ao];rw[ae (gf),b];simp only[ao];rw[HY];simp only[ao];rw[ae (gf (by rw[cm];omega)),bE,PR d j af hs e k (i+1) _ (by omega) (by rw[cm,cm];omega),eF aC av,eF a av,bt,bt,fi,ir,ir]
theorem adi(H:iS ts)(l:bJ v)(i:bY ts true t v)(k4:v.Kind<=4):j3 (t,v,1,ts,0)=some (bp ts t v,ts,1):=by
 obtain⟨⟨q,r,g,_⟩,b⟩:=(eJ _ _ _).1 i;have a:cw v.bd:=by cases l with|mk _ _ _ _ _ _ _ _ _ a _ _=>exact a
 obtain⟨j,rfl⟩:∃j:Nat,t=(j:Int):=⟨t.toNat,by omega⟩
 have c:j<ts.length:=by omega
 have k:=bg c aJ;have m:=@xa ts (j:Int) v;have d:=@xc ts (j:Int) v;have o:=@xd ts (j:Int) v;have e:=@xe ts (j:Int) v;rw[j3];simp only[aU,ao];rw[ae (aP c),show iq 0 1=1 by decide];simp only[a7,I.aV]at g b m d o e⊢;generalize ts.getD j aJ=x at*;rcases b with h|h|h|h|h|h|h|h|h
 . grind
 . rw[al (mt gY (by omega)),ae (jW (by omega)),d (by omega),DV a];simp only[ao];have f:=Az a;obtain⟨n,aG⟩:∃n:Nat,fE v.bd=(n:Int):=⟨(fE v.bd).toNat,by unfold fE;split<;>omega⟩
   rw[aG,a7]at f;rw[aG,DW f];rfl
 . grind
 . obtain⟨n,aG,af⟩:∃n:Nat,v.ad=(n:Int)/\n<=1000:=by
    rcases h.2.2.2.2.2.2.2 with⟨y,p,s⟩|⟨_,h,_⟩
    . have:=H.S x k (by omega) y p;unfold cn at this;grind
    . cases h
   rw[al (mt gY (by omega)),al (mt gY (by omega)),al (mt gY (by omega)),ae (jW (by omega)),e (by omega),aG,hA,DW (by omega),a7];rfl
 all_goals omega
theorem aeh(H:c8 ts)(b:bJ v)(a:bY ts true t v)(hs:(bp ts t v).length<=4096)(k4:v.Kind<=4):lW ((⟨ts⟩:aT),t,v)=some (bp ts t v,0):=by
 rw[lW];simp only[I.aV];rw[HJ H.T H.V b (oC _ _ a)];simp only[aU,ao];rw[bz,adi (H.V.hx H.T) b a k4];grind
theorem PS(H:c8 ts)(w:bJ v):∀t,bY ts true t v->(bp ts t v).length<=4096->jF ts t v:=by
 have z:=H.V.hx H.T;have Q:=w;induction w with
 |mk v hs h1 ag ai N g am c' ap aq ar R o=>
  intro t C c;obtain⟨⟨Z,aa,ab,J⟩,K⟩:=(eJ _ _ _).1 C;obtain⟨j,rfl⟩:∃j:Nat,t=(j:Int):=⟨t.toNat,by omega⟩
  have E:j<ts.length:=by omega
  have p:=bg E aJ;have B:=J rfl;have an:=aeh H Q C c;have ak:=H.M _ p;have s:=(H.cv _ p).2.2;unfold jF;rw[lj,ae (aP E)];simp only[aU,ao,I.aV];rw[a7]at*;rcases K with h|h|h|h|h|h|h|h|h
  . grind
  . grind
  . grind
  . grind
  . obtain⟨a1,a2,a3,a4,a5,d,r,f⟩:=h;obtain⟨k,S⟩:=z.A _ p (.inl (by omega));obtain⟨f1,f2⟩:=hJ.1 f;rw[LM (by rw[a7];omega) B (by rw[a7];exact k),a7]at c
    have h0:=Sp (ts:=ts) (ms:=(ts.getD j aJ).ah) (v:=v) k.2 f1 (by omega) g (λi D O=>by
     have F:=bg (by omega:i<v.aj.length) av;have af:=gv (HO (ts:=ts) i D (by omega) O) c
     exact⟨af,o _ F (g _ F) _ (f2 i D) af⟩) (ts.getD j aJ).ah.length 0 [] (by omega) (by simp)
    have l:rF ([],(ts.getD j aJ).ah,((ts.getD j aJ).ah.length:Int),0,ts,v)=_:=h0;rw[ae (jW (by omega)),l];rw[LM (by rw[a7];omega) B (by rw[a7];exact k),a7];rfl
  . obtain⟨a1,a2,a3,a4,a5,d⟩:=h;obtain⟨k,S⟩:=z.A _ p (.inr (by omega));cases bw:cB (ts.getD j aJ).ah v.ad with
    |none=>rw[bw]at d;cases d.2.1
    |some m=>
     rw[bw]at d;obtain⟨b1,b2,b3⟩:=d;obtain⟨d3,d4⟩:=j' bw;obtain⟨q,U,W,X⟩:=FG k (by omega) bw;have L:=k.2 m d3;unfold cn at L;have b:=bg (by omega:0<v.aj.length) av;have P:bt ts m.aw v.aj=[bp ts m.aw (v.aj.getD 0 av)]:=by
      match w:v.aj,b2 with
      |[a],_=>rw[bt,bt];rfl
     have z1:(bp ts m.aw (v.aj.getD 0 av)).length<=4096:=by
      rw[oD (t:=(j:Int)) (v:=v) (by rw[a7];omega),a7,bw,cm]at c;simp only[P,B9]at c;omega
     have z2:=o _ b (g _ b) m.aw (cF.1 b3 _ b) z1;unfold jF at z2;obtain⟨n,aG⟩:∃n:Nat,v.ad=(n:Int):=⟨v.ad.toNat,by omega⟩
     have:=AY (n:=n) (by omega);rw[al (mt gY (by omega)),ae (jW (by omega)),W];simp only[ao];rw[aG,hA,uh];simp only[ao];rw[ae (aP U),ae (by rw[b2];rfl),a7,X,show(0:Int).toNat=0 from rfl,z2];simp only[ao];rw[ae (gf),oD (t:=(j:Int)) (v:=v) (by rw[a7];omega),a7,bw,aG,a7];grind
  . obtain⟨a1,a2,a3,a4,a5,d,r,f,a9⟩:=h
    have h0:=Sq (ts:=ts) (x:=ts.getD j aJ) (v:=v) (by omega) (by omega) (λy b=>by
     rw[oE (by rw[a7];omega),a7]at c;have af:=gv (Ja (ts:=ts) (t:=(ts.getD j aJ).aF) b) c
     exact⟨af,o _ b (g _ b) _ (cF.1 a9 y b) af⟩) v.aj.length 0 [] (by omega) (by simp)
    have l:lf ([],v.aj,(v.aj.length:Int),0,ts,v,ts.getD j aJ)=_:=h0;rw[al (mt gY (by omega)),al (mt gY (by omega)),al (mt gY (by omega)),ae (jW (by omega)),ae (jW (by omega)),l,oE (by rw[a7];omega),a7];rfl
  . obtain⟨a1,a2,a3,a4,a5,d,r,f,a9,G,Y⟩:=h;rw[oF (by rw[a7];omega),a7]at c;have e:(bt ts (ts.getD j aJ).Key v.ay).length=(bt ts (ts.getD j aJ).aF v.aj).length:=by rw[kJ,kJ];omega
    have h0:=PR (ts:=ts) (x:=ts.getD j aJ) (v:=v) (by omega) f (by omega) (λy b=>by
     have af:=gv (EJ e (.inr (Ad b))) c;exact⟨af,o _ b (g _ b) _ (cF.1 G y b) af⟩) (λy b=>by
     have af:=gv (EJ e (.inl (Ad b))) c
     exact⟨af,R _ b (N _ b) _ (cF.1 a9 y b) af⟩) v.aj.length 0 [] (by omega) (by simp)
    have l:lf ([],v.aj,(v.aj.length:Int),0,ts,v,ts.getD j aJ)=_:=h0;rw[al (mt gY (by omega)),al (mt gY (by omega)),al (mt gY (by omega)),al (mt gY (by omega)),ae (jW (by omega)),l,oF (by rw[a7];omega),a7];rfl
  . obtain⟨a1,a2,a3,a4,a5,d,r,f,a9⟩:=h;rw[al (mt gY (by omega)),al (mt gY (by omega)),ae (jW (by omega)),oG (by rw[a7];omega),a7]
    match s:v.aj,f with
    |[],_=>
     rw[vk,bz,bt];rfl
    |[a],_=>
     have u:a∈v.aj:=by rw[s];exact .head _
     have z1:(bp ts (ts.getD j aJ).aF a).length<=4096:=by
      rw[oG (by rw[a7];omega),a7,s,bt,bt,gi]at c;omega
     have z2:=o _ u (g _ u) _ (cF.1 a9 a u) z1;unfold jF at z2;rw[vk,gM,ae (show aH 0 [a].length=true from rfl)];simp only[I.aV];rw[show[a].getD (Int.toNat 0) av=a from rfl,z2];simp only[aU,ao];rw[ae (gf (by show 1+(bp ts (ts.getD j aJ).aF a).length<=_;omega)),show aN .i64 0 1=1 from by decide,vk,al (show ¬decide ((1:Int)<([a].length:Int))=true from by simp),bt,bt];rfl
end
theorem LN{a0 a2 a4 z0 z2 z4:Int}{a1 z1:Bool}{a3 z3:ak}{l l2:List I}{r:List bX}(af:l.length<=1000000000)(h:∀y,y∈l->j6 y=some y):∀(k i:Nat),i+k=l.length->
 s7 ((l.length:Int),(i:Int),a0,a1,a2,a3,a4,z0,z1,z2,z3,z4,l,l2,r)=some (a0,a1,a2,a3,a4,z0,z1,z2,z3,z4,l,l2,r)
 |0,i,a=>by rw[s7,ch]
 |k+1,i,a=>by
  have aC:i<l.length:=by omega
  rw[s7,bA,ae (aP aC),a7,bA];simp only[I.aV];rw[h _ (bg aC av)];simp only[aU,ao,I.aV];rw[ae (aP aC),bA,bE,EB aC];exact LN af h k (i+1) (by omega)
theorem LO{a0 a2 a4 z0 z2 z4:Int}{a1 z1:Bool}{a3 z3:ak}{l l2:List I}{r:List bX}(af:l.length<=1000000000)(h:∀y,y∈l->j6 y=some y):∀(k i:Nat),i+k=l.length->
 s8 ((l.length:Int),(i:Int),a0,a1,a2,a3,a4,z0,z1,z2,z3,z4,l,l2,r)=some (a0,a1,a2,a3,a4,z0,z1,z2,z3,z4,l2,l,r)
 |0,i,a=>by rw[s8,ch]
 |k+1,i,a=>by
  have aC:i<l.length:=by omega
  rw[s8,bA,ae (aP aC),a7,bA];simp only[I.aV];rw[h _ (bg aC av)];simp only[aU,ao,I.aV];rw[ae (aP aC),bA,bE,EB aC];exact LO af h k (i+1) (by omega)
theorem aa0(j:bJ v):wt v<=1000000000->j6 v=some v:=by
 induction j with
 |mk v hs h1 o p s q t c' A B C m k=>
  intro u;have w:=fD v;have x:=A0 v.ay;have l2:=A0 v.aj;have z:=NJ v.Rest;have kk:∀y,y∈v.ay->j6 y=some y:=λy a=>m y a (by have:=fv a;omega);have n:∀y,y∈v.aj->j6 y=some y:=λy a=>k y a (by have:=fv a;omega);have f:fx 120 v.ay=some v.ay:=by unfold fx;rw[ae (mS (wU))]
  have g:fx 120 v.aj=some v.aj:=by unfold fx;rw[ae (mS (wU))]
  have i:fx 24 v.Rest=some v.Rest:=by unfold fx;rw[ae (mS (wU))]
  have b:=LN (a0:=v.Kind) (a1:=v.bN) (a2:=v.bd) (a3:=v.bl) (a4:=v.ad) (z0:=0) (z1:=false) (z2:=0) (z3:=[]) (z4:=0) (l:=v.ay) (l2:=v.aj) (r:=v.Rest) (by omega) kk v.ay.length 0 (by omega);have d:=LO (a0:=v.Kind) (a1:=v.bN) (a2:=v.bd) (a3:=v.bl) (a4:=v.ad) (z0:=0) (z1:=false) (z2:=0) (z3:=[]) (z4:=0) (l:=v.aj) (l2:=v.ay) (r:=v.Rest) (by omega) n v.aj.length 0 (by omega);have c:s7 ((v.ay.length:Int),0,v.Kind,v.bN,v.bd,v.bl,v.ad,0,false,0,[],0,v.ay,v.aj,v.Rest)=_:=b;have e:s8 ((v.aj.length:Int),0,v.Kind,v.bN,v.bd,v.bl,v.ad,0,false,0,[],0,v.aj,v.ay,v.Rest)=_:=d;rw[j6,f,g,i];simp only[aU,ao];rw[c];simp only[ao];rw[e];simp only[ao];cases v;rfl
theorem SF(b:path.length<=90000)(a:ar):s6 (tw,tr,a,path)=some ((⟨0,false,0,[],0,[],[],[]⟩:I),false,tw,tr,path,path):=by
 rw[s6];unfold oj fx;rw[ae (mS (cN (by omega) (by omega)))];simp
theorem D'(b:path.length<=90000)(id:Int)(a:ar):vf (id,tw,tr,a,path)=some ((⟨0,false,0,[],0,[],[],[]⟩:I),false,tw,tr,path,path++[id]):=by
 rw[vf];unfold oj fx;rw[ae (mS (cN (by omega) (by omega)))];simp only[jV,aU,ao];rw[gM,ae (cN)]
theorem Ea(af:x.ah.length<=1000)(id:Int):hh (x,id)=some (l6 x.ah id):=by
 obtain⟨r,a,b⟩:=vy (t:=x) (id:=id) (by omega);rw[a,Ho b (MQ _ _)]
section
variable {tw tr:List ai}
def fG(tw tr:List ai)(a path:ar):I ⊕ ar->I×Bool×List ai×List ai×ar×ar
 |.inl u=>(u,true,tw,tr,a,path)
 |.inr p=>(⟨0,false,0,[],0,[],[],[]⟩,false,tw,tr,p,path)
def E1(tw tr:List ai)(a path:ar)(acc:List I):List I ⊕ ar->(Bool×List ai×List ai×ar×ar) ⊕ (List ai×List ai×ar×List I×ar)
 |.inl us=>.inr (tw,tr,a,acc++us,path)
 |.inr p=>.inl (false,tw,tr,p,path)
def oP(tw tr:List ai)(a path:ar):List I ⊕ ar->List I×Bool×List ai×List ai×ar×ar
 |.inl us=>(us,true,tw,tr,a,path)
 |.inr p=>([],false,tw,tr,p,path)
def Part(tw tr:List ai)(f:fM)(path:ar)(t rt:Int)(v:I):Prop:=∀(step:Int) (a:ar),rJ (step,t,v,rt,tw,tr,a,path)=some (fG tw tr a path (f t v rt (path++[step])))
theorem Nd{step:Int}{a:ar}{o:I ⊕ ar}(c:path.length<=90000)(h:tQ (t,v,rt,tw,tr,a,path++[step])=some (fG tw tr a (path++[step]) o)):rJ (step,t,v,rt,tw,tr,a,path)=some (fG tw tr a path o):=by
 rw[rJ];simp only[aU,ao,I.aV];rw[ae (cN),h];have aM:dq .i64 ((path++[step]).length:Int) 1=(path.length:Int):=by rw[hK (by simp<;>omega) (by simp<;>omega)];simp
 have b:dY 0 (path.length:Int) (path++[step]).length=true:=iJ.2 (by simp;omega);cases o with
 |inl u=>
  simp only[ao,I.aV,fG];simp_all
 |inr p=>
  simp only[ao,I.aV,fG];simp_all
theorem Kd{l:List I}(af:l.length<=50000)(h:∀y,y∈l->Part tw tr f path t rt y):∀(k i:Nat) (acc:List I) (a:ar),i+k=l.length->acc.length<=i->
 sQ (t,rt,l,(l.length:Int),(i:Int),tw,tr,a,acc,path)=some (E1 tw tr a path acc (e2 f path t rt i (l.drop i)))
 |0,i,acc,a,c,b=>by
  rw[sQ,ch,en (by omega:l.length<=i)];simp[e2,E1]
 |k+1,i,acc,a,c,b=>by
  have aC:i<l.length:=by omega
  rw[sQ,bA,ae (aP aC),a7];simp only[I.aV];rw[h _ (bg aC av),eF aC av,e2];cases f t (l.getD i av) rt (path++[(i:Int)])with
  |inr p=>rfl
  |inl u=>
   simp only[aU,ao,fG,db,I.aV];rw[bz,ae (cN),bE,Kd af h k (i+1) _ a (by omega) (by simp;omega)];cases e2 f path t rt (i+1) (l.drop (i+1))with
   |inr p=>rfl
   |inl us=>simp[E1,iY]
theorem Ae{l:List I}(af:l.length<=50000)(h:∀y,y∈l->Part tw tr f path t rt y)(a:ar):
 nE (t,l,rt,tw,tr,a,path)=some (oP tw tr a path (e2 f path t rt 0 l)):=by
 have h0:=Kd af h l.length 0 [] a (by omega) (by simp);have b:sQ (t,rt,l,(l.length:Int),0,tw,tr,a,[],path)=_:=h0;rw[nE,b,fU];cases e2 f path t rt 0 l with
 |inr p=>rfl
 |inl us=>rfl
def uU(tw tr:List ai)(a path:ar)(x:ai)(v:I)(y:ai)(acc:List I):List I ⊕ ar->(Bool×List ai×List ai×ar×I×ar) ⊕ (List ai×List ai×ar×ai×I×ai×Int×Bool×Int×ak×Int×Int×Bool×Int×ak×Int×ar×List I)
 |.inl us=>.inr (tw,tr,a,x,v,y,0,false,0,[],0,v.Kind,false,0,[],0,path,acc++us)
 |.inr p=>.inl (false,tw,tr,p,⟨0,false,0,[],0,[],[],[]⟩,path)
theorem Nf(c:path.length<=90000)(s:x.ah.length<=1000)(D:y.ah.length<=1000)(af:v.aj.length=x.ah.length)(r:∀q,q∈v.aj->bJ q)
 (g:∀n,n∈y.ah->n.bV=true->j6 n.bB=some n.bB)
 (h:∀i,i<x.ah.length->∀n,n∈y.ah->Part tw tr f path (x.ah.getD i aB).aw n.aw (v.aj.getD i av)/\∀p u,f (x.ah.getD i aB).aw (v.aj.getD i av) n.aw p= .inl u->bJ u):∀(k j:Nat) (acc:List I) (a:ar),j+k=y.ah.length->acc.length<=j->
 o8 (y.ah,(y.ah.length:Int),(j:Int),tw,tr,a,x,v,y,0,false,0,[],0,v.Kind,false,0,[],0,path,acc)=some (uU tw tr a path x v y acc (jj f x v path (y.ah.drop j)))
 |0,j,acc,a,B,w=>by
  rw[o8,ch,en (by omega:y.ah.length<=j)];simp[jj,uU,I.aV]
 |k+1,j,acc,a,B,w=>by
  have aC:j<y.ah.length:=by omega
  have l:=bg aC aB;have t:=λacc a=>Nf c s D af r g h k (j+1) acc a (by omega);rw[o8,bA,ae (aP aC),a7];simp only[aU,ao,I.aV,ju];rw[Ea s,eF aC aB,jj];unfold wX l6;generalize aG:y.ah.getD j aB=n at*;cases bw:hq x.ah n.ad with
  |none=>
   simp only[ao,eV];rw[ae trivial];cases A:n.bV with
   |false=>
    simp only[eV];rw[ae trivial,D' c];rfl
   |true=>
    simp only[db];rw[bz,g n l A];simp only[ao];rw[ae (cN),bE,t _ _ (by simp;omega),ae trivial];cases jj f x v path (y.ah.drop (j+1))with
    |inr p=>rfl
    |inl us=>simp[uU,iY]
  |some i=>
   obtain⟨d,_,_⟩:=kb bw;have e:i<v.aj.length:=(by omega);obtain⟨E,F⟩:=h i d n l;simp only[ao,db];rw[bz,ae (aP d),ae (aP e),a7,E n.ad a];have o:=ED (m:=x.ah.getD i aB) (r _ (bg e av));cases z:f (x.ah.getD i aB).aw (v.aj.getD i av) n.aw (path++[n.ad])with
   |inr p=>
    simp only[ao,fG,I.aV,eV,db,Bool.and_false];rw[ae (aP d),ae (aP e),o];simp only[ao,bZ,b9];rw[NU];generalize dc (x.ah.getD i aB) (v.aj.getD i av)=b at*;cases b with
    |false=>rfl
    |true=>
     simp only[ev];rw[ae trivial,D' c];rfl
   |inl u=>
    have C:=ED (m:=n) (F _ u z);simp only[ao,fG,I.aV,eV,db,Ca];rw[ae (aP d),ae (aP e),o];simp only[ao,bZ,b9];rw[NV];generalize dc (x.ah.getD i aB) (v.aj.getD i av)=b at*;have tail:(some [u]>>=λt110=>if room 120 (acc++t110).length then o8 (y.ah,(y.ah.length:Int),aN .i64 (j:Int) 1,tw,tr,a,x,v,y,0,false,0,[],0,v.Kind,false,0,[],0,path,acc++t110)else none)=some (uU tw tr a path x v y acc (iY (.inl u) (jj f x v path (y.ah.drop (j+1))))):=by
     simp only[aU,ao];rw[ae (cN),bE,t _ _ (by simp;omega)];cases jj f x v path (y.ah.drop (j+1))with
     |inr p=>rfl
     |inl us=>simp[uU,iY]
    cases b with
    |false=>grind
    |true=>
     rw[ae rfl,C];cases G:dc n u with
     |true=>grind
     |false=>
      simp only[ao,ev,dW,eV,and_self,b5];rw[D' c];rfl
def Bg(tw tr:List ai)(a path:ar)(v:I)(its:List I)(acc:List bX):List bX ⊕ ar->(Bool×List ai×List ai×I×ar×ar) ⊕ (List ai×List ai×ar×Int×Bool×Int×ak×Int×Int×Bool×Int×ak×Int×ar×List I×List bX)
 |.inl b=>.inr (tw,tr,a,0,false,0,[],0,v.Kind,false,0,[],0,path,its,acc++b)
 |.inr p=>.inl (false,tw,tr,⟨0,false,0,[],0,[],[],[]⟩,path,p)
theorem Ng(g:path.length<=90000)(r:x.ah.length<=1000)(l:y.ah.length<=1000)(af:v.aj.length=x.ah.length)(j:∀q,q∈v.aj->bJ q)
 (h:∀i,i<x.ah.length->jF tw (x.ah.getD i aB).aw (v.aj.getD i av)){its:List I}(d:ar):∀(k i:Nat) (acc:List bX),i+k=x.ah.length->acc.length<=i->
 nZ (x.ah,(x.ah.length:Int),(i:Int),tw,tr,d,v,y,0,false,0,[],0,v.Kind,false,0,[],0,path,its,acc)=some (Bg tw tr d path v its acc (iz tw y path (x.ah.drop i) (v.aj.drop i)))
 |0,i,acc,n,m=>by
  rw[nZ,ch,en (by omega:x.ah.length<=i),iz]
  . simp[Bg]
  grind
 |k+1,i,acc,n,m=>by
  have aC:i<x.ah.length:=by omega
  have c:i<v.aj.length:=by omega
  have e:=λacc=>Ng g r l af j h (its:=its) d k (i+1) acc (by omega);rw[nZ,bA,ae (aP aC),a7];simp only[aU,ao,I.aV,ju];rw[Ea l,eF aC aB,eF c av,iz];have hs:=vL y.ah (x.ah.getD i aB).ad;have o:(l6 y.ah (x.ah.getD i aB).ad).2=(cB y.ah (x.ah.getD i aB).ad).isSome:=by
   rw[<-hs];unfold l6;grind
  simp only[ao];rw[o];by_cases a:(cB y.ah (x.ah.getD i aB).ad).isSome=true
  . rw[ae a,ae a,bE,e _ (by omega)]
  rw[al a,al a];by_cases b:(x.ah.getD i aB).cg=true
  . rw[ae b,ae b,D' g];rfl
  rw[al b,al b,ae (aP c),ED (j _ (bg c av))];simp only[ao];cases dc (x.ah.getD i aB) (v.aj.getD i av)with
  |true=>rw[bz,ae rfl,bE,e _ (by omega)]
  |false=>
   have f:=h i aC;unfold jF at f;rw[ae (show(!false)=true from rfl),al (show ¬false=true by simp),ae (aP c),f];simp only[ao];rw[ae (cN),bE,e _ (by simp;omega)];cases iz tw y path (x.ah.drop (i+1)) (v.aj.drop (i+1))with
   |inr p=>rfl
   |inl us=>simp[Bg,iY]
theorem aa1(b:path.length<=90000)(k5:v.Kind=5)(d:x.ah.length<=1000)(e:y.ah.length<=1000)(af:v.aj.length=x.ah.length)(c:∀q,q∈v.aj->bJ q)
 (k:∀n,n∈y.ah->n.bV=true->j6 n.bB=some n.bB)
 (h:∀i,i<x.ah.length->∀n,n∈y.ah->Part tw tr f path (x.ah.getD i aB).aw n.aw (v.aj.getD i av)/\∀p u,f (x.ah.getD i aB).aw (v.aj.getD i av) n.aw p= .inl u->bJ u)
 (l:∀i,i<x.ah.length->jF tw (x.ah.getD i aB).aw (v.aj.getD i av))(a:ar):
 yo (x,v,y,tw,tr,a,path)=some (fG tw tr a path (wW tw f x y v path)):=by
 have h0:=Nf b d e af c k h y.ah.length 0 [] a (by omega) (by simp);have g:o8 (y.ah,(y.ah.length:Int),0,tw,tr,a,x,v,y,0,false,0,[],0,v.Kind,false,0,[],0,path,[])=_:=h0;rw[yo];simp only[I.aV];rw[g,fU];unfold wW;cases jj f x v path y.ah with
 |inr p=>rfl
 |inl its=>
  have h1:=Ng (tr:=tr) b d e af c l (its:=its) a x.ah.length 0 [] (by omega) (by simp);have j:nZ (x.ah,(x.ah.length:Int),0,tw,tr,a,v,y,0,false,0,[],0,v.Kind,false,0,[],0,path,its,[])=_:=h1;simp only[aU,ao,uU,fT,I.aV];rw[j,fU,fU];cases iz tw y path x.ah v.aj with
  |inr p=>rfl
  |inl r=>simp only[ao,Bg,fT,k5,mx,h4,fG]
theorem abt(g:path.length<=90000)(k6:v.Kind=6)(j:x.ah.length<=1000)(l:y.ah.length<=1000)(h1:v.aj.length=1){i:Nat}(a:hq x.ah v.ad=some i)
 (h:∀n,n∈y.ah->Part tw tr f path (x.ah.getD i aB).aw n.aw (v.aj.getD 0 av))
 (c:jF tw (x.ah.getD i aB).aw (v.aj.getD 0 av))(e:ar):
 yu (x,v,y,tw,tr,e,path)=some (fG tw tr e path (uF tw f x y v path)):=by
 obtain⟨d,_,_⟩:=kb a;have b:aH 0 v.aj.length=true:=by rw[h1];rfl
 rw[yu,Ea j,Ea l];unfold uF l6;simp only[aU,ao,I.aV,a];cases bw:hq y.ah v.ad with
 |some k=>
  obtain⟨k1,_,_⟩:=kb bw;simp only;rw[ae trivial,ae (aP d),ae b,ae (aP k1),a7,a7,show(0:Int).toNat=0 from rfl,h _ (bg k1 aB)];cases f (x.ah.getD i aB).aw (v.aj.getD 0 av) (y.ah.getD k aB).aw (path++[v.ad])with
  |inr p=>
   simp only[ao,fG,eV,h4];rw[ae trivial]
  |inl u=>
   simp only[ao,fG,db,h4,I.aV,k6];rw[bz]
 |none=>
  simp only;rw[bz];cases y.Open with
  |false=>
   simp only[eV];rw[ae trivial,SF g];simp only[ao,I.aV,bZ,b9,fG]
  |true=>
   unfold jF at c;simp only[db];rw[bz,ae (aP d),ae b,a7,show(0:Int).toNat=0 from rfl,c];simp only[ao,b5,fG,k6]
def Bi(tw tr:List ai)(n:Nat):Prop:=∀{v:I},bJ v->∀{t rt:Int} {path:ar} (a:ar),bY tw true t v->gy tw n t v->0<=rt->rt<tr.length->path.length+n<=50000->
 tQ (t,v,rt,tw,tr,a,path)=some (fG tw tr a path (er tw tr n t v rt path))
theorem abu(dh:c8 tw)(cQ:c8 tr){n:Nat}(ih:Bi tw tr n):Bi tw tr (n+1):=by
 intro v aA t rt path e J au ba S aS;unfold gy at au;obtain⟨⟨z1,a8,a'⟩,L,N,G⟩:=au;have SW:=dh.V.hx dh.T;have cx:=cQ.V.hx cQ.T;have aV:=fD v;obtain⟨⟨aM,aN,am,an⟩,U⟩:=(eJ _ _ _).1 J;obtain⟨j,rfl⟩:∃j:Nat,t=(j:Int):=⟨t.toNat,by omega⟩
 obtain⟨k,rfl⟩:∃k:Nat,rt=(k:Int):=⟨rt.toNat,by omega⟩
 have Y:j<tw.length:=by omega
 have Z:k<tr.length:=by omega
 have aa:=bg Y aJ;have o:=bg Z aJ;have aR:=an rfl;cases aA with
 |mk _ hs h1 aO aQ aq B aT c' aY aZ a6=>
 rw[tQ,ae (aP Y),Dq];simp only[aU,ao,a7,I.aV];rw[a7]at am U L N G;rw[ae (aP Z)];have ak:∀q,q∈(tr.getD k aJ).ah->q.bV=true->j6 q.bB=some q.bB:=λq a ap=>aa0 ((cQ.T _ o).iK _ a) (by have:=cQ.W _ o q a ap;omega);generalize aW:tw.getD j aJ=x at*;generalize aX:tr.getD k aJ=y at*;have K:∀{t rt:Int} {q:I},q∈v.aj->bY tw true t q->gy tw n t q->0<=rt->rt<tr.length->Part tw tr (er tw tr n) path t rt q:=λ{t rt q} a J Q a0 a1 step e=>Nd (by omega) (ih (B q a) e J Q a0 a1 (by simp;omega));have aG:∀{t rt:Int} {q:I},q∈v.ay->bY tw true t q->gy tw n t q->0<=rt->rt<tr.length->Part tw tr (er tw tr n) path t rt q:=λ{t rt q} a J Q a0 a1 step e=>Nd (by omega) (ih (aq q a) e J Q a0 a1 (by simp;omega));have F:=SF (tw:=tw) (tr:=tr) (path:=path) (by omega) e;by_cases bC:x.Kind=y.Kind
 . rw[al (show ¬(!(decide (x.Kind=y.Kind)))=true by simp[bC])];have M:∀{t rt:Int},v.aj=[]->nE (t,v.aj,rt,tw,tr,e,path)=some ([],true,tw,tr,e,path):=λ{t rt} he=>by
    have:=Ae (tw:=tw) (tr:=tr) (f:=er tw tr n) (path:=path) (t:=t) (rt:=rt) (l:=v.aj) (by omega) (λq a=>by rw[he]at a;cases a) e;rw[this,he];rfl
   rcases U with h|h|h|h|h|h|h|h|h
   . obtain⟨a1,a2,a3,a4,a5,d,C⟩:=h;have b:x.Kind=1:=(by omega);have af:jz x y v:=⟨λh=>by omega,λh=>by omega,λh=>by omega⟩
     rw[rN bC (by omega) af];simp only[b];simp only[M d,ao,dk,bZ,b9,Int.reduceEq,db,fG];cases v;simp_all
   . obtain⟨a1,a2,a3,a4,a5,d,C,D,a9⟩:=h;have b:x.Kind=2:=(by omega);by_cases af:y.bF<=v.bd/\v.bd<=y.bH
     . rw[rN bC (by omega) (show jz x y v from⟨λ_=>af,λh=>by omega,λh=>by omega⟩)];simp only[b];simp only[M d,af.1,af.2,ao,dk,de,bZ,b9,b5,Int.reduceEq,db,ev,fG];cases v;simp_all
     . rw[wV bC (by omega) (show ¬jz x y v fromλh=>af (h.1 b))];have H:(bif decide (y.bF<=v.bd)then decide (v.bd<=y.bH)else false)=false:=by
        by_cases c:y.bF<=v.bd<;>simp[c];omega
       simp only[b,H];simp only[F,ao,de,b5,eV,fG,I.aV]
   . obtain⟨a1,a2,a3,a4,a5,d,C,D⟩:=h;have b:x.Kind=3:=(by omega);by_cases af:(v.bl.length:Int)<=y.Max
     . rw[rN bC (by omega) (show jz x y v from⟨λh=>by omega,λ_=>af,λh=>by omega⟩)];simp only[b];simp only[M d,af,ao,dk,de,bZ,b9,b5,Int.reduceEq,db,ev,fG];cases v;simp_all
     . rw[wV bC (by omega) (show ¬jz x y v fromλh=>af (h.2.1 b))];simp only[b];simp only[F,af,ao,de,dk,b5,b9,Int.reduceEq,bZ,eV,fG,I.aV]
   . obtain⟨a1,a2,a3,a4,a5,d,C,D⟩:=h;have b:x.Kind=4:=(by omega);obtain⟨r,S,_,aI⟩:=q9 (t:=y) v.ad (by have:=(cQ.T _ o).1;have:=dB (dV reachBytes);omega);have ag:r.2=true↔∃s,s∈y.bh/\s.ad=v.ad:=by
      rcases aI with⟨q,g,R,_,rfl⟩|⟨q,rfl⟩
      . exact⟨λ_=>⟨_,bg g dL,R⟩,λ_=>rfl⟩
      . constructor
        . intro h;simp at h
        intro a;obtain⟨s,s1,aK⟩:=a;obtain⟨i,B,rfl⟩:=e3 s1;exact absurd aK (by have:=q i B;rwa [du B]at this)
     by_cases af:(∃s,s∈y.bh/\s.ad=v.ad)\/y.Open=true
     . rw[rN bC (by omega) (show jz x y v from⟨λh=>by omega,λh=>by omega,λ_=>af⟩)];have H:(bif r.2 then true else y.Open)=true:=by
        rcases af with af|af
        . rw[ag.2 af];rfl
        . rw[af];cases r.2<;>rfl
       simp only[b,S];simp only[M d,H,ao,dk,de,bZ,b9,b5,Int.reduceEq,db,fG];cases v;simp_all
     . rw[wV bC (by omega) (show ¬jz x y v fromλh=>af (h.2.2 b))];have H:(bif r.2 then true else y.Open)=false:=by
        cases ax:r.2 with
        |true=>exact absurd (.inl (ag.1 ax)) af
        |false=>
         cases ar:y.Open with
         |true=>exact absurd (.inr ar) af
         |false=>rfl
       simp only[b,S];simp only[F,H,ao,de,dk,b5,b9,Int.reduceEq,bZ,eV,fG,I.aV]
   . obtain⟨a1,a2,a3,a4,a5,d,C,D⟩:=h;have b:x.Kind=5:=(by omega);obtain⟨ab,aC⟩:=SW.A _ aa (.inl (by omega));obtain⟨aD,aE⟩:=cx.A _ o (.inl (by omega));obtain⟨f1,f2⟩:=hJ.1 D
     have ag:=aa1 (tw:=tw) (tr:=tr) (f:=er tw tr n) (path:=path) (by omega) (x:=x) (y:=y) a1 (by omega) (by omega) f1 B ak (λi E q a=>by
      have w:=bg (by omega:i<v.aj.length) av;obtain⟨z,g⟩:=cQ.gS.mem o a;exact⟨K w (f2 i E) (L b i E) z g,λp u az=>(MT dh cQ n (B _ w) (f2 i E) (L b i E) z g az).1⟩) (λi E=>by
      have w:=bg (by omega:i<v.aj.length) av
      exact PS dh (B _ w) _ (f2 i E) (L b i E).len) e
     rw[SO bC b];simp only[b,ag,ao,dk,de,bZ,b9,b5,Int.reduceEq,I.aV]
   . obtain⟨a1,a2,a3,a4,a5,d⟩:=h;have b:x.Kind=6:=(by omega);obtain⟨ab,aC⟩:=SW.A _ aa (.inr (by omega));obtain⟨aD,aE⟩:=cx.A _ o (.inr (by omega));cases bw:cB x.ah v.ad with
     |none=>rw[bw]at d;cases d.2.1
     |some m=>
      rw[bw]at d;obtain⟨b1,b2,b3⟩:=d;have P:=vL x.ah v.ad;rw[bw]at P;cases O:hq x.ah v.ad with
      |none=>rw[O]at P;cases P
      |some i=>
      obtain⟨d1,d2,_⟩:=kb O;obtain⟨d3,d4⟩:=j' bw;have em:x.ah.getD i aB=m:=qR ab (bg d1 aB) d3 (by rw[d2,d4]);have w:=bg (by omega:0<v.aj.length) av;have X:=cF.1 b3 _ w
      have ag:=abt (tw:=tw) (tr:=tr) (f:=er tw tr n) (path:=path) (by omega) (x:=x) (y:=y) a1 (by omega) (by omega) b2 O (λq a=>by
       obtain⟨z,g⟩:=cQ.gS.mem o a;rw[em]
       exact K w X (N b _ bw _ w) z g) (by rw[em];exact PS dh (B _ w) _ X (N b _ bw _ w).len) e
      rw[SP bC b];simp only[b,ag,ao,dk,de,bZ,b9,b5,Int.reduceEq,I.aV]
   . obtain⟨a1,a2,a3,a4,a5,d,C,D,a9⟩:=h;have b:x.Kind=7:=(by omega);obtain⟨z,g⟩:=cQ.gS.elem o (by omega);have a:=Ae (tw:=tw) (tr:=tr) (f:=er tw tr n) (path:=path) (t:=x.aF) (rt:=y.aF) (l:=v.aj) (by omega) (λq a=>K a (cF.1 a9 q a) ((G (by omega)).1 q a) z g) e;rw[SQ bC b];unfold AE;by_cases af:(v.aj.length:Int)<=y.Max
     . rw[ae af];simp only[b,a,af,ao,dk,de,bZ,b9,b5,Int.reduceEq,db];cases e2 (er tw tr n) path x.aF y.aF 0 v.aj with
       |inr p=>rfl
       |inl us=>simp only[oP,h4,fG,db,bZ,b9,a1,a2,a3,a4,a5]
     . rw[al af];simp only[b];simp only[F,af,ao,de,dk,b5,b9,Int.reduceEq,bZ,eV,fG,I.aV]
   . obtain⟨a1,a2,a3,a4,a5,d,C,D,a9,ai,aL⟩:=h;have b:x.Kind=8:=(by omega);obtain⟨z,g⟩:=cQ.gS.elem o (by omega);obtain⟨R,aH⟩:=cQ.gS.key o (by omega);have a:=Ae (tw:=tw) (tr:=tr) (f:=er tw tr n) (path:=path) (t:=x.aF) (rt:=y.aF) (l:=v.aj) (by omega) (λq a=>K a (cF.1 ai q a) ((G (by omega)).1 q a) z g) e;have aw:=Ae (tw:=tw) (tr:=tr) (f:=er tw tr n) (path:=path) (t:=x.Key) (rt:=y.Key) (l:=v.ay) (by omega) (λq a=>aG a (cF.1 a9 q a) ((G (by omega)).2 q a) R aH) e;rw[SR bC b];unfold AF;by_cases af:(v.aj.length:Int)<=y.Max
     . rw[ae af];simp only[b,aw,af,ao,dk,de,bZ,b9,b5,Int.reduceEq,db];cases e2 (er tw tr n) path x.Key y.Key 0 v.ay with
       |inr p=>rfl
       |inl ks=>
        simp only[oP,mx,db,bZ,b9,a,ao];cases e2 (er tw tr n) path x.aF y.aF 0 v.aj with
        |inr p=>rfl
        |inl us=>simp only[oP,h4,fG,db,bZ,b9,a1,a2,a3,a4,a5]
     . rw[al af];simp only[b];simp only[F,af,ao,de,dk,b5,b9,Int.reduceEq,bZ,eV,fG,I.aV]
   . obtain⟨a1,a2,a3,a4,a5,d,C,D,a9⟩:=h;have b:x.Kind=9:=(by omega);obtain⟨z,g⟩:=cQ.gS.elem o (by omega);have a:=Ae (tw:=tw) (tr:=tr) (f:=er tw tr n) (path:=path) (t:=x.aF) (rt:=y.aF) (l:=v.aj) (by omega) (λq a=>K a (cF.1 a9 q a) ((G (by omega)).1 q a) z g) e;rw[SS bC b];unfold AG;simp only[b,a,ao,dk,de,bZ,b9,b5,Int.reduceEq,db];cases e2 (er tw tr n) path x.aF y.aF 0 v.aj with
     |inr p=>rfl
     |inl us=>simp only[oP,h4,fG,db,bZ,b9,a1,a2,a3,a4,a5]
 . rw[ae (show(!(decide (x.Kind=y.Kind)))=true by simp[bC]),PQ bC,F];simp only[ao,I.aV,fG]
theorem abv:Bi tw tr 0:=by
 intro v _ _ _ _ _ _ h;cases h
theorem Nh(dh:c8 tw)(cQ:c8 tr):∀n,Bi tw tr n
 |0=>abv
 |n+1=>abu dh cQ (Nh dh cQ n)
end
def hC:I ⊕ ar->dK
 |.inl u=>⟨u,[],true⟩
 |.inr p=>⟨⟨0,false,0,[],0,[],[],[]⟩,p,false⟩
theorem Cw(a:path.length<=90000):kz path=some (hC (.inr path)):=by
 rw[kz,ae (cN),fT];rfl
theorem Ai(a:path.length<=90000)(step:Int):q3 (path,step)=some (path++[step]):=by
 rw[q3,ae (cN),fT];simp only[aU,ao];rw[ae (cN)]
theorem Gb{m:aS}(b:bJ m.bB)(v:I):vK (m,v)=some (dc m v):=by
 rw[vK];simp only[I.aV];unfold dc;cases d:m.bV with
 |false=>rfl
 |true=>
  obtain⟨r,c,a⟩:=acj b v;rw[ae rfl,c];by_cases e:m.bB=v
  . have:=a.2 e;subst this;simp[e]
  . have:r=false:=by
     cases r with
     |false=>rfl
     |true=>exact absurd (a.1 rfl) e
    subst this;simp[e]
theorem Eb(af:x.ah.length<=1000)(id:Int):hE (x,id)=some (l6 x.ah id):=by
 obtain⟨r,a,b⟩:=CM (t:=x) (id:=id) (by omega);rw[a,Ho b (MQ _ _)]
section
variable {tw tr:List ai}
def oQ(tw tr:List ai)(f:fM)(path:ar)(t rt:Int)(v:I):Prop:=∀step:Int,mI ((⟨tw⟩:aT),t,v,(⟨tr⟩:aT),rt,path++[step])=some (hC (f t v rt (path++[step])))
def Bf(tw tr:List ai)(path:ar)(x y:ai)(v:I)(acc:List I):List I ⊕ ar->dK ⊕ (ar×List ai×I×List ai×Int×Bool×Int×ak×Int×Bool×ai×ai×Int×Bool×Int×ak×Int×List bX×List I)
 |.inl us=>.inr (path,tw,v,tr,0,false,0,[],0,false,x,y,v.Kind,v.bN,v.bd,v.bl,v.ad,v.Rest,acc++us)
 |.inr p=>.inl (hC (.inr p))
theorem Ni(a:path.length<=90000)(af:v.ay.length<=50000)(h:∀q,q∈v.ay->oQ tw tr f path x.Key y.Key q):∀(k i:Nat) (acc:List I),i+k=v.ay.length->acc.length<=i->
 n' (path,(i:Int),tw,v,tr,0,false,0,[],0,false,x,y,v.Kind,v.bN,v.bd,v.bl,v.ad,v.Rest,acc)=some (Bf tw tr path x y v acc (e2 f path x.Key y.Key i (v.ay.drop i)))
 |0,i,acc,c,b=>by
  rw[n',ch,en (by omega:v.ay.length<=i)];simp[e2,Bf,I.aV]
 |k+1,i,acc,c,b=>by
  have aC:i<v.ay.length:=by omega
  rw[n',bA,ae (aP aC),a7,Ai a];simp only[I.aV,aU,ao];rw[h _ (bg aC av),eF aC av,e2];cases f x.Key (v.ay.getD i av) y.Key (path++[(i:Int)])with
  |inr p=>rfl
  |inl u=>
   simp only[ao,hC,db];rw[bz,ae (cN),bE,Ni a af h k (i+1) _ (by omega) (by simp;omega)];cases e2 f path x.Key y.Key (i+1) (v.ay.drop (i+1))with
   |inr p=>rfl
   |inl us=>simp[Bf,iY]
def Be(v:I)(ks acc:List I):List I ⊕ ar->dK ⊕ (Int×Bool×Int×ak×Int×Bool×Int×Bool×Int×ak×Int×List bX×List I×List I)
 |.inl us=>.inr (0,false,0,[],0,false,v.Kind,v.bN,v.bd,v.bl,v.ad,v.Rest,ks,acc++us)
 |.inr p=>.inl (hC (.inr p))
theorem MU(a:path.length<=90000)(af:v.aj.length<=50000)(h:∀q,q∈v.aj->oQ tw tr f path x.aF y.aF q):∀(k i:Nat) (acc:List I),i+k=v.aj.length->acc.length<=i->
 nz (path,(i:Int),tw,v,tr,0,false,0,[],0,false,x,y,v.Kind,v.bN,v.bd,v.bl,v.ad,v.Rest,ks,acc)=some (Be v ks acc (e2 f path x.aF y.aF i (v.aj.drop i)))
 |0,i,acc,c,b=>by
  rw[nz,ch,en (by omega:v.aj.length<=i)];simp[e2,Be]
 |k+1,i,acc,c,b=>by
  have aC:i<v.aj.length:=by omega
  rw[nz,bA,ae (aP aC),a7,Ai a];simp only[I.aV,aU,ao];rw[h _ (bg aC av),eF aC av,e2];cases f x.aF (v.aj.getD i av) y.aF (path++[(i:Int)])with
  |inr p=>rfl
  |inl u=>
   simp only[ao,hC,db];rw[bz,ae (cN),bE,MU a af h k (i+1) _ (by omega) (by simp;omega)];cases e2 f path x.aF y.aF (i+1) (v.aj.drop (i+1))with
   |inr p=>rfl
   |inl us=>simp[Be,iY]
def mi(f:fM)(x y:ai)(v:I)(path:ar):I ⊕ ar:=
 mx (λks=>h4 (λa=>⟨v.Kind,v.bN,v.bd,v.bl,v.ad,ks,a,v.Rest⟩) (e2 f path x.aF y.aF 0 v.aj)) (e2 f path x.Key y.Key 0 v.ay)
theorem um(a:path.length<=90000)(e:v.ay.length<=50000)(af:v.aj.length<=50000)(d:∀q,q∈v.ay->oQ tw tr f path x.Key y.Key q)(h:∀q,q∈v.aj->oQ tw tr f path x.aF y.aF q):
 (∃p,mi f x y v path= .inr p/\n' (path,0,tw,v,tr,0,false,0,[],0,false,x,y,v.Kind,v.bN,v.bd,v.bl,v.ad,v.Rest,[])=some (.inl (hC (.inr p))))\/
 ∃ks,n' (path,0,tw,v,tr,0,false,0,[],0,false,x,y,v.Kind,v.bN,v.bd,v.bl,v.ad,v.Rest,[])=some (.inr (path,tw,v,tr,0,false,0,[],0,false,x,y,v.Kind,v.bN,v.bd,v.bl,v.ad,v.Rest,ks))/\
  ((∃p,mi f x y v path= .inr p/\nz (path,0,tw,v,tr,0,false,0,[],0,false,x,y,v.Kind,v.bN,v.bd,v.bl,v.ad,v.Rest,ks,[])=some (.inl (hC (.inr p))))\/
  ∃us,mi f x y v path= .inl ⟨v.Kind,v.bN,v.bd,v.bl,v.ad,ks,us,v.Rest⟩/\nz (path,0,tw,v,tr,0,false,0,[],0,false,x,y,v.Kind,v.bN,v.bd,v.bl,v.ad,v.Rest,ks,[])=some (.inr (0,false,0,[],0,false,v.Kind,v.bN,v.bd,v.bl,v.ad,v.Rest,ks,us))):=by
 have h0:=Ni a e d v.ay.length 0 [] (by omega) (by simp);have b:n' (path,0,tw,v,tr,0,false,0,[],0,false,x,y,v.Kind,v.bN,v.bd,v.bl,v.ad,v.Rest,[])=_:=h0;rw[b,fU];unfold mi;cases e2 f path x.Key y.Key 0 v.ay with
 |inr p=>exact .inl ⟨p,rfl,rfl⟩
 |inl ks=>
  have h1:=MU (tw:=tw) (tr:=tr) a af h (ks:=ks) v.aj.length 0 [] (by omega) (by simp);have c:nz (path,0,tw,v,tr,0,false,0,[],0,false,x,y,v.Kind,v.bN,v.bd,v.bl,v.ad,v.Rest,ks,[])=_:=h1;refine .inr ⟨ks,by simp[Bf],?_⟩;rw[c,fU];cases e2 f path x.aF y.aF 0 v.aj with
  |inr p=>exact .inl ⟨p,rfl,rfl⟩
  |inl us=>exact .inr ⟨us,rfl,by simp[Be]⟩
def uV(tw:List ai)(path:ar)(x y:ai)(v:I)(acc:List I):List I ⊕ ar->dK ⊕ (ar×List ai×ai×I×ai×Int×Bool×Int×ak×Int×Bool×Int×Bool×Int×ak×Int×List I)
 |.inl us=>.inr (path,tw,x,v,y,0,false,0,[],0,false,v.Kind,false,0,[],0,acc++us)
 |.inr p=>.inl (hC (.inr p))
theorem Nj{path:ar}(t:path.length<=80000)(m:x.ah.length<=1000)(z:y.ah.length<=1000)(af:v.aj.length=x.ah.length)
 (d:∀n,n∈x.ah->bJ n.bB)(e:∀n,n∈y.ah->bJ n.bB)
 (h:∀i,i<x.ah.length->∀n,n∈y.ah->oQ tw tr f path (x.ah.getD i aB).aw n.aw (v.aj.getD i av)):∀(k j:Nat) (acc:List I),j+k=y.ah.length->acc.length<=j->
 pf (path,(j:Int),tw,x,v,tr,y,0,false,0,[],0,false,v.Kind,false,0,[],0,acc)=some (uV tw path x y v acc (jj f x v path (y.ah.drop j)))
 |0,j,acc,s,q=>by
  rw[pf,ch,en (by omega:y.ah.length<=j)];simp[jj,uV,I.aV]
 |k+1,j,acc,s,q=>by
  have aC:j<y.ah.length:=by omega
  have g:=bg aC aB;have o:=λacc=>Nj t m z af d e h k (j+1) acc (by omega);rw[pf,bA,ae (aP aC),a7];simp only[aU,ao,I.aV,ju];rw[Ai (by omega),Eb m,eF aC aB,jj];unfold wX l6;have r:=e _ g;generalize aG:y.ah.getD j aB=n at*;have M:=Cw (path:=path++[n.ad]) (by simp;omega);cases bw:hq x.ah n.ad with
  |none=>
   simp only[ao,eV,ev];cases D:n.bV with
   |false=>
    rw[ae (show(!false)=true from rfl),M,al (show ¬false=true by simp)];rfl
   |true=>
    rw[al (show ¬(!true)=true by simp),ae trivial,ae (cN),bE,o _ (by simp;omega),ae (show true=true from rfl)];cases jj f x v path (y.ah.drop (j+1))with
    |inr p=>rfl
    |inl us=>simp[uV,iY]
  |some i=>
   obtain⟨a,_,_⟩:=kb bw;have c:i<v.aj.length:=(by omega);have A:=h i a n g;simp only[ao,db,dW];rw[bz,bz,ae (aP a),ae (aP c),a7,A n.ad];have l:=Gb (d _ (bg a aB)) (v.aj.getD i av);cases C:f (x.ah.getD i aB).aw (v.aj.getD i av) n.aw (path++[n.ad])with
   |inr p=>
    simp only[ao,hC,I.aV,eV,db,Bool.and_false];rw[ae (aP a),ae (aP c),l];simp only[ao,bZ,b9];rw[NU];generalize dc (x.ah.getD i aB) (v.aj.getD i av)=b at*;cases b with
    |false=>rfl
    |true=>
     simp only[ev];rw[ae trivial,M];rfl
   |inl u=>
    have w:=Gb r u;simp only[ao,hC,I.aV,eV,db,Ca];rw[ae (aP a),ae (aP c),l];simp only[ao,bZ,b9];rw[NV];generalize dc (x.ah.getD i aB) (v.aj.getD i av)=b at*;have tail:(some [u]>>=λt110=>if room 120 (acc++t110).length then pf (path,aN .i64 (j:Int) 1,tw,x,v,tr,y,0,false,0,[],0,false,v.Kind,false,0,[],0,acc++t110)else none)=some (uV tw path x y v acc (iY (.inl u) (jj f x v path (y.ah.drop (j+1))))):=by
     simp only[aU,ao];rw[ae (cN),bE,o _ (by simp;omega)];cases jj f x v path (y.ah.drop (j+1))with
     |inr p=>rfl
     |inl us=>simp[uV,iY]
    cases b with
    |false=>
     simp only[bZ,b9,ao,dW,false_and];exact tail
    |true=>
     rw[ae rfl,w];cases B:dc n u with
     |true=>
      simp only[bZ,b9,ao,dW,ev,db,kh,Bool.true_eq_false];exact tail
     |false=>
      simp only[ao,ev,dW,eV,and_self,b5];rw[M];rfl
def Bh(v:I)(its:List I)(acc:List bX):List bX ⊕ ar->dK ⊕ (Int×Bool×Int×ak×Int×Bool×Int×Bool×Int×ak×Int×List I×List bX)
 |.inl a=>.inr (0,false,0,[],0,false,v.Kind,false,0,[],0,its,acc++a)
 |.inr p=>.inl (hC (.inr p))
theorem Nk(o:path.length<=80000)(q:x.ah.length<=1000)(g:y.ah.length<=1000)(af:v.aj.length=x.ah.length)(e:∀n,n∈x.ah->bJ n.bB)
 (h:∀i,i<x.ah.length->iR tw (v.aj.getD i av) (x.ah.getD i aB).aw){its:List I}:∀(k i:Nat) (acc:List bX),i+k=x.ah.length->acc.length<=i->
 n3 (path,(i:Int),tw,x,v,y,0,false,0,[],0,false,v.Kind,false,0,[],0,its,acc)=some (Bh v its acc (iz tw y path (x.ah.drop i) (v.aj.drop i)))
 |0,i,acc,l,j=>by
  rw[n3,ch,en (by omega:x.ah.length<=i),iz]
  . simp[Bh]
  . intros;simp_all
 |k+1,i,acc,l,j=>by
  have aC:i<x.ah.length:=by omega
  have c:i<v.aj.length:=by omega
  have d:=λacc=>Nk o q g af e h (its:=its) k (i+1) acc (by omega);rw[n3,bA,ae (aP aC),a7];simp only[aU,ao,I.aV,ju];rw[Eb g,eF aC aB,eF c av,iz];have hs:=vL y.ah (x.ah.getD i aB).ad;have m:(l6 y.ah (x.ah.getD i aB).ad).2=(cB y.ah (x.ah.getD i aB).ad).isSome:=by
   rw[<-hs];unfold l6;cases hq y.ah (x.ah.getD i aB).ad<;>rfl
  simp only[ao];rw[m];by_cases a:(cB y.ah (x.ah.getD i aB).ad).isSome=true
  . rw[ae a,ae a,bE,d _ (by omega)]
  rw[al a,al a];by_cases b:(x.ah.getD i aB).cg=true
  . rw[ae b,ae b,Ai (by omega)];simp only[ao];rw[Cw (by simp;omega)];rfl
  rw[al b,al b,ae (aP c),Gb (e _ (bg aC aB))];simp only[ao];cases dc (x.ah.getD i aB) (v.aj.getD i av)with
  |true=>
   rw[bz,ae rfl,bE,d _ (by omega)]
  |false=>
   have f:=h i aC;unfold iR at f;rw[ae (show(!false)=true from rfl),al (show ¬false=true by simp),ae (aP c),f];simp only[ao];rw[ae (cN),bE,d _ (by simp;omega)];cases iz tw y path (x.ah.drop (i+1)) (v.aj.drop (i+1))with
   |inr p=>rfl
   |inl us=>simp[Bh,iY]
theorem aa2(b:path.length<=80000)(k5:v.Kind=5)(c:x.ah.length<=1000)(d:y.ah.length<=1000)(af:v.aj.length=x.ah.length)
 (a:∀n,n∈x.ah->bJ n.bB)(e:∀n,n∈y.ah->bJ n.bB)
 (h:∀i,i<x.ah.length->∀n,n∈y.ah->oQ tw tr f path (x.ah.getD i aB).aw n.aw (v.aj.getD i av))
 (k:∀i,i<x.ah.length->iR tw (v.aj.getD i av) (x.ah.getD i aB).aw):
 x7 ((⟨tw⟩:aT),x,v,(⟨tr⟩:aT),y,path)=some (hC (wW tw f x y v path)):=by
 have h0:=Nj b c d af a e h y.ah.length 0 [] (by omega) (by simp);have g:pf (path,0,tw,x,v,tr,y,0,false,0,[],0,false,v.Kind,false,0,[],0,[])=_:=h0;rw[x7];simp only[I.aV];rw[g,fU];unfold wW;cases jj f x v path y.ah with
 |inr p=>rfl
 |inl its=>
  have h1:=Nk (tw:=tw) b c d af a k (its:=its) x.ah.length 0 [] (by omega) (by simp);have j:n3 (path,0,tw,x,v,y,0,false,0,[],0,false,v.Kind,false,0,[],0,its,[])=_:=h1;simp only[aU,ao,uV,fT,I.aV];rw[j,fU,fU];cases iz tw y path x.ah v.aj with
  |inr p=>rfl
  |inl r=>simp only[ao,Bh,fT,k5,mx,h4,hC,nH,I.aV]
theorem abw(j:path.length<=80000)(k6:v.Kind=6)(e:x.ah.length<=1000)(g:y.ah.length<=1000)(h1:v.aj.length=1){i:Nat}(a:hq x.ah v.ad=some i)
 (h:∀n,n∈y.ah->oQ tw tr f path (x.ah.getD i aB).aw n.aw (v.aj.getD 0 av))
 (c:iR tw (v.aj.getD 0 av) (x.ah.getD i aB).aw):
 zf ((⟨tw⟩:aT),x,v,(⟨tr⟩:aT),y,path)=some (hC (uF tw f x y v path)):=by
 obtain⟨d,_,_⟩:=kb a;have b:aH 0 v.aj.length=true:=by rw[h1];rfl
 rw[zf,Eb e,Eb g];unfold uF l6;simp only[aU,ao,I.aV,a];cases bw:hq y.ah v.ad with
 |some k=>
  obtain⟨k1,_,_⟩:=kb bw;simp only[db,dW];rw[bz,bz,ae (aP d),ae b,ae (aP k1),a7,a7,show(0:Int).toNat=0 from rfl,Ai (by omega)];simp only[ao];rw[h _ (bg k1 aB)];cases f (x.ah.getD i aB).aw (v.aj.getD 0 av) (y.ah.getD k aB).aw (path++[v.ad])with
  |inr p=>
   simp only[ao,hC,eV,h4,I.aV];rw[ae trivial]
  |inl u=>
   simp only[ao,hC,db,h4,I.aV,k6,nH];rw[bz]
 |none=>
  simp only[eV,ev];cases y.Open with
  |false=>
   rw[ae (show(!false)=true from rfl),Cw (by omega)];simp only[ao,I.aV,bZ,b9,hC]
  |true=>
   unfold iR at c;rw[al (show ¬(!true)=true by simp),ae trivial,ae (aP d),ae b,a7,show(0:Int).toNat=0 from rfl,c];simp only[ao,b5,hC,k6,nH,I.aV]
def xu(tw tr:List ai)(n:Nat):Prop:=∀{v:I},bJ v->wt v<=2147483648->∀{t rt:Int} {path:ar},bY tw true t v->gy tw n t v->0<=rt->rt<tr.length->path.length+n<=50000->
 mI ((⟨tw⟩:aT),t,v,(⟨tr⟩:aT),rt,path)=some (hC (er tw tr n t v rt path))
theorem aa3(dh:c8 tw)(cQ:c8 tr){n:Nat}(ih:xu tw tr n):xu tw tr (n+1):=by
 intro v aE a6 t rt path J au bi W aY;unfold gy at au;obtain⟨⟨z1,be,bf⟩,Y,Z,G⟩:=au;have SW:=dh.V.hx dh.T;have cx:=cQ.V.hx cQ.T;have a8:=fD v;obtain⟨⟨aS,aT,ax,az⟩,aa⟩:=(eJ _ _ _).1 J;obtain⟨j,rfl⟩:∃j:Nat,t=(j:Int):=⟨t.toNat,by omega⟩
 obtain⟨k,rfl⟩:∃k:Nat,rt=(k:Int):=⟨rt.toNat,by omega⟩
 have ai:j<tw.length:=by omega
 have ak:k<tr.length:=by omega
 have P:=bg ai aJ;have u:=bg ak aJ;have aX:=az rfl;cases aE with
 |mk _ hs h1 aV aW aA E aZ c' ba bb bc=>
 rw[mI,ae (aP ai),Dq];simp only[aU,ao,a7,I.aV];rw[a7]at ax aa Y Z G;rw[ae (aP ak)];have ar:=(dh.T _ P).iK;have aw:=(cQ.T _ u).iK;generalize a':tw.getD j aJ=x at*;generalize M:tr.getD k aJ=y at*;have X:∀y,y∈v.aj->wt y<=2147483648:=λy M=>by have:=fv M;omega
 have aQ:∀y,y∈v.ay->wt y<=2147483648:=λy M=>by have:=fv M;omega
 have K:∀{t rt:Int} {q:I},q∈v.aj->bY tw true t q->gy tw n t q->0<=rt->rt<tr.length->oQ tw tr (er tw tr n) path t rt q:=λ{t rt q} a J R a0 a1 step=>ih (E q a) (X q a) J R a0 a1 (by simp;omega);have aK:∀{t rt:Int} {q:I},q∈v.ay->bY tw true t q->gy tw n t q->0<=rt->rt<tr.length->oQ tw tr (er tw tr n) path t rt q:=λ{t rt q} a J R a0 a1 step=>ih (aA q a) (aQ q a) J R a0 a1 (by simp;omega);have F:=Cw (path:=path) (by omega);have D:(kz path).bind (λr=>some (⟨r.Value,r.Path,r.ck⟩:dK))=some (hC (.inr path)):=by rw[F];rfl
 by_cases bC:x.Kind=y.Kind
 . rw[al (show ¬(!(decide (x.Kind=y.Kind)))=true by simp[bC])];have N:v.ay=[]->v.aj=[]->mi (er tw tr n) x y v path= .inl v:=λaM H=>by
    unfold mi;cases v;simp_all [e2,mx,h4]
   rcases aa with h|h|h|h|h|h|h|h|h
   case' inl=>
    obtain⟨a1,a2,a3,a4,a5,d,w⟩:=h;have b:x.Kind=1:=(by omega);have af:jz x y v:=⟨λh=>by omega,λh=>by omega,λh=>by omega⟩
    have C:=um (tw:=tw) (tr:=tr) (f:=er tw tr n) (path:=path) (by omega) (x:=x) (y:=y) (v:=v) (by omega) (by omega) (λq a=>by rw[a5]at a;cases a) (λq a=>by rw[d]at a;cases a);rw[rN bC (by omega) af,<-N a5 d];simp only[b,Int.reduceEq,dk,de,dW,ev,bZ,b9,b5]
   case' inr.inl=>
    obtain⟨a1,a2,a3,a4,a5,d,w,B,a9⟩:=h;have b:x.Kind=2:=(by omega);by_cases af:y.bF<=v.bd/\v.bd<=y.bH
    case' neg=>
     have g:(bif decide (v.bd<y.bF)then true else decide (y.bH<v.bd))=true:=by
      by_cases c:v.bd<y.bF<;>simp[c];omega
     rw[wV bC (by omega) (show ¬jz x y v fromλh=>af (h.1 b))];simp only[b,g,Int.reduceEq,dk,de,dW,ev,bZ,b9,b5];exact D
    case' pos=>
     have g:(bif decide (v.bd<y.bF)then true else decide (y.bH<v.bd))=false:=by
      have ap:¬v.bd<y.bF:=(by omega);have aq:¬y.bH<v.bd:=(by omega);simp[ap,aq]
     have C:=um (tw:=tw) (tr:=tr) (f:=er tw tr n) (path:=path) (by omega) (x:=x) (y:=y) (v:=v) (by omega) (by omega) (λq a=>by rw[a5]at a;cases a) (λq a=>by rw[d]at a;cases a);rw[rN bC (by omega) (show jz x y v from⟨λ_=>af,λh=>by omega,λh=>by omega⟩),<-N a5 d];simp only[b,g,Int.reduceEq,dk,de,dW,ev,bZ,b9,b5]
   case' inr.inr.inl=>
    obtain⟨a1,a2,a3,a4,a5,d,w,B⟩:=h;have b:x.Kind=3:=(by omega);by_cases af:(v.bl.length:Int)<=y.Max
    case' neg=>
     have g:decide (y.Max<(v.bl.length:Int))=true:=jW (by omega);rw[wV bC (by omega) (show ¬jz x y v fromλh=>af (h.2.1 b))];simp only[b,g,Int.reduceEq,dk,de,dW,ev,bZ,b9,b5];exact D
    case' pos=>
     have g:decide (y.Max<(v.bl.length:Int))=false:=uB (by omega);have C:=um (tw:=tw) (tr:=tr) (f:=er tw tr n) (path:=path) (by omega) (x:=x) (y:=y) (v:=v) (by omega) (by omega) (λq a=>by rw[a5]at a;cases a) (λq a=>by rw[d]at a;cases a);rw[rN bC (by omega) (show jz x y v from⟨λh=>by omega,λ_=>af,λh=>by omega⟩),<-N a5 d];simp only[b,g,Int.reduceEq,dk,de,dW,ev,bZ,b9,b5]
   case' inr.inr.inr.inl=>
    obtain⟨a1,a2,a3,a4,a5,d,w,B⟩:=h;have b:x.Kind=4:=(by omega);obtain⟨r,_,W,aN⟩:=q9 (t:=y) v.ad (by have:=(cQ.T _ u).1;have:=dB (dV reachBytes);omega);have ag:r.2=true↔∃s,s∈y.bh/\s.ad=v.ad:=by
     rcases aN with⟨q,l,U,_,rfl⟩|⟨q,rfl⟩
     . exact⟨λ_=>⟨_,bg l dL,U⟩,λ_=>rfl⟩
     . constructor
       . intro h;simp at h
       intro a;obtain⟨s,s1,aO⟩:=a;obtain⟨i,E,rfl⟩:=e3 s1;exact absurd aO (by have:=q i E;rwa [du E]at this)
    by_cases af:(∃s,s∈y.bh/\s.ad=v.ad)\/y.Open=true
    case' neg=>
     have g:(bif (!r.2)then(!y.Open)else false)=true:=by
      cases aD:r.2 with
      |true=>exact absurd (.inl (ag.1 aD)) af
      |false=>
       cases aC:y.Open with
       |true=>exact absurd (.inr aC) af
       |false=>rfl
     rw[wV bC (by omega) (show ¬jz x y v fromλh=>af (h.2.2 b))];simp only[b,W,g,ao,Int.reduceEq,dk,de,dW,ev,bZ,b9,b5];exact D
    case' pos=>
     have g:(bif (!r.2)then(!y.Open)else false)=false:=by
      rcases af with af|af
      . rw[ag.2 af];rfl
      . rw[af];cases r.2<;>rfl
     have C:=um (tw:=tw) (tr:=tr) (f:=er tw tr n) (path:=path) (by omega) (x:=x) (y:=y) (v:=v) (by omega) (by omega) (λq a=>by rw[a5]at a;cases a) (λq a=>by rw[d]at a;cases a);rw[rN bC (by omega) (show jz x y v from⟨λh=>by omega,λh=>by omega,λ_=>af⟩),<-N a5 d];simp only[b,W,g,ao,Int.reduceEq,dk,de,dW,ev,bZ,b9,b5]
   case' inr.inr.inr.inr.inl=>
    obtain⟨a1,a2,a3,a4,a5,d,w,B⟩:=h;have b:x.Kind=5:=(by omega);obtain⟨am,aG⟩:=SW.A _ P (.inl (by omega));obtain⟨aH,aI⟩:=cx.A _ u (.inl (by omega));obtain⟨f1,f2⟩:=hJ.1 B
    have ag:=aa2 (tw:=tw) (tr:=tr) (f:=er tw tr n) (path:=path) (by omega) (x:=x) (y:=y) a1 (by omega) (by omega) f1 ar aw (λi L q a=>by
     have o:=bg (by omega:i<v.aj.length) av;obtain⟨z,l⟩:=cQ.gS.mem u a;exact K o (f2 i L) (Y b i L) z l) (λi L=>by
     have o:=bg (by omega:i<v.aj.length) av
     exact D7 SW (E _ o) (by have:=X _ o;omega) _ (oC _ _ (f2 i L)))
    rw[SO bC b];simp only[b,ag,ao,Int.reduceEq,dk,de,dW,ev,bZ,b9,b5]
    done
   case' inr.inr.inr.inr.inr.inl=>
    obtain⟨a1,a2,a3,a4,a5,d⟩:=h;have b:x.Kind=6:=(by omega);obtain⟨am,aG⟩:=SW.A _ P (.inr (by omega));obtain⟨aH,aI⟩:=cx.A _ u (.inr (by omega));cases bw:cB x.ah v.ad with
    |none=>rw[bw]at d;cases d.2.1
    |some m=>
     rw[bw]at d;obtain⟨b1,b2,b3⟩:=d;have Q:=vL x.ah v.ad;rw[bw]at Q;cases O:hq x.ah v.ad with
     |none=>rw[O]at Q;cases Q
     |some i=>
     obtain⟨d1,d2,_⟩:=kb O;obtain⟨d3,d4⟩:=j' bw;have em:x.ah.getD i aB=m:=qR am (bg d1 aB) d3 (by rw[d2,d4]);have o:=bg (by omega:0<v.aj.length) av;have ab:=cF.1 b3 _ o
     have ag:=abw (tw:=tw) (tr:=tr) (f:=er tw tr n) (path:=path) (by omega) (x:=x) (y:=y) a1 (by omega) (by omega) b2 O (λq a=>by
      obtain⟨z,l⟩:=cQ.gS.mem u a;rw[em]
      exact K o ab (Z b _ bw _ o) z l) (by rw[em];exact D7 SW (E _ o) (by have:=X _ o;omega) _ (oC _ _ ab))
     rw[SP bC b];simp only[b,ag,ao,Int.reduceEq,dk,de,dW,ev,bZ,b9,b5]
    done
   case' inr.inr.inr.inr.inr.inr.inl=>
    obtain⟨a1,a2,a3,a4,a5,d,w,B,a9⟩:=h;have b:x.Kind=7:=(by omega);obtain⟨z,l⟩:=cQ.gS.elem u (by omega);rw[SQ bC b];unfold AE;by_cases af:(v.aj.length:Int)<=y.Max
    case' neg=>
     have g:decide (y.Max<(v.aj.length:Int))=true:=jW (by omega);rw[al af];simp only[b,g,Int.reduceEq,dk,de,dW,ev,bZ,b9,b5];exact D
    case' pos=>
     have g:decide (y.Max<(v.aj.length:Int))=false:=uB (by omega);have C:=um (tw:=tw) (tr:=tr) (f:=er tw tr n) (path:=path) (by omega) (x:=x) (y:=y) (v:=v) (by omega) (by omega) (λq a=>by rw[d]at a;cases a) (λq a=>K a (cF.1 a9 q a) ((G (by omega)).1 q a) z l);have e:(if(v.aj.length:Int)<=y.Max then h4 (λS=>(⟨7,false,0,[],0,[],S,[]⟩:I)) (e2 (er tw tr n) path x.aF y.aF 0 v.aj)else .inr path)=mi (er tw tr n) x y v path:=by
      unfold mi;rw[ae af,a1,a2,a3,a4,a5,d,w];rfl
     rw[e];simp only[b,g,Int.reduceEq,dk,de,dW,ev,bZ,b9,b5]
   case' inr.inr.inr.inr.inr.inr.inr.inl=>
    obtain⟨a1,a2,a3,a4,a5,d,w,B,a9,an,aR⟩:=h;have b:x.Kind=8:=(by omega);obtain⟨z,l⟩:=cQ.gS.elem u (by omega);obtain⟨U,aL⟩:=cQ.gS.key u (by omega);rw[SR bC b];unfold AF;by_cases af:(v.aj.length:Int)<=y.Max
    case' neg=>
     have g:decide (y.Max<(v.aj.length:Int))=true:=jW (by omega);rw[al af];simp only[b,g,Int.reduceEq,dk,de,dW,ev,bZ,b9,b5];exact D
    case' pos=>
     have g:decide (y.Max<(v.aj.length:Int))=false:=uB (by omega);have C:=um (tw:=tw) (tr:=tr) (f:=er tw tr n) (path:=path) (by omega) (x:=x) (y:=y) (v:=v) (by omega) (by omega) (λq a=>aK a (cF.1 a9 q a) ((G (by omega)).2 q a) U aL) (λq a=>K a (cF.1 an q a) ((G (by omega)).1 q a) z l);have e:(if(v.aj.length:Int)<=y.Max then mx (λks=>h4 (λS=>(⟨8,false,0,[],0,ks,S,[]⟩:I)) (e2 (er tw tr n) path x.aF y.aF 0 v.aj)) (e2 (er tw tr n) path x.Key y.Key 0 v.ay)else .inr path)=mi (er tw tr n) x y v path:=by
      unfold mi;rw[ae af,a1,a2,a3,a4,a5,d]
     rw[e];simp only[b,g,Int.reduceEq,dk,de,dW,ev,bZ,b9,b5]
   case' inr.inr.inr.inr.inr.inr.inr.inr=>
    obtain⟨a1,a2,a3,a4,a5,d,w,B,a9⟩:=h;have b:x.Kind=9:=(by omega);obtain⟨z,l⟩:=cQ.gS.elem u (by omega);have C:=um (tw:=tw) (tr:=tr) (f:=er tw tr n) (path:=path) (by omega) (x:=x) (y:=y) (v:=v) (by omega) (by omega) (λq a=>by rw[d]at a;cases a) (λq a=>K a (cF.1 a9 q a) ((G (by omega)).1 q a) z l);have e:AG (er tw tr n) x y v path=mi (er tw tr n) x y v path:=by
     unfold mi AG;rw[a1,a2,a3,a4,a5,d,w];rfl
    rw[SS bC b,e];simp only[b,Int.reduceEq,dk,de,dW,ev,bZ,b9,b5]
   all_goals
    rcases C with⟨p,aM,H⟩|⟨ks,H,⟨p,aM,di⟩|⟨us,aM,di⟩⟩
    . rw[aM,H];rfl
    . rw[aM,H];simp only[ao];rw[di];rfl
    . rw[aM,H];simp only[ao];rw[di];simp only[ao,hC,nH,I.aV]
 . rw[ae (show(!(decide (x.Kind=y.Kind)))=true by simp[bC]),PQ bC,D]
theorem aa4:xu tw tr 0:=by
 unfold xu;intro v _ _ _ _ _ _ h;cases h
theorem Nl(dh:c8 tw)(cQ:c8 tr):∀n,xu tw tr n
 |0=>aa4
 |n+1=>aa3 dh cQ (Nl dh cQ n)
end
def xr(x:fF):Prop:=oO x/\x.c0.length*3<=reachBytes
def la(aK:List fF):Prop:=aK.length*32<=reachBytes/\∀x,x∈aK->xr x
def Bb(c:kC):Prop:=da c.Kind/\da c.Node/\da c.A/\da c.B
theorem la.set(h:la aK)(j:Nat){x:fF}(c:xr x):la (aK.set j x):=by
 refine⟨by rw[iw];exact h.1,λy a=>?_⟩;rcases BW a with a|rfl
 . exact h.2 y a
 . exact c
theorem mV(a:Int):da (IntKind.wrap .u8 a):=by
 have:IntKind.wrap .u8 a=a%256:=by rfl
 unfold da;omega
theorem Ge{n:Nat}(h:n*3<=reachBytes):room 3 n=true:=by
 unfold reachBytes at h;unfold room ka eI;simp only[cC,dO];omega
theorem ahJ{n:Nat}(h:n*32<=reachBytes):room 32 n=true:=by
 unfold reachBytes at h;unfold room ka eI;simp only[cC,dO];omega
theorem aei{L:List kC}(R:L.length<=reachBytes)(F:∀c,c∈L->Bb c){i:Nat}(K:i<L.length)(h:la aK)(aG:0<aK.length):
 ∃I,la I/\I.length=aK.length/\hD (L,(i:Int),aK)=hD (L,((i+1:Nat):Int),I):=by
 obtain⟨O,J,n,v⟩:=F _ (bg K nB);have ag:=dB R;unfold da at O J n v;have X:aK.length<9223372036854775807:=by have:=h.1;unfold reachBytes at this;omega
 obtain⟨j,U,o⟩:∃j:Nat,b6 (bU .i64 (L.getD i nB).Node) (aK.length:Int)=(j:Int)/\j<aK.length:=by
  have e:b6 (bU .i64 (L.getD i nB).Node) (aK.length:Int)=(L.getD i nB).Node%(aK.length:Int):=by
   rw[lx ⟨by omega,by omega⟩,hl J.1]
  have h0:=me (L.getD i nB).Node (by omega:(aK.length:Int)≠0);have h1:=ma (L.getD i nB).Node (by omega:(0:Int)<aK.length);exact⟨((L.getD i nB).Node%(aK.length:Int)).toNat,by rw[e];omega,by omega⟩
 obtain⟨⟨c',t,k,m,fA,aa⟩,M⟩:=h.2 _ (bg o eS);have x:∀z:Nat,z<(aK.getD j eS).c0.length->da ((aK.getD j eS).c0.getD z jc).ad/\da ((aK.getD j eS).c0.getD z jc).aw/\da ((aK.getD j eS).c0.getD z jc).hb:=λz G=>fA _ (bg G _)
 rw[hD,ae (by
  have a:(i:Int)<(L.length:Int):=by omega
  simp[a,aG]),ae (aP K),a7]
 simp only[aU,ao];rw[ae (show(!(decide ((aK.length:Int)=0)))=true from by rw[r0];exact uB (by omega)),U,ae (aP o),a7,ae (jW o),fT,ae (Ge M),ae (jW o)];simp only[de,b5,o];have aM:aN .i64 (i:Int) 1=((i+1:Nat):Int):=bE;rw[aM];generalize Y:aK.getD j eS=p at*;generalize W:L.getD i nB=c at*;have g:∀{a b D:Int} {l:List lT},da a->da b->da D->(∀q,q∈l->da q.ad/\da q.aw/\da q.hb)->l.length<=p.c0.length+8/\(l.length<=p.c0.length\/l.length<=8)->xr ⟨p.Kind,a,b,D,l⟩:=λ{a b D l} S T F af aG=>⟨⟨c',S,T,F,af,by show l.length<=_;unfold reachBytes at*;omega⟩,by show l.length*3<=_;unfold reachBytes at*;omega⟩
 have gs:∀q:fF,(aK.set j q).getD j bu=q:=λq=>by rw[du (by rw[iw];exact o)];simp
 have u:∀{a:Int},0<=a/\a<=255->da a:=λh=>h;have Z:(p.c0.length:Int)<9223372036854775807:=by unfold reachBytes at M;omega
 have r:∀{l:List lT},(∀q,q∈l->da q.ad/\da q.aw/\da q.hb)->l.length<=p.c0.length+8/\(l.length<=p.c0.length\/l.length<=8)->xr ⟨p.Kind,p.A,p.B,p.C,l⟩:=λ{l} h1 Q=>g t k m h1 Q;have self:p.c0.length<=p.c0.length+8/\(p.c0.length<=p.c0.length\/p.c0.length<=8):=by omega
 by_cases af:0<p.c0.length
 . have y:(0:Int)<(p.c0.length:Int):=(by omega);obtain⟨z,G,f⟩:∃z:Nat,b6 (bU .i64 c.A) (p.c0.length:Int)=(z:Int)/\z<p.c0.length:=by
    have e:b6 (bU .i64 c.A) (p.c0.length:Int)=c.A%(p.c0.length:Int):=by
     rw[lx ⟨by omega,by omega⟩,hl n.1]
    have h0:=me c.A (by omega:(p.c0.length:Int)≠0);have h1:=ma c.A y;exact⟨(c.A%(p.c0.length:Int)).toNat,by rw[e];omega,by omega⟩
   simp only[y,G,de,b5,gs,List.set_set];rw[ae (show(!(decide ((p.c0.length:Int)=0)))=true from by rw[r0];exact uB (by omega))];by_cases s:b6 c.Kind 8=0
   . simp only[s,de,b5];exact⟨_,h.set j (g (mV _) k m fA self),iw,rfl⟩
   by_cases k1:b6 c.Kind 8=1
   . simp only[k1,de,dk,Int.reduceEq,bZ,b5,b9];exact⟨_,h.set j (g t (mV _) m fA self),iw,rfl⟩
   by_cases k2:b6 c.Kind 8=2
   . have H:0<=b6 c.A 6:=by rw[hl n.1];omega
     simp only[k2,H,de,dk,Int.reduceEq,bZ,b5,b9];exact⟨_,h.set j (g (mV _) k m fA self),iw,rfl⟩
   by_cases k3:b6 c.Kind 8=3
   . simp only[k3,de,dk,Int.reduceEq,bZ,b5,b9];exact⟨_,h.set j (g t k (mV _) fA self),iw,rfl⟩
   by_cases k4:b6 c.Kind 8=4
   . by_cases k8:(p.c0.length:Int)<8
     . simp only[k4,k8,de,dk,Int.reduceEq,bZ,b5,b9];rw[ae (Ge (by rw[cm];unfold reachBytes;simp;omega))];refine⟨_,h.set j (r (λq d=>?_) (by rw[cm];simp;omega)),iw,rfl⟩;rcases hQ.1 d with d|d
       . exact fA q d
       . rw[rZ.1 d];exact⟨u n,u v,mV _⟩
     . simp only[k4,k8,de,dk,Int.reduceEq,bZ,b5,b9];exact⟨_,h.set j (r fA self),iw,rfl⟩
   by_cases k5:b6 c.Kind 8=5
   . simp only[k5,de,dk,Int.reduceEq,bZ,b5,b9];have P:aN .i64 (z:Int) 1=((z+1:Nat):Int):=bE;rw[P,ae (iJ.2 (by omega)),ae (iJ.2 (by omega)),a7,a7,a7,bA];refine⟨_,h.set j (r (λq d=>?_) (by rw[cm,qg,qg,mb];omega)),iw,rfl⟩;rcases hQ.1 d with d|d
     . exact fA q (uy d)
     . exact fA q (FV (uy d))
   have N:∀{w:lT},da w.ad/\da w.aw/\da w.hb->xr ⟨p.Kind,p.A,p.B,p.C,p.c0.set z w⟩:=λ{w} V=>r (λq d=>by
    rcases BW d with d|rfl
    . exact fA q d
    . exact V) (by rw[iw];exact self)
   by_cases k6:b6 c.Kind 8=6
   . simp only[k6,de,dk,Int.reduceEq,bZ,b5,b9];rw[ae (aP f),a7,ae (jW f)];exact⟨_,h.set j (N (w:=⟨(p.c0.getD z jc).ad,(p.c0.getD z jc).aw,c.B⟩) ⟨(x z f).1,(x z f).2.1,u v⟩),iw,rfl⟩
   . simp only[s,k1,k2,k3,k4,k5,k6,dk,bZ,b9];rw[ae (aP f),a7,ae (jW f),ae (aP f),ae (jW f)];exact⟨_,h.set j (N (w:=⟨(p.c0.getD z jc).ad,aN .u8 (p.c0.getD z jc).aw c.B,(p.c0.getD z jc).hb⟩) ⟨(x z f).1,mV _,(x z f).2.2⟩),iw,rfl⟩
 . have y:¬(0:Int)<(p.c0.length:Int):=(by omega);simp only[y,dk,bZ,b9,gs,List.set_set];by_cases s:b6 c.Kind 8=0
   . simp only[s,de,b5];exact⟨_,h.set j (g (mV _) k m fA self),iw,rfl⟩
   by_cases k1:b6 c.Kind 8=1
   . simp only[k1,de,dk,Int.reduceEq,bZ,b5,b9];exact⟨_,h.set j (g t (mV _) m fA self),iw,rfl⟩
   by_cases k2:b6 c.Kind 8=2
   . have H:0<=b6 c.A 6:=by rw[hl n.1];omega
     simp only[k2,H,de,dk,Int.reduceEq,bZ,b5,b9];exact⟨_,h.set j (g (mV _) k m fA self),iw,rfl⟩
   by_cases k3:b6 c.Kind 8=3
   . simp only[k3,de,dk,Int.reduceEq,bZ,b5,b9];exact⟨_,h.set j (g t k (mV _) fA self),iw,rfl⟩
   by_cases k4:b6 c.Kind 8=4
   . have k8:(p.c0.length:Int)<8:=(by omega);simp only[k4,k8,de,dk,Int.reduceEq,bZ,b5,b9];rw[ae (Ge (by rw[cm];unfold reachBytes;simp;omega))];refine⟨_,h.set j (r (λq d=>?_) (by rw[cm];simp;omega)),iw,rfl⟩;rcases hQ.1 d with d|d
     . exact fA q d
     . rw[rZ.1 d];exact⟨u n,u v,mV _⟩
   have E:=h.set j (r fA self);by_cases k5:b6 c.Kind 8=5
   . simp only[k5,de,dk,Int.reduceEq,bZ,b5,b9];exact⟨_,E,iw,rfl⟩
   by_cases k6:b6 c.Kind 8=6
   . simp only[k6,de,dk,Int.reduceEq,bZ,b5,b9];exact⟨_,E,iw,rfl⟩
   . simp only[s,k1,k2,k3,k4,k5,k6,dk,bZ,b9];exact⟨_,E,iw,rfl⟩
theorem PT{L:List kC}(e:L.length<=reachBytes)(f:∀c,c∈L->Bb c):∀(k i:Nat) {aK:List fF},i+k=L.length->la aK->∃d,la d/\d.length=aK.length/\hD (L,(i:Int),aK)=some d
 |0,i,aK,l,h=>⟨aK,h,rfl,by
  have a:¬(i:Int)<(L.length:Int):=by omega
  rw[hD,al (by simp[a])]⟩
 |k+1,i,aK,l,h=>by
  by_cases aG:0<aK.length
  . obtain⟨d,h1,j,g⟩:=aei e f (by omega:i<L.length) h aG;rw[g,<-j];exact PT e f k (i+1) (by omega) h1
  . refine⟨aK,h,rfl,?_⟩;have b:decide ((0:Int)<(aK.length:Int))=false:=uB (by omega);rw[hD,b,al];cases decide ((i:Int)<(L.length:Int))<;>simp
theorem la.Fc{d:et}(h:la d.ei):uO d:=⟨by have:=h.1;unfold reachBytes at*;omega,λx a=>(h.2 x a).1⟩
theorem aa5{d:et}(h:la d.ei){L:List kC}(i:L.length<=reachBytes)(j:∀c,c∈L->Bb c):∃a,la a.ei/\a.ei.length=d.ei.length/\C3 (d,L)=some a:=by
 obtain⟨b,h1,g,e⟩:=PT i j L.length 0 (by omega) h;have f:hD (L,0,d.ei)=some b:=e;refine⟨⟨b⟩,h1,g,?_⟩;rw[C3,fT,ae (ahJ h.1),f];rfl
theorem aej(h:WF cR ⟨.slice (.nm vl),aK⟩):la aK:=by
 obtain⟨a,b,c⟩:=vT (t:= .nm vl) h;have D:=Oh (d:=⟨aK⟩) h;refine⟨b,λx e=>⟨D.2 x e,?_⟩⟩;exact(vT (t:= .nm Da) (c x e ⟨.slice (.nm Da),x.c0⟩ (.tail _ (.tail _ (.tail _ (.tail _ (.head _))))))).2.1
theorem aia{n:Int}(h:WF cR ⟨.int .u8,n⟩):da n:=by
 cases h with
 |int k n h=>
  simp[Lit.wf,IntKind.min,IntKind.max,IntKind.bits,IntKind.signed]at h;unfold da;omega
theorem aek{d:lg}(f:uO d.S)(h:p5 d=some (⟨ts⟩,t,v,w,true)):ts.length=d.S.ei.length:=by
 rw[p5]at h;rcases of_eq f with e|⟨l,e,_,_,c,_⟩
 . rw[e]at h;simp at h
 . rw[e]at h;simp only[aU,ao,db,bZ,b9]at h;split at h
   . cases a:zh ((⟨l⟩:aT),b6 (bU .i64 d.T) (l.length:Int),d.C)with
     |none=>rw[a]at h;cases h
     |some x=>
      rw[a]at h;simp only[ao]at h;cases b:ym ((⟨l⟩:aT),b6 (bU .i64 d.T) (l.length:Int),d.C)with
      |none=>rw[b]at h;cases h
      |some y=>
       rw[b]at h;simp only[ao,dp,dv,aT.mk.injEq]at h;rw[<-h.1,c]
   . cases h
structure xl (c:mJ):Prop where
 d:EX c.D
 n:la c.D.S.ei
 l:c.L.length<=reachBytes
 c:∀x,x∈c.L->Bb x
structure xm (tw tr:List ai)(t:Int)(v:I):Prop where
 W:c8 tw
 R:c8 tr
 t0:0<=t
 t1:t<tw.length
 t2:t<tr.length
 f:bY tw true t v
 o:bJ v
 w:wt v<=3000
theorem xm.z{tw tr:List ai}{t:Int}{v:I}(C:xm tw tr t v):gy tw 3000 t v:=oz C.W 3000 C.o C.f (.inr C.w) (.inr C.w)
theorem xm.u{tw tr:List ai}{t:Int}{v:I}(C:xm tw tr t v):wt v<=2147483648:=gv C.w (by decide)
theorem adj{c:mJ}(h:xl c):(∃w r t v,yU c=some (w,r,t,v,false))\/∃tw tr t v,(yU c=some (⟨tw⟩,⟨tr⟩,t,v,true)/\xm tw tr t v)/\∃w,p5 c.D=some (⟨tw⟩,t,v,w,true)/\bY tw false t w/\bJ w:=by
 obtain⟨m,d1,d3,d2⟩:=aa5 h.n h.l h.c;rw[yU];rcases aht h.d with⟨s,t,v,w,e⟩|⟨ts,t,v,w,e,H,ht,⟨v1,g,v3⟩,j,k,_⟩
 . rw[e];simp only[aU,ao];rw[d2];simp only[ao];rcases F5 d1.Fc with a|⟨l,a,_⟩<;>rw[a]<;>exact .inl ⟨_,_,_,_,rfl⟩
 . have af:=aek h.d.s e;rw[e];simp only[aU,ao];rw[d2];simp only[ao];rcases of_eq d1.Fc with a|⟨l,a,_,_,l2,_⟩
   . rw[a];exact .inl ⟨_,_,_,_,rfl⟩
   . rcases F5 d1.Fc with f|⟨i,f,cQ⟩
     . rw[a]at f;cases f
     . rw[a]at f;have:l=i:=by injection f with q;injection q with q _;injection q
       subst this;rw[a];simp only[ao,db,dW];cases o:decide (4<(c.L.length:Int))with
       |true=>exact .inl ⟨_,_,_,_,rfl⟩
       |false=>
        obtain⟨b,b1,b2⟩:=Hp g;simp only[eV,b5,dW,I.aV];rw[b1];cases b with
        |false=>exact .inl ⟨_,_,_,_,rfl⟩
        |true=>exact .inr ⟨ts,l,t,v,⟨rfl,H,cQ,ht.1,ht.2,by omega,v1,g,b2 rfl⟩,w,rfl,j,k⟩
section
variable {tw tr:List ai}{t rt:Int}{v:I}
theorem aa'(dh:c8 tw)(cQ:c8 tr)(j:bJ v)(d:bY tw true t v)(m:0<=rt)(n:rt<tr.length):CV ((⟨tw⟩:aT),t,v,(⟨tr⟩:aT),rt)=some 0:=by
 obtain⟨⟨g,i,_⟩,_⟩:=(eJ _ _ _).1 d;have c:∀{ts:List ai} {t:Int},c8 ts->0<=t->t<ts.length->yZ ((⟨ts⟩:aT),t)=some 0:=λ{ts t} H a b=>by
  rw[yZ,(pK H.T H.V).1];simp only[aU,ao];have e:¬t<0:=by omega
  have f:¬(ts.length:Int)<=t:=by omega
  rw[bz,al (by simp[e,f])]
 obtain⟨r,k,l⟩:=NB (dh.V.hx dh.T) j t true;have ag:=l.2 d;subst ag;rw[CV];simp only[I.aV];rw[c dh g i];simp only[aU,ao];rw[bz,c cQ m n];simp only[ao];rw[bz,Hn];simp only[I.aV];rw[k];rfl
theorem aba(dh:c8 tw)(cQ:c8 tr)(k:bJ v)(e:bY tw true t v)(o:0<=rt)(p:rt<tr.length):Dd ((⟨tw⟩:aT),t,v,(⟨tr⟩:aT),rt)=some 0:=by
 obtain⟨⟨i,j,_⟩,_⟩:=(eJ _ _ _).1 e;have d:∀{ts:List ai} {t:Int},c8 ts->0<=t->t<ts.length->kF ((⟨ts⟩:aT),t)=some 0:=λ{ts t} H a b=>by
  rw[kF,(pK H.T H.V).2];simp only[aU,ao];have f:¬t<0:=by omega
  have g:¬(ts.length:Int)<=t:=by omega
  rw[bz,al (by simp[f,g])]
 have c:=dh.V.hx dh.T;obtain⟨q,l,m⟩:=zw (by have:=c.n;omega) dh.T c.K k t true;have ag:=m.2 e;subst ag;rw[Dd];simp only[I.aV];rw[d dh i j];simp only[aU,ao];rw[bz,d cQ o p];simp only[ao];rw[bz,vp];simp only[I.aV];rw[l];rfl
def lL:I ⊕ ar->I×Int
 |.inl u=>(u,0)
 |.inr _=>(⟨0,false,0,[],0,[],[],[]⟩,12)
noncomputable def uK (tw tr:List ai)(t:Int)(v:I)(rt:Int):I ⊕ ar:=er tw tr 3000 t v rt []
theorem Y8(dh:c8 tw)(cQ:c8 tr)(b:bJ v)(a:bY tw true t v)(e:gy tw 3000 t v)(c:0<=rt)(d:rt<tr.length):zn ((⟨tw⟩:aT),t,v,(⟨tr⟩:aT),rt)=some (lL (uK tw tr t v rt)):=by
 have h:=Nh dh cQ 3000 b [] a e c d (path:=[]) (by simp);rw[zn];simp only[I.aV];rw[aa' dh cQ b a c d];simp only[aU,ao];rw[bz,h];unfold uK;cases er tw tr 3000 t v rt []<;>rfl
theorem Y9(dh:c8 tw)(cQ:c8 tr)(b:bJ v)(e:wt v<=2147483648)(a:bY tw true t v)(f:gy tw 3000 t v)(c:0<=rt)(d:rt<tr.length):yq ((⟨tw⟩:aT),t,v,(⟨tr⟩:aT),rt)=some (lL (uK tw tr t v rt)):=by
 have h:=Nl dh cQ 3000 b e a f c d (path:=[]) (by simp);rw[yq];simp only[I.aV];rw[aba dh cQ b a c d];simp only[aU,ao];rw[bz,h];unfold uK;cases er tw tr 3000 t v rt []<;>rfl
end
theorem ahi{c:mJ}(h:∀d,d∈cR.o2 TZ c->WF cR d):xl c:=by
 have i:=h ⟨.slice (.nm vl),c.D.S.ei⟩ (.head _);have j:=h ⟨.slice (.nm Tu),c.L⟩ (.tail _ (.tail _ (.tail _ (.head _))));obtain⟨a,_,e⟩:=vT (t:= .nm Tu) j;have g:∀{n:Int},WF cR ⟨.int .u8,n⟩->da n:=aia;refine⟨acf λd b=>?_,aej i,a,λx k=>?_⟩
 . refine h d ?_;cases b with
   |head=>exact .head _
   |tail _ b=>cases b with
    |head=>exact .tail _ (.head _)
    |tail _ b=>cases b with
     |head=>exact .tail _ (.tail _ (.head _))
     |tail _ b=>cases b
 . have f:=e x k;exact⟨g (f ⟨.int .u8,x.Kind⟩ (.head _)),g (f ⟨.int .u8,x.Node⟩ (.tail _ (.head _))),g (f ⟨.int .u8,x.A⟩ (.tail _ (.tail _ (.head _)))),g (f ⟨.int .u8,x.B⟩ (.tail _ (.tail _ (.tail _ (.head _)))))⟩
theorem EK{f:α->Option c}(d:α)(e:c):∀{l:List α} {m:List c},m.length=l.length->(∀j,j<l.length->f (l.getD j d)=some (m.getD j e))->cf f l=some m
 |[],[],_,_=>rfl
 |[],b::m,h,_=>by simp at h
 |a::l,[],h,_=>by simp at h
 |a::l,b::m,h,g=>by
  have h0:f a=some b:=g 0 (by simp);rw[vM,h0,EK d e (l:=l) (m:=m) (by simpa using h) λj i=>g (j+1) (by simpa using i)];rfl
theorem Nn:∀{a b:List ak},a.length=b.length->e6 (ml a b)=a/\fk (ml a b)=b
 |[],[],_=>⟨rfl,rfl⟩
 |[],_::_,h=>by simp at h
 |_::_,[],h=>by simp at h
 |x::a,y::b,h=>by
  obtain⟨h1,c⟩:=Nn (a:=a) (b:=b) (by simpa using h);exact⟨by rw[ml,e6,h1],by rw[ml,fk,c]⟩
theorem ahx{m:aS}:dc m v=true↔m.bV=true/\m.bB=v:=by unfold dc;simp
theorem No:∀{F:List cS} {f:cS},F.Pairwise (λa b=>a.ad<b.ad)->f∈F->F.find? (λg=>decide (g.ad=f.ad))=some f
 |g::F,f,d,c=>by
  rw[h5]at d;rw[List.find?_cons];rcases eK.1 c with rfl|c
  . simp
  . have:=d.1 f c;have e:decide (g.ad=f.ad)=false:=uB (by omega);rw[e];exact No d.2 c
section
variable {ts:List ai}
theorem abb{its:List I}{r:List bX}(c:gQ x.ah)(ag:jP x.ah r)(af:its.length=x.ah.length){f:qv}
 (A:∀j,j<x.ah.length->dc (x.ah.getD j aB) (its.getD j av)=false->f (x.ah.getD j aB).aw (bp ts (x.ah.getD j aB).aw (its.getD j av))=some (its.getD j av))
 (B:((gW fq (fg ts x.ah its r)).flatMap Fd.text).length<=90000):
 ng f x ((gW fq (fg ts x.ah its r)).flatMap Fd.text)=some ⟨5,false,0,[],0,[],its,r⟩:=by
 have t:=Ig (vC (ts:=ts) (l:=its) c ag) (IL c ag);have n:∀g,g∈gW fq (fg ts x.ah its r)↔g∈fg ts x.ah its r:=λg=>(kK fq _).mem_iff;have D:∀g,g∈gW fq (fg ts x.ah its r)->1<=g.id/\g.id<=1000:=λg aq=>Kb c ag ((n g).1 aq);unfold ng;rw[aci t D B];generalize gW fq (fg ts x.ah its r)=L at*;have bw:(L.map o1).Pairwise (λa b=>a.ad<b.ad):=ov.2 (t.imp λ{a b} h=>by show(a.id:Int)<(b.id:Int);omega);have p:∀g,g∈L.map o1->(∃j,j<x.ah.length/\dc (x.ah.getD j aB) (its.getD j av)=false/\g=⟨(x.ah.getD j aB).ad,(x.ah.getD j aB).cg,bp ts (x.ah.getD j aB).aw (its.getD j av)⟩)\/∃a,a∈r/\g=⟨a.ad,false,a.Data⟩:=λg aq=>by
  obtain⟨e,aM,rfl⟩:=e0.1 aq;have:=(n e).1 aM;unfold fg at this;rcases hQ.1 this with h|h
  . obtain⟨j,m,u,G,rfl⟩:=Dp h;have d:=c.2 _ (bg m aB);unfold cn at d;refine .inl ⟨j,m,G,?_⟩;show(⟨(((x.ah.getD j aB).ad.toNat:Nat):Int),_,_⟩:cS)=_;rw[yz (by omega)]
  . obtain⟨a,a1,rfl⟩:=e0.1 h;have d:=(ag.2 a a1).1;unfold cn at d;refine .inr ⟨a,a1,?_⟩;show(⟨((a.ad.toNat:Nat):Int),_,_⟩:cS)=_;rw[yz (by omega)];rfl
 have K:∀j,j<x.ah.length->dc (x.ah.getD j aB) (its.getD j av)=false->(⟨(x.ah.getD j aB).ad,(x.ah.getD j aB).cg,bp ts (x.ah.getD j aB).aw (its.getD j av)⟩:cS)∈L.map o1:=λj m u=>by
  have d:=c.2 _ (bg m aB);unfold cn at d;refine e0.2 ⟨_,(n _).2 (B4 _ (HN m (by omega) u)),?_⟩;show(⟨(((x.ah.getD j aB).ad.toNat:Nat):Int),_,_⟩:cS)=_;rw[yz (by omega)]
 have M:∀a,a∈r->(⟨a.ad,false,a.Data⟩:cS)∈L.map o1:=λa a1=>by
  have d:=(ag.2 a a1).1;unfold cn at d;refine e0.2 ⟨jX a,(n _).2 (List.mem_append_right _ (e0.2 ⟨a,a1,rfl⟩)),?_⟩;show(⟨((a.ad.toNat:Nat):Int),_,_⟩:cS)=_;rw[yz (by omega)];rfl
 generalize L.map o1=F at*;have q:∀j,j<x.ah.length->cB x.ah (x.ah.getD j aB).ad=some (x.ah.getD j aB):=λj m=>NF c (bg m aB);have E:cf (ef f F) x.ah=some its:=EK aB av af λj i=>by
  unfold ef;cases o:dc (x.ah.getD j aB) (its.getD j av)with
  |false=>
   have:=No bw (K j i o);rw[this];exact A j i o
  |true=>
   have aG:F.find? (λg=>decide (g.ad=(x.ah.getD j aB).ad))=none:=by
    rw[yB];intro g aq;simp only[dO];intro e;rcases p g aq with⟨k,k1,k2,rfl⟩|⟨a,a1,rfl⟩
    . have em:=qR c (bg k1 aB) (bg i aB) e;have v:k=j:=by
       rw[du k1,du i]at em;rcases FZ k j with h|h|h
       . have:=rW.1 c.1 k j k1 i h;rw[em]at this;omega
       . exact h
       . have:=rW.1 c.1 j k i k1 h;rw[em]at this;omega
      subst v;rw[o]at k2;cases k2
    . have:=(ag.2 a a1).2;rw[show a.ad=(x.ah.getD j aB).ad from e,q j i]at this;cases this
   rw[aG];obtain⟨H,J⟩:=ahx.1 o;simp only;rw[ae H,J]
 have z:F.all (fV x)=true:=by
  rw[dH];intro g aq;unfold fV;rcases p g aq with⟨k,k1,k2,rfl⟩|⟨a,a1,rfl⟩
  . rw[q k k1];rfl
  . simp
 have C:fa x F=r:=by
  unfold fa;refine acN (ov.2 ((bw.filter _).imp λ{a b} h=>h)) ag.1 λa=>?_;constructor
  . intro h;obtain⟨g,w,rfl⟩:=e0.1 h;obtain⟨y,s⟩:=r1.1 w;rcases p g y with⟨k,k1,k2,rfl⟩|⟨a,a1,rfl⟩
    . rw[q k k1]at s;simp at s
    . exact a1
  . intro h;refine e0.2 ⟨⟨a.ad,false,a.Data⟩,r1.2 ⟨M a h,?_⟩,rfl⟩;rw[(ag.2 a h).2];rfl
 simp only;rw[E];simp only;rw[ae z,C]
theorem Np(H:iS ts)(aQ:bJ v):∀{t:Int} {m:Nat},(bp ts t v).length<=90000->bY ts false t v->dJ ts t v<=m->cX ts m t (bp ts t v)=some v:=by
 induction aQ with
 |mk v hs h1 a8 a' M bc be c' ab bi bj aS K=>
 intro t m C aI F;have aO:=tO (ts:=ts) t v;obtain⟨m,rfl⟩:∃k,m=k+1:=⟨m-1,by omega⟩
 have r:=pP (ts:=ts) t v;have N:∀q,q∈v.ay->(if v.ay=[]then 0 else 1)=1:=λq b=>al λe=>by rw[e]at b;cases b
 generalize (if v.ay=[]then 0 else 1)=kk at r N;obtain⟨⟨aZ,a0,a6,_⟩,z⟩:=(eJ _ _ _).1 aI;have p:t.toNat<ts.length:=by omega
 have G:=bg p aJ;have aq:=λh=>xa (ts:=ts) (t:=t) (v:=v) h;have ar:=λh=>xc (ts:=ts) (t:=t) (v:=v) h;have au:=λh=>xd (ts:=ts) (t:=t) (v:=v) h;have ax:=λh=>xe (ts:=ts) (t:=t) (v:=v) h;have az:=λh=>qq (ts:=ts) (t:=t) (v:=v) h;have aA:=λh=>oD (ts:=ts) (t:=t) (v:=v) h;have aB:=λh=>oE (ts:=ts) (t:=t) (v:=v) h;have aC:=λh=>oF (ts:=ts) (t:=t) (v:=v) h;have aD:=λh=>oG (ts:=ts) (t:=t) (v:=v) h;rw[tJ];generalize bf:ts.getD t.toNat aJ=x at*;have an:x.Kind=5->∀c,c<=fc ts x.ah v.aj->c<=m:=λh c z=>by rw[ae h]at r;exact IX r F z
 have ao:x.Kind=6->∀s,cB x.ah v.ad=some s->∀c,c<=dD ts s.aw v.aj->c<=m:=λh s bw c z=>by
  rw[al (by rw[h];decide),ae h,bw]at r;exact IX r F z
 have L:7<=x.Kind->∀c,c<=dD ts x.aF v.aj->c<=m:=λh c z=>by
  rw[al (λe=>by rw[e]at h;exact absurd h (by decide)),al (λe=>by rw[e]at h;exact absurd h (by decide))]at r;exact IX r F z
 have ap:∀q,q∈v.ay->1<=m:=λq b=>by
  rw[N q b]at r;exact acO r F rfl
 clear r F aO N;have ag:∀{t:Int},(∀q,q∈v.aj->(bp ts t q).length<=90000/\bY ts false t q/\dJ ts t q<=m)->cf (cX ts m t) (bt ts t v.aj)=some v.aj:=λ{t} af=>EK [] av (by rw[kJ]) λj p=>by
  rw[kJ]at p;rw[LD p];obtain⟨T,U,V⟩:=af _ (bg p av);exact K _ (bg p av) T U V
 have aW:∀{t:Int},(∀q,q∈v.ay->(bp ts t q).length<=90000/\bY ts false t q/\dJ ts t q<=m)->cf (cX ts m t) (bt ts t v.ay)=some v.ay:=λ{t} af=>EK [] av (by rw[kJ]) λj p=>by
  rw[kJ]at p;rw[LD p];obtain⟨T,U,V⟩:=af _ (bg p av);exact aS _ (bg p av) T U V
 have P:∀{t:Int} {l:List I} {q:I},q∈l->bp ts t q∈bt ts t l:=λ{t l q} b=>by rw[DB];exact e0.2 ⟨q,b,rfl⟩
 unfold qp;rcases z with f|f|f|f|f|f|f|f|f
 . rw[fz,aq (by omega)];obtain⟨a1,a2,a3,a4,a5,o,u⟩:=f;unfold w6;cases bb:v.bN with
   |true=>
    rw[ae (show true=true from rfl),al (show ¬([1]:ak)=[] by simp),ae (show([1]:ak)=[1]from rfl)];cases v;simp_all
   |false=>
    rw[al (show ¬false=true by simp),ae (show([]:ak)=[]from rfl)];cases v;simp_all
 . obtain⟨a1,a2,a3,a4,a5,o,u,i,a9⟩:=f;rw[bx,fz,ar (by omega)];have aR:=acL (n:=v.bd) ab;unfold w7;rw[ND (Az ab)];simp only;rw[aR,ae ⟨i,a9⟩];cases v;simp_all
 . obtain⟨a1,a2,a3,a4,a5,o,u,i⟩:=f;rw[bx,bx,fz,au (by omega)];unfold w8;rw[ae i];cases v;simp_all
 . obtain⟨a1,a2,a3,a4,a5,o,u,i⟩:=f;have aH:cn v.ad:=by
    rcases i with⟨y,aX,aY⟩|⟨_,_,h⟩
    . rw[<-aY];exact H.S _ G (by omega) y aX
    . exact h
   unfold cn at aH;obtain⟨k,M⟩:∃k:Nat,v.ad=(k:Int):=⟨v.ad.toNat,by omega⟩
   rw[bx,bx,bx,fz,ax (by omega),M,a7];unfold w9;rw[ND (by omega)];simp only;have hs:((x.bh.any λy=>decide (y.ad=(k:Int)))||x.Open)=true:=by
    rcases i with q|⟨q,_⟩
    . rw[M]at q;rw[I7.1 q];rfl
    . rw[q];simp
   rw[ae ⟨by omega,by omega,hs⟩];cases v;simp_all
 . obtain⟨a1,a2,a3,a4,a5,o,u,i⟩:=f;obtain⟨R,aV⟩:=H.A _ G (.inl (by omega));obtain⟨f1,f2⟩:=hJ.1 i;have Y:=az (by omega);have E:((gW fq (fg ts x.ah v.aj v.Rest)).flatMap Fd.text).length<=90000:=by rw[<-Y];exact C
   rw[bx,bx,bx,bx,bx,bx,bx,bx,Y,abb R u f1 (λj Q Z=>?_) E]
   . cases v;simp_all
   . have aP:=bg (by omega:j<v.aj.length) av;have aL:=HN (ts:=ts) Q (by omega:j<v.aj.length) Z;have:=MG ((kK fq _).mem_iff.2 (show _∈fg ts x.ah v.aj v.Rest from B4 _ aL));exact K _ aP (gv this E) (f2 j Q) (an (by omega) _ (HU Q (by omega) Z))
 . obtain⟨a1,a2,a3,a4,a5,o⟩:=f;obtain⟨R,aV⟩:=H.A _ G (.inr (by omega));rw[bx,bx,bx,bx,bx,fz];have J:=aA (by omega);unfold qn;cases bw:cB x.ah v.ad with
   |none=>
    rw[bw]at o J;obtain⟨b1,_,b2,b3,d,b4⟩:=o;unfold cn at b2;obtain⟨k,D⟩:∃k:Nat,v.ad=(k:Int):=⟨v.ad.toNat,by omega⟩
    have g:bp ts t v=dQ k++d:=by
     rw[J,b4,D,a7];rfl
    rw[g,PH (by omega)];simp only;rw[<-D,bw];simp only;rw[ae b1];cases v;simp_all
   |some s=>
    rw[bw]at o J;obtain⟨b1,b2,b3⟩:=o;obtain⟨d3,d4⟩:=j' bw;have aK:cn v.ad:=by rw[<-d4];exact R.2 s d3
    unfold cn at aK;obtain⟨k,D⟩:∃k:Nat,v.ad=(k:Int):=⟨v.ad.toNat,by omega⟩
    match gV:v.aj,b2 with
    |[a],_=>
     have w:a∈v.aj:=by rw[gV];exact .head _
     have g:bp ts t v=dQ k++bp ts s.aw a:=by
      rw[J,D,a7];show dQ k++(bt ts s.aw v.aj).headD []=_;rw[gV,bt];rfl
     have O:(bp ts s.aw a).length<=90000:=by
      rw[g,cm]at C;exact gv (Nat.le_add_left _ _) C
     rw[g,PH (by omega)];simp only;rw[<-D,bw];simp only;rw[K a w O (cF.1 b3 a w) (ao (by omega) s bw _ (tI w))];cases v;simp_all
 . obtain⟨a1,a2,a3,a4,a5,o,u,i,a9⟩:=f;have g:=aB (by omega);have B:((bt ts x.aF v.aj).flatMap c7).length<=90000:=by rw[<-g];exact C
   rw[bx,bx,bx,bx,bx,bx,fz,g];unfold nh;rw[Oi B];simp only;rw[ae (by rw[kJ];exact i),ag λq b=>⟨gv (DE (P b)) B,cF.1 a9 q b,L (by omega) _ (tI b)⟩];cases v;simp_all
 . obtain⟨a1,a2,a3,a4,a5,o,u,i,a9,aE,aG⟩:=f;have g:=aC (by omega);have ba:=H.qx _ G (by omega);have E:(bt ts x.Key v.ay).length=(bt ts x.aF v.aj).length:=by rw[kJ,kJ];omega
   obtain⟨ai,am⟩:=Nn E;have W:=MF _ _ E;rw[kJ,kJ]at W;have B:((ml (bt ts x.Key v.ay) (bt ts x.aF v.aj)).flatMap c7).length<=90000:=by rw[<-HT,<-g];exact C
   have aT:∀{a:ak} {l:List ak},a∈e6 l->a∈l:=λh=>Ab h;have aU:∀{l:List ak} {a:ak},a∈fk l->a∈l:=by
    intro l;induction l using fk.induct with
    |case1 x y l ih=>
     intro a h;rw[fk]at h;rcases eK.1 h with rfl|h
     . exact .tail _ (.head _)
     . exact .tail _ (.tail _ (ih h))
    |case2 l af=>
     intro a h;rw[fk]at h
     . cases h
     . exact af
   have aM:∀q,q∈v.ay->dJ ts x.Key q<=m:=λq b=>by
    have aN:=ap q b;have e:dJ ts x.Key q=1:=by
     obtain⟨⟨_,_,k3,_⟩,aa⟩:=(eJ _ _ _).1 (cF.1 a9 q b);refine Aa ?_ ?_
     . rcases aa with k|k|k|k|k|k|k|k|k
       . exact k.2.2.2.2.1
       . exact k.2.2.2.2.1
       . exact k.2.2.2.2.1
       . exact k.2.2.2.2.1
       all_goals (exfalso;omega)
     . rcases aa with k|k|k|k|k|k|k|k|k
       . exact k.2.2.2.2.2.1
       . exact k.2.2.2.2.2.1
       . exact k.2.2.2.2.2.1
       . exact k.2.2.2.2.2.1
       all_goals (exfalso;omega)
    rw[e];exact aN
   rw[bx,bx,bx,bx,bx,bx,bx,fz,g,HT];unfold qo;rw[Oi B];simp only;rw[ae ⟨by rw[W];omega,by rw[W];omega⟩,ai,am,aW λq b=>⟨gv (DE (aT (by rw[ai];exact P b))) B,cF.1 a9 q b,aM q b⟩];simp only;rw[ae (vW.2 aG),ag λq b=>⟨gv (DE (aU (by rw[am];exact P b))) B,cF.1 aE q b,L (by omega) _ (tI b)⟩];cases v;simp_all
 . obtain⟨a1,a2,a3,a4,a5,o,u,i,a9⟩:=f;have g:=aD (by omega);rw[bx,bx,bx,bx,fz]
   match gV:v.aj,i with
   |[],_=>
    rw[gV,bt]at g;rw[g];cases v;simp_all [mj]
   |[a],_=>
    have w:a∈v.aj:=by rw[gV];exact .head _
    rw[gV,bt]at g;have X:bp ts t v=1::bp ts x.aF a:=g;have O:(bp ts x.aF a).length<=90000:=by
     rw[X,gi]at C;omega
    rw[X];show((if(1:UInt8)=1 then(cX ts m x.aF (bp ts x.aF a)).map _ else none):Option I)=_;rw[ae rfl,K a w O (cF.1 a9 a w) (L (by omega) _ (tI w))];cases v;simp_all
end
theorem Af{f g:α->Option c}:∀{l:List α} {m:List c},(∀a b,a∈l->f a=some b->g a=some b)->cf f l=some m->cf g l=some m
 |[],m,_,h=>h
 |a::l,m,aq,h=>by
  simp only[cf]at h⊢;split at h
  . rename_i b j d e;rw[aq a b (.head _) d,Af (λx y i=>aq x y (.tail _ i)) e];exact h
  . cases h
section
variable {f g:qv}(h:∀t p v,f t p=some v->g t p=some v){x:ai}{v:I}
include h
theorem adk(a:mj f x p=some v):mj g x p=some v:=by
 cases p with
 |nil=>exact a
 |cons c q=>
  simp only[mj]at a⊢;split at a
  . rename_i b;obtain⟨u,d,rfl⟩:=kR.1 a;rw[ae b,h _ _ _ d];rfl
  . cases a
theorem adl(b:qn f x p=some v):qn g x p=some v:=by
 unfold qn at b⊢;cases c:jB p with
 |none=>rw[c]at b;cases b
 |some a=>
  obtain⟨id,q⟩:=a;rw[c]at b;dsimp only at b⊢;cases bw:cB x.ah id with
  |none=>rw[bw]at b;exact b
  |some m=>
   rw[bw]at b;obtain⟨u,d,rfl⟩:=kR.1 b;dsimp only;rw[h _ _ _ d];rfl
theorem adm(c:nh f x p=some v):nh g x p=some v:=by
 unfold nh at c⊢;split at c
 . split at c
   . rename_i i;obtain⟨u,d,rfl⟩:=kR.1 c;simp only[*,b5];rw[Af (λa b _ e=>h _ _ _ e) d];rfl
   . cases c
 . cases c
theorem adn(c:qo f x p=some v):qo g x p=some v:=by
 unfold qo at c⊢;split at c
 . split at c
   . rename_i k;split at c
     . rename_i ks i;split at c
       . rename_i d;obtain⟨u,j,rfl⟩:=kR.1 c;simp only[*];rw[ae ⟨trivial,trivial⟩];rw[Af (λa b _ e=>h _ _ _ e) i];simp only[d,b5];rw[Af (λa b _ e=>h _ _ _ e) j];rfl
       . cases c
     . cases c
   . cases c
 . cases c
theorem ado(c:ng f x p=some v):ng g x p=some v:=by
 unfold ng at c⊢;split at c
 . rename_i l af;split at c
   . rename_i i d
     have:cf (ef g l) x.ah=some i:=Af (λa b _ e=>by
      unfold ef at e⊢;split at e
      . exact h _ _ _ e
      . exact e) d
     simp only[af,this];exact c
   . cases c
 . cases c
theorem adp(a:qp f x p=some v):qp g x p=some v:=by
 unfold qp at a⊢;by_cases k1:x.Kind=1
 . rw[ae k1]at a⊢;exact a
 rw[al k1]at a⊢;by_cases k2:x.Kind=2
 . rw[ae k2]at a⊢;exact a
 rw[al k2]at a⊢;by_cases k3:x.Kind=3
 . rw[ae k3]at a⊢;exact a
 rw[al k3]at a⊢;by_cases k4:x.Kind=4
 . rw[ae k4]at a⊢;exact a
 rw[al k4]at a⊢;by_cases k9:x.Kind=9
 . rw[ae k9]at a⊢;exact adk h a
 rw[al k9]at a⊢;by_cases k6:x.Kind=6
 . rw[ae k6]at a⊢;exact adl h a
 rw[al k6]at a⊢;by_cases k7:x.Kind=7
 . rw[ae k7]at a⊢;exact adm h a
 rw[al k7]at a⊢;by_cases k8:x.Kind=8
 . rw[ae k8]at a⊢;exact adn h a
 rw[al k8]at a⊢;exact ado h a
end
section
variable {ts:List ai}
theorem MV:∀(n k:Nat) (t:Int) (p:ak) (v:I),cX ts n t p=some v->cX ts (n+k) t p=some v
 |0,k,t,p,v,h=>by rw[Ac]at h;cases h
 |n+1,k,t,p,v,h=>by
  rw[tJ]at h;rw[show n+1+k=n+k+1 by omega,tJ];exact adp (MV n k) h
theorem adq(H:iS ts){u:I}(c:bJ v){m:Nat}(b:(bp ts t v).length<=90000)(a:bY ts false t v)(h:cX ts m t (bp ts t v)=some u):u=v:=by
 have h1:=Np H c b a (Nat.le_add_left (dJ ts t v) m);rw[MV m _ t _ u h]at h1;exact mc h1
end
theorem MW:∀(l:List I),(∀v,v∈l->wt (cO v)<=wt v)->cH (l.map cO)<=cH l
 |[],_=>by simp
 |v::l,h=>by
  rw[fB,hi,hi];have:=h v (.head _);have:=MW l λw a=>h w (.tail _ a);omega
theorem Nq(a:bJ v):wt (cO v)<=wt v:=by
 induction a with
 |mk v hs h1 c d f e g c' j k l i b=>
  rw[mP,fD,fD v];have:=MW v.aj b;dsimp only;split
  . simp only[mf,uv];omega
  . omega
theorem N5(H:c8 ts)(ht:0<=t/\t<ts.length)(m:ak):gI ts t m=(ez,12)\/∃v,gI ts t m=(v,0)/\sn ts t v:=by
 unfold gI;rw[bx];by_cases a:4096<m.length
 . rw[ae a];exact .inl rfl
 . rw[al a];cases b:cX ts 200 t m with
   |none=>exact .inl rfl
   |some v=>exact .inr ⟨v,rfl,Nc H ht (by omega) b⟩
theorem Ph(ts:List ai)(t:Int)(v:I):ly ts t v=([],3)\/ly ts t v=(bp ts t v,0)/\(bp ts t v).length<=4096/\dJ ts t v<=200:=by
 unfold ly;split
 . exact .inl rfl
 . rename_i h;exact .inr ⟨rfl,Nat.le_of_not_lt λa=>h (.inl a),Nat.le_of_not_lt λa=>h (.inr a)⟩
theorem adr(H:c8 ts)(ht:0<=t/\t<ts.length)(c:bJ v)(b:bY ts false t v)(h1:(bp ts t v).length<=4096)(a:dJ ts t v<=200):gI ts t (bp ts t v)=(v,0):=by
 unfold gI;rw[bx,al (Nat.not_lt.2 h1),Np (H.V.hx H.T) c (gv h1 (by decide)) b a]
section
variable {tw tr:List ai}{t rt:Int}
abbrev eo(tw:List ai)(t:Int):cY:=⟨⟨tw⟩,t⟩
def oK(tw tr:List ai)(t rt:Int)(m:ak)(v u:I)(o:ak)(e:Int):Prop:=
 pE (eo tw t,eo tr rt,m)=some (⟨v,u,o⟩,e)/\nA (eo tw t,eo tr rt,m)=some (⟨v,u,o⟩,e)
theorem EE(H:c8 ts)(ht:0<=t/\t<ts.length):vz (eo ts t)=some 0/\kF ((⟨ts⟩:aT),t)=some 0:=by
 have a:¬t<0:=by omega
 have b:¬(ts.length:Int)<=t:=by omega
 rw[vz,kF];simp only[eo];rw[(pK H.T H.V).1,(pK H.T H.V).2];simp[a,b]
theorem HP(dh:c8 tw)(cQ:c8 tr)(ht:0<=t/\t<tw.length)(ag:0<=rt/\rt<tr.length):y2 [eo tw t,eo tr rt]=some 0/\yc (eo tw t,eo tr rt)=some 0:=by
 constructor
 . have a:mH ([eo tw t,eo tr rt],2,2)=some (.inr ()):=by rw[mH];rfl
   have h1:mH ([eo tw t,eo tr rt],2,1)=some (.inr ()):=by
    rw[mH,ae (by decide),ae (by rfl)];show(vz (eo tr rt)>>=_)=_;rw[(EE cQ ag).1];exact a
   have h0:mH ([eo tw t,eo tr rt],2,0)=some (.inr ()):=by
    rw[mH,ae (by decide),ae (by rfl)];show(vz (eo tw t)>>=_)=_;rw[(EE dh ht).1];exact h1
   rw[y2];show(mH ([eo tw t,eo tr rt],2,0)>>=_)=_;rw[h0];rfl
 . rw[yc];show(kF ((⟨tw⟩:aT),t)>>=_)=_;rw[(EE dh ht).2];simp only[aU,ao];rw[bz];show((kF ((⟨tr⟩:aT),rt)).bind _)=_;rw[(EE cQ ag).2];rfl
theorem MX(dh:c8 tw)(cQ:c8 tr)(ht:0<=t/\t<tw.length)(ag:0<=rt/\rt<tr.length){m:ak}(hs:∀v,gI tw t m=(v,0)->bY tw true t (cO v)->gy tw 3000 t (cO v)):
 (gI tw t m=(ez,12)/\oK tw tr t rt m ez ez [] 12)\/∃v,gI tw t m=(v,0)/\sn tw t v/\((¬bY tw true t (cO v)/\oK tw tr t rt m ez ez [] 12)\/bY tw true t (cO v)/\
  (((∃p,uK tw tr t (cO v) rt= .inr p)/\oK tw tr t rt m ez ez [] 12)\/(∃x,uK tw tr t (cO v) rt= .inl x)/\
  ((ly tw t v=([],3)/\oK tw tr t rt m ez ez [] 3)\/(ly tw t v=(bp tw t v,0)/\(bp tw t v).length<=4096/\dJ tw t v<=200)/\
  ((gI tr rt (bp tw t v)=(ez,12)/\oK tw tr t rt m ez ez [] 12)\/∃u,gI tr rt (bp tw t v)=(u,0)/\sn tr rt u/\
  ((ly tr rt u=([],3)/\oK tw tr t rt m ez ez [] 3)\/ly tr rt u=(bp tr rt u,0)/\((bp tr rt u).length<=4096/\dJ tr rt u<=200)/\oK tw tr t rt m v u (bp tr rt u) 0))))):=by
 obtain⟨c,d⟩:=HP dh cQ ht ag;have d1:tq ((⟨tw⟩:aT),t,m)=some (gI tw t m):=LK dh.gS t m;have d2:s3 ((⟨tw⟩:aT),t,m)=some (gI tw t m):=LL dh.gS t m;rcases N5 dh ht m with a|⟨v,a,F⟩
 . left;refine⟨a,?_,?_⟩
   . rw[pE,c];simp[I.aV,zeroV,mK,d1,a,ez]
   . rw[nA,d];simp[I.aV,zeroV,d2,a,ez]
 . right;refine⟨v,a,F,?_⟩;obtain⟨b,b1,b2,b3⟩:=aaV dh F.2.1 F.1;have s1:nl ((⟨tw⟩:aT),t,v)=_:=b2;have i:vq ((⟨tw⟩:aT),t,v)=_:=b3;cases b with
   |false=>
    left;refine⟨λh=>(by have:=b1.2 h;cases this),?_,?_⟩
    . rw[pE,c];simp[I.aV,zeroV,mK,d1,a,ez,s1]
    . rw[nA,d];simp[I.aV,zeroV,d2,a,ez,i]
   |true=>
    right;have k:=b1.1 rfl;refine⟨k,?_⟩;have l:=En F.2.1;have r:=gv (Nq F.2.1) F.2.2;have o:=hs v a k;have e:zn ((⟨tw⟩:aT),t,cO v,(⟨tr⟩:aT),rt)=_:=Y8 dh cQ l k o ag.1 ag.2;have f:yq ((⟨tw⟩:aT),t,cO v,(⟨tr⟩:aT),rt)=_:=Y9 dh cQ l r k o ag.1 ag.2;cases n:uK tw tr t (cO v) rt with
    |inr p=>
     left;rw[n]at e f;refine⟨⟨p,rfl⟩,?_,?_⟩
     . rw[pE,c];simp[I.aV,zeroV,mK,d1,a,ez,s1,e,lL]
     . rw[nA,d];simp[I.aV,zeroV,d2,a,ez,i,f,lL]
    |inl x=>
     right;rw[n]at e f;refine⟨⟨x,rfl⟩,?_⟩;have aM:lW ((⟨tw⟩:aT),t,v)=_:=Na dh F;have g:rG ((⟨tw⟩:aT),t,v)=_:=Nb dh F;rcases Ph tw t v with he|⟨he,af⟩
     . left;rw[he]at aM g;refine⟨he,?_,?_⟩
       . rw[pE,c];simp[I.aV,zeroV,mK,d1,a,ez,s1,e,lL,aM]
       . rw[nA,d];simp[I.aV,zeroV,d2,a,ez,i,f,lL,g]
     . right;rw[he]at aM g;refine⟨⟨he,af⟩,?_⟩;have d3:tq ((⟨tr⟩:aT),rt,bp tw t v)=some (gI tr rt (bp tw t v)):=LK cQ.gS rt _;have d4:s3 ((⟨tr⟩:aT),rt,bp tw t v)=some (gI tr rt (bp tw t v)):=LL cQ.gS rt _;rcases N5 cQ ag (bp tw t v)with j|⟨u,j,G⟩
       . left;rw[j]at d3 d4;refine⟨j,?_,?_⟩
         . rw[pE,c];simp[I.aV,zeroV,mK,d1,a,ez,s1,e,lL,aM,d3]
         . rw[nA,d];simp[I.aV,zeroV,d2,a,ez,i,f,lL,g,d4]
       . right;rw[j]at d3 d4;refine⟨u,j,G,?_⟩;have di:lW ((⟨tr⟩:aT),rt,u)=_:=Na cQ G;have hL:rG ((⟨tr⟩:aT),rt,u)=_:=Nb cQ G;rcases Ph tr rt u with dM|⟨dM,q⟩
         . left;rw[dM]at di hL;refine⟨dM,?_,?_⟩
           . rw[pE,c];simp[I.aV,zeroV,mK,d1,a,ez,s1,e,lL,aM,d3,di]
           . rw[nA,d];simp[I.aV,zeroV,d2,a,ez,i,f,lL,g,d4,hL]
         . right;rw[dM]at di hL;refine⟨dM,q,?_,?_⟩
           . rw[pE,c];simp[I.aV,zeroV,mK,d1,a,s1,e,lL,aM,d3,di]
           . rw[nA,d];simp[I.aV,zeroV,d2,a,i,f,lL,g,d4,hL]
end
structure sj (tw tr:List ai)(t:Int)(v:I):Prop where
 W:c8 tw
 R:c8 tr
 t1:0<=t/\t<tw.length
 t2:0<=t/\t<tr.length
 f:bY tw false t v
 o:bJ v
 w:wt v<=3000
theorem ahs{c:nI}(h:xl c.C):(∃w r m,yV c=some (w,r,m,false))\/∃tw tr t v,yV c=some (eo tw t,eo tr t,bp tw t v,true)/\sj tw tr t v:=by
 have d:∀{ts:List ai} {t:Int} {v:I},c8 ts->bJ v->wt v<=3000->bY ts false t v->i' ((⟨ts⟩:aT),t,v)=some (bp ts t v):=λH j k i=>D7 (H.V.hx H.T) j (by omega) _ i;rw[yV];rcases adj h with⟨w,r,t,v,e⟩|⟨tw,tr,t,v,⟨e,C⟩,w,e8,g,a⟩
 . rw[e];exact .inl ⟨_,_,_,rfl⟩
 . rw[e];simp only[aU,ao,db,bZ,b9];cases c.xo with
   |true=>
    obtain⟨b,b1,b2⟩:=Hp a;rw[ae rfl,e8];simp only[ao,I.aV];rw[b1];cases b with
    |false=>exact .inl ⟨_,_,_,rfl⟩
    |true=>
     right;refine⟨tw,tr,t,w,?_,C.W,C.R,⟨C.t0,C.t1⟩,⟨C.t0,C.t2⟩,g,a,b2 rfl⟩;simp[d C.W a (b2 rfl) g]
   |false=>
    obtain⟨b,b1,b2⟩:=Hp C.o;rw[bz];simp only[I.aV];rw[b1];cases b with
    |false=>exact .inl ⟨_,_,_,rfl⟩
    |true=>
     right;refine⟨tw,tr,t,v,?_,C.W,C.R,⟨C.t0,C.t1⟩,⟨C.t0,C.t2⟩,oC _ _ C.f,C.o,C.w⟩;simp[d C.W C.o C.w (oC _ _ C.f)]
theorem sj.back(C:sj tw tr t v):∀u,gI tw t (bp tw t v)=(u,0)->u=v:=λu h=>by
 rcases LJ tw t (bp tw t v)with⟨e,he,a⟩|⟨x,a,_,c,j⟩
 . rw[a]at h;exact absurd (ee Prod.snd h) he
 . rw[a]at h;have:x=u:=ee Prod.fst h;subst this;exact adq (C.W.V.hx C.W.T) C.o (gv c (by decide)) C.f j
theorem sj.z{tw tr:List ai}{t:Int}{v:I}(C:sj tw tr t v):∀u,gI tw t (bp tw t v)=(u,0)->bY tw true t (cO u)->gy tw 3000 t (cO u):=λu h a=>by
 have c:=gv (Nq C.o) C.w;rw[C.back u h]at a⊢;exact oz C.W 3000 (En C.o) a (.inr c) (.inr c)
theorem sj.some(C:sj tw tr t v):∃x u o e,oK tw tr t t (bp tw t v) x u o e/\(e=0->bJ x/\sn tr t u/\gI tr t o=(u,0)):=by
 rcases MX C.W C.R C.t1 C.t2 (m:=bp tw t v) C.z with⟨_,h⟩|⟨x,_,F,⟨_,h⟩|⟨_,⟨_,h⟩|⟨_,⟨_,h⟩|⟨_,⟨_,h⟩|⟨u,_,G,⟨_,h⟩|⟨_,⟨a,l2⟩,h⟩⟩⟩⟩⟩⟩
 . exact⟨_,_,_,_,h,by omega⟩
 . exact⟨_,_,_,_,h,by omega⟩
 . exact⟨_,_,_,_,h,by omega⟩
 . exact⟨_,_,_,_,h,by omega⟩
 . exact⟨_,_,_,_,h,by omega⟩
 . exact⟨_,_,_,_,h,by omega⟩
 . exact⟨_,_,_,_,h,λ_=>⟨F.2.1,G,adr C.R C.t2 G.2.1 G.1 a l2⟩⟩
theorem ads{c:nI}(h:∀d,d∈cR.o2 Gw c->WF cR d):xl c.C:=
 ahi λd a=>h d (by
  show d∈cR.o2 TZ c.C++[⟨.bool,c.xo⟩]
  exact B4 _ a)
end
end Go.Proofs.YtdjagncoefjfeaaGreat
